/- The walk of layer 20 (store): Encode$1, which puts numbers. -/
import Derived.Test.YtfpgbhimgfdddaaGreatDoorStgC
import Derived.Test.YtfpgbhimgfdddaaGreatDoorBuilder
set_option linter.unusedVariables false
set_option linter.unusedSimpArgs false
namespace Go.Proofs.YtfpgbhimgfdddaaGreatDoor
open Go.RowKit Go.Shelf Go.Sort
attribute [local go_sem ↓] Go.wp_at_zero Go.wp_at_succ
attribute [local go_sem] Later.cell Later.frozen

theorem i64_len (v : Int) : (intT v).length ≤ 11 := (uintT_len _).2
theorem i64s_len : ∀ l : List Int, (l.flatMap intT).length ≤ 11 * l.length
  | [] => by simp
  | v :: l => by
    have h1 := i64_len v
    have h2 := i64s_len l
    simp only [List.flatMap_cons, List.length_append, List.length_cons]
    omega
def intsV (vs : List Int) : Array Value := (vs.map (Value.int .i64)).toArray
theorem take_ints {vs : List Int} {i : Nat} (hi : i < vs.length) : (vs.take (i + 1)).flatMap intT = (vs.take i).flatMap intT ++ intT vs[i]! := by
  rw [List.take_succ_eq_append_getElem hi, List.flatMap_append, getElem!_pos vs i hi]
  simp
theorem Others.trans {b : Nat} {w w1 w2 : World} (h : Others b w w1) (h2 : Others b w1 w2) : Others b w w2 := fun g o hg hn hr => h2 g o (h g o hg hn hr) hn hr
theorem Others.of_below {b : Nat} {w w1 : World} (h : Below w.heap.size w w1) : Others b w w1 := fun g o hg _ _ => (h.block g (Array.getElem?_eq_some_iff.1 hg).1).trans hg
set_option maxRecDepth 100000 in
set_option maxHeartbeats 4000000 in
theorem put_calls (B b g : Nat) (l : List UInt8) (vs : List Int) (w : World) (hbld : Bld B b l w) (hg : Blk w g 2 (intsV vs)) (hgb : g ≠ b) (hvs : ∀ v ∈ vs, -9223372036854775808 ≤ v ∧ v ≤ 9223372036854775807)
    (hlen : l.length + 11 * vs.length ≤ 140737488355328) (hBw : B ≤ w.heap.size) :
    Calls Tryz.prog 46 #[.slice (some ⟨g, 0, none⟩) vs.length vs.length, .pointer (some ⟨b, 0, none⟩)] w fun e w' =>
      e = .returned (.tuple #[]) ∧ Bld B b (l ++ vs.flatMap intT) w' ∧ Below B w w' ∧ Others b w w' := by
  obtain ⟨n, hn⟩ : ∃ n, vs.length = n := ⟨_, rfl⟩
  have HN := Lib.hid hn
  rw [hn] at hlen ⊢
  have HG := Lib.hid hg
  have HV := Lib.hid hvs
  have HB := Lib.hid hbld
  have HGB := Lib.hid hgb
  clear hn hg hvs hbld hgb
  go_enter Tryz.func46, Tryz.ntmps46
  go_wp2_with fail
  go_loopg [7] n (fun k s7 wr => ∃ i : Nat, i + k = n ∧ s7 = .int .i64 (i : Int) ∧ Bld B b (l ++ (vs.take i).flatMap intT) wr ∧ Below B w wr ∧ Others b w wr)
  case atStart => exact ⟨0, by omega, rfl, by simpa using HB.out, Below.refl _ _, Others.of_below (Below.refl _ _)⟩
  case round =>
    obtain ⟨i, hig, rfl, hb, hbe, ho⟩ := hrel
    have HIG := Lib.hid hig
    have HBL := Lib.hid hb
    have HBE := Lib.hid hbe
    have HO := Lib.hid ho
    clear hig hb hbe ho
    by_cases hi : i < n
    · have el : decide ((i : Int) < (n : Int)) = true := by simp; omega
      have e0 : (i : Int) < (n : Int) := by omega
      have e1 : (0 : Int) ≤ (i : Int) := by omega
      have hil : i < vs.length := by rw [HN.out]; exact hi
      have hgr : Blk wr g 2 (intsV vs) := HO.out.blk HG.out HGB.out (by decide)
      have m0 : wr.cell? ⟨g, i, none⟩ = some (.int .i64 vs[i]!) := by
        rw [hgr.cell i]
        simp [intsV, hil]
      have hv := HV.out vs[i]! (by rw [getElem!_pos vs i hil]; exact List.getElem_mem hil)
      have HT := Lib.hid (take_ints hil)
      have hl1 := i64_len vs[i]!
      have hl2 := i64s_len (vs.take i)
      rw [List.length_take, HN.out] at hl2
      obtain ⟨v, hve⟩ : ∃ v, vs[i]! = v := ⟨_, rfl⟩
      rw [hve] at m0 hv hl1 HT
      clear hgr hve hil
      go_wp2_with fail
      refine (int_calls v hv.1 hv.2 wr).mono ?_
      rintro e w1 ⟨rfl, hb1⟩
      have HB1 := Lib.hid (HBL.out.below hb1)
      have HE1 := Lib.hid (HBE.out.trans (hb1.mono (by have := HBE.out.size; omega)))
      have HO1 := Lib.hid (HO.out.trans (Others.of_below hb1))
      clear hb1
      go_wp2_with fail
      refine (wstring_calls B b _ ⟨(intT v).toArray⟩ w1 HB1.out (by simp only [List.length_append]; show _ + (intT v).toArray.size ≤ _; simp only [List.size_toArray]; omega) (by have := HE1.out.size; omega)).mono ?_
      rintro e w2 ⟨rfl, hb2, hbe2, ho2⟩
      have HB2 := Lib.hid hb2
      have HE2 := Lib.hid (HE1.out.trans hbe2)
      have HO2 := Lib.hid (HO1.out.trans ho2)
      clear hb2 hbe2 ho2
      go_wp2_with fail
      go_roundg (gk - 1)
      case measure => have := HIG.out; omega
      case rel => exact ⟨i + 1, by have := HIG.out; omega, by go_num, by rw [HT.out, ← List.append_assoc]; exact HB2.out, HE2.out, HO2.out⟩
    · have el : decide ((i : Int) < (n : Int)) = false := by simp; omega
      have hi3 : i = n := by have := HIG.out; omega
      subst hi3
      go_wp2_with fail
      go_end0
      refine ⟨rfl, ?_, HBE.out, HO.out⟩
      have := HBL.out
      rwa [← HN.out, List.take_length] at this
end Go.Proofs.YtfpgbhimgfdddaaGreatDoor
