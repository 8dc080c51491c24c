/- The walk of the law WalKeeps (layer 16): what was taken and not dropped is told by every Open. -/
import Derived.Test.YtfpgbhimgfdddaaGreatDoorWax06
import Derived.Lib.IfaceNeq
set_option linter.unusedVariables false
set_option linter.unusedSimpArgs false
namespace Go.Proofs.YtfpgbhimgfdddaaGreatDoor
open Go.RowKit Go.Shelf Go.Sort
attribute [local go_sem ↓] Go.wp_at_zero Go.wp_at_succ
attribute [local go_sem] Later.cell Later.frozen

section
variable {B0 : Nat} {a : Nat → Addr}
set_option maxRecDepth 100000 in
set_option maxHeartbeats 8000000 in
theorem walkeeps_calls (size : Int) (A : Option Addr) (n c : Nat) (l : List OpW16) (hs1 : -9223372036854775808 ≤ size) (hs2 : size ≤ 9223372036854775807) (w : World) (hl : Elems w w.heap.size 3 encOpW A n l)
    (hi : ∀ o ∈ l, i64 o.kind ∧ i64 o.n) (hlen : ∀ o ∈ l, o.t.length ≤ 140737488355328) (hn : n ≤ 140737488355328) (hC : SCon B0 a) (hE : SEnv B0 a w) (h6 : Fail6 B0 a w) :
    Calls Tryz.prog 8 #[.int .i64 size, .slice A n c] w fun e w' => e = .returned (.bool true) ∧ Below w.heap.size w w' := by
  have HL := Lib.hid hl
  have HI := Lib.hid hi
  have HLEN := Lib.hid (⟨hlen, hn⟩ : _ ∧ _)
  have HC := Lib.hid hC
  have HE := Lib.hid hE
  have H6 := Lib.hid h6
  have HWK : Hid (∀ w', Below w.heap.size w w' → Calls Tryz.prog 31 #[] w' fun e w2 => e = .returned (.bool true) ∧ Below w'.heap.size w' w2) := Lib.hid fun w' h => wakes16_calls w' HC.out (HE.out.low HC.out h) (H6.out.below (h.mono HE.out.hb))
  have HWK0 := Lib.hid (HWK.out w (Below.refl _ _))
  clear hl hi hlen hn hC hE h6
  go_enter Tryz.func8, Tryz.ntmps8
  go_wp2_with fail
  refine HWK0.out.mono ?_
  rintro e w1 ⟨rfl, hb1⟩
  have HB1 := Lib.hid hb1
  have HSM := Lib.hid (small16_calls A n c l w1 ((Elems.below HL.out hb1).more hb1.size) HLEN.out.1 HLEN.out.2)
  clear hb1
  go_wp2_with fail
  by_cases hsum : opSum l ≤ 1048576
  · rw [decide_eq_true hsum] at HSM
    have HSUM := Lib.hid hsum
    clear hsum
    refine HSM.out.mono ?_
    rintro e w2 ⟨rfl, hb2⟩
    have HB2 := Lib.hid (HB1.out.trans (hb2.mono HB1.out.size))
    clear hb2
    have HNEW := Lib.hid (Dk.made (B0 := B0) 67108864 (by decide) (by decide) w2 (HE.out.low HC.out HB2.out).hb)
    go_wp2_with fail
    refine HNEW.out.mono ?_
    rintro e w3 ⟨p, R, rfl, hD3, hb3, hr3⟩
    have HB3 := Lib.hid (HB2.out.trans (hb3.mono HB2.out.size))
    have HD3 := Lib.hid hD3
    have HR3 := Lib.hid hr3
    clear hD3 hb3 hr3
    obtain ⟨z, hz⟩ : ∃ z : Int, 1 + max 0 size % 5000 = z := ⟨_, rfl⟩
    have hz1 : 1 ≤ z := by omega
    have hz2 : z ≤ 5000 := by omega
    have hw3 := HE.out.low HC.out HB3.out
    have h63 := H6.out.below (HB3.out.mono HE.out.hb)
    have hel3 : Elems w3 w3.heap.size 3 encOpW A n l := (Elems.below HL.out HB3.out).more HB3.out.size
    have hAz : ∀ x, A = some x → 0 < n → R x.block = 0 := fun x hx h0 => by
      obtain ⟨b, off, e, hb, _⟩ := HL.out.2 h0
      rw [e] at hx
      obtain rfl := Option.some.inj hx
      exact HR3.out _ (Nat.lt_of_lt_of_le hb HB2.out.size)
    have HPL := Lib.hid (play_calls p z A n c l w3 R HD3.out hz1 hz2 hel3 hAz HI.out HSUM.out HC.out hw3 h63)
    have HZ := Lib.hid (⟨hz1, hz2⟩ : _ ∧ _)
    clear hz1 hz2 hw3 h63 hel3 hAz
    go_wp2_with fail
    clear hz
    refine HPL.out.mono ?_
    rintro e w4 ⟨ao, cap, k, m, d, M, R4, g, rfl, hP⟩
    have HP := Lib.hid hP
    have hoff : d.off = false := by
      obtain ⟨lw, iw, Cw, hrw⟩ := hP.wl.rr
      exact hrw.w.off
    have hdo := hP.wl.wat.dk.off
    rw [hoff] at hdo
    have HDO := Lib.hid hdo
    clear hP hoff hdo
    go_wp2_with fail
    refine HDO.out.mono ?_
    rintro e w5 ⟨rfl, rfl⟩
    have HWL := Lib.hid HP.out.wl
    have HON := Lib.hid (wl_open g (by decide) HZ.out.1 w4 HWL.out.wat.dk HWL.out.ok HWL.out.rr HWL.out.cap HWL.out.us HWL.out.kb (by have := HP.out.mm; have := opSum_take l n; have := HSUM.out; omega) HC.out HWL.out.wat.en HWL.out.wat.f6)
    unfold wW at HON
    go_wp2_with fail
    refine HON.out.mono ?_
    rintro e w9 ⟨g9, X9, c9, R9, rfl, hx9, hg9, hxf9, hl9, ho9⟩
    have htl : m.texts.length = k.length := by rw [HP.out.kk, ← WM.kept_texts, List.length_map]
    have htx : m.texts = k.map (·.1) := by rw [HP.out.kk, ← WM.kept_texts]
    have hkm : k.length ≤ 1073741824 := by
      rw [← htl]
      have h3 := segs_count m.segs
      obtain ⟨lw, iw, Cw, hrw⟩ := HWL.out.rr
      have h4 := hrw.used2
      have h5 := HWL.out.us
      show (m.segs.flatMap (·.2)).length ≤ _
      omega
    rw [htl] at hx9 ⊢
    have hkr9 : KRow w9 w3.heap.size 2 ao k.length cap (k.flatMap encEnt) := HP.out.kr.keep ho9.size fun x hx h0 => ho9.block _ (HP.out.kr.lt x hx h0).2 (HP.out.kz x hx h0).1
    have HTX0 := Lib.hid (texts16_calls X9 ao k.length c9 cap m.texts k w9 hx9 (hkr9.elems rfl) htx hkm)
    have HFIN : Hid (Below w.heap.size w w9) := Lib.hid (HB3.out.trans ((HP.out.out.trans ho9).below HB3.out.size fun b hb => HR3.out b (Nat.lt_of_lt_of_le hb HB2.out.size)))
    clear hl9 hx9 hxf9 hg9 ho9 hkr9 htl htx hkm
    go_wp2_with fail
    refine HTX0.out.mono ?_
    rintro e w10 ⟨rfl, hb10⟩
    have HF10 := Lib.hid (HFIN.out.trans (hb10.mono HFIN.out.size))
    clear hb10
    go_wp2_with fail
    go_ret
    exact ⟨rfl, HF10.out⟩
  · rw [decide_eq_false hsum] at HSM
    clear hsum
    refine HSM.out.mono ?_
    rintro e w2 ⟨rfl, hb2⟩
    have HB2 := Lib.hid (HB1.out.trans (hb2.mono HB1.out.size))
    have HWK2 := Lib.hid (HWK.out w2 HB2.out)
    clear hb2
    go_wp2_with fail
    refine HWK2.out.mono ?_
    rintro e w3 ⟨rfl, hb3⟩
    have HB3 := Lib.hid (HB2.out.trans (hb3.mono HB2.out.size))
    clear hb3
    go_wp2_with fail
    go_ret
    exact ⟨rfl, HB3.out⟩
end
end Go.Proofs.YtfpgbhimgfdddaaGreatDoor
