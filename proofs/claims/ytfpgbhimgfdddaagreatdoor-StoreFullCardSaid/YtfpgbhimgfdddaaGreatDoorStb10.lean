/- Merged: DskWalksN, DskWalksO, DskWalksP, DskWalksQ. -/
import Derived.Test.YtfpgbhimgfdddaaGreatDoorStb09
set_option linter.unusedVariables false
set_option linter.unusedSimpArgs false
/-! ## DskWalksN -/
/- The walks of layer 3 (disk): file, All, Read. -/
namespace Go.Proofs.YtfpgbhimgfdddaaGreatDoor
open Go.RowKit Go.Shelf Go.Maps Go.Sort
attribute [local go_sem ↓] Go.wp_at_zero Go.wp_at_succ
attribute [local go_sem] Later.cell Later.frozen

section
variable {B0 : Nat} {a : Nat → Addr} {R : Nat → Nat} {A : Adr} {d : Ds} {w w' : World}
theorem findT_cases {l : List Th} (h : (l.map Th.path).Nodup) (s : Txt) : (isT l s = 0 ∧ findT l s = none) ∨ (isT l s = 1 ∧ ∃ x ∈ l, findT l s = some x ∧ x.dir = false ∧ x.path = s) ∨ (isT l s = 2 ∧ ∃ x ∈ l, findT l s = some x ∧ x.dir = true ∧ x.path = s) := by
  unfold isT
  cases hf : findT l s with
  | none => exact .inl ⟨rfl, rfl⟩
  | some x =>
    have h1 := List.find?_some hf
    have h2 := List.mem_of_find?_eq_some hf
    cases hd : x.dir with
    | false => exact .inr (.inl ⟨by simp [hd], x, h2, rfl, hd, by simpa using h1⟩)
    | true => exact .inr (.inr ⟨by simp [hd], x, h2, rfl, hd, by simpa using h1⟩)
def FileOut (a : Nat → Addr) (A : Adr) (r : Except Nat Nat) (op s : ByteArray) (w : World) (e : Ending) (w' : World) : Prop :=
  Below w.heap.size w w' ∧ match r with
    | .error k => k ≠ 0 ∧ ∃ v, e = .returned (.tuple #[.pointer none, v]) ∧ ErrV a w' op s k v
    | .ok i => e = .returned (.tuple #[fptr A.φ i, .nilIface])
set_option maxRecDepth 100000 in
set_option maxHeartbeats 4000000 in
theorem file_calls (op S : ByteArray) (w : World) (h : CD B0 w R A d) (hf : Fit d) (hS : S.size ≤ 1073741824) (hB : B0 ≤ w.heap.size) (hF : Fails B0 a w) :
    Calls Tryz.prog 67 #[.pointer (some ⟨A.p, 0, none⟩), .string op, .string S] w (FileOut a A (fileD d S.data.toList) op S w) := by
  obtain ⟨rn, hrn⟩ : ∃ r, pathB S.data.toList = r := ⟨_, rfl⟩
  have HNM := Lib.hid (path_calls S rn hrn hS w)
  have HRN := Lib.hid hrn
  obtain ⟨p, hp⟩ : ∃ p, A.p = p := ⟨_, rfl⟩
  have HP := Lib.hid hp
  rw [hp]
  obtain ⟨r, hr⟩ : ∃ r, fileD d S.data.toList = r := ⟨_, rfl⟩
  have HR := Lib.hid hr
  rw [hr]
  clear hrn hp hr
  go_enter Tryz.func67, Tryz.ntmps67
  go_wp2_with fail
  refine HNM.out.mono ?_
  rintro _ w2 ⟨rfl, hB2⟩
  have hcd2 := h.below hB2
  have hF2 : Fails B0 a w2 := hF.below (hB2.mono hB)
  have hoff : w2.cell? ⟨p, 6, none⟩ = some (.bool d.off) := by rw [← HP.out]; exact Blk.cell hcd2.blk 6
  obtain ⟨k, hk⟩ : ∃ k, readyR d.off rn = k := ⟨_, rfl⟩
  have HK := Lib.hid hk
  have HRD := Lib.hid (ready_calls (B0 := B0) (a := a) p d.off rn op S k hk w2 hoff hF2)
  clear hk
  go_wp2_with fail
  refine HRD.out.mono ?_
  rintro _ w3 ⟨v, rfl, hv3, hb3⟩
  have hB3 := then_ hB2 hb3
  have hcd3 := h.below hB3
  have hF3 := hF2.below (hb3.mono (by have := hB2.size; omega))
  clear hcd2 hF2 hoff hb3 HRD hB2
  cases k with
  | succ k =>
    have hr : r = .error (k + 1) := by
      have hk := HK.out
      unfold readyR at hk
      rw [← HR.out]
      unfold fileD
      rw [HRN.out, ← hk]
      cases ho : d.off with
      | true => simp
      | false =>
        rw [ho] at hk
        cases rn with
        | true => simp at hk
        | false => simp
    subst hr
    have hfin : FileOut a A (.error (k + 1)) op S w (.returned (.tuple #[.pointer none, v])) w3 := ⟨hB3, by omega, v, rfl, hv3⟩
    obtain ⟨q4, rfl, _⟩ := hv3
    have HFIN := Lib.hid hfin
    clear hfin hcd3 hF3 hB3
    go_wp2_with fail
    go_ret2
    exact HFIN.out
  | zero =>
    obtain rfl : v = .nilIface := hv3
    obtain ⟨ho, hn⟩ : d.off = false ∧ rn = true := by
      have hk := HK.out
      unfold readyR at hk
      cases ho : d.off with
      | true => rw [ho] at hk; simp at hk
      | false =>
        rw [ho] at hk
        cases rn with
        | true => exact ⟨rfl, rfl⟩
        | false => simp at hk
    have hr : r = fileT d.things S.data.toList := by
      rw [← HR.out]
      unfold fileD
      rw [ho, HRN.out, hn]
      simp
    have c0 : w3.cell? ⟨p, 0, none⟩ = some (.map (some A.md)) := by rw [← HP.out]; exact Blk.cell hcd3.blk 0
    have c1 : w3.cell? ⟨p, 1, none⟩ = some (.map (some A.mf)) := by rw [← HP.out]; exact Blk.cell hcd3.blk 1
    have f3 : _ = some (failV a 3) := (hF3 3 (by decide)).2
    have f4 : _ = some (failV a 4) := (hF3 4 (by decide)).2
    have hfl := fun k => fail_calls (a := a) op S k w3
    unfold failV at f3 f4 hfl
    simp only [failG] at f3 f4
    have HFL := Lib.hid hfl
    have hlz := hcd3.files.1.look Tryz.underlying9 Tryz.underlying120 (zeroFl w3) (s := S) (by unfold maxLen; omega)
    have hone := filF_one (φ := A.φ) hf.tw (x := S.data.toList)
    clear ho hn HK hfl
    rcases findT_cases hf.tw.nodup S.data.toList with ⟨h0, hx⟩ | ⟨h0, x, hxm, hx, hxd, hxp⟩ | ⟨h0, x, hxm, hx, hxd, hxp⟩
    · obtain rfl : r = .error 4 := by rw [hr]; unfold fileT; rw [hx]
      have hlk := look_dir hcd3 hf S hS 0 (by rw [h0]; rfl) ⟨w3, Below.refl _ _⟩
      have hn : filF A.φ d.things S.data.toList = none := by
        cases hv : filF A.φ d.things S.data.toList with
        | none => rfl
        | some v => have := hone.1 (by rw [hv]; rfl); omega
      rw [hn] at hlz
      simp only [Option.getD_none] at hlz
      clear hone hn h0 hx hr
      dsimp only at hlk
      go_wp2_with fail
      refine (HFL.out 3).mono ?_
      rintro e w5 ⟨v, rfl, hv5, hb5⟩
      have hfin : FileOut a A (.error 4) op S w (.returned (.tuple #[.pointer none, v])) w5 := ⟨then_ hB3 hb5, by omega, v, rfl, hv5⟩
      have HFIN := Lib.hid hfin
      clear hfin hv5
      go_wp2_with fail
      go_ret2
      exact HFIN.out
    · obtain rfl : r = .ok x.at_ := by rw [hr]; unfold fileT; rw [hx]; simp [hxd]
      have hlk := look_dir hcd3 hf S hS 0 (by rw [h0]; rfl) ⟨w3, Below.refl _ _⟩
      have hn : filF A.φ d.things S.data.toList = some (fptr A.φ x.at_) := (filF_iff hf.tw.nodup).2 ⟨x, hxm, hxd, hxp, rfl⟩
      rw [hn] at hlz
      simp only [Option.getD_some] at hlz
      have hfin : FileOut a A (.ok x.at_) op S w (.returned (.tuple #[fptr A.φ x.at_, .nilIface])) w3 := ⟨hB3, rfl⟩
      have HFIN := Lib.hid hfin
      unfold fptr at hlz HFIN
      clear hone hn h0 hx hfin hr
      dsimp only at hlk
      go_wp2_with fail
      go_ret2
      exact HFIN.out
    · obtain rfl : r = .error 3 := by rw [hr]; unfold fileT; rw [hx]; simp [hxd]
      have hlk := look_dir hcd3 hf S hS 1 (by rw [h0]; rfl) ⟨w3, Below.refl _ _⟩
      have hn : filF A.φ d.things S.data.toList = none := by
        cases hv : filF A.φ d.things S.data.toList with
        | none => rfl
        | some v => have := hone.1 (by rw [hv]; rfl); omega
      rw [hn] at hlz
      simp only [Option.getD_none] at hlz
      clear hone hn h0 hx hr
      dsimp only at hlk
      go_wp2_with fail
      refine (HFL.out 2).mono ?_
      rintro e w5 ⟨v, rfl, hv5, hb5⟩
      have hfin : FileOut a A (.error 3) op S w (.returned (.tuple #[.pointer none, v])) w5 := ⟨then_ hB3 hb5, by omega, v, rfl, hv5⟩
      have HFIN := Lib.hid hfin
      clear hfin hv5
      go_wp2_with fail
      go_ret2
      exact HFIN.out
end
end Go.Proofs.YtfpgbhimgfdddaaGreatDoor

/-! ## DskWalksO -/
/- The walks of layer 3 (disk): All, Sync, SyncNames. -/
namespace Go.Proofs.YtfpgbhimgfdddaaGreatDoor
open Go.RowKit Go.Shelf Go.Maps Go.Sort
attribute [local go_sem ↓] Go.wp_at_zero Go.wp_at_succ
attribute [local go_sem] Later.cell Later.frozen

section
variable {B0 : Nat} {a : Nat → Addr} {R : Nat → Nat} {A : Adr} {d : Ds} {w w' : World}
theorem fileD_ok {s : Txt} {i : Nat} (hf : Fit d) (h : fileD d s = .ok i) : i < d.files.length ∧ d.off = false ∧ ∃ x ∈ d.things, x.dir = false ∧ x.path = s ∧ x.at_ = i := by
  unfold fileD at h
  cases ho : d.off with
  | true => rw [ho] at h; simp at h
  | false =>
    rw [ho] at h
    simp only [Bool.false_eq_true, if_false] at h
    split at h
    · cases h
    · unfold fileT at h
      rcases findT_cases hf.tw.nodup s with ⟨h0, hx⟩ | ⟨h0, x, hxm, hx, hxd, hxp⟩ | ⟨h0, x, hxm, hx, hxd, hxp⟩
      · rw [hx] at h; cases h
      · rw [hx] at h
        simp only [hxd, Bool.false_eq_true, if_false] at h
        injection h with h
        exact ⟨h ▸ hf.tw.ats x hxm hxd, rfl, x, hxm, hxd, hxp, h⟩
      · rw [hx] at h
        simp only [hxd, if_true] at h
        cases h
theorem file_at (h : CD B0 w R A d) {i : Nat} (hi : i < d.files.length) : FileM w R i (A.φ[i]?.getD 0) (fAt d i) := by
  have hl := h.bytes.1
  have h1 : A.φ[i]? = some A.φ[i] := List.getElem?_eq_getElem (by omega)
  have h2 : d.files[i]? = some d.files[i] := List.getElem?_eq_getElem hi
  unfold fAt
  rw [h1, h2]
  exact h.bytes.2 i _ _ h1 h2

set_option maxHeartbeats 2000000 in
theorem all3_calls (S : ByteArray) (w : World) (h : CD B0 w R A d) (hf : Fit d) (hS : S.size ≤ 1073741824) (hB : B0 ≤ w.heap.size) (hF : Fails B0 a w) :
    Calls Tryz.prog 59 #[.pointer (some ⟨A.p, 0, none⟩), .string S] w fun e w' => ∃ v, e = .returned (.tuple #[txtV (allD d S.data.toList).1, v]) ∧ ErrV a w' ⟨#[114, 101, 97, 100]⟩ S (allD d S.data.toList).2 v ∧ Below w.heap.size w w' := by
  have HF := Lib.hid (file_calls (a := a) ⟨#[114, 101, 97, 100]⟩ S w h hf hS hB hF)
  obtain ⟨r, hr⟩ : ∃ r, fileD d S.data.toList = r := ⟨_, rfl⟩
  have HR := Lib.hid hr
  rw [hr] at HF
  obtain ⟨p, hp⟩ : ∃ p, A.p = p := ⟨_, rfl⟩
  rw [hp] at HF ⊢
  clear hr hp
  go_enter Tryz.func59, Tryz.ntmps59
  go_wp2_with fail
  refine HF.out.mono ?_
  rintro _ w1 ⟨hb1, hm⟩
  cases r with
  | error k =>
    obtain ⟨hk, v, rfl, hv⟩ := hm
    have e1 : allD d S.data.toList = ([], k) := by unfold allD; rw [HR.out]
    have HE := Lib.hid e1
    have HV := Lib.hid hv
    cases k with
    | zero => exact absurd rfl hk
    | succ k =>
      obtain ⟨q, rfl, _⟩ := hv
      clear e1
      go_wp2_with fail
      go_ret2
      exact ⟨_, by rw [HE.out]; rfl, by rw [HE.out]; exact HV.out, hb1⟩
  | ok i =>
    have hm' : _ = Ending.returned (.tuple #[fptr A.φ i, .nilIface]) := hm
    subst hm'
    obtain ⟨hi, _⟩ := fileD_ok hf HR.out
    obtain ⟨v, hblk, _⟩ := file_at (h.below hb1) hi
    have e1 : allD d S.data.toList = ((fAt d i).now, 0) := by unfold allD; rw [HR.out]
    have HE := Lib.hid e1
    obtain ⟨T, hT⟩ : ∃ T : ByteArray, (⟨(fAt d i).now.toArray⟩ : ByteArray) = T := ⟨_, rfl⟩
    have HT := Lib.hid hT
    have c0 : w1.cell? ⟨A.φ[i]?.getD 0, 0, none⟩ = some (.string T) := by rw [← hT]; exact hblk.cell 0
    unfold fptr
    obtain ⟨b, hb⟩ : ∃ b, A.φ[i]?.getD 0 = b := ⟨_, rfl⟩
    rw [hb] at c0 ⊢
    clear hblk e1 hT hb hi
    go_wp2_with fail
    go_ret2
    exact ⟨_, by rw [HE.out]; unfold txtV; rw [HT.out]; rfl, by rw [HE.out]; rfl, hb1⟩

set_option maxRecDepth 100000 in
set_option maxHeartbeats 4000000 in
theorem sync_calls (S : ByteArray) (w : World) (h : CD B0 w R A d) (hf : Fit d) (hS : S.size ≤ 1073741824) (hB : B0 ≤ w.heap.size) (hF : Fails B0 a w) :
    Calls Tryz.prog 91 #[.pointer (some ⟨A.p, 0, none⟩), .string S] w (NamesOut B0 a R A (syncD d S.data.toList) ⟨#[115, 121, 110, 99]⟩ S w) := by
  have HF := Lib.hid (file_calls (a := a) ⟨#[115, 121, 110, 99]⟩ S w h hf hS hB hF)
  obtain ⟨r, hr⟩ : ∃ r, fileD d S.data.toList = r := ⟨_, rfl⟩
  have HR := Lib.hid hr
  rw [hr] at HF
  obtain ⟨p, hp⟩ : ∃ p, A.p = p := ⟨_, rfl⟩
  have HP := Lib.hid hp
  rw [hp] at HF ⊢
  clear hr hp
  go_enter Tryz.func91, Tryz.ntmps91
  go_wp2_with fail
  refine HF.out.mono ?_
  rintro _ w1 ⟨hb1, hm⟩
  cases r with
  | error k =>
    obtain ⟨hk, v, rfl, hv⟩ := hm
    have hfin : NamesOut B0 a R A (syncD d S.data.toList) ⟨#[115, 121, 110, 99]⟩ S w (.returned v) w1 := by
      have e1 : syncD d S.data.toList = (k, d) := by unfold syncD; rw [HR.out]
      rw [e1]
      exact NamesOut.bad h hb1 hv
    have HFIN := Lib.hid hfin
    cases k with
    | zero => exact absurd rfl hk
    | succ k =>
      obtain ⟨q, rfl, _⟩ := hv
      clear hfin
      go_wp2_with fail
      go_ret
      exact HFIN.out
  | ok i =>
    have hm' : _ = Ending.returned (.tuple #[fptr A.φ i, .nilIface]) := hm
    subst hm'
    obtain ⟨hi, _⟩ := fileD_ok hf HR.out
    have hcd1 := h.below hb1
    have HST := Lib.hid (step_calls (a := a) ⟨#[115, 121, 110, 99]⟩ S w1 hcd1 hf.aw (by have := hb1.size; omega) (hF.below (hb1.mono hB)))
    rw [HP.out] at HST
    have hss := stepD_same d
    have HSS := Lib.hid hss
    obtain ⟨k, d1, hk⟩ : ∃ k d1, stepD d = (k, d1) := ⟨_, _, rfl⟩
    have HK := Lib.hid hk
    unfold fptr
    obtain ⟨b, hb⟩ : ∃ b, A.φ[i]?.getD 0 = b := ⟨_, rfl⟩
    have HBB := Lib.hid hb
    rw [hb]
    clear hss hk hb hcd1
    go_wp2_with fail
    refine HST.out.mono ?_
    rintro _ w2 ⟨v, rfl, hv2, hcd2, hO2, _⟩
    rw [HK.out] at hv2 hcd2
    cases k with
    | succ k =>
      have hfin : NamesOut B0 a R A (syncD d S.data.toList) ⟨#[115, 121, 110, 99]⟩ S w (.returned v) w2 := by
        have e1 : syncD d S.data.toList = (k + 1, d1) := by unfold syncD; rw [HR.out, HK.out]; simp
        rw [e1]
        exact ⟨v, R, A, rfl, hv2, hcd2, (Own.of_below hb1).trans hO2, rfl, rfl⟩
      have HFIN := Lib.hid hfin
      obtain ⟨q, rfl, _⟩ := hv2
      clear hfin hcd2 hO2
      go_wp2_with fail
      go_ret
      exact HFIN.out
    | zero =>
      obtain rfl : v = .nilIface := hv2
      have hss := HSS.out
      rw [HK.out] at hss
      have hi1 : i < d1.files.length := by rw [hss.2.2.2]; exact hi
      obtain ⟨u, hblk, hrb, hrow⟩ := file_at hcd2 hi1
      have efa : fAt d1 i = fAt d i := by unfold fAt; rw [hss.2.2.2]
      rw [efa] at hblk
      rw [HBB.out] at hblk hrb
      obtain ⟨T, hT⟩ : ∃ T : ByteArray, (⟨(fAt d i).now.toArray⟩ : ByteArray) = T := ⟨_, rfl⟩
      have hTv : txtV (fAt d i).now = .string T := by unfold txtV; rw [hT]
      have hblk2 : Blk ((w2.setCell ⟨b, 1, none⟩ (.string T)).setCell ⟨b, 2, none⟩ (.slice none 0 0)) b 143 #[txtV (fAt d i).now, txtV (fAt d i).now, .slice none 0 0] := by
        have := (hblk.set_ 1 (.string T)).set_ 2 (.slice none 0 0)
        rw [hTv] at this ⊢
        exact this
      have hcd3 : CD B0 ((w2.setCell ⟨b, 1, none⟩ (.string T)).setCell ⟨b, 2, none⟩ (.slice none 0 0)) R A (setF d1 i ⟨(fAt d i).now, (fAt d i).now, []⟩) := by
        refine CD.file_only hcd2 hi1 (fun k h0 h1 h2 => ⟨?_, rfl⟩) (fun k hk => by have := hcd2.inw k hk; simpa [World.setCell] using this) hcd2.low ?_
        · have hne : k ≠ b := by rintro rfl; exact h1 hrb
          exact (Below.heap_setCell _ _ _ k hne).trans (Below.heap_setCell _ _ _ k hne)
        · rw [HBB.out]
          exact ⟨.slice none 0 0, hblk2, hrb, RowIs.nil⟩
      have hO3 : Own R R w ((w2.setCell ⟨b, 1, none⟩ (.string T)).setCell ⟨b, 2, none⟩ (.slice none 0 0)) := ((Own.of_below hb1).trans hO2).trans ((Own.of_set _ (by omega)).trans (Own.of_set _ (by omega)))
      have hfin : NamesOut B0 a R A (syncD d S.data.toList) ⟨#[115, 121, 110, 99]⟩ S w (.returned .nilIface) ((w2.setCell ⟨b, 1, none⟩ (.string T)).setCell ⟨b, 2, none⟩ (.slice none 0 0)) := by
        have e1 : syncD d S.data.toList = (0, setF d1 i ⟨(fAt d i).now, (fAt d i).now, []⟩) := by unfold syncD; rw [HR.out, HK.out]; simp
        rw [e1]
        exact ⟨.nilIface, R, A, rfl, rfl, hcd3, hO3, rfl, rfl⟩
      have HFIN := Lib.hid hfin
      rw [hTv] at hblk
      have c0 : _ = some (Value.string T) := hblk.cell 0
      obtain ⟨X, hX⟩ : ∃ X : ByteArray, (⟨(fAt d i).safe.toArray⟩ : ByteArray) = X := ⟨_, rfl⟩
      have c1 : w2.cell? ⟨b, 1, none⟩ = some (.string X) := by rw [← hX]; exact hblk.cell 1
      obtain ⟨A4, c4, hu, _⟩ : ∃ A4 c4, u = .slice A4 (fAt d1 i).steps.length c4 ∧ True := by
        rcases hrow.1.2 with ⟨rfl, h0⟩ | ⟨g, cap, cur, rfl, _⟩
        · exact ⟨none, 0, by rw [h0], trivial⟩
        · exact ⟨_, cap, rfl, trivial⟩
      rw [hu] at hblk
      have c2 : _ = some (Value.slice A4 (fAt d1 i).steps.length c4) := hblk.cell 2
      have g1 := hblk.frozen 1
      have g2 := hblk.frozen 2
      obtain ⟨m, hm⟩ : ∃ m, (fAt d1 i).steps.length = m := ⟨_, rfl⟩
      rw [hm] at c2
      clear hfin hcd2 hO2 hcd3 hO3 hblk2 hblk hrow hu efa hT hTv hX hm hss
      go_wp2_with fail
      go_ret
      exact HFIN.out
end
end Go.Proofs.YtfpgbhimgfdddaaGreatDoor

/-! ## DskWalksP -/
/- The walks of layer 3 (disk): a step with a file's bytes; Cut. -/
namespace Go.Proofs.YtfpgbhimgfdddaaGreatDoor
open Go.RowKit Go.Shelf Go.Maps Go.Sort
attribute [local go_sem ↓] Go.wp_at_zero Go.wp_at_succ
attribute [local go_sem] Later.cell Later.frozen

section
variable {B0 : Nat} {a : Nat → Addr} {R : Nat → Nat} {A : Adr} {d : Ds} {w w' : World}
theorem info_change : (Tryz.prog.info? 151).map (fun i => (i.zero, i.size, i.bytes)) = some (some (.agg #[.string ⟨#[]⟩, .int .i64 0]), 2, 24) := by kernel_rfl
theorem CD.file_step (h : CD B0 w R A d) {i b : Nat} (hi : i < d.files.length) (hb : A.φ[i]?.getD 0 = b) {u v' : Value} {N : Txt} {c : Ch} {w3 : World} (hblk : Blk w b 143 #[txtV (fAt d i).now, txtV (fAt d i).safe, u]) (hrb : R b = 10 + 2 * i)
    (hrow : ∀ g, u.ownBlock = some g → R g = 11 + 2 * i) (hg : (w.setCell ⟨b, 0, none⟩ (txtV N)).grownBy w3 u.ownBlock) (hrow3 : w3.ownsRow 0 151 2 v' ((fAt d i).steps.length + 1) ((fAt d i).steps.flatMap encC ++ encC c))
    (hat : v'.ownBlock = u.ownBlock ∨ ∃ g, v'.ownBlock = some g ∧ w.heap.size ≤ g) (hB : B0 ≤ w.heap.size) :
    CD B0 (w3.setCell ⟨b, 2, none⟩ v') (rowR R v' (11 + 2 * i)) A (setF d i ⟨N, (fAt d i).safe, (fAt d i).steps ++ [c]⟩) ∧ Own R (rowR R v' (11 + 2 * i)) w (w3.setCell ⟨b, 2, none⟩ v') := by
  have hold : ∀ k, k < w.heap.size → rowR R v' (11 + 2 * i) k = R k := fun k hk => rowR_old hrow hat hk
  have hbl := hblk.lt
  have hs1 : (w.setCell ⟨b, 0, none⟩ (txtV N)).heap.size = w.heap.size := by simp [World.setCell]
  have hs3 : (w3.setCell ⟨b, 2, none⟩ v').heap.size = w3.heap.size := by simp [World.setCell]
  have hsz : w.heap.size ≤ w3.heap.size := by have := hg.size; omega
  have hbu : some b ≠ u.ownBlock := by
    intro e
    have := hrow _ e.symm
    omega
  have hbv : v'.ownBlock ≠ some b := by
    intro e
    rcases hat with h1 | ⟨g, h1, h2⟩
    · rw [h1] at e; exact hbu e.symm
    · rw [h1] at e; injection e with e; omega
  have key : ∀ k, k < w.heap.size → k ≠ b → u.ownBlock ≠ some k → (w3.setCell ⟨b, 2, none⟩ v').heap[k]? = w.heap[k]? := by
    intro k hk h1 h2
    exact ((Below.heap_setCell _ _ _ k h1).trans (hg.block k (by omega) (fun e => h2 e.symm))).trans (Below.heap_setCell _ _ _ k h1)
  have hblk3 : Blk (w3.setCell ⟨b, 2, none⟩ v') b 143 #[txtV N, txtV (fAt d i).safe, v'] := (((hblk.set_ 0 (txtV N)).grown hg hbu).set_ 2 v')
  have hrow4 := ownsRow_setCell_other hrow3 (a := ⟨b, 2, none⟩) hbv v'
  refine ⟨CD.file_only h hi (fun k h0 h1 h2 => ⟨key k (h.inw k h0) (fun e => h1 (e ▸ hrb)) (fun e => h2 (hrow k e)), hold k (h.inw k h0)⟩) ?_ ?_ ?_, ?_⟩
  · intro k hk
    rw [hs3]
    unfold rowR at hk
    split at hk
    · rename_i e; exact (hrow3.lt k e).2
    · exact Nat.lt_of_lt_of_le (h.inw k hk) hsz
  · intro k hk
    rw [hold k (by omega)]
    exact h.low k hk
  · rw [hb]
    refine ⟨v', hblk3, by rw [hold b hbl]; exact hrb, ?_, fun g hg' => by simp [rowR, hg']⟩
    rw [List.length_append, List.flatMap_append]
    simpa using hrow4
  · refine ⟨hg.os, hg.tape, hg.output, by rw [hs3]; exact hsz, fun k hk hr => key k hk (fun e => by rw [e] at hr; omega) (fun e => by have := hrow k e; omega), hold⟩

set_option maxRecDepth 100000 in
set_option maxHeartbeats 4000000 in
theorem cut_calls (S : ByteArray) (n : Int) (w : World) (h : CD B0 w R A d) (hf : Fit d) (hS : S.size ≤ 1073741824) (hB : B0 ≤ w.heap.size) (hF : Fails B0 a w) (hF6 : Fail6 B0 a w) (hn1 : -9223372036854775808 ≤ n) (hn2 : n ≤ 9223372036854775807) (hnl : ∀ i, (fAt d i).now.length ≤ 1073741824) (hsl : ∀ i, (fAt d i).steps.length ≤ 1073741824) :
    Calls Tryz.prog 128 #[.pointer (some ⟨A.p, 0, none⟩), .string S, .int .i64 n] w (NamesOut B0 a R A (cutD d S.data.toList n) ⟨#[99, 117, 116]⟩ S w) := by
  obtain ⟨i0, hi0, hz0, hz1, hz2⟩ := info_parts info_change
  have HF := Lib.hid (file_calls (a := a) ⟨#[99, 117, 116]⟩ S w h hf hS hB hF)
  obtain ⟨r, hr⟩ : ∃ r, fileD d S.data.toList = r := ⟨_, rfl⟩
  have HR := Lib.hid hr
  rw [hr] at HF
  obtain ⟨p, hp⟩ : ∃ p, A.p = p := ⟨_, rfl⟩
  have HP := Lib.hid hp
  have HNL := Lib.hid hnl
  have HSL := Lib.hid hsl
  rw [hp] at HF ⊢
  clear hr hp hnl hsl
  go_enter Tryz.func128, Tryz.ntmps128
  go_wp2_with fail
  refine HF.out.mono ?_
  rintro _ w1 ⟨hb1, hm⟩
  cases r with
  | error k =>
    obtain ⟨hk, v, rfl, hv⟩ := hm
    have hfin : NamesOut B0 a R A (cutD d S.data.toList n) ⟨#[99, 117, 116]⟩ S w (.returned v) w1 := by
      have e1 : cutD d S.data.toList n = (k, d) := by unfold cutD; rw [HR.out]
      rw [e1]
      exact NamesOut.bad h hb1 hv
    have HFIN := Lib.hid hfin
    cases k with
    | zero => exact absurd rfl hk
    | succ k =>
      obtain ⟨q, rfl, _⟩ := hv
      clear hfin
      go_wp2_with fail
      go_ret
      exact HFIN.out
  | ok i =>
    have hm' : _ = Ending.returned (.tuple #[fptr A.φ i, .nilIface]) := hm
    subst hm'
    obtain ⟨hi, _⟩ := fileD_ok hf HR.out
    have hcd1 := h.below hb1
    have hF1 := hF.below (hb1.mono hB)
    obtain ⟨u1, hblk1, _⟩ := file_at hcd1 hi
    unfold fptr
    obtain ⟨b, hb⟩ : ∃ b, A.φ[i]?.getD 0 = b := ⟨_, rfl⟩
    have HBB := Lib.hid hb
    rw [hb] at hblk1 ⊢
    obtain ⟨T, hT⟩ : ∃ T : ByteArray, (⟨(fAt d i).now.toArray⟩ : ByteArray) = T := ⟨_, rfl⟩
    have hTT : T.data.toList = (fAt d i).now := by rw [← hT]
    have hTs : (fAt d i).now.length = T.size := by rw [← hTT]; exact text_size3 T
    have hTz : T.size ≤ 1073741824 := by rw [← hTs]; exact HNL.out i
    have c0 : w1.cell? ⟨b, 0, none⟩ = some (.string T) := by rw [← hT]; exact hblk1.cell 0
    have HT := Lib.hid hT
    have HTT := Lib.hid hTT
    have HTS := Lib.hid hTs
    clear hb hblk1 hT hTT hTs
    by_cases hbad : n < 0 ∨ (T.size : Int) < n
    · have e1 : cutD d S.data.toList n = (6, d) := by unfold cutD; rw [HR.out]; simp only []; rw [if_pos (by rw [HTS.out]; exact hbad)]
      have HE := Lib.hid e1
      have f6 : _ = some (failV a 6) := (hF6.below (hb1.mono hB)).2
      have hfl := fail_calls (a := a) ⟨#[99, 117, 116]⟩ S 5 w1
      unfold failV at f6 hfl
      simp only [failG] at f6
      have HFL := Lib.hid hfl
      clear e1 hfl hcd1 hF1
      by_cases hneg : n < 0
      · have d1 : decide (n < 0) = true := by simpa using hneg
        go_wp2_with fail
        refine HFL.out.mono ?_
        rintro e w5 ⟨v, rfl, hv5, hb5⟩
        have HFIN := Lib.hid (show NamesOut B0 a R A (cutD d S.data.toList n) ⟨#[99, 117, 116]⟩ S w (.returned v) w5 by rw [HE.out]; exact NamesOut.bad h (then_ hb1 hb5) hv5)
        clear hv5
        go_wp2_with fail
        go_ret
        exact HFIN.out
      · have d1 : decide (n < 0) = false := by simp; omega
        have d2 : decide ((T.size : Int) < n) = true := by simp; omega
        go_wp2_with fail
        refine HFL.out.mono ?_
        rintro e w5 ⟨v, rfl, hv5, hb5⟩
        have HFIN := Lib.hid (show NamesOut B0 a R A (cutD d S.data.toList n) ⟨#[99, 117, 116]⟩ S w (.returned v) w5 by rw [HE.out]; exact NamesOut.bad h (then_ hb1 hb5) hv5)
        clear hv5
        go_wp2_with fail
        go_ret
        exact HFIN.out
    · obtain ⟨m, rfl⟩ : ∃ m : Nat, n = (m : Int) := ⟨n.toNat, by omega⟩
      have d1 : decide ((m : Int) < 0) = false := by simp
      have d2 : decide ((T.size : Int) < (m : Int)) = false := by simp; omega
      have d2' : decide (T.size < m) = false := by simp; omega
      have hmT : m ≤ T.size := by omega
      have HST := Lib.hid (step_calls (a := a) ⟨#[99, 117, 116]⟩ S w1 hcd1 hf.aw (by have := hb1.size; omega) hF1)
      rw [HP.out] at HST
      have HSS := Lib.hid (stepD_same d)
      obtain ⟨k, dd, hk⟩ : ∃ k d1, stepD d = (k, d1) := ⟨_, _, rfl⟩
      have HK := Lib.hid hk
      have hcut : cutD d S.data.toList (m : Int) = if (stepD d).1 ≠ 0 then stepD d else (0, setF (stepD d).2 i { fAt d i with now := (fAt d i).now.take m, steps := (fAt d i).steps ++ [⟨[], true, m⟩] }) := by
        unfold cutD; rw [HR.out]; simp only []; rw [if_neg (by rw [HTS.out]; exact hbad)]; rfl
      have HCUT := Lib.hid hcut
      clear hk hcd1 hF1 hcut hbad
      go_wp2_with fail
      refine HST.out.mono ?_
      rintro _ w2 ⟨v, rfl, hv2, hcd2, hO2, _⟩
      rw [HK.out] at hv2 hcd2
      cases k with
      | succ k =>
        have hfin : NamesOut B0 a R A (cutD d S.data.toList (m : Int)) ⟨#[99, 117, 116]⟩ S w (.returned v) w2 := by
          rw [HCUT.out, HK.out]
          exact ⟨v, R, A, rfl, hv2, hcd2, (Own.of_below hb1).trans hO2, rfl, rfl⟩
        have HFIN := Lib.hid hfin
        obtain ⟨q, rfl, _⟩ := hv2
        clear hfin hcd2 hO2 c0
        go_wp2_with fail
        go_ret
        exact HFIN.out
      | zero =>
        obtain rfl : v = .nilIface := hv2
        have hss := HSS.out
        rw [HK.out] at hss
        have hi1 : i < dd.files.length := by rw [hss.2.2.2]; exact hi
        obtain ⟨u, hblk, hrb, hrow⟩ := file_at hcd2 hi1
        have efa : fAt dd i = fAt d i := by unfold fAt; rw [hss.2.2.2]
        rw [HBB.out] at hblk hrb
        have hTv : txtV (fAt dd i).now = .string T := by rw [efa]; unfold txtV; rw [HT.out]
        obtain ⟨l, hl⟩ : ∃ l, (fAt dd i).steps.length = l := ⟨_, rfl⟩
        have hrow' := hrow.1
        rw [hl] at hrow'
        have hll : l ≤ 1073741824 := by rw [← hl, efa]; exact HSL.out i
        obtain ⟨A4, c4, hu⟩ : ∃ A4 c4, u = .slice A4 l c4 := by
          rcases hrow'.2 with ⟨rfl, h0⟩ | ⟨g, cap, cur, rfl, _⟩
          · exact ⟨none, 0, by rw [h0]⟩
          · exact ⟨_, cap, rfl⟩
        subst hu
        have c0' : w2.cell? ⟨b, 0, none⟩ = some (.string T) := by rw [← hTv]; exact hblk.cell 0
        have c2' : w2.cell? ⟨b, 2, none⟩ = some (.slice A4 l c4) := hblk.cell 2
        have g0 := hblk.frozen 0
        have hNv : txtV ((fAt d i).now.take m) = .string (T.extract 0 m) := by unfold txtV; rw [← HTT.out, ← take_bytes]
        have HNV := Lib.hid hNv
        have HBLK := Lib.hid hblk
        have HCD2 := Lib.hid hcd2
        have HO2 := Lib.hid hO2
        have HROW := Lib.hid hrow.2
        have HL := Lib.hid hl
        have HEF := Lib.hid efa
        have hbl2 := hblk.lt
        clear hcd2 hO2 hTv hNv hblk hss hl efa c0 hrow
        go_upto_region 10 with fail
        have hrow2 : (w2.setCell ⟨b, 0, none⟩ (.string (T.extract 0 m))).ownsRow 0 151 2 (.slice A4 l c4) l ((fAt dd i).steps.flatMap encC) := ownsRow_setCell_other hrow' (a := ⟨b, 0, none⟩) (fun e => by have := HROW.out b e; omega) _
        have c2'' : (w2.setCell ⟨b, 0, none⟩ (.string (T.extract 0 m))).cell? ⟨b, 2, none⟩ = some (.slice A4 l c4) := (HBLK.out.set_ 0 _).cell 2
        have hblk5 := HBLK.out.set_ 0 (.string (T.extract 0 m))
        obtain ⟨w5, hw5⟩ : ∃ x, w2.setCell ⟨b, 0, none⟩ (.string (T.extract 0 m)) = x := ⟨_, rfl⟩
        have HW5 := Lib.hid hw5
        rw [hw5] at hrow2 c2'' hblk5 ⊢
        clear hw5 c0' c2' g0 hrow'
        go_wp2_with (at_builtin; refine wpList_append_own_at _ rfl _ _ 141 rfl 0 151 i0 (.agg #[.string ⟨#[]⟩, .int .i64 0]) 2 24 Tryz.underlying141 hi0 hz0 hz1 hz2 rfl (by decide) _ _ _ rfl (hrow2.alloc _) ⟨w5.heap.size, 0, none⟩ 1 1 [.string ⟨#[]⟩, .int .i64 (m : Int)] rfl rfl ?p1 ?p2 ?p3 ?p4 ?p5 ?_)
        case p1 => exact news_of_blk (l := [.string ⟨#[]⟩, .int .i64 (m : Int)]) (Blk.new w5 _ _)
        case p2 => intro u hu; simp at hu; rcases hu with rfl | rfl <;> rfl
        case p3 => unfold maxLen; omega
        case p4 => omega
        case p5 => exact Nat.zero_le _
        intro v' w6 hown' hgrow _ hat
        have hall : w5.grownBy w6 (Value.slice A4 l c4).ownBlock := (World.grownBy_alloc w5 _ _).trans hgrow
        have hsz5 : w5.heap.size = w2.heap.size := by rw [← HW5.out]; simp [World.setCell]
        obtain ⟨A6, c6, rfl⟩ : ∃ A6 c6, v' = .slice A6 (l + 1) c6 := by
          rcases hown'.2 with ⟨rfl, h0⟩ | ⟨g, cap, cur, rfl, _⟩
          · omega
          · exact ⟨_, cap, rfl⟩
        have hat' : (Value.slice A6 (l + 1) c6).ownBlock = (Value.slice A4 l c4).ownBlock ∨ ∃ g, (Value.slice A6 (l + 1) c6).ownBlock = some g ∧ w2.heap.size ≤ g := by
          rcases hat with h1 | h1
          · exact .inl h1
          · exact .inr ⟨_, h1, by omega⟩
        have hmore := CD.file_step HCD2.out hi1 HBB.out (u := .slice A4 l c4) (v' := .slice A6 (l + 1) c6) (N := (fAt d i).now.take m) (c := ⟨[], true, m⟩) (w3 := w6) HBLK.out hrb HROW.out (by rw [HNV.out, HW5.out]; exact hall) (by rw [HL.out]; exact hown') hat' (by have := HCD2.out.low; have := hb1.size; have := HO2.out.size; omega)
        obtain ⟨hc7, ho7⟩ := hmore
        have hbu : some b ≠ (Value.slice A4 l c4).ownBlock := by
          intro e
          have := HROW.out _ e.symm
          omega
        have hblk6 := hblk5.grown hall hbu
        have k2 : w6.cell? ⟨b, 2, none⟩ = some (.slice A4 l c4) := hblk6.cell 2
        have g2 := hblk6.frozen 2
        have hfin : NamesOut B0 a R A (cutD d S.data.toList (m : Int)) ⟨#[99, 117, 116]⟩ S w (.returned .nilIface) (w6.setCell ⟨b, 2, none⟩ (.slice A6 (l + 1) c6)) := by
          rw [HCUT.out, HK.out]
          rw [HEF.out] at hc7
          exact ⟨.nilIface, _, A, rfl, rfl, hc7, ((Own.of_below hb1).trans HO2.out).trans ho7, rfl, rfl⟩
        have HFIN := Lib.hid hfin
        clear hfin hc7 ho7 hat hat' hall hgrow hown' hblk6 hblk5 hrow2 c2'' hsz5
        go_wp2_with fail
        go_ret
        exact HFIN.out
end
end Go.Proofs.YtfpgbhimgfdddaaGreatDoor

/-! ## DskWalksQ -/
/- The walks of layer 3 (disk): Read. -/
namespace Go.Proofs.YtfpgbhimgfdddaaGreatDoor
open Go.RowKit Go.Shelf Go.Maps Go.Sort
attribute [local go_sem ↓] Go.wp_at_zero Go.wp_at_succ
attribute [local go_sem] Later.cell Later.frozen

section
variable {B0 : Nat} {a : Nat → Addr} {R : Nat → Nat} {A : Adr} {d : Ds} {w w' : World}
theorem mid_bytes (s : ByteArray) (k n : Nat) : (s.extract k (k + n)).data.toList = (s.data.toList.drop k).take n := by
  have h : (s.extract k (k + n)).data = s.data.extract k (k + n) := by simp
  rw [h]
  simp [List.take_drop]
def ReadOut (a : Nat → Addr) (r : Txt × Nat) (op s : ByteArray) (w : World) (e : Ending) (w' : World) : Prop :=
  ∃ v, e = .returned (.tuple #[txtV r.1, v]) ∧ ErrV a w' op s r.2 v ∧ Below w.heap.size w w'

end
end Go.Proofs.YtfpgbhimgfdddaaGreatDoor
