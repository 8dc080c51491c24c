/- Merged (what the claim wants of): DskWalksN, DskWalksO, DskWalksP, DskWalksQ, DskWalksR, DskWalksS. -/
import Derived.Test.YtfpgbhimgfdddaaGreatDoorStk10
set_option linter.unusedVariables false
set_option linter.unusedSimpArgs false
/- The walks of layer 3 (disk): file, All, Read. -/
namespace Go.Proofs.YtfpgbhimgfdddaaGreatDoor
open Go.RowKit Go.Shelf Go.Maps Go.Sort
attribute [local go_sem ↓] Go.wp_at_zero Go.wp_at_succ
attribute [local go_sem] Later.cell Later.frozen

section
variable {B0 : Nat} {a : Nat → Addr} {R : Nat → Nat} {A : Adr} {d : Ds} {w w' : World}
theorem findT_cases {l : List Th} (h : (l.map Th.path).Nodup) (s : Txt) : (isT l s = 0 ∧ findT l s = none) ∨ (isT l s = 1 ∧ ∃ x ∈ l, findT l s = some x ∧ x.dir = false ∧ x.path = s) ∨ (isT l s = 2 ∧ ∃ x ∈ l, findT l s = some x ∧ x.dir = true ∧ x.path = s) := by
  unfold isT
  cases hf : findT l s with
  | none => exact .inl ⟨rfl, rfl⟩
  | some x =>
    have h1 := List.find?_some hf
    have h2 := List.mem_of_find?_eq_some hf
    cases hd : x.dir with
    | false => exact .inr (.inl ⟨by simp [hd], x, h2, rfl, hd, by simpa using h1⟩)
    | true => exact .inr (.inr ⟨by simp [hd], x, h2, rfl, hd, by simpa using h1⟩)
def FileOut (a : Nat → Addr) (A : Adr) (r : Except Nat Nat) (op s : ByteArray) (w : World) (e : Ending) (w' : World) : Prop :=
  Below w.heap.size w w' ∧ match r with
    | .error k => k ≠ 0 ∧ ∃ v, e = .returned (.tuple #[.pointer none, v]) ∧ ErrV a w' op s k v
    | .ok i => e = .returned (.tuple #[fptr A.φ i, .nilIface])
set_option maxRecDepth 100000 in
set_option maxHeartbeats 4000000 in
theorem file_calls (op S : ByteArray) (w : World) (h : CD B0 w R A d) (hf : Fit d) (hS : S.size ≤ 1073741824) (hB : B0 ≤ w.heap.size) (hF : Fails B0 a w) :
    Calls Tryz.prog 67 #[.pointer (some ⟨A.p, 0, none⟩), .string op, .string S] w (FileOut a A (fileD d S.data.toList) op S w) := by
  obtain ⟨rn, hrn⟩ : ∃ r, pathB S.data.toList = r := ⟨_, rfl⟩
  have HNM := Lib.hid (path_calls S rn hrn hS w)
  have HRN := Lib.hid hrn
  obtain ⟨p, hp⟩ : ∃ p, A.p = p := ⟨_, rfl⟩
  have HP := Lib.hid hp
  rw [hp]
  obtain ⟨r, hr⟩ : ∃ r, fileD d S.data.toList = r := ⟨_, rfl⟩
  have HR := Lib.hid hr
  rw [hr]
  clear hrn hp hr
  go_enter Tryz.func67, Tryz.ntmps67
  go_wp2_with fail
  refine HNM.out.mono ?_
  rintro _ w2 ⟨rfl, hB2⟩
  have hcd2 := h.below hB2
  have hF2 : Fails B0 a w2 := hF.below (hB2.mono hB)
  have hoff : w2.cell? ⟨p, 6, none⟩ = some (.bool d.off) := by rw [← HP.out]; exact Blk.cell hcd2.blk 6
  obtain ⟨k, hk⟩ : ∃ k, readyR d.off rn = k := ⟨_, rfl⟩
  have HK := Lib.hid hk
  have HRD := Lib.hid (ready_calls (B0 := B0) (a := a) p d.off rn op S k hk w2 hoff hF2)
  clear hk
  go_wp2_with fail
  refine HRD.out.mono ?_
  rintro _ w3 ⟨v, rfl, hv3, hb3⟩
  have hB3 := then_ hB2 hb3
  have hcd3 := h.below hB3
  have hF3 := hF2.below (hb3.mono (by have := hB2.size; omega))
  clear hcd2 hF2 hoff hb3 HRD hB2
  cases k with
  | succ k =>
    have hr : r = .error (k + 1) := by
      have hk := HK.out
      unfold readyR at hk
      rw [← HR.out]
      unfold fileD
      rw [HRN.out, ← hk]
      cases ho : d.off with
      | true => simp
      | false =>
        rw [ho] at hk
        cases rn with
        | true => simp at hk
        | false => simp
    subst hr
    have hfin : FileOut a A (.error (k + 1)) op S w (.returned (.tuple #[.pointer none, v])) w3 := ⟨hB3, by omega, v, rfl, hv3⟩
    obtain ⟨q4, rfl, _⟩ := hv3
    have HFIN := Lib.hid hfin
    clear hfin hcd3 hF3 hB3
    go_wp2_with fail
    go_ret2
    exact HFIN.out
  | zero =>
    obtain rfl : v = .nilIface := hv3
    obtain ⟨ho, hn⟩ : d.off = false ∧ rn = true := by
      have hk := HK.out
      unfold readyR at hk
      cases ho : d.off with
      | true => rw [ho] at hk; simp at hk
      | false =>
        rw [ho] at hk
        cases rn with
        | true => exact ⟨rfl, rfl⟩
        | false => simp at hk
    have hr : r = fileT d.things S.data.toList := by
      rw [← HR.out]
      unfold fileD
      rw [ho, HRN.out, hn]
      simp
    have c0 : w3.cell? ⟨p, 0, none⟩ = some (.map (some A.md)) := by rw [← HP.out]; exact Blk.cell hcd3.blk 0
    have c1 : w3.cell? ⟨p, 1, none⟩ = some (.map (some A.mf)) := by rw [← HP.out]; exact Blk.cell hcd3.blk 1
    have f3 : _ = some (failV a 3) := (hF3 3 (by decide)).2
    have f4 : _ = some (failV a 4) := (hF3 4 (by decide)).2
    have hfl := fun k => fail_calls (a := a) op S k w3
    unfold failV at f3 f4 hfl
    simp only [failG] at f3 f4
    have HFL := Lib.hid hfl
    have hlz := hcd3.files.1.look Tryz.underlying9 Tryz.underlying120 (zeroFl w3) (s := S) (by unfold maxLen; omega)
    have hone := filF_one (φ := A.φ) hf.tw (x := S.data.toList)
    clear ho hn HK hfl
    rcases findT_cases hf.tw.nodup S.data.toList with ⟨h0, hx⟩ | ⟨h0, x, hxm, hx, hxd, hxp⟩ | ⟨h0, x, hxm, hx, hxd, hxp⟩
    · obtain rfl : r = .error 4 := by rw [hr]; unfold fileT; rw [hx]
      have hlk := look_dir hcd3 hf S hS 0 (by rw [h0]; rfl) ⟨w3, Below.refl _ _⟩
      have hn : filF A.φ d.things S.data.toList = none := by
        cases hv : filF A.φ d.things S.data.toList with
        | none => rfl
        | some v => have := hone.1 (by rw [hv]; rfl); omega
      rw [hn] at hlz
      simp only [Option.getD_none] at hlz
      clear hone hn h0 hx hr
      dsimp only at hlk
      go_wp2_with fail
      refine (HFL.out 3).mono ?_
      rintro e w5 ⟨v, rfl, hv5, hb5⟩
      have hfin : FileOut a A (.error 4) op S w (.returned (.tuple #[.pointer none, v])) w5 := ⟨then_ hB3 hb5, by omega, v, rfl, hv5⟩
      have HFIN := Lib.hid hfin
      clear hfin hv5
      go_wp2_with fail
      go_ret2
      exact HFIN.out
    · obtain rfl : r = .ok x.at_ := by rw [hr]; unfold fileT; rw [hx]; simp [hxd]
      have hlk := look_dir hcd3 hf S hS 0 (by rw [h0]; rfl) ⟨w3, Below.refl _ _⟩
      have hn : filF A.φ d.things S.data.toList = some (fptr A.φ x.at_) := (filF_iff hf.tw.nodup).2 ⟨x, hxm, hxd, hxp, rfl⟩
      rw [hn] at hlz
      simp only [Option.getD_some] at hlz
      have hfin : FileOut a A (.ok x.at_) op S w (.returned (.tuple #[fptr A.φ x.at_, .nilIface])) w3 := ⟨hB3, rfl⟩
      have HFIN := Lib.hid hfin
      unfold fptr at hlz HFIN
      clear hone hn h0 hx hfin hr
      dsimp only at hlk
      go_wp2_with fail
      go_ret2
      exact HFIN.out
    · obtain rfl : r = .error 3 := by rw [hr]; unfold fileT; rw [hx]; simp [hxd]
      have hlk := look_dir hcd3 hf S hS 1 (by rw [h0]; rfl) ⟨w3, Below.refl _ _⟩
      have hn : filF A.φ d.things S.data.toList = none := by
        cases hv : filF A.φ d.things S.data.toList with
        | none => rfl
        | some v => have := hone.1 (by rw [hv]; rfl); omega
      rw [hn] at hlz
      simp only [Option.getD_none] at hlz
      clear hone hn h0 hx hr
      dsimp only at hlk
      go_wp2_with fail
      refine (HFL.out 2).mono ?_
      rintro e w5 ⟨v, rfl, hv5, hb5⟩
      have hfin : FileOut a A (.error 3) op S w (.returned (.tuple #[.pointer none, v])) w5 := ⟨then_ hB3 hb5, by omega, v, rfl, hv5⟩
      have HFIN := Lib.hid hfin
      clear hfin hv5
      go_wp2_with fail
      go_ret2
      exact HFIN.out
end
end Go.Proofs.YtfpgbhimgfdddaaGreatDoor

/- The walks of layer 3 (disk): All, Sync, SyncNames. -/
namespace Go.Proofs.YtfpgbhimgfdddaaGreatDoor
open Go.RowKit Go.Shelf Go.Maps Go.Sort
attribute [local go_sem ↓] Go.wp_at_zero Go.wp_at_succ
attribute [local go_sem] Later.cell Later.frozen

section
variable {B0 : Nat} {a : Nat → Addr} {R : Nat → Nat} {A : Adr} {d : Ds} {w w' : World}
theorem fileD_ok {s : Txt} {i : Nat} (hf : Fit d) (h : fileD d s = .ok i) : i < d.files.length ∧ d.off = false ∧ ∃ x ∈ d.things, x.dir = false ∧ x.path = s ∧ x.at_ = i := by
  unfold fileD at h
  cases ho : d.off with
  | true => rw [ho] at h; simp at h
  | false =>
    rw [ho] at h
    simp only [Bool.false_eq_true, if_false] at h
    split at h
    · cases h
    · unfold fileT at h
      rcases findT_cases hf.tw.nodup s with ⟨h0, hx⟩ | ⟨h0, x, hxm, hx, hxd, hxp⟩ | ⟨h0, x, hxm, hx, hxd, hxp⟩
      · rw [hx] at h; cases h
      · rw [hx] at h
        simp only [hxd, Bool.false_eq_true, if_false] at h
        injection h with h
        exact ⟨h ▸ hf.tw.ats x hxm hxd, rfl, x, hxm, hxd, hxp, h⟩
      · rw [hx] at h
        simp only [hxd, if_true] at h
        cases h
theorem file_at (h : CD B0 w R A d) {i : Nat} (hi : i < d.files.length) : FileM w R i (A.φ[i]?.getD 0) (fAt d i) := by
  have hl := h.bytes.1
  have h1 : A.φ[i]? = some A.φ[i] := List.getElem?_eq_getElem (by omega)
  have h2 : d.files[i]? = some d.files[i] := List.getElem?_eq_getElem hi
  unfold fAt
  rw [h1, h2]
  exact h.bytes.2 i _ _ h1 h2

set_option maxHeartbeats 2000000 in
theorem all3_calls (S : ByteArray) (w : World) (h : CD B0 w R A d) (hf : Fit d) (hS : S.size ≤ 1073741824) (hB : B0 ≤ w.heap.size) (hF : Fails B0 a w) :
    Calls Tryz.prog 59 #[.pointer (some ⟨A.p, 0, none⟩), .string S] w fun e w' => ∃ v, e = .returned (.tuple #[txtV (allD d S.data.toList).1, v]) ∧ ErrV a w' ⟨#[114, 101, 97, 100]⟩ S (allD d S.data.toList).2 v ∧ Below w.heap.size w w' := by
  have HF := Lib.hid (file_calls (a := a) ⟨#[114, 101, 97, 100]⟩ S w h hf hS hB hF)
  obtain ⟨r, hr⟩ : ∃ r, fileD d S.data.toList = r := ⟨_, rfl⟩
  have HR := Lib.hid hr
  rw [hr] at HF
  obtain ⟨p, hp⟩ : ∃ p, A.p = p := ⟨_, rfl⟩
  rw [hp] at HF ⊢
  clear hr hp
  go_enter Tryz.func59, Tryz.ntmps59
  go_wp2_with fail
  refine HF.out.mono ?_
  rintro _ w1 ⟨hb1, hm⟩
  cases r with
  | error k =>
    obtain ⟨hk, v, rfl, hv⟩ := hm
    have e1 : allD d S.data.toList = ([], k) := by unfold allD; rw [HR.out]
    have HE := Lib.hid e1
    have HV := Lib.hid hv
    cases k with
    | zero => exact absurd rfl hk
    | succ k =>
      obtain ⟨q, rfl, _⟩ := hv
      clear e1
      go_wp2_with fail
      go_ret2
      exact ⟨_, by rw [HE.out]; rfl, by rw [HE.out]; exact HV.out, hb1⟩
  | ok i =>
    have hm' : _ = Ending.returned (.tuple #[fptr A.φ i, .nilIface]) := hm
    subst hm'
    obtain ⟨hi, _⟩ := fileD_ok hf HR.out
    obtain ⟨v, hblk, _⟩ := file_at (h.below hb1) hi
    have e1 : allD d S.data.toList = ((fAt d i).now, 0) := by unfold allD; rw [HR.out]
    have HE := Lib.hid e1
    obtain ⟨T, hT⟩ : ∃ T : ByteArray, (⟨(fAt d i).now.toArray⟩ : ByteArray) = T := ⟨_, rfl⟩
    have HT := Lib.hid hT
    have c0 : w1.cell? ⟨A.φ[i]?.getD 0, 0, none⟩ = some (.string T) := by rw [← hT]; exact hblk.cell 0
    unfold fptr
    obtain ⟨b, hb⟩ : ∃ b, A.φ[i]?.getD 0 = b := ⟨_, rfl⟩
    rw [hb] at c0 ⊢
    clear hblk e1 hT hb hi
    go_wp2_with fail
    go_ret2
    exact ⟨_, by rw [HE.out]; unfold txtV; rw [HT.out]; rfl, by rw [HE.out]; rfl, hb1⟩

set_option maxRecDepth 100000 in
set_option maxHeartbeats 4000000 in
theorem sync_calls (S : ByteArray) (w : World) (h : CD B0 w R A d) (hf : Fit d) (hS : S.size ≤ 1073741824) (hB : B0 ≤ w.heap.size) (hF : Fails B0 a w) :
    Calls Tryz.prog 91 #[.pointer (some ⟨A.p, 0, none⟩), .string S] w (NamesOut B0 a R A (syncD d S.data.toList) ⟨#[115, 121, 110, 99]⟩ S w) := by
  have HF := Lib.hid (file_calls (a := a) ⟨#[115, 121, 110, 99]⟩ S w h hf hS hB hF)
  obtain ⟨r, hr⟩ : ∃ r, fileD d S.data.toList = r := ⟨_, rfl⟩
  have HR := Lib.hid hr
  rw [hr] at HF
  obtain ⟨p, hp⟩ : ∃ p, A.p = p := ⟨_, rfl⟩
  have HP := Lib.hid hp
  rw [hp] at HF ⊢
  clear hr hp
  go_enter Tryz.func91, Tryz.ntmps91
  go_wp2_with fail
  refine HF.out.mono ?_
  rintro _ w1 ⟨hb1, hm⟩
  cases r with
  | error k =>
    obtain ⟨hk, v, rfl, hv⟩ := hm
    have hfin : NamesOut B0 a R A (syncD d S.data.toList) ⟨#[115, 121, 110, 99]⟩ S w (.returned v) w1 := by
      have e1 : syncD d S.data.toList = (k, d) := by unfold syncD; rw [HR.out]
      rw [e1]
      exact NamesOut.bad h hb1 hv
    have HFIN := Lib.hid hfin
    cases k with
    | zero => exact absurd rfl hk
    | succ k =>
      obtain ⟨q, rfl, _⟩ := hv
      clear hfin
      go_wp2_with fail
      go_ret
      exact HFIN.out
  | ok i =>
    have hm' : _ = Ending.returned (.tuple #[fptr A.φ i, .nilIface]) := hm
    subst hm'
    obtain ⟨hi, _⟩ := fileD_ok hf HR.out
    have hcd1 := h.below hb1
    have HST := Lib.hid (step_calls (a := a) ⟨#[115, 121, 110, 99]⟩ S w1 hcd1 hf.aw (by have := hb1.size; omega) (hF.below (hb1.mono hB)))
    rw [HP.out] at HST
    have hss := stepD_same d
    have HSS := Lib.hid hss
    obtain ⟨k, d1, hk⟩ : ∃ k d1, stepD d = (k, d1) := ⟨_, _, rfl⟩
    have HK := Lib.hid hk
    unfold fptr
    obtain ⟨b, hb⟩ : ∃ b, A.φ[i]?.getD 0 = b := ⟨_, rfl⟩
    have HBB := Lib.hid hb
    rw [hb]
    clear hss hk hb hcd1
    go_wp2_with fail
    refine HST.out.mono ?_
    rintro _ w2 ⟨v, rfl, hv2, hcd2, hO2, _⟩
    rw [HK.out] at hv2 hcd2
    cases k with
    | succ k =>
      have hfin : NamesOut B0 a R A (syncD d S.data.toList) ⟨#[115, 121, 110, 99]⟩ S w (.returned v) w2 := by
        have e1 : syncD d S.data.toList = (k + 1, d1) := by unfold syncD; rw [HR.out, HK.out]; simp
        rw [e1]
        exact ⟨v, R, A, rfl, hv2, hcd2, (Own.of_below hb1).trans hO2, rfl, rfl⟩
      have HFIN := Lib.hid hfin
      obtain ⟨q, rfl, _⟩ := hv2
      clear hfin hcd2 hO2
      go_wp2_with fail
      go_ret
      exact HFIN.out
    | zero =>
      obtain rfl : v = .nilIface := hv2
      have hss := HSS.out
      rw [HK.out] at hss
      have hi1 : i < d1.files.length := by rw [hss.2.2.2]; exact hi
      obtain ⟨u, hblk, hrb, hrow⟩ := file_at hcd2 hi1
      have efa : fAt d1 i = fAt d i := by unfold fAt; rw [hss.2.2.2]
      rw [efa] at hblk
      rw [HBB.out] at hblk hrb
      obtain ⟨T, hT⟩ : ∃ T : ByteArray, (⟨(fAt d i).now.toArray⟩ : ByteArray) = T := ⟨_, rfl⟩
      have hTv : txtV (fAt d i).now = .string T := by unfold txtV; rw [hT]
      have hblk2 : Blk ((w2.setCell ⟨b, 1, none⟩ (.string T)).setCell ⟨b, 2, none⟩ (.slice none 0 0)) b 143 #[txtV (fAt d i).now, txtV (fAt d i).now, .slice none 0 0] := by
        have := (hblk.set_ 1 (.string T)).set_ 2 (.slice none 0 0)
        rw [hTv] at this ⊢
        exact this
      have hcd3 : CD B0 ((w2.setCell ⟨b, 1, none⟩ (.string T)).setCell ⟨b, 2, none⟩ (.slice none 0 0)) R A (setF d1 i ⟨(fAt d i).now, (fAt d i).now, []⟩) := by
        refine CD.file_only hcd2 hi1 (fun k h0 h1 h2 => ⟨?_, rfl⟩) (fun k hk => by have := hcd2.inw k hk; simpa [World.setCell] using this) hcd2.low ?_
        · have hne : k ≠ b := by rintro rfl; exact h1 hrb
          exact (Below.heap_setCell _ _ _ k hne).trans (Below.heap_setCell _ _ _ k hne)
        · rw [HBB.out]
          exact ⟨.slice none 0 0, hblk2, hrb, RowIs.nil⟩
      have hO3 : Own R R w ((w2.setCell ⟨b, 1, none⟩ (.string T)).setCell ⟨b, 2, none⟩ (.slice none 0 0)) := ((Own.of_below hb1).trans hO2).trans ((Own.of_set _ (by omega)).trans (Own.of_set _ (by omega)))
      have hfin : NamesOut B0 a R A (syncD d S.data.toList) ⟨#[115, 121, 110, 99]⟩ S w (.returned .nilIface) ((w2.setCell ⟨b, 1, none⟩ (.string T)).setCell ⟨b, 2, none⟩ (.slice none 0 0)) := by
        have e1 : syncD d S.data.toList = (0, setF d1 i ⟨(fAt d i).now, (fAt d i).now, []⟩) := by unfold syncD; rw [HR.out, HK.out]; simp
        rw [e1]
        exact ⟨.nilIface, R, A, rfl, rfl, hcd3, hO3, rfl, rfl⟩
      have HFIN := Lib.hid hfin
      rw [hTv] at hblk
      have c0 : _ = some (Value.string T) := hblk.cell 0
      obtain ⟨X, hX⟩ : ∃ X : ByteArray, (⟨(fAt d i).safe.toArray⟩ : ByteArray) = X := ⟨_, rfl⟩
      have c1 : w2.cell? ⟨b, 1, none⟩ = some (.string X) := by rw [← hX]; exact hblk.cell 1
      obtain ⟨A4, c4, hu, _⟩ : ∃ A4 c4, u = .slice A4 (fAt d1 i).steps.length c4 ∧ True := by
        rcases hrow.1.2 with ⟨rfl, h0⟩ | ⟨g, cap, cur, rfl, _⟩
        · exact ⟨none, 0, by rw [h0], trivial⟩
        · exact ⟨_, cap, rfl, trivial⟩
      rw [hu] at hblk
      have c2 : _ = some (Value.slice A4 (fAt d1 i).steps.length c4) := hblk.cell 2
      have g1 := hblk.frozen 1
      have g2 := hblk.frozen 2
      obtain ⟨m, hm⟩ : ∃ m, (fAt d1 i).steps.length = m := ⟨_, rfl⟩
      rw [hm] at c2
      clear hfin hcd2 hO2 hcd3 hO3 hblk2 hblk hrow hu efa hT hTv hX hm hss
      go_wp2_with fail
      go_ret
      exact HFIN.out
end
end Go.Proofs.YtfpgbhimgfdddaaGreatDoor

/- The walks of layer 3 (disk): a step with a file's bytes; Cut. -/
namespace Go.Proofs.YtfpgbhimgfdddaaGreatDoor
open Go.RowKit Go.Shelf Go.Maps Go.Sort
attribute [local go_sem ↓] Go.wp_at_zero Go.wp_at_succ
attribute [local go_sem] Later.cell Later.frozen

section
variable {B0 : Nat} {a : Nat → Addr} {R : Nat → Nat} {A : Adr} {d : Ds} {w w' : World}
theorem info_change : (Tryz.prog.info? 151).map (fun i => (i.zero, i.size, i.bytes)) = some (some (.agg #[.string ⟨#[]⟩, .int .i64 0]), 2, 24) := by kernel_rfl
theorem CD.file_step (h : CD B0 w R A d) {i b : Nat} (hi : i < d.files.length) (hb : A.φ[i]?.getD 0 = b) {u v' : Value} {N : Txt} {c : Ch} {w3 : World} (hblk : Blk w b 143 #[txtV (fAt d i).now, txtV (fAt d i).safe, u]) (hrb : R b = 10 + 2 * i)
    (hrow : ∀ g, u.ownBlock = some g → R g = 11 + 2 * i) (hg : (w.setCell ⟨b, 0, none⟩ (txtV N)).grownBy w3 u.ownBlock) (hrow3 : w3.ownsRow 0 151 2 v' ((fAt d i).steps.length + 1) ((fAt d i).steps.flatMap encC ++ encC c))
    (hat : v'.ownBlock = u.ownBlock ∨ ∃ g, v'.ownBlock = some g ∧ w.heap.size ≤ g) (hB : B0 ≤ w.heap.size) :
    CD B0 (w3.setCell ⟨b, 2, none⟩ v') (rowR R v' (11 + 2 * i)) A (setF d i ⟨N, (fAt d i).safe, (fAt d i).steps ++ [c]⟩) ∧ Own R (rowR R v' (11 + 2 * i)) w (w3.setCell ⟨b, 2, none⟩ v') := by
  have hold : ∀ k, k < w.heap.size → rowR R v' (11 + 2 * i) k = R k := fun k hk => rowR_old hrow hat hk
  have hbl := hblk.lt
  have hs1 : (w.setCell ⟨b, 0, none⟩ (txtV N)).heap.size = w.heap.size := by simp [World.setCell]
  have hs3 : (w3.setCell ⟨b, 2, none⟩ v').heap.size = w3.heap.size := by simp [World.setCell]
  have hsz : w.heap.size ≤ w3.heap.size := by have := hg.size; omega
  have hbu : some b ≠ u.ownBlock := by
    intro e
    have := hrow _ e.symm
    omega
  have hbv : v'.ownBlock ≠ some b := by
    intro e
    rcases hat with h1 | ⟨g, h1, h2⟩
    · rw [h1] at e; exact hbu e.symm
    · rw [h1] at e; injection e with e; omega
  have key : ∀ k, k < w.heap.size → k ≠ b → u.ownBlock ≠ some k → (w3.setCell ⟨b, 2, none⟩ v').heap[k]? = w.heap[k]? := by
    intro k hk h1 h2
    exact ((Below.heap_setCell _ _ _ k h1).trans (hg.block k (by omega) (fun e => h2 e.symm))).trans (Below.heap_setCell _ _ _ k h1)
  have hblk3 : Blk (w3.setCell ⟨b, 2, none⟩ v') b 143 #[txtV N, txtV (fAt d i).safe, v'] := (((hblk.set_ 0 (txtV N)).grown hg hbu).set_ 2 v')
  have hrow4 := ownsRow_setCell_other hrow3 (a := ⟨b, 2, none⟩) hbv v'
  refine ⟨CD.file_only h hi (fun k h0 h1 h2 => ⟨key k (h.inw k h0) (fun e => h1 (e ▸ hrb)) (fun e => h2 (hrow k e)), hold k (h.inw k h0)⟩) ?_ ?_ ?_, ?_⟩
  · intro k hk
    rw [hs3]
    unfold rowR at hk
    split at hk
    · rename_i e; exact (hrow3.lt k e).2
    · exact Nat.lt_of_lt_of_le (h.inw k hk) hsz
  · intro k hk
    rw [hold k (by omega)]
    exact h.low k hk
  · rw [hb]
    refine ⟨v', hblk3, by rw [hold b hbl]; exact hrb, ?_, fun g hg' => by simp [rowR, hg']⟩
    rw [List.length_append, List.flatMap_append]
    simpa using hrow4
  · refine ⟨hg.os, hg.tape, hg.output, by rw [hs3]; exact hsz, fun k hk hr => key k hk (fun e => by rw [e] at hr; omega) (fun e => by have := hrow k e; omega), hold⟩

end
end Go.Proofs.YtfpgbhimgfdddaaGreatDoor

/- The walks of layer 3 (disk): Flip. -/
namespace Go.Proofs.YtfpgbhimgfdddaaGreatDoor
open Go.RowKit Go.Shelf Go.Maps Go.Sort
attribute [local go_sem ↓] Go.wp_at_zero Go.wp_at_succ
attribute [local go_sem] Later.cell Later.frozen

section
variable {B0 : Nat} {a : Nat → Addr} {R : Nat → Nat} {A : Adr} {d : Ds} {w w' : World}

theorem one_byte (c : UInt8) (b : Nat) (w : World) (h : w.cell? ⟨b, 0, none⟩ = some (.int .u8 (c.toNat : Int))) : (convert 104 9 (.slice (some ⟨b, 0, none⟩) 1 1)).run Tryz.prog w = .ok (.string ⟨#[c]⟩) w :=
  run_convert_bytes_back w _ _ 5 ⟨b, 0, none⟩ 1 [c] Tryz.underlying104 Tryz.underlying5 Tryz.underlying9 (fun j hj => by
    have : j = 0 := by simpa using hj
    subst this
    exact h)
end
end Go.Proofs.YtfpgbhimgfdddaaGreatDoor

/- The walks of layer 3 (disk): SyncNames. -/
namespace Go.Proofs.YtfpgbhimgfdddaaGreatDoor
open Go.RowKit Go.Shelf Go.Maps Go.Sort
attribute [local go_sem ↓] Go.wp_at_zero Go.wp_at_succ
attribute [local go_sem] Later.cell Later.frozen

section
variable {B0 : Nat} {a : Nat → Addr} {R : Nat → Nat} {A : Adr} {d : Ds} {w w' : World}
/-- The world in which the names are safe. -/
def safeW (w : World) (p x y : Nat) : World := ((w.setCell ⟨p, 2, none⟩ (.map (some x))).setCell ⟨p, 3, none⟩ (.map (some y))).setCell ⟨p, 4, none⟩ (.slice none 0 0)
theorem safeW_size (w : World) (p x y : Nat) : (safeW w p x y).heap.size = w.heap.size := by simp [safeW, World.setCell]
theorem safeW_heap (w : World) {p x y k : Nat} (h : k ≠ p) : (safeW w p x y).heap[k]? = w.heap[k]? :=
  ((Below.heap_setCell _ _ _ k h).trans (Below.heap_setCell _ _ _ k h)).trans (Below.heap_setCell _ _ _ k h)
theorem CD.resafe (h : CD B0 w R A d) {w1 : World} {x y : Nat} (hb : Below w.heap.size w w1) (hx : SM w1 x (dirF d.things)) (hy : SM w1 y (filF A.φ d.things)) (hxy : x ≠ y) (hxl : w.heap.size ≤ x) (hyl : w.heap.size ≤ y) (hB : B0 ≤ w.heap.size) :
    CD B0 (safeW w1 A.p x y) (giv (giv R x 4) y 6) { A with sd := x, sf := y, sv := .slice none 0 0 } { d with safe := d.things, steps := [] } ∧ Own R (giv (giv R x 4) y 6) w (safeW w1 A.p x y) := by
  have hpl := Blk.lt h.blk
  have hp0 : A.p ≠ x := by omega
  have hp1 : A.p ≠ y := by omega
  have hold : ∀ k, k < w.heap.size → giv (giv R x 4) y 6 k = R k := fun k hk => by rw [giv_ne (by omega), giv_ne (by omega)]
  have hblk := Blk.below h.blk hb hpl
  have hx1 := SMap.lt hx
  have hy1 := SMap.lt hy
  have key : ∀ k, R k ≠ 0 → R k ≠ 1 → (safeW w1 A.p x y).heap[k]? = w.heap[k]? ∧ giv (giv R x 4) y 6 k = R k := fun k hk h1 =>
    ⟨(safeW_heap w1 (fun e => h1 (by rw [e]; exact h.rp))).trans (hb.block k (h.inw k hk)), hold k (h.inw k hk)⟩
  have hin : InW (giv (giv R x 4) y 6) (safeW w1 A.p x y) := by
    intro k hk
    rw [safeW_size]
    by_cases e1 : k = y
    · omega
    by_cases e2 : k = x
    · omega
    rw [giv_ne e1, giv_ne e2] at hk
    exact Nat.lt_of_lt_of_le (h.inw k hk) hb.size
  refine ⟨?_, ?_⟩
  · exact {
      blk := ((Blk.set_ hblk 2 _).set_ 3 _).set_ 4 _
      rp := by rw [hold _ hpl]; exact h.rp
      dirs := h.dirs.same fun k hk => key k (by omega) (by omega)
      files := h.files.same fun k hk => key k (by omega) (by omega)
      sdirs := ⟨hx.same (safeW_heap w1 (Ne.symm hp0)), by show giv (giv R x 4) y 6 x = 4; rw [giv_ne hxy, giv_self]⟩
      sfiles := ⟨hy.same (safeW_heap w1 (Ne.symm hp1)), giv_self _ _ _⟩
      steps := ⟨[], RowIs.nil, rfl, fun i s f hs _ => by simp at hs⟩
      bytes := h.bytes.same fun k hk => key k (by omega) (by omega)
      inw := hin
      low := fun k hk => by rw [hold k (by omega)]; exact h.low k hk }
  · exact ⟨hb.os, hb.tape, hb.output, by rw [safeW_size]; exact hb.size, fun k hk hr => (safeW_heap w1 (fun e => by rw [e, h.rp] at hr; omega)).trans (hb.block k hk), hold⟩

set_option maxRecDepth 100000 in
set_option maxHeartbeats 4000000 in
theorem syncNames_calls (w : World) (h : CD B0 w R A d) (hf : Fit d) (hB : B0 ≤ w.heap.size) (hF : Fails B0 a w) :
    Calls Tryz.prog 75 #[.pointer (some ⟨A.p, 0, none⟩)] w (NamesOut B0 a R A (syncNamesD d) ⟨#[110, 97, 109, 101, 115]⟩ ⟨#[]⟩ w) := by
  obtain ⟨p, hp⟩ : ∃ p, A.p = p := ⟨_, rfl⟩
  have HP := Lib.hid hp
  have hoff : w.cell? ⟨p, 6, none⟩ = some (.bool d.off) := by rw [← hp]; exact Blk.cell h.blk 6
  obtain ⟨k, hk⟩ : ∃ k, readyR d.off true = k := ⟨_, rfl⟩
  have HK := Lib.hid hk
  have HRD := Lib.hid (ready_calls (B0 := B0) (a := a) p d.off true ⟨#[110, 97, 109, 101, 115]⟩ ⟨#[]⟩ k hk w hoff hF)
  rw [hp]
  clear hk hp hoff
  go_enter Tryz.func75, Tryz.ntmps75
  go_wp2_with fail
  refine HRD.out.mono ?_
  rintro _ w1 ⟨v, rfl, hv1, hb1⟩
  cases k with
  | succ k =>
    have hfin : NamesOut B0 a R A (syncNamesD d) ⟨#[110, 97, 109, 101, 115]⟩ ⟨#[]⟩ w (.returned v) w1 := by
      have e1 : syncNamesD d = (k + 1, d) := by
        have hk := HK.out
        unfold readyR at hk
        unfold syncNamesD
        rw [← hk]
        cases ho : d.off with
        | true => simp
        | false => rw [ho] at hk; simp at hk
      rw [e1]
      exact NamesOut.bad h hb1 hv1
    obtain ⟨q4, rfl, _⟩ := hv1
    have HFIN := Lib.hid hfin
    clear hfin
    go_wp2_with fail
    go_ret
    exact HFIN.out
  | zero =>
    obtain rfl : v = .nilIface := hv1
    have ho : d.off = false := by
      have hk := HK.out
      unfold readyR at hk
      cases ho : d.off with
      | true => rw [ho] at hk; simp at hk
      | false => rfl
    have hcd1 := h.below hb1
    have HST := Lib.hid (step_calls (a := a) ⟨#[110, 97, 109, 101, 115]⟩ ⟨#[]⟩ w1 hcd1 hf.aw (by have := hb1.size; omega) (hF.below (hb1.mono hB)))
    rw [HP.out] at HST
    have HSS := Lib.hid (stepD_same d)
    obtain ⟨k, dd, hk⟩ : ∃ k d1, stepD d = (k, d1) := ⟨_, _, rfl⟩
    have HKK := Lib.hid hk
    have e1 : syncNamesD d = if k ≠ 0 then (k, dd) else (0, { dd with safe := d.things, steps := [] }) := by unfold syncNamesD; rw [ho, hk]; rfl
    have HE := Lib.hid e1
    clear hk hcd1 e1 ho
    go_wp2_with fail
    refine HST.out.mono ?_
    rintro _ w2 ⟨v, rfl, hv2, hcd2, hO2, _⟩
    rw [HKK.out] at hv2 hcd2
    cases k with
    | succ k =>
      have hfin : NamesOut B0 a R A (syncNamesD d) ⟨#[110, 97, 109, 101, 115]⟩ ⟨#[]⟩ w (.returned v) w2 := by
        rw [HE.out]
        exact ⟨v, R, A, rfl, hv2, hcd2, (Own.of_below hb1).trans hO2, rfl, rfl⟩
      have HFIN := Lib.hid hfin
      obtain ⟨q, rfl, _⟩ := hv2
      clear hfin hcd2 hO2
      go_wp2_with fail
      go_ret
      exact HFIN.out
    | zero =>
      obtain rfl : v = .nilIface := hv2
      have hss := HSS.out
      rw [HKK.out] at hss
      have HTW := Lib.hid (twinD_calls A.md A.mf (dirF dd.things) (filF A.φ dd.things))
      have HBLK := Lib.hid hcd2.blk
      have c0 : w2.cell? ⟨A.p, 0, none⟩ = some (.map (some A.md)) := Blk.cell hcd2.blk 0
      have c1 : w2.cell? ⟨A.p, 1, none⟩ = some (.map (some A.mf)) := Blk.cell hcd2.blk 1
      rw [HP.out] at c0 c1
      obtain ⟨md, hmd⟩ : ∃ x, A.md = x := ⟨_, rfl⟩
      obtain ⟨mf, hmf⟩ : ∃ x, A.mf = x := ⟨_, rfl⟩
      rw [hmd] at c0 HTW
      rw [hmf] at c1 HTW
      have HC2 := Lib.hid hcd2
      have HO2 := Lib.hid hO2
      have HSM1 := Lib.hid (show SM w2 md (dirF dd.things) by rw [← hmd]; exact hcd2.dirs.1)
      have HSM2 := Lib.hid (show SM w2 mf (filF A.φ dd.things) by rw [← hmf]; exact hcd2.files.1)
      clear hcd2 hO2 hmd hmf
      go_wp2_with fail
      refine (HTW.out w2 HSM1.out HSM2.out).mono ?_
      rintro _ w3 ⟨x, y, rfl, hx, hy, hxy, hxl, hyl, hb3⟩
      obtain ⟨hcd4, hO4⟩ := CD.resafe HC2.out hb3 hx hy hxy hxl hyl (by have := hb1.size; have := HO2.out.size; omega)
      have hfin : NamesOut B0 a R A (syncNamesD d) ⟨#[110, 97, 109, 101, 115]⟩ ⟨#[]⟩ w (.returned .nilIface) (safeW w3 A.p x y) := by
        rw [HE.out, ← hss.1]
        exact ⟨.nilIface, _, _, rfl, rfl, hcd4, ((Own.of_below hb1).trans HO2.out).trans hO4, rfl, rfl⟩
      rw [HP.out] at hfin
      unfold safeW at hfin
      have HFIN := Lib.hid hfin
      have hblk := HBLK.out
      unfold DBlk at hblk
      rw [HP.out] at hblk
      have hblk3 := Blk.below hblk hb3 (Blk.lt hblk)
      obtain ⟨sd, hsd⟩ : ∃ x, A.sd = x := ⟨_, rfl⟩
      obtain ⟨sf, hsf⟩ : ∃ x, A.sf = x := ⟨_, rfl⟩
      obtain ⟨sv, hsv⟩ : ∃ x, A.sv = x := ⟨_, rfl⟩
      rw [hsd, hsf, hsv] at hblk3
      have k2 : w3.cell? ⟨p, 2, none⟩ = some (.map (some sd)) := Blk.cell hblk3 2
      have k3 : w3.cell? ⟨p, 3, none⟩ = some (.map (some sf)) := Blk.cell hblk3 3
      have k4 : w3.cell? ⟨p, 4, none⟩ = some sv := Blk.cell hblk3 4
      have g2 := Blk.frozen hblk3 2
      have g3 := Blk.frozen hblk3 3
      have g4 := Blk.frozen hblk3 4
      clear hfin hcd4 hO4 hx hy hxy hxl hyl hblk hblk3 hsd hsf hsv hss c0 c1 hb3
      go_wp2_with fail
      go_ret
      exact HFIN.out
end
end Go.Proofs.YtfpgbhimgfdddaaGreatDoor
