/- Merged (what the claim wants of): DskWalksK, DskWalksL, DskWalksM. -/
import Derived.Test.YtfpgbhimgfdddaaGreatDoorStk09
set_option linter.unusedVariables false
set_option linter.unusedSimpArgs false
/- The walks of layer 3 (disk): Remove. -/
namespace Go.Proofs.YtfpgbhimgfdddaaGreatDoor
open Go.RowKit Go.Shelf Go.Maps Go.Sort
attribute [local go_sem ↓] Go.wp_at_zero Go.wp_at_succ
attribute [local go_sem] Later.cell Later.frozen

section
variable {B0 : Nat} {a : Nat → Addr} {R : Nat → Nat} {A : Adr} {d : Ds} {w w' : World}

set_option maxRecDepth 100000 in
set_option maxHeartbeats 4000000 in
theorem remove_calls (S : ByteArray) (w : World) (h : CD B0 w R A d) (hf : Fit d) (hS : S.size ≤ 1073741824) (hB : B0 ≤ w.heap.size) (hF : Fails B0 a w) :
    Calls Tryz.prog 74 #[.pointer (some ⟨A.p, 0, none⟩), .string S] w (NamesOut B0 a R A (removeD d S.data.toList) ⟨#[114, 101, 109, 111, 118, 101]⟩ S w) := by
  obtain ⟨rn, hrn⟩ : ∃ r, pathB S.data.toList = r := ⟨_, rfl⟩
  have HNM := Lib.hid (fun w => path_calls S rn hrn hS w)
  have HRN := Lib.hid hrn
  obtain ⟨p, hp⟩ : ∃ p, A.p = p := ⟨_, rfl⟩
  have HP := Lib.hid hp
  rw [hp]
  have H0 := Lib.hid h
  clear hrn hp
  go_enter Tryz.func74, Tryz.ntmps74
  go_upto_region 1 with fail
  obtain ⟨w1, hw1⟩ : ∃ x, w.alloc (.cells #[.string S] 9) = x := ⟨_, rfl⟩
  have hb1 : Below w.heap.size w w1 := by rw [← hw1]; exact (Below.refl _ _).alloc (Nat.le_refl _) _
  have hq : Blk w1 w.heap.size 9 #[.string S] := by rw [← hw1]; exact Blk.new _ _ _
  rw [hw1]
  obtain ⟨q, hqq⟩ : ∃ q, w.heap.size = q := ⟨_, rfl⟩
  have hR0 : R q = 0 := h.inw.new (by omega)
  rw [hqq] at hq hB ⊢
  have HQ := Lib.hid hqq
  have q0 : _ = some (Value.string S) := hq.cell 0
  have hql := hq.lt
  clear hw1 hqq
  refine wp_region_later_tail 4 (by kernel_rfl) (by kernel_rfl) ?_
  simp only [List.take_succ_cons, List.take_zero, List.drop_succ_cons, List.drop_zero]
  repeat (go_big_quiet_step ((go_at_call 62; exact quiet_later _ (HNM.out _))))
  refine wpQuiet_nil ?_
  rintro w2 ⟨⟨_, hb2⟩, rfl⟩
  have hB2 := then_ hb1 hb2
  have hcd2 := h.below hB2
  have hF2 : Fails B0 a w2 := hF.below (hB2.mono (by have := HQ.out; omega))
  have hoff : w2.cell? ⟨p, 6, none⟩ = some (.bool d.off) := by rw [← HP.out]; exact Blk.cell hcd2.blk 6
  obtain ⟨k, hk⟩ : ∃ k, readyR d.off rn = k := ⟨_, rfl⟩
  have HK := Lib.hid hk
  have hq2 := hq.below hb2 hq.lt
  have hready := ready_calls (B0 := B0) (a := a) p d.off rn ⟨#[114, 101, 109, 111, 118, 101]⟩ S k hk w2 hoff hF2
  have HRD := Lib.hid hready
  clear hk hready hq q0 hql hb1 hb2
  go_wp2_with fail
  refine HRD.out.mono ?_
  rintro _ w3 ⟨v, rfl, hv3, hb3⟩
  have hB3 := then_ hB2 hb3
  have hcd3 := h.below hB3
  have hF3 := hF2.below (hb3.mono (by have := hB2.size; have := HQ.out; omega))
  have hq3 := hq2.below hb3 hq2.lt
  clear hcd2 hF2 hoff hq2 hb3 HRD hB2
  cases k with
  | succ k =>
    have hfin : NamesOut B0 a R A (removeD d S.data.toList) ⟨#[114, 101, 109, 111, 118, 101]⟩ S w (.returned v) w3 := by
      have e1 : removeD d S.data.toList = (k + 1, d) := by
        have hk := HK.out
        unfold readyR at hk
        unfold removeD
        rw [← hk, HRN.out]
        cases ho : d.off with
        | true => simp
        | false =>
          rw [ho] at hk
          cases rn with
          | true => simp at hk
          | false => simp
      rw [e1]
      exact NamesOut.bad h hB3 hv3
    obtain ⟨q4, rfl, _⟩ := hv3
    have HFIN := Lib.hid hfin
    clear hfin hcd3 hF3 hq3 hB3
    go_wp2_with fail
    go_ret
    exact HFIN.out
  | zero =>
    obtain rfl : v = .nilIface := hv3
    obtain ⟨ho, hn⟩ : d.off = false ∧ rn = true := by
      have hk := HK.out
      unfold readyR at hk
      cases ho : d.off with
      | true => rw [ho] at hk; simp at hk
      | false =>
        rw [ho] at hk
        cases rn with
        | true => exact ⟨rfl, rfl⟩
        | false => simp at hk
    have e1 : removeD d S.data.toList = if isT d.things S.data.toList = 0 then (4, d) else namesD d (.remove S.data.toList) := by
      unfold removeD
      rw [ho, HRN.out, hn]
      simp
    have HE1 := Lib.hid e1
    obtain ⟨P, hP, hlf⟩ := look_fil hcd3 hf S hS
    have c0 : w3.cell? ⟨p, 0, none⟩ = some (.map (some A.md)) := by rw [← HP.out]; exact Blk.cell hcd3.blk 0
    have c1 : w3.cell? ⟨p, 1, none⟩ = some (.map (some A.mf)) := by rw [← HP.out]; exact Blk.cell hcd3.blk 1
    have q0 : _ = some (Value.string S) := hq3.cell 0
    have hql := hq3.lt
    have hpl : p < w3.heap.size := lt_of_cell c0
    have HPP := Lib.hid hP
    have HNB := Lib.hid (HRN.out.trans hn)
    clear ho hn e1 hP HK
    go_upto_region 4 with fail
    rcases isT_range d.things S.data.toList with h0 | h0 | h0
    · obtain rfl : P = none := HPP.out.2 (by rw [h0]; omega)
      have hlk := look_dir hcd3 hf S hS 0 (by rw [h0]; rfl)
      refine wp_region_later (by kernel_rfl) (by kernel_rfl) ?_
      repeat (go_big_quiet_step (fail))
      refine wpQuiet_nil ?_
      rintro w4 ⟨⟨_, hb4⟩, rfl⟩
      have hB4 := then_ hB3 hb4
      have hq4 := hq3.below hb4 hq3.lt
      have hF4 := hF3.below (hb4.mono (by have := hB3.size; have := HQ.out; omega))
      have f5 : _ = some (failV a 4) := (hF4 4 (by decide)).2
      have hfl := fail_calls (a := a) ⟨#[114, 101, 109, 111, 118, 101]⟩ S 3 w4
      unfold failV at f5 hfl
      simp only [failG] at f5
      have HFL := Lib.hid hfl
      have e2 : removeD d S.data.toList = (4, d) := by rw [HE1.out, if_pos h0]
      have HE2 := Lib.hid e2
      have q0' : _ = some (Value.string S) := hq4.cell 0
      clear hfl hF4 e2 hlk hlf q0 c0 c1 h0
      go_wp2_with fail
      refine HFL.out.mono ?_
      rintro e w5 ⟨v, rfl, hv5, hb5⟩
      have hfin : NamesOut B0 a R A (removeD d S.data.toList) ⟨#[114, 101, 109, 111, 118, 101]⟩ S w (.returned v) w5 := by
        rw [HE2.out]
        exact NamesOut.bad h (then_ hB4 hb5) hv5
      have HFIN := Lib.hid hfin
      clear hfin hv5
      go_wp2_with fail
      go_ret
      exact HFIN.out
    · obtain ⟨P', rfl⟩ : ∃ P', P = some P' := by
        cases P with
        | none => exact absurd h0 (HPP.out.1 rfl)
        | some P' => exact ⟨P', rfl⟩
      have hlk := look_dir hcd3 hf S hS 0 (by rw [h0]; rfl)
      refine wp_region_later (by kernel_rfl) (by kernel_rfl) ?_
      repeat (go_big_quiet_step (fail))
      refine wpQuiet_nil ?_
      rintro w4 ⟨⟨_, hb4⟩, rfl⟩
      have hB4 := then_ hB3 hb4
      have hcd4 := h.below hB4
      have hq4 := hq3.below hb4 hq3.lt
      have hcd5 : CD B0 w4 (giv R q 5) A d := hcd4.grant hq4.lt hR0 hB 5
      have hST : StepM w4 (giv R q 5) A.φ (.remove S.data.toList) (.func (.func 115) #[] #[.pointer (some ⟨q, 0, none⟩)]) := ⟨q, rfl, by
        have e : txtV S.data.toList = .string S := by unfold txtV; rw [← bytes_of rfl]
        rw [Box, e]
        exact ⟨hq4, giv_self R q 5⟩⟩
      have hF4 := hF3.below (hb4.mono (by have := hB3.size; have := HQ.out; omega))
      have hnm := names_calls (a := a) ⟨#[114, 101, 109, 111, 118, 101]⟩ S (.remove S.data.toList) _ _ w4 hcd5 hST hf.tw ⟨HNB.out, by rw [h0]; simp⟩ (by have := hf.tl; omega) (by have := hf.sl; omega) hf.aw (by have := hB4.size; have := HQ.out; omega) hF4
      rw [HP.out] at hnm
      have e2 : removeD d S.data.toList = namesD d (.remove S.data.toList) := by rw [HE1.out, if_neg (by rw [h0]; simp)]
      have HE2 := Lib.hid e2
      have hO : Own R (giv R q 5) w w4 := (Own.of_below hB4).give (by have := HQ.out; omega)
      have HO := Lib.hid hO
      have HNM2 := Lib.hid hnm
      have q0' : _ = some (Value.string S) := hq4.cell 0
      clear hnm hST hcd4 hcd5 hF4 e2 hO hlk hlf q0 c0 c1 h0
      go_wp2_with fail
      refine HNM2.out.mono ?_
      rintro e w5 hN
      obtain ⟨v, R', A', rfl, k2, k3, k4, k5⟩ := hN
      have hfin : NamesOut B0 a R A (removeD d S.data.toList) ⟨#[114, 101, 109, 111, 118, 101]⟩ S w (.returned v) w5 := by
        rw [HE2.out]
        exact ⟨v, R', A', rfl, k2, k3, HO.out.trans k4, k5⟩
      have HFIN := Lib.hid hfin
      clear hfin k2 k3 k4 k5
      go_wp2_with fail
      go_ret
      exact HFIN.out
    · have _t := trivial
      have hlk := look_dir hcd3 hf S hS 1 (by rw [h0]; rfl)
      refine wp_region_later (by kernel_rfl) (by kernel_rfl) ?_
      repeat (go_big_quiet_step (fail))
      refine wpQuiet_nil ?_
      rintro w4 ⟨⟨_, hb4⟩, rfl⟩
      have hB4 := then_ hB3 hb4
      have hcd4 := h.below hB4
      have hq4 := hq3.below hb4 hq3.lt
      have hcd5 : CD B0 w4 (giv R q 5) A d := hcd4.grant hq4.lt hR0 hB 5
      have hST : StepM w4 (giv R q 5) A.φ (.remove S.data.toList) (.func (.func 115) #[] #[.pointer (some ⟨q, 0, none⟩)]) := ⟨q, rfl, by
        have e : txtV S.data.toList = .string S := by unfold txtV; rw [← bytes_of rfl]
        rw [Box, e]
        exact ⟨hq4, giv_self R q 5⟩⟩
      have hF4 := hF3.below (hb4.mono (by have := hB3.size; have := HQ.out; omega))
      have hnm := names_calls (a := a) ⟨#[114, 101, 109, 111, 118, 101]⟩ S (.remove S.data.toList) _ _ w4 hcd5 hST hf.tw ⟨HNB.out, by rw [h0]; simp⟩ (by have := hf.tl; omega) (by have := hf.sl; omega) hf.aw (by have := hB4.size; have := HQ.out; omega) hF4
      rw [HP.out] at hnm
      have e2 : removeD d S.data.toList = namesD d (.remove S.data.toList) := by rw [HE1.out, if_neg (by rw [h0]; simp)]
      have HE2 := Lib.hid e2
      have hO : Own R (giv R q 5) w w4 := (Own.of_below hB4).give (by have := HQ.out; omega)
      have HO := Lib.hid hO
      have HNM2 := Lib.hid hnm
      have q0' : _ = some (Value.string S) := hq4.cell 0
      clear hnm hST hcd4 hcd5 hF4 e2 hO hlk hlf q0 c0 c1 h0
      go_wp2_with fail
      refine HNM2.out.mono ?_
      rintro e w5 hN
      obtain ⟨v, R', A', rfl, k2, k3, k4, k5⟩ := hN
      have hfin : NamesOut B0 a R A (removeD d S.data.toList) ⟨#[114, 101, 109, 111, 118, 101]⟩ S w (.returned v) w5 := by
        rw [HE2.out]
        exact ⟨v, R', A', rfl, k2, k3, HO.out.trans k4, k5⟩
      have HFIN := Lib.hid hfin
      clear hfin k2 k3 k4 k5
      go_wp2_with fail
      go_ret
      exact HFIN.out
end
end Go.Proofs.YtfpgbhimgfdddaaGreatDoor

/- The walks of layer 3 (disk): a tree's parent; a file more. -/
namespace Go.Proofs.YtfpgbhimgfdddaaGreatDoor
open Go.RowKit Go.Shelf Go.Maps Go.Sort
attribute [local go_sem ↓] Go.wp_at_zero Go.wp_at_succ
attribute [local go_sem] Later.cell Later.frozen

set_option maxRecDepth 100000 in
set_option maxHeartbeats 1000000 in
theorem tparent_calls {n : Nat} {l : List Th} (md mf : Nat) (S : ByteArray) (r : Bool) (hr : parentB l S.data.toList = r) (w : World) (hd : SM w md (dirF l)) (hw : TW n l) (hS : S.size ≤ 1073741824) :
    Calls Tryz.prog 63 #[.agg #[.map (some md), .map (some mf)], .string S] w fun e w' => e = .returned (.bool r) ∧ Below w.heap.size w w' := by
  obtain ⟨X, Y, f, h1, h2, h3, _⟩ := cut_pair S
  have HC := Lib.hid (fun w => cut3_calls S X Y f h1 hS w)
  have hrf : r = if f then decide (isT l X.data.toList = 2) else true := by
    rw [← hr]
    unfold cutR at h1
    unfold parentB
    cases hs : slashAt S.data.toList with
    | none =>
      rw [hs] at h1
      obtain ⟨_, _, rfl⟩ : S.data.toList = X.data.toList ∧ [] = Y.data.toList ∧ false = f := by simpa using h1
      rfl
    | some k =>
      rw [hs] at h1
      obtain ⟨e1, _, rfl⟩ : S.data.toList.take k = X.data.toList ∧ S.data.toList.drop (k + 1) = Y.data.toList ∧ true = f := by simpa using h1
      rw [← e1]
      simp only [if_true]
      rw [Bool.eq_iff_iff]
      simp
  have HR := Lib.hid hrf
  clear hr h1 hrf
  go_enter Tryz.func63, Tryz.ntmps63
  go_upto_region 1 with fail
  obtain ⟨w1, hw1⟩ : ∃ x, w.alloc (.cells #[.map (some md), .map (some mf)] 122) = x := ⟨_, rfl⟩
  have hb1 : Below w.heap.size w w1 := by rw [← hw1]; exact (Below.refl _ _).alloc (Nat.le_refl _) _
  have hq : Blk w1 w.heap.size 122 #[.map (some md), .map (some mf)] := by rw [← hw1]; exact Blk.new _ _ _
  rw [hw1]
  obtain ⟨q, hqq⟩ : ∃ q, w.heap.size = q := ⟨_, rfl⟩
  have HB1 := Lib.hid hb1
  have hd1 := hd.below hb1 hd.lt
  rw [hqq] at hq ⊢
  clear hw1 hqq hb1
  go_wp2_with fail
  refine (HC.out w1).mono ?_
  rintro e w2 ⟨rfl, hb2⟩
  have hB2 := then_ HB1.out hb2
  have hq2 := hq.below hb2 hq.lt
  have q0 : _ = some (Value.map (some md)) := hq2.cell 0
  have hd2 := hd1.below hb2 hd1.lt
  cases f with
  | false =>
    obtain rfl : r = true := by have := HR.out; simpa using this
    go_wp2_with fail
    go_ret
    exact ⟨rfl, hB2⟩
  | true =>
    have hrr := HR.out
    simp only [if_true] at hrr
    have hlk := hd2.look Tryz.underlying9 Tryz.underlying119 (zeroI w2) (s := X) (by unfold maxLen; omega)
    by_cases h2 : isT l X.data.toList = 2
    · obtain rfl : r = true := by rw [hrr]; simp [h2]
      obtain ⟨v, hv⟩ := Option.isSome_iff_exists.1 ((dirF_two hw).2 h2)
      rw [hv, dirF_val hv] at hlk
      simp only [Option.getD_some] at hlk
      clear hrr hv h2
      go_wp2_with fail
      go_ret
      exact ⟨rfl, hB2⟩
    · obtain rfl : r = false := by rw [hrr]; simp [h2]
      have hv : dirF l X.data.toList = none := by
        cases hv : dirF l X.data.toList with
        | none => rfl
        | some v => exact absurd ((dirF_two hw).1 (by rw [hv]; rfl)) h2
      rw [hv] at hlk
      simp only [Option.getD_none] at hlk
      clear hrr hv h2
      go_wp2_with fail
      go_ret
      exact ⟨rfl, hB2⟩

/-! ### a file more, a file less -/
section
variable {B0 : Nat} {a : Nat → Addr} {R : Nat → Nat} {A : Adr} {d : Ds} {w w' : World}
/-- No number of a file that there isn't. -/
structure Nums (d : Ds) : Prop where
  things : ∀ x ∈ d.things, x.dir = false → x.at_ < d.files.length
  safe : ∀ x ∈ d.safe, x.dir = false → x.at_ < d.files.length
  steps : ∀ s i, St.create s i ∈ d.steps → i < d.files.length
theorem fptr_app {φ : List Nat} {g i : Nat} (h : i < φ.length) : fptr (φ ++ [g]) i = fptr φ i := by
  unfold fptr
  rw [List.getElem?_append_left h]
theorem filF_app {φ : List Nat} {g : Nat} {l : List Th} (h : ∀ x ∈ l, x.dir = false → x.at_ < φ.length) : filF (φ ++ [g]) l = filF φ l := by
  funext x
  unfold filF
  cases hf : l.find? fun y => !y.dir && y.path == x with
  | none => rfl
  | some y =>
    have h1 := List.find?_some hf
    simp only [Bool.and_eq_true, Bool.not_eq_true'] at h1
    simp only [Option.map_some]
    rw [fptr_app (h y (List.mem_of_find?_eq_some hf) h1.1)]
theorem StepM_app {φ : List Nat} {g : Nat} {s : St} {v : Value} (h : ∀ x i, s = .create x i → i < φ.length) : StepM w R (φ ++ [g]) s v ↔ StepM w R φ s v := by
  cases s with
  | mkdir a => exact Iff.rfl
  | create a i => simp only [StepM]; rw [fptr_app (h a i rfl)]
  | rename a b => exact Iff.rfl
  | remove a => exact Iff.rfl
theorem StepsM_app {φ : List Nat} {g : Nat} {l : List St} {v : Value} (h : ∀ x i, St.create x i ∈ l → i < φ.length) : StepsM w R v (φ ++ [g]) l ↔ StepsM w R v φ l := by
  unfold StepsM
  constructor
  · rintro ⟨fs, h1, h2, h3⟩
    exact ⟨fs, h1, h2, fun i s f hs hf => (StepM_app fun x j e => h x j (e ▸ List.mem_of_getElem? hs)).1 (h3 i s f hs hf)⟩
  · rintro ⟨fs, h1, h2, h3⟩
    exact ⟨fs, h1, h2, fun i s f hs hf => (StepM_app fun x j e => h x j (e ▸ List.mem_of_getElem? hs)).2 (h3 i s f hs hf)⟩
theorem CD.new_file (h : CD B0 w R A d) (hn : Nums d) {g : Nat} (hg : Blk w g 143 #[.string ⟨#[]⟩, .string ⟨#[]⟩, .slice none 0 0]) (hR : R g = 0) (hB : B0 ≤ g) :
    CD B0 w (giv R g (10 + 2 * d.files.length)) { A with φ := A.φ ++ [g] } { d with files := d.files ++ [⟨[], [], []⟩] } := by
  have h1 := h.grant hg.lt hR hB (10 + 2 * d.files.length)
  have hl := h.bytes.1
  exact {
    blk := h1.blk
    rp := h1.rp
    dirs := h1.dirs
    files := by rw [filF_app (fun x hx hd => by rw [hl]; exact hn.things x hx hd)]; exact h1.files
    sdirs := h1.sdirs
    sfiles := by rw [filF_app (fun x hx hd => by rw [hl]; exact hn.safe x hx hd)]; exact h1.sfiles
    steps := (StepsM_app (fun x i hx => by rw [hl]; exact hn.steps x i hx)).2 h1.steps
    bytes := by
      refine ⟨by simp [hl], fun i b f hb hf => ?_⟩
      rw [List.getElem?_append] at hb hf
      rw [hl] at hb
      split at hb
      · rename_i hi
        rw [if_pos hi] at hf
        exact h1.bytes.2 i b f hb hf
      · rename_i hi
        rw [if_neg hi] at hf
        have hi0 : i - d.files.length = 0 := by
          apply Classical.byContradiction
          intro hne
          rw [List.getElem?_eq_none (by simp; omega)] at hb
          cases hb
        rw [hi0] at hb hf
        simp at hb hf
        subst hb hf
        obtain rfl : i = d.files.length := by omega
        exact ⟨.slice none 0 0, hg, giv_self _ _ _, RowIs.nil⟩
    inw := h1.inw
    low := h1.low }
theorem CD.drop_file {φ : List Nat} {g : Nat} {fs : List By} {f : By} (h : CD B0 w R { A with φ := φ ++ [g] } { d with files := fs ++ [f] }) (hl : φ.length = fs.length) (hn : Nums { d with files := fs }) : CD B0 w R { A with φ := φ } { d with files := fs } where
  blk := h.blk
  rp := h.rp
  dirs := h.dirs
  files := by have := h.files; rw [filF_app (fun x hx hd => by rw [hl]; exact hn.things x hx hd)] at this; exact this
  sdirs := h.sdirs
  sfiles := by have := h.sfiles; rw [filF_app (fun x hx hd => by rw [hl]; exact hn.safe x hx hd)] at this; exact this
  steps := (StepsM_app (fun x i hx => by rw [hl]; exact hn.steps x i hx)).1 h.steps
  bytes := ⟨hl, fun i b f' hb hf => h.bytes.2 i b f' (by rw [List.getElem?_append_left (List.getElem?_eq_some_iff.1 hb).1]; exact hb) (by rw [List.getElem?_append_left (List.getElem?_eq_some_iff.1 hf).1]; exact hf)⟩
  inw := h.inw
  low := h.low
end
end Go.Proofs.YtfpgbhimgfdddaaGreatDoor

/- The walks of layer 3 (disk): Create. -/
namespace Go.Proofs.YtfpgbhimgfdddaaGreatDoor
open Go.RowKit Go.Shelf Go.Maps Go.Sort
attribute [local go_sem ↓] Go.wp_at_zero Go.wp_at_succ
attribute [local go_sem] Later.cell Later.frozen

section
variable {B0 : Nat} {a : Nat → Addr} {R : Nat → Nat} {A : Adr} {d : Ds} {w w' : World}
/-- As NamesOut; files may have come behind. -/
def NamesOutF (B0 : Nat) (a : Nat → Addr) (R : Nat → Nat) (A : Adr) (r : Nat × Ds) (op s : ByteArray) (w : World) (e : Ending) (w' : World) : Prop :=
  ∃ v R' A', e = .returned v ∧ ErrV a w' op s r.1 v ∧ CD B0 w' R' A' r.2 ∧ Own R R' w w' ∧ A'.p = A.p ∧ ∃ ψ, A'.φ = A.φ ++ ψ
theorem NamesOut.weak {r : Nat × Ds} {op s : ByteArray} {e : Ending} (h : NamesOut B0 a R A r op s w e w') : NamesOutF B0 a R A r op s w e w' := by
  obtain ⟨v, R', A', h1, h2, h3, h4, h5, h6⟩ := h
  exact ⟨v, R', A', h1, h2, h3, h4, h5, [], by simpa using h6⟩
theorem stepD_files (d : Ds) (fs : List By) : stepD { d with files := fs } = ((stepD d).1, { (stepD d).2 with files := fs }) := by
  unfold stepD
  split
  · rfl
  · split <;> rfl
theorem stepD_same (d : Ds) : (stepD d).2.things = d.things ∧ (stepD d).2.safe = d.safe ∧ (stepD d).2.steps = d.steps ∧ (stepD d).2.files = d.files := by
  unfold stepD
  split
  · exact ⟨rfl, rfl, rfl, rfl⟩
  · split <;> exact ⟨rfl, rfl, rfl, rfl⟩

set_option maxRecDepth 100000 in
set_option maxHeartbeats 4000000 in
theorem create_calls (S : ByteArray) (w : World) (h : CD B0 w R A d) (hf : Fit d) (hnu : Nums d) (hS : S.size ≤ 1073741824) (hB : B0 ≤ w.heap.size) (hF : Fails B0 a w) :
    Calls Tryz.prog 19 #[.pointer (some ⟨A.p, 0, none⟩), .string S] w (NamesOutF B0 a R A (createD d S.data.toList) ⟨#[99, 114, 101, 97, 116, 101]⟩ S w) := by
  obtain ⟨rn, hrn⟩ : ∃ r, pathB S.data.toList = r := ⟨_, rfl⟩
  have HNM := Lib.hid (fun w => path_calls S rn hrn hS w)
  have HRN := Lib.hid hrn
  obtain ⟨p, hp⟩ : ∃ p, A.p = p := ⟨_, rfl⟩
  have HP := Lib.hid hp
  rw [hp]
  have H0 := Lib.hid h
  clear hrn hp
  go_enter Tryz.func19, Tryz.ntmps19
  go_upto_region 1 with fail
  obtain ⟨w1, hw1⟩ : ∃ x, w.alloc (.cells #[.string S] 9) = x := ⟨_, rfl⟩
  have hb1 : Below w.heap.size w w1 := by rw [← hw1]; exact (Below.refl _ _).alloc (Nat.le_refl _) _
  have hq : Blk w1 w.heap.size 9 #[.string S] := by rw [← hw1]; exact Blk.new _ _ _
  rw [hw1]
  obtain ⟨q, hqq⟩ : ∃ q, w.heap.size = q := ⟨_, rfl⟩
  have hR0 : R q = 0 := h.inw.new (by omega)
  rw [hqq] at hq hB ⊢
  have HQ := Lib.hid hqq
  have q0 : _ = some (Value.string S) := hq.cell 0
  have hql := hq.lt
  clear hw1 hqq
  refine wp_region_later_tail 4 (by kernel_rfl) (by kernel_rfl) ?_
  simp only [List.take_succ_cons, List.take_zero, List.drop_succ_cons, List.drop_zero]
  repeat (go_big_quiet_step ((go_at_call 62; exact quiet_later _ (HNM.out _))))
  refine wpQuiet_nil ?_
  rintro w2 ⟨⟨_, hb2⟩, rfl⟩
  have hB2 := then_ hb1 hb2
  have hcd2 := h.below hB2
  have hF2 : Fails B0 a w2 := hF.below (hB2.mono (by have := HQ.out; omega))
  have hoff : w2.cell? ⟨p, 6, none⟩ = some (.bool d.off) := by rw [← HP.out]; exact Blk.cell hcd2.blk 6
  obtain ⟨k, hk⟩ : ∃ k, readyR d.off rn = k := ⟨_, rfl⟩
  have HK := Lib.hid hk
  have hq2 := hq.below hb2 hq.lt
  have hready := ready_calls (B0 := B0) (a := a) p d.off rn ⟨#[99, 114, 101, 97, 116, 101]⟩ S k hk w2 hoff hF2
  have HRD := Lib.hid hready
  clear hk hready hq q0 hql hb1 hb2
  go_wp2_with fail
  refine HRD.out.mono ?_
  rintro _ w3 ⟨v, rfl, hv3, hb3⟩
  have hB3 := then_ hB2 hb3
  have hcd3 := h.below hB3
  have hF3 := hF2.below (hb3.mono (by have := hB2.size; have := HQ.out; omega))
  have hq3 := hq2.below hb3 hq2.lt
  clear hcd2 hF2 hoff hq2 hb3 HRD hB2
  cases k with
  | succ k =>
    have hfin : NamesOutF B0 a R A (createD d S.data.toList) ⟨#[99, 114, 101, 97, 116, 101]⟩ S w (.returned v) w3 := by
      have e1 : createD d S.data.toList = (k + 1, d) := by
        have hk := HK.out
        unfold readyR at hk
        unfold createD
        rw [← hk, HRN.out]
        cases ho : d.off with
        | true => simp
        | false =>
          rw [ho] at hk
          cases rn with
          | true => simp at hk
          | false => simp
      rw [e1]
      exact (NamesOut.bad h hB3 hv3).weak
    obtain ⟨q4, rfl, _⟩ := hv3
    have HFIN := Lib.hid hfin
    clear hfin hcd3 hF3 hq3 hB3
    go_wp2_with fail
    go_ret
    exact HFIN.out
  | zero =>
    obtain rfl : v = .nilIface := hv3
    obtain ⟨ho, hn⟩ : d.off = false ∧ rn = true := by
      have hk := HK.out
      unfold readyR at hk
      cases ho : d.off with
      | true => rw [ho] at hk; simp at hk
      | false =>
        rw [ho] at hk
        cases rn with
        | true => exact ⟨rfl, rfl⟩
        | false => simp at hk
    have e1 : createD d S.data.toList = if parentB d.things S.data.toList = false then (4, d) else if isT d.things S.data.toList ≠ 0 then (5, d) else if (stepD d).1 ≠ 0 then stepD d else (0, { (namesD d (.create S.data.toList d.files.length)).2 with files := d.files ++ [⟨[], [], []⟩] }) := by
      unfold createD
      rw [ho, HRN.out, hn]
      simp
    have HE1 := Lib.hid e1
    obtain ⟨rp, hrp⟩ : ∃ r, parentB d.things S.data.toList = r := ⟨_, rfl⟩
    have hpar : ∀ x : Later w3, Calls Tryz.prog 63 #[.agg #[.map (some A.md), .map (some A.mf)], .string S] x.w fun e w' => e = .returned (.bool rp) ∧ Below x.w.heap.size x.w w' := fun x => tparent_calls A.md A.mf S rp hrp x.w (hcd3.dirs.1.below x.h hcd3.dirs.1.lt) hf.tw hS
    have HPAR := Lib.hid hpar
    have HRP := Lib.hid hrp
    have c0 : w3.cell? ⟨p, 0, none⟩ = some (.map (some A.md)) := by rw [← HP.out]; exact Blk.cell hcd3.blk 0
    have c1 : w3.cell? ⟨p, 1, none⟩ = some (.map (some A.mf)) := by rw [← HP.out]; exact Blk.cell hcd3.blk 1
    have q0 : _ = some (Value.string S) := hq3.cell 0
    have hql := hq3.lt
    have hpl : p < w3.heap.size := lt_of_cell c0
    have HNB := Lib.hid (HRN.out.trans hn)
    clear ho hn e1 HK hpar hrp
    go_upto_region 4 with fail
    refine wp_region_later (by kernel_rfl) (by kernel_rfl) ?_
    repeat (go_big_quiet_step ((go_at_call 63; exact quiet_later _ (HPAR.out _))))
    refine wpQuiet_nil ?_
    rintro w4 ⟨⟨_, hb4⟩, rfl⟩
    have hB4 := then_ hB3 hb4
    have hcd4 := h.below hB4
    have hq4 := hq3.below hb4 hq3.lt
    have hF4 := hF3.below (hb4.mono (by have := hB3.size; have := HQ.out; omega))
    clear hcd3 hF3 hq3 c0 c1 q0 hql hpl hb4 hB3 HPAR
    cases rp with
    | false =>
      have f4 : _ = some (failV a 4) := (hF4 4 (by decide)).2
      have hfl := fail_calls (a := a) ⟨#[99, 114, 101, 97, 116, 101]⟩ S 3 w4
      unfold failV at f4 hfl
      simp only [failG] at f4
      have HFL := Lib.hid hfl
      have e2 : createD d S.data.toList = (4, d) := by rw [HE1.out, if_pos HRP.out]
      have HE2 := Lib.hid e2
      have q0' : _ = some (Value.string S) := hq4.cell 0
      clear hfl hF4 e2
      go_wp2_with fail
      refine HFL.out.mono ?_
      rintro e w5 ⟨v, rfl, hv5, hb5⟩
      have hfin : NamesOutF B0 a R A (createD d S.data.toList) ⟨#[99, 114, 101, 97, 116, 101]⟩ S w (.returned v) w5 := by
        rw [HE2.out]
        exact (NamesOut.bad h (then_ hB4 hb5) hv5).weak
      have HFIN := Lib.hid hfin
      clear hfin hv5
      go_wp2_with fail
      go_ret
      exact HFIN.out
      
    | true =>
      obtain ⟨P, hP, hlf⟩ := look_fil hcd4 hf S hS
      have c0 : w4.cell? ⟨p, 0, none⟩ = some (.map (some A.md)) := by rw [← HP.out]; exact Blk.cell hcd4.blk 0
      have c1 : w4.cell? ⟨p, 1, none⟩ = some (.map (some A.mf)) := by rw [← HP.out]; exact Blk.cell hcd4.blk 1
      have q0 : _ = some (Value.string S) := hq4.cell 0
      have hql := hq4.lt
      have hpl : p < w4.heap.size := lt_of_cell c0
      have HPP := Lib.hid hP
      clear hP
      go_upto_region 6 with fail
      rcases isT_range d.things S.data.toList with h0 | h0 | h0
      · obtain rfl : P = none := HPP.out.2 (by rw [h0]; omega)
        have hlk := look_dir hcd4 hf S hS 0 (by rw [h0]; rfl)
        refine wp_region_later (by kernel_rfl) (by kernel_rfl) ?_
        repeat (go_big_quiet_step (fail))
        refine wpQuiet_nil ?_
        rintro w5 ⟨⟨_, hb5⟩, rfl⟩
        have hB5 := then_ hB4 hb5
        have hq5 := hq4.below hb5 hq4.lt
        have hF5 := hF4.below (hb5.mono (by have := hB4.size; have := HQ.out; omega))
        clear hlk hlf q0 c0 c1 hpl hql hcd4 hq4 hF4 hb5 hB4
        go_upto_region 9 with fail
        obtain ⟨w6, hw6⟩ : ∃ x, (w5.alloc (.cells #[.string ⟨#[]⟩, .string ⟨#[]⟩, .slice none 0 0] 143)).alloc (.cells #[.pointer (some ⟨w5.heap.size, 0, none⟩)] 140) = x := ⟨_, rfl⟩
        have hb6 : Below w5.heap.size w5 w6 := by rw [← hw6]; exact ((Below.refl _ _).alloc (Nat.le_refl _) _).alloc (by simp) _
        have hgf : Blk w6 w5.heap.size 143 #[.string ⟨#[]⟩, .string ⟨#[]⟩, .slice none 0 0] := by rw [← hw6]; exact (Blk.new _ _ _).alloc _
        have hvf : Blk w6 (w5.heap.size + 1) 140 #[.pointer (some ⟨w5.heap.size, 0, none⟩)] := by rw [← hw6]; exact Blk.newAt (by simp)
        rw [hw6]
        obtain ⟨gf, hgg⟩ : ∃ q, w5.heap.size = q := ⟨_, rfl⟩
        have hql5 := hq5.lt
        have hB6 := then_ hB5 hb6
        have hq6 := hq5.below hb6 hq5.lt
        have hF6 := hF5.below (hb6.mono (by have := hB5.size; have := HQ.out; omega))
        have hsz5 := hB5.size
        rw [hgg] at hgf hvf hql5 hsz5 ⊢
        have hgW : w.heap.size ≤ gf := hsz5
        have hqW := HQ.out
        have hRg : R gf = 0 := h.inw.new hgW
        have hRv : R (gf + 1) = 0 := h.inw.new (by omega)
        have hcd6 := h.below hB6
        have hcd7 : CD B0 w6 (giv R q 5) A d := hcd6.grant hq6.lt hR0 hB 5
        have hcd8 : CD B0 w6 (giv (giv R q 5) (gf + 1) 5) A d := hcd7.grant hvf.lt (by rw [giv_ne (by omega)]; exact hRv) (by omega) 5
        have hcd9 := hcd8.new_file hnu hgf (by rw [giv_ne (by omega), giv_ne (by omega)]; exact hRg) (by omega)
        have hφl := h.bytes.1
        have hST : StepM w6 (giv (giv (giv R q 5) (gf + 1) 5) gf (10 + 2 * d.files.length)) (A.φ ++ [gf]) (.create S.data.toList d.files.length) (.func (.func 66) #[] #[.pointer (some ⟨gf + 1, 0, none⟩), .pointer (some ⟨q, 0, none⟩)]) := by
          have e : txtV S.data.toList = .string S := by unfold txtV; rw [← bytes_of rfl]
          have e2 : fptr (A.φ ++ [gf]) d.files.length = .pointer (some ⟨gf, 0, none⟩) := by unfold fptr; rw [List.getElem?_append_right (by omega), hφl]; simp
          refine ⟨q, gf + 1, rfl, ?_, ?_⟩
          · rw [Box, e]
            exact ⟨hq6, by rw [giv_ne (by omega), giv_ne (by omega)]; exact giv_self _ _ _⟩
          · rw [Box, e2]
            exact ⟨hvf, by rw [giv_ne (by omega)]; exact giv_self _ _ _⟩
        have htw : TW (d.files.length + 1) d.things := ⟨hf.tw.nodup, hf.tw.dirs, hf.tw.paths, hf.tw.par, fun x hx hd => by have := hf.tw.ats x hx hd; omega, hf.tw.inj⟩
        have hok : StOk (d.files.length + 1) d.things (.create S.data.toList d.files.length) := ⟨HNB.out, HRP.out, h0, by omega, fun x hx hd => by have := hf.tw.ats x hx hd; omega⟩
        have hnm := names_calls (a := a) ⟨#[99, 114, 101, 97, 116, 101]⟩ S (.create S.data.toList d.files.length) _ _ w6 hcd9 hST (by simpa using htw) (by simpa using hok) (by have := hf.tl; simpa using (by omega : d.things.length ≤ 1073741824)) (by have := hf.sl; simpa using (by omega : d.steps.length ≤ 1073741824)) hf.aw (by have := hB6.size; omega) hF6
        have hOw : Own R (giv (giv (giv R q 5) (gf + 1) 5) gf (10 + 2 * d.files.length)) w w6 := by
          have o1 : Own R R w w6 := Own.of_below hB6
          exact ⟨o1.os, o1.tape, o1.output, o1.size, o1.block, fun k hk => by rw [giv_ne (by omega), giv_ne (by omega), giv_ne (by omega)]⟩
        have e2 : createD d S.data.toList = if (stepD d).1 ≠ 0 then stepD d else (0, { (namesD d (.create S.data.toList d.files.length)).2 with files := d.files ++ [⟨[], [], []⟩] }) := by rw [HE1.out, if_neg (by rw [HRP.out]; simp), if_neg (by rw [h0]; simp)]
        have HE2 := Lib.hid e2
        have HOW := Lib.hid hOw
        have HNM2 := Lib.hid hnm
        have HPL := Lib.hid hφl
        have q0' : _ = some (Value.string S) := hq6.cell 0
        simp only [HP.out] at HNM2
        clear hnm hST hcd6 hcd7 hcd8 hcd9 hF6 e2 hOw htw hok hw6 hgg h0 hgf hvf hb6 hB6 hq6 hF5 hφl
        go_wp2_with fail
        refine HNM2.out.mono ?_
        rintro e w7 hN
        obtain ⟨v, R', A', rfl, k2, k3, k4, k5, k6⟩ := hN
        have hfin : NamesOutF B0 a R A (createD d S.data.toList) ⟨#[99, 114, 101, 97, 116, 101]⟩ S w (.returned v) w7 := by
          have hss := stepD_same d
          have hsf := stepD_files d (d.files ++ [⟨[], [], []⟩])
          rw [HE2.out]
          by_cases hst : (stepD d).1 = 0
          · rw [if_neg (by simpa using hst)]
            have e3 : namesD { d with files := d.files ++ [⟨[], [], []⟩] } (.create S.data.toList d.files.length) = (0, { (namesD d (.create S.data.toList d.files.length)).2 with files := d.files ++ [⟨[], [], []⟩] }) := by
              unfold namesD
              rw [hsf]
              simp only [hst]
              simp
            rw [e3] at k2 k3
            exact ⟨v, R', A', rfl, k2, k3, HOW.out.trans k4, Eq.trans k5 HP.out.symm, ⟨[gf], k6⟩⟩
          · rw [if_pos hst]
            have e3 : namesD { d with files := d.files ++ [⟨[], [], []⟩] } (.create S.data.toList d.files.length) = ((stepD d).1, { (stepD d).2 with files := d.files ++ [⟨[], [], []⟩] }) := by
              unfold namesD
              rw [hsf, if_pos hst]
            rw [e3] at k2 k3
            obtain ⟨p', md', mf', sd', sf', sv', φ'⟩ := A'
            simp only at k5 k6
            subst k6
            have k7 := CD.drop_file (A := ⟨p', md', mf', sd', sf', sv', A.φ⟩) (d := (stepD d).2) k3 (by rw [HPL.out]) (by
              rw [← hss.2.2.2]
              exact ⟨by rw [hss.1, hss.2.2.2]; exact hnu.things, by rw [hss.2.1, hss.2.2.2]; exact hnu.safe, by rw [hss.2.2.1, hss.2.2.2]; exact hnu.steps⟩)
            have e4 : ({ (stepD d).2 with files := d.files } : Ds) = (stepD d).2 := by rw [← hss.2.2.2]
            rw [e4] at k7
            exact ⟨v, R', _, rfl, k2, k7, HOW.out.trans k4, Eq.trans k5 HP.out.symm, ⟨[], by simp⟩⟩
        have HFIN := Lib.hid hfin
        clear hfin k2 k3 k4 k5
        go_wp2_with fail
        go_ret
        exact HFIN.out
      · have hlk := look_dir hcd4 hf S hS 0 (by rw [h0]; rfl)
        obtain ⟨P', rfl⟩ : ∃ P', P = some P' := by
          cases P with
          | none => exact absurd h0 (HPP.out.1 rfl)
          | some P' => exact ⟨P', rfl⟩
        refine wp_region_later (by kernel_rfl) (by kernel_rfl) ?_
        repeat (go_big_quiet_step (fail))
        refine wpQuiet_nil ?_
        rintro w5 ⟨⟨_, hb5⟩, rfl⟩
        have hB5 := then_ hB4 hb5
        have hq5 := hq4.below hb5 hq4.lt
        have hF5 := hF4.below (hb5.mono (by have := hB4.size; have := HQ.out; omega))
        have f5 : _ = some (failV a 5) := (hF5 5 (by decide)).2
        have hfl := fail_calls (a := a) ⟨#[99, 114, 101, 97, 116, 101]⟩ S 4 w5
        unfold failV at f5 hfl
        simp only [failG] at f5
        have HFL := Lib.hid hfl
        have e2 : createD d S.data.toList = (5, d) := by rw [HE1.out, if_neg (by rw [HRP.out]; simp), if_pos (by rw [h0]; simp)]
        have HE2 := Lib.hid e2
        have q0' : _ = some (Value.string S) := hq5.cell 0
        clear hfl hF5 e2 hlk hlf q0 c0 c1 h0
        go_wp2_with fail
        refine HFL.out.mono ?_
        rintro e w6 ⟨v, rfl, hv6, hb6⟩
        have hfin : NamesOutF B0 a R A (createD d S.data.toList) ⟨#[99, 114, 101, 97, 116, 101]⟩ S w (.returned v) w6 := by
          rw [HE2.out]
          exact (NamesOut.bad h (then_ hB5 hb6) hv6).weak
        have HFIN := Lib.hid hfin
        clear hfin hv6
        go_wp2_with fail
        go_ret
        exact HFIN.out
        
      · have hlk := look_dir hcd4 hf S hS 1 (by rw [h0]; rfl)
        refine wp_region_later (by kernel_rfl) (by kernel_rfl) ?_
        repeat (go_big_quiet_step (fail))
        refine wpQuiet_nil ?_
        rintro w5 ⟨⟨_, hb5⟩, rfl⟩
        have hB5 := then_ hB4 hb5
        have hq5 := hq4.below hb5 hq4.lt
        have hF5 := hF4.below (hb5.mono (by have := hB4.size; have := HQ.out; omega))
        have f5 : _ = some (failV a 5) := (hF5 5 (by decide)).2
        have hfl := fail_calls (a := a) ⟨#[99, 114, 101, 97, 116, 101]⟩ S 4 w5
        unfold failV at f5 hfl
        simp only [failG] at f5
        have HFL := Lib.hid hfl
        have e2 : createD d S.data.toList = (5, d) := by rw [HE1.out, if_neg (by rw [HRP.out]; simp), if_pos (by rw [h0]; simp)]
        have HE2 := Lib.hid e2
        have q0' : _ = some (Value.string S) := hq5.cell 0
        clear hfl hF5 e2 hlk hlf q0 c0 c1 h0
        go_wp2_with fail
        refine HFL.out.mono ?_
        rintro e w6 ⟨v, rfl, hv6, hb6⟩
        have hfin : NamesOutF B0 a R A (createD d S.data.toList) ⟨#[99, 114, 101, 97, 116, 101]⟩ S w (.returned v) w6 := by
          rw [HE2.out]
          exact (NamesOut.bad h (then_ hB5 hb6) hv6).weak
        have HFIN := Lib.hid hfin
        clear hfin hv6
        go_wp2_with fail
        go_ret
        exact HFIN.out
        
end
end Go.Proofs.YtfpgbhimgfdddaaGreatDoor
