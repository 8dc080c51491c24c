/- Merged (what the claim wants of): DskWalksJ, DskWalksK, DskWalksL. -/
import Derived.Test.YtfpgbhimgfdddaaGreatDoorWak05
set_option linter.unusedVariables false
set_option linter.unusedSimpArgs false
/- The walks of layer 3 (disk): Mkdir, Remove. -/
namespace Go.Proofs.YtfpgbhimgfdddaaGreatDoor
open Go.RowKit Go.Shelf Go.Maps Go.Sort
attribute [local go_sem ↓] Go.wp_at_zero Go.wp_at_succ
attribute [local go_sem] Later.cell Later.frozen

section
variable {B0 : Nat} {a : Nat → Addr} {R : Nat → Nat} {A : Adr} {d : Ds} {w w' : World}
/-- A block that is nobody's gets a role. -/
theorem CD.grant (h : CD B0 w R A d) {b : Nat} (hb : b < w.heap.size) (hR : R b = 0) (hB : B0 ≤ b) (r : Nat) : CD B0 w (giv R b r) A d :=
  h.same (fun k hk => ⟨rfl, giv_ne (by rintro rfl; exact hk hR)⟩) (h.inw.give (Nat.le_refl _) hb) (fun k hk => by rw [giv_ne (by omega)]; exact h.low k hk)
/-- What the call may rely on: sizes, and that all is as it should be. -/
structure Fit (d : Ds) : Prop where
  tw : TW d.files.length d.things
  tl : d.things.length ≤ 536870912
  sl : d.steps.length ≤ 536870912
  fl : d.files.length ≤ 536870912
  aw : d.await ≤ 9223372036854775807

theorem look_dir (h : CD B0 w R A d) (hf : Fit d) (S : ByteArray) (hS : S.size ≤ 1073741824) (r : Int) (hr : (if isT d.things S.data.toList = 2 then 1 else 0) = r) (x : Later w) : (Instr.lookup 119 (.map (some A.md)) (.string S) false).run Tryz.prog x.w = .ok (.int .i64 r) x.w := by
  have h1 := h.dirs.1.below x.h h.dirs.1.lt
  have := h1.look Tryz.underlying9 Tryz.underlying119 (zeroI x.w) (s := S) (by unfold maxLen; omega)
  have key : (dirF d.things S.data.toList).getD (.int .i64 0) = .int .i64 r := by
    rw [← hr]
    split
    · rename_i e
      obtain ⟨v, hv⟩ := Option.isSome_iff_exists.1 ((dirF_two hf.tw).2 e)
      rw [hv, dirF_val hv]
      rfl
    · rename_i e
      cases hv : dirF d.things S.data.toList with
      | none => rfl
      | some v => exact absurd ((dirF_two hf.tw).1 (by rw [hv]; rfl)) e
  rw [this, key]
theorem look_fil (h : CD B0 w R A d) (hf : Fit d) (S : ByteArray) (hS : S.size ≤ 1073741824) : ∃ P : Option Addr, (P = none ↔ isT d.things S.data.toList ≠ 1) ∧ ∀ x : Later w, (Instr.lookup 120 (.map (some A.mf)) (.string S) false).run Tryz.prog x.w = .ok (.pointer P) x.w := by
  cases hv : filF A.φ d.things S.data.toList with
  | none =>
    refine ⟨none, ⟨fun _ e => ?_, fun _ => rfl⟩, fun x => ?_⟩
    · have := (filF_one (φ := A.φ) hf.tw).2 e
      rw [hv] at this
      cases this
    · have h1 := h.files.1.below x.h h.files.1.lt
      have := h1.look Tryz.underlying9 Tryz.underlying120 (zeroFl x.w) (s := S) (by unfold maxLen; omega)
      rw [this, hv]
      rfl
  | some v =>
    obtain ⟨y, hy, _, _, rfl⟩ := (filF_iff hf.tw.nodup).1 hv
    refine ⟨some ⟨A.φ[y.at_]?.getD 0, 0, none⟩, ⟨(fun e => by cases e), fun e => ?_⟩, fun x => ?_⟩
    · exact absurd ((filF_one (φ := A.φ) hf.tw).1 (by rw [hv]; rfl)) e
    · have h1 := h.files.1.below x.h h.files.1.lt
      have := h1.look Tryz.underlying9 Tryz.underlying120 (zeroFl x.w) (s := S) (by unfold maxLen; omega)
      rw [this, hv]
      rfl
theorem NamesOut.bad {k : Nat} {op s : ByteArray} {w0 : World} {v : Value} (h : CD B0 w0 R A d) (hb : Below w0.heap.size w0 w) (hv : ErrV a w op s k v) : NamesOut B0 a R A (k, d) op s w0 (.returned v) w :=
  ⟨v, R, A, rfl, hv, h.below hb, Own.of_below hb, rfl, rfl⟩

set_option maxRecDepth 100000 in
set_option maxHeartbeats 4000000 in
theorem mkdir_calls (S : ByteArray) (w : World) (h : CD B0 w R A d) (hf : Fit d) (hS : S.size ≤ 1073741824) (hB : B0 ≤ w.heap.size) (hF : Fails B0 a w) :
    Calls Tryz.prog 86 #[.pointer (some ⟨A.p, 0, none⟩), .string S] w (NamesOut B0 a R A (mkdirD d S.data.toList) ⟨#[109, 107, 100, 105, 114]⟩ S w) := by
  obtain ⟨rn, hrn⟩ : ∃ r, nameB S.data.toList = r := ⟨_, rfl⟩
  have HNM := Lib.hid (fun w => name_calls S rn hrn hS w)
  have HRN := Lib.hid hrn
  obtain ⟨p, hp⟩ : ∃ p, A.p = p := ⟨_, rfl⟩
  have HP := Lib.hid hp
  rw [hp]
  have H0 := Lib.hid h
  clear hrn hp
  go_enter Tryz.func86, Tryz.ntmps86
  go_upto_region 1 with fail
  obtain ⟨w1, hw1⟩ : ∃ x, w.alloc (.cells #[.string S] 9) = x := ⟨_, rfl⟩
  have hb1 : Below w.heap.size w w1 := by rw [← hw1]; exact (Below.refl _ _).alloc (Nat.le_refl _) _
  have hq : Blk w1 w.heap.size 9 #[.string S] := by rw [← hw1]; exact Blk.new _ _ _
  rw [hw1]
  obtain ⟨q, hqq⟩ : ∃ q, w.heap.size = q := ⟨_, rfl⟩
  have hR0 : R q = 0 := h.inw.new (by omega)
  rw [hqq] at hq hB ⊢
  have HQ := Lib.hid hqq
  have q0 : _ = some (Value.string S) := hq.cell 0
  have hql := hq.lt
  clear hw1 hqq
  refine wp_region_later_tail 4 (by kernel_rfl) (by kernel_rfl) ?_
  simp only [List.take_succ_cons, List.take_zero, List.drop_succ_cons, List.drop_zero]
  repeat (go_big_quiet_step ((go_at_call 80; exact quiet_same _ (HNM.out _))))
  refine wpQuiet_nil ?_
  rintro w2 ⟨⟨_, hb2⟩, rfl⟩
  have hB2 := then_ hb1 hb2
  have hcd2 := h.below hB2
  have hF2 : Fails B0 a w2 := hF.below (hB2.mono (by have := HQ.out; omega))
  have hoff : w2.cell? ⟨p, 6, none⟩ = some (.bool d.off) := by rw [← HP.out]; exact Blk.cell hcd2.blk 6
  obtain ⟨k, hk⟩ : ∃ k, readyR d.off rn = k := ⟨_, rfl⟩
  have HK := Lib.hid hk
  have hq2 := hq.below hb2 hq.lt
  have hready := ready_calls (B0 := B0) (a := a) p d.off rn ⟨#[109, 107, 100, 105, 114]⟩ S k hk w2 hoff hF2
  have HRD := Lib.hid hready
  clear hk hready hq q0 hql hb1 hb2
  go_wp2_with fail
  refine HRD.out.mono ?_
  rintro _ w3 ⟨v, rfl, hv3, hb3⟩
  have hB3 := then_ hB2 hb3
  have hcd3 := h.below hB3
  have hF3 := hF2.below (hb3.mono (by have := hB2.size; have := HQ.out; omega))
  have hq3 := hq2.below hb3 hq2.lt
  clear hcd2 hF2 hoff hq2 hb3 HRD hB2
  cases k with
  | succ k =>
    have hfin : NamesOut B0 a R A (mkdirD d S.data.toList) ⟨#[109, 107, 100, 105, 114]⟩ S w (.returned v) w3 := by
      have e1 : mkdirD d S.data.toList = (k + 1, d) := by
        have hk := HK.out
        unfold readyR at hk
        unfold mkdirD
        rw [← hk, HRN.out]
        cases ho : d.off with
        | true => simp
        | false =>
          rw [ho] at hk
          cases rn with
          | true => simp at hk
          | false => simp
      rw [e1]
      exact NamesOut.bad h hB3 hv3
    obtain ⟨q4, rfl, _⟩ := hv3
    have HFIN := Lib.hid hfin
    clear hfin hcd3 hF3 hq3 hB3
    go_wp2_with fail
    go_ret
    exact HFIN.out
  | zero =>
    obtain rfl : v = .nilIface := hv3
    obtain ⟨ho, hn⟩ : d.off = false ∧ rn = true := by
      have hk := HK.out
      unfold readyR at hk
      cases ho : d.off with
      | true => rw [ho] at hk; simp at hk
      | false =>
        rw [ho] at hk
        cases rn with
        | true => exact ⟨rfl, rfl⟩
        | false => simp at hk
    have e1 : mkdirD d S.data.toList = if isT d.things S.data.toList ≠ 0 then (5, d) else namesD d (.mkdir S.data.toList) := by
      unfold mkdirD
      rw [ho, HRN.out, hn]
      simp
    have HE1 := Lib.hid e1
    obtain ⟨P, hP, hlf⟩ := look_fil hcd3 hf S hS
    have c0 : w3.cell? ⟨p, 0, none⟩ = some (.map (some A.md)) := by rw [← HP.out]; exact Blk.cell hcd3.blk 0
    have c1 : w3.cell? ⟨p, 1, none⟩ = some (.map (some A.mf)) := by rw [← HP.out]; exact Blk.cell hcd3.blk 1
    have q0 : _ = some (Value.string S) := hq3.cell 0
    have hql := hq3.lt
    have hpl : p < w3.heap.size := lt_of_cell c0
    have HPP := Lib.hid hP
    have HNB := Lib.hid (HRN.out.trans hn)
    clear ho hn e1 hP HK
    go_upto_region 4 with fail
    rcases isT_range d.things S.data.toList with h0 | h0 | h0
    · obtain rfl : P = none := HPP.out.2 (by rw [h0]; omega)
      have hlk := look_dir hcd3 hf S hS 0 (by rw [h0]; rfl)
      refine wp_region_later (by kernel_rfl) (by kernel_rfl) ?_
      repeat (go_big_quiet_step (fail))
      refine wpQuiet_nil ?_
      rintro w4 ⟨⟨_, hb4⟩, rfl⟩
      have hB4 := then_ hB3 hb4
      have hcd4 := h.below hB4
      have hq4 := hq3.below hb4 hq3.lt
      have hcd5 : CD B0 w4 (giv R q 5) A d := hcd4.grant hq4.lt hR0 hB 5
      have hST : StepM w4 (giv R q 5) A.φ (.mkdir S.data.toList) (.func (.func 124) #[] #[.pointer (some ⟨q, 0, none⟩)]) := ⟨q, rfl, by
        have e : txtV S.data.toList = .string S := by unfold txtV; rw [← bytes_of rfl]
        rw [Box, e]
        exact ⟨hq4, giv_self R q 5⟩⟩
      have hF4 := hF3.below (hb4.mono (by have := hB3.size; have := HQ.out; omega))
      have hnm := names_calls (a := a) ⟨#[109, 107, 100, 105, 114]⟩ S (.mkdir S.data.toList) _ _ w4 hcd5 hST hf.tw ⟨HNB.out, h0⟩ (by have := hf.tl; omega) (by have := hf.sl; omega) hf.aw (by have := hB4.size; have := HQ.out; omega) hF4
      rw [HP.out] at hnm
      have e2 : mkdirD d S.data.toList = namesD d (.mkdir S.data.toList) := by rw [HE1.out, if_neg (by rw [h0]; simp)]
      have HE2 := Lib.hid e2
      have hO : Own R (giv R q 5) w w4 := (Own.of_below hB4).give (by have := HQ.out; omega)
      have HO := Lib.hid hO
      have HNM2 := Lib.hid hnm
      have q0' : _ = some (Value.string S) := hq4.cell 0
      clear hnm hST hcd4 hcd5 hF4 e2 hO hlk hlf q0 c0 c1 h0
      go_wp2_with fail
      refine HNM2.out.mono ?_
      rintro e w5 hN
      obtain ⟨v, R', A', rfl, k2, k3, k4, k5⟩ := hN
      have hfin : NamesOut B0 a R A (mkdirD d S.data.toList) ⟨#[109, 107, 100, 105, 114]⟩ S w (.returned v) w5 := by
        rw [HE2.out]
        exact ⟨v, R', A', rfl, k2, k3, HO.out.trans k4, k5⟩
      have HFIN := Lib.hid hfin
      clear hfin k2 k3 k4 k5
      go_wp2_with fail
      go_ret
      exact HFIN.out
    · have hlk := look_dir hcd3 hf S hS 0 (by rw [h0]; rfl)
      obtain ⟨P', rfl⟩ : ∃ P', P = some P' := by
        cases P with
        | none => exact absurd h0 (HPP.out.1 rfl)
        | some P' => exact ⟨P', rfl⟩
      refine wp_region_later (by kernel_rfl) (by kernel_rfl) ?_
      repeat (go_big_quiet_step (fail))
      refine wpQuiet_nil ?_
      rintro w4 ⟨⟨_, hb4⟩, rfl⟩
      have hB4 := then_ hB3 hb4
      have hq4 := hq3.below hb4 hq3.lt
      have hF4 := hF3.below (hb4.mono (by have := hB3.size; have := HQ.out; omega))
      have f5 : _ = some (failV a 5) := (hF4 5 (by decide)).2
      have hfl := fail_calls (a := a) ⟨#[109, 107, 100, 105, 114]⟩ S 4 w4
      unfold failV at f5 hfl
      simp only [failG] at f5
      have HFL := Lib.hid hfl
      have e2 : mkdirD d S.data.toList = (5, d) := by rw [HE1.out, if_pos (by rw [h0]; simp)]
      have HE2 := Lib.hid e2
      have q0' : _ = some (Value.string S) := hq4.cell 0
      clear hfl hF4 e2 hlk hlf q0 c0 c1 h0
      go_wp2_with fail
      refine HFL.out.mono ?_
      rintro e w5 ⟨v, rfl, hv5, hb5⟩
      have hfin : NamesOut B0 a R A (mkdirD d S.data.toList) ⟨#[109, 107, 100, 105, 114]⟩ S w (.returned v) w5 := by
        rw [HE2.out]
        exact NamesOut.bad h (then_ hB4 hb5) hv5
      have HFIN := Lib.hid hfin
      clear hfin hv5
      go_wp2_with fail
      go_ret
      exact HFIN.out
    · have hlk := look_dir hcd3 hf S hS 1 (by rw [h0]; rfl)
      refine wp_region_later (by kernel_rfl) (by kernel_rfl) ?_
      repeat (go_big_quiet_step (fail))
      refine wpQuiet_nil ?_
      rintro w4 ⟨⟨_, hb4⟩, rfl⟩
      have hB4 := then_ hB3 hb4
      have hq4 := hq3.below hb4 hq3.lt
      have hF4 := hF3.below (hb4.mono (by have := hB3.size; have := HQ.out; omega))
      have f5 : _ = some (failV a 5) := (hF4 5 (by decide)).2
      have hfl := fail_calls (a := a) ⟨#[109, 107, 100, 105, 114]⟩ S 4 w4
      unfold failV at f5 hfl
      simp only [failG] at f5
      have HFL := Lib.hid hfl
      have e2 : mkdirD d S.data.toList = (5, d) := by rw [HE1.out, if_pos (by rw [h0]; simp)]
      have HE2 := Lib.hid e2
      have q0' : _ = some (Value.string S) := hq4.cell 0
      clear hfl hF4 e2 hlk hlf q0 c0 c1 h0
      go_wp2_with fail
      refine HFL.out.mono ?_
      rintro e w5 ⟨v, rfl, hv5, hb5⟩
      have hfin : NamesOut B0 a R A (mkdirD d S.data.toList) ⟨#[109, 107, 100, 105, 114]⟩ S w (.returned v) w5 := by
        rw [HE2.out]
        exact NamesOut.bad h (then_ hB4 hb5) hv5
      have HFIN := Lib.hid hfin
      clear hfin hv5
      go_wp2_with fail
      go_ret
      exact HFIN.out
end
end Go.Proofs.YtfpgbhimgfdddaaGreatDoor

/- The walks of layer 3 (disk): Remove. -/
namespace Go.Proofs.YtfpgbhimgfdddaaGreatDoor
open Go.RowKit Go.Shelf Go.Maps Go.Sort
attribute [local go_sem ↓] Go.wp_at_zero Go.wp_at_succ
attribute [local go_sem] Later.cell Later.frozen

section
variable {B0 : Nat} {a : Nat → Addr} {R : Nat → Nat} {A : Adr} {d : Ds} {w w' : World}

set_option maxRecDepth 100000 in
set_option maxHeartbeats 4000000 in
theorem remove_calls (S : ByteArray) (w : World) (h : CD B0 w R A d) (hf : Fit d) (hS : S.size ≤ 1073741824) (hB : B0 ≤ w.heap.size) (hF : Fails B0 a w) :
    Calls Tryz.prog 74 #[.pointer (some ⟨A.p, 0, none⟩), .string S] w (NamesOut B0 a R A (removeD d S.data.toList) ⟨#[114, 101, 109, 111, 118, 101]⟩ S w) := by
  obtain ⟨rn, hrn⟩ : ∃ r, pathB S.data.toList = r := ⟨_, rfl⟩
  have HNM := Lib.hid (fun w => path_calls S rn hrn hS w)
  have HRN := Lib.hid hrn
  obtain ⟨p, hp⟩ : ∃ p, A.p = p := ⟨_, rfl⟩
  have HP := Lib.hid hp
  rw [hp]
  have H0 := Lib.hid h
  clear hrn hp
  go_enter Tryz.func74, Tryz.ntmps74
  go_upto_region 1 with fail
  obtain ⟨w1, hw1⟩ : ∃ x, w.alloc (.cells #[.string S] 9) = x := ⟨_, rfl⟩
  have hb1 : Below w.heap.size w w1 := by rw [← hw1]; exact (Below.refl _ _).alloc (Nat.le_refl _) _
  have hq : Blk w1 w.heap.size 9 #[.string S] := by rw [← hw1]; exact Blk.new _ _ _
  rw [hw1]
  obtain ⟨q, hqq⟩ : ∃ q, w.heap.size = q := ⟨_, rfl⟩
  have hR0 : R q = 0 := h.inw.new (by omega)
  rw [hqq] at hq hB ⊢
  have HQ := Lib.hid hqq
  have q0 : _ = some (Value.string S) := hq.cell 0
  have hql := hq.lt
  clear hw1 hqq
  refine wp_region_later_tail 4 (by kernel_rfl) (by kernel_rfl) ?_
  simp only [List.take_succ_cons, List.take_zero, List.drop_succ_cons, List.drop_zero]
  repeat (go_big_quiet_step ((go_at_call 62; exact quiet_later _ (HNM.out _))))
  refine wpQuiet_nil ?_
  rintro w2 ⟨⟨_, hb2⟩, rfl⟩
  have hB2 := then_ hb1 hb2
  have hcd2 := h.below hB2
  have hF2 : Fails B0 a w2 := hF.below (hB2.mono (by have := HQ.out; omega))
  have hoff : w2.cell? ⟨p, 6, none⟩ = some (.bool d.off) := by rw [← HP.out]; exact Blk.cell hcd2.blk 6
  obtain ⟨k, hk⟩ : ∃ k, readyR d.off rn = k := ⟨_, rfl⟩
  have HK := Lib.hid hk
  have hq2 := hq.below hb2 hq.lt
  have hready := ready_calls (B0 := B0) (a := a) p d.off rn ⟨#[114, 101, 109, 111, 118, 101]⟩ S k hk w2 hoff hF2
  have HRD := Lib.hid hready
  clear hk hready hq q0 hql hb1 hb2
  go_wp2_with fail
  refine HRD.out.mono ?_
  rintro _ w3 ⟨v, rfl, hv3, hb3⟩
  have hB3 := then_ hB2 hb3
  have hcd3 := h.below hB3
  have hF3 := hF2.below (hb3.mono (by have := hB2.size; have := HQ.out; omega))
  have hq3 := hq2.below hb3 hq2.lt
  clear hcd2 hF2 hoff hq2 hb3 HRD hB2
  cases k with
  | succ k =>
    have hfin : NamesOut B0 a R A (removeD d S.data.toList) ⟨#[114, 101, 109, 111, 118, 101]⟩ S w (.returned v) w3 := by
      have e1 : removeD d S.data.toList = (k + 1, d) := by
        have hk := HK.out
        unfold readyR at hk
        unfold removeD
        rw [← hk, HRN.out]
        cases ho : d.off with
        | true => simp
        | false =>
          rw [ho] at hk
          cases rn with
          | true => simp at hk
          | false => simp
      rw [e1]
      exact NamesOut.bad h hB3 hv3
    obtain ⟨q4, rfl, _⟩ := hv3
    have HFIN := Lib.hid hfin
    clear hfin hcd3 hF3 hq3 hB3
    go_wp2_with fail
    go_ret
    exact HFIN.out
  | zero =>
    obtain rfl : v = .nilIface := hv3
    obtain ⟨ho, hn⟩ : d.off = false ∧ rn = true := by
      have hk := HK.out
      unfold readyR at hk
      cases ho : d.off with
      | true => rw [ho] at hk; simp at hk
      | false =>
        rw [ho] at hk
        cases rn with
        | true => exact ⟨rfl, rfl⟩
        | false => simp at hk
    have e1 : removeD d S.data.toList = if isT d.things S.data.toList = 0 then (4, d) else namesD d (.remove S.data.toList) := by
      unfold removeD
      rw [ho, HRN.out, hn]
      simp
    have HE1 := Lib.hid e1
    obtain ⟨P, hP, hlf⟩ := look_fil hcd3 hf S hS
    have c0 : w3.cell? ⟨p, 0, none⟩ = some (.map (some A.md)) := by rw [← HP.out]; exact Blk.cell hcd3.blk 0
    have c1 : w3.cell? ⟨p, 1, none⟩ = some (.map (some A.mf)) := by rw [← HP.out]; exact Blk.cell hcd3.blk 1
    have q0 : _ = some (Value.string S) := hq3.cell 0
    have hql := hq3.lt
    have hpl : p < w3.heap.size := lt_of_cell c0
    have HPP := Lib.hid hP
    have HNB := Lib.hid (HRN.out.trans hn)
    clear ho hn e1 hP HK
    go_upto_region 4 with fail
    rcases isT_range d.things S.data.toList with h0 | h0 | h0
    · obtain rfl : P = none := HPP.out.2 (by rw [h0]; omega)
      have hlk := look_dir hcd3 hf S hS 0 (by rw [h0]; rfl)
      refine wp_region_later (by kernel_rfl) (by kernel_rfl) ?_
      repeat (go_big_quiet_step (fail))
      refine wpQuiet_nil ?_
      rintro w4 ⟨⟨_, hb4⟩, rfl⟩
      have hB4 := then_ hB3 hb4
      have hq4 := hq3.below hb4 hq3.lt
      have hF4 := hF3.below (hb4.mono (by have := hB3.size; have := HQ.out; omega))
      have f5 : _ = some (failV a 4) := (hF4 4 (by decide)).2
      have hfl := fail_calls (a := a) ⟨#[114, 101, 109, 111, 118, 101]⟩ S 3 w4
      unfold failV at f5 hfl
      simp only [failG] at f5
      have HFL := Lib.hid hfl
      have e2 : removeD d S.data.toList = (4, d) := by rw [HE1.out, if_pos h0]
      have HE2 := Lib.hid e2
      have q0' : _ = some (Value.string S) := hq4.cell 0
      clear hfl hF4 e2 hlk hlf q0 c0 c1 h0
      go_wp2_with fail
      refine HFL.out.mono ?_
      rintro e w5 ⟨v, rfl, hv5, hb5⟩
      have hfin : NamesOut B0 a R A (removeD d S.data.toList) ⟨#[114, 101, 109, 111, 118, 101]⟩ S w (.returned v) w5 := by
        rw [HE2.out]
        exact NamesOut.bad h (then_ hB4 hb5) hv5
      have HFIN := Lib.hid hfin
      clear hfin hv5
      go_wp2_with fail
      go_ret
      exact HFIN.out
    · obtain ⟨P', rfl⟩ : ∃ P', P = some P' := by
        cases P with
        | none => exact absurd h0 (HPP.out.1 rfl)
        | some P' => exact ⟨P', rfl⟩
      have hlk := look_dir hcd3 hf S hS 0 (by rw [h0]; rfl)
      refine wp_region_later (by kernel_rfl) (by kernel_rfl) ?_
      repeat (go_big_quiet_step (fail))
      refine wpQuiet_nil ?_
      rintro w4 ⟨⟨_, hb4⟩, rfl⟩
      have hB4 := then_ hB3 hb4
      have hcd4 := h.below hB4
      have hq4 := hq3.below hb4 hq3.lt
      have hcd5 : CD B0 w4 (giv R q 5) A d := hcd4.grant hq4.lt hR0 hB 5
      have hST : StepM w4 (giv R q 5) A.φ (.remove S.data.toList) (.func (.func 115) #[] #[.pointer (some ⟨q, 0, none⟩)]) := ⟨q, rfl, by
        have e : txtV S.data.toList = .string S := by unfold txtV; rw [← bytes_of rfl]
        rw [Box, e]
        exact ⟨hq4, giv_self R q 5⟩⟩
      have hF4 := hF3.below (hb4.mono (by have := hB3.size; have := HQ.out; omega))
      have hnm := names_calls (a := a) ⟨#[114, 101, 109, 111, 118, 101]⟩ S (.remove S.data.toList) _ _ w4 hcd5 hST hf.tw ⟨HNB.out, by rw [h0]; simp⟩ (by have := hf.tl; omega) (by have := hf.sl; omega) hf.aw (by have := hB4.size; have := HQ.out; omega) hF4
      rw [HP.out] at hnm
      have e2 : removeD d S.data.toList = namesD d (.remove S.data.toList) := by rw [HE1.out, if_neg (by rw [h0]; simp)]
      have HE2 := Lib.hid e2
      have hO : Own R (giv R q 5) w w4 := (Own.of_below hB4).give (by have := HQ.out; omega)
      have HO := Lib.hid hO
      have HNM2 := Lib.hid hnm
      have q0' : _ = some (Value.string S) := hq4.cell 0
      clear hnm hST hcd4 hcd5 hF4 e2 hO hlk hlf q0 c0 c1 h0
      go_wp2_with fail
      refine HNM2.out.mono ?_
      rintro e w5 hN
      obtain ⟨v, R', A', rfl, k2, k3, k4, k5⟩ := hN
      have hfin : NamesOut B0 a R A (removeD d S.data.toList) ⟨#[114, 101, 109, 111, 118, 101]⟩ S w (.returned v) w5 := by
        rw [HE2.out]
        exact ⟨v, R', A', rfl, k2, k3, HO.out.trans k4, k5⟩
      have HFIN := Lib.hid hfin
      clear hfin k2 k3 k4 k5
      go_wp2_with fail
      go_ret
      exact HFIN.out
    · have _t := trivial
      have hlk := look_dir hcd3 hf S hS 1 (by rw [h0]; rfl)
      refine wp_region_later (by kernel_rfl) (by kernel_rfl) ?_
      repeat (go_big_quiet_step (fail))
      refine wpQuiet_nil ?_
      rintro w4 ⟨⟨_, hb4⟩, rfl⟩
      have hB4 := then_ hB3 hb4
      have hcd4 := h.below hB4
      have hq4 := hq3.below hb4 hq3.lt
      have hcd5 : CD B0 w4 (giv R q 5) A d := hcd4.grant hq4.lt hR0 hB 5
      have hST : StepM w4 (giv R q 5) A.φ (.remove S.data.toList) (.func (.func 115) #[] #[.pointer (some ⟨q, 0, none⟩)]) := ⟨q, rfl, by
        have e : txtV S.data.toList = .string S := by unfold txtV; rw [← bytes_of rfl]
        rw [Box, e]
        exact ⟨hq4, giv_self R q 5⟩⟩
      have hF4 := hF3.below (hb4.mono (by have := hB3.size; have := HQ.out; omega))
      have hnm := names_calls (a := a) ⟨#[114, 101, 109, 111, 118, 101]⟩ S (.remove S.data.toList) _ _ w4 hcd5 hST hf.tw ⟨HNB.out, by rw [h0]; simp⟩ (by have := hf.tl; omega) (by have := hf.sl; omega) hf.aw (by have := hB4.size; have := HQ.out; omega) hF4
      rw [HP.out] at hnm
      have e2 : removeD d S.data.toList = namesD d (.remove S.data.toList) := by rw [HE1.out, if_neg (by rw [h0]; simp)]
      have HE2 := Lib.hid e2
      have hO : Own R (giv R q 5) w w4 := (Own.of_below hB4).give (by have := HQ.out; omega)
      have HO := Lib.hid hO
      have HNM2 := Lib.hid hnm
      have q0' : _ = some (Value.string S) := hq4.cell 0
      clear hnm hST hcd4 hcd5 hF4 e2 hO hlk hlf q0 c0 c1 h0
      go_wp2_with fail
      refine HNM2.out.mono ?_
      rintro e w5 hN
      obtain ⟨v, R', A', rfl, k2, k3, k4, k5⟩ := hN
      have hfin : NamesOut B0 a R A (removeD d S.data.toList) ⟨#[114, 101, 109, 111, 118, 101]⟩ S w (.returned v) w5 := by
        rw [HE2.out]
        exact ⟨v, R', A', rfl, k2, k3, HO.out.trans k4, k5⟩
      have HFIN := Lib.hid hfin
      clear hfin k2 k3 k4 k5
      go_wp2_with fail
      go_ret
      exact HFIN.out
end
end Go.Proofs.YtfpgbhimgfdddaaGreatDoor

/- The walks of layer 3 (disk): a tree's parent; a file more. -/
namespace Go.Proofs.YtfpgbhimgfdddaaGreatDoor
open Go.RowKit Go.Shelf Go.Maps Go.Sort
attribute [local go_sem ↓] Go.wp_at_zero Go.wp_at_succ
attribute [local go_sem] Later.cell Later.frozen

set_option maxRecDepth 100000 in
set_option maxHeartbeats 1000000 in
theorem tparent_calls {n : Nat} {l : List Th} (md mf : Nat) (S : ByteArray) (r : Bool) (hr : parentB l S.data.toList = r) (w : World) (hd : SM w md (dirF l)) (hw : TW n l) (hS : S.size ≤ 1073741824) :
    Calls Tryz.prog 63 #[.agg #[.map (some md), .map (some mf)], .string S] w fun e w' => e = .returned (.bool r) ∧ Below w.heap.size w w' := by
  obtain ⟨X, Y, f, h1, h2, h3, _⟩ := cut_pair S
  have HC := Lib.hid (fun w => cut3_calls S X Y f h1 hS w)
  have hrf : r = if f then decide (isT l X.data.toList = 2) else true := by
    rw [← hr]
    unfold cutR at h1
    unfold parentB
    cases hs : slashAt S.data.toList with
    | none =>
      rw [hs] at h1
      obtain ⟨_, _, rfl⟩ : S.data.toList = X.data.toList ∧ [] = Y.data.toList ∧ false = f := by simpa using h1
      rfl
    | some k =>
      rw [hs] at h1
      obtain ⟨e1, _, rfl⟩ : S.data.toList.take k = X.data.toList ∧ S.data.toList.drop (k + 1) = Y.data.toList ∧ true = f := by simpa using h1
      rw [← e1]
      simp only [if_true]
      rw [Bool.eq_iff_iff]
      simp
  have HR := Lib.hid hrf
  clear hr h1 hrf
  go_enter Tryz.func63, Tryz.ntmps63
  go_upto_region 1 with fail
  obtain ⟨w1, hw1⟩ : ∃ x, w.alloc (.cells #[.map (some md), .map (some mf)] 122) = x := ⟨_, rfl⟩
  have hb1 : Below w.heap.size w w1 := by rw [← hw1]; exact (Below.refl _ _).alloc (Nat.le_refl _) _
  have hq : Blk w1 w.heap.size 122 #[.map (some md), .map (some mf)] := by rw [← hw1]; exact Blk.new _ _ _
  rw [hw1]
  obtain ⟨q, hqq⟩ : ∃ q, w.heap.size = q := ⟨_, rfl⟩
  have HB1 := Lib.hid hb1
  have hd1 := hd.below hb1 hd.lt
  rw [hqq] at hq ⊢
  clear hw1 hqq hb1
  go_wp2_with fail
  refine (HC.out w1).mono ?_
  rintro e w2 ⟨rfl, hb2⟩
  have hB2 := then_ HB1.out hb2
  have hq2 := hq.below hb2 hq.lt
  have q0 : _ = some (Value.map (some md)) := hq2.cell 0
  have hd2 := hd1.below hb2 hd1.lt
  cases f with
  | false =>
    obtain rfl : r = true := by have := HR.out; simpa using this
    go_wp2_with fail
    go_ret
    exact ⟨rfl, hB2⟩
  | true =>
    have hrr := HR.out
    simp only [if_true] at hrr
    have hlk := hd2.look Tryz.underlying9 Tryz.underlying119 (zeroI w2) (s := X) (by unfold maxLen; omega)
    by_cases h2 : isT l X.data.toList = 2
    · obtain rfl : r = true := by rw [hrr]; simp [h2]
      obtain ⟨v, hv⟩ := Option.isSome_iff_exists.1 ((dirF_two hw).2 h2)
      rw [hv, dirF_val hv] at hlk
      simp only [Option.getD_some] at hlk
      clear hrr hv h2
      go_wp2_with fail
      go_ret
      exact ⟨rfl, hB2⟩
    · obtain rfl : r = false := by rw [hrr]; simp [h2]
      have hv : dirF l X.data.toList = none := by
        cases hv : dirF l X.data.toList with
        | none => rfl
        | some v => exact absurd ((dirF_two hw).1 (by rw [hv]; rfl)) h2
      rw [hv] at hlk
      simp only [Option.getD_none] at hlk
      clear hrr hv h2
      go_wp2_with fail
      go_ret
      exact ⟨rfl, hB2⟩

/-! ### a file more, a file less -/
section
variable {B0 : Nat} {a : Nat → Addr} {R : Nat → Nat} {A : Adr} {d : Ds} {w w' : World}
/-- No number of a file that there isn't. -/
structure Nums (d : Ds) : Prop where
  things : ∀ x ∈ d.things, x.dir = false → x.at_ < d.files.length
  safe : ∀ x ∈ d.safe, x.dir = false → x.at_ < d.files.length
  steps : ∀ s i, St.create s i ∈ d.steps → i < d.files.length
theorem fptr_app {φ : List Nat} {g i : Nat} (h : i < φ.length) : fptr (φ ++ [g]) i = fptr φ i := by
  unfold fptr
  rw [List.getElem?_append_left h]
theorem filF_app {φ : List Nat} {g : Nat} {l : List Th} (h : ∀ x ∈ l, x.dir = false → x.at_ < φ.length) : filF (φ ++ [g]) l = filF φ l := by
  funext x
  unfold filF
  cases hf : l.find? fun y => !y.dir && y.path == x with
  | none => rfl
  | some y =>
    have h1 := List.find?_some hf
    simp only [Bool.and_eq_true, Bool.not_eq_true'] at h1
    simp only [Option.map_some]
    rw [fptr_app (h y (List.mem_of_find?_eq_some hf) h1.1)]
theorem StepM_app {φ : List Nat} {g : Nat} {s : St} {v : Value} (h : ∀ x i, s = .create x i → i < φ.length) : StepM w R (φ ++ [g]) s v ↔ StepM w R φ s v := by
  cases s with
  | mkdir a => exact Iff.rfl
  | create a i => simp only [StepM]; rw [fptr_app (h a i rfl)]
  | rename a b => exact Iff.rfl
  | remove a => exact Iff.rfl
theorem StepsM_app {φ : List Nat} {g : Nat} {l : List St} {v : Value} (h : ∀ x i, St.create x i ∈ l → i < φ.length) : StepsM w R v (φ ++ [g]) l ↔ StepsM w R v φ l := by
  unfold StepsM
  constructor
  · rintro ⟨fs, h1, h2, h3⟩
    exact ⟨fs, h1, h2, fun i s f hs hf => (StepM_app fun x j e => h x j (e ▸ List.mem_of_getElem? hs)).1 (h3 i s f hs hf)⟩
  · rintro ⟨fs, h1, h2, h3⟩
    exact ⟨fs, h1, h2, fun i s f hs hf => (StepM_app fun x j e => h x j (e ▸ List.mem_of_getElem? hs)).2 (h3 i s f hs hf)⟩
theorem CD.new_file (h : CD B0 w R A d) (hn : Nums d) {g : Nat} (hg : Blk w g 143 #[.string ⟨#[]⟩, .string ⟨#[]⟩, .slice none 0 0]) (hR : R g = 0) (hB : B0 ≤ g) :
    CD B0 w (giv R g (10 + 2 * d.files.length)) { A with φ := A.φ ++ [g] } { d with files := d.files ++ [⟨[], [], []⟩] } := by
  have h1 := h.grant hg.lt hR hB (10 + 2 * d.files.length)
  have hl := h.bytes.1
  exact {
    blk := h1.blk
    rp := h1.rp
    dirs := h1.dirs
    files := by rw [filF_app (fun x hx hd => by rw [hl]; exact hn.things x hx hd)]; exact h1.files
    sdirs := h1.sdirs
    sfiles := by rw [filF_app (fun x hx hd => by rw [hl]; exact hn.safe x hx hd)]; exact h1.sfiles
    steps := (StepsM_app (fun x i hx => by rw [hl]; exact hn.steps x i hx)).2 h1.steps
    bytes := by
      refine ⟨by simp [hl], fun i b f hb hf => ?_⟩
      rw [List.getElem?_append] at hb hf
      rw [hl] at hb
      split at hb
      · rename_i hi
        rw [if_pos hi] at hf
        exact h1.bytes.2 i b f hb hf
      · rename_i hi
        rw [if_neg hi] at hf
        have hi0 : i - d.files.length = 0 := by
          apply Classical.byContradiction
          intro hne
          rw [List.getElem?_eq_none (by simp; omega)] at hb
          cases hb
        rw [hi0] at hb hf
        simp at hb hf
        subst hb hf
        obtain rfl : i = d.files.length := by omega
        exact ⟨.slice none 0 0, hg, giv_self _ _ _, RowIs.nil⟩
    inw := h1.inw
    low := h1.low }
theorem CD.drop_file {φ : List Nat} {g : Nat} {fs : List By} {f : By} (h : CD B0 w R { A with φ := φ ++ [g] } { d with files := fs ++ [f] }) (hl : φ.length = fs.length) (hn : Nums { d with files := fs }) : CD B0 w R { A with φ := φ } { d with files := fs } where
  blk := h.blk
  rp := h.rp
  dirs := h.dirs
  files := by have := h.files; rw [filF_app (fun x hx hd => by rw [hl]; exact hn.things x hx hd)] at this; exact this
  sdirs := h.sdirs
  sfiles := by have := h.sfiles; rw [filF_app (fun x hx hd => by rw [hl]; exact hn.safe x hx hd)] at this; exact this
  steps := (StepsM_app (fun x i hx => by rw [hl]; exact hn.steps x i hx)).1 h.steps
  bytes := ⟨hl, fun i b f' hb hf => h.bytes.2 i b f' (by rw [List.getElem?_append_left (List.getElem?_eq_some_iff.1 hb).1]; exact hb) (by rw [List.getElem?_append_left (List.getElem?_eq_some_iff.1 hf).1]; exact hf)⟩
  inw := h.inw
  low := h.low
end
end Go.Proofs.YtfpgbhimgfdddaaGreatDoor
