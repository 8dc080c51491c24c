/- Merged (what the claim wants of): DskWalksV. -/
import Derived.Test.YtfpgbhimgfdddaaGreatDoorWak09
set_option linter.unusedVariables false
set_option linter.unusedSimpArgs false
/- The walks of layer 3 (disk): Rename. -/
namespace Go.Proofs.YtfpgbhimgfdddaaGreatDoor
open Go.RowKit Go.Shelf Go.Maps Go.Sort
attribute [local go_sem ↓] Go.wp_at_zero Go.wp_at_succ
attribute [local go_sem] Later.cell Later.frozen

section
variable {B0 : Nat} {a : Nat → Addr} {R : Nat → Nat} {A : Adr} {d : Ds} {w w' : World}
/-- A world in the midst of Rename. -/
structure RS (w : World) (q : Nat) (S S2 : ByteArray) (W : World) : Prop where
  below : Below w.heap.size w W
  one : Blk W q 9 #[.string S]
  two : Blk W (q + 1) 9 #[.string S2]
theorem RS.later {q : Nat} {S S2 : ByteArray} {W W' : World} (h : RS w q S S2 W) (hb : Below W.heap.size W W') : RS w q S S2 W' := ⟨then_ h.below hb, h.one.below hb h.one.lt, h.two.below hb h.two.lt⟩
set_option maxRecDepth 100000 in
set_option maxHeartbeats 1000000 in
theorem rename_calls (S S2 : ByteArray) (w : World) (h : CD B0 w R A d) (hf : Fit d) (hS : S.size ≤ 1073741824) (hS2 : S2.size ≤ 1073741824) (hB : B0 ≤ w.heap.size) (hF : Fails B0 a w) :
    Calls Tryz.prog 73 #[.pointer (some ⟨A.p, 0, none⟩), .string S, .string S2] w (NamesOut B0 a R A (renameD d S.data.toList S2.data.toList) ⟨#[114, 101, 110, 97, 109, 101]⟩ S w) := by
  obtain ⟨r1, hr1⟩ : ∃ r, pathB S.data.toList = r := ⟨_, rfl⟩
  obtain ⟨r2, hr2⟩ : ∃ r, pathB S2.data.toList = r := ⟨_, rfl⟩
  have HN1 := Lib.hid (fun w => path_calls S r1 hr1 hS w)
  have HN2 := Lib.hid (fun w => path_calls S2 r2 hr2 hS2 w)
  have HR1 := Lib.hid hr1
  have HR2 := Lib.hid hr2
  obtain ⟨p, hp⟩ : ∃ p, A.p = p := ⟨_, rfl⟩
  have HP := Lib.hid hp
  rw [hp]
  clear hr1 hr2 hp
  go_enter Tryz.func73, Tryz.ntmps73
  go_upto_region 1 with fail
  obtain ⟨W, hw1⟩ : ∃ x, (w.alloc (.cells #[.string S] 9)).alloc (.cells #[.string S2] 9) = x := ⟨_, rfl⟩
  have hb1 : Below w.heap.size w W := by rw [← hw1]; exact ((Below.refl _ _).alloc (Nat.le_refl _) _).alloc (by simp) _
  have hk1 : Blk W w.heap.size 9 #[.string S] := by rw [← hw1]; exact (Blk.new _ _ _).alloc _
  have hk2 : Blk W (w.heap.size + 1) 9 #[.string S2] := by rw [← hw1]; exact Blk.newAt (by simp)
  rw [hw1]
  obtain ⟨q, hqq⟩ : ∃ q, w.heap.size = q := ⟨_, rfl⟩
  rw [hqq] at hk1 hk2 ⊢
  have HQ := Lib.hid hqq
  have HRS := Lib.hid (show RS w q S S2 W from ⟨hb1, hk1, hk2⟩)
  clear hw1 hqq hb1 hk1 hk2
  cases r1 with
  | false =>
    have hrs := HRS.out
    have hcd := h.below hrs.below
    have hF3 := hF.below (hrs.below.mono hB)
    have c0 : W.cell? ⟨p, 0, none⟩ = some (.map (some A.md)) := by rw [← HP.out]; exact Blk.cell hcd.blk 0
    have c1 : W.cell? ⟨p, 1, none⟩ = some (.map (some A.mf)) := by rw [← HP.out]; exact Blk.cell hcd.blk 1
    have q0 : W.cell? ⟨q, 0, none⟩ = some (.string S) := hrs.one.cell 0
    have q1 : W.cell? ⟨q + 1, 0, none⟩ = some (.string S2) := hrs.two.cell 0
    have hql := hrs.one.lt
    have hql2 := hrs.two.lt
    have hpl : p < W.heap.size := lt_of_cell c0
    refine wp_region_later_tail 8 (by kernel_rfl) (by kernel_rfl) ?_
    simp only [List.take_succ_cons, List.take_zero, List.drop_succ_cons, List.drop_zero]
    repeat (go_big_quiet_step ((go_at_call 62; exact quiet_later _ (HN1.out _))))
    refine wpQuiet_nil ?_
    rintro W ⟨⟨_, hb2⟩, rfl⟩
    have hrs2 := HRS.out.later hb2
    clear hrs hcd hF3 c0 c1 q0 q1 hql hql2 hpl hb2 HRS
    have HRS := Lib.hid hrs2
    clear hrs2
    have hrs := HRS.out
    have hcd := h.below hrs.below
    have hoff : W.cell? ⟨p, 6, none⟩ = some (.bool d.off) := by rw [← HP.out]; exact Blk.cell hcd.blk 6
    obtain ⟨k, hk⟩ : ∃ k, readyR d.off false = k := ⟨_, rfl⟩
    have HK := Lib.hid hk
    have HRD := Lib.hid (ready_calls (B0 := B0) (a := a) p d.off false ⟨#[114, 101, 110, 97, 109, 101]⟩ S k hk W hoff (hF.below (hrs.below.mono hB)))
    clear hk hcd hoff
    go_wp2_with fail
    refine HRD.out.mono ?_
    rintro _ W4 ⟨v, rfl, hv3, hb4⟩
    cases k with
    | succ k =>
      have hfin : NamesOut B0 a R A (renameD d S.data.toList S2.data.toList) ⟨#[114, 101, 110, 97, 109, 101]⟩ S w (.returned v) W4 := by
        have e1 : renameD d S.data.toList S2.data.toList = (k + 1, d) := by
          have hk := HK.out
          unfold readyR at hk
          unfold renameD
          rw [← hk, HR1.out, HR2.out]
          cases ho : d.off with
          | true => simp
          | false =>
            rw [ho] at hk
            first
              | (simp; done)
              | (cases r2 with
                 | true => simp at hk
                 | false => simp)
        rw [e1]
        exact NamesOut.bad h (then_ hrs.below hb4) hv3
      obtain ⟨q4, rfl, _⟩ := hv3
      have HFIN := Lib.hid hfin
      clear hfin hb4 hrs
      go_wp2_with fail
      go_ret
      exact HFIN.out
    | zero =>
      have hk := HK.out
      unfold readyR at hk
      cases ho : d.off <;> rw [ho] at hk <;> simp at hk
  | true =>
    have hrs := HRS.out
    have hcd := h.below hrs.below
    have hF3 := hF.below (hrs.below.mono hB)
    have c0 : W.cell? ⟨p, 0, none⟩ = some (.map (some A.md)) := by rw [← HP.out]; exact Blk.cell hcd.blk 0
    have c1 : W.cell? ⟨p, 1, none⟩ = some (.map (some A.mf)) := by rw [← HP.out]; exact Blk.cell hcd.blk 1
    have q0 : W.cell? ⟨q, 0, none⟩ = some (.string S) := hrs.one.cell 0
    have q1 : W.cell? ⟨q + 1, 0, none⟩ = some (.string S2) := hrs.two.cell 0
    have hql := hrs.one.lt
    have hql2 := hrs.two.lt
    have hpl : p < W.heap.size := lt_of_cell c0
    refine wp_region_later_tail 8 (by kernel_rfl) (by kernel_rfl) ?_
    simp only [List.take_succ_cons, List.take_zero, List.drop_succ_cons, List.drop_zero]
    repeat (go_big_quiet_step ((go_at_call 62; first | with_reducible exact quiet_later _ (HN1.out _) | with_reducible exact quiet_later _ (HN2.out _))))
    refine wpQuiet_nil ?_
    rintro W ⟨⟨_, hb2⟩, rfl⟩
    have hrs2 := HRS.out.later hb2
    clear hrs hcd hF3 c0 c1 q0 q1 hql hql2 hpl hb2 HRS
    have HRS := Lib.hid hrs2
    clear hrs2
    have hrs := HRS.out
    have hcd := h.below hrs.below
    have hoff : W.cell? ⟨p, 6, none⟩ = some (.bool d.off) := by rw [← HP.out]; exact Blk.cell hcd.blk 6
    obtain ⟨k, hk⟩ : ∃ k, readyR d.off r2 = k := ⟨_, rfl⟩
    have HK := Lib.hid hk
    have HRD := Lib.hid (ready_calls (B0 := B0) (a := a) p d.off r2 ⟨#[114, 101, 110, 97, 109, 101]⟩ S k hk W hoff (hF.below (hrs.below.mono hB)))
    clear hk hcd hoff
    go_wp2_with fail
    refine HRD.out.mono ?_
    rintro _ W4 ⟨v, rfl, hv3, hb4⟩
    cases k with
    | succ k =>
      have hfin : NamesOut B0 a R A (renameD d S.data.toList S2.data.toList) ⟨#[114, 101, 110, 97, 109, 101]⟩ S w (.returned v) W4 := by
        have e1 : renameD d S.data.toList S2.data.toList = (k + 1, d) := by
          have hk := HK.out
          unfold readyR at hk
          unfold renameD
          rw [← hk, HR1.out, HR2.out]
          cases ho : d.off with
          | true => simp
          | false =>
            rw [ho] at hk
            first
              | (simp; done)
              | (cases r2 with
                 | true => simp at hk
                 | false => simp)
        rw [e1]
        exact NamesOut.bad h (then_ hrs.below hb4) hv3
      obtain ⟨q4, rfl, _⟩ := hv3
      have HFIN := Lib.hid hfin
      clear hfin hb4 hrs
      go_wp2_with fail
      go_ret
      exact HFIN.out
    | zero =>
      obtain rfl : v = .nilIface := hv3
      obtain ⟨ho, hn⟩ : d.off = false ∧ r2 = true := by
        have hk := HK.out
        unfold readyR at hk
        cases ho : d.off with
        | true => rw [ho] at hk; simp at hk
        | false =>
          rw [ho] at hk
          cases r2 with
          | true => exact ⟨rfl, rfl⟩
          | false => simp at hk
      have e1 : renameD d S.data.toList S2.data.toList = if isT d.things S.data.toList = 2 ∧ nameB S2.data.toList = false then (2, d) else if isT d.things S.data.toList = 0 ∨ parentB d.things S2.data.toList = false then (4, d) else if isT d.things S2.data.toList = 2 ∨ (isT d.things S2.data.toList = 1 ∧ (isT d.things S.data.toList = 2 ∨ S.data.toList = S2.data.toList)) then (5, d) else namesD d (.rename S.data.toList S2.data.toList) := by
        unfold renameD
        rw [ho, HR1.out, HR2.out, hn]
        simp
      have HE1 := Lib.hid e1
      obtain rfl : r2 = true := hn
      have hrs4 := hrs.later hb4
      clear ho e1 HK hrs hb4 HRS HRD
      have HRS := Lib.hid hrs4
      clear hrs4 W
      revert W4
      intro W HRS
      obtain ⟨rp, hrp⟩ : ∃ r, parentB d.things S2.data.toList = r := ⟨_, rfl⟩
      have HRP := Lib.hid hrp
      rcases isT_range d.things S.data.toList with ka | ka | ka
      · have hrs := HRS.out
        have hcd := h.below hrs.below
        have hF3 := hF.below (hrs.below.mono hB)
        have c0 : W.cell? ⟨p, 0, none⟩ = some (.map (some A.md)) := by rw [← HP.out]; exact Blk.cell hcd.blk 0
        have c1 : W.cell? ⟨p, 1, none⟩ = some (.map (some A.mf)) := by rw [← HP.out]; exact Blk.cell hcd.blk 1
        have q0 : W.cell? ⟨q, 0, none⟩ = some (.string S) := hrs.one.cell 0
        have q1 : W.cell? ⟨q + 1, 0, none⟩ = some (.string S2) := hrs.two.cell 0
        have hql := hrs.one.lt
        have hql2 := hrs.two.lt
        have hpl : p < W.heap.size := lt_of_cell c0
        have hlk := look_dir hcd hf S hS 0 (by rw [ka]; rfl)
        go_upto_region 4 with fail
        refine wp_region_later (by kernel_rfl) (by kernel_rfl) ?_
        repeat (go_big_quiet_step (fail))
        clear hlk
        refine wpQuiet_nil ?_
        rintro W ⟨⟨_, hb2⟩, rfl⟩
        have hrs2 := HRS.out.later hb2
        clear hrs hcd hF3 c0 c1 q0 q1 hql hql2 hpl hb2 HRS
        have HRS := Lib.hid hrs2
        clear hrs2
        have hrs := HRS.out
        have hcd := h.below hrs.below
        have hF3 := hF.below (hrs.below.mono hB)
        have c0 : W.cell? ⟨p, 0, none⟩ = some (.map (some A.md)) := by rw [← HP.out]; exact Blk.cell hcd.blk 0
        have c1 : W.cell? ⟨p, 1, none⟩ = some (.map (some A.mf)) := by rw [← HP.out]; exact Blk.cell hcd.blk 1
        have q0 : W.cell? ⟨q, 0, none⟩ = some (.string S) := hrs.one.cell 0
        have q1 : W.cell? ⟨q + 1, 0, none⟩ = some (.string S2) := hrs.two.cell 0
        have hql := hrs.one.lt
        have hql2 := hrs.two.lt
        have hpl : p < W.heap.size := lt_of_cell c0
        obtain ⟨P, hP, hlf⟩ := look_fil hcd hf S hS
        obtain rfl : P = none := hP.2 (by rw [ka]; omega)
        go_upto_region 7 with fail
        refine wp_region_later (by kernel_rfl) (by kernel_rfl) ?_
        repeat (go_big_quiet_step (fail))
        clear hlf hP
        refine wpQuiet_nil ?_
        rintro W ⟨⟨_, hb2⟩, rfl⟩
        have hrs2 := HRS.out.later hb2
        clear hrs hcd hF3 c0 c1 q0 q1 hql hql2 hpl hb2 HRS
        have HRS := Lib.hid hrs2
        clear hrs2
        have hrs := HRS.out
        have hF3 := hF.below (hrs.below.mono hB)
        have f0 : _ = some (failV a 4) := (hF3 4 (by decide)).2
        have hfl := fail_calls (a := a) ⟨#[114, 101, 110, 97, 109, 101]⟩ S 3 W
        unfold failV at f0 hfl
        simp only [failG] at f0
        have HFL := Lib.hid hfl
        have e2 : renameD d S.data.toList S2.data.toList = (4, d) := by (rw [HE1.out]; (rw [if_neg (by rw [ka]; simp), if_pos (.inl ka)]))
        have HE2 := Lib.hid e2
        have q0 : W.cell? ⟨q, 0, none⟩ = some (.string S) := hrs.one.cell 0
        clear hfl hF3 e2 hrs
        go_wp2_with fail
        refine HFL.out.mono ?_
        rintro e w5 ⟨v, rfl, hv5, hb5⟩
        have hfin : NamesOut B0 a R A (renameD d S.data.toList S2.data.toList) ⟨#[114, 101, 110, 97, 109, 101]⟩ S w (.returned v) w5 := by
          rw [HE2.out]
          exact NamesOut.bad h (then_ HRS.out.below hb5) hv5
        have HFIN := Lib.hid hfin
        clear hfin hv5
        go_wp2_with fail
        go_ret
        exact HFIN.out
      · have hrs := HRS.out
        have hcd := h.below hrs.below
        have hF3 := hF.below (hrs.below.mono hB)
        have c0 : W.cell? ⟨p, 0, none⟩ = some (.map (some A.md)) := by rw [← HP.out]; exact Blk.cell hcd.blk 0
        have c1 : W.cell? ⟨p, 1, none⟩ = some (.map (some A.mf)) := by rw [← HP.out]; exact Blk.cell hcd.blk 1
        have q0 : W.cell? ⟨q, 0, none⟩ = some (.string S) := hrs.one.cell 0
        have q1 : W.cell? ⟨q + 1, 0, none⟩ = some (.string S2) := hrs.two.cell 0
        have hql := hrs.one.lt
        have hql2 := hrs.two.lt
        have hpl : p < W.heap.size := lt_of_cell c0
        have hlk := look_dir hcd hf S hS 0 (by rw [ka]; rfl)
        go_upto_region 4 with fail
        refine wp_region_later (by kernel_rfl) (by kernel_rfl) ?_
        repeat (go_big_quiet_step (fail))
        clear hlk
        refine wpQuiet_nil ?_
        rintro W ⟨⟨_, hb2⟩, rfl⟩
        have hrs2 := HRS.out.later hb2
        clear hrs hcd hF3 c0 c1 q0 q1 hql hql2 hpl hb2 HRS
        have HRS := Lib.hid hrs2
        clear hrs2
        have hrs := HRS.out
        have hcd := h.below hrs.below
        have hF3 := hF.below (hrs.below.mono hB)
        have c0 : W.cell? ⟨p, 0, none⟩ = some (.map (some A.md)) := by rw [← HP.out]; exact Blk.cell hcd.blk 0
        have c1 : W.cell? ⟨p, 1, none⟩ = some (.map (some A.mf)) := by rw [← HP.out]; exact Blk.cell hcd.blk 1
        have q0 : W.cell? ⟨q, 0, none⟩ = some (.string S) := hrs.one.cell 0
        have q1 : W.cell? ⟨q + 1, 0, none⟩ = some (.string S2) := hrs.two.cell 0
        have hql := hrs.one.lt
        have hql2 := hrs.two.lt
        have hpl : p < W.heap.size := lt_of_cell c0
        obtain ⟨P, hP, hlf⟩ := look_fil hcd hf S hS
        obtain ⟨P', rfl⟩ : ∃ P', P = some P' := by
          cases P with
          | none => exact absurd ka (hP.1 rfl)
          | some P' => exact ⟨P', rfl⟩
        go_upto_region 7 with fail
        refine wp_region_later (by kernel_rfl) (by kernel_rfl) ?_
        repeat (go_big_quiet_step (fail))
        clear hlf hP
        refine wpQuiet_nil ?_
        rintro W ⟨⟨_, hb2⟩, rfl⟩
        have hrs2 := HRS.out.later hb2
        clear hrs hcd hF3 c0 c1 q0 q1 hql hql2 hpl hb2 HRS
        have HRS := Lib.hid hrs2
        clear hrs2
        have hrs := HRS.out
        have hcd := h.below hrs.below
        have hF3 := hF.below (hrs.below.mono hB)
        have c0 : W.cell? ⟨p, 0, none⟩ = some (.map (some A.md)) := by rw [← HP.out]; exact Blk.cell hcd.blk 0
        have c1 : W.cell? ⟨p, 1, none⟩ = some (.map (some A.mf)) := by rw [← HP.out]; exact Blk.cell hcd.blk 1
        have q0 : W.cell? ⟨q, 0, none⟩ = some (.string S) := hrs.one.cell 0
        have q1 : W.cell? ⟨q + 1, 0, none⟩ = some (.string S2) := hrs.two.cell 0
        have hql := hrs.one.lt
        have hql2 := hrs.two.lt
        have hpl : p < W.heap.size := lt_of_cell c0
        have HPAR := Lib.hid (fun x : Later W => tparent_calls A.md A.mf S2 rp hrp x.w (hcd.dirs.1.below x.h hcd.dirs.1.lt) hf.tw hS2)
        go_upto_region 8 with fail
        refine wp_region_later (by kernel_rfl) (by kernel_rfl) ?_
        repeat (go_big_quiet_step ((go_at_call 63; exact quiet_later _ (HPAR.out _))))
        clear HPAR
        refine wpQuiet_nil ?_
        rintro W ⟨⟨_, hb2⟩, rfl⟩
        have hrs2 := HRS.out.later hb2
        clear hrs hcd hF3 c0 c1 q0 q1 hql hql2 hpl hb2 HRS
        have HRS := Lib.hid hrs2
        clear hrs2
        cases rp with
        | false =>
          have hrs := HRS.out
          have hF3 := hF.below (hrs.below.mono hB)
          have f0 : _ = some (failV a 4) := (hF3 4 (by decide)).2
          have hfl := fail_calls (a := a) ⟨#[114, 101, 110, 97, 109, 101]⟩ S 3 W
          unfold failV at f0 hfl
          simp only [failG] at f0
          have HFL := Lib.hid hfl
          have e2 : renameD d S.data.toList S2.data.toList = (4, d) := by (rw [HE1.out]; (rw [if_neg (by rw [ka]; simp), if_pos (.inr HRP.out)]))
          have HE2 := Lib.hid e2
          have q0 : W.cell? ⟨q, 0, none⟩ = some (.string S) := hrs.one.cell 0
          clear hfl hF3 e2 hrs
          go_wp2_with fail
          refine HFL.out.mono ?_
          rintro e w5 ⟨v, rfl, hv5, hb5⟩
          have hfin : NamesOut B0 a R A (renameD d S.data.toList S2.data.toList) ⟨#[114, 101, 110, 97, 109, 101]⟩ S w (.returned v) w5 := by
            rw [HE2.out]
            exact NamesOut.bad h (then_ HRS.out.below hb5) hv5
          have HFIN := Lib.hid hfin
          clear hfin hv5
          go_wp2_with fail
          go_ret
          exact HFIN.out
        | true =>
          rcases isT_range d.things S2.data.toList with kb | kb | kb
          · have hrs := HRS.out
            have hcd := h.below hrs.below
            have hF3 := hF.below (hrs.below.mono hB)
            have c0 : W.cell? ⟨p, 0, none⟩ = some (.map (some A.md)) := by rw [← HP.out]; exact Blk.cell hcd.blk 0
            have c1 : W.cell? ⟨p, 1, none⟩ = some (.map (some A.mf)) := by rw [← HP.out]; exact Blk.cell hcd.blk 1
            have q0 : W.cell? ⟨q, 0, none⟩ = some (.string S) := hrs.one.cell 0
            have q1 : W.cell? ⟨q + 1, 0, none⟩ = some (.string S2) := hrs.two.cell 0
            have hql := hrs.one.lt
            have hql2 := hrs.two.lt
            have hpl : p < W.heap.size := lt_of_cell c0
            have hlk := look_dir hcd hf S2 hS2 0 (by rw [kb]; rfl)
            go_upto_region 10 with fail
            refine wp_region_later (by kernel_rfl) (by kernel_rfl) ?_
            repeat (go_big_quiet_step (fail))
            clear hlk
            refine wpQuiet_nil ?_
            rintro W ⟨⟨_, hb2⟩, rfl⟩
            have hrs2 := HRS.out.later hb2
            clear hrs hcd hF3 c0 c1 q0 q1 hql hql2 hpl hb2 HRS
            have HRS := Lib.hid hrs2
            clear hrs2
            have hrs := HRS.out
            have hcd := h.below hrs.below
            have hF3 := hF.below (hrs.below.mono hB)
            have c0 : W.cell? ⟨p, 0, none⟩ = some (.map (some A.md)) := by rw [← HP.out]; exact Blk.cell hcd.blk 0
            have c1 : W.cell? ⟨p, 1, none⟩ = some (.map (some A.mf)) := by rw [← HP.out]; exact Blk.cell hcd.blk 1
            have q0 : W.cell? ⟨q, 0, none⟩ = some (.string S) := hrs.one.cell 0
            have q1 : W.cell? ⟨q + 1, 0, none⟩ = some (.string S2) := hrs.two.cell 0
            have hql := hrs.one.lt
            have hql2 := hrs.two.lt
            have hpl : p < W.heap.size := lt_of_cell c0
            obtain ⟨P, hP, hlf⟩ := look_fil hcd hf S2 hS2
            obtain rfl : P = none := hP.2 (by rw [kb]; omega)
            go_upto_region 11 with fail
            refine wp_region_later (by kernel_rfl) (by kernel_rfl) ?_
            repeat (go_big_quiet_step (fail))
            clear hlf hP
            refine wpQuiet_nil ?_
            rintro W ⟨⟨_, hb2⟩, rfl⟩
            have hrs2 := HRS.out.later hb2
            clear hrs hcd hF3 c0 c1 q0 q1 hql hql2 hpl hb2 HRS
            have HRS := Lib.hid hrs2
            clear hrs2
            have HE5 := Lib.hid (show renameD d S.data.toList S2.data.toList = namesD d (.rename S.data.toList S2.data.toList) by rw [HE1.out, if_neg (by rw [ka]; simp), if_neg (by rw [ka, HRP.out]; simp), if_neg (by rw [kb]; simp)])
            have hrs := HRS.out
            have hF3 := hF.below (hrs.below.mono hB)
            have hcd := h.below hrs.below
            have hqW := HQ.out
            have hRq : R q = 0 := h.inw.new (by omega)
            have hRq1 : R (q + 1) = 0 := h.inw.new (by omega)
            have hcd7 : CD B0 W (giv R q 5) A d := hcd.grant hrs.one.lt hRq (by omega) 5
            have hcd8 : CD B0 W (giv (giv R q 5) (q + 1) 5) A d := hcd7.grant hrs.two.lt (by rw [giv_ne (by omega)]; exact hRq1) (by omega) 5
            have hST : StepM W (giv (giv R q 5) (q + 1) 5) A.φ (.rename S.data.toList S2.data.toList) (.func (.func 113) #[] #[.pointer (some ⟨q, 0, none⟩), .pointer (some ⟨q + 1, 0, none⟩)]) := by
              have e : txtV S.data.toList = .string S := by unfold txtV; rw [← bytes_of rfl]
              have e2 : txtV S2.data.toList = .string S2 := by unfold txtV; rw [← bytes_of rfl]
              refine ⟨q, q + 1, rfl, ?_, ?_⟩
              · rw [Box, e]
                exact ⟨hrs.one, by rw [giv_ne (by omega)]; exact giv_self _ _ _⟩
              · rw [Box, e2]
                exact ⟨hrs.two, giv_self _ _ _⟩
            have hok : StOk d.files.length d.things (.rename S.data.toList S2.data.toList) := by (exact ⟨HR1.out, HR2.out, by rw [ka]; omega, HRP.out, by rw [kb]; omega, fun e => (by rw [ka] at e; cases e), fun e => by rw [e] at ka; rw [ka] at kb; cases kb⟩)
            have hnm := names_calls (a := a) ⟨#[114, 101, 110, 97, 109, 101]⟩ S (.rename S.data.toList S2.data.toList) _ _ W hcd8 hST hf.tw hok (by have := hf.tl; omega) (by have := hf.sl; omega) hf.aw (by have := hrs.below.size; omega) hF3
            rw [HP.out] at hnm
            have hOw : Own R (giv (giv R q 5) (q + 1) 5) w W := by
              have o1 : Own R R w W := Own.of_below hrs.below
              exact ⟨o1.os, o1.tape, o1.output, o1.size, o1.block, fun k hk => by rw [giv_ne (by omega), giv_ne (by omega)]⟩
            have HOW := Lib.hid hOw
            have HNM2 := Lib.hid hnm
            have q0 : W.cell? ⟨q, 0, none⟩ = some (.string S) := hrs.one.cell 0
            clear hnm hST hcd hcd7 hcd8 hF3 hOw hok hrs hqW
            go_wp2_with fail
            refine HNM2.out.mono ?_
            rintro e w7 hN
            obtain ⟨v, R', A', rfl, k2, k3, k4, k5, k6⟩ := hN
            have hfin : NamesOut B0 a R A (renameD d S.data.toList S2.data.toList) ⟨#[114, 101, 110, 97, 109, 101]⟩ S w (.returned v) w7 := by
              rw [HE5.out]
              exact ⟨v, R', A', rfl, k2, k3, HOW.out.trans k4, k5, k6⟩
            have HFIN := Lib.hid hfin
            clear hfin k2 k3 k4 k5
            go_wp2_with fail
            go_ret
            exact HFIN.out
          · have hrs := HRS.out
            have hcd := h.below hrs.below
            have hF3 := hF.below (hrs.below.mono hB)
            have c0 : W.cell? ⟨p, 0, none⟩ = some (.map (some A.md)) := by rw [← HP.out]; exact Blk.cell hcd.blk 0
            have c1 : W.cell? ⟨p, 1, none⟩ = some (.map (some A.mf)) := by rw [← HP.out]; exact Blk.cell hcd.blk 1
            have q0 : W.cell? ⟨q, 0, none⟩ = some (.string S) := hrs.one.cell 0
            have q1 : W.cell? ⟨q + 1, 0, none⟩ = some (.string S2) := hrs.two.cell 0
            have hql := hrs.one.lt
            have hql2 := hrs.two.lt
            have hpl : p < W.heap.size := lt_of_cell c0
            have hlk := look_dir hcd hf S2 hS2 0 (by rw [kb]; rfl)
            go_upto_region 10 with fail
            refine wp_region_later (by kernel_rfl) (by kernel_rfl) ?_
            repeat (go_big_quiet_step (fail))
            clear hlk
            refine wpQuiet_nil ?_
            rintro W ⟨⟨_, hb2⟩, rfl⟩
            have hrs2 := HRS.out.later hb2
            clear hrs hcd hF3 c0 c1 q0 q1 hql hql2 hpl hb2 HRS
            have HRS := Lib.hid hrs2
            clear hrs2
            by_cases hSS : S = S2
            · have hs2 : decide (S = S2) = true := by simpa using hSS
              have hs3 : (S.toList == S2.toList) = true := by rw [hSS]; simp
              have hs4 : (S == S2) = true := by rw [hSS, beq_toListBytes]; simp
              have hs5 : decide (S.toList = S2.toList) = true := by rw [hSS]; simp
              have HSS := Lib.hid hSS
              clear hSS
              have hrs := HRS.out
              have hcd := h.below hrs.below
              have hF3 := hF.below (hrs.below.mono hB)
              have c0 : W.cell? ⟨p, 0, none⟩ = some (.map (some A.md)) := by rw [← HP.out]; exact Blk.cell hcd.blk 0
              have c1 : W.cell? ⟨p, 1, none⟩ = some (.map (some A.mf)) := by rw [← HP.out]; exact Blk.cell hcd.blk 1
              have q0 : W.cell? ⟨q, 0, none⟩ = some (.string S) := hrs.one.cell 0
              have q1 : W.cell? ⟨q + 1, 0, none⟩ = some (.string S2) := hrs.two.cell 0
              have hql := hrs.one.lt
              have hql2 := hrs.two.lt
              have hpl : p < W.heap.size := lt_of_cell c0
              obtain ⟨P, hP, hlf⟩ := look_fil hcd hf S2 hS2
              obtain ⟨P', rfl⟩ : ∃ P', P = some P' := by
                cases P with
                | none => exact absurd kb (hP.1 rfl)
                | some P' => exact ⟨P', rfl⟩
              go_upto_region 11 with fail
              refine wp_region_later (by kernel_rfl) (by kernel_rfl) ?_
              repeat (go_big_quiet_step (fail))
              clear hlf hP
              refine wpQuiet_nil ?_
              rintro W ⟨⟨_, hb2⟩, rfl⟩
              have hrs2 := HRS.out.later hb2
              clear hrs hcd hF3 c0 c1 q0 q1 hql hql2 hpl hb2 HRS
              have HRS := Lib.hid hrs2
              clear hrs2
              have hrs := HRS.out
              have hF3 := hF.below (hrs.below.mono hB)
              have f0 : _ = some (failV a 5) := (hF3 5 (by decide)).2
              have hfl := fail_calls (a := a) ⟨#[114, 101, 110, 97, 109, 101]⟩ S 4 W
              unfold failV at f0 hfl
              simp only [failG] at f0
              have HFL := Lib.hid hfl
              have e2 : renameD d S.data.toList S2.data.toList = (5, d) := by (rw [HE1.out]; (rw [if_neg (by rw [ka]; simp), if_neg (by rw [ka, HRP.out]; simp), if_pos (.inr ⟨kb, .inr (by rw [HSS.out])⟩)]))
              have HE2 := Lib.hid e2
              have q0 : W.cell? ⟨q, 0, none⟩ = some (.string S) := hrs.one.cell 0
              clear hfl hF3 e2 hrs
              go_wp2_with fail
              refine HFL.out.mono ?_
              rintro e w5 ⟨v, rfl, hv5, hb5⟩
              have hfin : NamesOut B0 a R A (renameD d S.data.toList S2.data.toList) ⟨#[114, 101, 110, 97, 109, 101]⟩ S w (.returned v) w5 := by
                rw [HE2.out]
                exact NamesOut.bad h (then_ HRS.out.below hb5) hv5
              have HFIN := Lib.hid hfin
              clear hfin hv5
              go_wp2_with fail
              go_ret
              exact HFIN.out
            · have hs2 : decide (S = S2) = false := by simpa using hSS
              have hl2 : S.toList ≠ S2.toList := fun e => hSS (by
                rw [ByteArray.toList_eq, ByteArray.toList_eq] at e
                exact bytes_eq e)
              have hs3 : (S.toList == S2.toList) = false := by simpa using hl2
              have hs4 : (S == S2) = false := by rw [beq_toListBytes]; exact hs3
              have hs5 : decide (S.toList = S2.toList) = false := by simpa using hl2
              clear hl2
              have hrs := HRS.out
              have hcd := h.below hrs.below
              have hF3 := hF.below (hrs.below.mono hB)
              have c0 : W.cell? ⟨p, 0, none⟩ = some (.map (some A.md)) := by rw [← HP.out]; exact Blk.cell hcd.blk 0
              have c1 : W.cell? ⟨p, 1, none⟩ = some (.map (some A.mf)) := by rw [← HP.out]; exact Blk.cell hcd.blk 1
              have q0 : W.cell? ⟨q, 0, none⟩ = some (.string S) := hrs.one.cell 0
              have q1 : W.cell? ⟨q + 1, 0, none⟩ = some (.string S2) := hrs.two.cell 0
              have hql := hrs.one.lt
              have hql2 := hrs.two.lt
              have hpl : p < W.heap.size := lt_of_cell c0
              obtain ⟨P, hP, hlf⟩ := look_fil hcd hf S2 hS2
              obtain ⟨P', rfl⟩ : ∃ P', P = some P' := by
                cases P with
                | none => exact absurd kb (hP.1 rfl)
                | some P' => exact ⟨P', rfl⟩
              go_upto_region 11 with fail
              refine wp_region_later (by kernel_rfl) (by kernel_rfl) ?_
              repeat (go_big_quiet_step (fail))
              clear hlf hP
              refine wpQuiet_nil ?_
              rintro W ⟨⟨_, hb2⟩, rfl⟩
              have hrs2 := HRS.out.later hb2
              clear hrs hcd hF3 c0 c1 q0 q1 hql hql2 hpl hb2 HRS
              have HRS := Lib.hid hrs2
              clear hrs2
              have hne : S.data.toList ≠ S2.data.toList := fun e => hSS (bytes_eq e)
              have HE5 := Lib.hid (show renameD d S.data.toList S2.data.toList = namesD d (.rename S.data.toList S2.data.toList) by rw [HE1.out, if_neg (by rw [ka]; simp), if_neg (by rw [ka, HRP.out]; simp), if_neg (by rw [kb, ka]; simpa using fun e => hSS (bytes_eq (by rw [e])))])
              have hrs := HRS.out
              have hF3 := hF.below (hrs.below.mono hB)
              have hcd := h.below hrs.below
              have hqW := HQ.out
              have hRq : R q = 0 := h.inw.new (by omega)
              have hRq1 : R (q + 1) = 0 := h.inw.new (by omega)
              have hcd7 : CD B0 W (giv R q 5) A d := hcd.grant hrs.one.lt hRq (by omega) 5
              have hcd8 : CD B0 W (giv (giv R q 5) (q + 1) 5) A d := hcd7.grant hrs.two.lt (by rw [giv_ne (by omega)]; exact hRq1) (by omega) 5
              have hST : StepM W (giv (giv R q 5) (q + 1) 5) A.φ (.rename S.data.toList S2.data.toList) (.func (.func 113) #[] #[.pointer (some ⟨q, 0, none⟩), .pointer (some ⟨q + 1, 0, none⟩)]) := by
                have e : txtV S.data.toList = .string S := by unfold txtV; rw [← bytes_of rfl]
                have e2 : txtV S2.data.toList = .string S2 := by unfold txtV; rw [← bytes_of rfl]
                refine ⟨q, q + 1, rfl, ?_, ?_⟩
                · rw [Box, e]
                  exact ⟨hrs.one, by rw [giv_ne (by omega)]; exact giv_self _ _ _⟩
                · rw [Box, e2]
                  exact ⟨hrs.two, giv_self _ _ _⟩
              have hok : StOk d.files.length d.things (.rename S.data.toList S2.data.toList) := by (exact ⟨HR1.out, HR2.out, by rw [ka]; omega, HRP.out, by rw [kb]; omega, fun e => (by rw [ka] at e; cases e), hne⟩)
              have hnm := names_calls (a := a) ⟨#[114, 101, 110, 97, 109, 101]⟩ S (.rename S.data.toList S2.data.toList) _ _ W hcd8 hST hf.tw hok (by have := hf.tl; omega) (by have := hf.sl; omega) hf.aw (by have := hrs.below.size; omega) hF3
              rw [HP.out] at hnm
              have hOw : Own R (giv (giv R q 5) (q + 1) 5) w W := by
                have o1 : Own R R w W := Own.of_below hrs.below
                exact ⟨o1.os, o1.tape, o1.output, o1.size, o1.block, fun k hk => by rw [giv_ne (by omega), giv_ne (by omega)]⟩
              have HOW := Lib.hid hOw
              have HNM2 := Lib.hid hnm
              have q0 : W.cell? ⟨q, 0, none⟩ = some (.string S) := hrs.one.cell 0
              clear hnm hST hcd hcd7 hcd8 hF3 hOw hok hrs hqW
              go_wp2_with fail
              refine HNM2.out.mono ?_
              rintro e w7 hN
              obtain ⟨v, R', A', rfl, k2, k3, k4, k5, k6⟩ := hN
              have hfin : NamesOut B0 a R A (renameD d S.data.toList S2.data.toList) ⟨#[114, 101, 110, 97, 109, 101]⟩ S w (.returned v) w7 := by
                rw [HE5.out]
                exact ⟨v, R', A', rfl, k2, k3, HOW.out.trans k4, k5, k6⟩
              have HFIN := Lib.hid hfin
              clear hfin k2 k3 k4 k5
              go_wp2_with fail
              go_ret
              exact HFIN.out
          · have hrs := HRS.out
            have hcd := h.below hrs.below
            have hF3 := hF.below (hrs.below.mono hB)
            have c0 : W.cell? ⟨p, 0, none⟩ = some (.map (some A.md)) := by rw [← HP.out]; exact Blk.cell hcd.blk 0
            have c1 : W.cell? ⟨p, 1, none⟩ = some (.map (some A.mf)) := by rw [← HP.out]; exact Blk.cell hcd.blk 1
            have q0 : W.cell? ⟨q, 0, none⟩ = some (.string S) := hrs.one.cell 0
            have q1 : W.cell? ⟨q + 1, 0, none⟩ = some (.string S2) := hrs.two.cell 0
            have hql := hrs.one.lt
            have hql2 := hrs.two.lt
            have hpl : p < W.heap.size := lt_of_cell c0
            have hlk := look_dir hcd hf S2 hS2 1 (by rw [kb]; rfl)
            go_upto_region 10 with fail
            refine wp_region_later (by kernel_rfl) (by kernel_rfl) ?_
            repeat (go_big_quiet_step (fail))
            clear hlk
            refine wpQuiet_nil ?_
            rintro W ⟨⟨_, hb2⟩, rfl⟩
            have hrs2 := HRS.out.later hb2
            clear hrs hcd hF3 c0 c1 q0 q1 hql hql2 hpl hb2 HRS
            have HRS := Lib.hid hrs2
            clear hrs2
            have hrs := HRS.out
            have hF3 := hF.below (hrs.below.mono hB)
            have f0 : _ = some (failV a 5) := (hF3 5 (by decide)).2
            have hfl := fail_calls (a := a) ⟨#[114, 101, 110, 97, 109, 101]⟩ S 4 W
            unfold failV at f0 hfl
            simp only [failG] at f0
            have HFL := Lib.hid hfl
            have e2 : renameD d S.data.toList S2.data.toList = (5, d) := by (rw [HE1.out]; (rw [if_neg (by rw [ka]; simp), if_neg (by rw [ka, HRP.out]; simp), if_pos (.inl kb)]))
            have HE2 := Lib.hid e2
            have q0 : W.cell? ⟨q, 0, none⟩ = some (.string S) := hrs.one.cell 0
            clear hfl hF3 e2 hrs
            go_wp2_with fail
            refine HFL.out.mono ?_
            rintro e w5 ⟨v, rfl, hv5, hb5⟩
            have hfin : NamesOut B0 a R A (renameD d S.data.toList S2.data.toList) ⟨#[114, 101, 110, 97, 109, 101]⟩ S w (.returned v) w5 := by
              rw [HE2.out]
              exact NamesOut.bad h (then_ HRS.out.below hb5) hv5
            have HFIN := Lib.hid hfin
            clear hfin hv5
            go_wp2_with fail
            go_ret
            exact HFIN.out
      · have hrs := HRS.out
        have hcd := h.below hrs.below
        have hF3 := hF.below (hrs.below.mono hB)
        have c0 : W.cell? ⟨p, 0, none⟩ = some (.map (some A.md)) := by rw [← HP.out]; exact Blk.cell hcd.blk 0
        have c1 : W.cell? ⟨p, 1, none⟩ = some (.map (some A.mf)) := by rw [← HP.out]; exact Blk.cell hcd.blk 1
        have q0 : W.cell? ⟨q, 0, none⟩ = some (.string S) := hrs.one.cell 0
        have q1 : W.cell? ⟨q + 1, 0, none⟩ = some (.string S2) := hrs.two.cell 0
        have hql := hrs.one.lt
        have hql2 := hrs.two.lt
        have hpl : p < W.heap.size := lt_of_cell c0
        have hlk := look_dir hcd hf S hS 1 (by rw [ka]; rfl)
        go_upto_region 4 with fail
        refine wp_region_later (by kernel_rfl) (by kernel_rfl) ?_
        repeat (go_big_quiet_step (fail))
        clear hlk
        refine wpQuiet_nil ?_
        rintro W ⟨⟨_, hb2⟩, rfl⟩
        have hrs2 := HRS.out.later hb2
        clear hrs hcd hF3 c0 c1 q0 q1 hql hql2 hpl hb2 HRS
        have HRS := Lib.hid hrs2
        clear hrs2
        obtain ⟨nb, hnb⟩ : ∃ r, nameB S2.data.toList = r := ⟨_, rfl⟩
        have HNB := Lib.hid hnb
        have HNAME := Lib.hid (fun w => name_calls S2 nb hnb hS2 w)
        clear hnb
        have q1 : W.cell? ⟨q + 1, 0, none⟩ = some (.string S2) := HRS.out.two.cell 0
        go_wp2_with fail
        refine (HNAME.out W).mono ?_
        rintro _ W5 ⟨rfl, rfl⟩
        clear q1
        cases nb with
        | false =>
          have hrs := HRS.out
          have hF3 := hF.below (hrs.below.mono hB)
          have f0 : _ = some (failV a 2) := (hF3 2 (by decide)).2
          have hfl := fail_calls (a := a) ⟨#[114, 101, 110, 97, 109, 101]⟩ S 1 W
          unfold failV at f0 hfl
          simp only [failG] at f0
          have HFL := Lib.hid hfl
          have e2 : renameD d S.data.toList S2.data.toList = (2, d) := by (rw [HE1.out]; (rw [if_pos ⟨ka, HNB.out⟩]))
          have HE2 := Lib.hid e2
          have q0 : W.cell? ⟨q, 0, none⟩ = some (.string S) := hrs.one.cell 0
          clear hfl hF3 e2 hrs
          go_wp2_with fail
          refine HFL.out.mono ?_
          rintro e w5 ⟨v, rfl, hv5, hb5⟩
          have hfin : NamesOut B0 a R A (renameD d S.data.toList S2.data.toList) ⟨#[114, 101, 110, 97, 109, 101]⟩ S w (.returned v) w5 := by
            rw [HE2.out]
            exact NamesOut.bad h (then_ HRS.out.below hb5) hv5
          have HFIN := Lib.hid hfin
          clear hfin hv5
          go_wp2_with fail
          go_ret
          exact HFIN.out
        | true =>
          go_upto_region 7 with fail
          have hrs := HRS.out
          have hcd := h.below hrs.below
          have hF3 := hF.below (hrs.below.mono hB)
          have c0 : W.cell? ⟨p, 0, none⟩ = some (.map (some A.md)) := by rw [← HP.out]; exact Blk.cell hcd.blk 0
          have c1 : W.cell? ⟨p, 1, none⟩ = some (.map (some A.mf)) := by rw [← HP.out]; exact Blk.cell hcd.blk 1
          have q0 : W.cell? ⟨q, 0, none⟩ = some (.string S) := hrs.one.cell 0
          have q1 : W.cell? ⟨q + 1, 0, none⟩ = some (.string S2) := hrs.two.cell 0
          have hql := hrs.one.lt
          have hql2 := hrs.two.lt
          have hpl : p < W.heap.size := lt_of_cell c0
          refine wp_region_later (by kernel_rfl) (by kernel_rfl) ?_
          repeat (go_big_quiet_step (fail))
          refine wpQuiet_nil ?_
          rintro W ⟨⟨_, hb2⟩, rfl⟩
          have hrs2 := HRS.out.later hb2
          clear hrs hcd hF3 c0 c1 q0 q1 hql hql2 hpl hb2 HRS
          have HRS := Lib.hid hrs2
          clear hrs2
          have hrs := HRS.out
          have hcd := h.below hrs.below
          have hF3 := hF.below (hrs.below.mono hB)
          have c0 : W.cell? ⟨p, 0, none⟩ = some (.map (some A.md)) := by rw [← HP.out]; exact Blk.cell hcd.blk 0
          have c1 : W.cell? ⟨p, 1, none⟩ = some (.map (some A.mf)) := by rw [← HP.out]; exact Blk.cell hcd.blk 1
          have q0 : W.cell? ⟨q, 0, none⟩ = some (.string S) := hrs.one.cell 0
          have q1 : W.cell? ⟨q + 1, 0, none⟩ = some (.string S2) := hrs.two.cell 0
          have hql := hrs.one.lt
          have hql2 := hrs.two.lt
          have hpl : p < W.heap.size := lt_of_cell c0
          have HPAR := Lib.hid (fun x : Later W => tparent_calls A.md A.mf S2 rp hrp x.w (hcd.dirs.1.below x.h hcd.dirs.1.lt) hf.tw hS2)
          go_upto_region 8 with fail
          refine wp_region_later (by kernel_rfl) (by kernel_rfl) ?_
          repeat (go_big_quiet_step ((go_at_call 63; exact quiet_later _ (HPAR.out _))))
          clear HPAR
          refine wpQuiet_nil ?_
          rintro W ⟨⟨_, hb2⟩, rfl⟩
          have hrs2 := HRS.out.later hb2
          clear hrs hcd hF3 c0 c1 q0 q1 hql hql2 hpl hb2 HRS
          have HRS := Lib.hid hrs2
          clear hrs2
          cases rp with
          | false =>
            have hrs := HRS.out
            have hF3 := hF.below (hrs.below.mono hB)
            have f0 : _ = some (failV a 4) := (hF3 4 (by decide)).2
            have hfl := fail_calls (a := a) ⟨#[114, 101, 110, 97, 109, 101]⟩ S 3 W
            unfold failV at f0 hfl
            simp only [failG] at f0
            have HFL := Lib.hid hfl
            have e2 : renameD d S.data.toList S2.data.toList = (4, d) := by (rw [HE1.out]; (rw [if_neg (fun e => by rw [HNB.out] at e; cases e.2), if_pos (.inr HRP.out)]))
            have HE2 := Lib.hid e2
            have q0 : W.cell? ⟨q, 0, none⟩ = some (.string S) := hrs.one.cell 0
            clear hfl hF3 e2 hrs
            go_wp2_with fail
            refine HFL.out.mono ?_
            rintro e w5 ⟨v, rfl, hv5, hb5⟩
            have hfin : NamesOut B0 a R A (renameD d S.data.toList S2.data.toList) ⟨#[114, 101, 110, 97, 109, 101]⟩ S w (.returned v) w5 := by
              rw [HE2.out]
              exact NamesOut.bad h (then_ HRS.out.below hb5) hv5
            have HFIN := Lib.hid hfin
            clear hfin hv5
            go_wp2_with fail
            go_ret
            exact HFIN.out
          | true =>
            rcases isT_range d.things S2.data.toList with kb | kb | kb
            · have hrs := HRS.out
              have hcd := h.below hrs.below
              have hF3 := hF.below (hrs.below.mono hB)
              have c0 : W.cell? ⟨p, 0, none⟩ = some (.map (some A.md)) := by rw [← HP.out]; exact Blk.cell hcd.blk 0
              have c1 : W.cell? ⟨p, 1, none⟩ = some (.map (some A.mf)) := by rw [← HP.out]; exact Blk.cell hcd.blk 1
              have q0 : W.cell? ⟨q, 0, none⟩ = some (.string S) := hrs.one.cell 0
              have q1 : W.cell? ⟨q + 1, 0, none⟩ = some (.string S2) := hrs.two.cell 0
              have hql := hrs.one.lt
              have hql2 := hrs.two.lt
              have hpl : p < W.heap.size := lt_of_cell c0
              have hlk := look_dir hcd hf S2 hS2 0 (by rw [kb]; rfl)
              go_upto_region 10 with fail
              refine wp_region_later (by kernel_rfl) (by kernel_rfl) ?_
              repeat (go_big_quiet_step (fail))
              clear hlk
              refine wpQuiet_nil ?_
              rintro W ⟨⟨_, hb2⟩, rfl⟩
              have hrs2 := HRS.out.later hb2
              clear hrs hcd hF3 c0 c1 q0 q1 hql hql2 hpl hb2 HRS
              have HRS := Lib.hid hrs2
              clear hrs2
              have hrs := HRS.out
              have hcd := h.below hrs.below
              have hF3 := hF.below (hrs.below.mono hB)
              have c0 : W.cell? ⟨p, 0, none⟩ = some (.map (some A.md)) := by rw [← HP.out]; exact Blk.cell hcd.blk 0
              have c1 : W.cell? ⟨p, 1, none⟩ = some (.map (some A.mf)) := by rw [← HP.out]; exact Blk.cell hcd.blk 1
              have q0 : W.cell? ⟨q, 0, none⟩ = some (.string S) := hrs.one.cell 0
              have q1 : W.cell? ⟨q + 1, 0, none⟩ = some (.string S2) := hrs.two.cell 0
              have hql := hrs.one.lt
              have hql2 := hrs.two.lt
              have hpl : p < W.heap.size := lt_of_cell c0
              obtain ⟨P, hP, hlf⟩ := look_fil hcd hf S2 hS2
              obtain rfl : P = none := hP.2 (by rw [kb]; omega)
              go_upto_region 11 with fail
              refine wp_region_later (by kernel_rfl) (by kernel_rfl) ?_
              repeat (go_big_quiet_step (fail))
              clear hlf hP
              refine wpQuiet_nil ?_
              rintro W ⟨⟨_, hb2⟩, rfl⟩
              have hrs2 := HRS.out.later hb2
              clear hrs hcd hF3 c0 c1 q0 q1 hql hql2 hpl hb2 HRS
              have HRS := Lib.hid hrs2
              clear hrs2
              have HE5 := Lib.hid (show renameD d S.data.toList S2.data.toList = namesD d (.rename S.data.toList S2.data.toList) by rw [HE1.out, if_neg (fun e => by rw [HNB.out] at e; cases e.2), if_neg (by rw [ka, HRP.out]; simp), if_neg (by rw [kb]; simp)])
              have hrs := HRS.out
              have hF3 := hF.below (hrs.below.mono hB)
              have hcd := h.below hrs.below
              have hqW := HQ.out
              have hRq : R q = 0 := h.inw.new (by omega)
              have hRq1 : R (q + 1) = 0 := h.inw.new (by omega)
              have hcd7 : CD B0 W (giv R q 5) A d := hcd.grant hrs.one.lt hRq (by omega) 5
              have hcd8 : CD B0 W (giv (giv R q 5) (q + 1) 5) A d := hcd7.grant hrs.two.lt (by rw [giv_ne (by omega)]; exact hRq1) (by omega) 5
              have hST : StepM W (giv (giv R q 5) (q + 1) 5) A.φ (.rename S.data.toList S2.data.toList) (.func (.func 113) #[] #[.pointer (some ⟨q, 0, none⟩), .pointer (some ⟨q + 1, 0, none⟩)]) := by
                have e : txtV S.data.toList = .string S := by unfold txtV; rw [← bytes_of rfl]
                have e2 : txtV S2.data.toList = .string S2 := by unfold txtV; rw [← bytes_of rfl]
                refine ⟨q, q + 1, rfl, ?_, ?_⟩
                · rw [Box, e]
                  exact ⟨hrs.one, by rw [giv_ne (by omega)]; exact giv_self _ _ _⟩
                · rw [Box, e2]
                  exact ⟨hrs.two, giv_self _ _ _⟩
              have hok : StOk d.files.length d.things (.rename S.data.toList S2.data.toList) := by (exact ⟨HR1.out, HR2.out, by rw [ka]; omega, HRP.out, by rw [kb]; omega, fun e => ⟨HNB.out, kb⟩, fun e => by rw [e] at ka; rw [ka] at kb; cases kb⟩)
              have hnm := names_calls (a := a) ⟨#[114, 101, 110, 97, 109, 101]⟩ S (.rename S.data.toList S2.data.toList) _ _ W hcd8 hST hf.tw hok (by have := hf.tl; omega) (by have := hf.sl; omega) hf.aw (by have := hrs.below.size; omega) hF3
              rw [HP.out] at hnm
              have hOw : Own R (giv (giv R q 5) (q + 1) 5) w W := by
                have o1 : Own R R w W := Own.of_below hrs.below
                exact ⟨o1.os, o1.tape, o1.output, o1.size, o1.block, fun k hk => by rw [giv_ne (by omega), giv_ne (by omega)]⟩
              have HOW := Lib.hid hOw
              have HNM2 := Lib.hid hnm
              have q0 : W.cell? ⟨q, 0, none⟩ = some (.string S) := hrs.one.cell 0
              clear hnm hST hcd hcd7 hcd8 hF3 hOw hok hrs hqW
              go_wp2_with fail
              refine HNM2.out.mono ?_
              rintro e w7 hN
              obtain ⟨v, R', A', rfl, k2, k3, k4, k5, k6⟩ := hN
              have hfin : NamesOut B0 a R A (renameD d S.data.toList S2.data.toList) ⟨#[114, 101, 110, 97, 109, 101]⟩ S w (.returned v) w7 := by
                rw [HE5.out]
                exact ⟨v, R', A', rfl, k2, k3, HOW.out.trans k4, k5, k6⟩
              have HFIN := Lib.hid hfin
              clear hfin k2 k3 k4 k5
              go_wp2_with fail
              go_ret
              exact HFIN.out
            · have hrs := HRS.out
              have hcd := h.below hrs.below
              have hF3 := hF.below (hrs.below.mono hB)
              have c0 : W.cell? ⟨p, 0, none⟩ = some (.map (some A.md)) := by rw [← HP.out]; exact Blk.cell hcd.blk 0
              have c1 : W.cell? ⟨p, 1, none⟩ = some (.map (some A.mf)) := by rw [← HP.out]; exact Blk.cell hcd.blk 1
              have q0 : W.cell? ⟨q, 0, none⟩ = some (.string S) := hrs.one.cell 0
              have q1 : W.cell? ⟨q + 1, 0, none⟩ = some (.string S2) := hrs.two.cell 0
              have hql := hrs.one.lt
              have hql2 := hrs.two.lt
              have hpl : p < W.heap.size := lt_of_cell c0
              have hlk := look_dir hcd hf S2 hS2 0 (by rw [kb]; rfl)
              go_upto_region 10 with fail
              refine wp_region_later (by kernel_rfl) (by kernel_rfl) ?_
              repeat (go_big_quiet_step (fail))
              clear hlk
              refine wpQuiet_nil ?_
              rintro W ⟨⟨_, hb2⟩, rfl⟩
              have hrs2 := HRS.out.later hb2
              clear hrs hcd hF3 c0 c1 q0 q1 hql hql2 hpl hb2 HRS
              have HRS := Lib.hid hrs2
              clear hrs2
              have hrs := HRS.out
              have hcd := h.below hrs.below
              have hF3 := hF.below (hrs.below.mono hB)
              have c0 : W.cell? ⟨p, 0, none⟩ = some (.map (some A.md)) := by rw [← HP.out]; exact Blk.cell hcd.blk 0
              have c1 : W.cell? ⟨p, 1, none⟩ = some (.map (some A.mf)) := by rw [← HP.out]; exact Blk.cell hcd.blk 1
              have q0 : W.cell? ⟨q, 0, none⟩ = some (.string S) := hrs.one.cell 0
              have q1 : W.cell? ⟨q + 1, 0, none⟩ = some (.string S2) := hrs.two.cell 0
              have hql := hrs.one.lt
              have hql2 := hrs.two.lt
              have hpl : p < W.heap.size := lt_of_cell c0
              obtain ⟨P, hP, hlf⟩ := look_fil hcd hf S2 hS2
              obtain ⟨P', rfl⟩ : ∃ P', P = some P' := by
                cases P with
                | none => exact absurd kb (hP.1 rfl)
                | some P' => exact ⟨P', rfl⟩
              go_upto_region 11 with fail
              refine wp_region_later (by kernel_rfl) (by kernel_rfl) ?_
              repeat (go_big_quiet_step (fail))
              clear hlf hP
              refine wpQuiet_nil ?_
              rintro W ⟨⟨_, hb2⟩, rfl⟩
              have hrs2 := HRS.out.later hb2
              clear hrs hcd hF3 c0 c1 q0 q1 hql hql2 hpl hb2 HRS
              have HRS := Lib.hid hrs2
              clear hrs2
              have hrs := HRS.out
              have hF3 := hF.below (hrs.below.mono hB)
              have f0 : _ = some (failV a 5) := (hF3 5 (by decide)).2
              have hfl := fail_calls (a := a) ⟨#[114, 101, 110, 97, 109, 101]⟩ S 4 W
              unfold failV at f0 hfl
              simp only [failG] at f0
              have HFL := Lib.hid hfl
              have e2 : renameD d S.data.toList S2.data.toList = (5, d) := by (rw [HE1.out]; (rw [if_neg (fun e => by rw [HNB.out] at e; cases e.2), if_neg (by rw [ka, HRP.out]; simp), if_pos (.inr ⟨kb, .inl ka⟩)]))
              have HE2 := Lib.hid e2
              have q0 : W.cell? ⟨q, 0, none⟩ = some (.string S) := hrs.one.cell 0
              clear hfl hF3 e2 hrs
              go_wp2_with fail
              refine HFL.out.mono ?_
              rintro e w5 ⟨v, rfl, hv5, hb5⟩
              have hfin : NamesOut B0 a R A (renameD d S.data.toList S2.data.toList) ⟨#[114, 101, 110, 97, 109, 101]⟩ S w (.returned v) w5 := by
                rw [HE2.out]
                exact NamesOut.bad h (then_ HRS.out.below hb5) hv5
              have HFIN := Lib.hid hfin
              clear hfin hv5
              go_wp2_with fail
              go_ret
              exact HFIN.out
            · have hrs := HRS.out
              have hcd := h.below hrs.below
              have hF3 := hF.below (hrs.below.mono hB)
              have c0 : W.cell? ⟨p, 0, none⟩ = some (.map (some A.md)) := by rw [← HP.out]; exact Blk.cell hcd.blk 0
              have c1 : W.cell? ⟨p, 1, none⟩ = some (.map (some A.mf)) := by rw [← HP.out]; exact Blk.cell hcd.blk 1
              have q0 : W.cell? ⟨q, 0, none⟩ = some (.string S) := hrs.one.cell 0
              have q1 : W.cell? ⟨q + 1, 0, none⟩ = some (.string S2) := hrs.two.cell 0
              have hql := hrs.one.lt
              have hql2 := hrs.two.lt
              have hpl : p < W.heap.size := lt_of_cell c0
              have hlk := look_dir hcd hf S2 hS2 1 (by rw [kb]; rfl)
              go_upto_region 10 with fail
              refine wp_region_later (by kernel_rfl) (by kernel_rfl) ?_
              repeat (go_big_quiet_step (fail))
              clear hlk
              refine wpQuiet_nil ?_
              rintro W ⟨⟨_, hb2⟩, rfl⟩
              have hrs2 := HRS.out.later hb2
              clear hrs hcd hF3 c0 c1 q0 q1 hql hql2 hpl hb2 HRS
              have HRS := Lib.hid hrs2
              clear hrs2
              have hrs := HRS.out
              have hF3 := hF.below (hrs.below.mono hB)
              have f0 : _ = some (failV a 5) := (hF3 5 (by decide)).2
              have hfl := fail_calls (a := a) ⟨#[114, 101, 110, 97, 109, 101]⟩ S 4 W
              unfold failV at f0 hfl
              simp only [failG] at f0
              have HFL := Lib.hid hfl
              have e2 : renameD d S.data.toList S2.data.toList = (5, d) := by (rw [HE1.out]; (rw [if_neg (fun e => by rw [HNB.out] at e; cases e.2), if_neg (by rw [ka, HRP.out]; simp), if_pos (.inl kb)]))
              have HE2 := Lib.hid e2
              have q0 : W.cell? ⟨q, 0, none⟩ = some (.string S) := hrs.one.cell 0
              clear hfl hF3 e2 hrs
              go_wp2_with fail
              refine HFL.out.mono ?_
              rintro e w5 ⟨v, rfl, hv5, hb5⟩
              have hfin : NamesOut B0 a R A (renameD d S.data.toList S2.data.toList) ⟨#[114, 101, 110, 97, 109, 101]⟩ S w (.returned v) w5 := by
                rw [HE2.out]
                exact NamesOut.bad h (then_ HRS.out.below hb5) hv5
              have HFIN := Lib.hid hfin
              clear hfin hv5
              go_wp2_with fail
              go_ret
              exact HFIN.out
end
end Go.Proofs.YtfpgbhimgfdddaaGreatDoor
