/- Layer 3's law: step at a nil disk (printed by gen_lawnone.py). -/
import Derived.Test.YtdaidbnbfjgjeaaGreatDoorDsa32
set_option linter.unusedVariables false
set_option linter.unusedSimpArgs false
namespace Go.Proofs.YtdaidbnbfjgjeaaGreatDoor
open Go.RowKit Go.Shelf Go.Maps Go.Sort
attribute [local go_sem ↓] Go.wp_at_zero Go.wp_at_succ
attribute [local go_sem] Later.cell Later.frozen

section
variable {B0 M : Nat} {a : Nat → Addr} {S : Nat → Nat} {B : RAdr} {d : Ds} {w w' : World}
set_option maxRecDepth 100000 in
set_option maxHeartbeats 2000000 in
theorem rename_nil (X Y : ByteArray) (w : World) (hX : X.size ≤ 1073741824) (hY : Y.size ≤ 1073741824) (hB : B0 ≤ w.heap.size) (hF : Fails B0 a w) :
    Calls Tryz.prog 57 #[.pointer none, .string X, .string Y] w (NilOut a ⟨#[114, 101, 110, 97, 109, 101]⟩ X w) := by
  obtain ⟨r1, hr1⟩ : ∃ r, pathB X.data.toList = r := ⟨_, rfl⟩
  obtain ⟨r2, hr2⟩ : ∃ r, pathB Y.data.toList = r := ⟨_, rfl⟩
  have HN1 := Lib.hid (fun w => path_calls X r1 hr1 hX w)
  have HN2 := Lib.hid (fun w => path_calls Y r2 hr2 hY w)
  clear hr1 hr2
  go_enter Tryz.func57, Tryz.ntmps57
  go_upto_region 1 with fail
  obtain ⟨W, hw1⟩ : ∃ x, (w.alloc (.cells #[.string X] 9)).alloc (.cells #[.string Y] 9) = x := ⟨_, rfl⟩
  have hb1 : Below w.heap.size w W := by rw [← hw1]; exact ((Below.refl _ _).alloc (Nat.le_refl _) _).alloc (by simp) _
  have hk1 : Blk W w.heap.size 9 #[.string X] := by rw [← hw1]; exact (Blk.new _ _ _).alloc _
  have hk2 : Blk W (w.heap.size + 1) 9 #[.string Y] := by rw [← hw1]; exact Blk.newAt (by simp)
  rw [hw1]
  obtain ⟨q, hqq⟩ : ∃ q, w.heap.size = q := ⟨_, rfl⟩
  rw [hqq] at hk1 hk2 hB ⊢
  have HQ := Lib.hid hqq
  have q0 : W.cell? ⟨q, 0, none⟩ = some (.string X) := hk1.cell 0
  have q1 : W.cell? ⟨q + 1, 0, none⟩ = some (.string Y) := hk2.cell 0
  have hql := hk1.lt
  have hql2 := hk2.lt
  clear hw1 hqq
  cases r1 with
  | false =>
    refine wp_region_later_tail 8 (by kernel_rfl) (by kernel_rfl) ?_
    simp only [List.take_succ_cons, List.take_zero, List.drop_succ_cons, List.drop_zero]
    repeat (go_big_quiet_step ((go_at_call 33; exact quiet_later _ (HN1.out _))))
    refine wpQuiet_nil ?_
    rintro W2 ⟨⟨_, hb2⟩, rfl⟩
    have hB2 := then_ hb1 hb2
    have hk1' := hk1.below hb2 hk1.lt
    have hk2' := hk2.below hb2 hk2.lt
    have q0 : W2.cell? ⟨q, 0, none⟩ = some (.string X) := hk1'.cell 0
    have q1 : W2.cell? ⟨q + 1, 0, none⟩ = some (.string Y) := hk2'.cell 0
    have HRD := Lib.hid (ready_nil (B0 := B0) (a := a) false ⟨#[114, 101, 110, 97, 109, 101]⟩ X W2 (hF.below (hB2.mono (by have := HQ.out; omega))))
    clear hk1 hk2 hk1' hk2' hql hql2 hb1 hb2
    go_wp2_with fail
    refine HRD.out.mono ?_
    rintro _ w3 ⟨v, rfl, hv3, hb3⟩
    have HFIN := Lib.hid (show NilOut a ⟨#[114, 101, 110, 97, 109, 101]⟩ X w (.returned v) w3 from ⟨v, rfl, hv3, then_ hB2 hb3⟩)
    obtain ⟨q4, rfl, _⟩ := hv3
    clear q0 q1
    go_wp2_with fail
    go_ret
    exact HFIN.out
  | true =>
    refine wp_region_later_tail 8 (by kernel_rfl) (by kernel_rfl) ?_
    simp only [List.take_succ_cons, List.take_zero, List.drop_succ_cons, List.drop_zero]
    repeat (go_big_quiet_step ((go_at_call 33; first | with_reducible exact quiet_later _ (HN1.out _) | with_reducible exact quiet_later _ (HN2.out _))))
    refine wpQuiet_nil ?_
    rintro W2 ⟨⟨_, hb2⟩, rfl⟩
    have hB2 := then_ hb1 hb2
    have hk1' := hk1.below hb2 hk1.lt
    have hk2' := hk2.below hb2 hk2.lt
    have q0 : W2.cell? ⟨q, 0, none⟩ = some (.string X) := hk1'.cell 0
    have q1 : W2.cell? ⟨q + 1, 0, none⟩ = some (.string Y) := hk2'.cell 0
    have HRD := Lib.hid (ready_nil (B0 := B0) (a := a) r2 ⟨#[114, 101, 110, 97, 109, 101]⟩ X W2 (hF.below (hB2.mono (by have := HQ.out; omega))))
    clear hk1 hk2 hk1' hk2' hql hql2 hb1 hb2
    go_wp2_with fail
    refine HRD.out.mono ?_
    rintro _ w3 ⟨v, rfl, hv3, hb3⟩
    have HFIN := Lib.hid (show NilOut a ⟨#[114, 101, 110, 97, 109, 101]⟩ X w (.returned v) w3 from ⟨v, rfl, hv3, then_ hB2 hb3⟩)
    obtain ⟨q4, rfl, _⟩ := hv3
    clear q0 q1
    go_wp2_with fail
    go_ret
    exact HFIN.out
set_option maxRecDepth 100000 in
set_option maxHeartbeats 2000000 in
theorem list_nil (X : ByteArray) (w : World) (hX : X.size ≤ 1073741824) (hF : Fails B0 a w) :
    Calls Tryz.prog 18 #[.pointer none, .string X] w (NilOut2 a (.slice none 0 0) ⟨#[108, 105, 115, 116]⟩ X w) := by
  by_cases h0 : X = ⟨#[]⟩
  · subst h0
    have HRD := Lib.hid (ready_nil (B0 := B0) (a := a) true ⟨#[108, 105, 115, 116]⟩ ⟨#[]⟩ w hF)
    go_enter Tryz.func18, Tryz.ntmps18
    go_wp2_with fail
    refine HRD.out.mono ?_
    rintro _ w3 ⟨v, rfl, hv3, hb3⟩
    have HFIN := Lib.hid (show NilOut2 a (.slice none 0 0) ⟨#[108, 105, 115, 116]⟩ ⟨#[]⟩ w (.returned (.tuple #[.slice none 0 0, v])) w3 from ⟨v, rfl, hv3, hb3⟩)
    obtain ⟨q4, rfl, _⟩ := hv3
    go_wp2_with fail
    go_ret2
    exact HFIN.out
  · obtain ⟨nb, hnb⟩ : ∃ b, nameB X.data.toList = b := ⟨_, rfl⟩
    have HNM := Lib.hid (fun w => name_calls X nb hnb hX w)
    have HRD := Lib.hid (fun w hF => ready_nil (B0 := B0) (a := a) nb ⟨#[108, 105, 115, 116]⟩ X w hF)
    obtain ⟨s1, s2, s3, s4⟩ := ne_facts h0
    have hz0 : 0 < X.size := by
      rcases Nat.eq_zero_or_pos X.size with h1 | h1
      · exact absurd (bytes_eq (List.eq_nil_of_length_eq_zero (by rw [text_size3]; exact h1))) h0
      · exact h1
    have s5 : X.toList.isEmpty = false := by rw [empty_size3]; exact decide_eq_false (by omega)
    have s6 : X.toList ≠ [] := fun e => by rw [e] at s5; simp at s5
    have s7 : decide (X.toList = []) = false := by simpa using s6
    clear hnb h0 s6
    go_enter Tryz.func18, Tryz.ntmps18
    go_wp2_with fail
    refine (HNM.out _).mono ?_
    rintro _ w1 ⟨rfl, rfl⟩
    go_wp2_with fail
    refine (HRD.out _ hF).mono ?_
    rintro _ w3 ⟨v, rfl, hv3, hb3⟩
    have HFIN := Lib.hid (show NilOut2 a (.slice none 0 0) ⟨#[108, 105, 115, 116]⟩ X w (.returned (.tuple #[.slice none 0 0, v])) w3 from ⟨v, rfl, hv3, hb3⟩)
    obtain ⟨q4, rfl, _⟩ := hv3
    go_wp2_with fail
    go_ret2
    exact HFIN.out

/-- The document's disk is through with a call. -/
structure NilBoth (B0 : Nat) (S : Nat → Nat) (B : RAdr) (d : Ds) (w w' : World) : Prop where
  ex : ∃ S' B', RD B0 w' S' B' d ∧ Own S S' w w' ∧ B'.q = B.q
theorem NilBoth.same (h : RD B0 w S B d) (hb : Below w.heap.size w w') : NilBoth B0 S B d w w' := ⟨S, B, h.below hb, .of_below hb, rfl⟩
theorem NilBoth.back (h : NilBoth B0 S B d w w') {w0 : World} (hb : Below w0.heap.size w0 w) : NilBoth B0 S B d w0 w' := by
  obtain ⟨S', B', h1, h2, h3⟩ := h.ex
  exact ⟨S', B', h1, (Own.of_below hb).trans h2, h3⟩
theorem NilBoth.box {o : OpV} {w1 : World} {d' : Ds} (h : NilBoth B0 S B d' w1 w') (hq : OpBox w1 w.heap.size o) (h2 : RD B0 w S B d) : OpBox w' w.heap.size o := by
  obtain ⟨S', B', k1, k2, k3⟩ := h.ex
  exact (k2.block _ hq.lt (h2.inw.new (Nat.le_refl _))).trans hq
theorem NilBoth.of {r : Nat × Ds} {f : FuncId} {args : Array Value} {w1 : World} (hb : Below w1.heap.size w1 w) (hr : r = (1, d)) (h : Calls Tryz.prog f args w (RdOut B0 S B r w)) :
    Calls Tryz.prog f args w fun e w' => e = .returned (.int .i64 ((1 : Nat) : Int)) ∧ NilBoth B0 S B d w1 w' := by
  subst hr
  exact h.mono fun e w3 ⟨S', B', e1, k1, k2, k3⟩ => ⟨e1, S', B', k1, (Own.of_below hb).trans k2, k3⟩
theorem file_off (h : d.off = true) (s : Txt) : fileD d s = .error 1 := by unfold fileD; rw [if_pos h]
theorem all_off (h : d.off = true) (s : Txt) : allD d s = ([], 1) := by unfold allD; rw [file_off h]
theorem read_off (h : d.off = true) (s : Txt) (k n : Int) : readD d s k n = ([], 1) := by unfold readD; rw [all_off h]; simp
theorem list_off (h : d.off = true) (s : Txt) : listD d s = ([], 1) := by unfold listD; rw [if_pos h]
theorem nil_mkdir (X Y : ByteArray) (n m : Int) (pa : Option Addr) (pn pc : Nat) (da : Option Addr) (dn dc : Nat) (yes : Bool) (parts : List Txt) (data : List Int) (h : RD B0 w S B d) (hd : d.off = true) (he : Env B0 a w) (ha : Apart a) (hB : B0 ≤ w.heap.size) (hw : WF M d) {L : Nat} (hM : M + L ≤ 536870912)
    (ho : OpM w S ⟨1, X, Y, n, m, pa, pn, pc, da, dn, dc, yes⟩ parts data L) :
    Calls Tryz.prog 21 #[.pointer none, .pointer (some ⟨B.q, 0, none⟩), .agg #[.int .i64 1, .string X, .string Y, .int .i64 n, .int .i64 m, .slice pa pn pc, .slice da dn dc, .bool yes]] w fun e w' => e = .returned (.bool true) ∧ NilBoth B0 S B (d) w w' := by
  have hb1 : Below w.heap.size w ((⟨1, X, Y, n, m, pa, pn, pc, da, dn, dc, yes⟩ : OpV).boxed w).drew := (OpV.below _ w).drew
  have hq1 : OpBox ((⟨1, X, Y, n, m, pa, pn, pc, da, dn, dc, yes⟩ : OpV).boxed w).drew w.heap.size ⟨1, X, Y, n, m, pa, pn, pc, da, dn, dc, yes⟩ := OpV.box _ w
  obtain ⟨w1, hw1⟩ : ∃ x, ((⟨1, X, Y, n, m, pa, pn, pc, da, dn, dc, yes⟩ : OpV).boxed w).drew = x := ⟨_, rfl⟩
  rw [hw1] at hb1 hq1
  have h1 := h.below hb1
  have he1 := he.below (hb1.mono hB)
  have hB1 : B0 ≤ w1.heap.size := Nat.le_trans hB hb1.size
  have hf := hw.fit (by omega)
  have hoff : mkdirD d X.data.toList = (1, d) := by unfold mkdirD; rw [if_pos hd]
  refine (step_mkdir (M := fun v w' => ErrV a w' ⟨#[109, 107, 100, 105, 114]⟩ X (0 + 1) v ∧ Below w1.heap.size w1 w') (N := NilBoth B0 S B d w1) (k := 1) _ _ X Y n m pa pn pc da dn dc yes w ?_ ?_ ?_ ?_ ?_).mono ?_
  · rw [hw1]; exact (mkdir_nil X w1 ho.a hB1 he1.f)
  · exact fun v w2 hh => code_calls _ _ _ _ _ hh.1 (by decide) (he1.below (hh.2.mono hB1)).f (he1.below (hh.2.mono hB1)).g (he1.below (hh.2.mono hB1)).s ha
  · exact fun v w2 hh => NilBoth.of hh.2 hoff (rmkdir_calls X w2 (h1.below hh.2) hf ho.a (Nat.le_trans hB1 hh.2.size))
  · exact fun v w2 hh => hq1.below hh.2
  · exact fun w2 hh => hh.box hq1 h
  · exact fun e w2 ⟨e1, hh⟩ => ⟨e1, hh.back hb1⟩
theorem nil_create (X Y : ByteArray) (n m : Int) (pa : Option Addr) (pn pc : Nat) (da : Option Addr) (dn dc : Nat) (yes : Bool) (parts : List Txt) (data : List Int) (h : RD B0 w S B d) (hd : d.off = true) (he : Env B0 a w) (ha : Apart a) (hB : B0 ≤ w.heap.size) (hw : WF M d) {L : Nat} (hM : M + L ≤ 536870912)
    (ho : OpM w S ⟨2, X, Y, n, m, pa, pn, pc, da, dn, dc, yes⟩ parts data L) :
    Calls Tryz.prog 21 #[.pointer none, .pointer (some ⟨B.q, 0, none⟩), .agg #[.int .i64 2, .string X, .string Y, .int .i64 n, .int .i64 m, .slice pa pn pc, .slice da dn dc, .bool yes]] w fun e w' => e = .returned (.bool true) ∧ NilBoth B0 S B (d) w w' := by
  have hb1 : Below w.heap.size w ((⟨2, X, Y, n, m, pa, pn, pc, da, dn, dc, yes⟩ : OpV).boxed w).drew := (OpV.below _ w).drew
  have hq1 : OpBox ((⟨2, X, Y, n, m, pa, pn, pc, da, dn, dc, yes⟩ : OpV).boxed w).drew w.heap.size ⟨2, X, Y, n, m, pa, pn, pc, da, dn, dc, yes⟩ := OpV.box _ w
  obtain ⟨w1, hw1⟩ : ∃ x, ((⟨2, X, Y, n, m, pa, pn, pc, da, dn, dc, yes⟩ : OpV).boxed w).drew = x := ⟨_, rfl⟩
  rw [hw1] at hb1 hq1
  have h1 := h.below hb1
  have he1 := he.below (hb1.mono hB)
  have hB1 : B0 ≤ w1.heap.size := Nat.le_trans hB hb1.size
  have hf := hw.fit (by omega)
  have hoff : createD d X.data.toList = (1, d) := by unfold createD; rw [if_pos hd]
  refine (step_create (M := fun v w' => ErrV a w' ⟨#[99, 114, 101, 97, 116, 101]⟩ X (0 + 1) v ∧ Below w1.heap.size w1 w') (N := NilBoth B0 S B d w1) (k := 1) _ _ X Y n m pa pn pc da dn dc yes w ?_ ?_ ?_ ?_ ?_).mono ?_
  · rw [hw1]; exact (create_nil X w1 ho.a hB1 he1.f)
  · exact fun v w2 hh => code_calls _ _ _ _ _ hh.1 (by decide) (he1.below (hh.2.mono hB1)).f (he1.below (hh.2.mono hB1)).g (he1.below (hh.2.mono hB1)).s ha
  · exact fun v w2 hh => NilBoth.of hh.2 hoff (rcreate_calls X w2 (h1.below hh.2) hf ho.a (Nat.le_trans hB1 hh.2.size))
  · exact fun v w2 hh => hq1.below hh.2
  · exact fun w2 hh => hh.box hq1 h
  · exact fun e w2 ⟨e1, hh⟩ => ⟨e1, hh.back hb1⟩
theorem nil_cut (X Y : ByteArray) (n m : Int) (pa : Option Addr) (pn pc : Nat) (da : Option Addr) (dn dc : Nat) (yes : Bool) (parts : List Txt) (data : List Int) (h : RD B0 w S B d) (hd : d.off = true) (he : Env B0 a w) (ha : Apart a) (hB : B0 ≤ w.heap.size) (hw : WF M d) {L : Nat} (hM : M + L ≤ 536870912)
    (ho : OpM w S ⟨4, X, Y, n, m, pa, pn, pc, da, dn, dc, yes⟩ parts data L) :
    Calls Tryz.prog 21 #[.pointer none, .pointer (some ⟨B.q, 0, none⟩), .agg #[.int .i64 4, .string X, .string Y, .int .i64 n, .int .i64 m, .slice pa pn pc, .slice da dn dc, .bool yes]] w fun e w' => e = .returned (.bool true) ∧ NilBoth B0 S B (d) w w' := by
  have hb1 : Below w.heap.size w ((⟨4, X, Y, n, m, pa, pn, pc, da, dn, dc, yes⟩ : OpV).boxed w).drew := (OpV.below _ w).drew
  have hq1 : OpBox ((⟨4, X, Y, n, m, pa, pn, pc, da, dn, dc, yes⟩ : OpV).boxed w).drew w.heap.size ⟨4, X, Y, n, m, pa, pn, pc, da, dn, dc, yes⟩ := OpV.box _ w
  obtain ⟨w1, hw1⟩ : ∃ x, ((⟨4, X, Y, n, m, pa, pn, pc, da, dn, dc, yes⟩ : OpV).boxed w).drew = x := ⟨_, rfl⟩
  rw [hw1] at hb1 hq1
  have h1 := h.below hb1
  have he1 := he.below (hb1.mono hB)
  have hB1 : B0 ≤ w1.heap.size := Nat.le_trans hB hb1.size
  have hf := hw.fit (by omega)
  have hoff : cutD d X.data.toList n = (1, d) := by unfold cutD; rw [file_off hd]
  refine (step_cut (M := fun v w' => ErrV a w' ⟨#[99, 117, 116]⟩ X (0 + 1) v ∧ Below w1.heap.size w1 w') (N := NilBoth B0 S B d w1) (k := 1) _ _ X Y n m pa pn pc da dn dc yes w ?_ ?_ ?_ ?_ ?_).mono ?_
  · rw [hw1]; exact (cut_nil X n w1 ho.a hB1 he1.f)
  · exact fun v w2 hh => code_calls _ _ _ _ _ hh.1 (by decide) (he1.below (hh.2.mono hB1)).f (he1.below (hh.2.mono hB1)).g (he1.below (hh.2.mono hB1)).s ha
  · exact fun v w2 hh => NilBoth.of hh.2 hoff (rcut_calls X n w2 (h1.below hh.2) hf ho.a (Nat.le_trans hB1 hh.2.size) ho.n1 ho.n2 (hw.nl (by omega)) (hw.sl (by omega)))
  · exact fun v w2 hh => hq1.below hh.2
  · exact fun w2 hh => hh.box hq1 h
  · exact fun e w2 ⟨e1, hh⟩ => ⟨e1, hh.back hb1⟩
theorem nil_sync (X Y : ByteArray) (n m : Int) (pa : Option Addr) (pn pc : Nat) (da : Option Addr) (dn dc : Nat) (yes : Bool) (parts : List Txt) (data : List Int) (h : RD B0 w S B d) (hd : d.off = true) (he : Env B0 a w) (ha : Apart a) (hB : B0 ≤ w.heap.size) (hw : WF M d) {L : Nat} (hM : M + L ≤ 536870912)
    (ho : OpM w S ⟨5, X, Y, n, m, pa, pn, pc, da, dn, dc, yes⟩ parts data L) :
    Calls Tryz.prog 21 #[.pointer none, .pointer (some ⟨B.q, 0, none⟩), .agg #[.int .i64 5, .string X, .string Y, .int .i64 n, .int .i64 m, .slice pa pn pc, .slice da dn dc, .bool yes]] w fun e w' => e = .returned (.bool true) ∧ NilBoth B0 S B (d) w w' := by
  have hb1 : Below w.heap.size w ((⟨5, X, Y, n, m, pa, pn, pc, da, dn, dc, yes⟩ : OpV).boxed w).drew := (OpV.below _ w).drew
  have hq1 : OpBox ((⟨5, X, Y, n, m, pa, pn, pc, da, dn, dc, yes⟩ : OpV).boxed w).drew w.heap.size ⟨5, X, Y, n, m, pa, pn, pc, da, dn, dc, yes⟩ := OpV.box _ w
  obtain ⟨w1, hw1⟩ : ∃ x, ((⟨5, X, Y, n, m, pa, pn, pc, da, dn, dc, yes⟩ : OpV).boxed w).drew = x := ⟨_, rfl⟩
  rw [hw1] at hb1 hq1
  have h1 := h.below hb1
  have he1 := he.below (hb1.mono hB)
  have hB1 : B0 ≤ w1.heap.size := Nat.le_trans hB hb1.size
  have hf := hw.fit (by omega)
  have hoff : syncD d X.data.toList = (1, d) := by unfold syncD; rw [file_off hd]
  refine (step_sync (M := fun v w' => ErrV a w' ⟨#[115, 121, 110, 99]⟩ X (0 + 1) v ∧ Below w1.heap.size w1 w') (N := NilBoth B0 S B d w1) (k := 1) _ _ X Y n m pa pn pc da dn dc yes w ?_ ?_ ?_ ?_ ?_).mono ?_
  · rw [hw1]; exact (sync_nil X w1 ho.a hB1 he1.f)
  · exact fun v w2 hh => code_calls _ _ _ _ _ hh.1 (by decide) (he1.below (hh.2.mono hB1)).f (he1.below (hh.2.mono hB1)).g (he1.below (hh.2.mono hB1)).s ha
  · exact fun v w2 hh => NilBoth.of hh.2 hoff (rsync_calls X w2 (h1.below hh.2) hf ho.a)
  · exact fun v w2 hh => hq1.below hh.2
  · exact fun w2 hh => hh.box hq1 h
  · exact fun e w2 ⟨e1, hh⟩ => ⟨e1, hh.back hb1⟩
theorem nil_rename (X Y : ByteArray) (n m : Int) (pa : Option Addr) (pn pc : Nat) (da : Option Addr) (dn dc : Nat) (yes : Bool) (parts : List Txt) (data : List Int) (h : RD B0 w S B d) (hd : d.off = true) (he : Env B0 a w) (ha : Apart a) (hB : B0 ≤ w.heap.size) (hw : WF M d) {L : Nat} (hM : M + L ≤ 536870912)
    (ho : OpM w S ⟨7, X, Y, n, m, pa, pn, pc, da, dn, dc, yes⟩ parts data L) :
    Calls Tryz.prog 21 #[.pointer none, .pointer (some ⟨B.q, 0, none⟩), .agg #[.int .i64 7, .string X, .string Y, .int .i64 n, .int .i64 m, .slice pa pn pc, .slice da dn dc, .bool yes]] w fun e w' => e = .returned (.bool true) ∧ NilBoth B0 S B (d) w w' := by
  have hb1 : Below w.heap.size w ((⟨7, X, Y, n, m, pa, pn, pc, da, dn, dc, yes⟩ : OpV).boxed w).drew := (OpV.below _ w).drew
  have hq1 : OpBox ((⟨7, X, Y, n, m, pa, pn, pc, da, dn, dc, yes⟩ : OpV).boxed w).drew w.heap.size ⟨7, X, Y, n, m, pa, pn, pc, da, dn, dc, yes⟩ := OpV.box _ w
  obtain ⟨w1, hw1⟩ : ∃ x, ((⟨7, X, Y, n, m, pa, pn, pc, da, dn, dc, yes⟩ : OpV).boxed w).drew = x := ⟨_, rfl⟩
  rw [hw1] at hb1 hq1
  have h1 := h.below hb1
  have he1 := he.below (hb1.mono hB)
  have hB1 : B0 ≤ w1.heap.size := Nat.le_trans hB hb1.size
  have hf := hw.fit (by omega)
  have hoff : renameD d X.data.toList Y.data.toList = (1, d) := by unfold renameD; rw [if_pos hd]
  refine (step_rename (M := fun v w' => ErrV a w' ⟨#[114, 101, 110, 97, 109, 101]⟩ X (0 + 1) v ∧ Below w1.heap.size w1 w') (N := NilBoth B0 S B d w1) (k := 1) _ _ X Y n m pa pn pc da dn dc yes w ?_ ?_ ?_ ?_ ?_).mono ?_
  · rw [hw1]; exact (rename_nil X Y w1 ho.a ho.b hB1 he1.f)
  · exact fun v w2 hh => code_calls _ _ _ _ _ hh.1 (by decide) (he1.below (hh.2.mono hB1)).f (he1.below (hh.2.mono hB1)).g (he1.below (hh.2.mono hB1)).s ha
  · exact fun v w2 hh => NilBoth.of hh.2 hoff (rrename_calls X Y w2 (h1.below hh.2) hf ho.a ho.b (Nat.le_trans hB1 hh.2.size))
  · exact fun v w2 hh => hq1.below hh.2
  · exact fun w2 hh => hh.box hq1 h
  · exact fun e w2 ⟨e1, hh⟩ => ⟨e1, hh.back hb1⟩
theorem nil_remove (X Y : ByteArray) (n m : Int) (pa : Option Addr) (pn pc : Nat) (da : Option Addr) (dn dc : Nat) (yes : Bool) (parts : List Txt) (data : List Int) (h : RD B0 w S B d) (hd : d.off = true) (he : Env B0 a w) (ha : Apart a) (hB : B0 ≤ w.heap.size) (hw : WF M d) {L : Nat} (hM : M + L ≤ 536870912)
    (ho : OpM w S ⟨8, X, Y, n, m, pa, pn, pc, da, dn, dc, yes⟩ parts data L) :
    Calls Tryz.prog 21 #[.pointer none, .pointer (some ⟨B.q, 0, none⟩), .agg #[.int .i64 8, .string X, .string Y, .int .i64 n, .int .i64 m, .slice pa pn pc, .slice da dn dc, .bool yes]] w fun e w' => e = .returned (.bool true) ∧ NilBoth B0 S B (d) w w' := by
  have hb1 : Below w.heap.size w ((⟨8, X, Y, n, m, pa, pn, pc, da, dn, dc, yes⟩ : OpV).boxed w).drew := (OpV.below _ w).drew
  have hq1 : OpBox ((⟨8, X, Y, n, m, pa, pn, pc, da, dn, dc, yes⟩ : OpV).boxed w).drew w.heap.size ⟨8, X, Y, n, m, pa, pn, pc, da, dn, dc, yes⟩ := OpV.box _ w
  obtain ⟨w1, hw1⟩ : ∃ x, ((⟨8, X, Y, n, m, pa, pn, pc, da, dn, dc, yes⟩ : OpV).boxed w).drew = x := ⟨_, rfl⟩
  rw [hw1] at hb1 hq1
  have h1 := h.below hb1
  have he1 := he.below (hb1.mono hB)
  have hB1 : B0 ≤ w1.heap.size := Nat.le_trans hB hb1.size
  have hf := hw.fit (by omega)
  have hoff : removeD d X.data.toList = (1, d) := by unfold removeD; rw [if_pos hd]
  refine (step_remove (M := fun v w' => ErrV a w' ⟨#[114, 101, 109, 111, 118, 101]⟩ X (0 + 1) v ∧ Below w1.heap.size w1 w') (N := NilBoth B0 S B d w1) (k := 1) _ _ X Y n m pa pn pc da dn dc yes w ?_ ?_ ?_ ?_ ?_).mono ?_
  · rw [hw1]; exact (remove_nil X w1 ho.a hB1 he1.f)
  · exact fun v w2 hh => code_calls _ _ _ _ _ hh.1 (by decide) (he1.below (hh.2.mono hB1)).f (he1.below (hh.2.mono hB1)).g (he1.below (hh.2.mono hB1)).s ha
  · exact fun v w2 hh => NilBoth.of hh.2 hoff (rremove_calls X w2 (h1.below hh.2) hf ho.a (Nat.le_trans hB1 hh.2.size))
  · exact fun v w2 hh => hq1.below hh.2
  · exact fun w2 hh => hh.box hq1 h
  · exact fun e w2 ⟨e1, hh⟩ => ⟨e1, hh.back hb1⟩
theorem nil_syncnames (X Y : ByteArray) (n m : Int) (pa : Option Addr) (pn pc : Nat) (da : Option Addr) (dn dc : Nat) (yes : Bool) (parts : List Txt) (data : List Int) (h : RD B0 w S B d) (hd : d.off = true) (he : Env B0 a w) (ha : Apart a) (hB : B0 ≤ w.heap.size) (hw : WF M d) {L : Nat} (hM : M + L ≤ 536870912)
    (ho : OpM w S ⟨6, X, Y, n, m, pa, pn, pc, da, dn, dc, yes⟩ parts data L) :
    Calls Tryz.prog 21 #[.pointer none, .pointer (some ⟨B.q, 0, none⟩), .agg #[.int .i64 6, .string X, .string Y, .int .i64 n, .int .i64 m, .slice pa pn pc, .slice da dn dc, .bool yes]] w fun e w' => e = .returned (.bool true) ∧ NilBoth B0 S B (d) w w' := by
  have hb1 : Below w.heap.size w ((⟨6, X, Y, n, m, pa, pn, pc, da, dn, dc, yes⟩ : OpV).boxed w) := OpV.below _ w
  have hq1 : OpBox ((⟨6, X, Y, n, m, pa, pn, pc, da, dn, dc, yes⟩ : OpV).boxed w) w.heap.size ⟨6, X, Y, n, m, pa, pn, pc, da, dn, dc, yes⟩ := OpV.box _ w
  obtain ⟨w1, hw1⟩ : ∃ x, ((⟨6, X, Y, n, m, pa, pn, pc, da, dn, dc, yes⟩ : OpV).boxed w) = x := ⟨_, rfl⟩
  rw [hw1] at hb1 hq1
  have h1 := h.below hb1
  have he1 := he.below (hb1.mono hB)
  have hB1 : B0 ≤ w1.heap.size := Nat.le_trans hB hb1.size
  have hf := hw.fit (by omega)
  have hoff : syncNamesD d = (1, d) := by unfold syncNamesD; rw [if_pos hd]
  refine (step_syncnames (M := fun v w' => ErrV a w' ⟨#[110, 97, 109, 101, 115]⟩ ⟨#[]⟩ (0 + 1) v ∧ Below w1.heap.size w1 w') (N := NilBoth B0 S B d w1) (k := 1) _ _ X Y n m pa pn pc da dn dc yes w ?_ ?_ ?_).mono ?_
  · rw [hw1]; exact (syncNames_nil w1 he1.f)
  · exact fun v w2 hh => code_calls _ _ _ _ _ hh.1 (by decide) (he1.below (hh.2.mono hB1)).f (he1.below (hh.2.mono hB1)).g (he1.below (hh.2.mono hB1)).s ha
  · exact fun v w2 hh => NilBoth.of hh.2 hoff (rsyncnames_calls w2 (h1.below hh.2) hf)
  · exact fun e w2 ⟨e1, hh⟩ => ⟨e1, hh.back hb1⟩
theorem nil_append (X Y : ByteArray) (n m : Int) (pa : Option Addr) (pn pc : Nat) (da : Option Addr) (dn dc : Nat) (yes : Bool) (parts : List Txt) (data : List Int) (h : RD B0 w S B d) (hd : d.off = true) (he : Env B0 a w) (ha : Apart a) (hB : B0 ≤ w.heap.size) (hw : WF M d) {L : Nat} (hM : M + L ≤ 536870912)
    (ho : OpM w S ⟨3, X, Y, n, m, pa, pn, pc, da, dn, dc, yes⟩ parts data L) :
    Calls Tryz.prog 21 #[.pointer none, .pointer (some ⟨B.q, 0, none⟩), .agg #[.int .i64 3, .string X, .string Y, .int .i64 n, .int .i64 m, .slice pa pn pc, .slice da dn dc, .bool yes]] w fun e w' => e = .returned (.bool true) ∧ NilBoth B0 S B (d) w w' := by
  have hb1 : Below w.heap.size w ((⟨3, X, Y, n, m, pa, pn, pc, da, dn, dc, yes⟩ : OpV).boxed w).drew := (OpV.below _ w).drew
  have hq1 : OpBox ((⟨3, X, Y, n, m, pa, pn, pc, da, dn, dc, yes⟩ : OpV).boxed w).drew w.heap.size ⟨3, X, Y, n, m, pa, pn, pc, da, dn, dc, yes⟩ := OpV.box _ w
  obtain ⟨w1, hw1⟩ : ∃ x, ((⟨3, X, Y, n, m, pa, pn, pc, da, dn, dc, yes⟩ : OpV).boxed w).drew = x := ⟨_, rfl⟩
  rw [hw1] at hb1 hq1
  have h1 := h.below hb1
  have he1 := he.below (hb1.mono hB)
  have hB1 : B0 ≤ w1.heap.size := Nat.le_trans hB hb1.size
  have hf := hw.fit (by omega)
  have hs1 : Strs w1 pa pn parts := (ho.same hb1.size fun k hk _ => hb1.block k hk).1
  have hpl : parts.length = pn := hs1.len
  have hpn : pn * 16 ≤ 140737488351232 := ho.pn
  have hfl := ho.fl
  have hoff : appendD d X.data.toList parts.flatten = (1, d) := by unfold appendD; rw [file_off hd]
  refine (step_append (M0 := fun v w' => ∃ A' c', v = .slice A' pn c' ∧ Below w1.heap.size w1 w') (M := fun v w' => ErrV a w' ⟨#[97, 112, 112, 101, 110, 100]⟩ X (0 + 1) v ∧ Below w1.heap.size w1 w') (N := NilBoth B0 S B d w1) (k := 1) _ _ X Y n m pa pn pc da dn dc yes w ?_ ?_ ?_ ?_ ?_ ?_ ?_).mono ?_
  · rw [hw1]
    refine (twin3_calls parts pa pn pc w1 hs1 ho.p0 hpn).mono ?_
    rintro e w2 ⟨A', c', rfl, hs, hc, hb⟩
    rw [hpl]
    exact ⟨_, rfl, A', c', rfl, hb⟩
  · rintro v w2 ⟨A', c', rfl, hb⟩
    refine (append_nil X A' pn c' w2 ho.a (Nat.le_trans hB1 hb.size) (he1.below (hb.mono hB1)).f).mono ?_
    rintro e w3 ⟨v, e1, e2, hh⟩
    exact ⟨v, e1, e2, then_ hb hh⟩
  · exact fun v w2 hh => code_calls _ _ _ _ _ hh.1 (by decide) (he1.below (hh.2.mono hB1)).f (he1.below (hh.2.mono hB1)).g (he1.below (hh.2.mono hB1)).s ha
  · exact fun v w2 hh => NilBoth.of hh.2 hoff (rappend_calls X pa pn pc parts w2 (h1.below hh.2) hf ho.a (Nat.le_trans hB1 hh.2.size) (ho.same (Nat.le_trans hb1.size hh.2.size) fun k hk h0 => (hh.2.block k (Nat.lt_of_lt_of_le hk hb1.size)).trans (hb1.block k hk)).1 (by omega) (by omega) (hw.used (by omega)) hw.capl (hw.nl (by omega)) (hw.sl (by omega)))
  · rintro v w2 ⟨A', c', rfl, hb⟩
    exact hq1.below hb
  · exact fun v w2 hh => hq1.below hh.2
  · exact fun w2 hh => hh.box hq1 h
  · exact fun e w2 ⟨e1, hh⟩ => ⟨e1, hh.back hb1⟩
theorem nil_read (X Y : ByteArray) (n m : Int) (pa : Option Addr) (pn pc : Nat) (da : Option Addr) (dn dc : Nat) (yes : Bool) (parts : List Txt) (data : List Int) (h : RD B0 w S B d) (hd : d.off = true) (he : Env B0 a w) (ha : Apart a) (hB : B0 ≤ w.heap.size) (hw : WF M d) {L : Nat} (hM : M + L ≤ 536870912)
    (ho : OpM w S ⟨9, X, Y, n, m, pa, pn, pc, da, dn, dc, yes⟩ parts data L) :
    Calls Tryz.prog 21 #[.pointer none, .pointer (some ⟨B.q, 0, none⟩), .agg #[.int .i64 9, .string X, .string Y, .int .i64 n, .int .i64 m, .slice pa pn pc, .slice da dn dc, .bool yes]] w fun e w' => e = .returned (.bool true) ∧ NilBoth B0 S B (d) w w' := by
  have hb1 : Below w.heap.size w ((⟨9, X, Y, n, m, pa, pn, pc, da, dn, dc, yes⟩ : OpV).boxed w) := OpV.below _ w
  have hq1 : OpBox ((⟨9, X, Y, n, m, pa, pn, pc, da, dn, dc, yes⟩ : OpV).boxed w) w.heap.size ⟨9, X, Y, n, m, pa, pn, pc, da, dn, dc, yes⟩ := OpV.box _ w
  obtain ⟨w1, hw1⟩ : ∃ x, ((⟨9, X, Y, n, m, pa, pn, pc, da, dn, dc, yes⟩ : OpV).boxed w) = x := ⟨_, rfl⟩
  rw [hw1] at hb1 hq1
  have h1 := h.below hb1
  have he1 := he.below (hb1.mono hB)
  have hB1 : B0 ≤ w1.heap.size := Nat.le_trans hB hb1.size
  have hf := hw.fit (by omega)
  have hoff : readD d X.data.toList n m = ([], 1) := read_off hd _ _ _
  refine (step_read (T := ⟨#[]⟩) (M := fun v w' => ErrV a w' ⟨#[114, 101, 97, 100]⟩ X (0 + 1) v ∧ Below w1.heap.size w1 w') (k := 1) _ _ X Y n m pa pn pc da dn dc yes w ?_ ?_ ?_ ?_).mono ?_
  · rw [hw1]; exact (read_nil X n m w1 ho.a hB1 he1.f)
  · exact fun v w2 hh => code_calls _ _ _ _ _ hh.1 (by decide) (he1.below (hh.2.mono hB1)).f (he1.below (hh.2.mono hB1)).g (he1.below (hh.2.mono hB1)).s ha
  · intro v w2 hh
    have hr := rread_calls X n m w2 (h1.below hh.2) hf ho.a ho.n1 ho.n2 ho.m1 ho.m2 (hw.nl (by omega))
    rw [hoff] at hr
    exact hr
  · exact fun v w2 hh => hq1.below hh.2
  · exact fun e w2 ⟨e1, v, hh⟩ => ⟨e1, NilBoth.same h (then_ hb1 hh.2)⟩
theorem nil_all (X Y : ByteArray) (n m : Int) (pa : Option Addr) (pn pc : Nat) (da : Option Addr) (dn dc : Nat) (yes : Bool) (parts : List Txt) (data : List Int) (h : RD B0 w S B d) (hd : d.off = true) (he : Env B0 a w) (ha : Apart a) (hB : B0 ≤ w.heap.size) (hw : WF M d) {L : Nat} (hM : M + L ≤ 536870912)
    (ho : OpM w S ⟨10, X, Y, n, m, pa, pn, pc, da, dn, dc, yes⟩ parts data L) :
    Calls Tryz.prog 21 #[.pointer none, .pointer (some ⟨B.q, 0, none⟩), .agg #[.int .i64 10, .string X, .string Y, .int .i64 n, .int .i64 m, .slice pa pn pc, .slice da dn dc, .bool yes]] w fun e w' => e = .returned (.bool true) ∧ NilBoth B0 S B (d) w w' := by
  have hb1 : Below w.heap.size w ((⟨10, X, Y, n, m, pa, pn, pc, da, dn, dc, yes⟩ : OpV).boxed w) := OpV.below _ w
  have hq1 : OpBox ((⟨10, X, Y, n, m, pa, pn, pc, da, dn, dc, yes⟩ : OpV).boxed w) w.heap.size ⟨10, X, Y, n, m, pa, pn, pc, da, dn, dc, yes⟩ := OpV.box _ w
  obtain ⟨w1, hw1⟩ : ∃ x, ((⟨10, X, Y, n, m, pa, pn, pc, da, dn, dc, yes⟩ : OpV).boxed w) = x := ⟨_, rfl⟩
  rw [hw1] at hb1 hq1
  have h1 := h.below hb1
  have he1 := he.below (hb1.mono hB)
  have hB1 : B0 ≤ w1.heap.size := Nat.le_trans hB hb1.size
  have hf := hw.fit (by omega)
  have hoff : allD d X.data.toList = ([], 1) := all_off hd _
  refine (step_all (T := ⟨#[]⟩) (M := fun v w' => ErrV a w' ⟨#[114, 101, 97, 100]⟩ X (0 + 1) v ∧ Below w1.heap.size w1 w') (k := 1) _ _ X Y n m pa pn pc da dn dc yes w ?_ ?_ ?_ ?_).mono ?_
  · rw [hw1]; exact (all_nil X w1 ho.a hB1 he1.f)
  · exact fun v w2 hh => code_calls _ _ _ _ _ hh.1 (by decide) (he1.below (hh.2.mono hB1)).f (he1.below (hh.2.mono hB1)).g (he1.below (hh.2.mono hB1)).s ha
  · intro v w2 hh
    have hr := rall_calls X w2 (h1.below hh.2) hf ho.a
    rw [hoff] at hr
    exact hr
  · exact fun v w2 hh => hq1.below hh.2
  · exact fun e w2 ⟨e1, v, hh⟩ => ⟨e1, NilBoth.same h (then_ hb1 hh.2)⟩
theorem nil_list (X Y : ByteArray) (n m : Int) (pa : Option Addr) (pn pc : Nat) (da : Option Addr) (dn dc : Nat) (yes : Bool) (parts : List Txt) (data : List Int) (h : RD B0 w S B d) (hd : d.off = true) (he : Env B0 a w) (ha : Apart a) (hB : B0 ≤ w.heap.size) (hw : WF M d) {L : Nat} (hM : M + L ≤ 536870912)
    (ho : OpM w S ⟨11, X, Y, n, m, pa, pn, pc, da, dn, dc, yes⟩ parts data L) :
    Calls Tryz.prog 21 #[.pointer none, .pointer (some ⟨B.q, 0, none⟩), .agg #[.int .i64 11, .string X, .string Y, .int .i64 n, .int .i64 m, .slice pa pn pc, .slice da dn dc, .bool yes]] w fun e w' => e = .returned (.bool true) ∧ NilBoth B0 S B (d) w w' := by
  have hb1 : Below w.heap.size w ((⟨11, X, Y, n, m, pa, pn, pc, da, dn, dc, yes⟩ : OpV).boxed w) := OpV.below _ w
  have hq1 : OpBox ((⟨11, X, Y, n, m, pa, pn, pc, da, dn, dc, yes⟩ : OpV).boxed w) w.heap.size ⟨11, X, Y, n, m, pa, pn, pc, da, dn, dc, yes⟩ := OpV.box _ w
  obtain ⟨w1, hw1⟩ : ∃ x, ((⟨11, X, Y, n, m, pa, pn, pc, da, dn, dc, yes⟩ : OpV).boxed w) = x := ⟨_, rfl⟩
  rw [hw1] at hb1 hq1
  have h1 := h.below hb1
  have he1 := he.below (hb1.mono hB)
  have hB1 : B0 ≤ w1.heap.size := Nat.le_trans hB hb1.size
  have hf := hw.fit (by omega)
  have hoff : listD d X.data.toList = ([], 1) := list_off hd _
  refine (step_list (N := Below w1.heap.size w1) _ _ X Y n m pa pn pc da dn dc yes w ?_).mono fun e w2 ⟨e1, hh⟩ => ⟨e1, NilBoth.same h (then_ hb1 hh)⟩
  rw [hw1]
  refine (listed_ok (M := fun v u w' => v = .slice none 0 0 ∧ ErrV a w' ⟨#[108, 105, 115, 116]⟩ X (0 + 1) u ∧ Below w1.heap.size w1 w')
    (N := fun v u v2 w' => (∃ A c, v = .slice A 0 c ∧ Elems w' w'.heap.size 3 encE A 0 [] ∧ 0 ≤ c) ∧ (∃ A c, v2 = .slice A 0 c ∧ Elems w' w'.heap.size 3 encE A 0 [] ∧ 0 ≤ c) ∧ ErrV a w' ⟨#[108, 105, 115, 116]⟩ X (0 + 1) u ∧ Below w1.heap.size w1 w')
    (k := 1) _ _ X w1 [] (by decide) ?_ ?_ ?_ ?_).mono ?_
  · refine (list_nil X w1 ho.a he1.f).mono ?_
    rintro e w2 ⟨u, rfl, h2, h3⟩
    exact ⟨_, u, rfl, rfl, h2, h3⟩
  · rintro v u w2 ⟨rfl, h2, h3⟩
    have hr : Calls Tryz.prog 25 #[.pointer (some ⟨B.q, 0, none⟩), .string X] w2 (RListOut w2 (listD d X.data.toList)) := by
      by_cases h0 : X = ⟨#[]⟩
      · subst h0; exact rlist_root w2 (h1.below h3) hf (hw.nl (by omega))
      · exact rlist_dir X (fun e => h0 (bytes_eq (by rw [e]))) w2 (h1.below h3) hf ho.a (hw.nl (by omega))
    rw [hoff] at hr
    refine hr.mono ?_
    rintro e w3 ⟨v2, rfl, k2, k3⟩
    exact ⟨v2, rfl, ⟨none, 0, rfl, ⟨rfl, fun h0 => absurd h0 (by simp)⟩, Nat.le_refl _⟩, k2.out, h2.below k3, then_ h3 k3⟩
  · rintro v u v2 w2 ⟨_, _, h2, h3⟩
    have he' := he1.below (h3.mono hB1)
    exact code_calls _ _ _ _ _ h2 (by decide) he'.f he'.g he'.s ha
  · rintro v u v2 w2 ⟨h1, h2, _, _⟩
    exact ⟨h1, h2⟩
  · rintro e w2 ⟨e1, v, u, v2, w3, ⟨_, _, _, hb⟩, hb2⟩
    exact ⟨e1, then_ hb hb2⟩
theorem nil_crash (X Y : ByteArray) (n m : Int) (pa : Option Addr) (pn pc : Nat) (da : Option Addr) (dn dc : Nat) (yes : Bool) (parts : List Txt) (data : List Int) (h : RD B0 w S B d) (hd : d.off = true) (he : Env B0 a w) (ha : Apart a) (hB : B0 ≤ w.heap.size) (hw : WF M d) {L : Nat} (hM : M + L ≤ 536870912)
    (ho : OpM w S ⟨12, X, Y, n, m, pa, pn, pc, da, dn, dc, yes⟩ parts data L) :
    Calls Tryz.prog 64 #[.pointer none, .pointer (some ⟨B.q, 0, none⟩), .agg #[.int .i64 12, .string X, .string Y, .int .i64 n, .int .i64 m, .slice pa pn pc, .slice da dn dc, .bool yes]] w fun e w' => e = .returned (.bool true) ∧ NilBoth B0 S B (crashD d n) w w' := by
  have hb1 : Below w.heap.size w ((⟨12, X, Y, n, m, pa, pn, pc, da, dn, dc, yes⟩ : OpV).boxed w) := OpV.below _ w
  have hq1 : OpBox ((⟨12, X, Y, n, m, pa, pn, pc, da, dn, dc, yes⟩ : OpV).boxed w) w.heap.size ⟨12, X, Y, n, m, pa, pn, pc, da, dn, dc, yes⟩ := OpV.box _ w
  obtain ⟨w1, hw1⟩ : ∃ x, ((⟨12, X, Y, n, m, pa, pn, pc, da, dn, dc, yes⟩ : OpV).boxed w) = x := ⟨_, rfl⟩
  rw [hw1] at hb1 hq1
  have h1 := h.below hb1
  have he1 := he.below (hb1.mono hB)
  have hB1 : B0 ≤ w1.heap.size := Nat.le_trans hB hb1.size
  have hf := hw.fit (by omega)
  refine (power_crash (M := Below w1.heap.size w1) (N := NilBoth B0 S B (crashD d n) w1) _ _ X Y n m pa pn pc da dn dc yes w ?_ ?_ ?_).mono ?_
  · rw [hw1]
    refine (crash_nil n w1).mono ?_
    rintro e w2 ⟨rfl, rfl⟩
    exact ⟨rfl, Below.refl _ _⟩
  · exact fun w2 hh => (rcrash_calls n w2 (h1.below hh) ho.n2 ho.n1).mono fun e w3 ⟨e1, k3, k4⟩ => ⟨e1, S, B, k3, (Own.of_below hh).trans k4, rfl⟩
  · exact fun w2 hh => hq1.below hh
  · exact fun e w2 ⟨e1, hh⟩ => ⟨e1, hh.back hb1⟩
theorem nil_flip (X Y : ByteArray) (n m : Int) (pa : Option Addr) (pn pc : Nat) (da : Option Addr) (dn dc : Nat) (yes : Bool) (parts : List Txt) (data : List Int) (h : RD B0 w S B d) (hd : d.off = true) (he : Env B0 a w) (ha : Apart a) (hB : B0 ≤ w.heap.size) (hw : WF M d) {L : Nat} (hM : M + L ≤ 536870912)
    (ho : OpM w S ⟨14, X, Y, n, m, pa, pn, pc, da, dn, dc, yes⟩ parts data L) :
    Calls Tryz.prog 64 #[.pointer none, .pointer (some ⟨B.q, 0, none⟩), .agg #[.int .i64 14, .string X, .string Y, .int .i64 n, .int .i64 m, .slice pa pn pc, .slice da dn dc, .bool yes]] w fun e w' => e = .returned (.bool true) ∧ NilBoth B0 S B (d) w w' := by
  have hb1 : Below w.heap.size w ((⟨14, X, Y, n, m, pa, pn, pc, da, dn, dc, yes⟩ : OpV).boxed w).drew := (OpV.below _ w).drew
  have hq1 : OpBox ((⟨14, X, Y, n, m, pa, pn, pc, da, dn, dc, yes⟩ : OpV).boxed w).drew w.heap.size ⟨14, X, Y, n, m, pa, pn, pc, da, dn, dc, yes⟩ := OpV.box _ w
  obtain ⟨w1, hw1⟩ : ∃ x, ((⟨14, X, Y, n, m, pa, pn, pc, da, dn, dc, yes⟩ : OpV).boxed w).drew = x := ⟨_, rfl⟩
  rw [hw1] at hb1 hq1
  have h1 := h.below hb1
  have he1 := he.below (hb1.mono hB)
  have hB1 : B0 ≤ w1.heap.size := Nat.le_trans hB hb1.size
  have hf := hw.fit (by omega)
  have hoff : flipD d X.data.toList n (byteOf m) = (1, d) := by unfold flipD; rw [file_off hd]
  refine (power_flip (M := fun v w' => ErrV a w' ⟨#[102, 108, 105, 112]⟩ X (0 + 1) v ∧ Below w1.heap.size w1 w') (N := NilBoth B0 S B d w1) (k := 1) _ _ X Y n m pa pn pc da dn dc yes w ?_ ?_ ?_ ?_ ?_).mono ?_
  · rw [hw1, ← byteOf_val]; exact (flip_nil X n (byteOf m) w1 ho.a hB1 he1.f)
  · exact fun v w2 hh => code_calls _ _ _ _ _ hh.1 (by decide) (he1.below (hh.2.mono hB1)).f (he1.below (hh.2.mono hB1)).g (he1.below (hh.2.mono hB1)).s ha
  · exact fun v w2 hh => NilBoth.of hh.2 hoff (by rw [← byteOf_val]; exact rflip_calls X n (byteOf m) w2 (h1.below hh.2) hf ho.a ho.n1 ho.n2 (hw.nl (by omega)))
  · exact fun v w2 hh => hq1.below hh.2
  · exact fun w2 hh => hh.box hq1 h
  · exact fun e w2 ⟨e1, hh⟩ => ⟨e1, hh.back hb1⟩
/-- What a call that is no restart does with the document's disk, off as it is. -/
def nilD (d : Ds) (o : OpV) : Ds := if o.kind = 12 then crashD d o.n else d
theorem nil_step (o : OpV) (parts : List Txt) (data : List Int) (h : RD B0 w S B d) (hd : d.off = true) (he : Env B0 a w) (ha : Apart a) (hB : B0 ≤ w.heap.size) (hw : WF M d) {L : Nat} (hM : M + L ≤ 536870912) (h13 : o.kind ≠ 13)
    (ho : OpM w S o parts data L) :
    Calls Tryz.prog 21 #[.pointer none, .pointer (some ⟨B.q, 0, none⟩), .agg #[.int .i64 o.kind, .string o.a, .string o.b, .int .i64 o.n, .int .i64 o.m, .slice o.pa o.pn o.pc, .slice o.da o.dn o.dc, .bool o.yes]] w fun e w' => e = .returned (.bool true) ∧ NilBoth B0 S B (nilD d o) w w' := by
  obtain ⟨K, X, Y, n, m, pa, pn, pc, da, dn, dc, yes⟩ := o
  simp only at h13
  have hid : K ≠ 12 → nilD d ⟨K, X, Y, n, m, pa, pn, pc, da, dn, dc, yes⟩ = d := fun h12 => by unfold nilD; rw [if_neg h12]
  by_cases hp : K < 1 ∨ 11 < K
  · have hb1 : Below w.heap.size w ((⟨K, X, Y, n, m, pa, pn, pc, da, dn, dc, yes⟩ : OpV).boxed w) := OpV.below _ w
    obtain ⟨w1, hw1⟩ : ∃ x, ((⟨K, X, Y, n, m, pa, pn, pc, da, dn, dc, yes⟩ : OpV).boxed w) = x := ⟨_, rfl⟩
    rw [hw1] at hb1
    have h1 := h.below hb1
    have he1 := he.below (hb1.mono hB)
    have hB1 : B0 ≤ w1.heap.size := Nat.le_trans hB hb1.size
    have hsm := ho.same hb1.size fun k hk _ => hb1.block k hk
    have ho1 : OpM w1 S ⟨K, X, Y, n, m, pa, pn, pc, da, dn, dc, yes⟩ parts data L := ⟨ho.a, ho.b, ho.n1, ho.n2, ho.m1, ho.m2, hsm.1, ho.pc, ho.pn, ho.p0, ho.po, ho.fl, hsm.2, ho.dn, ho.d0, ho.do_, ho.dr⟩
    refine (step_power (N := NilBoth B0 S B (nilD d ⟨K, X, Y, n, m, pa, pn, pc, da, dn, dc, yes⟩) w1) K hp _ _ X Y n m pa pn pc da dn dc yes w ?_).mono fun e w2 ⟨e1, hh⟩ => ⟨e1, hh.back hb1⟩
    rw [hw1]
    by_cases hq : K < 12 ∨ 14 < K
    · refine (power_none K hq _ _ X Y n m pa pn pc da dn dc yes w1).mono ?_
      rintro e w2 ⟨rfl, rfl⟩
      rw [hid (by omega)]
      exact ⟨rfl, NilBoth.same h1 (OpV.below _ w1)⟩
    · rcases (by omega : K = 12 ∨ K = 14) with rfl | rfl
      · exact nil_crash X Y n m pa pn pc da dn dc yes parts data h1 hd he1 ha hB1 hw hM ho1
      · rw [hid (by omega)]
        exact nil_flip X Y n m pa pn pc da dn dc yes parts data h1 hd he1 ha hB1 hw hM ho1
  · rw [hid (by omega)]
    rcases (by omega : K = 1 ∨ K = 2 ∨ K = 3 ∨ K = 4 ∨ K = 5 ∨ K = 6 ∨ K = 7 ∨ K = 8 ∨ K = 9 ∨ K = 10 ∨ K = 11) with rfl | rfl | rfl | rfl | rfl | rfl | rfl | rfl | rfl | rfl | rfl
    · exact nil_mkdir X Y n m pa pn pc da dn dc yes parts data h hd he ha hB hw hM ho
    · exact nil_create X Y n m pa pn pc da dn dc yes parts data h hd he ha hB hw hM ho
    · exact nil_append X Y n m pa pn pc da dn dc yes parts data h hd he ha hB hw hM ho
    · exact nil_cut X Y n m pa pn pc da dn dc yes parts data h hd he ha hB hw hM ho
    · exact nil_sync X Y n m pa pn pc da dn dc yes parts data h hd he ha hB hw hM ho
    · exact nil_syncnames X Y n m pa pn pc da dn dc yes parts data h hd he ha hB hw hM ho
    · exact nil_rename X Y n m pa pn pc da dn dc yes parts data h hd he ha hB hw hM ho
    · exact nil_remove X Y n m pa pn pc da dn dc yes parts data h hd he ha hB hw hM ho
    · exact nil_read X Y n m pa pn pc da dn dc yes parts data h hd he ha hB hw hM ho
    · exact nil_all X Y n m pa pn pc da dn dc yes parts data h hd he ha hB hw hM ho
    · exact nil_list X Y n m pa pn pc da dn dc yes parts data h hd he ha hB hw hM ho
end
end Go.Proofs.YtdaidbnbfjgjeaaGreatDoor
