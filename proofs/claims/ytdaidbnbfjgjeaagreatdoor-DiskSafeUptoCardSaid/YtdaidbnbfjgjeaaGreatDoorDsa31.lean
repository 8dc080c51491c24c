/- Merged: DskJoin2, DskJoin3, DskWakes, DskRun. -/
import Derived.Test.YtdaidbnbfjgjeaaGreatDoorDsa30
set_option linter.unusedVariables false
set_option linter.unusedSimpArgs false
/-! ## DskJoin2 -/
/- Layer 3's law: step at the two disks: the other arms (printed by gen_lawjoin2.py). -/
namespace Go.Proofs.YtdaidbnbfjgjeaaGreatDoor
open Go.RowKit Go.Shelf Go.Maps Go.Sort
section
variable {B0 M : Nat} {a : Nat → Addr} {R S : Nat → Nat} {A : Adr} {B : RAdr} {d : Ds} {w w' : World}
theorem Half.back {r : Nat × Ds} {op s : ByteArray} {v : Value} {w1 : World} (h : Half B0 a R A r op s w v w') (hb : Below w1.heap.size w1 w) : Half B0 a R A r op s w1 v w' := by
  obtain ⟨R', A', h1, h2, h3, h4⟩ := h.ex
  exact ⟨R', A', h1, h2, (Own.of_below hb).trans h3, h4⟩
theorem OpBox.below {o : OpV} {q : Nat} (h : OpBox w q o) (hb : Below w.heap.size w w') : OpBox w' q o := Blk.below h hb h.lt
theorem sortE_len (d : Ds) (X : Txt) : (listD d X).1.length ≤ d.things.length := by
  unfold listD
  repeat' split
  · exact Nat.zero_le _
  · exact Nat.zero_le _
  · exact Nat.zero_le _
  · exact Nat.zero_le _
  · rw [(sortE_perm _).length_eq]; exact List.length_filterMap_le _ _
theorem two_syncnames (X Y : ByteArray) (n m : Int) (pa : Option Addr) (pn pc : Nat) (da : Option Addr) (dn dc : Nat) (yes : Bool) (parts : List Txt) (data : List Int) {L : Nat} (h : Two B0 w R S A B d) (he : Env B0 a w) (ha : Apart a) (hB : B0 ≤ w.heap.size) (hw : WF M d) (hM : M + L ≤ 536870912)
    (ho : OpM w (mix R S) ⟨6, X, Y, n, m, pa, pn, pc, da, dn, dc, yes⟩ parts data L) :
    Calls Tryz.prog 21 #[.pointer (some ⟨A.p, 0, none⟩), .pointer (some ⟨B.q, 0, none⟩), .agg #[.int .i64 6, .string X, .string Y, .int .i64 n, .int .i64 m, .slice pa pn pc, .slice da dn dc, .bool yes]] w fun e w' => e = .returned (.bool true) ∧ Both B0 R S A B (opD d ⟨6, X, Y, n, m, pa, pn, pc, da, dn, dc, yes⟩ parts data) w w' := by
  have hb1 : Below w.heap.size w ((⟨6, X, Y, n, m, pa, pn, pc, da, dn, dc, yes⟩ : OpV).boxed w) := OpV.below _ w
  have hq1 : OpBox ((⟨6, X, Y, n, m, pa, pn, pc, da, dn, dc, yes⟩ : OpV).boxed w) w.heap.size ⟨6, X, Y, n, m, pa, pn, pc, da, dn, dc, yes⟩ := OpV.box _ w
  obtain ⟨w1, hw1⟩ : ∃ x, ((⟨6, X, Y, n, m, pa, pn, pc, da, dn, dc, yes⟩ : OpV).boxed w) = x := ⟨_, rfl⟩
  rw [hw1] at hb1 hq1
  have h1 := h.below hb1
  have he1 := he.below (hb1.mono hB)
  have hB1 : B0 ≤ w1.heap.size := Nat.le_trans hB hb1.size
  have hf := hw.fit (by omega)
  have hop : opD d ⟨6, X, Y, n, m, pa, pn, pc, da, dn, dc, yes⟩ parts data = (syncNamesD d).2 := rfl
  rw [hop]
  refine (step_syncnames (M := Half B0 a R A (syncNamesD d) ⟨#[110, 97, 109, 101, 115]⟩ ⟨#[]⟩ w1) (N := Both B0 R S A B (syncNamesD d).2 w1) (k := (syncNamesD d).1) _ _ X Y n m pa pn pc da dn dc yes w ?_ ?_ ?_).mono ?_
  · rw [hw1]; exact Half.of_ (syncNames_calls w1 h1.c hf hB1 he1.f)
  · exact fun v w2 hh => hh.code (syncNamesD_le _) h1.c.low hB1 he1 ha
  · exact fun v w2 hh => hh.ref h1 fun R' k1 k2 => rsyncnames_calls w2 k1 hf
  · exact fun e w2 ⟨e1, hh⟩ => ⟨e1, hh.back hb1⟩
theorem two_append (X Y : ByteArray) (n m : Int) (pa : Option Addr) (pn pc : Nat) (da : Option Addr) (dn dc : Nat) (yes : Bool) (parts : List Txt) (data : List Int) {L : Nat} (h : Two B0 w R S A B d) (he : Env B0 a w) (ha : Apart a) (hB : B0 ≤ w.heap.size) (hw : WF M d) (hM : M + L ≤ 536870912)
    (ho : OpM w (mix R S) ⟨3, X, Y, n, m, pa, pn, pc, da, dn, dc, yes⟩ parts data L) :
    Calls Tryz.prog 21 #[.pointer (some ⟨A.p, 0, none⟩), .pointer (some ⟨B.q, 0, none⟩), .agg #[.int .i64 3, .string X, .string Y, .int .i64 n, .int .i64 m, .slice pa pn pc, .slice da dn dc, .bool yes]] w fun e w' => e = .returned (.bool true) ∧ Both B0 R S A B (opD d ⟨3, X, Y, n, m, pa, pn, pc, da, dn, dc, yes⟩ parts data) w w' := by
  have hb1 : Below w.heap.size w ((⟨3, X, Y, n, m, pa, pn, pc, da, dn, dc, yes⟩ : OpV).boxed w).drew := (OpV.below _ w).drew
  have hq1 : OpBox ((⟨3, X, Y, n, m, pa, pn, pc, da, dn, dc, yes⟩ : OpV).boxed w).drew w.heap.size ⟨3, X, Y, n, m, pa, pn, pc, da, dn, dc, yes⟩ := OpV.box _ w
  obtain ⟨w1, hw1⟩ : ∃ x, ((⟨3, X, Y, n, m, pa, pn, pc, da, dn, dc, yes⟩ : OpV).boxed w).drew = x := ⟨_, rfl⟩
  rw [hw1] at hb1 hq1
  have h1 := h.below hb1
  have he1 := he.below (hb1.mono hB)
  have hB1 : B0 ≤ w1.heap.size := Nat.le_trans hB hb1.size
  have hf := hw.fit (by omega)
  have hop : opD d ⟨3, X, Y, n, m, pa, pn, pc, da, dn, dc, yes⟩ parts data = (appendD d X.data.toList parts.flatten).2 := rfl
  rw [hop]
  have hs1 : Strs w1 pa pn parts := (ho.same hb1.size fun k hk _ => hb1.block k hk).1
  have hpl : parts.length = pn := hs1.len
  have hpn : pn * 16 ≤ 140737488351232 := ho.pn
  have hfl := ho.fl
  refine (step_append (M0 := fun v w' => ∃ A' c', v = .slice A' pn c' ∧ Strs w' A' pn parts ∧ pn ≤ c' ∧ Below w1.heap.size w1 w') (M := Half B0 a R A (appendD d X.data.toList parts.flatten) ⟨#[97, 112, 112, 101, 110, 100]⟩ X w1) (N := Both B0 R S A B (appendD d X.data.toList parts.flatten).2 w1) (k := (appendD d X.data.toList parts.flatten).1) _ _ X Y n m pa pn pc da dn dc yes w ?_ ?_ ?_ ?_ ?_ ?_ ?_).mono ?_
  · rw [hw1]
    refine (twin3_calls parts pa pn pc w1 hs1 ho.p0 hpn).mono ?_
    rintro e w2 ⟨A', c', rfl, hs, hc, hb⟩
    rw [hpl] at hs hc ⊢
    exact ⟨_, rfl, A', c', rfl, hs, hc, hb⟩
  · rintro v w2 ⟨A', c', rfl, hs, hc, hb⟩
    refine (Half.of_ (append_calls X A' pn c' parts w2 (h1.below hb).c hf ho.a (Nat.le_trans hB1 hb.size) (he1.below (hb.mono hB1)).f hs hc (by omega) (by omega) (hw.used (by omega)) hw.capl (hw.nl (by omega)) (hw.sl (by omega)))).mono ?_
    rintro e w3 ⟨v, e1, hh⟩
    exact ⟨v, e1, hh.back hb⟩
  · exact fun v w2 hh => hh.code (appendD_le _ _ _) h1.c.low hB1 he1 ha
  · exact fun v w2 hh => hh.ref h1 fun R' k1 k2 => rappend_calls X pa pn pc parts w2 k1 hf ho.a (Nat.le_trans hB1 k2.size) (ho.same (Nat.le_trans hb1.size k2.size) fun k hk h0 => (k2.block k (Nat.lt_of_lt_of_le hk hb1.size) (by unfold mix at h0; omega)).trans (hb1.block k hk)).1 (by omega) (by omega) (hw.used (by omega)) hw.capl (hw.nl (by omega)) (hw.sl (by omega))
  · rintro v w2 ⟨A', c', rfl, hs, hc, hb⟩
    exact hq1.below hb
  · exact fun v w2 hh => hh.box hq1 h
  · exact fun w2 hh => hh.box hq1 h
  · exact fun e w2 ⟨e1, hh⟩ => ⟨e1, hh.back hb1⟩
theorem two_read (X Y : ByteArray) (n m : Int) (pa : Option Addr) (pn pc : Nat) (da : Option Addr) (dn dc : Nat) (yes : Bool) (parts : List Txt) (data : List Int) {L : Nat} (h : Two B0 w R S A B d) (he : Env B0 a w) (ha : Apart a) (hB : B0 ≤ w.heap.size) (hw : WF M d) (hM : M + L ≤ 536870912)
    (ho : OpM w (mix R S) ⟨9, X, Y, n, m, pa, pn, pc, da, dn, dc, yes⟩ parts data L) :
    Calls Tryz.prog 21 #[.pointer (some ⟨A.p, 0, none⟩), .pointer (some ⟨B.q, 0, none⟩), .agg #[.int .i64 9, .string X, .string Y, .int .i64 n, .int .i64 m, .slice pa pn pc, .slice da dn dc, .bool yes]] w fun e w' => e = .returned (.bool true) ∧ Both B0 R S A B (opD d ⟨9, X, Y, n, m, pa, pn, pc, da, dn, dc, yes⟩ parts data) w w' := by
  have hb1 : Below w.heap.size w ((⟨9, X, Y, n, m, pa, pn, pc, da, dn, dc, yes⟩ : OpV).boxed w) := OpV.below _ w
  have hq1 : OpBox ((⟨9, X, Y, n, m, pa, pn, pc, da, dn, dc, yes⟩ : OpV).boxed w) w.heap.size ⟨9, X, Y, n, m, pa, pn, pc, da, dn, dc, yes⟩ := OpV.box _ w
  obtain ⟨w1, hw1⟩ : ∃ x, ((⟨9, X, Y, n, m, pa, pn, pc, da, dn, dc, yes⟩ : OpV).boxed w) = x := ⟨_, rfl⟩
  rw [hw1] at hb1 hq1
  have h1 := h.below hb1
  have he1 := he.below (hb1.mono hB)
  have hB1 : B0 ≤ w1.heap.size := Nat.le_trans hB hb1.size
  have hf := hw.fit (by omega)
  have hop : opD d ⟨9, X, Y, n, m, pa, pn, pc, da, dn, dc, yes⟩ parts data = d := rfl
  rw [hop]
  refine (step_read (T := ⟨(readD d X.data.toList n m).1.toArray⟩) (M := fun v w' => ErrV a w' ⟨#[114, 101, 97, 100]⟩ X (readD d X.data.toList n m).2 v ∧ Below w1.heap.size w1 w') (k := (readD d X.data.toList n m).2) _ _ X Y n m pa pn pc da dn dc yes w ?_ ?_ ?_ ?_).mono ?_
  · rw [hw1]; exact read_calls X n m w1 h1.c hf ho.a hB1 he1.f he1.g ho.n1 ho.n2 ho.m1 ho.m2 (hw.nl (by omega))
  · exact fun v w2 hh => code_calls _ _ _ _ _ hh.1 (readD_le _ _ _ _) (he1.below (hh.2.mono hB1)).f (he1.below (hh.2.mono hB1)).g (he1.below (hh.2.mono hB1)).s ha
  · exact fun v w2 hh => rread_calls X n m w2 (h1.below hh.2).r hf ho.a ho.n1 ho.n2 ho.m1 ho.m2 (hw.nl (by omega))
  · exact fun v w2 hh => hq1.below hh.2
  · exact fun e w2 ⟨e1, v, hh⟩ => ⟨e1, Both.same h (then_ hb1 hh.2)⟩
theorem two_all (X Y : ByteArray) (n m : Int) (pa : Option Addr) (pn pc : Nat) (da : Option Addr) (dn dc : Nat) (yes : Bool) (parts : List Txt) (data : List Int) {L : Nat} (h : Two B0 w R S A B d) (he : Env B0 a w) (ha : Apart a) (hB : B0 ≤ w.heap.size) (hw : WF M d) (hM : M + L ≤ 536870912)
    (ho : OpM w (mix R S) ⟨10, X, Y, n, m, pa, pn, pc, da, dn, dc, yes⟩ parts data L) :
    Calls Tryz.prog 21 #[.pointer (some ⟨A.p, 0, none⟩), .pointer (some ⟨B.q, 0, none⟩), .agg #[.int .i64 10, .string X, .string Y, .int .i64 n, .int .i64 m, .slice pa pn pc, .slice da dn dc, .bool yes]] w fun e w' => e = .returned (.bool true) ∧ Both B0 R S A B (opD d ⟨10, X, Y, n, m, pa, pn, pc, da, dn, dc, yes⟩ parts data) w w' := by
  have hb1 : Below w.heap.size w ((⟨10, X, Y, n, m, pa, pn, pc, da, dn, dc, yes⟩ : OpV).boxed w) := OpV.below _ w
  have hq1 : OpBox ((⟨10, X, Y, n, m, pa, pn, pc, da, dn, dc, yes⟩ : OpV).boxed w) w.heap.size ⟨10, X, Y, n, m, pa, pn, pc, da, dn, dc, yes⟩ := OpV.box _ w
  obtain ⟨w1, hw1⟩ : ∃ x, ((⟨10, X, Y, n, m, pa, pn, pc, da, dn, dc, yes⟩ : OpV).boxed w) = x := ⟨_, rfl⟩
  rw [hw1] at hb1 hq1
  have h1 := h.below hb1
  have he1 := he.below (hb1.mono hB)
  have hB1 : B0 ≤ w1.heap.size := Nat.le_trans hB hb1.size
  have hf := hw.fit (by omega)
  have hop : opD d ⟨10, X, Y, n, m, pa, pn, pc, da, dn, dc, yes⟩ parts data = d := rfl
  rw [hop]
  refine (step_all (T := ⟨(allD d X.data.toList).1.toArray⟩) (M := fun v w' => ErrV a w' ⟨#[114, 101, 97, 100]⟩ X (allD d X.data.toList).2 v ∧ Below w1.heap.size w1 w') (k := (allD d X.data.toList).2) _ _ X Y n m pa pn pc da dn dc yes w ?_ ?_ ?_ ?_).mono ?_
  · rw [hw1]; exact all3_calls X w1 h1.c hf ho.a hB1 he1.f
  · exact fun v w2 hh => code_calls _ _ _ _ _ hh.1 (allD_le _ _) (he1.below (hh.2.mono hB1)).f (he1.below (hh.2.mono hB1)).g (he1.below (hh.2.mono hB1)).s ha
  · exact fun v w2 hh => rall_calls X w2 (h1.below hh.2).r hf ho.a
  · exact fun v w2 hh => hq1.below hh.2
  · exact fun e w2 ⟨e1, v, hh⟩ => ⟨e1, Both.same h (then_ hb1 hh.2)⟩
theorem listed_two (X : ByteArray) (w : World) (h : Two B0 w R S A B d) (he : Env B0 a w) (ha : Apart a) (hB : B0 ≤ w.heap.size) (hw : WF M d) (hM : M ≤ 536870912) (hX : X.size ≤ 1073741824) :
    Calls Tryz.prog 26 #[.pointer (some ⟨A.p, 0, none⟩), .pointer (some ⟨B.q, 0, none⟩), .string X] w fun e w' => e = .returned (.bool true) ∧ Below w.heap.size w w' := by
  have hf := hw.fit hM
  have hc : Calls Tryz.prog 18 #[.pointer (some ⟨A.p, 0, none⟩), .string X] w (ListOut a (listD d X.data.toList) X w) := by
    by_cases h0 : X = ⟨#[]⟩
    · subst h0; exact list_root w h.c hf hB he.f (hw.nl hM)
    · exact list_dir X (fun e => h0 (bytes_eq (by rw [e]))) w h.c hf hX hB he.f (hw.nl hM)
  have hr : ∀ w1, Below w.heap.size w w1 → Calls Tryz.prog 25 #[.pointer (some ⟨B.q, 0, none⟩), .string X] w1 (RListOut w1 (listD d X.data.toList)) := by
    intro w1 hb
    by_cases h0 : X = ⟨#[]⟩
    · subst h0; exact rlist_root w1 (h.below hb).r hf (hw.nl hM)
    · exact rlist_dir X (fun e => h0 (bytes_eq (by rw [e]))) w1 (h.below hb).r hf hX (hw.nl hM)
  obtain ⟨l, hl⟩ : ∃ l, (listD d X.data.toList).1 = l := ⟨_, rfl⟩
  have hlen : l.length ≤ 1073741824 := by have := sortE_len d X.data.toList; have := hw.tl; rw [← hl]; omega
  refine (listed_ok (M := fun v u w' => EntRow w' w.heap.size v l ∧ ErrV a w' ⟨#[108, 105, 115, 116]⟩ X (listD d X.data.toList).2 u ∧ Below w.heap.size w w')
    (N := fun v u v2 w' => (∃ A c, v = .slice A l.length c ∧ Elems w' w'.heap.size 3 encE A l.length l ∧ l.length ≤ c) ∧ (∃ A c, v2 = .slice A l.length c ∧ Elems w' w'.heap.size 3 encE A l.length l ∧ l.length ≤ c) ∧ ErrV a w' ⟨#[108, 105, 115, 116]⟩ X (listD d X.data.toList).2 u ∧ Below w.heap.size w w')
    (k := (listD d X.data.toList).2) _ _ X w l hlen ?_ ?_ ?_ ?_).mono ?_
  · refine hc.mono ?_
    rintro e w2 ⟨v, u, rfl, h1, h2, h3⟩
    rw [hl] at h2
    exact ⟨v, u, rfl, h2, h1, h3⟩
  · rintro v u w2 ⟨h1, h2, h3⟩
    refine (hr w2 h3).mono ?_
    rintro e w3 ⟨v2, rfl, k2, k3⟩
    rw [hl] at k2
    obtain ⟨A1, c1, rfl, q1, q2⟩ := h1.out
    exact ⟨v2, rfl, ⟨A1, c1, rfl, (Elems.below q1 k3).more k3.size, q2⟩, k2.out, h2.below k3, then_ h3 k3⟩
  · rintro v u v2 w2 ⟨_, _, h2, h3⟩
    have he' := he.below (h3.mono hB)
    exact code_calls _ _ _ _ _ h2 (listD_le _ _) he'.f he'.g he'.s ha
  · rintro v u v2 w2 ⟨h1, h2, _, _⟩
    exact ⟨h1, h2⟩
  · rintro e w2 ⟨e1, v, u, v2, w3, ⟨_, _, _, hb⟩, hb2⟩
    exact ⟨e1, then_ hb hb2⟩
theorem two_list (X Y : ByteArray) (n m : Int) (pa : Option Addr) (pn pc : Nat) (da : Option Addr) (dn dc : Nat) (yes : Bool) (parts : List Txt) (data : List Int) {L : Nat} (h : Two B0 w R S A B d) (he : Env B0 a w) (ha : Apart a) (hB : B0 ≤ w.heap.size) (hw : WF M d) (hM : M + L ≤ 536870912)
    (ho : OpM w (mix R S) ⟨11, X, Y, n, m, pa, pn, pc, da, dn, dc, yes⟩ parts data L) :
    Calls Tryz.prog 21 #[.pointer (some ⟨A.p, 0, none⟩), .pointer (some ⟨B.q, 0, none⟩), .agg #[.int .i64 11, .string X, .string Y, .int .i64 n, .int .i64 m, .slice pa pn pc, .slice da dn dc, .bool yes]] w fun e w' => e = .returned (.bool true) ∧ Both B0 R S A B (opD d ⟨11, X, Y, n, m, pa, pn, pc, da, dn, dc, yes⟩ parts data) w w' := by
  have hb1 : Below w.heap.size w ((⟨11, X, Y, n, m, pa, pn, pc, da, dn, dc, yes⟩ : OpV).boxed w) := OpV.below _ w
  have hq1 : OpBox ((⟨11, X, Y, n, m, pa, pn, pc, da, dn, dc, yes⟩ : OpV).boxed w) w.heap.size ⟨11, X, Y, n, m, pa, pn, pc, da, dn, dc, yes⟩ := OpV.box _ w
  obtain ⟨w1, hw1⟩ : ∃ x, ((⟨11, X, Y, n, m, pa, pn, pc, da, dn, dc, yes⟩ : OpV).boxed w) = x := ⟨_, rfl⟩
  rw [hw1] at hb1 hq1
  have h1 := h.below hb1
  have he1 := he.below (hb1.mono hB)
  have hB1 : B0 ≤ w1.heap.size := Nat.le_trans hB hb1.size
  have hf := hw.fit (by omega)
  have hop : opD d ⟨11, X, Y, n, m, pa, pn, pc, da, dn, dc, yes⟩ parts data = d := rfl
  rw [hop]
  refine (step_list (N := fun w' => Below w1.heap.size w1 w') _ _ X Y n m pa pn pc da dn dc yes w ?_).mono ?_
  · rw [hw1]; exact listed_two X w1 h1 he1 ha hB1 hw (by omega) ho.a
  · exact fun e w2 ⟨e1, hh⟩ => ⟨e1, Both.same h (then_ hb1 hh)⟩
end
end Go.Proofs.YtdaidbnbfjgjeaaGreatDoor

/-! ## DskJoin3 -/
/- Layer 3's law: power at the two disks; step at any call; alike (printed by gen_lawjoin3.py). -/
namespace Go.Proofs.YtdaidbnbfjgjeaaGreatDoor
open Go.RowKit Go.Shelf Go.Maps Go.Sort
section
variable {B0 M : Nat} {a : Nat → Addr} {R S : Nat → Nat} {A : Adr} {B : RAdr} {d : Ds} {w w' : World}
/-- The code's call without an answer is over. -/
structure HalfP (B0 : Nat) (R : Nat → Nat) (A : Adr) (d' : Ds) (w w' : World) : Prop where
  ex : ∃ R' A', CD B0 w' R' A' d' ∧ Own R R' w w' ∧ A'.p = A.p
theorem HalfP.ref {d' : Ds} (h : HalfP B0 R A d' w w') (h2 : Two B0 w R S A B d) {f : FuncId} {args : Array Value}
    (hR : ∀ R', RD B0 w' S B d → Own R R' w w' → Calls Tryz.prog f args w' (RRestOut B0 S B d' w')) :
    Calls Tryz.prog f args w' fun e w'' => e = .returned (.tuple #[]) ∧ Both B0 R S A B d' w w'' := by
  obtain ⟨R', A', k2, k3, k4⟩ := h.ex
  have hr := h2.r.apart k3 h2.dis'
  refine (hR R' hr k3).mono ?_
  rintro e w'' ⟨S', B', rfl, hr', ho', hq'⟩
  have hd1 : ∀ k, R' k ≠ 0 → S k = 0 := fun k hk => by
    rcases Nat.lt_or_ge k w.heap.size with hlt | hge
    · rw [k3.old k hlt] at hk; exact h2.dis k hk
    · exact h2.r.inw.new hge
  have hd2 : ∀ k, R' k ≠ 0 → S' k = 0 := fun k hk => by rw [ho'.old k (k2.inw k hk)]; exact hd1 k hk
  exact ⟨rfl, R', S', A', B', ⟨k2.apart ho' hd1, hr', hd2⟩, k3.mixL.trans ho'.mixR, k4, hq'⟩
theorem HalfP.box {d' : Ds} {o : OpV} {w1 : World} (h : HalfP B0 R A d' w1 w') (hq : OpBox w1 w.heap.size o) (h2 : Two B0 w R S A B d) : OpBox w' w.heap.size o := by
  obtain ⟨R', A', k2, k3, k4⟩ := h.ex
  exact (k3.block _ hq.lt (h2.c.inw.new (Nat.le_refl _))).trans hq
theorem HalfP.back {d' : Ds} {w1 : World} (h : HalfP B0 R A d' w w') (hb : Below w1.heap.size w1 w) : HalfP B0 R A d' w1 w' := by
  obtain ⟨R', A', k2, k3, k4⟩ := h.ex
  exact ⟨R', A', k2, (Own.of_below hb).trans k3, k4⟩
theorem ptwo_crash (X Y : ByteArray) (n m : Int) (pa : Option Addr) (pn pc : Nat) (da : Option Addr) (dn dc : Nat) (yes : Bool) (parts : List Txt) (data : List Int) {L : Nat} (h : Two B0 w R S A B d) (he : Env B0 a w) (ha : Apart a) (hB : B0 ≤ w.heap.size) (hw : WF M d) (hM : M + L ≤ 536870912)
    (ho : OpM w (mix R S) ⟨12, X, Y, n, m, pa, pn, pc, da, dn, dc, yes⟩ parts data L) :
    Calls Tryz.prog 64 #[.pointer (some ⟨A.p, 0, none⟩), .pointer (some ⟨B.q, 0, none⟩), .agg #[.int .i64 12, .string X, .string Y, .int .i64 n, .int .i64 m, .slice pa pn pc, .slice da dn dc, .bool yes]] w fun e w' => e = .returned (.bool true) ∧ Both B0 R S A B (opD d ⟨12, X, Y, n, m, pa, pn, pc, da, dn, dc, yes⟩ parts data) w w' := by
  have hb1 : Below w.heap.size w ((⟨12, X, Y, n, m, pa, pn, pc, da, dn, dc, yes⟩ : OpV).boxed w) := OpV.below _ w
  have hq1 : OpBox ((⟨12, X, Y, n, m, pa, pn, pc, da, dn, dc, yes⟩ : OpV).boxed w) w.heap.size ⟨12, X, Y, n, m, pa, pn, pc, da, dn, dc, yes⟩ := OpV.box _ w
  obtain ⟨w1, hw1⟩ : ∃ x, ((⟨12, X, Y, n, m, pa, pn, pc, da, dn, dc, yes⟩ : OpV).boxed w) = x := ⟨_, rfl⟩
  rw [hw1] at hb1 hq1
  have h1 := h.below hb1
  have he1 := he.below (hb1.mono hB)
  have hB1 : B0 ≤ w1.heap.size := Nat.le_trans hB hb1.size
  have hf := hw.fit (by omega)
  have hop : opD d ⟨12, X, Y, n, m, pa, pn, pc, da, dn, dc, yes⟩ parts data = crashD d n := rfl
  rw [hop]
  refine (power_crash (M := HalfP B0 R A (crashD d n) w1) (N := Both B0 R S A B (crashD d n) w1) _ _ X Y n m pa pn pc da dn dc yes w ?_ ?_ ?_).mono ?_
  · rw [hw1]
    refine (crash_calls n w1 h1.c ho.n2 ho.n1).mono ?_
    rintro e w2 ⟨rfl, k1, k2⟩
    exact ⟨rfl, R, A, k1, k2, rfl⟩
  · exact fun w2 hh => hh.ref h1 fun R' k1 k2 => (rcrash_calls n w2 k1 ho.n2 ho.n1).mono fun e w3 ⟨e1, k3, k4⟩ => ⟨S, B, e1, k3, k4, rfl⟩
  · exact fun w2 hh => hh.box hq1 h
  · exact fun e w2 ⟨e1, hh⟩ => ⟨e1, hh.back hb1⟩
theorem ptwo_restart (X Y : ByteArray) (n m : Int) (pa : Option Addr) (pn pc : Nat) (da : Option Addr) (dn dc : Nat) (yes : Bool) (parts : List Txt) (data : List Int) {L : Nat} (h : Two B0 w R S A B d) (he : Env B0 a w) (ha : Apart a) (hB : B0 ≤ w.heap.size) (hw : WF M d) (hM : M + L ≤ 536870912)
    (ho : OpM w (mix R S) ⟨13, X, Y, n, m, pa, pn, pc, da, dn, dc, yes⟩ parts data L) :
    Calls Tryz.prog 64 #[.pointer (some ⟨A.p, 0, none⟩), .pointer (some ⟨B.q, 0, none⟩), .agg #[.int .i64 13, .string X, .string Y, .int .i64 n, .int .i64 m, .slice pa pn pc, .slice da dn dc, .bool yes]] w fun e w' => e = .returned (.bool true) ∧ Both B0 R S A B (opD d ⟨13, X, Y, n, m, pa, pn, pc, da, dn, dc, yes⟩ parts data) w w' := by
  have hb1 : Below w.heap.size w ((⟨13, X, Y, n, m, pa, pn, pc, da, dn, dc, yes⟩ : OpV).boxed w).drew := (OpV.below _ w).drew
  have hq1 : OpBox ((⟨13, X, Y, n, m, pa, pn, pc, da, dn, dc, yes⟩ : OpV).boxed w).drew w.heap.size ⟨13, X, Y, n, m, pa, pn, pc, da, dn, dc, yes⟩ := OpV.box _ w
  obtain ⟨w1, hw1⟩ : ∃ x, ((⟨13, X, Y, n, m, pa, pn, pc, da, dn, dc, yes⟩ : OpV).boxed w).drew = x := ⟨_, rfl⟩
  rw [hw1] at hb1 hq1
  have h1 := h.below hb1
  have he1 := he.below (hb1.mono hB)
  have hB1 : B0 ≤ w1.heap.size := Nat.le_trans hB hb1.size
  have hf := hw.fit (by omega)
  have hop : opD d ⟨13, X, Y, n, m, pa, pn, pc, da, dn, dc, yes⟩ parts data = restartD d n data yes := rfl
  rw [hop]
  have hds : Ints3 w1 da dn data := (ho.same hb1.size fun k hk _ => hb1.block k hk).2
  have hdn : dn * 8 ≤ 140737488355328 := ho.dn
  obtain ⟨A2, c2, w2, hrun, hi2, hb2, hA2⟩ := run_ints da dn dc data w1 hds ho.d0 hdn
  refine (power_restart (M := HalfP B0 R A (restartD d n data yes) w1) (N := Both B0 R S A B (restartD d n data yes) w1) _ _ X Y n m pa pn pc da dn dc yes w w2 A2 dn c2 (by rw [hw1]; exact hrun) (hq1.below hb2) ?_ ?_ ?_).mono ?_
  · refine (restart_calls n A2 dn c2 data yes w2 (h1.below hb2).c hw (by omega) (Nat.le_trans hB1 hb2.size) ho.n1 ho.n2 hi2 (fun x hx _ => h1.c.inw.new (hA2 x hx)) ho.dr (by omega)).mono ?_
    rintro e w3 ⟨R', A', rfl, k1, k2, k3⟩
    exact ⟨rfl, HalfP.back ⟨R', A', k1, k2, k3⟩ hb2⟩
  · exact fun w3 hh => hh.ref h1 fun R' k1 k2 => rrestart_calls n da dn dc data yes w3 k1 hw (by omega) (Nat.le_trans hB1 k2.size) ho.n1 ho.n2 (ho.same (Nat.le_trans hb1.size k2.size) fun k hk h0 => (k2.block k (Nat.lt_of_lt_of_le hk hb1.size) (by unfold mix at h0; omega)).trans (hb1.block k hk)).2 (fun x hx h0 => by have := ho.do_ x hx h0; unfold mix at this; omega) ho.dr (by omega)
  · exact fun w3 hh => hh.box hq1 h
  · exact fun e w3 ⟨e1, hh⟩ => ⟨e1, hh.back hb1⟩
theorem ptwo_flip (X Y : ByteArray) (n m : Int) (pa : Option Addr) (pn pc : Nat) (da : Option Addr) (dn dc : Nat) (yes : Bool) (parts : List Txt) (data : List Int) {L : Nat} (h : Two B0 w R S A B d) (he : Env B0 a w) (ha : Apart a) (hB : B0 ≤ w.heap.size) (hw : WF M d) (hM : M + L ≤ 536870912)
    (ho : OpM w (mix R S) ⟨14, X, Y, n, m, pa, pn, pc, da, dn, dc, yes⟩ parts data L) :
    Calls Tryz.prog 64 #[.pointer (some ⟨A.p, 0, none⟩), .pointer (some ⟨B.q, 0, none⟩), .agg #[.int .i64 14, .string X, .string Y, .int .i64 n, .int .i64 m, .slice pa pn pc, .slice da dn dc, .bool yes]] w fun e w' => e = .returned (.bool true) ∧ Both B0 R S A B (opD d ⟨14, X, Y, n, m, pa, pn, pc, da, dn, dc, yes⟩ parts data) w w' := by
  have hb1 : Below w.heap.size w ((⟨14, X, Y, n, m, pa, pn, pc, da, dn, dc, yes⟩ : OpV).boxed w).drew := (OpV.below _ w).drew
  have hq1 : OpBox ((⟨14, X, Y, n, m, pa, pn, pc, da, dn, dc, yes⟩ : OpV).boxed w).drew w.heap.size ⟨14, X, Y, n, m, pa, pn, pc, da, dn, dc, yes⟩ := OpV.box _ w
  obtain ⟨w1, hw1⟩ : ∃ x, ((⟨14, X, Y, n, m, pa, pn, pc, da, dn, dc, yes⟩ : OpV).boxed w).drew = x := ⟨_, rfl⟩
  rw [hw1] at hb1 hq1
  have h1 := h.below hb1
  have he1 := he.below (hb1.mono hB)
  have hB1 : B0 ≤ w1.heap.size := Nat.le_trans hB hb1.size
  have hf := hw.fit (by omega)
  have hop : opD d ⟨14, X, Y, n, m, pa, pn, pc, da, dn, dc, yes⟩ parts data = (flipD d X.data.toList n (byteOf m)).2 := rfl
  rw [hop]
  refine (power_flip (M := Half B0 a R A (flipD d X.data.toList n (byteOf m)) ⟨#[102, 108, 105, 112]⟩ X w1) (N := Both B0 R S A B (flipD d X.data.toList n (byteOf m)).2 w1) (k := (flipD d X.data.toList n (byteOf m)).1) _ _ X Y n m pa pn pc da dn dc yes w ?_ ?_ ?_ ?_ ?_).mono ?_
  · rw [hw1, ← byteOf_val]; exact Half.of_ (flip_calls X n (byteOf m) w1 h1.c hf ho.a hB1 he1.f he1.g ho.n1 ho.n2 (hw.nl (by omega)))
  · exact fun v w2 hh => hh.code (flipD_le _ _ _ _) h1.c.low hB1 he1 ha
  · exact fun v w2 hh => hh.ref h1 fun R' k1 k2 => by rw [← byteOf_val]; exact rflip_calls X n (byteOf m) w2 k1 hf ho.a ho.n1 ho.n2 (hw.nl (by omega))
  · exact fun v w2 hh => hh.box hq1 h
  · exact fun w2 hh => hh.box hq1 h
  · exact fun e w2 ⟨e1, hh⟩ => ⟨e1, hh.back hb1⟩
/-- step, at any call. -/
theorem step_two (o : OpV) (parts : List Txt) (data : List Int) {L : Nat} (h : Two B0 w R S A B d) (he : Env B0 a w) (ha : Apart a) (hB : B0 ≤ w.heap.size) (hw : WF M d) (hM : M + L ≤ 536870912)
    (ho : OpM w (mix R S) o parts data L) :
    Calls Tryz.prog 21 #[.pointer (some ⟨A.p, 0, none⟩), .pointer (some ⟨B.q, 0, none⟩), .agg #[.int .i64 o.kind, .string o.a, .string o.b, .int .i64 o.n, .int .i64 o.m, .slice o.pa o.pn o.pc, .slice o.da o.dn o.dc, .bool o.yes]] w fun e w' => e = .returned (.bool true) ∧ Both B0 R S A B (opD d o parts data) w w' := by
  obtain ⟨K, X, Y, n, m, pa, pn, pc, da, dn, dc, yes⟩ := o
  by_cases hp : K < 1 ∨ 11 < K
  · have hb1 : Below w.heap.size w ((⟨K, X, Y, n, m, pa, pn, pc, da, dn, dc, yes⟩ : OpV).boxed w) := OpV.below _ w
    obtain ⟨w1, hw1⟩ : ∃ x, ((⟨K, X, Y, n, m, pa, pn, pc, da, dn, dc, yes⟩ : OpV).boxed w) = x := ⟨_, rfl⟩
    rw [hw1] at hb1
    have h1 := h.below hb1
    have he1 := he.below (hb1.mono hB)
    have hB1 : B0 ≤ w1.heap.size := Nat.le_trans hB hb1.size
    have hsm := ho.same hb1.size fun k hk _ => hb1.block k hk
    have ho1 : OpM w1 (mix R S) ⟨K, X, Y, n, m, pa, pn, pc, da, dn, dc, yes⟩ parts data L := ⟨ho.a, ho.b, ho.n1, ho.n2, ho.m1, ho.m2, hsm.1, ho.pc, ho.pn, ho.p0, ho.po, ho.fl, hsm.2, ho.dn, ho.d0, ho.do_, ho.dr⟩
    refine (step_power (N := Both B0 R S A B (opD d ⟨K, X, Y, n, m, pa, pn, pc, da, dn, dc, yes⟩ parts data) w1) K hp _ _ X Y n m pa pn pc da dn dc yes w ?_).mono fun e w2 ⟨e1, hh⟩ => ⟨e1, hh.back hb1⟩
    rw [hw1]
    by_cases hq : K < 12 ∨ 14 < K
    · refine (power_none K hq _ _ X Y n m pa pn pc da dn dc yes w1).mono ?_
      rintro e w2 ⟨rfl, rfl⟩
      have hop : opD d ⟨K, X, Y, n, m, pa, pn, pc, da, dn, dc, yes⟩ parts data = d := by
        unfold opD
        dsimp only
        rw [if_neg (by omega), if_neg (by omega), if_neg (by omega), if_neg (by omega), if_neg (by omega), if_neg (by omega), if_neg (by omega), if_neg (by omega), if_neg (by omega), if_neg (by omega), if_neg (by omega)]
      rw [hop]
      exact ⟨rfl, Both.same h1 (OpV.below _ w1)⟩
    · rcases (by omega : K = 12 ∨ K = 13 ∨ K = 14) with rfl | rfl | rfl
      · exact ptwo_crash X Y n m pa pn pc da dn dc yes parts data h1 he1 ha hB1 hw hM ho1
      · exact ptwo_restart X Y n m pa pn pc da dn dc yes parts data h1 he1 ha hB1 hw hM ho1
      · exact ptwo_flip X Y n m pa pn pc da dn dc yes parts data h1 he1 ha hB1 hw hM ho1
  · rcases (by omega : K = 1 ∨ K = 2 ∨ K = 3 ∨ K = 4 ∨ K = 5 ∨ K = 6 ∨ K = 7 ∨ K = 8 ∨ K = 9 ∨ K = 10 ∨ K = 11) with rfl | rfl | rfl | rfl | rfl | rfl | rfl | rfl | rfl | rfl | rfl
    · exact two_mkdir X Y n m pa pn pc da dn dc yes parts data h he ha hB hw hM ho
    · exact two_create X Y n m pa pn pc da dn dc yes parts data h he ha hB hw hM ho
    · exact two_append X Y n m pa pn pc da dn dc yes parts data h he ha hB hw hM ho
    · exact two_cut X Y n m pa pn pc da dn dc yes parts data h he ha hB hw hM ho
    · exact two_sync X Y n m pa pn pc da dn dc yes parts data h he ha hB hw hM ho
    · exact two_syncnames X Y n m pa pn pc da dn dc yes parts data h he ha hB hw hM ho
    · exact two_rename X Y n m pa pn pc da dn dc yes parts data h he ha hB hw hM ho
    · exact two_remove X Y n m pa pn pc da dn dc yes parts data h he ha hB hw hM ho
    · exact two_read X Y n m pa pn pc da dn dc yes parts data h he ha hB hw hM ho
    · exact two_all X Y n m pa pn pc da dn dc yes parts data h he ha hB hw hM ho
    · exact two_list X Y n m pa pn pc da dn dc yes parts data h he ha hB hw hM ho
/-- alike. -/
theorem alike_two (w : World) (h : Two B0 w R S A B d) (he : Env B0 a w) (ha : Apart a) (hB : B0 ≤ w.heap.size) (hw : WF M d) (hM : M ≤ 536870912) (hsz : ∀ x ∈ d.things, x.path.length ≤ 1073741824) :
    Calls Tryz.prog 22 #[.pointer (some ⟨A.p, 0, none⟩), .pointer (some ⟨B.q, 0, none⟩)] w fun e w' => e = .returned (.bool true) ∧ Below w.heap.size w w' := by
  have hf := hw.fit hM
  obtain ⟨X, c, hv, hX, hc⟩ := h.r.things.out
  have c0 : w.cell? ⟨B.q, 0, none⟩ = some (.slice X d.things.length c) := by rw [← hv]; exact Blk.cell h.r.blk 0
  have c5 : w.cell? ⟨B.q, 5, none⟩ = some (.bool d.off) := Blk.cell h.r.blk 5
  have htl := hw.tl
  refine alike_ok _ B.q w d.things (usedD d : Int) d.off X d.things.length c c0 c5 hX (by omega) ?_ ?_ ?_ ?_ ?_
  · exact fun x hx => used_calls x (h.below hx).c hf (hw.used hM)
  · exact fun x hx => rused_calls x (h.below hx).r hf (hw.used hM)
  · intro x hx
    refine (off_calls A.p d.off x (Blk.cell (h.below hx).c.blk 6)).mono ?_
    rintro e w2 ⟨rfl, rfl⟩
    exact ⟨rfl, Below.refl _ _⟩
  · intro X x hx hk
    have hX : X.size ≤ 1073741824 := by
      rcases hk with rfl | ⟨y, hy, _, hp⟩
      · decide
      · rw [← text_size3, ← hp]; exact hsz y hy
    exact listed_two X x (h.below hx) (he.below (hx.mono hB)) ha (Nat.le_trans hB hx.size) hw hM hX
  · rintro X x hx ⟨y, hy, _, hp⟩
    have hX : X.size ≤ 1073741824 := by rw [← text_size3, ← hp]; exact hsz y hy
    have h1 := h.below hx
    have he1 := he.below (hx.mono hB)
    have hB1 := Nat.le_trans hB hx.size
    have hb1 : Below x.heap.size x ((⟨10, X, ⟨#[]⟩, 0, 0, none, 0, 0, none, 0, 0, false⟩ : OpV).boxed x) := OpV.below _ x
    have hq1 : OpBox ((⟨10, X, ⟨#[]⟩, 0, 0, none, 0, 0, none, 0, 0, false⟩ : OpV).boxed x) x.heap.size ⟨10, X, ⟨#[]⟩, 0, 0, none, 0, 0, none, 0, 0, false⟩ := OpV.box _ x
    obtain ⟨w1, hw1⟩ : ∃ y, ((⟨10, X, ⟨#[]⟩, 0, 0, none, 0, 0, none, 0, 0, false⟩ : OpV).boxed x) = y := ⟨_, rfl⟩
    rw [hw1] at hb1 hq1
    have h2 := h1.below hb1
    have he2 := he1.below (hb1.mono hB1)
    have hB2 := Nat.le_trans hB1 hb1.size
    refine (step_all (T := ⟨(allD d X.data.toList).1.toArray⟩) (M := fun v w' => ErrV a w' ⟨#[114, 101, 97, 100]⟩ X (allD d X.data.toList).2 v ∧ Below w1.heap.size w1 w') (k := (allD d X.data.toList).2) _ _ X _ _ _ _ _ _ _ _ _ _ x ?_ ?_ ?_ ?_).mono ?_
    · rw [hw1]; exact all3_calls X w1 h2.c hf hX hB2 he2.f
    · exact fun v w2 hh => code_calls _ _ _ _ _ hh.1 (allD_le _ _) (he2.below (hh.2.mono hB2)).f (he2.below (hh.2.mono hB2)).g (he2.below (hh.2.mono hB2)).s ha
    · exact fun v w2 hh => rall_calls X w2 (h2.below hh.2).r hf hX
    · exact fun v w2 hh => hq1.below hh.2
    · exact fun e w2 ⟨e1, v, hh⟩ => ⟨e1, then_ hb1 hh.2⟩
end
end Go.Proofs.YtdaidbnbfjgjeaaGreatDoor

/-! ## DskWakes -/
/- Layer 3's law: wakes. -/
namespace Go.Proofs.YtdaidbnbfjgjeaaGreatDoor
open Go.RowKit Go.Shelf Go.Maps Go.Sort
attribute [local go_sem ↓] Go.wp_at_zero Go.wp_at_succ
attribute [local go_sem] Later.cell Later.frozen

section
variable {B0 : Nat} {a : Nat → Addr}
def wk0 : Ds := newD 9
def wk1 : Ds := (createD wk0 [97]).2
def wk2 : Ds := (syncNamesD wk1).2
def wk3 : Ds := (appendD wk2 [97] [120, 121, 122]).2
def wk4 : Ds := (syncD wk3 [97]).2
def wk5 : Ds := (appendD wk4 [97] [117, 118]).2
def wk6 : Ds := restartD wk5 0 [1] true
theorem wk_w0 : WF 1 wk0 := (WF.new 9).more (by omega)
theorem wk_w1 : WF 2 wk1 := wk_w0.create _
theorem wk_w2 : WF 3 wk2 := wk_w1.syncNames
theorem wk_w3 : WF 7 wk3 := wk_w2.append [97] [120, 121, 122]
theorem wk_w4 : WF 8 wk4 := wk_w3.sync _
theorem wk_w5 : WF 11 wk5 := wk_w4.append [97] [117, 118]
theorem wk_w6 : WF 12 wk6 := wk_w5.restart _ _ _
theorem wk_n1 : (createD wk0 [97]).1 = 0 := by decide
theorem wk_n2 : (syncNamesD wk1).1 = 0 := by decide
theorem wk_n3 : (appendD wk2 [97] [120, 121, 122]).1 = 0 := by decide
theorem wk_n4 : (syncD wk3 [97]).1 = 0 := by decide
theorem wk_n5 : (appendD wk4 [97] [117, 118]).1 = 0 := by decide
theorem wk_all : allD wk6 [97] = ([120, 121, 122, 117, 0], 0) := by decide
theorem wk_used : usedD wk6 = 5 := by decide
theorem nil_of {a : Nat → Addr} {w : World} {op s : ByteArray} {k : Nat} {v : Value} (h : ErrV a w op s k v) (hk : k = 0) : v = .nilIface := by subst hk; exact h
theorem strs_of {w : World} {b : Nat} {l : List Txt} (h : Blk w b 9 (l.map txtV).toArray) : Strs w (some ⟨b, 0, none⟩) l.length l :=
  ⟨rfl, fun _ => ⟨b, 0, rfl, h.lt, fun i x hx j v hv => by
    match j, hv with
    | 0, hv =>
      injection hv with hv
      subst hv
      have h1 := h.cell i
      have h2 : (l.map txtV).toArray[i]? = some (txtV x) := by simp [hx]
      simpa [h2] using h1
    | j + 1, hv => simp [enc1] at hv⟩⟩
set_option maxRecDepth 100000 in
set_option maxHeartbeats 8000000 in
theorem wakes_calls (w : World) (hB : B0 ≤ w.heap.size) (hF : Fails B0 a w) :
    Calls Tryz.prog 9 #[] w fun e w' => e = .returned (.bool true) ∧ Below w.heap.size w w' := by
  go_enter Tryz.func9, Tryz.ntmps9
  go_wp2_with fail
  refine (new_calls B0 9 w hB (by decide) (by decide)).mono ?_
  rintro e w1 ⟨R, A, rfl, hc, hb, hR⟩
  obtain ⟨p, hp⟩ : ∃ p, A.p = p := ⟨_, rfl⟩
  have hB1 := Nat.le_trans hB hb.size
  have hF1 := hF.below (hb.mono hB)
  have H := create_calls ⟨#[97]⟩ w1 hc (wk_w0.fit (by decide)) wk_w0.nums (by decide) hB1 hF1
  rw [hp] at H ⊢
  have HB := Lib.hid hb
  have HR := Lib.hid hR
  have HH := Lib.hid H
  have HP := Lib.hid hp
  clear hR H hp hb
  go_wp2_with fail
  refine HH.out.mono ?_
  clear HH
  rintro e w2 ⟨v, R2, A2, rfl, hv, hc2, ho2, hp2, _⟩
  obtain rfl := nil_of hv wk_n1
  have hc2 : CD B0 w2 R2 A2 wk1 := hc2
  have hB2 := Nat.le_trans hB1 ho2.size
  have hF2 := hF1.below (ho2.below hB1 hc.low)
  have H := syncNames_calls w2 hc2 (wk_w1.fit (by decide)) hB2 hF2
  rw [hp2.trans HP.out] at H
  have HH := Lib.hid H
  have HP2 := Lib.hid (hp2.trans HP.out)
  clear hp2 hv H
  go_wp2_with fail
  refine HH.out.mono ?_
  clear HH
  rintro e w3 ⟨v, R3, A3, rfl, hv, hc3, ho3, hp3, _⟩
  obtain rfl := nil_of hv wk_n2
  have hc3 : CD B0 w3 R3 A3 wk2 := hc3
  have hB3 := Nat.le_trans hB2 ho3.size
  have hF3 := hF2.below (ho3.below hB2 hc2.low)
  have HP3 := Lib.hid (hp3.trans HP2.out)
  have ho3 := ho2.trans ho3
  obtain ⟨W3, hW3⟩ : ∃ x, w3.alloc (.cells #[.string ⟨#[120, 121, 122]⟩] 9) = x := ⟨_, rfl⟩
  have hb3 : Below w3.heap.size w3 W3 := by rw [← hW3]; exact (Below.refl _ _).alloc (Nat.le_refl _) _
  have hk3 : Blk W3 w3.heap.size 9 #[.string ⟨#[120, 121, 122]⟩] := by rw [← hW3]; exact Blk.new _ _ _
  have hs3 : Strs W3 (some ⟨w3.heap.size, 0, none⟩) 1 [[120, 121, 122]] := strs_of hk3
  have H := append_calls ⟨#[97]⟩ _ 1 1 _ W3 (hc3.below hb3) (wk_w2.fit (by decide)) (by decide) (Nat.le_trans hB3 hb3.size) (hF3.below (hb3.mono hB3)) hs3 (by decide) (by decide) (by decide) (wk_w2.used (by decide)) wk_w2.capl (wk_w2.nl (by decide)) (wk_w2.sl (by decide))
  rw [HP3.out] at H
  have HH := Lib.hid H
  have HW3 := Lib.hid hW3
  clear hp3 hv H hk3 hs3 hW3
  go_wp2_with fail
  rw [HW3.out]
  refine HH.out.mono ?_
  clear HH
  rintro e w4 ⟨v, R4, A4, rfl, hv, hc4, ho4, hp4, _⟩
  obtain rfl := nil_of hv wk_n3
  have hc4 : CD B0 w4 R4 A4 wk3 := hc4
  have ho4 := ho3.trans ((Own.of_below hb3).trans ho4)
  have hB4 := Nat.le_trans hB1 ho4.size
  have hF4 := hF1.below (ho4.below hB1 hc.low)
  have HP4 := Lib.hid (hp4.trans HP3.out)
  have H := sync_calls ⟨#[97]⟩ w4 hc4 (wk_w3.fit (by decide)) (by decide) hB4 hF4
  rw [HP4.out] at H
  have HH := Lib.hid H
  clear hp4 hv H hb3
  go_wp2_with fail
  refine HH.out.mono ?_
  clear HH
  rintro e w5 ⟨v, R5, A5, rfl, hv, hc5, ho5, hp5, _⟩
  obtain rfl := nil_of hv wk_n4
  have hc5 : CD B0 w5 R5 A5 wk4 := hc5
  have ho5 := ho4.trans ho5
  have hB5 := Nat.le_trans hB1 ho5.size
  have hF5 := hF1.below (ho5.below hB1 hc.low)
  have HP5 := Lib.hid (hp5.trans HP4.out)
  obtain ⟨W5, hW5⟩ : ∃ x, w5.alloc (.cells #[.string ⟨#[117]⟩, .string ⟨#[118]⟩] 9) = x := ⟨_, rfl⟩
  have hb5 : Below w5.heap.size w5 W5 := by rw [← hW5]; exact (Below.refl _ _).alloc (Nat.le_refl _) _
  have hk5 : Blk W5 w5.heap.size 9 #[.string ⟨#[117]⟩, .string ⟨#[118]⟩] := by rw [← hW5]; exact Blk.new _ _ _
  have hs5 : Strs W5 (some ⟨w5.heap.size, 0, none⟩) 2 [[117], [118]] := strs_of hk5
  have H := append_calls ⟨#[97]⟩ _ 2 2 _ W5 (hc5.below hb5) (wk_w4.fit (by decide)) (by decide) (Nat.le_trans hB5 hb5.size) (hF5.below (hb5.mono hB5)) hs5 (by decide) (by decide) (by decide) (wk_w4.used (by decide)) wk_w4.capl (wk_w4.nl (by decide)) (wk_w4.sl (by decide))
  rw [HP5.out] at H
  have HH := Lib.hid H
  have HW5 := Lib.hid hW5
  clear hp5 hv H hk5 hs5 hW5
  go_wp2_with fail
  rw [HW5.out]
  refine HH.out.mono ?_
  clear HH
  rintro e w6 ⟨v, R6, A6, rfl, hv, hc6, ho6, hp6, _⟩
  obtain rfl := nil_of hv wk_n5
  have hc6 : CD B0 w6 R6 A6 wk5 := hc6
  have ho6 := ho5.trans ((Own.of_below hb5).trans ho6)
  have hB6 := Nat.le_trans hB1 ho6.size
  have HP6 := Lib.hid (hp6.trans HP5.out)
  obtain ⟨W6, hW6⟩ : ∃ x, w6.alloc (.cells #[.int .i64 1] 3) = x := ⟨_, rfl⟩
  have hb6 : Below w6.heap.size w6 W6 := by rw [← hW6]; exact (Below.refl _ _).alloc (Nat.le_refl _) _
  have hk6 : Blk W6 w6.heap.size 3 #[.int .i64 1] := by rw [← hW6]; exact Blk.new _ _ _
  have hs6 : Ints3 W6 (some ⟨w6.heap.size, 0, none⟩) 1 [1] := ⟨rfl, fun _ => ⟨_, 0, rfl, hk6.lt, fun i x hx j v hv => by
    match i, hx, j, hv with
    | 0, hx, 0, hv => injection hx with hx; subst hx; injection hv with hv; subst hv; exact hk6.cell 0
    | 0, hx, j + 1, hv => simp [I1] at hv
    | i + 1, hx, _, _ => simp at hx⟩⟩
  have H := restart_calls 0 _ 1 1 [1] true W6 (hc6.below hb6) wk_w5 (by decide) (Nat.le_trans hB6 hb6.size) (by decide) (by decide) hs6 (fun x hx _ => by injection hx with hx; subst hx; exact hc6.inw.new (Nat.le_refl _)) (by decide) (by decide)
  rw [HP6.out] at H
  have HH := Lib.hid H
  have HW6 := Lib.hid hW6
  clear hp6 hv H hk6 hs6 hW6
  go_wp2_with fail
  rw [HW6.out]
  refine HH.out.mono ?_
  clear HH
  rintro e w7 ⟨R7, A7, rfl, hc7, ho7, hp7⟩
  have hc7 : CD B0 w7 R7 A7 wk6 := hc7
  have ho7 := ho6.trans ((Own.of_below hb6).trans ho7)
  have hB7 := Nat.le_trans hB1 ho7.size
  have hF7 := hF1.below (ho7.below hB1 hc.low)
  have HP7 := Lib.hid (hp7.trans HP6.out)
  have H := all3_calls ⟨#[97]⟩ w7 hc7 (wk_w6.fit (by decide)) (by decide) hB7 hF7
  rw [HP7.out] at H
  have HH := Lib.hid H
  clear hp7 H hb6
  go_wp2_with fail
  refine HH.out.mono ?_
  clear HH
  rintro e w8 ⟨v, he8, hv, hb8⟩
  have he8' : e = .returned (.tuple #[.string ⟨#[120, 121, 122, 117, 0]⟩, v]) := by
    rw [wk_all] at he8
    exact he8
  obtain rfl := nil_of hv (by rw [wk_all])
  subst he8'
  have H := used_calls w8 (hc7.below hb8) (wk_w6.fit (by decide)) (wk_w6.used (by decide))
  rw [HP7.out, wk_used] at H
  have HH := Lib.hid H
  clear he8 hv H
  go_wp2_with fail
  refine HH.out.mono ?_
  clear HH
  rintro e w9 ⟨rfl, hb9⟩
  have hfin : Below w.heap.size w w9 := HB.out.trans (((ho7.below HB.out.size (fun k hk => by
    apply Classical.byContradiction
    intro h0
    have := HR.out k h0
    omega)).trans (hb8.mono (Nat.le_trans HB.out.size ho7.size))).trans (hb9.mono (Nat.le_trans (Nat.le_trans HB.out.size ho7.size) hb8.size)))
  have HFIN := Lib.hid hfin
  clear hb8 hb9 hfin
  go_wp2_with fail
  go_ret
  exact ⟨rfl, HFIN.out⟩
end
end Go.Proofs.YtdaidbnbfjgjeaaGreatDoor

/-! ## DskRun -/
/- Layer 3's law: two disks through a script. -/
namespace Go.Proofs.YtdaidbnbfjgjeaaGreatDoor
open Go.RowKit Go.Shelf Go.Maps Go.Sort

/-- One call of a script, with the texts and the numbers that it hands over. -/
structure OpE where
  o : OpV
  parts : List Txt
  data : List Int
instance : Inhabited OpE := ⟨⟨⟨0, ⟨#[]⟩, ⟨#[]⟩, 0, 0, none, 0, 0, none, 0, 0, false⟩, [], []⟩⟩
def encO (e : OpE) : List Value := e.o.cells.toList
def costO (e : OpE) : Nat := e.parts.flatten.length + 1
def costs (l : List OpE) : Nat := (l.map costO).sum
theorem costs_take {l : List OpE} {i : Nat} (hi : i < l.length) : costs (l.take (i + 1)) = costs (l.take i) + costO l[i]! := by
  unfold costs
  rw [List.take_add_one, List.map_append, List.sum_append, List.getElem?_eq_getElem hi, getElem!_pos l i hi]
  simp
theorem costs_le {l : List OpE} (i : Nat) : costs (l.take i) ≤ costs l := by
  unfold costs
  have h : (l.map costO).sum = ((l.take i).map costO).sum + ((l.drop i).map costO).sum := by rw [← List.sum_append, ← List.map_append, List.take_append_drop]
  omega
structure ScriptM (W : World) (X : Option Addr) (n : Nat) (l : List OpE) : Prop where
  row : Elems W W.heap.size 8 encO X n l
  ops : ∀ e ∈ l, OpM W (fun _ => 0) e.o e.parts e.data e.parts.flatten.length
  n : n ≤ 1073741824
theorem OpM.later {W w : World} {B0 : Nat} {Q : Nat → Nat} {o : OpV} {parts : List Txt} {data : List Int} {L : Nat} (h : OpM W (fun _ => 0) o parts data L) (hB : B0 = W.heap.size) (hb : Below B0 W w) (hQ : ∀ k, k < B0 → Q k = 0) : OpM w Q o parts data L := by
  subst hB
  have hs := h.same hb.size fun k hk _ => hb.block k hk
  refine ⟨h.a, h.b, h.n1, h.n2, h.m1, h.m2, hs.1, h.pc, h.pn, h.p0, fun x hx h0 => ?_, h.fl, hs.2, h.dn, h.d0, fun x hx h0 => ?_, h.dr⟩
  · obtain ⟨b, off, e, hb, _⟩ := h.ps.2 h0
    rw [hx] at e
    injection e with e
    subst e
    exact hQ _ hb
  · obtain ⟨b, off, e, hb, _⟩ := h.ds.2 h0
    rw [hx] at e
    injection e with e
    subst e
    exact hQ _ hb
theorem ops_at {w : World} {X : Option Addr} {n : Nat} {l : List OpE} (h : Elems w w.heap.size 8 encO X n l) {i : Nat} (hi : i < n) : ∃ b off, X = some ⟨b, off, none⟩ ∧ b < w.heap.size ∧
    w.cell? ⟨b, off + i * 8, none⟩ = some (.int .i64 l[i]!.o.kind) ∧ w.cell? ⟨b, off + i * 8 + 1, none⟩ = some (.string l[i]!.o.a) ∧ w.cell? ⟨b, off + i * 8 + 2, none⟩ = some (.string l[i]!.o.b) ∧ w.cell? ⟨b, off + i * 8 + 3, none⟩ = some (.int .i64 l[i]!.o.n)
    ∧ w.cell? ⟨b, off + i * 8 + 4, none⟩ = some (.int .i64 l[i]!.o.m) ∧ w.cell? ⟨b, off + i * 8 + 5, none⟩ = some (.slice l[i]!.o.pa l[i]!.o.pn l[i]!.o.pc) ∧ w.cell? ⟨b, off + i * 8 + 6, none⟩ = some (.slice l[i]!.o.da l[i]!.o.dn l[i]!.o.dc) ∧ w.cell? ⟨b, off + i * 8 + 7, none⟩ = some (.bool l[i]!.o.yes) := by
  obtain ⟨b, off, e, hb, hc⟩ := h.2 (by omega)
  have hl : i < l.length := by have : l.length = n := Elems.len h; omega
  have hx := hc i l[i]! (by rw [getElem!_pos l i hl, List.getElem?_eq_getElem hl])
  exact ⟨b, off, e, hb, by simpa using hx 0 _ rfl, by simpa using hx 1 _ rfl, by simpa using hx 2 _ rfl, by simpa using hx 3 _ rfl, by simpa using hx 4 _ rfl, by simpa using hx 5 _ rfl, by simpa using hx 6 _ rfl, by simpa using hx 7 _ rfl⟩

/-- What a law has at its entry. -/
structure Start (a : Nat → Addr) (W : World) : Prop where
  env : Env W.heap.size a W
  ap : Apart a
/-- Two disks at the places p and q, which hold d. -/
structure Run (M : Nat) (W w : World) (p q : Nat) (d : Ds) : Prop where
  ex : ∃ R S A B, Two W.heap.size w R S A B d ∧ A.p = p ∧ B.q = q
  wf : WF M d
  below : Below W.heap.size W w
section
variable {a : Nat → Addr} {M : Nat} {W w w' : World} {p q : Nat} {d : Ds}
theorem Run.later (h : Run M W w p q d) (hb : Below w.heap.size w w') : Run M W w' p q d := by
  obtain ⟨R, S, A, B, h1, h2, h3⟩ := h.ex
  exact ⟨⟨R, S, A, B, h1.below hb, h2, h3⟩, h.wf, h.below.trans (hb.mono h.below.size)⟩
theorem Run.more {M' : Nat} (h : Run M W w p q d) (hM : M ≤ M') : Run M' W w p q d := ⟨h.ex, h.wf.more hM, h.below⟩
theorem Run.both {M' : Nat} {d' : Ds} {R S : Nat → Nat} {A : Adr} {B : RAdr} (h2 : Two W.heap.size w R S A B d) (hp : A.p = p) (hq : B.q = q) (hb : Below W.heap.size W w) (k : Both W.heap.size R S A B d' w w') (hw : WF M' d') : Run M' W w' p q d' := by
  obtain ⟨R', S', A', B', k1, k2, k3, k4⟩ := k.ex
  exact ⟨⟨R', S', A', B', k1, k3.trans hp, k4.trans hq⟩, hw, hb.trans (k2.below hb.size h2.low)⟩
theorem Run.step (hst : Start a W) (h : Run M W w p q d) (e : OpE) (he : OpM W (fun _ => 0) e.o e.parts e.data e.parts.flatten.length) (hM : M + costO e ≤ 536870912) :
    Calls Tryz.prog 21 #[.pointer (some ⟨p, 0, none⟩), .pointer (some ⟨q, 0, none⟩), .agg #[.int .i64 e.o.kind, .string e.o.a, .string e.o.b, .int .i64 e.o.n, .int .i64 e.o.m, .slice e.o.pa e.o.pn e.o.pc, .slice e.o.da e.o.dn e.o.dc, .bool e.o.yes]] w fun x w' => x = .returned (.bool true) ∧ Run (M + costO e) W w' p q (opD d e.o e.parts e.data) := by
  obtain ⟨R, S, A, B, h1, rfl, rfl⟩ := h.ex
  unfold costO at hM ⊢
  refine (step_two e.o e.parts e.data (L := e.parts.flatten.length) h1 (hst.env.below h.below) hst.ap h.below.size h.wf (by omega) (he.later rfl h.below h1.low)).mono ?_
  rintro x w2 ⟨rfl, hh⟩
  exact ⟨rfl, Run.both h1 rfl rfl h.below hh ((h.wf.op e.o e.parts e.data he.n2 (Nat.le_refl _)).more (by omega))⟩
theorem Run.alike (hst : Start a W) (h : Run M W w p q d) (hM : M ≤ 536870912) :
    Calls Tryz.prog 22 #[.pointer (some ⟨p, 0, none⟩), .pointer (some ⟨q, 0, none⟩)] w fun x w' => x = .returned (.bool true) ∧ Run M W w' p q d := by
  obtain ⟨R, S, A, B, h1, rfl, rfl⟩ := h.ex
  refine (alike_two w h1 (hst.env.below h.below) hst.ap h.below.size h.wf hM (fun x hx => by have := pathB_len (h.wf.tw.paths x hx); omega)).mono ?_
  rintro x w2 ⟨rfl, hh⟩
  exact ⟨rfl, h.later hh⟩
theorem Run.listed (hst : Start a W) (h : Run M W w p q d) (X : ByteArray) (hM : M ≤ 536870912) (hX : X.size ≤ 1073741824) :
    Calls Tryz.prog 26 #[.pointer (some ⟨p, 0, none⟩), .pointer (some ⟨q, 0, none⟩), .string X] w fun x w' => x = .returned (.bool true) ∧ Run M W w' p q d := by
  obtain ⟨R, S, A, B, h1, rfl, rfl⟩ := h.ex
  refine (listed_two X w h1 (hst.env.below h.below) hst.ap h.below.size h.wf hM hX).mono ?_
  rintro x w2 ⟨rfl, hh⟩
  exact ⟨rfl, h.later hh⟩
/-- Both disks are made. -/
theorem run_new (n : Int) (hn : n ≤ 9223372036854775807) (hn' : -9223372036854775808 ≤ n) (w : World) (hb : Below W.heap.size W w) :
    Calls Tryz.prog 10 #[.int .i64 n] w fun x w1 => ∃ p, x = .returned (.pointer (some ⟨p, 0, none⟩)) ∧ Calls Tryz.prog 20 #[.int .i64 n] w1 fun y w2 => ∃ q, y = .returned (.pointer (some ⟨q, 0, none⟩)) ∧ Run 0 W w2 p q (newD n) := by
  refine (new_calls W.heap.size n w hb.size hn hn').mono ?_
  rintro x w1 ⟨R, A, rfl, h1, h2, h3⟩
  refine ⟨A.p, rfl, ?_⟩
  refine (rnew_calls W.heap.size n w1 (Nat.le_trans hb.size h2.size) hn hn').mono ?_
  rintro y w2 ⟨S, B, rfl, k1, k2, k3⟩
  refine ⟨B.q, rfl, ⟨R, S, A, B, ⟨h1.below k2, k1, fun k hk => ?_⟩, rfl, rfl⟩, WF.new n, hb.trans ((h2.mono hb.size).trans (k2.mono (Nat.le_trans hb.size h2.size)))⟩
  apply Classical.byContradiction
  intro h0
  have := k3 k h0
  have := h1.inw k hk
  omega
end
end Go.Proofs.YtdaidbnbfjgjeaaGreatDoor
