/- The plain law of layer 6 (regex): patterns put together of patterns. -/
import Derived.Test.YtlmnincllndpnaaRexPlain2
namespace Go.Proofs.Ytlmnincllndpnaa

/-! ### more behind a pattern -/
theorem letterOf_ext {l l' : List UInt8} {b : UInt8} (h : letterOf l = .ok (b, l')) (z : List UInt8) : letterOf (l ++ z) = .ok (b, l' ++ z) := by
  match l with
  | [] => simp [letterOf] at h
  | c :: l =>
    simp only [letterOf] at h
    split at h
    · rename_i hc
      match l with
      | [] => simp at h
      | x :: l =>
        simp at h
        obtain ⟨rfl, rfl⟩ := h
        simp [letterOf, hc]
    · rename_i hc
      injection h with h; injection h with h1 h2; subst h1 h2
      simp [letterOf, hc]
theorem ranges_ext {l : List UInt8} (h : l ≠ []) (h' : l ≠ [45]) (z : List UInt8) : ranges (l ++ z) = ranges l := by
  match l with
  | [] => exact absurd rfl h
  | [c] =>
    have hc : c ≠ 45 := fun e => h' (by rw [e])
    cases z with
    | nil => rfl
    | cons d z => simp [ranges, hc]
  | c :: d :: l => rfl
theorem itemOf_ext {l l' : List UInt8} {a b : UInt8} (h : itemOf l = .ok (a, b, l')) (h1 : l' ≠ []) (h2 : l' ≠ [45]) (z : List UInt8) : itemOf (l ++ z) = .ok (a, b, l' ++ z) := by
  unfold itemOf at h ⊢
  split at h
  · cases h
  · rename_i a1 l1 hl
    rw [letterOf_ext hl z]
    dsimp only
    by_cases hr : ranges l1 = true
    · rw [if_pos hr] at h
      have hl1 : l1 ≠ [] := by rintro rfl; simp [ranges] at hr
      have hl2 : l1 ≠ [45] := by rintro rfl; simp [ranges] at hr
      rw [ranges_ext hl1 hl2, if_pos hr]
      split at h
      · cases h
      · rename_i b2 l2 hl3
        injection h with h; injection h with e1 h; injection h with e2 h; subst e1 e2 h
        rw [List.tail_append_of_ne_nil hl1, letterOf_ext hl3 z]
    · rw [if_neg hr] at h
      injection h with h; injection h with e1 h; injection h with e2 h; subst e1 e2 h
      rw [ranges_ext h1 h2, if_neg hr]
theorem itemsF_ne {n : Nat} {l : List UInt8} {s k : Nat} {f : Bool} {x : Items} (h : itemsF n l s k f = some (.ok x)) : l ≠ [] ∧ l ≠ [45] := by
  refine ⟨?_, ?_⟩
  · rintro rfl
    cases n with
    | zero => simp [itemsF] at h
    | succ n => simp [itemsF, itemOf, letterOf] at h
  · rintro rfl
    cases n with
    | zero => simp [itemsF] at h
    | succ n =>
      simp [itemsF, itemOf, letterOf, ranges] at h
      cases n with
      | zero => simp [itemsF] at h
      | succ n => simp [itemsF, itemOf, letterOf] at h
theorem itemsF_ext : ∀ {n : Nat} {l : List UInt8} {s k : Nat} {f : Bool} {x : Items}, itemsF n l s k f = some (.ok x) → ∀ z, itemsF n (l ++ z) s k f = some (.ok ⟨x.s, x.k, x.falls, x.rest ++ z⟩)
  | 0, _, _, _, _, _, h, _ => by simp [itemsF] at h
  | n + 1, l, s, k, f, x, h, z => by
    have hne := (itemsF_ne h).1
    have hh : (l ++ z).head? = l.head? := by cases l with | nil => exact absurd rfl hne | cons => rfl
    rw [itemsF] at h ⊢
    rw [hh]
    split at h
    · rename_i hc
      rw [if_pos hc]
      injection h with h; injection h with h; subst h
      rw [List.tail_append_of_ne_nil hne]
    · rename_i hc
      rw [if_neg hc]
      split at h
      · cases h
      · rename_i a b l' hi
        have hn := itemsF_ne h
        rw [itemOf_ext hi hn.1 hn.2 z]
        exact itemsF_ext h z
theorem classF_ext {n : Nat} {l l' : List UInt8} {t : Tr} (h : classF n l = some (.ok (t, l'))) (z : List UInt8) : classF n (l ++ z) = some (.ok (t, l' ++ z)) := by
  unfold classF at h ⊢
  dsimp only at h ⊢
  have hl : l ≠ [] := by
    rintro rfl
    cases n with
    | zero => simp [itemsF] at h
    | succ n => simp [itemsF, itemOf, letterOf] at h
  have hh : (l ++ z).head? = l.head? := by cases l with | nil => exact absurd rfl hl | cons => rfl
  have ht : (l ++ z).tail = l.tail ++ z := List.tail_append_of_ne_nil hl
  rw [hh, ht]
  split at h
  · cases h
  · cases h
  · rename_i x hi
    have e : (if (decide (l.head? = some 94)) = true then l.tail ++ z else l ++ z) = (if (decide (l.head? = some 94)) = true then l.tail else l) ++ z := by split <;> rfl
    rw [e, itemsF_ext hi z]
    dsimp only
    split at h
    · rename_i hg
      injection h with h; injection h with h; injection h with h1 h2; subst h1 h2
      have hg' : Items.good ⟨x.s, x.k, x.falls, x.rest ++ z⟩ (decide (l.head? = some 94)) = true := hg
      rw [if_pos hg']
      rfl
    · cases h

/-! ### what is left is an end of what was there -/
theorem letterOf_suffix {l l' : List UInt8} {b : UInt8} (h : letterOf l = .ok (b, l')) : l' <:+ l := by
  match l with
  | [] => simp [letterOf] at h
  | c :: l =>
    simp only [letterOf] at h
    split at h
    · match l with
      | [] => simp at h
      | x :: l => simp at h; obtain ⟨_, rfl⟩ := h; exact ⟨[c, x], rfl⟩
    · injection h with h; injection h with _ h; subst h; exact ⟨[c], rfl⟩
theorem itemOf_suffix {l l' : List UInt8} {a b : UInt8} (h : itemOf l = .ok (a, b, l')) : l' <:+ l := by
  unfold itemOf at h
  split at h
  · cases h
  · rename_i a1 l1 h1
    have g1 := letterOf_suffix h1
    split at h
    · split at h
      · cases h
      · rename_i b2 l2 h2
        injection h with h; injection h with _ h; injection h with _ h; subst h
        exact ((letterOf_suffix h2).trans (List.tail_suffix _)).trans g1
    · injection h with h; injection h with _ h; injection h with _ h; subst h
      exact g1
theorem itemsF_suffix : ∀ {n : Nat} {l : List UInt8} {s k : Nat} {f : Bool} {x : Items}, itemsF n l s k f = some (.ok x) → x.rest <:+ l
  | 0, _, _, _, _, _, h => by simp [itemsF] at h
  | n + 1, l, s, k, f, x, h => by
    rw [itemsF] at h
    split at h
    · injection h with h; injection h with h; subst h
      exact List.tail_suffix _
    · split at h
      · cases h
      · rename_i hi
        exact (itemsF_suffix h).trans (itemOf_suffix hi)
theorem classF_suffix {n : Nat} {l l' : List UInt8} {t : Tr} (h : classF n l = some (.ok (t, l'))) : l' <:+ l := by
  unfold classF at h
  dsimp only at h
  split at h
  · cases h
  · cases h
  · rename_i hi
    have g1 := itemsF_suffix hi
    have g2 : (if (decide (l.head? = some 94)) = true then l.tail else l) <:+ l := by
      split
      · exact List.tail_suffix _
      · exact List.suffix_rfl
    split at h
    · injection h with h; injection h with h; injection h with _ h; subst h; exact g1.trans g2
    · cases h
theorem run_suffix : ∀ {n : Nat} {k : Tk} {l l' : List UInt8} {d : Nat} {t : Tr}, run n k l d = some (.ok (t, l')) → l' <:+ l
  | 0, _, _, _, _, _, h => by simp [run] at h
  | n + 1, .branches, l, l', d, t, h => by
    rw [run] at h
    rcases Res.then_some h with ⟨t1, l1, h1, h2⟩ | ⟨e, h1, h2⟩
    · exact (run_suffix h2).trans (run_suffix h1)
    · cases h2
  | n + 1, .strokes t, l, l', d, _, h => by
    rw [run] at h
    split at h
    · rcases Res.then_some h with ⟨t1, l1, h1, h2⟩ | ⟨e, h1, h2⟩
      · exact ((run_suffix h2).trans (run_suffix h1)).trans (List.tail_suffix _)
      · cases h2
    · injection h with h; injection h with h; injection h with _ h; subst h; exact List.suffix_rfl
  | n + 1, .pieces t, [], l', d, _, h => by
    rw [run] at h; injection h with h; injection h with h; injection h with _ h; subst h; exact List.suffix_rfl
  | n + 1, .pieces t, b :: l, l', d, _, h => by
    rw [run] at h
    split at h
    · cases h
    · split at h
      · injection h with h; injection h with h; injection h with _ h; subst h; exact List.suffix_rfl
      · rcases Res.then_some h with ⟨t1, l1, h1, h2⟩ | ⟨e, h1, h2⟩
        · exact (run_suffix h2).trans (run_suffix h1)
        · cases h2
  | n + 1, .piece, l, l', d, _, h => by
    rw [run] at h
    rcases Res.then_some h with ⟨t1, l1, h1, h2⟩ | ⟨e, h1, h2⟩
    · exact (run_suffix h2).trans (run_suffix h1)
    · cases h2
  | n + 1, .signs t, [], l', d, _, h => by
    rw [run] at h; injection h with h; injection h with h; injection h with _ h; subst h; exact List.suffix_rfl
  | n + 1, .signs t, b :: l, l', d, _, h => by
    rw [run] at h
    split at h
    · exact (run_suffix h).trans (List.suffix_cons _ _)
    · injection h with h; injection h with h; injection h with _ h; subst h; exact List.suffix_rfl
  | n + 1, .atom, [], l', d, _, h => by simp [run] at h
  | n + 1, .atom, b :: l, l', d, _, h => by
    rw [run_atom] at h
    split at h
    · cases h
    · split at h
      · split at h
        · rcases Res.then_some h with ⟨t1, l1, h1, h2⟩ | ⟨e, h1, h2⟩
          · have := run_suffix h1
            split at h2
            · cases h2
            · injection h2 with h2; injection h2 with h2; injection h2 with _ h2; subst h2
              exact ((List.suffix_cons _ _).trans this).trans (List.suffix_cons _ _)
          · cases h2
        · cases h
      · split at h
        · exact (classF_suffix h).trans (List.suffix_cons _ _)
        · split at h
          · injection h with h; injection h with h; injection h with _ h; subst h; exact List.suffix_cons _ _
          · split at h
            · split at h
              · cases h
              · injection h with h; injection h with h; injection h with _ h; subst h
                exact (List.suffix_cons _ _).trans (List.suffix_cons _ _)
            · injection h with h; injection h with h; injection h with _ h; subst h; exact List.suffix_cons _ _
theorem count_suffix {l l' : List UInt8} (h : l' <:+ l) : l'.count 40 ≤ l.count 40 := h.sublist.count_le 40

/-! ### a closing bracket or a stroke behind a pattern -/
/-- What may not end here when a stroke follows. -/
def Tk.wide : Tk → Bool
  | .branches => true
  | .strokes _ => true
  | _ => false
/-- With the byte h and anything behind it: the same, or too deep. -/
def Ext (h : UInt8) (n : Nat) (k : Tk) (l l' : List UInt8) (d d' : Nat) (t : Tr) : Prop :=
  (∀ y, run n k (l ++ h :: y) d' = some (.ok (t, l' ++ h :: y))) ∨ (d < d' ∧ 16 < d' + l.count 40 ∧ ∃ c, ∀ y, run n k (l ++ h :: y) d' = some (.error c))

theorem run_ext {h : UInt8} (hh : h = 41 ∨ h = 124) : ∀ {n : Nat} {k : Tk} {l l' : List UInt8} {d d' : Nat} {t : Tr}, run n k l d = some (.ok (t, l')) → d ≤ d' → (h = 41 → 0 < d') → (h = 124 → k.wide = true → l' ≠ []) → Ext h n k l l' d d' t
  | 0, _, _, _, _, _, _, hr, _, _, _ => by simp [run] at hr
  | n + 1, .branches, l, l', d, d', t, hr, hd, h1, h2 => by
    rw [run] at hr
    rcases Res.then_some hr with ⟨t1, l1, g1, g2⟩ | ⟨e, _, g2⟩
    · have sx := count_suffix (run_suffix g1)
      rcases run_ext hh g1 hd h1 (fun _ hw => by cases hw) with a | ⟨a0, a, c, ha⟩
      · rcases run_ext hh g2 hd h1 (fun e _ => h2 e rfl) with b | ⟨b0, b, c, hb⟩
        · exact .inl fun y => by rw [run, a y, Res.then_ok, b y]
        · exact .inr ⟨by omega, by omega, c, fun y => by rw [run, a y, Res.then_ok, hb y]⟩
      · exact .inr ⟨a0, a, c, fun y => by rw [run, ha y, Res.then_error]⟩
    · cases g2
  | n + 1, .strokes t0, l, l', d, d', t, hr, hd, h1, h2 => by
    rw [run] at hr
    split at hr
    · rename_i hc
      have hne : l ≠ [] := by rintro rfl; simp at hc
      have hhd : ∀ y, (l ++ h :: y).head? = l.head? := fun y => by cases l with | nil => exact absurd rfl hne | cons => rfl
      have htl : ∀ y, (l ++ h :: y).tail = l.tail ++ h :: y := fun y => List.tail_append_of_ne_nil hne
      have s0 := count_suffix (List.tail_suffix l)
      rcases Res.then_some hr with ⟨t1, l1, g1, g2⟩ | ⟨e, _, g2⟩
      · have sx := count_suffix (run_suffix g1)
        rcases run_ext hh g1 hd h1 (fun _ hw => by cases hw) with a | ⟨a0, a, c, ha⟩
        · rcases run_ext hh g2 hd h1 (fun e _ => h2 e rfl) with b | ⟨b0, b, c, hb⟩
          · exact .inl fun y => by rw [run, hhd, if_pos hc, htl, a y, Res.then_ok, b y]
          · exact .inr ⟨by omega, by omega, c, fun y => by rw [run, hhd, if_pos hc, htl, a y, Res.then_ok, hb y]⟩
        · exact .inr ⟨by omega, by omega, c, fun y => by rw [run, hhd, if_pos hc, htl, ha y, Res.then_error]⟩
      · cases g2
    · rename_i hc
      injection hr with hr; injection hr with hr; injection hr with e1 e2; subst e1 e2
      refine .inl fun y => ?_
      have hx : ¬ (l ++ h :: y).head? = some 124 := by
        cases l with
        | nil =>
          rcases hh with rfl | rfl
          · simp
          · exact absurd rfl (h2 rfl rfl)
        | cons b l => simpa using hc
      rw [run, if_neg hx]
  | n + 1, .pieces t0, [], l', d, d', t, hr, hd, h1, h2 => by
    rw [run] at hr
    injection hr with hr; injection hr with hr; injection hr with e1 e2; subst e1 e2
    refine .inl fun y => ?_
    rw [List.nil_append, run]
    rcases hh with rfl | rfl
    · rw [if_neg (by have := h1 rfl; omega), if_pos (.inr rfl)]
    · rw [if_neg (by simp), if_pos (.inl rfl)]
  | n + 1, .pieces t0, b :: l, l', d, d', t, hr, hd, h1, h2 => by
    rw [run] at hr
    split at hr
    · cases hr
    · rename_i hc
      have hc' : ¬ (b = 41 ∧ d' = 0) := fun ⟨x, y⟩ => hc ⟨x, by omega⟩
      split at hr
      · rename_i hc2
        injection hr with hr; injection hr with hr; injection hr with e1 e2; subst e1 e2
        exact .inl fun y => by rw [List.cons_append, run, if_neg hc', if_pos hc2]
      · rename_i hc2
        rcases Res.then_some hr with ⟨t1, l1, g1, g2⟩ | ⟨e, _, g2⟩
        · have sx := count_suffix (run_suffix g1)
          rcases run_ext hh g1 hd h1 (fun _ hw => by cases hw) with a | ⟨a0, a, c, ha⟩
          · rcases run_ext hh g2 hd h1 (fun _ hw => by cases hw) with b' | ⟨b0, b', c, hb⟩
            · exact .inl fun y => by rw [List.cons_append, run, if_neg hc', if_neg hc2, ← List.cons_append, a y, Res.then_ok, b' y]
            · exact .inr ⟨by omega, by omega, c, fun y => by rw [List.cons_append, run, if_neg hc', if_neg hc2, ← List.cons_append, a y, Res.then_ok, hb y]⟩
          · exact .inr ⟨a0, a, c, fun y => by rw [List.cons_append, run, if_neg hc', if_neg hc2, ← List.cons_append, ha y, Res.then_error]⟩
        · cases g2
  | n + 1, .piece, l, l', d, d', t, hr, hd, h1, h2 => by
    rw [run] at hr
    rcases Res.then_some hr with ⟨t1, l1, g1, g2⟩ | ⟨e, _, g2⟩
    · have sx := count_suffix (run_suffix g1)
      rcases run_ext hh g1 hd h1 (fun _ hw => by cases hw) with a | ⟨a0, a, c, ha⟩
      · rcases run_ext hh g2 hd h1 (fun _ hw => by cases hw) with b | ⟨b0, b, c, hb⟩
        · exact .inl fun y => by rw [run, a y, Res.then_ok, b y]
        · exact .inr ⟨by omega, by omega, c, fun y => by rw [run, a y, Res.then_ok, hb y]⟩
      · exact .inr ⟨a0, a, c, fun y => by rw [run, ha y, Res.then_error]⟩
    · cases g2
  | n + 1, .signs t0, [], l', d, d', t, hr, hd, h1, h2 => by
    rw [run] at hr
    injection hr with hr; injection hr with hr; injection hr with e1 e2; subst e1 e2
    refine .inl fun y => ?_
    rw [List.nil_append, run]
    rcases hh with rfl | rfl <;> rfl
  | n + 1, .signs t0, b :: l, l', d, d', t, hr, hd, h1, h2 => by
    rw [run] at hr
    split at hr
    · rename_i u hs
      have s0 := count_suffix (List.suffix_cons b l)
      rcases run_ext hh hr hd h1 (fun _ hw => by cases hw) with a | ⟨a0, a, c, ha⟩
      · exact .inl fun y => by rw [List.cons_append, run, hs]; exact a y
      · exact .inr ⟨by omega, by omega, c, fun y => by rw [List.cons_append, run, hs]; exact ha y⟩
    · rename_i hs
      injection hr with hr; injection hr with hr; injection hr with e1 e2; subst e1 e2
      exact .inl fun y => by rw [List.cons_append, run, hs]
  | n + 1, .atom, [], l', d, d', t, hr, hd, h1, h2 => by simp [run] at hr
  | n + 1, .atom, b :: l, l', d, d', t, hr, hd, h1, h2 => by
    rw [run_atom] at hr
    split at hr
    · cases hr
    · rename_i c1
      split at hr
      · rename_i c2
        have hcnt : (b :: l).count 40 = l.count 40 + 1 := by rw [c2]; simp
        split at hr
        · rename_i c3
          by_cases c4 : d' < 16
          · rcases Res.then_some hr with ⟨t1, l1, g1, g2⟩ | ⟨e, _, g2⟩
            · split at g2
              · cases g2
              · rename_i x l3
                injection g2 with g2; injection g2 with g2; injection g2 with e1 e2; subst e1 e2
                rcases run_ext (d' := d' + 1) hh g1 (by omega) (fun _ => by omega) (fun _ _ => by simp) with a | ⟨a0, a, c, ha⟩
                · exact .inl fun y => by rw [List.cons_append, run_atom, if_neg c1, if_pos c2, if_pos c4, a y]; rfl
                · exact .inr ⟨by omega, by omega, c, fun y => by rw [List.cons_append, run_atom, if_neg c1, if_pos c2, if_pos c4, ha y]; rfl⟩
            · cases g2
          · exact .inr ⟨by omega, by omega, 66, fun y => by rw [List.cons_append, run_atom, if_neg c1, if_pos c2, if_neg c4]⟩
        · cases hr
      · rename_i c2
        split at hr
        · rename_i c3
          exact .inl fun y => by rw [List.cons_append, run_atom, if_neg c1, if_neg c2, if_pos c3, classF_ext hr]
        · rename_i c3
          split at hr
          · rename_i c4
            injection hr with hr; injection hr with hr; injection hr with e1 e2; subst e1 e2
            exact .inl fun y => by rw [List.cons_append, run_atom, if_neg c1, if_neg c2, if_neg c3, if_pos c4]
          · rename_i c4
            split at hr
            · rename_i c5
              split at hr
              · cases hr
              · injection hr with hr; injection hr with hr; injection hr with e1 e2; subst e1 e2
                exact .inl fun y => by rw [List.cons_append, run_atom, if_neg c1, if_neg c2, if_neg c3, if_neg c4, if_pos c5]; rfl
            · rename_i c5
              injection hr with hr; injection hr with hr; injection hr with e1 e2; subst e1 e2
              exact .inl fun y => by rw [List.cons_append, run_atom, if_neg c1, if_neg c2, if_neg c3, if_neg c4, if_neg c5]
end Go.Proofs.Ytlmnincllndpnaa
