/- The plain law of layer 5 (symbols): tables of texts, merging, numbers. No program in sight. -/
import Derived.Test.YtpmahljbkgielaaWords
import Derived.Lib.SlicesCompact
import Derived.Shelf.Spec.SearchS
namespace Go.Proofs.Ytpmahljbkgielaa

abbrev Txt := List UInt8
/-- Rising texts. -/
def Asc (t : List Txt) : Prop := t.Pairwise (· < ·)
/-- The table of the texts l. -/
def IsTab (l t : List Txt) : Prop := Asc t ∧ ∀ x, x ∈ t ↔ x ∈ l

theorem txt_tri {a b : Txt} (h : ¬ a < b) (h' : ¬ b < a) : a = b := List.le_antisymm (List.not_lt.1 h') (List.not_lt.1 h)
theorem txt_lt_of {a b c : Txt} (h : a ≤ b) (h' : b < c) : a < c := by
  by_cases e : a < c
  · exact e
  · have := List.not_lt.1 e
    exact absurd h' (List.not_lt.2 (List.le_trans this h))
theorem txt_lt_ne {a b : Txt} (h : a ≤ b) (h' : b ≠ a) : a < b := by
  by_cases e : a < b
  · exact e
  · exact absurd (List.le_antisymm (List.not_lt.1 e) h) h'

theorem asc_one : ∀ {t t' : List Txt}, Asc t → Asc t' → (∀ x, x ∈ t ↔ x ∈ t') → t = t'
  | [], [], _, _, _ => rfl
  | [], b :: s', _, _, h => by have := (h b).2 (by simp); simp at this
  | a :: s, [], _, _, h => by have := (h a).1 (by simp); simp at this
  | a :: s, b :: s', h1, h2, h => by
    have ha := List.pairwise_cons.1 h1
    have hb := List.pairwise_cons.1 h2
    have hab : a = b := by
      apply txt_tri
      · intro hlt
        rcases List.mem_cons.1 ((h a).1 (by simp)) with e | e
        · exact List.lt_irrefl a (by rw [e] at hlt ⊢; exact hlt)
        · exact List.lt_asymm hlt (hb.1 a e)
      · intro hlt
        rcases List.mem_cons.1 ((h b).2 (by simp)) with e | e
        · exact List.lt_irrefl b (by rw [e] at hlt ⊢; exact hlt)
        · exact List.lt_asymm hlt (ha.1 b e)
    subst hab
    rw [asc_one ha.2 hb.2 fun x => ?_]
    constructor
    · intro hx
      rcases List.mem_cons.1 ((h x).1 (by simp [hx])) with e | e
      · subst e; exact absurd (ha.1 x hx) (List.lt_irrefl x)
      · exact e
    · intro hx
      rcases List.mem_cons.1 ((h x).2 (by simp [hx])) with e | e
      · subst e; exact absurd (hb.1 x hx) (List.lt_irrefl x)
      · exact e
theorem IsTab.one {l t t' : List Txt} (h : IsTab l t) (h' : IsTab l t') : t = t' := asc_one h.1 h'.1 fun x => (h.2 x).trans (h'.2 x).symm
theorem IsTab.nil : IsTab [] [] := ⟨List.Pairwise.nil, fun _ => Iff.rfl⟩
theorem IsTab.single (x : Txt) : IsTab [x] [x] := ⟨List.pairwise_singleton _ _, fun _ => Iff.rfl⟩

/-! ### sorted and made single -/
theorem compact_upto (d : Array Txt) (hs : ∀ j, j + 1 < d.size → d[j]! ≤ d[j + 1]!) : ∀ m, m ≤ d.size →
    Asc (Lib.compactUpTo d m) ∧ (∀ x, x ∈ Lib.compactUpTo d m ↔ ∃ j, j < m ∧ d[j]! = x) ∧ (0 < m → ∀ x ∈ Lib.compactUpTo d m, x ≤ d[m - 1]!)
  | 0, _ => ⟨List.Pairwise.nil, fun x => by simp [Lib.compactUpTo], fun h => by omega⟩
  | m + 1, hm => by
    obtain ⟨h1, h2, h3⟩ := compact_upto d hs m (by omega)
    rw [Lib.compactUpTo_succ]
    by_cases hk : m = 0 ∨ d[m]! ≠ d[m - 1]!
    · have hkk : Lib.keeps d m = true := by
        rcases hk with rfl | h
        · simp [Lib.keeps]
        · exact Lib.keeps_pos h
      rw [hkk, if_pos rfl]
      have hlt : ∀ x ∈ Lib.compactUpTo d m, x < d[m]! := by
        intro x hx
        rcases Nat.eq_zero_or_pos m with rfl | hp
        · simp [Lib.compactUpTo] at hx
        · have h4 := h3 hp x hx
          have h5 := hs (m - 1) (by omega)
          rw [show m - 1 + 1 = m by omega] at h5
          exact txt_lt_of h4 (txt_lt_ne h5 (by rcases hk with h | h; omega; exact h))
      refine ⟨?_, fun x => ?_, fun _ x hx => ?_⟩
      · rw [Asc, List.pairwise_append]
        exact ⟨h1, List.pairwise_singleton _ _, fun a ha b hb => by rw [List.mem_singleton.1 hb]; exact hlt a ha⟩
      · rw [List.mem_append, h2, List.mem_singleton]
        constructor
        · rintro (⟨j, hj, e⟩ | e)
          · exact ⟨j, by omega, e⟩
          · exact ⟨m, by omega, e.symm⟩
        · rintro ⟨j, hj, e⟩
          by_cases hjm : j = m
          · subst hjm; exact .inr e.symm
          · exact .inl ⟨j, by omega, e⟩
      · rw [Nat.add_sub_cancel]
        rcases List.mem_append.1 hx with h | h
        · exact List.le_of_lt (hlt x h)
        · rw [List.mem_singleton.1 h]; exact List.le_refl _
    · have hm0 : m ≠ 0 := fun h => hk (.inl h)
      have he : d[m]! = d[m - 1]! := by
        apply Classical.byContradiction
        intro h; exact hk (.inr h)
      rw [Lib.keeps_neg (by omega) he]
      simp only [Bool.false_eq_true, if_false, List.append_nil]
      refine ⟨h1, fun x => ?_, fun _ x hx => ?_⟩
      · rw [h2]
        constructor
        · rintro ⟨j, hj, e⟩
          exact ⟨j, by omega, e⟩
        · rintro ⟨j, hj, e⟩
          by_cases hjm : j = m
          · subst hjm; exact ⟨j - 1, by omega, by rw [← he]; exact e⟩
          · exact ⟨j, by omega, e⟩
      · rw [Nat.add_sub_cancel, he]
        exact h3 (by omega) x hx
theorem tab_sort (l : List Txt) : IsTab l (Lib.compact (l.mergeSort fun x y => decide (x ≤ y))) := by
  obtain ⟨z, hz⟩ : ∃ z, l.mergeSort (fun x y => decide (x ≤ y)) = z := ⟨_, rfl⟩
  have hsorted : z.Pairwise (fun a b => a ≤ b) := by
    have := List.pairwise_mergeSort (le := fun x y : Txt => decide (x ≤ y)) (by intro a b c; simp; exact List.le_trans) (by intro a b; simp; exact List.le_total a b) l
    rw [hz] at this
    simpa using this
  have hmem : ∀ x, x ∈ z ↔ x ∈ l := by intro x; rw [← hz]; exact List.mem_mergeSort
  rw [hz]
  have hget : ∀ j, j < z.length → z.toArray[j]! = z[j]! := fun j _ => by simp
  have hs : ∀ j, j + 1 < z.toArray.size → z.toArray[j]! ≤ z.toArray[j + 1]! := by
    intro j hj
    have hj' : j + 1 < z.length := by simpa using hj
    rw [hget j (by omega), hget (j + 1) hj', getElem!_pos z j (by omega), getElem!_pos z (j + 1) hj']
    exact List.pairwise_iff_getElem.1 hsorted j (j + 1) (by omega) hj' (by omega)
  obtain ⟨h1, h2, _⟩ := compact_upto z.toArray hs z.length (by simp)
  refine ⟨h1, fun x => ?_⟩
  rw [Lib.compact, h2, ← hmem]
  constructor
  · rintro ⟨j, hj, e⟩
    rw [hget j hj, getElem!_pos z j hj] at e
    rw [← e]; exact List.getElem_mem hj
  · intro hx
    obtain ⟨j, hj, e⟩ := List.getElem_of_mem hx
    exact ⟨j, hj, by rw [hget j hj, getElem!_pos z j hj]; exact e⟩

/-! ### merged -/
def mergeT : Nat → List Txt → List Txt → List Txt
  | 0, _, _ => []
  | _ + 1, [], [] => []
  | n + 1, x :: a, [] => x :: mergeT n a []
  | n + 1, [], y :: b => y :: mergeT n [] b
  | n + 1, x :: a, y :: b => if x < y then x :: mergeT n a (y :: b) else if x = y then y :: mergeT n a b else y :: mergeT n (x :: a) b
theorem merge_mem : ∀ (n : Nat) (a b : List Txt), a.length + b.length ≤ n → ∀ z, z ∈ mergeT n a b ↔ z ∈ a ∨ z ∈ b
  | 0, [], [], _, z => by simp [mergeT]
  | 0, _ :: _, _, h, _ => by simp at h
  | 0, [], _ :: _, h, _ => by simp at h
  | n + 1, [], [], _, z => by simp [mergeT]
  | n + 1, x :: a, [], h, z => by
    have ih := merge_mem n a [] (by simp at h ⊢; omega) z
    simp only [mergeT, List.mem_cons, ih, List.not_mem_nil, or_false]
  | n + 1, [], y :: b, h, z => by
    have ih := merge_mem n [] b (by simp at h ⊢; omega) z
    simp only [mergeT, List.mem_cons, ih, List.not_mem_nil, false_or]
  | n + 1, x :: a, y :: b, h, z => by
    simp only [List.length_cons] at h
    rw [mergeT]
    split
    · rw [List.mem_cons, merge_mem n a (y :: b) (by simp; omega) z]
      simp only [List.mem_cons]
      constructor
      · rintro (e | e | e) <;> simp [e]
      · rintro ((e | e) | e) <;> simp [e]
    · split
      · rename_i e
        subst e
        rw [List.mem_cons, merge_mem n a b (by omega) z]
        simp only [List.mem_cons]
        constructor
        · rintro (e | e | e) <;> simp [e]
        · rintro ((e | e) | (e | e)) <;> simp [e]
      · rw [List.mem_cons, merge_mem n (x :: a) b (by simp; omega) z]
        simp only [List.mem_cons]
        constructor
        · rintro (e | (e | e) | e) <;> simp [e]
        · rintro ((e | e) | (e | e)) <;> simp [e]
theorem merge_asc : ∀ (n : Nat) (a b : List Txt), a.length + b.length ≤ n → Asc a → Asc b → Asc (mergeT n a b)
  | 0, [], [], _, _, _ => List.Pairwise.nil
  | 0, _ :: _, _, h, _, _ => by simp at h
  | 0, [], _ :: _, h, _, _ => by simp at h
  | n + 1, [], [], _, _, _ => List.Pairwise.nil
  | n + 1, x :: a, [], h, ha, hb => by
    have ha' := List.pairwise_cons.1 ha
    simp only [List.length_cons, List.length_nil] at h
    refine List.pairwise_cons.2 ⟨fun z hz => ?_, merge_asc n a [] (by simp; omega) ha'.2 hb⟩
    rcases (merge_mem n a [] (by simp; omega) z).1 hz with h | h
    · exact ha'.1 z h
    · simp at h
  | n + 1, [], y :: b, h, ha, hb => by
    have hb' := List.pairwise_cons.1 hb
    simp only [List.length_cons, List.length_nil] at h
    refine List.pairwise_cons.2 ⟨fun z hz => ?_, merge_asc n [] b (by simp; omega) ha hb'.2⟩
    rcases (merge_mem n [] b (by simp; omega) z).1 hz with h | h
    · simp at h
    · exact hb'.1 z h
  | n + 1, x :: a, y :: b, h, ha, hb => by
    have ha' := List.pairwise_cons.1 ha
    have hb' := List.pairwise_cons.1 hb
    simp only [List.length_cons] at h
    rw [mergeT]
    split
    · rename_i hxy
      refine List.pairwise_cons.2 ⟨fun z hz => ?_, merge_asc n a (y :: b) (by simp; omega) ha'.2 hb⟩
      rcases (merge_mem n a (y :: b) (by simp; omega) z).1 hz with h | h
      · exact ha'.1 z h
      · rcases List.mem_cons.1 h with rfl | h
        · exact hxy
        · exact List.lt_trans hxy (hb'.1 z h)
    · rename_i hxy
      split
      · rename_i e
        subst e
        refine List.pairwise_cons.2 ⟨fun z hz => ?_, merge_asc n a b (by omega) ha'.2 hb'.2⟩
        rcases (merge_mem n a b (by omega) z).1 hz with h | h
        · exact ha'.1 z h
        · exact hb'.1 z h
      · rename_i hne
        have hyx : y < x := by
          apply Classical.byContradiction
          intro h; exact hne (txt_tri hxy h)
        refine List.pairwise_cons.2 ⟨fun z hz => ?_, merge_asc n (x :: a) b (by simp; omega) ha hb'.2⟩
        rcases (merge_mem n (x :: a) b (by simp; omega) z).1 hz with h | h
        · rcases List.mem_cons.1 h with rfl | h
          · exact hyx
          · exact List.lt_trans hyx (ha'.1 z h)
        · exact hb'.1 z h
theorem IsTab.merge {l m a b : List Txt} (h1 : IsTab l a) (h2 : IsTab m b) : IsTab (l ++ m) (mergeT (a.length + b.length) a b) :=
  ⟨merge_asc _ a b (Nat.le_refl _) h1.1 h2.1, fun x => by rw [merge_mem _ a b (Nat.le_refl _), List.mem_append, h1.2, h2.2]⟩

/-! ### numbers -/
/-- How many texts are below s. -/
def below (t : List Txt) (s : Txt) : Nat := t.countP fun x => decide (x < s)
theorem below_le (t : List Txt) (s : Txt) : below t s ≤ t.length := List.countP_le_length
theorem below_split : ∀ {t : List Txt} (_ : Asc t) (s : Txt) (i : Nat) (h : i < t.length), (t[i] < s ↔ i < below t s)
  | a :: t, h, s, i, hi => by
    have ha := List.pairwise_cons.1 h
    unfold below
    rw [List.countP_cons]
    by_cases has : a < s
    · simp only [has, decide_true, if_true]
      cases i with
      | zero => simp [has]
      | succ i =>
        have ih := below_split ha.2 s i (by simpa using hi)
        unfold below at ih
        simp only [List.getElem_cons_succ]
        rw [ih]; omega
    · have hz : t.countP (fun x => decide (x < s)) = 0 := by
        rw [List.countP_eq_zero]
        intro x hx
        have := ha.1 x hx
        simp only [decide_eq_true_eq]
        intro hxs
        exact has (List.lt_trans this hxs)
      rw [hz]
      simp only [has, decide_false, Bool.false_eq_true, if_false, Nat.zero_add, Nat.not_lt_zero, iff_false]
      cases i with
      | zero => exact has
      | succ i =>
        simp only [List.getElem_cons_succ]
        intro hxs
        exact has (List.lt_trans (ha.1 _ (List.getElem_mem _)) hxs)
theorem below_at {t : List Txt} (h : Asc t) {s : Txt} {i : Nat} (hi : t[i]? = some s) : below t s = i := by
  obtain ⟨hl, e⟩ := List.getElem?_eq_some_iff.1 hi
  have h1 := below_split h s i hl
  rw [e] at h1
  have h2 : ¬ i < below t s := fun hh => List.lt_irrefl s (h1.2 hh)
  apply Nat.le_antisymm (by
    apply Classical.byContradiction
    intro hgt; exact h2 (by omega)) 
  apply Classical.byContradiction
  intro hlt
  have hb : below t s < i := by omega
  have h3 := below_split h s (below t s) (by omega)
  have h4 : t[below t s] < s := by
    have := List.pairwise_iff_getElem.1 h (below t s) i (by omega) hl hb
    rw [e] at this
    exact this
  have := h3.1 h4
  omega
/-- The number of a text, and the error. -/
def numR (t : List Txt) (s : Txt) : Nat × Nat := if t[below t s]? = some s then (below t s, 0) else (0, 50)
theorem numR_in {t : List Txt} (h : Asc t) {s : Txt} {i : Nat} (hi : t[i]? = some s) : numR t s = (i, 0) := by
  have := below_at h hi
  rw [numR, this, if_pos hi]
theorem numR_out {t : List Txt} {s : Txt} (h : s ∉ t) : numR t s = (0, 50) := by
  rw [numR, if_neg]
  intro e
  exact h (List.mem_of_getElem? e)
theorem numR_err {t : List Txt} (h : Asc t) (s : Txt) : (numR t s).2 = 0 ↔ s ∈ t := by
  by_cases hs : s ∈ t
  · obtain ⟨i, hi, e⟩ := List.getElem_of_mem hs
    rw [numR_in h (i := i) (by rw [List.getElem?_eq_getElem hi, e])]
    simp [hs]
  · rw [numR_out hs]; simp [hs]
theorem bs_below {t : List Txt} (h : Asc t) (s : Txt) (lt : Nat → Bool) (hlt : ∀ i (hi : i < t.length), lt i = decide (t[i] < s)) (hout : ∀ i, t.length ≤ i → lt i = false) : Lib.bsGo lt t.length 0 t.length = below t s := by
  apply Lib.bsGo_spec lt (below t s)
  · intro i hi
    have hl : i < t.length := Nat.lt_of_lt_of_le hi (below_le t s)
    rw [hlt i hl, decide_eq_true_eq]
    exact (below_split h s i hl).2 hi
  · intro i hi
    by_cases hl : i < t.length
    · rw [hlt i hl, decide_eq_false_iff_not]
      intro hh
      have := (below_split h s i hl).1 hh
      omega
    · exact hout i (by omega)
  · omega
  · omega
  · exact below_le t s
end Go.Proofs.Ytpmahljbkgielaa
