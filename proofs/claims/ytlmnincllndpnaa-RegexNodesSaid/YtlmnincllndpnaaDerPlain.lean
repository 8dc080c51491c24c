/- The plain law of layer 7 (deriv): what a tree matches, and what is left of it behind a byte. No program in sight. -/
import Derived.Test.YtlmnincllndpnaaRexPlain
namespace Go.Proofs.Ytlmnincllndpnaa

def null : Tr → Bool
  | .empty => true
  | .cls _ => false
  | .cat a b => null a && null b
  | .alt a b => null a || null b
  | .star _ => true
  | .plus a => null a
  | .quest _ => true

/-- Texts put together of texts that A holds of, none of them empty. -/
inductive Rep (A : List UInt8 → Prop) : List UInt8 → Prop where
  | nil : Rep A []
  | cons (x y : List UInt8) : x ≠ [] → A x → Rep A y → Rep A (x ++ y)

/-- The tree matches the text. -/
def Lg : Tr → List UInt8 → Prop
  | .empty, s => s = []
  | .cls v, s => ∃ b : UInt8, s = [b] ∧ v.testBit b.toNat = true
  | .cat a b, s => ∃ x y, s = x ++ y ∧ Lg a x ∧ Lg b y
  | .alt a b, s => Lg a s ∨ Lg b s
  | .star a, s => Rep (Lg a) s
  | .plus a, s => ∃ x y, s = x ++ y ∧ Lg a x ∧ Rep (Lg a) y
  | .quest a, s => s = [] ∨ Lg a s
def Lc : List Tr → List UInt8 → Prop
  | [], s => s = []
  | t :: c, s => ∃ x y, s = x ++ y ∧ Lg t x ∧ Lc c y

theorem Rep.head {A : List UInt8 → Prop} {b : UInt8} {s : List UInt8} (h : Rep A (b :: s)) : ∃ x y, s = x ++ y ∧ A (b :: x) ∧ Rep A y := by
  generalize hs : b :: s = l at h
  cases h with
  | nil => cases hs
  | cons x y hx ha hr =>
    cases x with
    | nil => exact absurd rfl hx
    | cons c x =>
      simp only [List.cons_append, List.cons.injEq] at hs
      obtain ⟨rfl, rfl⟩ := hs
      exact ⟨x, y, rfl, ha, hr⟩
theorem Rep.more {A : List UInt8 → Prop} {b : UInt8} {x y : List UInt8} (h : A (b :: x)) (hr : Rep A y) : Rep A (b :: (x ++ y)) := by
  have := Rep.cons (b :: x) y (by simp) h hr
  simpa using this

theorem null_iff : ∀ t : Tr, null t = true ↔ Lg t []
  | .empty => by simp [null, Lg]
  | .cls v => by simp [null, Lg]
  | .cat a b => by
    simp only [null, Bool.and_eq_true, null_iff a, null_iff b, Lg]
    constructor
    · rintro ⟨h1, h2⟩; exact ⟨[], [], rfl, h1, h2⟩
    · rintro ⟨x, y, h, h1, h2⟩
      have := List.append_eq_nil_iff.1 h.symm
      rw [this.1] at h1; rw [this.2] at h2
      exact ⟨h1, h2⟩
  | .alt a b => by simp only [null, Bool.or_eq_true, null_iff a, null_iff b, Lg]
  | .star a => by simp only [null, Lg, true_iff]; exact Rep.nil
  | .plus a => by
    simp only [null, null_iff a, Lg]
    constructor
    · intro h; exact ⟨[], [], rfl, h, Rep.nil⟩
    · rintro ⟨x, y, h, h1, _⟩
      have := List.append_eq_nil_iff.1 h.symm
      rw [this.1] at h1
      exact h1
  | .quest a => by simp [null, Lg]

/-- What is left of a tree and of what comes behind it, behind the byte b. -/
def Dv : Tr → List Tr → UInt8 → List (List Tr)
  | .empty, _, _ => []
  | .cls v, c, b => if v.testBit b.toNat then [c] else []
  | .cat x y, c, b => Dv x (y :: c) b ++ if null x then Dv y c b else []
  | .alt x y, c, b => Dv x c b ++ Dv y c b
  | .star x, c, b => Dv x (.star x :: c) b
  | .plus x, c, b => Dv x (.star x :: c) b
  | .quest x, c, b => Dv x c b
def Dc : List Tr → UInt8 → List (List Tr)
  | [], _ => []
  | t :: c, b => Dv t c b ++ if null t then Dc c b else []

theorem exists_append {α : Type} {l l' : List α} {p : α → Prop} : (∃ k ∈ l ++ l', p k) ↔ (∃ k ∈ l, p k) ∨ ∃ k ∈ l', p k := by
  constructor
  · rintro ⟨k, hk, hp⟩
    rcases List.mem_append.1 hk with h | h
    · exact .inl ⟨k, h, hp⟩
    · exact .inr ⟨k, h, hp⟩
  · rintro (⟨k, hk, hp⟩ | ⟨k, hk, hp⟩)
    · exact ⟨k, List.mem_append.2 (.inl hk), hp⟩
    · exact ⟨k, List.mem_append.2 (.inr hk), hp⟩
theorem exists_if {α : Type} {b : Bool} {l : List α} {p : α → Prop} : (∃ k ∈ (if b then l else []), p k) ↔ b = true ∧ ∃ k ∈ l, p k := by
  cases b <;> simp

theorem Dv_iff : ∀ (t : Tr) (c : List Tr) (b : UInt8) (s : List UInt8), (∃ k ∈ Dv t c b, Lc k s) ↔ ∃ x y, s = x ++ y ∧ Lg t (b :: x) ∧ Lc c y
  | .empty, c, b, s => by simp [Dv, Lg]
  | .cls v, c, b, s => by
    rw [Dv, exists_if]
    constructor
    · rintro ⟨h, k, hk, hl⟩
      simp at hk
      subst hk
      exact ⟨[], s, rfl, ⟨b, rfl, h⟩, hl⟩
    · rintro ⟨x, y, rfl, ⟨b', hb, h⟩, hl⟩
      simp only [List.cons.injEq] at hb
      obtain ⟨rfl, rfl⟩ := hb
      exact ⟨h, c, by simp, hl⟩
  | .cat p q, c, b, s => by
    rw [Dv, exists_append, exists_if, Dv_iff p (q :: c) b s, Dv_iff q c b s, null_iff]
    constructor
    · rintro (⟨x, y, rfl, h1, ⟨u, v, rfl, h2, h3⟩⟩ | ⟨h0, x, y, rfl, h1, h2⟩)
      · exact ⟨x ++ u, v, by simp, ⟨b :: x, u, by simp, h1, h2⟩, h3⟩
      · exact ⟨x, y, rfl, ⟨[], b :: x, rfl, h0, h1⟩, h2⟩
    · rintro ⟨x, y, rfl, ⟨u, v, huv, h1, h2⟩, h3⟩
      cases u with
      | nil =>
        simp only [List.nil_append] at huv
        subst huv
        exact .inr ⟨h1, x, y, rfl, h2, h3⟩
      | cons a u =>
        simp only [List.cons_append, List.cons.injEq] at huv
        obtain ⟨rfl, rfl⟩ := huv
        exact .inl ⟨u, v ++ y, by simp, h1, v, y, rfl, h2, h3⟩
  | .alt p q, c, b, s => by
    rw [Dv, exists_append, Dv_iff p c b s, Dv_iff q c b s]
    constructor
    · rintro (⟨x, y, h, h1, h2⟩ | ⟨x, y, h, h1, h2⟩)
      · exact ⟨x, y, h, .inl h1, h2⟩
      · exact ⟨x, y, h, .inr h1, h2⟩
    · rintro ⟨x, y, h, h1 | h1, h2⟩
      · exact .inl ⟨x, y, h, h1, h2⟩
      · exact .inr ⟨x, y, h, h1, h2⟩
  | .star p, c, b, s => by
    rw [Dv, Dv_iff p (.star p :: c) b s]
    constructor
    · rintro ⟨x, y, rfl, h1, ⟨u, v, rfl, h2, h3⟩⟩
      exact ⟨x ++ u, v, by simp, Rep.more h1 h2, h3⟩
    · rintro ⟨x, y, rfl, h1, h2⟩
      obtain ⟨u, v, rfl, h3, h4⟩ := Rep.head h1
      exact ⟨u, v ++ y, by simp, h3, v, y, rfl, h4, h2⟩
  | .plus p, c, b, s => by
    rw [Dv, Dv_iff p (.star p :: c) b s]
    constructor
    · rintro ⟨x, y, rfl, h1, ⟨u, v, rfl, h2, h3⟩⟩
      exact ⟨x ++ u, v, by simp, ⟨b :: x, u, by simp, h1, h2⟩, h3⟩
    · rintro ⟨x, y, rfl, ⟨u, v, huv, h1, h2⟩, h3⟩
      cases u with
      | nil =>
        simp only [List.nil_append] at huv
        subst huv
        obtain ⟨u, v, rfl, h3', h4⟩ := Rep.head h2
        exact ⟨u, v ++ y, by simp, h3', v, y, rfl, h4, h3⟩
      | cons a u =>
        simp only [List.cons_append, List.cons.injEq] at huv
        obtain ⟨rfl, rfl⟩ := huv
        exact ⟨u, v ++ y, by simp, h1, v, y, rfl, h2, h3⟩
  | .quest p, c, b, s => by
    rw [Dv, Dv_iff p c b s]
    simp [Lg]
theorem Dc_iff : ∀ (c : List Tr) (b : UInt8) (s : List UInt8), (∃ k ∈ Dc c b, Lc k s) ↔ Lc c (b :: s)
  | [], b, s => by simp [Dc, Lc]
  | t :: c, b, s => by
    rw [Dc, exists_append, exists_if, Dv_iff, Dc_iff c b s, null_iff, Lc]
    constructor
    · rintro (⟨x, y, rfl, h1, h2⟩ | ⟨h1, h2⟩)
      · exact ⟨b :: x, y, by simp, h1, h2⟩
      · exact ⟨[], b :: s, rfl, h1, h2⟩
    · rintro ⟨x, y, h, h1, h2⟩
      cases x with
      | nil => simp only [List.nil_append] at h; subst h; exact .inr ⟨h1, h2⟩
      | cons a x =>
        simp only [List.cons_append, List.cons.injEq] at h
        obtain ⟨rfl, rfl⟩ := h
        exact .inl ⟨x, y, rfl, h1, h2⟩

def stepD (D : List (List Tr)) (b : UInt8) : List (List Tr) := D.flatMap (Dc · b)
def after (D : List (List Tr)) : List UInt8 → List (List Tr)
  | [] => D
  | b :: s => after (stepD D b) s
theorem after_snoc (D : List (List Tr)) (s : List UInt8) (b : UInt8) : after D (s ++ [b]) = stepD (after D s) b := by
  induction s generalizing D with
  | nil => rfl
  | cons c s ih => exact ih _
theorem after_nil (s : List UInt8) : after [] s = [] := by
  induction s with
  | nil => rfl
  | cons b s ih => exact ih
theorem after_append (D : List (List Tr)) (s u : List UInt8) : after D (s ++ u) = after (after D s) u := by
  induction s generalizing D with
  | nil => rfl
  | cons c s ih => exact ih _
theorem step_iff (D : List (List Tr)) (b : UInt8) (s : List UInt8) : (∃ k ∈ stepD D b, Lc k s) ↔ ∃ k ∈ D, Lc k (b :: s) := by
  unfold stepD
  constructor
  · rintro ⟨k, hk, h⟩
    obtain ⟨c, hc, hk⟩ := List.mem_flatMap.1 hk
    exact ⟨c, hc, (Dc_iff c b s).1 ⟨k, hk, h⟩⟩
  · rintro ⟨c, hc, h⟩
    obtain ⟨k, hk, h⟩ := (Dc_iff c b s).2 h
    exact ⟨k, List.mem_flatMap.2 ⟨c, hc, hk⟩, h⟩
theorem after_iff (s u : List UInt8) : ∀ D : List (List Tr), (∃ k ∈ after D s, Lc k u) ↔ ∃ k ∈ D, Lc k (s ++ u) := by
  induction s with
  | nil => intro D; rfl
  | cons b s ih => intro D; rw [after, ih, step_iff]; rfl
theorem all_null_iff : ∀ c : List Tr, c.all null = true ↔ Lc c []
  | [] => by simp [Lc]
  | t :: c => by
    rw [List.all_cons, Bool.and_eq_true, all_null_iff c, null_iff, Lc]
    constructor
    · rintro ⟨h1, h2⟩; exact ⟨[], [], rfl, h1, h2⟩
    · rintro ⟨x, y, h, h1, h2⟩
      have := List.append_eq_nil_iff.1 h.symm
      rw [this.1] at h1; rw [this.2] at h2
      exact ⟨h1, h2⟩
theorem Lc_one (t : Tr) (s : List UInt8) : Lc [t] s ↔ Lg t s := by
  simp only [Lc]
  constructor
  · rintro ⟨x, y, rfl, h, rfl⟩; simpa using h
  · intro h; exact ⟨s, [], by simp, h, rfl⟩
/-- Match's answer. -/
theorem match_iff (t : Tr) (s : List UInt8) : (∃ k ∈ after [[t]] s, k.all null = true) ↔ Lg t s := by
  simp only [all_null_iff, after_iff, List.append_nil, List.mem_singleton, exists_eq_left, Lc_one]
/-- Begins's answer. -/
def beginsB (t : Tr) (s : List UInt8) : Bool := !(after [[t]] s).isEmpty
open Classical in
noncomputable def matchB (t : Tr) (s : List UInt8) : Bool := decide (Lg t s)
theorem matchB_iff (t : Tr) (s : List UInt8) : matchB t s = true ↔ Lg t s := by unfold matchB; simp
end Go.Proofs.Ytlmnincllndpnaa
