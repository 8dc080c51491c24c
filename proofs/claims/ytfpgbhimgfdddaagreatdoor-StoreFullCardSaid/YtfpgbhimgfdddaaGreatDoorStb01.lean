/- Merged: Words, SymPlain, DskPlain. -/
import Derived.WalkKit
import Derived.Handy
import Derived.Lib.Hide
import Derived.Deep.Draws
import Derived.Deep.AppendLies
import Derived.Lib.SlicesCompact
import Derived.Shelf.Spec.SearchS
set_option linter.unusedVariables false
set_option linter.unusedSimpArgs false
/-! ## Words -/
/- Words for memory that all walks of this family share: what a call may have changed (Kept), a block known whole (Blk), a slice that reads as a list (Elems). No program in sight. -/
namespace Go.Proofs.YtfpgbhimgfdddaaGreatDoor
open Go.RowKit

theorem ret_int {k : IntKind} {a b : Int} (h : a = b) : Ending.returned (.int k a) = .returned (.int k b) := by rw [h]
theorem vi {k : IntKind} {a b : Int} (h : a = b) : Value.int k a = Value.int k b := by rw [h]
theorem vb {a b : Bool} (h : a = b) : Value.bool a = Value.bool b := by rw [h]
theorem ret2 {a b c d : Value} (h : a = c) (h' : b = d) : Ending.returned (.tuple #[a, b]) = .returned (.tuple #[c, d]) := by rw [h, h']
theorem ret3 {a b c d e f : Value} (h : a = d) (h' : b = e) (h'' : c = f) : Ending.returned (.tuple #[a, b, c]) = .returned (.tuple #[d, e, f]) := by rw [h, h', h'']
theorem ret_bool {a b : Bool} (h : a = b) : Ending.returned (.bool a) = .returned (.bool b) := by rw [h]

/-- Below block number B, but for the blocks in ex, the world w' is as w was. -/
structure Kept (B : Nat) (ex : List Nat) (w w' : World) : Prop where
  os : w'.os = w.os
  tape : w'.tape = w.tape
  output : w'.output = w.output
  size : w.heap.size ≤ w'.heap.size
  block : ∀ k, k < B → k ∉ ex → w'.heap[k]? = w.heap[k]?

section
variable {B : Nat} {ex : List Nat} {a w w' : World}
theorem Kept.refl (B : Nat) (ex : List Nat) (w : World) : Kept B ex w w := ⟨rfl, rfl, rfl, Nat.le_refl _, fun _ _ _ => rfl⟩
theorem Kept.trans (h : Kept B ex a w) (k : Kept B ex w w') : Kept B ex a w' :=
  ⟨k.os.trans h.os, k.tape.trans h.tape, k.output.trans h.output, Nat.le_trans h.size k.size, fun i hi hx => (k.block i hi hx).trans (h.block i hi hx)⟩
theorem Kept.mono {B' : Nat} {ex' : List Nat} (h : Kept B ex w w') (hB : B' ≤ B) (hx : ∀ k, k < B' → k ∈ ex → k ∈ ex') : Kept B' ex' w w' :=
  ⟨h.os, h.tape, h.output, h.size, fun k hk hn => h.block k (by omega) (fun hm => hn (hx k hk hm))⟩
theorem Kept.of_below (h : Below B w w') : Kept B ex w w' := ⟨h.os, h.tape, h.output, h.size, fun k hk _ => h.block k hk⟩
theorem Kept.below (h : Kept B ex w w') (hx : ∀ k ∈ ex, B ≤ k) : Below B w w' :=
  ⟨h.os, h.tape, h.output, h.size, fun k hk => h.block k hk (fun hm => by have := hx k hm; omega)⟩
theorem Kept.drew (h : Kept B ex a w) : Kept B ex a w.drew := ⟨h.os, h.tape, h.output, h.size, h.block⟩
theorem Kept.alloc (h : Kept B ex a w) (hB : B ≤ w.heap.size) (o : Obj) : Kept B ex a (w.alloc o) := h.trans (.of_below ((Below.refl _ _).alloc hB o))
theorem Kept.setCell (h : Kept B ex a w) {p : Addr} (hp : p.block ∈ ex ∨ B ≤ p.block) (u : Value) : Kept B ex a (w.setCell p u) :=
  h.trans ⟨rfl, rfl, rfl, by simp [World.setCell], fun k hk hn => Below.heap_setCell _ _ _ _ (by rintro rfl; rcases hp with hp | hp; exact hn hp; omega)⟩
theorem Kept.below_trans (h : Kept B ex a w) (hb : Below w.heap.size w w') (hB : B ≤ w.heap.size) : Kept B ex a w' := h.trans (.of_below (hb.mono hB))
theorem Kept.grown {row : Option Nat} (h : Kept B ex a w) (hg : w.grownBy w' row) (hB : B ≤ w.heap.size) (hr : ∀ k, row = some k → k ∈ ex ∨ B ≤ k) : Kept B ex a w' :=
  h.trans ⟨hg.os, hg.tape, hg.output, hg.size, fun k hk hn => hg.block k (by omega) (fun e => by rcases hr k e.symm with h | h; exact hn h; omega)⟩
theorem Kept.cell (h : Kept B ex w w') {p : Addr} (hp : p.block < B) (hn : p.block ∉ ex) : w'.cell? p = w.cell? p := World.cell?_of_block (w := w) (h.block p.block hp hn)
theorem Kept.frozen (h : Kept B ex w w') {p : Addr} (hp : p.block < B) (hn : p.block ∉ ex) : w'.frozen? p = w.frozen? p := World.frozen?_of_block (w := w) (h.block p.block hp hn)
end

theorem lt_of_cell {w : World} {a : Addr} {v : Value} (h : w.cell? a = some v) : a.block < w.heap.size := by
  rcases Nat.lt_or_ge a.block w.heap.size with hlt | hge
  · exact hlt
  · unfold World.cell? at h; rw [Array.getElem?_eq_none hge] at h; cases h
/-- A cell that was there is there in every later world. -/
theorem later {w w' : World} (hb : Below w.heap.size w w') {a : Addr} {v : Value} (h : w.cell? a = some v) : w'.cell? a = some v := (hb.cell (lt_of_cell h)).trans h
theorem laterF {w w' : World} (hb : Below w.heap.size w w') {a : Addr} {v : Value} {f : Bool} (h : w.cell? a = some v) (hf : w.frozen? a = f) : w'.frozen? a = f := (hb.frozen (lt_of_cell h)).trans hf
/-- Two steps of growing, one behind the other. -/
theorem then_ {w w1 w2 : World} (h : Below w.heap.size w w1) (h' : Below w1.heap.size w1 w2) : Below w.heap.size w w2 := h.trans (h'.mono h.size)
theorem Kept.then_ {w w1 w2 : World} {ex : List Nat} (h : Kept w.heap.size ex w w1) (h' : Below w1.heap.size w1 w2) : Kept w.heap.size ex w w2 := h.trans (.of_below (h'.mono h.size))
theorem Kept.later {w w' : World} {ex : List Nat} (hb : Kept w.heap.size ex w w') {a : Addr} {v : Value} (h : w.cell? a = some v) (hn : a.block ∉ ex) : w'.cell? a = some v := (hb.cell (lt_of_cell h) hn).trans h
theorem Kept.laterF {w w' : World} {ex : List Nat} (hb : Kept w.heap.size ex w w') {a : Addr} {v : Value} {f : Bool} (h : w.cell? a = some v) (hf : w.frozen? a = f) (hn : a.block ∉ ex) : w'.frozen? a = f := (hb.frozen (lt_of_cell h) hn).trans hf

/-- Block g is just the cells cs of element type t, none frozen. -/
def Blk (w : World) (g : Nat) (t : TypeId) (cs : Array Value) : Prop := w.heap[g]? = some (.cells cs t (0, 0))

section
variable {w w' : World} {g : Nat} {t : TypeId} {cs : Array Value}
theorem Blk.lt (h : Blk w g t cs) : g < w.heap.size := by
  rcases Nat.lt_or_ge g w.heap.size with hlt | hge
  · exact hlt
  · unfold Blk at h; rw [Array.getElem?_eq_none hge] at h; cases h
theorem Blk.cell (h : Blk w g t cs) (i : Nat) : w.cell? ⟨g, i, none⟩ = cs[i]? := cell_of_row w g i cs t (0, 0) h
theorem Blk.frozen (h : Blk w g t cs) (i : Nat) : w.frozen? ⟨g, i, none⟩ = false := by
  unfold Blk at h
  simp [World.frozen?, h]
theorem Blk.new (w : World) (t : TypeId) (cs : Array Value) : Blk (w.alloc (.cells cs t)) w.heap.size t cs := heap_alloc_new w _
theorem Blk.newAt (h : g = w.heap.size) : Blk (w.alloc (.cells cs t)) g t cs := by subst h; exact Blk.new w t cs
theorem Blk.drew (h : Blk w g t cs) : Blk w.drew g t cs := h
theorem Blk.drewN (h : Blk w g t cs) (n : Nat) : Blk (w.drewN n) g t cs := h
theorem Blk.alloc (h : Blk w g t cs) (o : Obj) : Blk (w.alloc o) g t cs := (Below.heap_alloc w o g h.lt).trans h
theorem Blk.set_ (h : Blk w g t cs) (i : Nat) (u : Value) : Blk (w.setCell ⟨g, i, none⟩ u) g t (cs.setIfInBounds i u) := by
  unfold Blk at h ⊢
  simp [World.setCell, Array.getElem?_modify, h]
theorem Blk.far (h : Blk w g t cs) {p : Addr} (hp : g ≠ p.block) (u : Value) : Blk (w.setCell p u) g t cs := (Below.heap_setCell w p u g hp).trans h
theorem Blk.below {B : Nat} (h : Blk w g t cs) (hb : Below B w w') (hg : g < B) : Blk w' g t cs := (hb.block g hg).trans h
theorem Blk.kept {B : Nat} {ex : List Nat} (h : Blk w g t cs) (hb : Kept B ex w w') (hg : g < B) (hn : g ∉ ex) : Blk w' g t cs := (hb.block g hg hn).trans h
theorem Blk.grown {row : Option Nat} (h : Blk w g t cs) (hb : w.grownBy w' row) (hg : some g ≠ row) : Blk w' g t cs := (hb.block g h.lt hg).trans h
theorem Blk.ne_ {g' : Nat} {t' : TypeId} {cs' : Array Value} (h : Blk w g t cs) (h' : Blk w g' t' cs') (hne : t ≠ t') : g ≠ g' := by
  rintro rfl
  unfold Blk at h h'
  rw [h] at h'
  injection h' with h'
  injection h' with _ ht
  exact hne ht
end

theorem news_of_blk {w : World} {g : Nat} {t : TypeId} {l : List Value} (h : Blk w g t l.toArray) : ∀ j u, l[j]? = some u → w.cell? ((⟨g, 0, none⟩ : Addr).add j) = some u := by
  intro j u hu
  have e : (⟨g, 0, none⟩ : Addr).add j = ⟨g, j, none⟩ := by unfold Addr.add; split <;> simp_all
  rw [e, h.cell]
  simpa using hu

/-- An int as an element of one cell. -/
def I1 (i : Int) : List Value := [.int .i64 i]
theorem flatMap_I1 (l : List Int) : l.map (Value.int .i64) = l.flatMap I1 := by
  induction l with
  | nil => rfl
  | cons x l ih => simp [I1, ih]

/-- The slice '.slice A n _' lies below block B and reads as the list xs, each element laid out in sz cells by enc. -/
def Elems {α : Type} (w : World) (B sz : Nat) (enc : α → List Value) (A : Option Addr) (n : Nat) (xs : List α) : Prop :=
  xs.length = n ∧ (0 < n → ∃ b off, A = some ⟨b, off, none⟩ ∧ b < B ∧ ∀ i x, xs[i]? = some x → ∀ j v, (enc x)[j]? = some v → w.cell? ⟨b, off + i * sz + j, none⟩ = some v)

section
variable {α : Type} {w w' : World} {B B' sz n : Nat} {enc : α → List Value} {A : Option Addr} {xs : List α}
theorem Elems.keep (h : Elems w B sz enc A n xs) (hk : ∀ p : Addr, p.block < B → w'.cell? p = w.cell? p) : Elems w' B sz enc A n xs :=
  ⟨h.1, fun hn => by
    obtain ⟨b, off, e, hb, hc⟩ := h.2 hn
    exact ⟨b, off, e, hb, fun i x hx j v hv => (hk _ hb).trans (hc i x hx j v hv)⟩⟩
theorem Elems.keepAt (h : Elems w B sz enc A n xs) (hk : ∀ p : Addr, p.block < B → A.map (·.block) = some p.block → w'.cell? p = w.cell? p) : Elems w' B sz enc A n xs :=
  ⟨h.1, fun hn => by
    obtain ⟨b, off, e, hb, hc⟩ := h.2 hn
    exact ⟨b, off, e, hb, fun i x hx j v hv => (hk _ hb (by rw [e]; rfl)).trans (hc i x hx j v hv)⟩⟩
theorem Elems.more (h : Elems w B sz enc A n xs) (hB : B ≤ B') : Elems w B' sz enc A n xs :=
  ⟨h.1, fun hn => by
    obtain ⟨b, off, e, hb, hc⟩ := h.2 hn
    exact ⟨b, off, e, by omega, hc⟩⟩
theorem Elems.below (h : Elems w B sz enc A n xs) (hb : Below B w w') : Elems w' B sz enc A n xs := h.keep fun _ hp => hb.cell hp
theorem Elems.kept {ex : List Nat} (h : Elems w B sz enc A n xs) (hb : Kept B ex w w') (hx : ∀ k ∈ ex, B ≤ k) : Elems w' B sz enc A n xs := h.below (hb.below hx)
theorem Elems.kept' {C : Nat} {ex : List Nat} (h : Elems w B sz enc A n xs) (hb : Kept C ex w w') (hB : B ≤ C) (hx : ∀ k ∈ ex, B ≤ k) : Elems w' B sz enc A n xs :=
  h.keep fun p hp => hb.cell (by omega) (fun hm => by have := hx _ hm; omega)
theorem Elems.nil_ : Elems w B sz enc A 0 [] := ⟨rfl, fun h => absurd h (by omega)⟩
theorem Elems.of_own {base : Nat} {e : TypeId} {v : Value} {ys : List Value} (hsz : ∀ x ∈ xs, (enc x).length = sz) (hys : ys = xs.flatMap enc) (h : w.ownsRow base e sz v n ys) (hn : xs.length = n) :
    ∃ A c, v = .slice A n c ∧ Elems w w.heap.size sz enc A n xs ∧ (∀ a, A = some a → base ≤ a.block) ∧ n ≤ c := by
  rcases h.2 with ⟨rfl, rfl⟩ | ⟨g, cap, cur, rfl, hb, hh, hnc, _, hsize, htk⟩
  · exact ⟨none, 0, rfl, ⟨hn, fun h => absurd h (by omega)⟩, (fun a h => by cases h), Nat.le_refl _⟩
  · refine ⟨_, cap, rfl, ⟨hn, fun _ => ⟨g, 0, rfl, ?_, fun i x hx j v hv => ?_⟩⟩, (fun a h => by injection h with h; subst h; exact hb), hnc⟩
    · rcases Nat.lt_or_ge g w.heap.size with hlt | hge
      · exact hlt
      · rw [Array.getElem?_eq_none hge] at hh; cases hh
    · have hcell : w.cell? ⟨g, 0 + i * sz + j, none⟩ = cur[0 + i * sz + j]? := cell_of_row w g _ cur e (0, 0) hh
      rw [hcell]
      have key : ∀ (l : List α) (i : Nat), (∀ x ∈ l, (enc x).length = sz) → l[i]? = some x → (l.flatMap enc)[i * sz + j]? = some v := by
        intro l
        induction l with
        | nil => intro i _ h; simp at h
        | cons y l ih =>
          intro i hl hi
          cases i with
          | zero =>
            simp only [List.getElem?_cons_zero, Option.some.injEq] at hi
            subst hi
            have hj : j < (enc y).length := (List.getElem?_eq_some_iff.1 hv).1
            rw [List.flatMap_cons, List.getElem?_append_left (by omega)]
            simpa using hv
          | succ i =>
            rw [List.flatMap_cons, List.getElem?_append_right (by rw [hl y (by simp), Nat.succ_mul]; omega), hl y (by simp), show (i + 1) * sz + j - sz = i * sz + j by rw [Nat.succ_mul]; omega]
            exact ih i (fun z hz => hl z (by simp [hz])) (by simpa using hi)
      have h1 := key xs i hsz hx
      rw [← hys, ← htk, List.getElem?_take] at h1
      split at h1
      · simpa using h1
      · cases h1
/-- A slice cut at its head: 's[k:]'. -/
theorem Elems.cut (h : Elems w B sz enc A n xs) {k cap : Nat} (hk : k ≤ n) (hc : n ≤ cap) :
    Elems w B sz enc (if cap = k then A else A.map (·.add (k * sz))) (n - k) (xs.drop k) := by
  refine ⟨by rw [List.length_drop, h.1], fun hn => ?_⟩
  obtain ⟨b, off, rfl, hb, hcell⟩ := h.2 (by omega)
  rw [if_neg (by omega)]
  refine ⟨b, off + k * sz, by simp only [Option.map_some, Addr.add]; split <;> simp_all, hb, fun i x hx j v hv => ?_⟩
  rw [List.getElem?_drop] at hx
  have := hcell (k + i) x hx j v hv
  rw [Nat.add_mul] at this
  rw [← this]
  congr 2
  omega
theorem Elems.len (h : Elems w B sz enc A n xs) : xs.length = n := h.1
end
end Go.Proofs.YtfpgbhimgfdddaaGreatDoor

/-! ## SymPlain -/
/- The plain law of layer 5 (symbols): tables of texts, merging, numbers. No program in sight. -/
namespace Go.Proofs.YtfpgbhimgfdddaaGreatDoor

abbrev Txt := List UInt8
/-- Rising texts. -/
def Asc (t : List Txt) : Prop := t.Pairwise (· < ·)
/-- The table of the texts l. -/
def IsTab (l t : List Txt) : Prop := Asc t ∧ ∀ x, x ∈ t ↔ x ∈ l

theorem txt_tri {a b : Txt} (h : ¬ a < b) (h' : ¬ b < a) : a = b := List.le_antisymm (List.not_lt.1 h') (List.not_lt.1 h)
theorem txt_lt_of {a b c : Txt} (h : a ≤ b) (h' : b < c) : a < c := by
  by_cases e : a < c
  · exact e
  · have := List.not_lt.1 e
    exact absurd h' (List.not_lt.2 (List.le_trans this h))
theorem txt_lt_ne {a b : Txt} (h : a ≤ b) (h' : b ≠ a) : a < b := by
  by_cases e : a < b
  · exact e
  · exact absurd (List.le_antisymm (List.not_lt.1 e) h) h'

theorem asc_one : ∀ {t t' : List Txt}, Asc t → Asc t' → (∀ x, x ∈ t ↔ x ∈ t') → t = t'
  | [], [], _, _, _ => rfl
  | [], b :: s', _, _, h => by have := (h b).2 (by simp); simp at this
  | a :: s, [], _, _, h => by have := (h a).1 (by simp); simp at this
  | a :: s, b :: s', h1, h2, h => by
    have ha := List.pairwise_cons.1 h1
    have hb := List.pairwise_cons.1 h2
    have hab : a = b := by
      apply txt_tri
      · intro hlt
        rcases List.mem_cons.1 ((h a).1 (by simp)) with e | e
        · exact List.lt_irrefl a (by rw [e] at hlt ⊢; exact hlt)
        · exact List.lt_asymm hlt (hb.1 a e)
      · intro hlt
        rcases List.mem_cons.1 ((h b).2 (by simp)) with e | e
        · exact List.lt_irrefl b (by rw [e] at hlt ⊢; exact hlt)
        · exact List.lt_asymm hlt (ha.1 b e)
    subst hab
    rw [asc_one ha.2 hb.2 fun x => ?_]
    constructor
    · intro hx
      rcases List.mem_cons.1 ((h x).1 (by simp [hx])) with e | e
      · subst e; exact absurd (ha.1 x hx) (List.lt_irrefl x)
      · exact e
    · intro hx
      rcases List.mem_cons.1 ((h x).2 (by simp [hx])) with e | e
      · subst e; exact absurd (hb.1 x hx) (List.lt_irrefl x)
      · exact e
theorem IsTab.one {l t t' : List Txt} (h : IsTab l t) (h' : IsTab l t') : t = t' := asc_one h.1 h'.1 fun x => (h.2 x).trans (h'.2 x).symm
theorem IsTab.nil : IsTab [] [] := ⟨List.Pairwise.nil, fun _ => Iff.rfl⟩
theorem IsTab.single (x : Txt) : IsTab [x] [x] := ⟨List.pairwise_singleton _ _, fun _ => Iff.rfl⟩

/-! ### sorted and made single -/
theorem compact_upto (d : Array Txt) (hs : ∀ j, j + 1 < d.size → d[j]! ≤ d[j + 1]!) : ∀ m, m ≤ d.size →
    Asc (Lib.compactUpTo d m) ∧ (∀ x, x ∈ Lib.compactUpTo d m ↔ ∃ j, j < m ∧ d[j]! = x) ∧ (0 < m → ∀ x ∈ Lib.compactUpTo d m, x ≤ d[m - 1]!)
  | 0, _ => ⟨List.Pairwise.nil, fun x => by simp [Lib.compactUpTo], fun h => by omega⟩
  | m + 1, hm => by
    obtain ⟨h1, h2, h3⟩ := compact_upto d hs m (by omega)
    rw [Lib.compactUpTo_succ]
    by_cases hk : m = 0 ∨ d[m]! ≠ d[m - 1]!
    · have hkk : Lib.keeps d m = true := by
        rcases hk with rfl | h
        · simp [Lib.keeps]
        · exact Lib.keeps_pos h
      rw [hkk, if_pos rfl]
      have hlt : ∀ x ∈ Lib.compactUpTo d m, x < d[m]! := by
        intro x hx
        rcases Nat.eq_zero_or_pos m with rfl | hp
        · simp [Lib.compactUpTo] at hx
        · have h4 := h3 hp x hx
          have h5 := hs (m - 1) (by omega)
          rw [show m - 1 + 1 = m by omega] at h5
          exact txt_lt_of h4 (txt_lt_ne h5 (by rcases hk with h | h; omega; exact h))
      refine ⟨?_, fun x => ?_, fun _ x hx => ?_⟩
      · rw [Asc, List.pairwise_append]
        exact ⟨h1, List.pairwise_singleton _ _, fun a ha b hb => by rw [List.mem_singleton.1 hb]; exact hlt a ha⟩
      · rw [List.mem_append, h2, List.mem_singleton]
        constructor
        · rintro (⟨j, hj, e⟩ | e)
          · exact ⟨j, by omega, e⟩
          · exact ⟨m, by omega, e.symm⟩
        · rintro ⟨j, hj, e⟩
          by_cases hjm : j = m
          · subst hjm; exact .inr e.symm
          · exact .inl ⟨j, by omega, e⟩
      · rw [Nat.add_sub_cancel]
        rcases List.mem_append.1 hx with h | h
        · exact List.le_of_lt (hlt x h)
        · rw [List.mem_singleton.1 h]; exact List.le_refl _
    · have hm0 : m ≠ 0 := fun h => hk (.inl h)
      have he : d[m]! = d[m - 1]! := by
        apply Classical.byContradiction
        intro h; exact hk (.inr h)
      rw [Lib.keeps_neg (by omega) he]
      simp only [Bool.false_eq_true, if_false, List.append_nil]
      refine ⟨h1, fun x => ?_, fun _ x hx => ?_⟩
      · rw [h2]
        constructor
        · rintro ⟨j, hj, e⟩
          exact ⟨j, by omega, e⟩
        · rintro ⟨j, hj, e⟩
          by_cases hjm : j = m
          · subst hjm; exact ⟨j - 1, by omega, by rw [← he]; exact e⟩
          · exact ⟨j, by omega, e⟩
      · rw [Nat.add_sub_cancel, he]
        exact h3 (by omega) x hx
theorem tab_sort (l : List Txt) : IsTab l (Lib.compact (l.mergeSort fun x y => decide (x ≤ y))) := by
  obtain ⟨z, hz⟩ : ∃ z, l.mergeSort (fun x y => decide (x ≤ y)) = z := ⟨_, rfl⟩
  have hsorted : z.Pairwise (fun a b => a ≤ b) := by
    have := List.pairwise_mergeSort (le := fun x y : Txt => decide (x ≤ y)) (by intro a b c; simp; exact List.le_trans) (by intro a b; simp; exact List.le_total a b) l
    rw [hz] at this
    simpa using this
  have hmem : ∀ x, x ∈ z ↔ x ∈ l := by intro x; rw [← hz]; exact List.mem_mergeSort
  rw [hz]
  have hget : ∀ j, j < z.length → z.toArray[j]! = z[j]! := fun j _ => by simp
  have hs : ∀ j, j + 1 < z.toArray.size → z.toArray[j]! ≤ z.toArray[j + 1]! := by
    intro j hj
    have hj' : j + 1 < z.length := by simpa using hj
    rw [hget j (by omega), hget (j + 1) hj', getElem!_pos z j (by omega), getElem!_pos z (j + 1) hj']
    exact List.pairwise_iff_getElem.1 hsorted j (j + 1) (by omega) hj' (by omega)
  obtain ⟨h1, h2, _⟩ := compact_upto z.toArray hs z.length (by simp)
  refine ⟨h1, fun x => ?_⟩
  rw [Lib.compact, h2, ← hmem]
  constructor
  · rintro ⟨j, hj, e⟩
    rw [hget j hj, getElem!_pos z j hj] at e
    rw [← e]; exact List.getElem_mem hj
  · intro hx
    obtain ⟨j, hj, e⟩ := List.getElem_of_mem hx
    exact ⟨j, hj, by rw [hget j hj, getElem!_pos z j hj]; exact e⟩

/-! ### merged -/
def mergeT : Nat → List Txt → List Txt → List Txt
  | 0, _, _ => []
  | _ + 1, [], [] => []
  | n + 1, x :: a, [] => x :: mergeT n a []
  | n + 1, [], y :: b => y :: mergeT n [] b
  | n + 1, x :: a, y :: b => if x < y then x :: mergeT n a (y :: b) else if x = y then y :: mergeT n a b else y :: mergeT n (x :: a) b
theorem merge_mem : ∀ (n : Nat) (a b : List Txt), a.length + b.length ≤ n → ∀ z, z ∈ mergeT n a b ↔ z ∈ a ∨ z ∈ b
  | 0, [], [], _, z => by simp [mergeT]
  | 0, _ :: _, _, h, _ => by simp at h
  | 0, [], _ :: _, h, _ => by simp at h
  | n + 1, [], [], _, z => by simp [mergeT]
  | n + 1, x :: a, [], h, z => by
    have ih := merge_mem n a [] (by simp at h ⊢; omega) z
    simp only [mergeT, List.mem_cons, ih, List.not_mem_nil, or_false]
  | n + 1, [], y :: b, h, z => by
    have ih := merge_mem n [] b (by simp at h ⊢; omega) z
    simp only [mergeT, List.mem_cons, ih, List.not_mem_nil, false_or]
  | n + 1, x :: a, y :: b, h, z => by
    simp only [List.length_cons] at h
    rw [mergeT]
    split
    · rw [List.mem_cons, merge_mem n a (y :: b) (by simp; omega) z]
      simp only [List.mem_cons]
      constructor
      · rintro (e | e | e) <;> simp [e]
      · rintro ((e | e) | e) <;> simp [e]
    · split
      · rename_i e
        subst e
        rw [List.mem_cons, merge_mem n a b (by omega) z]
        simp only [List.mem_cons]
        constructor
        · rintro (e | e | e) <;> simp [e]
        · rintro ((e | e) | (e | e)) <;> simp [e]
      · rw [List.mem_cons, merge_mem n (x :: a) b (by simp; omega) z]
        simp only [List.mem_cons]
        constructor
        · rintro (e | (e | e) | e) <;> simp [e]
        · rintro ((e | e) | (e | e)) <;> simp [e]
theorem merge_asc : ∀ (n : Nat) (a b : List Txt), a.length + b.length ≤ n → Asc a → Asc b → Asc (mergeT n a b)
  | 0, [], [], _, _, _ => List.Pairwise.nil
  | 0, _ :: _, _, h, _, _ => by simp at h
  | 0, [], _ :: _, h, _, _ => by simp at h
  | n + 1, [], [], _, _, _ => List.Pairwise.nil
  | n + 1, x :: a, [], h, ha, hb => by
    have ha' := List.pairwise_cons.1 ha
    simp only [List.length_cons, List.length_nil] at h
    refine List.pairwise_cons.2 ⟨fun z hz => ?_, merge_asc n a [] (by simp; omega) ha'.2 hb⟩
    rcases (merge_mem n a [] (by simp; omega) z).1 hz with h | h
    · exact ha'.1 z h
    · simp at h
  | n + 1, [], y :: b, h, ha, hb => by
    have hb' := List.pairwise_cons.1 hb
    simp only [List.length_cons, List.length_nil] at h
    refine List.pairwise_cons.2 ⟨fun z hz => ?_, merge_asc n [] b (by simp; omega) ha hb'.2⟩
    rcases (merge_mem n [] b (by simp; omega) z).1 hz with h | h
    · simp at h
    · exact hb'.1 z h
  | n + 1, x :: a, y :: b, h, ha, hb => by
    have ha' := List.pairwise_cons.1 ha
    have hb' := List.pairwise_cons.1 hb
    simp only [List.length_cons] at h
    rw [mergeT]
    split
    · rename_i hxy
      refine List.pairwise_cons.2 ⟨fun z hz => ?_, merge_asc n a (y :: b) (by simp; omega) ha'.2 hb⟩
      rcases (merge_mem n a (y :: b) (by simp; omega) z).1 hz with h | h
      · exact ha'.1 z h
      · rcases List.mem_cons.1 h with rfl | h
        · exact hxy
        · exact List.lt_trans hxy (hb'.1 z h)
    · rename_i hxy
      split
      · rename_i e
        subst e
        refine List.pairwise_cons.2 ⟨fun z hz => ?_, merge_asc n a b (by omega) ha'.2 hb'.2⟩
        rcases (merge_mem n a b (by omega) z).1 hz with h | h
        · exact ha'.1 z h
        · exact hb'.1 z h
      · rename_i hne
        have hyx : y < x := by
          apply Classical.byContradiction
          intro h; exact hne (txt_tri hxy h)
        refine List.pairwise_cons.2 ⟨fun z hz => ?_, merge_asc n (x :: a) b (by simp; omega) ha hb'.2⟩
        rcases (merge_mem n (x :: a) b (by simp; omega) z).1 hz with h | h
        · rcases List.mem_cons.1 h with rfl | h
          · exact hyx
          · exact List.lt_trans hyx (ha'.1 z h)
        · exact hb'.1 z h
theorem IsTab.merge {l m a b : List Txt} (h1 : IsTab l a) (h2 : IsTab m b) : IsTab (l ++ m) (mergeT (a.length + b.length) a b) :=
  ⟨merge_asc _ a b (Nat.le_refl _) h1.1 h2.1, fun x => by rw [merge_mem _ a b (Nat.le_refl _), List.mem_append, h1.2, h2.2]⟩

/-! ### numbers -/
/-- How many texts are below s. -/
def below (t : List Txt) (s : Txt) : Nat := t.countP fun x => decide (x < s)
theorem below_le (t : List Txt) (s : Txt) : below t s ≤ t.length := List.countP_le_length
theorem below_split : ∀ {t : List Txt} (_ : Asc t) (s : Txt) (i : Nat) (h : i < t.length), (t[i] < s ↔ i < below t s)
  | a :: t, h, s, i, hi => by
    have ha := List.pairwise_cons.1 h
    unfold below
    rw [List.countP_cons]
    by_cases has : a < s
    · simp only [has, decide_true, if_true]
      cases i with
      | zero => simp [has]
      | succ i =>
        have ih := below_split ha.2 s i (by simpa using hi)
        unfold below at ih
        simp only [List.getElem_cons_succ]
        rw [ih]; omega
    · have hz : t.countP (fun x => decide (x < s)) = 0 := by
        rw [List.countP_eq_zero]
        intro x hx
        have := ha.1 x hx
        simp only [decide_eq_true_eq]
        intro hxs
        exact has (List.lt_trans this hxs)
      rw [hz]
      simp only [has, decide_false, Bool.false_eq_true, if_false, Nat.zero_add, Nat.not_lt_zero, iff_false]
      cases i with
      | zero => exact has
      | succ i =>
        simp only [List.getElem_cons_succ]
        intro hxs
        exact has (List.lt_trans (ha.1 _ (List.getElem_mem _)) hxs)
theorem below_at {t : List Txt} (h : Asc t) {s : Txt} {i : Nat} (hi : t[i]? = some s) : below t s = i := by
  obtain ⟨hl, e⟩ := List.getElem?_eq_some_iff.1 hi
  have h1 := below_split h s i hl
  rw [e] at h1
  have h2 : ¬ i < below t s := fun hh => List.lt_irrefl s (h1.2 hh)
  apply Nat.le_antisymm (by
    apply Classical.byContradiction
    intro hgt; exact h2 (by omega)) 
  apply Classical.byContradiction
  intro hlt
  have hb : below t s < i := by omega
  have h3 := below_split h s (below t s) (by omega)
  have h4 : t[below t s] < s := by
    have := List.pairwise_iff_getElem.1 h (below t s) i (by omega) hl hb
    rw [e] at this
    exact this
  have := h3.1 h4
  omega
/-- The number of a text, and the error. -/
def numR (t : List Txt) (s : Txt) : Nat × Nat := if t[below t s]? = some s then (below t s, 0) else (0, 50)
theorem numR_in {t : List Txt} (h : Asc t) {s : Txt} {i : Nat} (hi : t[i]? = some s) : numR t s = (i, 0) := by
  have := below_at h hi
  rw [numR, this, if_pos hi]
theorem numR_out {t : List Txt} {s : Txt} (h : s ∉ t) : numR t s = (0, 50) := by
  rw [numR, if_neg]
  intro e
  exact h (List.mem_of_getElem? e)
theorem numR_err {t : List Txt} (h : Asc t) (s : Txt) : (numR t s).2 = 0 ↔ s ∈ t := by
  by_cases hs : s ∈ t
  · obtain ⟨i, hi, e⟩ := List.getElem_of_mem hs
    rw [numR_in h (i := i) (by rw [List.getElem?_eq_getElem hi, e])]
    simp [hs]
  · rw [numR_out hs]; simp [hs]
theorem bs_below {t : List Txt} (h : Asc t) (s : Txt) (lt : Nat → Bool) (hlt : ∀ i (hi : i < t.length), lt i = decide (t[i] < s)) (hout : ∀ i, t.length ≤ i → lt i = false) : Lib.bsGo lt t.length 0 t.length = below t s := by
  apply Lib.bsGo_spec lt (below t s)
  · intro i hi
    have hl : i < t.length := Nat.lt_of_lt_of_le hi (below_le t s)
    rw [hlt i hl, decide_eq_true_eq]
    exact (below_split h s i hl).2 hi
  · intro i hi
    by_cases hl : i < t.length
    · rw [hlt i hl, decide_eq_false_iff_not]
      intro hh
      have := (below_split h s i hl).1 hh
      omega
    · exact hout i (by omega)
  · omega
  · omega
  · exact below_le t s
end Go.Proofs.YtfpgbhimgfdddaaGreatDoor

/-! ## DskPlain -/
/- The plain law of layer 3 (disk): what each call answers and leaves. No program in sight. -/
namespace Go.Proofs.YtfpgbhimgfdddaaGreatDoor

/-! ### names and paths -/
def nameC (b : UInt8) : Bool := (decide (97 ≤ b.toNat) && decide (b.toNat ≤ 122)) || (decide (48 ≤ b.toNat) && decide (b.toNat ≤ 57)) || b.toNat == 46 || b.toNat == 45
def nameB (s : Txt) : Bool := s.all nameC && decide (1 ≤ s.length) && decide (s.length ≤ 32)
/-- The place of the first slash. -/
def slashAt : Txt → Option Nat
  | [] => none
  | b :: l => if b = 47 then some 0 else (slashAt l).map (· + 1)
def pathB (s : Txt) : Bool := match slashAt s with | none => nameB s | some k => nameB (s.take k) && nameB (s.drop (k + 1))
def insideB (p d : Txt) : Bool := (d ++ [47]).isPrefixOf p

/-! ### things -/
structure Th where
  path : Txt
  dir : Bool
  at_ : Nat
instance : Inhabited Th := ⟨⟨[], false, 0⟩⟩
structure Ch where
  text : Txt
  cut : Bool
  size : Nat
instance : Inhabited Ch := ⟨⟨[], false, 0⟩⟩
structure By where
  now : Txt
  safe : Txt
  steps : List Ch
instance : Inhabited By := ⟨⟨[], [], []⟩⟩
inductive St where
  | mkdir (a : Txt)
  | create (a : Txt) (i : Nat)
  | rename (a b : Txt)
  | remove (a : Txt)
structure Ds where
  things : List Th
  safe : List Th
  steps : List St
  files : List By
  cap : Nat
  off : Bool
  await : Nat

def findT (l : List Th) (p : Txt) : Option Th := l.find? fun x => x.path == p
/-- 0: no such thing, 1: a file, 2: a directory. -/
def isT (l : List Th) (p : Txt) : Nat := match findT l p with | none => 0 | some x => if x.dir then 2 else 1
def parentB (l : List Th) (p : Txt) : Bool := match slashAt p with | none => true | some k => isT l (p.take k) == 2
def applyS (l : List Th) : St → List Th
  | .mkdir a => l ++ [⟨a, true, 0⟩]
  | .create a i => l ++ [⟨a, false, i⟩]
  | .remove a => l.filter fun x => !(x.path == a || insideB x.path a)
  | .rename a b => (l.filter fun x => !(x.path == b)).map fun x => if x.path == a then { x with path := b } else if insideB x.path a then { x with path := b ++ x.path.drop a.length } else x

/-! ### the calls -/
def stepD (d : Ds) : Nat × Ds := if d.await = 0 then (0, d) else if d.await = 1 then (1, { d with await := 0, off := true }) else (0, { d with await := d.await - 1 })
def namesD (d : Ds) (s : St) : Nat × Ds :=
  if (stepD d).1 ≠ 0 then stepD d else (0, { (stepD d).2 with things := applyS d.things s, steps := d.steps ++ [s] })
def mkdirD (d : Ds) (s : Txt) : Nat × Ds := if d.off then (1, d) else if nameB s = false then (2, d) else if isT d.things s ≠ 0 then (5, d) else namesD d (.mkdir s)
def createD (d : Ds) (s : Txt) : Nat × Ds :=
  if d.off then (1, d) else if pathB s = false then (2, d) else if parentB d.things s = false then (4, d) else if isT d.things s ≠ 0 then (5, d) else
  if (stepD d).1 ≠ 0 then stepD d else (0, { (namesD d (.create s d.files.length)).2 with files := d.files ++ [⟨[], [], []⟩] })
def fileT (l : List Th) (s : Txt) : Except Nat Nat := match findT l s with | none => .error 4 | some x => if x.dir then .error 3 else .ok x.at_
/-- The number of a file's bytes, or the failure. -/
def fileD (d : Ds) (s : Txt) : Except Nat Nat := if d.off then .error 1 else if pathB s = false then .error 2 else fileT d.things s
def nowAt (d : Ds) (i : Nat) : Txt := (d.files[i]?.getD default).now
def usedL (d : Ds) (l : List Th) : Nat := (l.map fun x => if x.dir then 0 else (nowAt d x.at_).length).sum
def usedD (d : Ds) : Nat := if d.off then 0 else usedL d d.things
def setF (d : Ds) (i : Nat) (f : By) : Ds := { d with files := d.files.set i f }
def fAt (d : Ds) (i : Nat) : By := d.files[i]?.getD default
def appendD (d : Ds) (s text : Txt) : Nat × Ds :=
  match fileD d s with
  | .error e => (e, d)
  | .ok i => if d.cap < usedD d + text.length then (7, d) else if (stepD d).1 ≠ 0 then stepD d else
    (0, setF (stepD d).2 i { fAt d i with now := (fAt d i).now ++ text, steps := (fAt d i).steps ++ [⟨text, false, 0⟩] })
def cutD (d : Ds) (s : Txt) (n : Int) : Nat × Ds :=
  match fileD d s with
  | .error e => (e, d)
  | .ok i => if n < 0 ∨ ((fAt d i).now.length : Int) < n then (6, d) else if (stepD d).1 ≠ 0 then stepD d else
    (0, setF (stepD d).2 i { fAt d i with now := (fAt d i).now.take n.toNat, steps := (fAt d i).steps ++ [⟨[], true, n.toNat⟩] })
def syncD (d : Ds) (s : Txt) : Nat × Ds :=
  match fileD d s with
  | .error e => (e, d)
  | .ok i => if (stepD d).1 ≠ 0 then stepD d else (0, setF (stepD d).2 i ⟨(fAt d i).now, (fAt d i).now, []⟩)
def syncNamesD (d : Ds) : Nat × Ds := if d.off then (1, d) else if (stepD d).1 ≠ 0 then stepD d else (0, { (stepD d).2 with safe := d.things, steps := [] })
def renameD (d : Ds) (a b : Txt) : Nat × Ds :=
  if d.off then (1, d) else if pathB a = false ∨ pathB b = false then (2, d) else if isT d.things a = 2 ∧ nameB b = false then (2, d) else
  if isT d.things a = 0 ∨ parentB d.things b = false then (4, d) else
  if isT d.things b = 2 ∨ (isT d.things b = 1 ∧ (isT d.things a = 2 ∨ a = b)) then (5, d) else namesD d (.rename a b)
def removeD (d : Ds) (s : Txt) : Nat × Ds := if d.off then (1, d) else if pathB s = false then (2, d) else if isT d.things s = 0 then (4, d) else namesD d (.remove s)
def allD (d : Ds) (s : Txt) : Txt × Nat := match fileD d s with | .error e => ([], e) | .ok i => ((fAt d i).now, 0)
def readD (d : Ds) (s : Txt) (k n : Int) : Txt × Nat :=
  if (allD d s).2 ≠ 0 then ([], (allD d s).2) else if k < 0 ∨ ((allD d s).1.length : Int) < k ∨ n < 0 ∨ ((allD d s).1.length : Int) - k < n then ([], 6) else
  (((allD d s).1.drop k.toNat).take n.toNat, 0)
def flipT (s : Txt) (k : Nat) (m : UInt8) : Txt := s.take k ++ [(s[k]?.getD 0) ^^^ m] ++ s.drop (k + 1)
def flipD (d : Ds) (s : Txt) (k : Int) (m : UInt8) : Nat × Ds :=
  match fileD d s with
  | .error e => (e, d)
  | .ok i => if k < 0 ∨ ((fAt d i).now.length : Int) ≤ k then (6, d) else (0, setF d i ⟨flipT (fAt d i).now k.toNat m, flipT (fAt d i).now k.toNat m, []⟩)
def crashD (d : Ds) (n : Int) : Ds := { d with await := n.toNat }
/-- A name in a directory. -/
structure En where
  name : Txt
  dir : Bool
  size : Nat
instance : Inhabited En := ⟨⟨[], false, 0⟩⟩
/-- An entry at its place among the others: behind those whose name is not above its own. -/
def insE (x : En) : List En → List En
  | [] => [x]
  | y :: l => if x.name < y.name then x :: y :: l else y :: insE x l
def sortE (l : List En) : List En := l.foldl (fun acc x => insE x acc) []
def entD (d : Ds) (dir : Txt) : List En :=
  d.things.filterMap fun x =>
    if dir = [] then (if (slashAt x.path).isSome then none else some ⟨x.path, x.dir, if x.dir then 0 else (nowAt d x.at_).length⟩)
    else if insideB x.path dir then some ⟨x.path.drop (dir.length + 1), x.dir, if x.dir then 0 else (nowAt d x.at_).length⟩ else none
def listD (d : Ds) (dir : Txt) : List En × Nat :=
  if d.off then ([], 1) else if dir ≠ [] ∧ nameB dir = false then ([], 2) else if dir ≠ [] ∧ isT d.things dir = 1 then ([], 3) else if dir ≠ [] ∧ isT d.things dir = 0 then ([], 4) else (sortE (entD d dir), 0)
def shareN (wish : Int) (n : Nat) : Nat := if wish < 0 then 0 else wish.toNat % (n + 1)
/-- The units of what isn't safe. -/
def units (l : List Ch) : Nat := (l.map fun c => c.text.length + if c.cut then 1 else 0).sum
/-- The steps taken up with so many units left: the bytes, the units, whether no cut is lost. -/
def keepL : List Ch → Txt → Nat → Bool → Txt × Nat × Bool
  | [], now, left, z => (now, left, z)
  | c :: r, now, left, z => if c.cut then (if 0 < left then keepL r (now.take c.size) (left - 1) z else keepL r now left false) else keepL r (now ++ c.text.take (min left c.text.length)) (left - min left c.text.length) z
def keepF (f : By) (wish : Int) (zeros : Bool) : By :=
  let u := units f.steps
  let r := keepL f.steps f.safe (shareN wish u) zeros
  let now := if r.2.2 then r.1 ++ List.replicate (u - shareN wish u) 0 else r.1
  ⟨now, now, []⟩
/-- The numbers of the files, in the order of their paths. -/
def sortedF (l : List Th) : List En := sortE ((l.filter fun x => !x.dir).map fun x => ⟨x.path, false, x.at_⟩)
def keepAll (data : List Int) (zeros : Bool) : List En → Nat → List By → List By
  | [], _, fs => fs
  | x :: r, i, fs => keepAll data zeros r (i + 1) (fs.set x.size (keepF (fs[x.size]?.getD default) (if data = [] then 0 else data[i % data.length]?.getD 0) zeros))
def restartD (d : Ds) (n : Int) (data : List Int) (zeros : Bool) : Ds :=
  let l := (d.steps.take (shareN n d.steps.length)).foldl applyS d.safe
  { d with things := l, safe := l, steps := [], files := keepAll data zeros (sortedF l) 0 d.files, off := false, await := 0 }
def newD (cap : Int) : Ds := ⟨[], [], [], [], (min cap 67108864).toNat, false, 0⟩
end Go.Proofs.YtfpgbhimgfdddaaGreatDoor
