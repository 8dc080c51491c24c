/- Words for memory that all walks of this family share: what a call may have changed (Kept), a block known whole (Blk), a slice that reads as a list (Elems). No program in sight. -/
import Derived.WalkKit
import Derived.Handy
import Derived.Lib.Hide
import Derived.Deep.Draws
import Derived.Deep.AppendLies
namespace Go.Proofs.Ytpmahljbkgielaa
open Go.RowKit

theorem ret_int {k : IntKind} {a b : Int} (h : a = b) : Ending.returned (.int k a) = .returned (.int k b) := by rw [h]
theorem vi {k : IntKind} {a b : Int} (h : a = b) : Value.int k a = Value.int k b := by rw [h]
theorem vb {a b : Bool} (h : a = b) : Value.bool a = Value.bool b := by rw [h]
theorem ret2 {a b c d : Value} (h : a = c) (h' : b = d) : Ending.returned (.tuple #[a, b]) = .returned (.tuple #[c, d]) := by rw [h, h']
theorem ret3 {a b c d e f : Value} (h : a = d) (h' : b = e) (h'' : c = f) : Ending.returned (.tuple #[a, b, c]) = .returned (.tuple #[d, e, f]) := by rw [h, h', h'']
theorem ret_bool {a b : Bool} (h : a = b) : Ending.returned (.bool a) = .returned (.bool b) := by rw [h]

/-- Below block number B, but for the blocks in ex, the world w' is as w was. -/
structure Kept (B : Nat) (ex : List Nat) (w w' : World) : Prop where
  os : w'.os = w.os
  tape : w'.tape = w.tape
  output : w'.output = w.output
  size : w.heap.size ≤ w'.heap.size
  block : ∀ k, k < B → k ∉ ex → w'.heap[k]? = w.heap[k]?

section
variable {B : Nat} {ex : List Nat} {a w w' : World}
theorem Kept.refl (B : Nat) (ex : List Nat) (w : World) : Kept B ex w w := ⟨rfl, rfl, rfl, Nat.le_refl _, fun _ _ _ => rfl⟩
theorem Kept.trans (h : Kept B ex a w) (k : Kept B ex w w') : Kept B ex a w' :=
  ⟨k.os.trans h.os, k.tape.trans h.tape, k.output.trans h.output, Nat.le_trans h.size k.size, fun i hi hx => (k.block i hi hx).trans (h.block i hi hx)⟩
theorem Kept.mono {B' : Nat} {ex' : List Nat} (h : Kept B ex w w') (hB : B' ≤ B) (hx : ∀ k, k < B' → k ∈ ex → k ∈ ex') : Kept B' ex' w w' :=
  ⟨h.os, h.tape, h.output, h.size, fun k hk hn => h.block k (by omega) (fun hm => hn (hx k hk hm))⟩
theorem Kept.of_below (h : Below B w w') : Kept B ex w w' := ⟨h.os, h.tape, h.output, h.size, fun k hk _ => h.block k hk⟩
theorem Kept.below (h : Kept B ex w w') (hx : ∀ k ∈ ex, B ≤ k) : Below B w w' :=
  ⟨h.os, h.tape, h.output, h.size, fun k hk => h.block k hk (fun hm => by have := hx k hm; omega)⟩
theorem Kept.drew (h : Kept B ex a w) : Kept B ex a w.drew := ⟨h.os, h.tape, h.output, h.size, h.block⟩
theorem Kept.alloc (h : Kept B ex a w) (hB : B ≤ w.heap.size) (o : Obj) : Kept B ex a (w.alloc o) := h.trans (.of_below ((Below.refl _ _).alloc hB o))
theorem Kept.setCell (h : Kept B ex a w) {p : Addr} (hp : p.block ∈ ex ∨ B ≤ p.block) (u : Value) : Kept B ex a (w.setCell p u) :=
  h.trans ⟨rfl, rfl, rfl, by simp [World.setCell], fun k hk hn => Below.heap_setCell _ _ _ _ (by rintro rfl; rcases hp with hp | hp; exact hn hp; omega)⟩
theorem Kept.below_trans (h : Kept B ex a w) (hb : Below w.heap.size w w') (hB : B ≤ w.heap.size) : Kept B ex a w' := h.trans (.of_below (hb.mono hB))
theorem Kept.grown {row : Option Nat} (h : Kept B ex a w) (hg : w.grownBy w' row) (hB : B ≤ w.heap.size) (hr : ∀ k, row = some k → k ∈ ex ∨ B ≤ k) : Kept B ex a w' :=
  h.trans ⟨hg.os, hg.tape, hg.output, hg.size, fun k hk hn => hg.block k (by omega) (fun e => by rcases hr k e.symm with h | h; exact hn h; omega)⟩
theorem Kept.cell (h : Kept B ex w w') {p : Addr} (hp : p.block < B) (hn : p.block ∉ ex) : w'.cell? p = w.cell? p := World.cell?_of_block (w := w) (h.block p.block hp hn)
theorem Kept.frozen (h : Kept B ex w w') {p : Addr} (hp : p.block < B) (hn : p.block ∉ ex) : w'.frozen? p = w.frozen? p := World.frozen?_of_block (w := w) (h.block p.block hp hn)
end

theorem lt_of_cell {w : World} {a : Addr} {v : Value} (h : w.cell? a = some v) : a.block < w.heap.size := by
  rcases Nat.lt_or_ge a.block w.heap.size with hlt | hge
  · exact hlt
  · unfold World.cell? at h; rw [Array.getElem?_eq_none hge] at h; cases h
/-- A cell that was there is there in every later world. -/
theorem later {w w' : World} (hb : Below w.heap.size w w') {a : Addr} {v : Value} (h : w.cell? a = some v) : w'.cell? a = some v := (hb.cell (lt_of_cell h)).trans h
theorem laterF {w w' : World} (hb : Below w.heap.size w w') {a : Addr} {v : Value} {f : Bool} (h : w.cell? a = some v) (hf : w.frozen? a = f) : w'.frozen? a = f := (hb.frozen (lt_of_cell h)).trans hf
/-- Two steps of growing, one behind the other. -/
theorem then_ {w w1 w2 : World} (h : Below w.heap.size w w1) (h' : Below w1.heap.size w1 w2) : Below w.heap.size w w2 := h.trans (h'.mono h.size)
theorem Kept.then_ {w w1 w2 : World} {ex : List Nat} (h : Kept w.heap.size ex w w1) (h' : Below w1.heap.size w1 w2) : Kept w.heap.size ex w w2 := h.trans (.of_below (h'.mono h.size))
theorem Kept.later {w w' : World} {ex : List Nat} (hb : Kept w.heap.size ex w w') {a : Addr} {v : Value} (h : w.cell? a = some v) (hn : a.block ∉ ex) : w'.cell? a = some v := (hb.cell (lt_of_cell h) hn).trans h
theorem Kept.laterF {w w' : World} {ex : List Nat} (hb : Kept w.heap.size ex w w') {a : Addr} {v : Value} {f : Bool} (h : w.cell? a = some v) (hf : w.frozen? a = f) (hn : a.block ∉ ex) : w'.frozen? a = f := (hb.frozen (lt_of_cell h) hn).trans hf

/-- Block g is just the cells cs of element type t, none frozen. -/
def Blk (w : World) (g : Nat) (t : TypeId) (cs : Array Value) : Prop := w.heap[g]? = some (.cells cs t (0, 0))

section
variable {w w' : World} {g : Nat} {t : TypeId} {cs : Array Value}
theorem Blk.lt (h : Blk w g t cs) : g < w.heap.size := by
  rcases Nat.lt_or_ge g w.heap.size with hlt | hge
  · exact hlt
  · unfold Blk at h; rw [Array.getElem?_eq_none hge] at h; cases h
theorem Blk.cell (h : Blk w g t cs) (i : Nat) : w.cell? ⟨g, i, none⟩ = cs[i]? := cell_of_row w g i cs t (0, 0) h
theorem Blk.frozen (h : Blk w g t cs) (i : Nat) : w.frozen? ⟨g, i, none⟩ = false := by
  unfold Blk at h
  simp [World.frozen?, h]
theorem Blk.new (w : World) (t : TypeId) (cs : Array Value) : Blk (w.alloc (.cells cs t)) w.heap.size t cs := heap_alloc_new w _
theorem Blk.newAt (h : g = w.heap.size) : Blk (w.alloc (.cells cs t)) g t cs := by subst h; exact Blk.new w t cs
theorem Blk.drew (h : Blk w g t cs) : Blk w.drew g t cs := h
theorem Blk.drewN (h : Blk w g t cs) (n : Nat) : Blk (w.drewN n) g t cs := h
theorem Blk.alloc (h : Blk w g t cs) (o : Obj) : Blk (w.alloc o) g t cs := (Below.heap_alloc w o g h.lt).trans h
theorem Blk.set_ (h : Blk w g t cs) (i : Nat) (u : Value) : Blk (w.setCell ⟨g, i, none⟩ u) g t (cs.setIfInBounds i u) := by
  unfold Blk at h ⊢
  simp [World.setCell, Array.getElem?_modify, h]
theorem Blk.far (h : Blk w g t cs) {p : Addr} (hp : g ≠ p.block) (u : Value) : Blk (w.setCell p u) g t cs := (Below.heap_setCell w p u g hp).trans h
theorem Blk.below {B : Nat} (h : Blk w g t cs) (hb : Below B w w') (hg : g < B) : Blk w' g t cs := (hb.block g hg).trans h
theorem Blk.kept {B : Nat} {ex : List Nat} (h : Blk w g t cs) (hb : Kept B ex w w') (hg : g < B) (hn : g ∉ ex) : Blk w' g t cs := (hb.block g hg hn).trans h
theorem Blk.grown {row : Option Nat} (h : Blk w g t cs) (hb : w.grownBy w' row) (hg : some g ≠ row) : Blk w' g t cs := (hb.block g h.lt hg).trans h
theorem Blk.ne_ {g' : Nat} {t' : TypeId} {cs' : Array Value} (h : Blk w g t cs) (h' : Blk w g' t' cs') (hne : t ≠ t') : g ≠ g' := by
  rintro rfl
  unfold Blk at h h'
  rw [h] at h'
  injection h' with h'
  injection h' with _ ht
  exact hne ht
end

theorem news_of_blk {w : World} {g : Nat} {t : TypeId} {l : List Value} (h : Blk w g t l.toArray) : ∀ j u, l[j]? = some u → w.cell? ((⟨g, 0, none⟩ : Addr).add j) = some u := by
  intro j u hu
  have e : (⟨g, 0, none⟩ : Addr).add j = ⟨g, j, none⟩ := by unfold Addr.add; split <;> simp_all
  rw [e, h.cell]
  simpa using hu

/-- An int as an element of one cell. -/
def I1 (i : Int) : List Value := [.int .i64 i]
theorem flatMap_I1 (l : List Int) : l.map (Value.int .i64) = l.flatMap I1 := by
  induction l with
  | nil => rfl
  | cons x l ih => simp [I1, ih]

/-- The slice '.slice A n _' lies below block B and reads as the list xs, each element laid out in sz cells by enc. -/
def Elems {α : Type} (w : World) (B sz : Nat) (enc : α → List Value) (A : Option Addr) (n : Nat) (xs : List α) : Prop :=
  xs.length = n ∧ (0 < n → ∃ b off, A = some ⟨b, off, none⟩ ∧ b < B ∧ ∀ i x, xs[i]? = some x → ∀ j v, (enc x)[j]? = some v → w.cell? ⟨b, off + i * sz + j, none⟩ = some v)

section
variable {α : Type} {w w' : World} {B B' sz n : Nat} {enc : α → List Value} {A : Option Addr} {xs : List α}
theorem Elems.keep (h : Elems w B sz enc A n xs) (hk : ∀ p : Addr, p.block < B → w'.cell? p = w.cell? p) : Elems w' B sz enc A n xs :=
  ⟨h.1, fun hn => by
    obtain ⟨b, off, e, hb, hc⟩ := h.2 hn
    exact ⟨b, off, e, hb, fun i x hx j v hv => (hk _ hb).trans (hc i x hx j v hv)⟩⟩
theorem Elems.keepAt (h : Elems w B sz enc A n xs) (hk : ∀ p : Addr, p.block < B → A.map (·.block) = some p.block → w'.cell? p = w.cell? p) : Elems w' B sz enc A n xs :=
  ⟨h.1, fun hn => by
    obtain ⟨b, off, e, hb, hc⟩ := h.2 hn
    exact ⟨b, off, e, hb, fun i x hx j v hv => (hk _ hb (by rw [e]; rfl)).trans (hc i x hx j v hv)⟩⟩
theorem Elems.more (h : Elems w B sz enc A n xs) (hB : B ≤ B') : Elems w B' sz enc A n xs :=
  ⟨h.1, fun hn => by
    obtain ⟨b, off, e, hb, hc⟩ := h.2 hn
    exact ⟨b, off, e, by omega, hc⟩⟩
theorem Elems.below (h : Elems w B sz enc A n xs) (hb : Below B w w') : Elems w' B sz enc A n xs := h.keep fun _ hp => hb.cell hp
theorem Elems.kept {ex : List Nat} (h : Elems w B sz enc A n xs) (hb : Kept B ex w w') (hx : ∀ k ∈ ex, B ≤ k) : Elems w' B sz enc A n xs := h.below (hb.below hx)
theorem Elems.kept' {C : Nat} {ex : List Nat} (h : Elems w B sz enc A n xs) (hb : Kept C ex w w') (hB : B ≤ C) (hx : ∀ k ∈ ex, B ≤ k) : Elems w' B sz enc A n xs :=
  h.keep fun p hp => hb.cell (by omega) (fun hm => by have := hx _ hm; omega)
theorem Elems.nil_ : Elems w B sz enc A 0 [] := ⟨rfl, fun h => absurd h (by omega)⟩
theorem Elems.of_own {base : Nat} {e : TypeId} {v : Value} {ys : List Value} (hsz : ∀ x ∈ xs, (enc x).length = sz) (hys : ys = xs.flatMap enc) (h : w.ownsRow base e sz v n ys) (hn : xs.length = n) :
    ∃ A c, v = .slice A n c ∧ Elems w w.heap.size sz enc A n xs ∧ (∀ a, A = some a → base ≤ a.block) ∧ n ≤ c := by
  rcases h.2 with ⟨rfl, rfl⟩ | ⟨g, cap, cur, rfl, hb, hh, hnc, _, hsize, htk⟩
  · exact ⟨none, 0, rfl, ⟨hn, fun h => absurd h (by omega)⟩, (fun a h => by cases h), Nat.le_refl _⟩
  · refine ⟨_, cap, rfl, ⟨hn, fun _ => ⟨g, 0, rfl, ?_, fun i x hx j v hv => ?_⟩⟩, (fun a h => by injection h with h; subst h; exact hb), hnc⟩
    · rcases Nat.lt_or_ge g w.heap.size with hlt | hge
      · exact hlt
      · rw [Array.getElem?_eq_none hge] at hh; cases hh
    · have hcell : w.cell? ⟨g, 0 + i * sz + j, none⟩ = cur[0 + i * sz + j]? := cell_of_row w g _ cur e (0, 0) hh
      rw [hcell]
      have key : ∀ (l : List α) (i : Nat), (∀ x ∈ l, (enc x).length = sz) → l[i]? = some x → (l.flatMap enc)[i * sz + j]? = some v := by
        intro l
        induction l with
        | nil => intro i _ h; simp at h
        | cons y l ih =>
          intro i hl hi
          cases i with
          | zero =>
            simp only [List.getElem?_cons_zero, Option.some.injEq] at hi
            subst hi
            have hj : j < (enc y).length := (List.getElem?_eq_some_iff.1 hv).1
            rw [List.flatMap_cons, List.getElem?_append_left (by omega)]
            simpa using hv
          | succ i =>
            rw [List.flatMap_cons, List.getElem?_append_right (by rw [hl y (by simp), Nat.succ_mul]; omega), hl y (by simp), show (i + 1) * sz + j - sz = i * sz + j by rw [Nat.succ_mul]; omega]
            exact ih i (fun z hz => hl z (by simp [hz])) (by simpa using hi)
      have h1 := key xs i hsz hx
      rw [← hys, ← htk, List.getElem?_take] at h1
      split at h1
      · simpa using h1
      · cases h1
/-- A slice cut at its head: 's[k:]'. -/
theorem Elems.cut (h : Elems w B sz enc A n xs) {k cap : Nat} (hk : k ≤ n) (hc : n ≤ cap) :
    Elems w B sz enc (if cap = k then A else A.map (·.add (k * sz))) (n - k) (xs.drop k) := by
  refine ⟨by rw [List.length_drop, h.1], fun hn => ?_⟩
  obtain ⟨b, off, rfl, hb, hcell⟩ := h.2 (by omega)
  rw [if_neg (by omega)]
  refine ⟨b, off + k * sz, by simp only [Option.map_some, Addr.add]; split <;> simp_all, hb, fun i x hx j v hv => ?_⟩
  rw [List.getElem?_drop] at hx
  have := hcell (k + i) x hx j v hv
  rw [Nat.add_mul] at this
  rw [← this]
  congr 2
  omega
theorem Elems.len (h : Elems w B sz enc A n xs) : xs.length = n := h.1
end
end Go.Proofs.Ytpmahljbkgielaa
