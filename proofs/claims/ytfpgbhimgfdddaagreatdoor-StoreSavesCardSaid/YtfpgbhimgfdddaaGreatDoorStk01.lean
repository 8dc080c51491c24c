/- Merged (what the claim wants of): Words, SymPlain, DskPlain. -/
import Derived.WalkKit
import Derived.Handy
import Derived.Lib.Hide
import Derived.Deep.Draws
import Derived.Deep.AppendLies
import Derived.Lib.SlicesCompact
import Derived.Shelf.Spec.SearchS
set_option linter.unusedVariables false
set_option linter.unusedSimpArgs false
/- Words for memory that all walks of this family share: what a call may have changed (Kept), a block known whole (Blk), a slice that reads as a list (Elems). No program in sight. -/
namespace Go.Proofs.YtfpgbhimgfdddaaGreatDoor
open Go.RowKit

theorem vi {k : IntKind} {a b : Int} (h : a = b) : Value.int k a = Value.int k b := by rw [h]
theorem vb {a b : Bool} (h : a = b) : Value.bool a = Value.bool b := by rw [h]
theorem ret3 {a b c d e f : Value} (h : a = d) (h' : b = e) (h'' : c = f) : Ending.returned (.tuple #[a, b, c]) = .returned (.tuple #[d, e, f]) := by rw [h, h', h'']

/-- Below block number B, but for the blocks in ex, the world w' is as w was. -/
structure Kept (B : Nat) (ex : List Nat) (w w' : World) : Prop where
  os : w'.os = w.os
  tape : w'.tape = w.tape
  output : w'.output = w.output
  size : w.heap.size ≤ w'.heap.size
  block : ∀ k, k < B → k ∉ ex → w'.heap[k]? = w.heap[k]?

section
variable {B : Nat} {ex : List Nat} {a w w' : World}
theorem Kept.refl (B : Nat) (ex : List Nat) (w : World) : Kept B ex w w := ⟨rfl, rfl, rfl, Nat.le_refl _, fun _ _ _ => rfl⟩
theorem Kept.trans (h : Kept B ex a w) (k : Kept B ex w w') : Kept B ex a w' :=
  ⟨k.os.trans h.os, k.tape.trans h.tape, k.output.trans h.output, Nat.le_trans h.size k.size, fun i hi hx => (k.block i hi hx).trans (h.block i hi hx)⟩
theorem Kept.mono {B' : Nat} {ex' : List Nat} (h : Kept B ex w w') (hB : B' ≤ B) (hx : ∀ k, k < B' → k ∈ ex → k ∈ ex') : Kept B' ex' w w' :=
  ⟨h.os, h.tape, h.output, h.size, fun k hk hn => h.block k (by omega) (fun hm => hn (hx k hk hm))⟩
theorem Kept.of_below (h : Below B w w') : Kept B ex w w' := ⟨h.os, h.tape, h.output, h.size, fun k hk _ => h.block k hk⟩
theorem Kept.below (h : Kept B ex w w') (hx : ∀ k ∈ ex, B ≤ k) : Below B w w' :=
  ⟨h.os, h.tape, h.output, h.size, fun k hk => h.block k hk (fun hm => by have := hx k hm; omega)⟩
theorem Kept.drew (h : Kept B ex a w) : Kept B ex a w.drew := ⟨h.os, h.tape, h.output, h.size, h.block⟩
theorem Kept.alloc (h : Kept B ex a w) (hB : B ≤ w.heap.size) (o : Obj) : Kept B ex a (w.alloc o) := h.trans (.of_below ((Below.refl _ _).alloc hB o))
theorem Kept.setCell (h : Kept B ex a w) {p : Addr} (hp : p.block ∈ ex ∨ B ≤ p.block) (u : Value) : Kept B ex a (w.setCell p u) :=
  h.trans ⟨rfl, rfl, rfl, by simp [World.setCell], fun k hk hn => Below.heap_setCell _ _ _ _ (by rintro rfl; rcases hp with hp | hp; exact hn hp; omega)⟩
theorem Kept.grown {row : Option Nat} (h : Kept B ex a w) (hg : w.grownBy w' row) (hB : B ≤ w.heap.size) (hr : ∀ k, row = some k → k ∈ ex ∨ B ≤ k) : Kept B ex a w' :=
  h.trans ⟨hg.os, hg.tape, hg.output, hg.size, fun k hk hn => hg.block k (by omega) (fun e => by rcases hr k e.symm with h | h; exact hn h; omega)⟩
theorem Kept.cell (h : Kept B ex w w') {p : Addr} (hp : p.block < B) (hn : p.block ∉ ex) : w'.cell? p = w.cell? p := World.cell?_of_block (w := w) (h.block p.block hp hn)
theorem Kept.frozen (h : Kept B ex w w') {p : Addr} (hp : p.block < B) (hn : p.block ∉ ex) : w'.frozen? p = w.frozen? p := World.frozen?_of_block (w := w) (h.block p.block hp hn)
end

theorem lt_of_cell {w : World} {a : Addr} {v : Value} (h : w.cell? a = some v) : a.block < w.heap.size := by
  rcases Nat.lt_or_ge a.block w.heap.size with hlt | hge
  · exact hlt
  · unfold World.cell? at h; rw [Array.getElem?_eq_none hge] at h; cases h
/-- A cell that was there is there in every later world. -/
theorem later {w w' : World} (hb : Below w.heap.size w w') {a : Addr} {v : Value} (h : w.cell? a = some v) : w'.cell? a = some v := (hb.cell (lt_of_cell h)).trans h
/-- Two steps of growing, one behind the other. -/
theorem then_ {w w1 w2 : World} (h : Below w.heap.size w w1) (h' : Below w1.heap.size w1 w2) : Below w.heap.size w w2 := h.trans (h'.mono h.size)
theorem Kept.then_ {w w1 w2 : World} {ex : List Nat} (h : Kept w.heap.size ex w w1) (h' : Below w1.heap.size w1 w2) : Kept w.heap.size ex w w2 := h.trans (.of_below (h'.mono h.size))
theorem Kept.later {w w' : World} {ex : List Nat} (hb : Kept w.heap.size ex w w') {a : Addr} {v : Value} (h : w.cell? a = some v) (hn : a.block ∉ ex) : w'.cell? a = some v := (hb.cell (lt_of_cell h) hn).trans h

/-- Block g is just the cells cs of element type t, none frozen. -/
def Blk (w : World) (g : Nat) (t : TypeId) (cs : Array Value) : Prop := w.heap[g]? = some (.cells cs t (0, 0))

section
variable {w w' : World} {g : Nat} {t : TypeId} {cs : Array Value}
theorem Blk.lt (h : Blk w g t cs) : g < w.heap.size := by
  rcases Nat.lt_or_ge g w.heap.size with hlt | hge
  · exact hlt
  · unfold Blk at h; rw [Array.getElem?_eq_none hge] at h; cases h
theorem Blk.cell (h : Blk w g t cs) (i : Nat) : w.cell? ⟨g, i, none⟩ = cs[i]? := cell_of_row w g i cs t (0, 0) h
theorem Blk.frozen (h : Blk w g t cs) (i : Nat) : w.frozen? ⟨g, i, none⟩ = false := by
  unfold Blk at h
  simp [World.frozen?, h]
theorem Blk.new (w : World) (t : TypeId) (cs : Array Value) : Blk (w.alloc (.cells cs t)) w.heap.size t cs := heap_alloc_new w _
theorem Blk.newAt (h : g = w.heap.size) : Blk (w.alloc (.cells cs t)) g t cs := by subst h; exact Blk.new w t cs
theorem Blk.drew (h : Blk w g t cs) : Blk w.drew g t cs := h
theorem Blk.drewN (h : Blk w g t cs) (n : Nat) : Blk (w.drewN n) g t cs := h
theorem Blk.alloc (h : Blk w g t cs) (o : Obj) : Blk (w.alloc o) g t cs := (Below.heap_alloc w o g h.lt).trans h
theorem Blk.set_ (h : Blk w g t cs) (i : Nat) (u : Value) : Blk (w.setCell ⟨g, i, none⟩ u) g t (cs.setIfInBounds i u) := by
  unfold Blk at h ⊢
  simp [World.setCell, Array.getElem?_modify, h]
theorem Blk.far (h : Blk w g t cs) {p : Addr} (hp : g ≠ p.block) (u : Value) : Blk (w.setCell p u) g t cs := (Below.heap_setCell w p u g hp).trans h
theorem Blk.below {B : Nat} (h : Blk w g t cs) (hb : Below B w w') (hg : g < B) : Blk w' g t cs := (hb.block g hg).trans h
theorem Blk.kept {B : Nat} {ex : List Nat} (h : Blk w g t cs) (hb : Kept B ex w w') (hg : g < B) (hn : g ∉ ex) : Blk w' g t cs := (hb.block g hg hn).trans h
theorem Blk.grown {row : Option Nat} (h : Blk w g t cs) (hb : w.grownBy w' row) (hg : some g ≠ row) : Blk w' g t cs := (hb.block g h.lt hg).trans h
theorem Blk.ne_ {g' : Nat} {t' : TypeId} {cs' : Array Value} (h : Blk w g t cs) (h' : Blk w g' t' cs') (hne : t ≠ t') : g ≠ g' := by
  rintro rfl
  unfold Blk at h h'
  rw [h] at h'
  injection h' with h'
  injection h' with _ ht
  exact hne ht
end

theorem news_of_blk {w : World} {g : Nat} {t : TypeId} {l : List Value} (h : Blk w g t l.toArray) : ∀ j u, l[j]? = some u → w.cell? ((⟨g, 0, none⟩ : Addr).add j) = some u := by
  intro j u hu
  have e : (⟨g, 0, none⟩ : Addr).add j = ⟨g, j, none⟩ := by unfold Addr.add; split <;> simp_all
  rw [e, h.cell]
  simpa using hu

/-- An int as an element of one cell. -/
def I1 (i : Int) : List Value := [.int .i64 i]
theorem flatMap_I1 (l : List Int) : l.map (Value.int .i64) = l.flatMap I1 := by
  induction l with
  | nil => rfl
  | cons x l ih => simp [I1, ih]

/-- The slice '.slice A n _' lies below block B and reads as the list xs, each element laid out in sz cells by enc. -/
def Elems {α : Type} (w : World) (B sz : Nat) (enc : α → List Value) (A : Option Addr) (n : Nat) (xs : List α) : Prop :=
  xs.length = n ∧ (0 < n → ∃ b off, A = some ⟨b, off, none⟩ ∧ b < B ∧ ∀ i x, xs[i]? = some x → ∀ j v, (enc x)[j]? = some v → w.cell? ⟨b, off + i * sz + j, none⟩ = some v)

section
variable {α : Type} {w w' : World} {B B' sz n : Nat} {enc : α → List Value} {A : Option Addr} {xs : List α}
theorem Elems.keep (h : Elems w B sz enc A n xs) (hk : ∀ p : Addr, p.block < B → w'.cell? p = w.cell? p) : Elems w' B sz enc A n xs :=
  ⟨h.1, fun hn => by
    obtain ⟨b, off, e, hb, hc⟩ := h.2 hn
    exact ⟨b, off, e, hb, fun i x hx j v hv => (hk _ hb).trans (hc i x hx j v hv)⟩⟩
theorem Elems.more (h : Elems w B sz enc A n xs) (hB : B ≤ B') : Elems w B' sz enc A n xs :=
  ⟨h.1, fun hn => by
    obtain ⟨b, off, e, hb, hc⟩ := h.2 hn
    exact ⟨b, off, e, by omega, hc⟩⟩
theorem Elems.below (h : Elems w B sz enc A n xs) (hb : Below B w w') : Elems w' B sz enc A n xs := h.keep fun _ hp => hb.cell hp
theorem Elems.kept {ex : List Nat} (h : Elems w B sz enc A n xs) (hb : Kept B ex w w') (hx : ∀ k ∈ ex, B ≤ k) : Elems w' B sz enc A n xs := h.below (hb.below hx)
theorem Elems.nil_ : Elems w B sz enc A 0 [] := ⟨rfl, fun h => absurd h (by omega)⟩
theorem Elems.of_own {base : Nat} {e : TypeId} {v : Value} {ys : List Value} (hsz : ∀ x ∈ xs, (enc x).length = sz) (hys : ys = xs.flatMap enc) (h : w.ownsRow base e sz v n ys) (hn : xs.length = n) :
    ∃ A c, v = .slice A n c ∧ Elems w w.heap.size sz enc A n xs ∧ (∀ a, A = some a → base ≤ a.block) ∧ n ≤ c := by
  rcases h.2 with ⟨rfl, rfl⟩ | ⟨g, cap, cur, rfl, hb, hh, hnc, _, hsize, htk⟩
  · exact ⟨none, 0, rfl, ⟨hn, fun h => absurd h (by omega)⟩, (fun a h => by cases h), Nat.le_refl _⟩
  · refine ⟨_, cap, rfl, ⟨hn, fun _ => ⟨g, 0, rfl, ?_, fun i x hx j v hv => ?_⟩⟩, (fun a h => by injection h with h; subst h; exact hb), hnc⟩
    · rcases Nat.lt_or_ge g w.heap.size with hlt | hge
      · exact hlt
      · rw [Array.getElem?_eq_none hge] at hh; cases hh
    · have hcell : w.cell? ⟨g, 0 + i * sz + j, none⟩ = cur[0 + i * sz + j]? := cell_of_row w g _ cur e (0, 0) hh
      rw [hcell]
      have key : ∀ (l : List α) (i : Nat), (∀ x ∈ l, (enc x).length = sz) → l[i]? = some x → (l.flatMap enc)[i * sz + j]? = some v := by
        intro l
        induction l with
        | nil => intro i _ h; simp at h
        | cons y l ih =>
          intro i hl hi
          cases i with
          | zero =>
            simp only [List.getElem?_cons_zero, Option.some.injEq] at hi
            subst hi
            have hj : j < (enc y).length := (List.getElem?_eq_some_iff.1 hv).1
            rw [List.flatMap_cons, List.getElem?_append_left (by omega)]
            simpa using hv
          | succ i =>
            rw [List.flatMap_cons, List.getElem?_append_right (by rw [hl y (by simp), Nat.succ_mul]; omega), hl y (by simp), show (i + 1) * sz + j - sz = i * sz + j by rw [Nat.succ_mul]; omega]
            exact ih i (fun z hz => hl z (by simp [hz])) (by simpa using hi)
      have h1 := key xs i hsz hx
      rw [← hys, ← htk, List.getElem?_take] at h1
      split at h1
      · simpa using h1
      · cases h1
/-- A slice cut at its head: 's[k:]'. -/
theorem Elems.cut (h : Elems w B sz enc A n xs) {k cap : Nat} (hk : k ≤ n) (hc : n ≤ cap) :
    Elems w B sz enc (if cap = k then A else A.map (·.add (k * sz))) (n - k) (xs.drop k) := by
  refine ⟨by rw [List.length_drop, h.1], fun hn => ?_⟩
  obtain ⟨b, off, rfl, hb, hcell⟩ := h.2 (by omega)
  rw [if_neg (by omega)]
  refine ⟨b, off + k * sz, by simp only [Option.map_some, Addr.add]; split <;> simp_all, hb, fun i x hx j v hv => ?_⟩
  rw [List.getElem?_drop] at hx
  have := hcell (k + i) x hx j v hv
  rw [Nat.add_mul] at this
  rw [← this]
  congr 2
  omega
theorem Elems.len (h : Elems w B sz enc A n xs) : xs.length = n := h.1
end
end Go.Proofs.YtfpgbhimgfdddaaGreatDoor

/- The plain law of layer 5 (symbols): tables of texts, merging, numbers. No program in sight. -/
namespace Go.Proofs.YtfpgbhimgfdddaaGreatDoor

abbrev Txt := List UInt8
/-- Rising texts. -/
def Asc (t : List Txt) : Prop := t.Pairwise (· < ·)
/-- The table of the texts l. -/
def IsTab (l t : List Txt) : Prop := Asc t ∧ ∀ x, x ∈ t ↔ x ∈ l

theorem txt_tri {a b : Txt} (h : ¬ a < b) (h' : ¬ b < a) : a = b := List.le_antisymm (List.not_lt.1 h') (List.not_lt.1 h)
theorem txt_lt_ne {a b : Txt} (h : a ≤ b) (h' : b ≠ a) : a < b := by
  by_cases e : a < b
  · exact e
  · exact absurd (List.le_antisymm (List.not_lt.1 e) h) h'

theorem asc_one : ∀ {t t' : List Txt}, Asc t → Asc t' → (∀ x, x ∈ t ↔ x ∈ t') → t = t'
  | [], [], _, _, _ => rfl
  | [], b :: s', _, _, h => by have := (h b).2 (by simp); simp at this
  | a :: s, [], _, _, h => by have := (h a).1 (by simp); simp at this
  | a :: s, b :: s', h1, h2, h => by
    have ha := List.pairwise_cons.1 h1
    have hb := List.pairwise_cons.1 h2
    have hab : a = b := by
      apply txt_tri
      · intro hlt
        rcases List.mem_cons.1 ((h a).1 (by simp)) with e | e
        · exact List.lt_irrefl a (by rw [e] at hlt ⊢; exact hlt)
        · exact List.lt_asymm hlt (hb.1 a e)
      · intro hlt
        rcases List.mem_cons.1 ((h b).2 (by simp)) with e | e
        · exact List.lt_irrefl b (by rw [e] at hlt ⊢; exact hlt)
        · exact List.lt_asymm hlt (ha.1 b e)
    subst hab
    rw [asc_one ha.2 hb.2 fun x => ?_]
    constructor
    · intro hx
      rcases List.mem_cons.1 ((h x).1 (by simp [hx])) with e | e
      · subst e; exact absurd (ha.1 x hx) (List.lt_irrefl x)
      · exact e
    · intro hx
      rcases List.mem_cons.1 ((h x).2 (by simp [hx])) with e | e
      · subst e; exact absurd (hb.1 x hx) (List.lt_irrefl x)
      · exact e
theorem IsTab.one {l t t' : List Txt} (h : IsTab l t) (h' : IsTab l t') : t = t' := asc_one h.1 h'.1 fun x => (h.2 x).trans (h'.2 x).symm
theorem IsTab.nil : IsTab [] [] := ⟨List.Pairwise.nil, fun _ => Iff.rfl⟩

/-! ### sorted and made single -/

/-! ### merged -/

/-! ### numbers -/
/-- How many texts are below s. -/
def below (t : List Txt) (s : Txt) : Nat := t.countP fun x => decide (x < s)
end Go.Proofs.YtfpgbhimgfdddaaGreatDoor

/- The plain law of layer 3 (disk): what each call answers and leaves. No program in sight. -/
namespace Go.Proofs.YtfpgbhimgfdddaaGreatDoor

/-! ### names and paths -/
def nameC (b : UInt8) : Bool := (decide (97 ≤ b.toNat) && decide (b.toNat ≤ 122)) || (decide (48 ≤ b.toNat) && decide (b.toNat ≤ 57)) || b.toNat == 46 || b.toNat == 45
def nameB (s : Txt) : Bool := s.all nameC && decide (1 ≤ s.length) && decide (s.length ≤ 32)
/-- The place of the first slash. -/
def slashAt : Txt → Option Nat
  | [] => none
  | b :: l => if b = 47 then some 0 else (slashAt l).map (· + 1)
def pathB (s : Txt) : Bool := match slashAt s with | none => nameB s | some k => nameB (s.take k) && nameB (s.drop (k + 1))
def insideB (p d : Txt) : Bool := (d ++ [47]).isPrefixOf p

/-! ### things -/
structure Th where
  path : Txt
  dir : Bool
  at_ : Nat
instance : Inhabited Th := ⟨⟨[], false, 0⟩⟩
structure Ch where
  text : Txt
  cut : Bool
  size : Nat
instance : Inhabited Ch := ⟨⟨[], false, 0⟩⟩
structure By where
  now : Txt
  safe : Txt
  steps : List Ch
instance : Inhabited By := ⟨⟨[], [], []⟩⟩
inductive St where
  | mkdir (a : Txt)
  | create (a : Txt) (i : Nat)
  | rename (a b : Txt)
  | remove (a : Txt)
structure Ds where
  things : List Th
  safe : List Th
  steps : List St
  files : List By
  cap : Nat
  off : Bool
  await : Nat

def findT (l : List Th) (p : Txt) : Option Th := l.find? fun x => x.path == p
/-- 0: no such thing, 1: a file, 2: a directory. -/
def isT (l : List Th) (p : Txt) : Nat := match findT l p with | none => 0 | some x => if x.dir then 2 else 1
def parentB (l : List Th) (p : Txt) : Bool := match slashAt p with | none => true | some k => isT l (p.take k) == 2
def applyS (l : List Th) : St → List Th
  | .mkdir a => l ++ [⟨a, true, 0⟩]
  | .create a i => l ++ [⟨a, false, i⟩]
  | .remove a => l.filter fun x => !(x.path == a || insideB x.path a)
  | .rename a b => (l.filter fun x => !(x.path == b)).map fun x => if x.path == a then { x with path := b } else if insideB x.path a then { x with path := b ++ x.path.drop a.length } else x

/-! ### the calls -/
def stepD (d : Ds) : Nat × Ds := if d.await = 0 then (0, d) else if d.await = 1 then (1, { d with await := 0, off := true }) else (0, { d with await := d.await - 1 })
def namesD (d : Ds) (s : St) : Nat × Ds :=
  if (stepD d).1 ≠ 0 then stepD d else (0, { (stepD d).2 with things := applyS d.things s, steps := d.steps ++ [s] })
def mkdirD (d : Ds) (s : Txt) : Nat × Ds := if d.off then (1, d) else if nameB s = false then (2, d) else if isT d.things s ≠ 0 then (5, d) else namesD d (.mkdir s)
def createD (d : Ds) (s : Txt) : Nat × Ds :=
  if d.off then (1, d) else if pathB s = false then (2, d) else if parentB d.things s = false then (4, d) else if isT d.things s ≠ 0 then (5, d) else
  if (stepD d).1 ≠ 0 then stepD d else (0, { (namesD d (.create s d.files.length)).2 with files := d.files ++ [⟨[], [], []⟩] })
def fileT (l : List Th) (s : Txt) : Except Nat Nat := match findT l s with | none => .error 4 | some x => if x.dir then .error 3 else .ok x.at_
/-- The number of a file's bytes, or the failure. -/
def fileD (d : Ds) (s : Txt) : Except Nat Nat := if d.off then .error 1 else if pathB s = false then .error 2 else fileT d.things s
def nowAt (d : Ds) (i : Nat) : Txt := (d.files[i]?.getD default).now
def usedL (d : Ds) (l : List Th) : Nat := (l.map fun x => if x.dir then 0 else (nowAt d x.at_).length).sum
def usedD (d : Ds) : Nat := if d.off then 0 else usedL d d.things
def setF (d : Ds) (i : Nat) (f : By) : Ds := { d with files := d.files.set i f }
def fAt (d : Ds) (i : Nat) : By := d.files[i]?.getD default
def appendD (d : Ds) (s text : Txt) : Nat × Ds :=
  match fileD d s with
  | .error e => (e, d)
  | .ok i => if d.cap < usedD d + text.length then (7, d) else if (stepD d).1 ≠ 0 then stepD d else
    (0, setF (stepD d).2 i { fAt d i with now := (fAt d i).now ++ text, steps := (fAt d i).steps ++ [⟨text, false, 0⟩] })
def cutD (d : Ds) (s : Txt) (n : Int) : Nat × Ds :=
  match fileD d s with
  | .error e => (e, d)
  | .ok i => if n < 0 ∨ ((fAt d i).now.length : Int) < n then (6, d) else if (stepD d).1 ≠ 0 then stepD d else
    (0, setF (stepD d).2 i { fAt d i with now := (fAt d i).now.take n.toNat, steps := (fAt d i).steps ++ [⟨[], true, n.toNat⟩] })
def syncD (d : Ds) (s : Txt) : Nat × Ds :=
  match fileD d s with
  | .error e => (e, d)
  | .ok i => if (stepD d).1 ≠ 0 then stepD d else (0, setF (stepD d).2 i ⟨(fAt d i).now, (fAt d i).now, []⟩)
def syncNamesD (d : Ds) : Nat × Ds := if d.off then (1, d) else if (stepD d).1 ≠ 0 then stepD d else (0, { (stepD d).2 with safe := d.things, steps := [] })
def renameD (d : Ds) (a b : Txt) : Nat × Ds :=
  if d.off then (1, d) else if pathB a = false ∨ pathB b = false then (2, d) else if isT d.things a = 2 ∧ nameB b = false then (2, d) else
  if isT d.things a = 0 ∨ parentB d.things b = false then (4, d) else
  if isT d.things b = 2 ∨ (isT d.things b = 1 ∧ (isT d.things a = 2 ∨ a = b)) then (5, d) else namesD d (.rename a b)
def removeD (d : Ds) (s : Txt) : Nat × Ds := if d.off then (1, d) else if pathB s = false then (2, d) else if isT d.things s = 0 then (4, d) else namesD d (.remove s)
def allD (d : Ds) (s : Txt) : Txt × Nat := match fileD d s with | .error e => ([], e) | .ok i => ((fAt d i).now, 0)
def flipT (s : Txt) (k : Nat) (m : UInt8) : Txt := s.take k ++ [(s[k]?.getD 0) ^^^ m] ++ s.drop (k + 1)
def flipD (d : Ds) (s : Txt) (k : Int) (m : UInt8) : Nat × Ds :=
  match fileD d s with
  | .error e => (e, d)
  | .ok i => if k < 0 ∨ ((fAt d i).now.length : Int) ≤ k then (6, d) else (0, setF d i ⟨flipT (fAt d i).now k.toNat m, flipT (fAt d i).now k.toNat m, []⟩)
def crashD (d : Ds) (n : Int) : Ds := { d with await := n.toNat }
/-- A name in a directory. -/
structure En where
  name : Txt
  dir : Bool
  size : Nat
instance : Inhabited En := ⟨⟨[], false, 0⟩⟩
/-- An entry at its place among the others: behind those whose name is not above its own. -/
def insE (x : En) : List En → List En
  | [] => [x]
  | y :: l => if x.name < y.name then x :: y :: l else y :: insE x l
def sortE (l : List En) : List En := l.foldl (fun acc x => insE x acc) []
def entD (d : Ds) (dir : Txt) : List En :=
  d.things.filterMap fun x =>
    if dir = [] then (if (slashAt x.path).isSome then none else some ⟨x.path, x.dir, if x.dir then 0 else (nowAt d x.at_).length⟩)
    else if insideB x.path dir then some ⟨x.path.drop (dir.length + 1), x.dir, if x.dir then 0 else (nowAt d x.at_).length⟩ else none
def listD (d : Ds) (dir : Txt) : List En × Nat :=
  if d.off then ([], 1) else if dir ≠ [] ∧ nameB dir = false then ([], 2) else if dir ≠ [] ∧ isT d.things dir = 1 then ([], 3) else if dir ≠ [] ∧ isT d.things dir = 0 then ([], 4) else (sortE (entD d dir), 0)
def shareN (wish : Int) (n : Nat) : Nat := if wish < 0 then 0 else wish.toNat % (n + 1)
/-- The units of what isn't safe. -/
def units (l : List Ch) : Nat := (l.map fun c => c.text.length + if c.cut then 1 else 0).sum
/-- The steps taken up with so many units left: the bytes, the units, whether no cut is lost. -/
def keepL : List Ch → Txt → Nat → Bool → Txt × Nat × Bool
  | [], now, left, z => (now, left, z)
  | c :: r, now, left, z => if c.cut then (if 0 < left then keepL r (now.take c.size) (left - 1) z else keepL r now left false) else keepL r (now ++ c.text.take (min left c.text.length)) (left - min left c.text.length) z
def keepF (f : By) (wish : Int) (zeros : Bool) : By :=
  let u := units f.steps
  let r := keepL f.steps f.safe (shareN wish u) zeros
  let now := if r.2.2 then r.1 ++ List.replicate (u - shareN wish u) 0 else r.1
  ⟨now, now, []⟩
/-- The numbers of the files, in the order of their paths. -/
def sortedF (l : List Th) : List En := sortE ((l.filter fun x => !x.dir).map fun x => ⟨x.path, false, x.at_⟩)
def keepAll (data : List Int) (zeros : Bool) : List En → Nat → List By → List By
  | [], _, fs => fs
  | x :: r, i, fs => keepAll data zeros r (i + 1) (fs.set x.size (keepF (fs[x.size]?.getD default) (if data = [] then 0 else data[i % data.length]?.getD 0) zeros))
def restartD (d : Ds) (n : Int) (data : List Int) (zeros : Bool) : Ds :=
  let l := (d.steps.take (shareN n d.steps.length)).foldl applyS d.safe
  { d with things := l, safe := l, steps := [], files := keepAll data zeros (sortedF l) 0 d.files, off := false, await := 0 }
def newD (cap : Int) : Ds := ⟨[], [], [], [], (min cap 67108864).toNat, false, 0⟩
end Go.Proofs.YtfpgbhimgfdddaaGreatDoor
