/- Merged (what the claim wants of): Words, SymPlain, DskPlain, Region, SMap, Texts. -/
import Derived.WalkKit
import Derived.Handy
import Derived.Lib.Hide
import Derived.Deep.Draws
import Derived.Deep.AppendLies
import Derived.Lib.SlicesCompact
import Derived.Shelf.Spec.SearchS
import Derived.StillTail
import Derived.Deep.QuietTactic
import Derived.BigQuiet
import Derived.Deep.RegionHeld3
import Derived.Deep.DrawnRows
import Derived.Deep.DeepCutAuto
import Derived.WalkSpells
import Derived.WalkLawsBesides
import Derived.Maps.RangeWalk
import Derived.Maps.OwnSet
import Derived.Maps.Views
import Derived.StringKeys
import Derived.Sort.KeysCollected
import Derived.Test.YtfpgbhimgfdddaaGreatDoorProg
import Derived.Laws.AppendOwnNone
import Derived.Sort.OwnSorted
import Derived.Deep.LoopGhost
import Derived.Deep.CutBlock
import Derived.IntWalk
set_option linter.unusedVariables false
set_option linter.unusedSimpArgs false
/- Words for memory that all walks of this family share: what a call may have changed (Kept), a block known whole (Blk), a slice that reads as a list (Elems). No program in sight. -/
namespace Go.Proofs.YtfpgbhimgfdddaaGreatDoor
open Go.RowKit

theorem vi {k : IntKind} {a b : Int} (h : a = b) : Value.int k a = Value.int k b := by rw [h]
theorem ret3 {a b c d e f : Value} (h : a = d) (h' : b = e) (h'' : c = f) : Ending.returned (.tuple #[a, b, c]) = .returned (.tuple #[d, e, f]) := by rw [h, h', h'']

/-- Below block number B, but for the blocks in ex, the world w' is as w was. -/
structure Kept (B : Nat) (ex : List Nat) (w w' : World) : Prop where
  os : w'.os = w.os
  tape : w'.tape = w.tape
  output : w'.output = w.output
  size : w.heap.size ≤ w'.heap.size
  block : ∀ k, k < B → k ∉ ex → w'.heap[k]? = w.heap[k]?

section
variable {B : Nat} {ex : List Nat} {a w w' : World}
theorem Kept.refl (B : Nat) (ex : List Nat) (w : World) : Kept B ex w w := ⟨rfl, rfl, rfl, Nat.le_refl _, fun _ _ _ => rfl⟩
theorem Kept.trans (h : Kept B ex a w) (k : Kept B ex w w') : Kept B ex a w' :=
  ⟨k.os.trans h.os, k.tape.trans h.tape, k.output.trans h.output, Nat.le_trans h.size k.size, fun i hi hx => (k.block i hi hx).trans (h.block i hi hx)⟩
theorem Kept.mono {B' : Nat} {ex' : List Nat} (h : Kept B ex w w') (hB : B' ≤ B) (hx : ∀ k, k < B' → k ∈ ex → k ∈ ex') : Kept B' ex' w w' :=
  ⟨h.os, h.tape, h.output, h.size, fun k hk hn => h.block k (by omega) (fun hm => hn (hx k hk hm))⟩
theorem Kept.of_below (h : Below B w w') : Kept B ex w w' := ⟨h.os, h.tape, h.output, h.size, fun k hk _ => h.block k hk⟩
theorem Kept.below (h : Kept B ex w w') (hx : ∀ k ∈ ex, B ≤ k) : Below B w w' :=
  ⟨h.os, h.tape, h.output, h.size, fun k hk => h.block k hk (fun hm => by have := hx k hm; omega)⟩
theorem Kept.drew (h : Kept B ex a w) : Kept B ex a w.drew := ⟨h.os, h.tape, h.output, h.size, h.block⟩
theorem Kept.alloc (h : Kept B ex a w) (hB : B ≤ w.heap.size) (o : Obj) : Kept B ex a (w.alloc o) := h.trans (.of_below ((Below.refl _ _).alloc hB o))
theorem Kept.setCell (h : Kept B ex a w) {p : Addr} (hp : p.block ∈ ex ∨ B ≤ p.block) (u : Value) : Kept B ex a (w.setCell p u) :=
  h.trans ⟨rfl, rfl, rfl, by simp [World.setCell], fun k hk hn => Below.heap_setCell _ _ _ _ (by rintro rfl; rcases hp with hp | hp; exact hn hp; omega)⟩
theorem Kept.grown {row : Option Nat} (h : Kept B ex a w) (hg : w.grownBy w' row) (hB : B ≤ w.heap.size) (hr : ∀ k, row = some k → k ∈ ex ∨ B ≤ k) : Kept B ex a w' :=
  h.trans ⟨hg.os, hg.tape, hg.output, hg.size, fun k hk hn => hg.block k (by omega) (fun e => by rcases hr k e.symm with h | h; exact hn h; omega)⟩
theorem Kept.cell (h : Kept B ex w w') {p : Addr} (hp : p.block < B) (hn : p.block ∉ ex) : w'.cell? p = w.cell? p := World.cell?_of_block (w := w) (h.block p.block hp hn)
theorem Kept.frozen (h : Kept B ex w w') {p : Addr} (hp : p.block < B) (hn : p.block ∉ ex) : w'.frozen? p = w.frozen? p := World.frozen?_of_block (w := w) (h.block p.block hp hn)
end

theorem lt_of_cell {w : World} {a : Addr} {v : Value} (h : w.cell? a = some v) : a.block < w.heap.size := by
  rcases Nat.lt_or_ge a.block w.heap.size with hlt | hge
  · exact hlt
  · unfold World.cell? at h; rw [Array.getElem?_eq_none hge] at h; cases h
/-- A cell that was there is there in every later world. -/
theorem later {w w' : World} (hb : Below w.heap.size w w') {a : Addr} {v : Value} (h : w.cell? a = some v) : w'.cell? a = some v := (hb.cell (lt_of_cell h)).trans h
/-- Two steps of growing, one behind the other. -/
theorem then_ {w w1 w2 : World} (h : Below w.heap.size w w1) (h' : Below w1.heap.size w1 w2) : Below w.heap.size w w2 := h.trans (h'.mono h.size)
theorem Kept.then_ {w w1 w2 : World} {ex : List Nat} (h : Kept w.heap.size ex w w1) (h' : Below w1.heap.size w1 w2) : Kept w.heap.size ex w w2 := h.trans (.of_below (h'.mono h.size))
theorem Kept.later {w w' : World} {ex : List Nat} (hb : Kept w.heap.size ex w w') {a : Addr} {v : Value} (h : w.cell? a = some v) (hn : a.block ∉ ex) : w'.cell? a = some v := (hb.cell (lt_of_cell h) hn).trans h

/-- Block g is just the cells cs of element type t, none frozen. -/
def Blk (w : World) (g : Nat) (t : TypeId) (cs : Array Value) : Prop := w.heap[g]? = some (.cells cs t (0, 0))

section
variable {w w' : World} {g : Nat} {t : TypeId} {cs : Array Value}
theorem Blk.lt (h : Blk w g t cs) : g < w.heap.size := by
  rcases Nat.lt_or_ge g w.heap.size with hlt | hge
  · exact hlt
  · unfold Blk at h; rw [Array.getElem?_eq_none hge] at h; cases h
theorem Blk.cell (h : Blk w g t cs) (i : Nat) : w.cell? ⟨g, i, none⟩ = cs[i]? := cell_of_row w g i cs t (0, 0) h
theorem Blk.frozen (h : Blk w g t cs) (i : Nat) : w.frozen? ⟨g, i, none⟩ = false := by
  unfold Blk at h
  simp [World.frozen?, h]
theorem Blk.new (w : World) (t : TypeId) (cs : Array Value) : Blk (w.alloc (.cells cs t)) w.heap.size t cs := heap_alloc_new w _
theorem Blk.newAt (h : g = w.heap.size) : Blk (w.alloc (.cells cs t)) g t cs := by subst h; exact Blk.new w t cs
theorem Blk.drew (h : Blk w g t cs) : Blk w.drew g t cs := h
theorem Blk.drewN (h : Blk w g t cs) (n : Nat) : Blk (w.drewN n) g t cs := h
theorem Blk.alloc (h : Blk w g t cs) (o : Obj) : Blk (w.alloc o) g t cs := (Below.heap_alloc w o g h.lt).trans h
theorem Blk.set_ (h : Blk w g t cs) (i : Nat) (u : Value) : Blk (w.setCell ⟨g, i, none⟩ u) g t (cs.setIfInBounds i u) := by
  unfold Blk at h ⊢
  simp [World.setCell, Array.getElem?_modify, h]
theorem Blk.far (h : Blk w g t cs) {p : Addr} (hp : g ≠ p.block) (u : Value) : Blk (w.setCell p u) g t cs := (Below.heap_setCell w p u g hp).trans h
theorem Blk.below {B : Nat} (h : Blk w g t cs) (hb : Below B w w') (hg : g < B) : Blk w' g t cs := (hb.block g hg).trans h
theorem Blk.kept {B : Nat} {ex : List Nat} (h : Blk w g t cs) (hb : Kept B ex w w') (hg : g < B) (hn : g ∉ ex) : Blk w' g t cs := (hb.block g hg hn).trans h
theorem Blk.grown {row : Option Nat} (h : Blk w g t cs) (hb : w.grownBy w' row) (hg : some g ≠ row) : Blk w' g t cs := (hb.block g h.lt hg).trans h
theorem Blk.ne_ {g' : Nat} {t' : TypeId} {cs' : Array Value} (h : Blk w g t cs) (h' : Blk w g' t' cs') (hne : t ≠ t') : g ≠ g' := by
  rintro rfl
  unfold Blk at h h'
  rw [h] at h'
  injection h' with h'
  injection h' with _ ht
  exact hne ht
end

theorem news_of_blk {w : World} {g : Nat} {t : TypeId} {l : List Value} (h : Blk w g t l.toArray) : ∀ j u, l[j]? = some u → w.cell? ((⟨g, 0, none⟩ : Addr).add j) = some u := by
  intro j u hu
  have e : (⟨g, 0, none⟩ : Addr).add j = ⟨g, j, none⟩ := by unfold Addr.add; split <;> simp_all
  rw [e, h.cell]
  simpa using hu

/-- An int as an element of one cell. -/
def I1 (i : Int) : List Value := [.int .i64 i]
theorem flatMap_I1 (l : List Int) : l.map (Value.int .i64) = l.flatMap I1 := by
  induction l with
  | nil => rfl
  | cons x l ih => simp [I1, ih]

/-- The slice '.slice A n _' lies below block B and reads as the list xs, each element laid out in sz cells by enc. -/
def Elems {α : Type} (w : World) (B sz : Nat) (enc : α → List Value) (A : Option Addr) (n : Nat) (xs : List α) : Prop :=
  xs.length = n ∧ (0 < n → ∃ b off, A = some ⟨b, off, none⟩ ∧ b < B ∧ ∀ i x, xs[i]? = some x → ∀ j v, (enc x)[j]? = some v → w.cell? ⟨b, off + i * sz + j, none⟩ = some v)

section
variable {α : Type} {w w' : World} {B B' sz n : Nat} {enc : α → List Value} {A : Option Addr} {xs : List α}
theorem Elems.keep (h : Elems w B sz enc A n xs) (hk : ∀ p : Addr, p.block < B → w'.cell? p = w.cell? p) : Elems w' B sz enc A n xs :=
  ⟨h.1, fun hn => by
    obtain ⟨b, off, e, hb, hc⟩ := h.2 hn
    exact ⟨b, off, e, hb, fun i x hx j v hv => (hk _ hb).trans (hc i x hx j v hv)⟩⟩
theorem Elems.more (h : Elems w B sz enc A n xs) (hB : B ≤ B') : Elems w B' sz enc A n xs :=
  ⟨h.1, fun hn => by
    obtain ⟨b, off, e, hb, hc⟩ := h.2 hn
    exact ⟨b, off, e, by omega, hc⟩⟩
theorem Elems.below (h : Elems w B sz enc A n xs) (hb : Below B w w') : Elems w' B sz enc A n xs := h.keep fun _ hp => hb.cell hp
theorem Elems.kept {ex : List Nat} (h : Elems w B sz enc A n xs) (hb : Kept B ex w w') (hx : ∀ k ∈ ex, B ≤ k) : Elems w' B sz enc A n xs := h.below (hb.below hx)
theorem Elems.nil_ : Elems w B sz enc A 0 [] := ⟨rfl, fun h => absurd h (by omega)⟩
theorem Elems.of_own {base : Nat} {e : TypeId} {v : Value} {ys : List Value} (hsz : ∀ x ∈ xs, (enc x).length = sz) (hys : ys = xs.flatMap enc) (h : w.ownsRow base e sz v n ys) (hn : xs.length = n) :
    ∃ A c, v = .slice A n c ∧ Elems w w.heap.size sz enc A n xs ∧ (∀ a, A = some a → base ≤ a.block) ∧ n ≤ c := by
  rcases h.2 with ⟨rfl, rfl⟩ | ⟨g, cap, cur, rfl, hb, hh, hnc, _, hsize, htk⟩
  · exact ⟨none, 0, rfl, ⟨hn, fun h => absurd h (by omega)⟩, (fun a h => by cases h), Nat.le_refl _⟩
  · refine ⟨_, cap, rfl, ⟨hn, fun _ => ⟨g, 0, rfl, ?_, fun i x hx j v hv => ?_⟩⟩, (fun a h => by injection h with h; subst h; exact hb), hnc⟩
    · rcases Nat.lt_or_ge g w.heap.size with hlt | hge
      · exact hlt
      · rw [Array.getElem?_eq_none hge] at hh; cases hh
    · have hcell : w.cell? ⟨g, 0 + i * sz + j, none⟩ = cur[0 + i * sz + j]? := cell_of_row w g _ cur e (0, 0) hh
      rw [hcell]
      have key : ∀ (l : List α) (i : Nat), (∀ x ∈ l, (enc x).length = sz) → l[i]? = some x → (l.flatMap enc)[i * sz + j]? = some v := by
        intro l
        induction l with
        | nil => intro i _ h; simp at h
        | cons y l ih =>
          intro i hl hi
          cases i with
          | zero =>
            simp only [List.getElem?_cons_zero, Option.some.injEq] at hi
            subst hi
            have hj : j < (enc y).length := (List.getElem?_eq_some_iff.1 hv).1
            rw [List.flatMap_cons, List.getElem?_append_left (by omega)]
            simpa using hv
          | succ i =>
            rw [List.flatMap_cons, List.getElem?_append_right (by rw [hl y (by simp), Nat.succ_mul]; omega), hl y (by simp), show (i + 1) * sz + j - sz = i * sz + j by rw [Nat.succ_mul]; omega]
            exact ih i (fun z hz => hl z (by simp [hz])) (by simpa using hi)
      have h1 := key xs i hsz hx
      rw [← hys, ← htk, List.getElem?_take] at h1
      split at h1
      · simpa using h1
      · cases h1
/-- A slice cut at its head: 's[k:]'. -/
theorem Elems.cut (h : Elems w B sz enc A n xs) {k cap : Nat} (hk : k ≤ n) (hc : n ≤ cap) :
    Elems w B sz enc (if cap = k then A else A.map (·.add (k * sz))) (n - k) (xs.drop k) := by
  refine ⟨by rw [List.length_drop, h.1], fun hn => ?_⟩
  obtain ⟨b, off, rfl, hb, hcell⟩ := h.2 (by omega)
  rw [if_neg (by omega)]
  refine ⟨b, off + k * sz, by simp only [Option.map_some, Addr.add]; split <;> simp_all, hb, fun i x hx j v hv => ?_⟩
  rw [List.getElem?_drop] at hx
  have := hcell (k + i) x hx j v hv
  rw [Nat.add_mul] at this
  rw [← this]
  congr 2
  omega
theorem Elems.len (h : Elems w B sz enc A n xs) : xs.length = n := h.1
end
end Go.Proofs.YtfpgbhimgfdddaaGreatDoor

/- The plain law of layer 5 (symbols): tables of texts, merging, numbers. No program in sight. -/
namespace Go.Proofs.YtfpgbhimgfdddaaGreatDoor

abbrev Txt := List UInt8
/-- Rising texts. -/
def Asc (t : List Txt) : Prop := t.Pairwise (· < ·)
/-- The table of the texts l. -/
def IsTab (l t : List Txt) : Prop := Asc t ∧ ∀ x, x ∈ t ↔ x ∈ l

theorem txt_tri {a b : Txt} (h : ¬ a < b) (h' : ¬ b < a) : a = b := List.le_antisymm (List.not_lt.1 h') (List.not_lt.1 h)
theorem txt_lt_ne {a b : Txt} (h : a ≤ b) (h' : b ≠ a) : a < b := by
  by_cases e : a < b
  · exact e
  · exact absurd (List.le_antisymm (List.not_lt.1 e) h) h'

theorem asc_one : ∀ {t t' : List Txt}, Asc t → Asc t' → (∀ x, x ∈ t ↔ x ∈ t') → t = t'
  | [], [], _, _, _ => rfl
  | [], b :: s', _, _, h => by have := (h b).2 (by simp); simp at this
  | a :: s, [], _, _, h => by have := (h a).1 (by simp); simp at this
  | a :: s, b :: s', h1, h2, h => by
    have ha := List.pairwise_cons.1 h1
    have hb := List.pairwise_cons.1 h2
    have hab : a = b := by
      apply txt_tri
      · intro hlt
        rcases List.mem_cons.1 ((h a).1 (by simp)) with e | e
        · exact List.lt_irrefl a (by rw [e] at hlt ⊢; exact hlt)
        · exact List.lt_asymm hlt (hb.1 a e)
      · intro hlt
        rcases List.mem_cons.1 ((h b).2 (by simp)) with e | e
        · exact List.lt_irrefl b (by rw [e] at hlt ⊢; exact hlt)
        · exact List.lt_asymm hlt (ha.1 b e)
    subst hab
    rw [asc_one ha.2 hb.2 fun x => ?_]
    constructor
    · intro hx
      rcases List.mem_cons.1 ((h x).1 (by simp [hx])) with e | e
      · subst e; exact absurd (ha.1 x hx) (List.lt_irrefl x)
      · exact e
    · intro hx
      rcases List.mem_cons.1 ((h x).2 (by simp [hx])) with e | e
      · subst e; exact absurd (hb.1 x hx) (List.lt_irrefl x)
      · exact e
theorem IsTab.one {l t t' : List Txt} (h : IsTab l t) (h' : IsTab l t') : t = t' := asc_one h.1 h'.1 fun x => (h.2 x).trans (h'.2 x).symm
theorem IsTab.nil : IsTab [] [] := ⟨List.Pairwise.nil, fun _ => Iff.rfl⟩

/-! ### sorted and made single -/

/-! ### merged -/

/-! ### numbers -/
/-- How many texts are below s. -/
def below (t : List Txt) (s : Txt) : Nat := t.countP fun x => decide (x < s)
end Go.Proofs.YtfpgbhimgfdddaaGreatDoor

/- The plain law of layer 3 (disk): what each call answers and leaves. No program in sight. -/
namespace Go.Proofs.YtfpgbhimgfdddaaGreatDoor

/-! ### names and paths -/
def nameC (b : UInt8) : Bool := (decide (97 ≤ b.toNat) && decide (b.toNat ≤ 122)) || (decide (48 ≤ b.toNat) && decide (b.toNat ≤ 57)) || b.toNat == 46 || b.toNat == 45
def nameB (s : Txt) : Bool := s.all nameC && decide (1 ≤ s.length) && decide (s.length ≤ 32)
/-- The place of the first slash. -/
def slashAt : Txt → Option Nat
  | [] => none
  | b :: l => if b = 47 then some 0 else (slashAt l).map (· + 1)
def pathB (s : Txt) : Bool := match slashAt s with | none => nameB s | some k => nameB (s.take k) && nameB (s.drop (k + 1))
def insideB (p d : Txt) : Bool := (d ++ [47]).isPrefixOf p

/-! ### things -/
structure Th where
  path : Txt
  dir : Bool
  at_ : Nat
instance : Inhabited Th := ⟨⟨[], false, 0⟩⟩
structure Ch where
  text : Txt
  cut : Bool
  size : Nat
instance : Inhabited Ch := ⟨⟨[], false, 0⟩⟩
structure By where
  now : Txt
  safe : Txt
  steps : List Ch
instance : Inhabited By := ⟨⟨[], [], []⟩⟩
inductive St where
  | mkdir (a : Txt)
  | create (a : Txt) (i : Nat)
  | rename (a b : Txt)
  | remove (a : Txt)
structure Ds where
  things : List Th
  safe : List Th
  steps : List St
  files : List By
  cap : Nat
  off : Bool
  await : Nat

def findT (l : List Th) (p : Txt) : Option Th := l.find? fun x => x.path == p
/-- 0: no such thing, 1: a file, 2: a directory. -/
def isT (l : List Th) (p : Txt) : Nat := match findT l p with | none => 0 | some x => if x.dir then 2 else 1
def parentB (l : List Th) (p : Txt) : Bool := match slashAt p with | none => true | some k => isT l (p.take k) == 2
def applyS (l : List Th) : St → List Th
  | .mkdir a => l ++ [⟨a, true, 0⟩]
  | .create a i => l ++ [⟨a, false, i⟩]
  | .remove a => l.filter fun x => !(x.path == a || insideB x.path a)
  | .rename a b => (l.filter fun x => !(x.path == b)).map fun x => if x.path == a then { x with path := b } else if insideB x.path a then { x with path := b ++ x.path.drop a.length } else x

/-! ### the calls -/
def stepD (d : Ds) : Nat × Ds := if d.await = 0 then (0, d) else if d.await = 1 then (1, { d with await := 0, off := true }) else (0, { d with await := d.await - 1 })
def namesD (d : Ds) (s : St) : Nat × Ds :=
  if (stepD d).1 ≠ 0 then stepD d else (0, { (stepD d).2 with things := applyS d.things s, steps := d.steps ++ [s] })
def mkdirD (d : Ds) (s : Txt) : Nat × Ds := if d.off then (1, d) else if nameB s = false then (2, d) else if isT d.things s ≠ 0 then (5, d) else namesD d (.mkdir s)
def createD (d : Ds) (s : Txt) : Nat × Ds :=
  if d.off then (1, d) else if pathB s = false then (2, d) else if parentB d.things s = false then (4, d) else if isT d.things s ≠ 0 then (5, d) else
  if (stepD d).1 ≠ 0 then stepD d else (0, { (namesD d (.create s d.files.length)).2 with files := d.files ++ [⟨[], [], []⟩] })
def fileT (l : List Th) (s : Txt) : Except Nat Nat := match findT l s with | none => .error 4 | some x => if x.dir then .error 3 else .ok x.at_
/-- The number of a file's bytes, or the failure. -/
def fileD (d : Ds) (s : Txt) : Except Nat Nat := if d.off then .error 1 else if pathB s = false then .error 2 else fileT d.things s
def nowAt (d : Ds) (i : Nat) : Txt := (d.files[i]?.getD default).now
def usedL (d : Ds) (l : List Th) : Nat := (l.map fun x => if x.dir then 0 else (nowAt d x.at_).length).sum
def usedD (d : Ds) : Nat := if d.off then 0 else usedL d d.things
def setF (d : Ds) (i : Nat) (f : By) : Ds := { d with files := d.files.set i f }
def fAt (d : Ds) (i : Nat) : By := d.files[i]?.getD default
def appendD (d : Ds) (s text : Txt) : Nat × Ds :=
  match fileD d s with
  | .error e => (e, d)
  | .ok i => if d.cap < usedD d + text.length then (7, d) else if (stepD d).1 ≠ 0 then stepD d else
    (0, setF (stepD d).2 i { fAt d i with now := (fAt d i).now ++ text, steps := (fAt d i).steps ++ [⟨text, false, 0⟩] })
def cutD (d : Ds) (s : Txt) (n : Int) : Nat × Ds :=
  match fileD d s with
  | .error e => (e, d)
  | .ok i => if n < 0 ∨ ((fAt d i).now.length : Int) < n then (6, d) else if (stepD d).1 ≠ 0 then stepD d else
    (0, setF (stepD d).2 i { fAt d i with now := (fAt d i).now.take n.toNat, steps := (fAt d i).steps ++ [⟨[], true, n.toNat⟩] })
def syncD (d : Ds) (s : Txt) : Nat × Ds :=
  match fileD d s with
  | .error e => (e, d)
  | .ok i => if (stepD d).1 ≠ 0 then stepD d else (0, setF (stepD d).2 i ⟨(fAt d i).now, (fAt d i).now, []⟩)
def syncNamesD (d : Ds) : Nat × Ds := if d.off then (1, d) else if (stepD d).1 ≠ 0 then stepD d else (0, { (stepD d).2 with safe := d.things, steps := [] })
def renameD (d : Ds) (a b : Txt) : Nat × Ds :=
  if d.off then (1, d) else if pathB a = false ∨ pathB b = false then (2, d) else if isT d.things a = 2 ∧ nameB b = false then (2, d) else
  if isT d.things a = 0 ∨ parentB d.things b = false then (4, d) else
  if isT d.things b = 2 ∨ (isT d.things b = 1 ∧ (isT d.things a = 2 ∨ a = b)) then (5, d) else namesD d (.rename a b)
def removeD (d : Ds) (s : Txt) : Nat × Ds := if d.off then (1, d) else if pathB s = false then (2, d) else if isT d.things s = 0 then (4, d) else namesD d (.remove s)
def allD (d : Ds) (s : Txt) : Txt × Nat := match fileD d s with | .error e => ([], e) | .ok i => ((fAt d i).now, 0)
def flipT (s : Txt) (k : Nat) (m : UInt8) : Txt := s.take k ++ [(s[k]?.getD 0) ^^^ m] ++ s.drop (k + 1)
def flipD (d : Ds) (s : Txt) (k : Int) (m : UInt8) : Nat × Ds :=
  match fileD d s with
  | .error e => (e, d)
  | .ok i => if k < 0 ∨ ((fAt d i).now.length : Int) ≤ k then (6, d) else (0, setF d i ⟨flipT (fAt d i).now k.toNat m, flipT (fAt d i).now k.toNat m, []⟩)
def crashD (d : Ds) (n : Int) : Ds := { d with await := n.toNat }
/-- A name in a directory. -/
structure En where
  name : Txt
  dir : Bool
  size : Nat
instance : Inhabited En := ⟨⟨[], false, 0⟩⟩
/-- An entry at its place among the others: behind those whose name is not above its own. -/
def insE (x : En) : List En → List En
  | [] => [x]
  | y :: l => if x.name < y.name then x :: y :: l else y :: insE x l
def sortE (l : List En) : List En := l.foldl (fun acc x => insE x acc) []
def entD (d : Ds) (dir : Txt) : List En :=
  d.things.filterMap fun x =>
    if dir = [] then (if (slashAt x.path).isSome then none else some ⟨x.path, x.dir, if x.dir then 0 else (nowAt d x.at_).length⟩)
    else if insideB x.path dir then some ⟨x.path.drop (dir.length + 1), x.dir, if x.dir then 0 else (nowAt d x.at_).length⟩ else none
def listD (d : Ds) (dir : Txt) : List En × Nat :=
  if d.off then ([], 1) else if dir ≠ [] ∧ nameB dir = false then ([], 2) else if dir ≠ [] ∧ isT d.things dir = 1 then ([], 3) else if dir ≠ [] ∧ isT d.things dir = 0 then ([], 4) else (sortE (entD d dir), 0)
def shareN (wish : Int) (n : Nat) : Nat := if wish < 0 then 0 else wish.toNat % (n + 1)
/-- The units of what isn't safe. -/
def units (l : List Ch) : Nat := (l.map fun c => c.text.length + if c.cut then 1 else 0).sum
/-- The steps taken up with so many units left: the bytes, the units, whether no cut is lost. -/
def keepL : List Ch → Txt → Nat → Bool → Txt × Nat × Bool
  | [], now, left, z => (now, left, z)
  | c :: r, now, left, z => if c.cut then (if 0 < left then keepL r (now.take c.size) (left - 1) z else keepL r now left false) else keepL r (now ++ c.text.take (min left c.text.length)) (left - min left c.text.length) z
def keepF (f : By) (wish : Int) (zeros : Bool) : By :=
  let u := units f.steps
  let r := keepL f.steps f.safe (shareN wish u) zeros
  let now := if r.2.2 then r.1 ++ List.replicate (u - shareN wish u) 0 else r.1
  ⟨now, now, []⟩
/-- The numbers of the files, in the order of their paths. -/
def sortedF (l : List Th) : List En := sortE ((l.filter fun x => !x.dir).map fun x => ⟨x.path, false, x.at_⟩)
def keepAll (data : List Int) (zeros : Bool) : List En → Nat → List By → List By
  | [], _, fs => fs
  | x :: r, i, fs => keepAll data zeros r (i + 1) (fs.set x.size (keepF (fs[x.size]?.getD default) (if data = [] then 0 else data[i % data.length]?.getD 0) zeros))
def restartD (d : Ds) (n : Int) (data : List Int) (zeros : Bool) : Ds :=
  let l := (d.steps.take (shareN n d.steps.length)).foldl applyS d.safe
  { d with things := l, safe := l, steps := [], files := keepAll data zeros (sortedF l) 0 d.files, off := false, await := 0 }
def newD (cap : Int) : Ds := ⟨[], [], [], [], (min cap 67108864).toNat, false, 0⟩
end Go.Proofs.YtfpgbhimgfdddaaGreatDoor

/- Regions that draw their order: operations that read and calls that only make new memory, walked once in the order of the text, a forced tail behind them (a store, a new block). No program in sight. -/
namespace Go.Proofs.YtfpgbhimgfdddaaGreatDoor
open Go.RowKit

/-- A world that has grown out of w: all that stood in w stands in it unchanged. -/
structure Later (w0 : World) where
  w : World
  h : Below w0.heap.size w0 w

instance Later.some {w : World} : Nonempty (Later w) := ⟨⟨w, Below.refl _ _⟩⟩

theorem Later.cell {w : World} (x : Later w) (b o : Nat) (hb : b < w.heap.size) : x.w.cell? ⟨b, o, none⟩ = w.cell? ⟨b, o, none⟩ := x.h.cell (p := ⟨b, o, none⟩) hb
theorem Later.frozen {w : World} (x : Later w) (b o : Nat) (hb : b < w.heap.size) : x.w.frozen? ⟨b, o, none⟩ = w.frozen? ⟨b, o, none⟩ := x.h.frozen (p := ⟨b, o, none⟩) hb

/-- A callee whose contract says that it only made new memory, met in a world that has grown. -/
theorem quiet_later {P : Program} {f : FuncId} {args : Array Value} {w : World} (x : Later w) {v : Value} (h : Calls P f args x.w fun e w' => e = .returned v ∧ Below x.w.heap.size x.w w') :
    Calls P f args x.w fun e w'' => e = .returned v ∧ ∃ y : Later w, w'' = y.w :=
  h.mono fun _ w' ⟨he, hb⟩ => ⟨he, ⟨w', then_ x.h hb⟩, rfl⟩
theorem quiet_same {P : Program} {f : FuncId} {args : Array Value} {w : World} (x : Later w) {v : Value} (h : Calls P f args x.w fun e w' => e = .returned v ∧ x.w = w') :
    Calls P f args x.w fun e w'' => e = .returned v ∧ ∃ y : Later w, w'' = y.w :=
  h.mono fun _ _ ⟨he, hb⟩ => ⟨he, x, hb.symm⟩

section
variable {P : Program} {ops : Array Oper} {md : Region.Mode} {C : World → Prop}

/-- Up to n operations come up, in whatever order, each quiet in the class; then L. -/
def wpAnyT (P : Program) (md : Region.Mode) (ops : Array Oper) (C : World → Prop) (n : Nat) (L : Array Bool → Act → Prop) : Nat → Array Bool → Act → Prop
  | 0, listed, a => L listed a
  | f + 1, listed, a =>
    Region.ready md ops listed ≠ [] ∧ ∀ i ∈ Region.ready md ops listed, i < n ∧ qOp P ops C i (wpAnyT P md ops C n L f (listed.setIfInBounds i true)) a

theorem wpAny_of_T {n g : Nat} {L : Array Bool → Act → Prop} {Q' : Exit → Act → World → Prop} (hL : ∀ listed a w, C w → L listed a → wpAny P md ops Q' g listed a w) :
    ∀ (f : Nat) (listed : Array Bool) (a : Act) (w : World), C w → wpAnyT P md ops C n L f listed a → wpAny P md ops Q' (f + g) listed a w
  | 0, listed, a, w, hw, h => by rw [Nat.zero_add]; exact hL _ _ _ hw h
  | f + 1, listed, a, w, hw, h => by
    rw [show f + 1 + g = (f + g) + 1 by omega]
    exact ⟨fun h0 => absurd h0 h.1, fun i hi => wpOp_of_qOp hw (fun a' w' hw' h' => wpAny_of_T hL f _ a' w' hw' h') (h.2 i hi).2⟩

theorem wpAnyT_first {n i : Nat} {oi : Oper} {v : Value} {L : Array Bool → Act → Prop} (hi : ops[i]? = some oi) (hsel : ∀ (j : Nat) (o : Oper) cs b, ops[j]? = some o → o.op ≠ .select cs b)
    (hs : Region.sinkB md ops n = true) (hc : Region.chainB md ops n = true) (hn : n < ops.size) (hin : i < n)
    (hdone : ∀ listed a, L listed a → ∀ j ∈ Region.ready md ops listed, n ≤ j) :
    ∀ (f : Nat) (listed : Array Bool) (a : Act), HeadInv md ops n listed →
      (∀ j oj, ops[j]? = some oj → j ≠ i → listed.getD j true = false → (∀ e ∈ oj.after, Region.binds md e = true → e.on ≠ i) → oi.apart ops oj = true) →
      i ∈ Region.ready md ops listed → YieldsIn P ops C oi v a →
      wpAnyT P md ops C n L f (listed.setIfInBounds i true) (a.put oi.dst v) → wpAnyT P md ops C n L (f + 1) listed a := by
  intro f
  induction f with
  | zero =>
    intro listed a inv _ hr hy H
    refine ⟨fun h => (by rw [h] at hr; cases hr), fun j hj => ?_⟩
    have hjn : j < n := Nat.lt_of_not_le fun h => tail_waits hs hc hn inv _ i rfl hin (mem_ready.1 hr).1 j h hj
    refine ⟨hjn, ?_⟩
    by_cases hji : j = i
    · subst hji; exact hy.qOp hi H
    · exact absurd (hdone _ _ H j (ready_mono hj hji)) (by omega)
  | succ f ih =>
    intro listed a inv hfree hr hy H
    refine ⟨fun h => (by rw [h] at hr; cases hr), fun j hj => ?_⟩
    have hjn : j < n := Nat.lt_of_not_le fun h => tail_waits hs hc hn inv _ i rfl hin (mem_ready.1 hr).1 j h hj
    refine ⟨hjn, ?_⟩
    by_cases hji : j = i
    · subst hji; exact hy.qOp hi H
    obtain ⟨hjun, oj, hoj, hall⟩ := mem_ready.1 hj
    have hnot : ∀ e ∈ oj.after, Region.binds md e = true → e.on ≠ i := fun e he hb heq => by
      have h1 := hall e he hb
      rw [heq, getD_both (mem_ready.1 hr).1] at h1
      cases h1
    have h2 := qOp_put hoj (hfree j oj hoj hji hjun hnot) (fun cs b => hsel i oi cs b hi) (fun cs b => hsel j oj cs b hoj) hy (H.2 j (ready_mono hj hji)).2
    refine qOp_mono (fun a' h3 => ih (listed.setIfInBounds j true) a' (inv.set hj hjn) (fun k ok hk hki hun hno => hfree k ok hk hki ?_ hno) (ready_mono hr (Ne.symm hji)) h3.1 ?_) h2
    · by_cases hjk : j = k
      · subst hjk; exact hjun
      · rw [getD_set_ne true hjk] at hun; exact hun
    · rw [Array.setIfInBounds_comm _ _ hji]
      exact h3.2

theorem wpAnyT_lex {n g : Nat} {Lq : Act → Prop} (hsel : Region.noSelect ops = true) (hs : Region.sinkB md ops n = true) (hc : Region.chainB md ops n = true) (hn : n < ops.size) :
    ∀ (l : List Oper) (k : Nat) (listed : Array Bool) (a : Act), (∀ j, j < l.length → l[j]? = ops[k + j]?) → k + l.length = n → HeadInv md ops n listed →
    Region.lexHead md ops g l.length k listed = true → wpQuiet P ops C Lq l a →
    wpAnyT P md ops C n (fun listed' a' => Region.seqB md ops g n listed' = true ∧ Lq a') l.length listed a
  | [], k, listed, a, _, hk, _, hB, h => by
    have : k = n := by simpa using hk
    subst this
    exact ⟨by simpa [Region.lexHead] using hB, h⟩
  | o :: l, k, listed, a, hl, hk, inv, hB, h => by
    have h0 : ops[k]? = some o := by simpa using (hl 0 (by simp)).symm
    simp only [List.length_cons, Region.lexHead, Bool.and_eq_true] at hB
    obtain ⟨⟨hr, hf⟩, hB'⟩ := hB
    have hkn : k < n := by simp only [List.length_cons] at hk; omega
    have hr' : k ∈ Region.ready md ops listed := by simpa using hr
    have hst : qOp P ops C k (wpQuiet P ops C Lq l) a := by unfold qOp; simp only [h0]; exact h
    obtain ⟨v, hy, hK⟩ := yieldsIn_of_qOp h0 hst
    exact wpAnyT_first h0 (Region.noSelect_spec hsel) hs hc hn hkn (fun listed' a' hL => seqB_ready hL.1) l.length listed a inv (Region.free_spec h0 hf) hr' hy
      (wpAnyT_lex hsel hs hc hn l (k + 1) _ _ (fun j hj => by have := hl (j + 1) (by simp; omega); simpa [Nat.add_assoc, Nat.add_comm 1 j] using this) (by simp only [List.length_cons] at hk; omega) (inv.set hr' hkn) hB' hK)

/-- The first n operations are quiet in the class; what stands behind them has one order. -/
theorem wp_region_quiet_tail {id : Nat} {Q : Exit → Act → World → Prop} {a : Act} {w : World} {l : List Oper} (n : Nat) (hm : P.follows .mixedOrders = true) (hB : Region.lexTailB .any l.toArray n = true)
    (hC : C { w with drawn := w.drawn + 1 })
    (h : wpQuiet P l.toArray C (fun a' => ∀ w', C w' → wpList P l.toArray Q (l.drop n) a' w') (l.take n) a) : (Code.region id l.toArray true).wp P Q a w := by
  simp only [Region.lexTailB, Bool.and_eq_true, decide_eq_true_eq] at hB
  obtain ⟨⟨⟨⟨hsel, hn⟩, hs⟩, hc⟩, hlex⟩ := hB
  have hn' : n < l.length := by simpa using hn
  have htl : (l.take n).length = n := by simp; omega
  have hdl : (l.drop n).length = l.toArray.size - n := by simp
  have inv0 : HeadInv .any l.toArray n (Array.replicate l.toArray.size false) :=
    ⟨by simp, fun j oj _ hl => (by rw [getD_replicate_false] at hl; cases hl), fun t _ ht => getD_in (by simpa using ht) (getD_replicate_false _ _)⟩
  have H := wpAnyT_lex (md := .any) (g := l.toArray.size - n) hsel hs hc hn (l.take n) 0 _ a (fun j hj => by
    have hj' : j < n := by rw [htl] at hj; exact hj
    simp [hj']) (by simpa using htl) inv0 (by rw [htl]; exact hlex) h
  refine wp_region_any hm ?_
  have := wpAny_of_T (Q' := Q) (g := l.toArray.size - n) (fun listed a' w' hw' hL => by
    have := wpAny_of_seq (md := .any) (Q' := Q) (l.drop n) n listed a' w' (fun j => by simp [List.getElem?_drop]) (by rw [hdl]; exact hL.1) (hL.2 w' hw')
    rwa [hdl] at this) _ _ _ _ hC H
  rw [htl, show n + (l.toArray.size - n) = l.toArray.size by omega] at this
  exact this

/-- At the class of worlds that have grown out of w. -/
theorem wp_region_later {id : Nat} {Q : Exit → Act → World → Prop} {a : Act} {w : World} {l : List Oper} (hm : P.follows .mixedOrders = true) (hB : Region.lexB .any l.toArray = true)
    (h : wpQuiet P l.toArray (fun w' => ∃ x : Later w, w' = x.w) (fun a' => ∀ w', (∃ x : Later w, w' = x.w) → Q .normal a' w') l a) : (Code.region id l.toArray true).wp P Q a w :=
  wp_region_quiet (C := fun w' => ∃ x : Later w, w' = x.w) hm hB ⟨⟨w.drew, (Below.refl _ _).drew⟩, rfl⟩ (by simpa using h)
theorem wp_region_later_tail {id : Nat} {Q : Exit → Act → World → Prop} {a : Act} {w : World} {l : List Oper} (n : Nat) (hm : P.follows .mixedOrders = true) (hB : Region.lexTailB .any l.toArray n = true)
    (h : wpQuiet P l.toArray (fun w' => ∃ x : Later w, w' = x.w) (fun a' => ∀ w', (∃ x : Later w, w' = x.w) → wpList P l.toArray Q (l.drop n) a' w') (l.take n) a) : (Code.region id l.toArray true).wp P Q a w :=
  wp_region_quiet_tail (C := fun w' => ∃ x : Later w, w' = x.w) n hm hB ⟨⟨w.drew, (Below.refl _ _).drew⟩, rfl⟩ h
end
end Go.Proofs.YtfpgbhimgfdddaaGreatDoor

/- Maps whose keys are strings and whose elements are whatever values: what they hold as a function from texts; look-up, store, delete, range, copy. No program in sight. -/
namespace Go.Proofs.YtfpgbhimgfdddaaGreatDoor
open Go.RowKit Go.Maps Go.Sort

/-- Elements read as themselves. -/
def HR (v : Value) : Option (DataW Value × List MemPlace) := some (.held v, [])
/-- Block b is a map that holds at each key what f says. -/
def SMap (P : Program) (K : TypeId) (w : World) (b : Nat) (f : Txt → Option Value) : Prop :=
  ∃ D : DataW Value, w.ownsMap P K HR b (Maps.size D) D ∧ (∀ x, Maps.has D (.string x) = (f x).isSome) ∧ ∀ x v, f x = some v → ∀ z, D.atKey (.string x) z = .held v
/-- The function with one key set. -/
def upd (f : Txt → Option Value) (x : Txt) (v : Option Value) : Txt → Option Value := fun y => if y = x then v else f y

theorem nodup_len {α : Type} [DecidableEq α] : ∀ (l L : List α), l.Nodup → (∀ x ∈ l, x ∈ L) → l.length ≤ L.length
  | [], _, _, _ => by simp
  | a :: l, L, hn, h => by
    have ha := List.nodup_cons.1 hn
    have := nodup_len l (L.erase a) ha.2 (fun x hx => (List.mem_erase_of_ne (fun e : x = a => ha.1 (by rw [← e]; exact hx))).2 (h x (by simp [hx])))
    rw [List.length_erase_of_mem (h a (by simp))] at this
    have h0 : 0 < L.length := List.length_pos_of_mem (h a (by simp))
    simp only [List.length_cons]
    omega
section
variable {P : Program} {K T E : TypeId} {w w' : World} {b : Nat} {f : Txt → Option Value}

theorem owns_tight {n : Nat} {D : DataW Value} (h : w.ownsMap P K HR b n D) : w.ownsMap P K HR b (Maps.size D) D := by
  obtain ⟨es, clock, hb, F, hs, rfl⟩ := h
  exact ⟨es, clock, hb, F, by simp [Maps.size, length_sorted], rfl⟩
theorem SMap.lt (h : SMap P K w b f) : b < w.heap.size := by obtain ⟨D, h, _⟩ := h; exact h.lt
theorem SMap.grown {row : Option Nat} (h : SMap P K w b f) (hg : w.grownBy w' row) (hne : some b ≠ row) : SMap P K w' b f := by
  obtain ⟨D, h1, h2⟩ := h
  exact ⟨D, h1.kept hg hne, h2⟩
theorem SMap.same (h : SMap P K w b f) (hb : w'.heap[b]? = w.heap[b]?) : SMap P K w' b f := by
  obtain ⟨D, ⟨es, clock, h1, r⟩, h2⟩ := h
  exact ⟨D, ⟨es, clock, hb.trans h1, r⟩, h2⟩
theorem SMap.below {B : Nat} (h : SMap P K w b f) (hb : Below B w w') (hB : b < B) : SMap P K w' b f := h.same (hb.block b hB)
theorem SMap.made (w : World) : SMap P K (w.alloc (.map #[] 0)) w.heap.size fun _ => none :=
  ⟨.map [], World.ownsMap_made w P K HR, fun x => rfl, fun x v h => by cases h⟩
theorem SMap.keyed (hK : P.underlying K = some .string) : Keyed P K := string_keyed hK

/-- How many keys there are at the most. -/
theorem SMap.size_le (hK : P.underlying K = some .string) {D : DataW Value} {n : Nat} (h : w.ownsMap P K HR b n D) (L : List Txt) (hL : ∀ x, Maps.has D (.string x) = true → x ∈ L) : Maps.size D ≤ L.length := by
  obtain ⟨es, rfl, hpw⟩ := h.tidy (SMap.keyed hK)
  obtain ⟨es', e', hko⟩ := h.keysOf
  injection e' with e'
  subst e'
  have hstr : ∀ p ∈ es, ∃ x, p.1 = .string x := fun p hp => by
    obtain ⟨v, hv⟩ := hko p hp
    obtain ⟨x, _, hx, _⟩ := Maps.keyOf_str hK hv
    exact ⟨x, hx⟩
  rw [size_eq]
  have hnd : (es.map fun p => strOf p.1).Nodup := by
    refine List.pairwise_map.2 (hpw.imp_of_mem fun {p q} hp' hq' hne e => hne ?_)
    obtain ⟨a, ha⟩ := hstr p hp'
    obtain ⟨b, hb⟩ := hstr q hq'
    rw [ha, hb] at e ⊢
    exact congrArg _ e
  have hsub : ∀ x ∈ es.map (fun p => strOf p.1), x ∈ L := by
    intro x hx
    obtain ⟨p, hp, rfl⟩ := List.mem_map.1 hx
    obtain ⟨a, ha⟩ := hstr p hp
    apply hL
    rw [has_eq, List.any_eq_true]
    exact ⟨p, hp, by rw [ha]; simp [strOf, Lit.sameKey]⟩
  have := nodup_len _ L hnd hsub
  simpa using this

/-- 'm[k]'. -/
theorem SMap.look (h : SMap P K w b f) (hK : P.underlying K = some .string) (ht : P.underlying T = some (.map K E)) {z : Value} (hz : (zeroValue E).run P w = .ok z w) {s : ByteArray} (hs : s.size ≤ maxLen) :
    (Instr.lookup T (.map (some b)) (.string s) false).run P w = .ok ((f s.data.toList).getD z) w := by
  obtain ⟨D, h1, h2, h3⟩ := h
  obtain ⟨v, ps, hrun, hv⟩ := h1.lookup (SMap.keyed hK) ht hz (zd := .held z) (zp := []) rfl (WideMaps.keyOf_string_mk hK hs)
  rw [hrun]
  congr 1
  have e : DataW.held v = D.atKey (.string s.data.toList) (.held z) := by
    have : some (DataW.held v, ([] : List MemPlace)) = some (D.atKey (.string s.data.toList) (.held z), ps) := hv
    injection this with this
    injection this
  cases hf : f s.data.toList with
  | none =>
    have hh := h2 s.data.toList
    rw [hf] at hh
    rw [atKey_of_not_has hh] at e
    injection e
  | some u =>
    rw [h3 _ u hf] at e
    injection e

/-- 'm[k] = v'. -/
theorem SMap.put (h : SMap P K w b f) (hK : P.underlying K = some .string) (ht : P.underlying T = some (.map K E)) {s : ByteArray} (hs : s.size ≤ maxLen) (v : Value) (L : List Txt) (hL : ∀ x, (f x).isSome = true → x ∈ L) (hn : L.length < maxLen) :
    ∃ w1, (Instr.mapUpdate T (.map (some b)) (.string s) v).run P w = .ok () w1 ∧ SMap P K w1 b (upd f s.data.toList (some v)) ∧ w.grownBy w1 (some b) ∧ w1.heap.size = w.heap.size := by
  obtain ⟨D, h1, h2, h3⟩ := h
  have hsz := SMap.size_le hK h1 L (fun x hx => hL x (by rw [← h2]; exact hx))
  obtain ⟨w1, hrun, hown, hturn⟩ := h1.store (SMap.keyed hK) ht (by omega) (kl := .string s.data.toList) (WideMaps.keyOf_string_mk hK hs) (val := v) (d := .held v) (ps := []) rfl
  refine ⟨w1, hrun, ⟨_, owns_tight hown, fun x => ?_, fun x u hu z => ?_⟩, hturn.grown, ?_⟩
  · unfold upd
    by_cases e : x = s.data.toList
    · subst e
      rw [has_put_same (k := .string _) h1.isMap trivial, if_pos rfl]
      rfl
    · rw [has_put_other (by intro h; injection h with h; exact e h), if_neg e, h2]
  · unfold upd at hu
    by_cases e : x = s.data.toList
    · subst e
      rw [if_pos rfl] at hu
      injection hu with hu
      rw [atKey_put_same (k := .string _) h1.isMap trivial, hu]
    · rw [if_neg e] at hu
      rw [atKey_put_other (by intro h; injection h with h; exact e h)]
      exact h3 x u hu z
  · obtain ⟨es, clock, es', clock', _, rfl⟩ := hturn
    simp [ChangeMaps.setBlock]

/-- 'delete(m, k)'. -/
theorem SMap.del (h : SMap P K w b f) (hK : P.underlying K = some .string) (ht : P.underlying T = some (.map K E)) {s : ByteArray} (hs : s.size ≤ maxLen) (ty : TypeId) :
    ∃ w1, (Builtin.delete_ #[T, K] ty #[.map (some b), .string s]).run P w = .ok (.tuple #[]) w1 ∧ SMap P K w1 b (upd f s.data.toList none) ∧ w.grownBy w1 (some b) ∧ w1.heap.size = w.heap.size := by
  obtain ⟨D, h1, h2, h3⟩ := h
  obtain ⟨w1, hrun, hown, hturn⟩ := h1.drop (SMap.keyed hK) ht (kl := .string s.data.toList) (WideMaps.keyOf_string_mk hK hs) ty
  refine ⟨w1, hrun, ⟨_, owns_tight hown, fun x => ?_, fun x u hu z => ?_⟩, hturn.grown, ?_⟩
  · unfold upd
    by_cases e : x = s.data.toList
    · subst e
      rw [has_del_same, if_pos rfl]
      rfl
    · rw [has_del_other (by intro h; injection h with h; exact e h), if_neg e, h2]
  · unfold upd at hu
    by_cases e : x = s.data.toList
    · subst e
      rw [if_pos rfl] at hu
      cases hu
    · rw [if_neg e] at hu
      rw [atKey_del_other (by intro h; injection h with h; exact e h)]
      exact h3 x u hu z
  · obtain ⟨es, clock, es', clock', _, rfl⟩ := hturn
    simp [ChangeMaps.setBlock]
end

/-! ### at the operations -/
section
variable {P : Program} {K T E : TypeId} (w : World) {ops : Array Oper} {rest : List Oper} {o : Oper} {a : Act} {Q : Exit → Act → World → Prop} {b : Nat} {f : Txt → Option Value}
theorem wpList_look (hg : o.guard = none) (m x : Operand) (hop : o.op = Op.lookup T m x false) (hK : P.underlying K = some .string) (ht : P.underlying T = some (.map K E)) {z : Value} (hz : (zeroValue E).run P w = .ok z w)
    (hm : a.eval m = .map (some b)) (h : SMap P K w b f) {s : ByteArray} (hx : a.eval x = .string s) (hs : s.size ≤ maxLen) (r : Value) (hr : (f s.data.toList).getD z = r)
    (hQ : wpList P ops Q rest (a.put o.dst r) w) : wpList P ops Q (o :: rest) a w := by
  refine wpList_plain hg fun K' hK' => ?_
  have := h.look hK ht hz hs
  rw [hr] at this
  unfold Oper.wp
  simp [execOp, hop, hm, hx, this, Result.andThen]
  exact hK' _ _ hQ
theorem wpList_put (hg : o.guard = none) (m x v : Operand) (hop : o.op = Op.mapUpdate T m x v) (hK : P.underlying K = some .string) (ht : P.underlying T = some (.map K E))
    (hm : a.eval m = .map (some b)) (h : SMap P K w b f) {s : ByteArray} (hx : a.eval x = .string s) (hs : s.size ≤ maxLen) (u : Value) (hv : a.eval v = u) (L : List Txt) (hL : ∀ x, (f x).isSome = true → x ∈ L) (hn : L.length < maxLen)
    (hQ : ∀ w1, SMap P K w1 b (upd f s.data.toList (some u)) → w.grownBy w1 (some b) → w1.heap.size = w.heap.size → wpList P ops Q rest (a.put o.dst undef) w1) : wpList P ops Q (o :: rest) a w := by
  refine wpList_plain hg fun K' hK' => ?_
  obtain ⟨w1, hrun, h1, h2, h3⟩ := h.put hK ht hs u L hL hn
  unfold Oper.wp
  simp [execOp, hop, hm, hx, hv, hrun, Result.andThen]
  exact hK' _ _ (hQ w1 h1 h2 h3)
theorem wpList_del (hg : o.guard = none) (m x : Operand) (hop : o.op = Op.call { callee := Callee.builtin Builtin.delete, args := #[m, x], argTypes := #[T, K] }) (hK : P.underlying K = some .string) (ht : P.underlying T = some (.map K E))
    (hm : a.eval m = .map (some b)) (h : SMap P K w b f) {s : ByteArray} (hx : a.eval x = .string s) (hs : s.size ≤ maxLen)
    (hQ : ∀ w1, SMap P K w1 b (upd f s.data.toList none) → w.grownBy w1 (some b) → w1.heap.size = w.heap.size → wpList P ops Q rest (a.put o.dst (.tuple #[])) w1) : wpList P ops Q (o :: rest) a w := by
  refine wpList_plain hg fun K' hK' => ?_
  obtain ⟨w1, hrun, h1, h2, h3⟩ := h.del hK ht hs o.type
  unfold Oper.wp
  simp [execOp, hop, resolve, invoke, builtin, hm, hx, hrun, Result.andThen]
  exact hK' _ _ (hQ w1 h1 h2 h3)
end
end Go.Proofs.YtfpgbhimgfdddaaGreatDoor

/- Lists of texts in memory. -/
namespace Go.Proofs.YtfpgbhimgfdddaaGreatDoor
open Go.RowKit Go.Sort
attribute [local go_sem ↓] Go.wp_at_zero Go.wp_at_succ
attribute [local go_sem] Later.cell Later.frozen

def txtV (s : Txt) : Value := .string ⟨s.toArray⟩
def enc1 (s : Txt) : List Value := [txtV s]
/-- The slice '.slice A n _' reads as the texts l. -/
def Strs (w : World) (A : Option Addr) (n : Nat) (l : List Txt) : Prop := Elems w w.heap.size 1 enc1 A n l
section
variable {w w' : World} {A : Option Addr} {n : Nat} {l : List Txt}
theorem Strs.below (h : Strs w A n l) (hb : Below w.heap.size w w') : Strs w' A n l := (Elems.below h hb).more hb.size
theorem Strs.len (h : Strs w A n l) : l.length = n := Elems.len h
theorem Strs.at_ (h : Strs w A n l) {i : Nat} (hi : i < n) : ∃ b off, A = some ⟨b, off, none⟩ ∧ b < w.heap.size ∧ w.cell? ⟨b, off + i, none⟩ = some (txtV l[i]!) := by
  obtain ⟨b, off, e, hb, hc⟩ := h.2 (by omega)
  have hl : i < l.length := by have := h.len; omega
  refine ⟨b, off, e, hb, ?_⟩
  have := hc i l[i]! (by rw [getElem!_pos l i hl, List.getElem?_eq_getElem hl]) 0 _ rfl
  simpa using this
theorem Strs.nil : Strs w A 0 [] := Elems.nil_
end
theorem Strs.of_own {w : World} {base : Nat} {v : Value} {n : Nat} {l : List Txt} (h : w.ownsRow base 9 1 v n (l.map txtV)) (hn : l.length = n) : ∃ A c, v = .slice A n c ∧ Strs w A n l ∧ (∀ a, A = some a → base ≤ a.block) ∧ n ≤ c := by
  obtain ⟨A, c, h1, h2, h3, h4⟩ := Elems.of_own (enc := enc1) (xs := l) (fun _ _ => rfl) (by
    clear h hn
    induction l with
    | nil => rfl
    | cons x l ih => simp [enc1, ih]) h hn
  exact ⟨A, c, h1, h2, h3, h4⟩
theorem info_string : (Tryz.prog.info? 9).map (fun i => (i.zero, i.size, i.bytes)) = some (some (.string ⟨#[]⟩), 1, 16) := by kernel_rfl

theorem Strs.cells {w : World} {a : Addr} {n : Nat} {l : List Txt} (h : Strs w (some a) n l) : ∀ j u, (l.map txtV)[j]? = some u → w.cell? (a.add j) = some u := by
  intro j u hu
  have hj : j < l.length := by have := (List.getElem?_eq_some_iff.1 hu).1; simpa using this
  have hl := h.len
  obtain ⟨b, off, e, _, hc⟩ := h.at_ (i := j) (by omega)
  injection e with e
  subst e
  rw [Addr.add_lit, hc]
  rw [List.getElem?_map, List.getElem?_eq_getElem hj] at hu
  rw [getElem!_pos l j hj]
  exact hu

theorem holds_own {w : World} {base g cap n : Nat} {ss : List Txt} (h : w.ownsRow base 9 1 (.slice (some ⟨g, 0, none⟩) n cap) n (ss.map txtV)) (hn : ss.length = n) : Holds encStr w g 0 ss.toArray := by
  rcases h.2 with ⟨e, _⟩ | ⟨g', cap', cur, e, _, hh, _, _, hsz, htk⟩
  · cases e
  · injection e with e _ _
    injection e with e
    injection e with e
    subst e
    intro j hj
    have hj' : j < ss.length := by simpa using hj
    refine ⟨?_, by simp [World.frozen?, hh]⟩
    rw [Nat.zero_add, cell_of_row w g j cur _ (0, 0) hh]
    have e1 : cur[j]? = (ss.map txtV)[j]? := by
      rw [← htk, List.getElem?_take_of_lt (by omega)]; simp
    rw [e1, List.getElem?_map, List.getElem?_eq_getElem hj']
    simp [getElem!_pos ss j hj', txtV]

theorem own_grown {w w' : World} {B g : Nat} (hB : B ≤ w.heap.size) (hg : w.grownBy w' (some g)) (hgB : B ≤ g) : Below B w w' :=
  ⟨hg.os, hg.tape, hg.output, hg.size, fun k hk => hg.block k (by omega) (fun e => by injection e with e; omega)⟩

end Go.Proofs.YtfpgbhimgfdddaaGreatDoor
