/- Merged (what the claim wants of): Words, Region, BlkBox, SymPlain, Texts, BlkTurnP, EncPlain, LabPlain, Builder, EncWalksA, EncWalksB, EncWalksC, EncWalksD, LabWalksA, Shelf. -/
import Derived.WalkKit
import Derived.Handy
import Derived.Lib.Hide
import Derived.Deep.Draws
import Derived.Deep.AppendLies
import Derived.StillTail
import Derived.Deep.QuietTactic
import Derived.BigQuiet
import Derived.Deep.RegionHeld3
import Derived.Deep.DrawnRows
import Derived.Deep.DeepCutAuto
import Derived.WalkSpells
import Derived.WalkLawsBesides
import Derived.Lib.SlicesCompact
import Derived.Shelf.Spec.SearchS
import Derived.Test.YtdoiekknhnbepaaGreatDoorProg
import Derived.Laws.AppendOwnNone
import Derived.Sort.OwnSorted
import Derived.Deep.LoopGhost
import Derived.Deep.CutBlock
import Derived.IntWalk
import Derived.Lib.Bytealg
import Derived.Shelf.Strings.BuilderK
import Derived.Maps.AppendAt
import Derived.Laws.IdiomStrings
import Derived.Shelf.SlicesE.Clone
import Derived.Shelf.SlicesQ.IndexFunc
import Derived.Shelf.SlSortCmp.SmallK
import Derived.Shelf.Strings.Builder1
import Derived.Shelf.Small.Bits
import Derived.Shelf.Small.Strs
import Derived.Shelf.Strings.BuilderF
import Derived.Shelf.Strconv.Itoa0
import Derived.Shelf.SortM.Plain
import Derived.Shelf.SortM.SortNone
set_option linter.unusedVariables false
set_option linter.unusedSimpArgs false
set_option maxRecDepth 100000
set_option maxHeartbeats 8000000
namespace Go.Proofs.YtdoiekknhnbepaaGreatDoor
section
open Go.RowKit
theorem Kll {k : IntKind} {a b : Int} (h : a = b) : Ending.returned (.int k a) = .returned (.int k b) := by rw [h]
theorem vi {k : IntKind} {a b : Int} (h : a = b) : Value.int k a = Value.int k b := by rw [h]
theorem vb {a b : Bool} (h : a = b) : Value.bool a = Value.bool b := by rw [h]
theorem ret2 {a b c d : Value} (h : a = c) (h' : b = d) : Ending.returned (.tuple #[a, b]) = .returned (.tuple #[c, d]) := by rw [h, h']
theorem ret3 {a b c d e f : Value} (h : a = d) (h' : b = e) (h'' : c = f) : Ending.returned (.tuple #[a, b, c]) = .returned (.tuple #[d, e, f]) := by rw [h, h', h'']
theorem Qfd {a b : Bool} (h : a = b) : Ending.returned (.bool a) = .returned (.bool b) := by rw [h]
structure Kept (B : Nat) (ex : List Nat) (w w' : World) : Prop where
 os : w'.os = w.os
 tape : w'.tape = w.tape
 output : w'.output = w.output
 size : w.heap.size ≤ w'.heap.size
 block : ∀ k, k < B → k ∉ ex → w'.heap[k]? = w.heap[k]?
section
variable {B : Nat} {ex : List Nat} {a w w' : World}
theorem Kept.refl (B : Nat) (ex : List Nat) (w : World) : Kept B ex w w := ⟨rfl, rfl, rfl, Nat.le_refl _, fun _ _ _ => rfl⟩
theorem Kept.trans (h : Kept B ex a w) (k : Kept B ex w w') : Kept B ex a w' :=
 ⟨k.os.trans h.os, k.tape.trans h.tape, k.output.trans h.output, Nat.le_trans h.size k.size, fun i hi hx => (k.block i hi hx).trans (h.block i hi hx)⟩
theorem Kept.mono {B' : Nat} {ex' : List Nat} (h : Kept B ex w w') (hB : B' ≤ B) (hx : ∀ k, k < B' → k ∈ ex → k ∈ ex') : Kept B' ex' w w' :=
 ⟨h.os, h.tape, h.output, h.size, fun k hk hn => h.block k (by omega) (fun hm => hn (hx k hk hm))⟩
theorem Kept.of_below (h : Below B w w') : Kept B ex w w' := ⟨h.os, h.tape, h.output, h.size, fun k hk _ => h.block k hk⟩
theorem Kept.below (h : Kept B ex w w') (hx : ∀ k ∈ ex, B ≤ k) : Below B w w' :=
 ⟨h.os, h.tape, h.output, h.size, fun k hk => h.block k hk (fun hm => by have := hx k hm; omega)⟩
theorem Kept.drew (h : Kept B ex a w) : Kept B ex a w.drew := ⟨h.os, h.tape, h.output, h.size, h.block⟩
theorem Kept.setCell (h : Kept B ex a w) {p : Addr} (hp : p.block ∈ ex ∨ B ≤ p.block) (u : Value) : Kept B ex a (w.setCell p u) :=
 h.trans ⟨rfl, rfl, rfl, by simp [World.setCell], fun k hk hn => Below.heap_setCell _ _ _ _ (by rintro rfl; rcases hp with hp | hp; exact hn hp; omega)⟩
end
theorem Kdi {w : World} {a : Addr} {v : Value} (h : w.cell? a = some v) : a.block < w.heap.size := by
 rcases Nat.lt_or_ge a.block w.heap.size with hlt | hge
 ·exact hlt
 ·unfold World.cell? at h; rw [Array.getElem?_eq_none hge] at h; cases h
theorem later {w w' : World} (hb : Below w.heap.size w w') {a : Addr} {v : Value} (h : w.cell? a = some v) : w'.cell? a = some v := (hb.cell (Kdi h)).trans h
theorem then_ {w w1 w2 : World} (h : Below w.heap.size w w1) (h' : Below w1.heap.size w1 w2) : Below w.heap.size w w2 := h.trans (h'.mono h.size)
theorem Kept.then_ {w w1 w2 : World} {ex : List Nat} (h : Kept w.heap.size ex w w1) (h' : Below w1.heap.size w1 w2) : Kept w.heap.size ex w w2 := h.trans (.of_below (h'.mono h.size))
def Blk (w : World) (g : Nat) (t : TypeId) (cs : Array Value) : Prop := w.heap[g]? = some (.cells cs t (0, 0))
section
variable {w w' : World} {g : Nat} {t : TypeId} {cs : Array Value}
theorem Blk.lt (h : Blk w g t cs) : g < w.heap.size := by
 rcases Nat.lt_or_ge g w.heap.size with hlt | hge
 ·exact hlt
 ·unfold Blk at h; rw [Array.getElem?_eq_none hge] at h; cases h
theorem Blk.cell (h : Blk w g t cs) (i : Nat) : w.cell? ⟨g, i, none⟩ = cs[i]? := cell_of_row w g i cs t (0, 0) h
theorem Blk.frozen (h : Blk w g t cs) (i : Nat) : w.frozen? ⟨g, i, none⟩ = false := by
 unfold Blk at h; simp [World.frozen?, h]
theorem Blk.new (w : World) (t : TypeId) (cs : Array Value) : Blk (w.alloc (.cells cs t)) w.heap.size t cs := heap_alloc_new w _
theorem Blk.newAt (h : g = w.heap.size) : Blk (w.alloc (.cells cs t)) g t cs := by subst h; exact Blk.new w t cs
theorem Blk.drew (h : Blk w g t cs) : Blk w.drew g t cs := h
theorem Blk.alloc (h : Blk w g t cs) (o : Obj) : Blk (w.alloc o) g t cs := (Below.heap_alloc w o g h.lt).trans h
theorem Blk.set_ (h : Blk w g t cs) (i : Nat) (u : Value) : Blk (w.setCell ⟨g, i, none⟩ u) g t (cs.setIfInBounds i u) := by
 unfold Blk at h ⊢; simp [World.setCell, Array.getElem?_modify, h]
theorem Blk.far (h : Blk w g t cs) {p : Addr} (hp : g ≠ p.block) (u : Value) : Blk (w.setCell p u) g t cs := (Below.heap_setCell w p u g hp).trans h
theorem Blk.below {B : Nat} (h : Blk w g t cs) (hb : Below B w w') (hg : g < B) : Blk w' g t cs := (hb.block g hg).trans h
theorem Blk.kept {B : Nat} {ex : List Nat} (h : Blk w g t cs) (hb : Kept B ex w w') (hg : g < B) (hn : g ∉ ex) : Blk w' g t cs := (hb.block g hg hn).trans h
theorem Blk.grown {row : Option Nat} (h : Blk w g t cs) (hb : w.grownBy w' row) (hg : some g ≠ row) : Blk w' g t cs := (hb.block g h.lt hg).trans h
theorem Blk.ne_ {g' : Nat} {t' : TypeId} {cs' : Array Value} (h : Blk w g t cs) (h' : Blk w g' t' cs') (hne : t ≠ t') : g ≠ g' := by
 rintro rfl; unfold Blk at h h'; rw [h] at h'; injection h' with h'; injection h' with _ ht; exact hne ht
end
theorem Kaw {w : World} {g : Nat} {t : TypeId} {l : List Value} (h : Blk w g t l.toArray) : ∀ j u, l[j]? = some u → w.cell? ((⟨g, 0, none⟩ : Addr).add j) = some u := by
 intro j u hu; have e : (⟨g, 0, none⟩ : Addr).add j = ⟨g, j, none⟩ := by unfold Addr.add; split <;> simp_all
 rw [e, h.cell]; simpa using hu
def Elems {α : Type} (w : World) (B sz : Nat) (enc : α → List Value) (A : Option Addr) (n : Nat) (xs : List α) : Prop :=
 xs.length = n ∧ (0 < n → ∃ b off, A = some ⟨b, off, none⟩ ∧ b < B ∧ ∀ i x, xs[i]? = some x → ∀ j v, (enc x)[j]? = some v → w.cell? ⟨b, off + i * sz + j, none⟩ = some v)
section
variable {α : Type} {w w' : World} {B B' sz n : Nat} {enc : α → List Value} {A : Option Addr} {xs : List α}
theorem Elems.keep (h : Elems w B sz enc A n xs) (hk : ∀ p : Addr, p.block < B → w'.cell? p = w.cell? p) : Elems w' B sz enc A n xs :=
 ⟨h.1, fun hn => by
  obtain ⟨b, off, e, hb, hc⟩ := h.2 hn
  exact ⟨b, off, e, hb, fun i x hx j v hv => (hk _ hb).trans (hc i x hx j v hv)⟩⟩
theorem Elems.keepAt (h : Elems w B sz enc A n xs) (hk : ∀ p : Addr, p.block < B → A.map (·.block) = some p.block → w'.cell? p = w.cell? p) : Elems w' B sz enc A n xs :=
 ⟨h.1, fun hn => by
  obtain ⟨b, off, e, hb, hc⟩ := h.2 hn
  exact ⟨b, off, e, hb, fun i x hx j v hv => (hk _ hb (by rw [e]; rfl)).trans (hc i x hx j v hv)⟩⟩
theorem Elems.more (h : Elems w B sz enc A n xs) (hB : B ≤ B') : Elems w B' sz enc A n xs :=
 ⟨h.1, fun hn => by
  obtain ⟨b, off, e, hb, hc⟩ := h.2 hn
  exact ⟨b, off, e, by omega, hc⟩⟩
theorem Elems.below (h : Elems w B sz enc A n xs) (hb : Below B w w') : Elems w' B sz enc A n xs := h.keep fun _ hp => hb.cell hp
theorem Elems.nil_ : Elems w B sz enc A 0 [] := ⟨rfl, fun h => absurd h (by omega)⟩
theorem Elems.of_own {base : Nat} {e : TypeId} {v : Value} {ys : List Value} (hsz : ∀ x ∈ xs, (enc x).length = sz) (hys : ys = xs.flatMap enc) (h : w.ownsRow base e sz v n ys) (hn : xs.length = n) :
  ∃ A c, v = .slice A n c ∧ Elems w w.heap.size sz enc A n xs ∧ (∀ a, A = some a → base ≤ a.block) ∧ n ≤ c := by
 rcases h.2 with ⟨rfl, rfl⟩ | ⟨g, cap, cur, rfl, hb, hh, hnc, _, hsize, htk⟩
 ·exact ⟨none, 0, rfl, ⟨hn, fun h => absurd h (by omega)⟩, (fun a h => by cases h), Nat.le_refl _⟩
 ·refine ⟨_, cap, rfl, ⟨hn, fun _ => ⟨g, 0, rfl, ?_, fun i x hx j v hv => ?_⟩⟩, (fun a h => by injection h with h; subst h; exact hb), hnc⟩
  ·rcases Nat.lt_or_ge g w.heap.size with hlt | hge
   ·exact hlt
   ·rw [Array.getElem?_eq_none hge] at hh; cases hh
  ·have hcell : w.cell? ⟨g, 0 + i * sz + j, none⟩ = cur[0 + i * sz + j]? := cell_of_row w g _ cur e (0, 0) hh; rw [hcell]
   have key : ∀ (l : List α) (i : Nat), (∀ x ∈ l, (enc x).length = sz) → l[i]? = some x → (l.flatMap enc)[i * sz + j]? = some v := by
    intro l
    induction l with
    | nil => intro i _ h; simp at h
    | cons y l ih =>
     intro i hl hi
     cases i with
     | zero =>
      simp only [List.getElem?_cons_zero, Option.some.injEq] at hi; subst hi; have hj : j < (enc y).length := (List.getElem?_eq_some_iff.1 hv).1; rw [List.flatMap_cons, List.getElem?_append_left (by omega)]; simpa using hv
     | succ i =>
      rw [List.flatMap_cons, List.getElem?_append_right (by rw [hl y (by simp), Nat.succ_mul]; omega), hl y (by simp), show (i + 1) * sz + j - sz = i * sz + j by rw [Nat.succ_mul]; omega]; exact ih i (fun z hz => hl z (by simp [hz])) (by simpa using hi)
   have h1 := key xs i hsz hx; rw [← hys, ← htk, List.getElem?_take] at h1
   split at h1
   ·simpa using h1
   ·cases h1
theorem Elems.cut (h : Elems w B sz enc A n xs) {k cap : Nat} (hk : k ≤ n) (hc : n ≤ cap) :
  Elems w B sz enc (if cap = k then A else A.map (·.add (k * sz))) (n - k) (xs.drop k) := by
 refine ⟨by rw [List.length_drop, h.1], fun hn => ?_⟩; obtain ⟨b, off, rfl, hb, hcell⟩ := h.2 (by omega); rw [if_neg (by omega)]; refine ⟨b, off + k * sz, by simp only [Option.map_some, Addr.add]; split <;> simp_all, hb, fun i x hx j v hv => ?_⟩; rw [List.getElem?_drop] at hx; have := hcell (k + i) x hx j v hv; rw [Nat.add_mul] at this; rw [← this]; congr 2; omega
theorem Elems.len (h : Elems w B sz enc A n xs) : xs.length = n := h.1
end
structure Later (w0 : World) where
 w : World
 h : Below w0.heap.size w0 w
instance Later.some {w : World} : Nonempty (Later w) := ⟨⟨w, Below.refl _ _⟩⟩
theorem Later.cell {w : World} (x : Later w) (b o : Nat) (hb : b < w.heap.size) : x.w.cell? ⟨b, o, none⟩ = w.cell? ⟨b, o, none⟩ := x.h.cell (p := ⟨b, o, none⟩) hb
theorem Kal {P : Program} {f : FuncId} {args : Array Value} {w : World} (x : Later w) {v : Value} (h : Calls P f args x.w fun e w' => e = .returned v ∧ Below x.w.heap.size x.w w') :
  Calls P f args x.w fun e w'' => e = .returned v ∧ ∃ y : Later w, w'' = y.w :=
 h.mono fun _ w' ⟨he, hb⟩ => ⟨he, ⟨w', then_ x.h hb⟩, rfl⟩
theorem Kpg {P : Program} {f : FuncId} {args : Array Value} {w : World} (x : Later w) {v : Value} (h : Calls P f args x.w fun e w' => e = .returned v ∧ x.w = w') :
  Calls P f args x.w fun e w'' => e = .returned v ∧ ∃ y : Later w, w'' = y.w :=
 h.mono fun _ _ ⟨he, hb⟩ => ⟨he, x, hb.symm⟩
section
variable {P : Program} {ops : Array Oper} {md : Region.Mode} {C : World → Prop}
def Kla (P : Program) (md : Region.Mode) (ops : Array Oper) (C : World → Prop) (n : Nat) (L : Array Bool → Act → Prop) : Nat → Array Bool → Act → Prop
 | 0, listed, a => L listed a
 | f + 1, listed, a =>
  Region.ready md ops listed ≠ [] ∧ ∀ i ∈ Region.ready md ops listed, i < n ∧ qOp P ops C i (Kla P md ops C n L f (listed.setIfInBounds i true)) a
theorem Kpe {n g : Nat} {L : Array Bool → Act → Prop} {Q' : Exit → Act → World → Prop} (hL : ∀ listed a w, C w → L listed a → wpAny P md ops Q' g listed a w) :
  ∀ (f : Nat) (listed : Array Bool) (a : Act) (w : World), C w → Kla P md ops C n L f listed a → wpAny P md ops Q' (f + g) listed a w
 | 0, listed, a, w, hw, h => by rw [Nat.zero_add]; exact hL _ _ _ hw h
 | f + 1, listed, a, w, hw, h => by
  rw [show f + 1 + g = (f + g) + 1 by omega]; exact ⟨fun h0 => absurd h0 h.1, fun i hi => wpOp_of_qOp hw (fun a' w' hw' h' => Kpe hL f _ a' w' hw' h') (h.2 i hi).2⟩
theorem Kux {n i : Nat} {oi : Oper} {v : Value} {L : Array Bool → Act → Prop} (hi : ops[i]? = some oi) (hsel : ∀ (j : Nat) (o : Oper) cs b, ops[j]? = some o → o.op ≠ .select cs b)
  (hs : Region.sinkB md ops n = true) (hc : Region.chainB md ops n = true) (hn : n < ops.size) (hin : i < n)
  (hdone : ∀ listed a, L listed a → ∀ j ∈ Region.ready md ops listed, n ≤ j) :
  ∀ (f : Nat) (listed : Array Bool) (a : Act), HeadInv md ops n listed →
   (∀ j oj, ops[j]? = some oj → j ≠ i → listed.getD j true = false → (∀ e ∈ oj.after, Region.binds md e = true → e.on ≠ i) → oi.apart ops oj = true) →
   i ∈ Region.ready md ops listed → YieldsIn P ops C oi v a →
   Kla P md ops C n L f (listed.setIfInBounds i true) (a.put oi.dst v) → Kla P md ops C n L (f + 1) listed a := by
 intro f
 induction f with
 | zero =>
  intro listed a inv _ hr hy H; refine ⟨fun h => (by rw [h] at hr; cases hr), fun j hj => ?_⟩; have hjn : j < n := Nat.lt_of_not_le fun h => tail_waits hs hc hn inv _ i rfl hin (mem_ready.1 hr).1 j h hj
  refine ⟨hjn, ?_⟩
  by_cases hji : j = i
  ·subst hji; exact hy.qOp hi H
  ·exact absurd (hdone _ _ H j (ready_mono hj hji)) (by omega)
 | succ f ih =>
  intro listed a inv hfree hr hy H; refine ⟨fun h => (by rw [h] at hr; cases hr), fun j hj => ?_⟩; have hjn : j < n := Nat.lt_of_not_le fun h => tail_waits hs hc hn inv _ i rfl hin (mem_ready.1 hr).1 j h hj
  refine ⟨hjn, ?_⟩
  by_cases hji : j = i
  ·subst hji; exact hy.qOp hi H
  obtain ⟨hjun, oj, hoj, hall⟩ := mem_ready.1 hj
  have hnot : ∀ e ∈ oj.after, Region.binds md e = true → e.on ≠ i := fun e he hb heq => by
   have h1 := hall e he hb; rw [heq, getD_both (mem_ready.1 hr).1] at h1; cases h1
  have h2 := qOp_put hoj (hfree j oj hoj hji hjun hnot) (fun cs b => hsel i oi cs b hi) (fun cs b => hsel j oj cs b hoj) hy (H.2 j (ready_mono hj hji)).2; refine qOp_mono (fun a' h3 => ih (listed.setIfInBounds j true) a' (inv.set hj hjn) (fun k ok hk hki hun hno => hfree k ok hk hki ?_ hno) (ready_mono hr (Ne.symm hji)) h3.1 ?_) h2
  ·by_cases hjk : j = k
   ·subst hjk; exact hjun
   ·rw [getD_set_ne true hjk] at hun; exact hun
  ·rw [Array.setIfInBounds_comm _ _ hji]; exact h3.2
theorem Kpf {n g : Nat} {Lq : Act → Prop} (hsel : Region.noSelect ops = true) (hs : Region.sinkB md ops n = true) (hc : Region.chainB md ops n = true) (hn : n < ops.size) :
  ∀ (l : List Oper) (k : Nat) (listed : Array Bool) (a : Act), (∀ j, j < l.length → l[j]? = ops[k + j]?) → k + l.length = n → HeadInv md ops n listed →
  Region.lexHead md ops g l.length k listed = true → wpQuiet P ops C Lq l a →
  Kla P md ops C n (fun listed' a' => Region.seqB md ops g n listed' = true ∧ Lq a') l.length listed a
 | [], k, listed, a, _, hk, _, hB, h => by
  have : k = n := by simpa using hk
  subst this; exact ⟨by simpa [Region.lexHead] using hB, h⟩
 | o :: l, k, listed, a, hl, hk, inv, hB, h => by
  have h0 : ops[k]? = some o := by simpa using (hl 0 (by simp)).symm
  simp only [List.length_cons, Region.lexHead, Bool.and_eq_true] at hB; obtain ⟨⟨hr, hf⟩, hB'⟩ := hB; have hkn : k < n := by simp only [List.length_cons] at hk; omega
  have hr' : k ∈ Region.ready md ops listed := by simpa using hr
  have hst : qOp P ops C k (wpQuiet P ops C Lq l) a := by unfold qOp; simp only [h0]; exact h
  obtain ⟨v, hy, hK⟩ := yieldsIn_of_qOp h0 hst
  exact Kux h0 (Region.noSelect_spec hsel) hs hc hn hkn (fun listed' a' hL => seqB_ready hL.1) l.length listed a inv (Region.free_spec h0 hf) hr' hy
   (Kpf hsel hs hc hn l (k + 1) _ _ (fun j hj => by have := hl (j + 1) (by simp; omega); simpa [Nat.add_assoc, Nat.add_comm 1 j] using this) (by simp only [List.length_cons] at hk; omega) (inv.set hr' hkn) hB' hK)
theorem Kff {id : Nat} {Q : Exit → Act → World → Prop} {a : Act} {w : World} {l : List Oper} (n : Nat) (hm : P.follows .mixedOrders = true) (hB : Region.lexTailB .any l.toArray n = true)
  (hC : C { w with drawn := w.drawn + 1 })
  (h : wpQuiet P l.toArray C (fun a' => ∀ w', C w' → wpList P l.toArray Q (l.drop n) a' w') (l.take n) a) : (Code.region id l.toArray true).wp P Q a w := by
 simp only [Region.lexTailB, Bool.and_eq_true, decide_eq_true_eq] at hB; obtain ⟨⟨⟨⟨hsel, hn⟩, hs⟩, hc⟩, hlex⟩ := hB; have hn' : n < l.length := by simpa using hn
 have htl : (l.take n).length = n := by simp; omega
 have hdl : (l.drop n).length = l.toArray.size - n := by simp
 have inv0 : HeadInv .any l.toArray n (Array.replicate l.toArray.size false) :=
  ⟨by simp, fun j oj _ hl => (by rw [getD_replicate_false] at hl; cases hl), fun t _ ht => getD_in (by simpa using ht) (getD_replicate_false _ _)⟩
 have H := Kpf (md := .any) (g := l.toArray.size - n) hsel hs hc hn (l.take n) 0 _ a (fun j hj => by
  have hj' : j < n := by rw [htl] at hj; exact hj
  simp [hj']) (by simpa using htl) inv0 (by rw [htl]; exact hlex) h
 refine wp_region_any hm ?_
 have := Kpe (Q' := Q) (g := l.toArray.size - n) (fun listed a' w' hw' hL => by
  have := wpAny_of_seq (md := .any) (Q' := Q) (l.drop n) n listed a' w' (fun j => by simp [List.getElem?_drop]) (by rw [hdl]; exact hL.1) (hL.2 w' hw')
  rwa [hdl] at this) _ _ _ _ hC H
 rw [htl, show n + (l.toArray.size - n) = l.toArray.size by omega] at this; exact this
theorem Kad {id : Nat} {Q : Exit → Act → World → Prop} {a : Act} {w : World} {l : List Oper} (hm : P.follows .mixedOrders = true) (hB : Region.lexB .any l.toArray = true)
  (h : wpQuiet P l.toArray (fun w' => ∃ x : Later w, w' = x.w) (fun a' => ∀ w', (∃ x : Later w, w' = x.w) → Q .normal a' w') l a) : (Code.region id l.toArray true).wp P Q a w :=
 wp_region_quiet (C := fun w' => ∃ x : Later w, w' = x.w) hm hB ⟨⟨w.drew, (Below.refl _ _).drew⟩, rfl⟩ (by simpa using h)
theorem Kah {id : Nat} {Q : Exit → Act → World → Prop} {a : Act} {w : World} {l : List Oper} (n : Nat) (hm : P.follows .mixedOrders = true) (hB : Region.lexTailB .any l.toArray n = true)
  (h : wpQuiet P l.toArray (fun w' => ∃ x : Later w, w' = x.w) (fun a' => ∀ w', (∃ x : Later w, w' = x.w) → wpList P l.toArray Q (l.drop n) a' w') (l.take n) a) : (Code.region id l.toArray true).wp P Q a w :=
 Kff (C := fun w' => ∃ x : Later w, w' = x.w) n hm hB ⟨⟨w.drew, (Below.refl _ _).drew⟩, rfl⟩ h
end
def FBox (p : Nat) (S0 S1 S2 : ByteArray) (w : World) : Prop := Blk w p 44 #[.string S0, .string S1, .string S2]
theorem FBox.below {p : Nat} {S0 S1 S2 : ByteArray} {w w' : World} (h : FBox p S0 S1 S2 w) (hb : Below w.heap.size w w') : FBox p S0 S1 S2 w' := Blk.below (show Blk w _ _ _ from h) hb (Blk.lt (show Blk w _ _ _ from h))
def sel {α : Type} (i : Nat) (a b c : α) : α := match i with
 | 0 => a
 | 1 => b
 | _ => c
end
section
abbrev Txt := List UInt8
def Asc (t : List Txt) : Prop := t.Pairwise (· < ·)
def IsTab (l t : List Txt) : Prop := Asc t ∧ ∀ x, x ∈ t ↔ x ∈ l
theorem Kpx {a b : Txt} (h : ¬ a < b) (h' : ¬ b < a) : a = b := List.le_antisymm (List.not_lt.1 h') (List.not_lt.1 h)
theorem Qdm {a b c : Txt} (h : a ≤ b) (h' : b < c) : a < c := by
 by_cases e : a < c
 ·exact e
 ·have := List.not_lt.1 e; exact absurd h' (List.not_lt.2 (List.le_trans this h))
theorem Kry {a b : Txt} (h : a ≤ b) (h' : b ≠ a) : a < b := by
 by_cases e : a < b
 ·exact e
 ·exact absurd (List.le_antisymm (List.not_lt.1 e) h) h'
theorem Kyf : ∀ {t t' : List Txt}, Asc t → Asc t' → (∀ x, x ∈ t ↔ x ∈ t') → t = t'
 | [], [], _, _, _ => rfl
 | [], b :: s', _, _, h => by have := (h b).2 (by simp); simp at this
 | a :: s, [], _, _, h => by have := (h a).1 (by simp); simp at this
 | a :: s, b :: s', h1, h2, h => by
  have ha := List.pairwise_cons.1 h1; have hb := List.pairwise_cons.1 h2
  have hab : a = b := by
   apply Kpx
   ·intro hlt; rcases List.mem_cons.1 ((h a).1 (by simp)) with e | e
    ·exact List.lt_irrefl a (by rw [e] at hlt ⊢; exact hlt)
    ·exact List.lt_asymm hlt (hb.1 a e)
   ·intro hlt; rcases List.mem_cons.1 ((h b).2 (by simp)) with e | e
    ·exact List.lt_irrefl b (by rw [e] at hlt ⊢; exact hlt)
    ·exact List.lt_asymm hlt (ha.1 b e)
  subst hab; rw [Kyf ha.2 hb.2 fun x => ?_]; constructor
  ·intro hx; rcases List.mem_cons.1 ((h x).1 (by simp [hx])) with e | e
   ·subst e; exact absurd (ha.1 x hx) (List.lt_irrefl x)
   ·exact e
  ·intro hx; rcases List.mem_cons.1 ((h x).2 (by simp [hx])) with e | e
   ·subst e; exact absurd (hb.1 x hx) (List.lt_irrefl x)
   ·exact e
theorem IsTab.one {l t t' : List Txt} (h : IsTab l t) (h' : IsTab l t') : t = t' := Kyf h.1 h'.1 fun x => (h.2 x).trans (h'.2 x).symm
theorem Kkx (d : Array Txt) (hs : ∀ j, j + 1 < d.size → d[j]! ≤ d[j + 1]!) : ∀ m, m ≤ d.size →
  Asc (Lib.compactUpTo d m) ∧ (∀ x, x ∈ Lib.compactUpTo d m ↔ ∃ j, j < m ∧ d[j]! = x) ∧ (0 < m → ∀ x ∈ Lib.compactUpTo d m, x ≤ d[m - 1]!)
 | 0, _ => ⟨List.Pairwise.nil, fun x => by simp [Lib.compactUpTo], fun h => by omega⟩
 | m + 1, hm => by
  obtain ⟨h1, h2, h3⟩ := Kkx d hs m (by omega); rw [Lib.compactUpTo_succ]
  by_cases hk : m = 0 ∨ d[m]! ≠ d[m - 1]!
  ·have hkk : Lib.keeps d m = true := by
    rcases hk with rfl | h
    ·simp [Lib.keeps]
    ·exact Lib.keeps_pos h
   rw [hkk, if_pos rfl]
   have hlt : ∀ x ∈ Lib.compactUpTo d m, x < d[m]! := by
    intro x hx; rcases Nat.eq_zero_or_pos m with rfl | hp
    ·simp [Lib.compactUpTo] at hx
    ·have h4 := h3 hp x hx; have h5 := hs (m - 1) (by omega); rw [show m - 1 + 1 = m by omega] at h5; exact Qdm h4 (Kry h5 (by rcases hk with h | h; omega; exact h))
   refine ⟨?_, fun x => ?_, fun _ x hx => ?_⟩
   ·rw [Asc, List.pairwise_append]; exact ⟨h1, List.pairwise_singleton _ _, fun a ha b hb => by rw [List.mem_singleton.1 hb]; exact hlt a ha⟩
   ·rw [List.mem_append, h2, List.mem_singleton]; constructor
    ·rintro (⟨j, hj, e⟩ | e)
     ·exact ⟨j, by omega, e⟩
     ·exact ⟨m, by omega, e.symm⟩
    ·rintro ⟨j, hj, e⟩
     by_cases hjm : j = m
     ·subst hjm; exact .inr e.symm
     ·exact .inl ⟨j, by omega, e⟩
   ·rw [Nat.add_sub_cancel]; rcases List.mem_append.1 hx with h | h
    ·exact List.le_of_lt (hlt x h)
    ·rw [List.mem_singleton.1 h]; exact List.le_refl _
  ·have hm0 : m ≠ 0 := fun h => hk (.inl h)
   have he : d[m]! = d[m - 1]! := by
    apply Classical.byContradiction; intro h; exact hk (.inr h)
   rw [Lib.keeps_neg (by omega) he]; simp only [Bool.false_eq_true, if_false, List.append_nil]; refine ⟨h1, fun x => ?_, fun _ x hx => ?_⟩
   ·rw [h2]; constructor
    ·rintro ⟨j, hj, e⟩; exact ⟨j, by omega, e⟩
    ·rintro ⟨j, hj, e⟩
     by_cases hjm : j = m
     ·subst hjm; exact ⟨j - 1, by omega, by rw [← he]; exact e⟩
     ·exact ⟨j, by omega, e⟩
   ·rw [Nat.add_sub_cancel, he]; exact h3 (by omega) x hx
theorem Qef (l : List Txt) : IsTab l (Lib.compact (l.mergeSort fun x y => decide (x ≤ y))) := by
 obtain ⟨z, hz⟩ : ∃ z, l.mergeSort (fun x y => decide (x ≤ y)) = z := ⟨_, rfl⟩
 have hsorted : z.Pairwise (fun a b => a ≤ b) := by
  have := List.pairwise_mergeSort (le := fun x y : Txt => decide (x ≤ y)) (by intro a b c; simp; exact List.le_trans) (by intro a b; simp; exact List.le_total a b) l; rw [hz] at this; simpa using this
 have hmem : ∀ x, x ∈ z ↔ x ∈ l := by intro x; rw [← hz]; exact List.mem_mergeSort
 rw [hz]; have hget : ∀ j, j < z.length → z.toArray[j]! = z[j]! := fun j _ => by simp
 have hs : ∀ j, j + 1 < z.toArray.size → z.toArray[j]! ≤ z.toArray[j + 1]! := by
  intro j hj; have hj' : j + 1 < z.length := by simpa using hj
  rw [hget j (by omega), hget (j + 1) hj', getElem!_pos z j (by omega), getElem!_pos z (j + 1) hj']; exact List.pairwise_iff_getElem.1 hsorted j (j + 1) (by omega) hj' (by omega)
 obtain ⟨h1, h2, _⟩ := Kkx z.toArray hs z.length (by simp); refine ⟨h1, fun x => ?_⟩; rw [Lib.compact, h2, ← hmem]; constructor
 ·rintro ⟨j, hj, e⟩; rw [hget j hj, getElem!_pos z j hj] at e; rw [← e]; exact List.getElem_mem hj
 ·intro hx; obtain ⟨j, hj, e⟩ := List.getElem_of_mem hx; exact ⟨j, hj, by rw [hget j hj, getElem!_pos z j hj]; exact e⟩
def below (t : List Txt) (s : Txt) : Nat := t.countP fun x => decide (x < s)
theorem Kmw (t : List Txt) (s : Txt) : below t s ≤ t.length := List.countP_le_length
theorem Keu : ∀ {t : List Txt} (_ : Asc t) (s : Txt) (i : Nat) (h : i < t.length), (t[i] < s ↔ i < below t s)
 | a :: t, h, s, i, hi => by
  have ha := List.pairwise_cons.1 h; unfold below; rw [List.countP_cons]
  by_cases has : a < s
  ·simp only [has, decide_true, if_true]
   cases i with
   | zero => simp [has]
   | succ i =>
    have ih := Keu ha.2 s i (by simpa using hi); unfold below at ih; simp only [List.getElem_cons_succ]; rw [ih]; omega
  ·have hz : t.countP (fun x => decide (x < s)) = 0 := by
    rw [List.countP_eq_zero]; intro x hx; have := ha.1 x hx; simp only [decide_eq_true_eq]; intro hxs; exact has (List.lt_trans this hxs)
   rw [hz]; simp only [has, decide_false, Bool.false_eq_true, if_false, Nat.zero_add, Nat.not_lt_zero, iff_false]
   cases i with
   | zero => exact has
   | succ i =>
    simp only [List.getElem_cons_succ]; intro hxs; exact has (List.lt_trans (ha.1 _ (List.getElem_mem _)) hxs)
theorem Qfo {t : List Txt} (h : Asc t) {s : Txt} {i : Nat} (hi : t[i]? = some s) : below t s = i := by
 obtain ⟨hl, e⟩ := List.getElem?_eq_some_iff.1 hi; have h1 := Keu h s i hl; rw [e] at h1; have h2 : ¬ i < below t s := fun hh => List.lt_irrefl s (h1.2 hh)
 apply Nat.le_antisymm (by
  apply Classical.byContradiction
  intro hgt; exact h2 (by omega))
 apply Classical.byContradiction; intro hlt; have hb : below t s < i := by omega
 have h3 := Keu h s (below t s) (by omega)
 have h4 : t[below t s] < s := by
  have := List.pairwise_iff_getElem.1 h (below t s) i (by omega) hl hb; rw [e] at this; exact this
 have := h3.1 h4; omega
def numR (t : List Txt) (s : Txt) : Nat × Nat := if t[below t s]? = some s then (below t s, 0) else (0, 50)
theorem Qga {t : List Txt} (h : Asc t) (s : Txt) (lt : Nat → Bool) (hlt : ∀ i (hi : i < t.length), lt i = decide (t[i] < s)) (hout : ∀ i, t.length ≤ i → lt i = false) : Lib.bsGo lt t.length 0 t.length = below t s := by
 apply Lib.bsGo_spec lt (below t s)
 ·intro i hi; have hl : i < t.length := Nat.lt_of_lt_of_le hi (Kmw t s); rw [hlt i hl, decide_eq_true_eq]; exact (Keu h s i hl).2 hi
 ·intro i hi
  by_cases hl : i < t.length
  ·rw [hlt i hl, decide_eq_false_iff_not]; intro hh; have := (Keu h s i hl).1 hh; omega
  ·exact hout i (by omega)
 ·omega
 ·omega
 ·exact Kmw t s
end
section
open Go.RowKit Go.Sort
attribute [local go_sem ↓] Go.wp_at_zero Go.wp_at_succ
attribute [local go_sem] Later.cell
def txtV (s : Txt) : Value := .string ⟨s.toArray⟩
def enc1 (s : Txt) : List Value := [txtV s]
def Strs (w : World) (A : Option Addr) (n : Nat) (l : List Txt) : Prop := Elems w w.heap.size 1 enc1 A n l
section
variable {w w' : World} {A : Option Addr} {n : Nat} {l : List Txt}
theorem Strs.below (h : Strs w A n l) (hb : Below w.heap.size w w') : Strs w' A n l := (Elems.below h hb).more hb.size
theorem Strs.len (h : Strs w A n l) : l.length = n := Elems.len h
theorem Strs.at_ (h : Strs w A n l) {i : Nat} (hi : i < n) : ∃ b off, A = some ⟨b, off, none⟩ ∧ b < w.heap.size ∧ w.cell? ⟨b, off + i, none⟩ = some (txtV l[i]!) := by
 obtain ⟨b, off, e, hb, hc⟩ := h.2 (by omega); have hl : i < l.length := by have := h.len; omega
 refine ⟨b, off, e, hb, ?_⟩; have := hc i l[i]! (by rw [getElem!_pos l i hl, List.getElem?_eq_getElem hl]) 0 _ rfl; simpa using this
end
theorem Strs.of_own {w : World} {base : Nat} {v : Value} {n : Nat} {l : List Txt} (h : w.ownsRow base 9 1 v n (l.map txtV)) (hn : l.length = n) : ∃ A c, v = .slice A n c ∧ Strs w A n l ∧ (∀ a, A = some a → base ≤ a.block) ∧ n ≤ c := by
 obtain ⟨A, c, h1, h2, h3, h4⟩ := Elems.of_own (enc := enc1) (xs := l) (fun _ _ => rfl) (by
  clear h hn
  induction l with
  | nil => rfl
  | cons x l ih => simp [enc1, ih]) h hn
 exact ⟨A, c, h1, h2, h3, h4⟩
theorem Kwt : (Tryz.prog.info? 9).map (fun i => (i.zero, i.size, i.bytes)) = some (some (.string ⟨#[]⟩), 1, 16) := by kernel_rfl
end
section
open Go.RowKit
structure Trn where
 file : Int
 at_ : Int
 out : Int
 t : Txt
instance : Inhabited Trn := ⟨⟨0, 0, 0, []⟩⟩
def Kpa (y : Trn) : List Value := [.int .i64 y.file, .int .i64 y.at_, .int .i64 y.out, txtV y.t]
def Turns (w : World) (A : Option Addr) (n : Nat) (l : List Trn) : Prop := Elems w w.heap.size 4 Kpa A n l
theorem Turns.at_ {w : World} {A : Option Addr} {n : Nat} {l : List Trn} (h : Turns w A n l) {i : Nat} {y : Trn} (hy : l[i]? = some y) : ∃ b off, A = some ⟨b, off, none⟩ ∧ b < w.heap.size ∧ ∀ j u, (Kpa y)[j]? = some u → w.cell? ⟨b, off + i * 4 + j, none⟩ = some u := by
 obtain ⟨h1, h2⟩ := h; have hi : i < n := by have := (List.getElem?_eq_some_iff.1 hy).1; omega
 obtain ⟨b, off, rfl, hb, hc⟩ := h2 (by omega); exact ⟨b, off, rfl, hb, fun j u hu => hc i y hy j u hu⟩
theorem Turns.below {w w' : World} {A : Option Addr} {n : Nat} {l : List Trn} (h : Turns w A n l) (hb : Below w.heap.size w w') : Turns w' A n l := (Elems.below h hb).more hb.size
def Trn.len (l : List Trn) : Nat := (l.map (·.t.length)).sum
theorem Trn.len_step (l : List Trn) (k : Nat) (y : Trn) (h : l[k]? = some y) : Trn.len (l.take (k + 1)) = Trn.len (l.take k) + y.t.length := by
 have e : l.take (k + 1) = l.take k ++ [y] := by rw [List.take_add_one, h]; rfl
 rw [e]; unfold Trn.len; rw [List.map_append, List.sum_append]; simp
theorem Trn.len_take (l : List Trn) (k : Nat) : Trn.len (l.take k) ≤ Trn.len l := by
 unfold Trn.len
 induction l generalizing k with
 | nil => simp
 | cons x l ih =>
  cases k with
  | zero => simp
  | succ k =>
   have := ih k; simp only [List.take_succ_cons, List.map_cons, List.sum_cons]; omega
theorem Trn.mem_len {l : List Trn} {y : Trn} (h : y ∈ l) : y.t.length ≤ Trn.len l := by
 unfold Trn.len
 induction l with
 | nil => cases h
 | cons x l ih =>
  simp only [List.map_cons, List.sum_cons]; rcases List.mem_cons.1 h with rfl | h
  ·omega
  ·have := ih h; omega
def i64T (v : Int) : Prop := -9223372036854775808 ≤ v ∧ v ≤ 9223372036854775807
end
section
def uintF : Nat → Nat → List UInt8
 | 0, v => [UInt8.ofNat v]
 | f + 1, v => if 127 < v then UInt8.ofNat (v % 128 + 128) :: uintF f (v / 128) else [UInt8.ofNat v]
def uintT (v : Nat) : List UInt8 := uintF 10 v
theorem Kik : ∀ (f v : Nat), v < 128 ^ (f + 1) → uintF f v = uintF (f + 1) v
 | 0, v, h => by rw [uintF, uintF, if_neg (by omega)]
 | f + 1, v, h => by
  rw [uintF, uintF]
  split
  ·rw [Kik f (v / 128) (by rw [Nat.pow_succ] at h; omega)]
  ·rfl
theorem Kzo {v : Nat} (h : v < 2 ^ 64) (h1 : 127 < v) : uintT v = UInt8.ofNat (v % 128 + 128) :: uintT (v / 128) := by
 unfold uintT
 conv => lhs; rw [uintF, if_pos h1]
 rw [Kik 9 (v / 128) (by
  have : (2 : Nat) ^ 64 ≤ 128 ^ (9 + 1) * 128 := by decide
  omega)]
theorem Qbx {v : Nat} (h1 : v ≤ 127) : uintT v = [UInt8.ofNat v] := by
 rw [uintT, uintF, if_neg (by omega)]
theorem Krx : ∀ (f v : Nat), 1 ≤ (uintF f v).length ∧ (uintF f v).length ≤ f + 1
 | 0, v => by simp [uintF]
 | f + 1, v => by
  rw [uintF]
  split
  ·have := Krx f (v / 128); simp only [List.length_cons]; omega
  ·simp
theorem Kab (v : Nat) : 1 ≤ (uintT v).length ∧ (uintT v).length ≤ 11 := Krx 10 v
def readG : Nat → Nat → List UInt8 → Except Nat (Nat × Nat)
 | _, _, [] => .error 20
 | i, acc, b :: l => if (i = 9 ∧ 1 < b.toNat) ∨ (0 < i ∧ b.toNat = 0) then .error 21 else if b.toNat < 128 then .ok (acc + b.toNat * 128 ^ i, i + 1) else readG (i + 1) (acc + (b.toNat - 128) * 128 ^ i) l
def readU (l : List UInt8) : Except Nat (Nat × Nat) := readG 0 0 l
def cont : Nat → List UInt8 → Nat
 | 0, _ => 0
 | _ + 1, [] => 0
 | n + 1, b :: l => if 127 < b.toNat then cont n l + 1 else 0
def valL : List UInt8 → Nat
 | [] => 0
 | b :: l => b.toNat % 128 + 128 * valL l
def Kgu (i acc j : Nat) (l : List UInt8) : Except Nat (Nat × Nat) :=
 match l.drop j with
 | [] => .error 20
 | b :: _ => if (i + j = 9 ∧ 1 < b.toNat) ∨ (0 < i + j ∧ b.toNat = 0) then .error 21 else .ok (acc + 128 ^ i * valL (l.take (j + 1)), i + j + 1)
theorem Knf : ∀ (l : List UInt8) (i acc : Nat), i ≤ 9 → readG i acc l = Kgu i acc (cont (9 - i) l) l
 | [], i, acc, _ => by simp [readG, Kgu]
 | b :: l, i, acc, hi => by
  rw [readG]
  by_cases h9 : i = 9
  ·subst h9; have e : cont (9 - 9) (b :: l) = 0 := rfl; rw [e, Kgu]; simp only [List.drop_zero, Nat.add_zero, Nat.zero_add, List.take_succ_cons, List.take_zero, valL, Nat.mul_zero]
   split
   ·rfl
   ·rename_i h
    have hb : b.toNat < 128 := by
     apply Classical.byContradiction; intro hh; exact h (.inl ⟨by trivial, by omega⟩)
    rw [if_pos hb, Nat.mod_eq_of_lt hb, Nat.mul_comm]
  ·obtain ⟨m, hm⟩ : ∃ m, 9 - i = m + 1 := ⟨9 - i - 1, by omega⟩; rw [hm, cont]
   by_cases hb : 127 < b.toNat
   ·rw [if_pos hb, if_neg (by omega), if_neg (by omega), Knf l (i + 1) _ (by omega), show 9 - (i + 1) = m by omega]; unfold Kgu; rw [List.drop_succ_cons, List.take_succ_cons, valL]; have hbl := UInt8.toNat_lt b; have e1 : b.toNat % 128 = b.toNat - 128 := by omega
    rw [e1, show i + 1 + cont m l = i + (cont m l + 1) by omega]
    cases List.drop (cont m l) l with
    | nil => rfl
    | cons c l' =>
     have e : acc + (b.toNat - 128) * 128 ^ i + 128 ^ (i + 1) * valL (List.take (cont m l + 1) l) = acc + 128 ^ i * (b.toNat - 128 + 128 * valL (List.take (cont m l + 1) l)) := by
      rw [Nat.pow_succ, Nat.mul_add, Nat.mul_assoc, Nat.mul_comm (b.toNat - 128), Nat.add_assoc]
     simp only [e]
   ·rw [if_neg hb]; unfold Kgu; simp only [List.drop_zero, Nat.add_zero, Nat.zero_add, List.take_succ_cons, List.take_zero, valL, Nat.mul_zero]
    split
    ·rfl
    ·rw [if_pos (by omega), Nat.mod_eq_of_lt (by omega), Nat.mul_comm]
theorem readU_cont (l : List UInt8) : readU l = Kgu 0 0 (cont 9 l) l := Knf l 0 0 (by omega)
theorem Kvf : ∀ (l : List UInt8) (i acc v k : Nat), i ≤ 9 → acc < 128 ^ i → readG i acc l = .ok (v, k) → v < 2 ^ 64 ∧ i < k ∧ k ≤ i + l.length ∧ k ≤ 10
 | [], i, acc, v, k, _, _, h => by simp [readG] at h
 | b :: l, i, acc, v, k, hi, ha, h => by
  rw [readG] at h
  split at h
  ·cases h
  ·rename_i hn
   split at h
   ·rename_i hb
    injection h with h; injection h with h1 h2; subst h1 h2; refine ⟨?_, by omega, by simp, by omega⟩
    by_cases h9 : i = 9
    ·subst h9; have hb1 : b.toNat ≤ 1 := by omega
     have e : (128 : Nat) ^ 9 = 2 ^ 63 := by decide
     rw [e] at ha ⊢; have e2 : (2 : Nat) ^ 64 = 2 * 2 ^ 63 := by decide
     rw [e2]; have : b.toNat * 2 ^ 63 ≤ 1 * 2 ^ 63 := Nat.mul_le_mul_right _ hb1; omega
    ·have h1 : b.toNat * 128 ^ i ≤ 127 * 128 ^ i := Nat.mul_le_mul_right _ (by omega); have h2 : (128 : Nat) ^ (i + 1) ≤ 128 ^ 9 := Nat.pow_le_pow_right (by omega) (by omega); rw [Nat.pow_succ] at h2; have e : (128 : Nat) ^ 9 < 2 ^ 64 := by decide
     omega
   ·rename_i hb
    have h9 : i ≠ 9 := by
     intro e; apply hn; exact .inl ⟨e, by omega⟩
    have hbl := UInt8.toNat_lt b; have h1 : (b.toNat - 128) * 128 ^ i ≤ 127 * 128 ^ i := Nat.mul_le_mul_right _ (by omega); have := Kvf l (i + 1) _ v k (by omega) (by rw [Nat.pow_succ]; omega) h; simp only [List.length_cons]; omega
theorem Kdo {l : List UInt8} {v k : Nat} (h : readU l = .ok (v, k)) : v < 2 ^ 64 ∧ 0 < k ∧ k ≤ l.length ∧ k ≤ 10 := by
 have := Kvf l 0 0 v k (by omega) (by simp) h; omega
theorem Kmd : ∀ (l : List UInt8) (i acc c : Nat), readG i acc l = .error c → c ≠ 0
 | [], i, acc, c, h => by
  rw [readG] at h; injection h with h; omega
 | b :: l, i, acc, c, h => by
  rw [readG] at h
  split at h
  ·injection h with h; omega
  ·split at h
   ·cases h
   ·exact Kmd l _ _ c h
theorem Kdm {l : List UInt8} {c : Nat} (h : readU l = .error c) : c ≠ 0 := Kmd l 0 0 c h
theorem Knj : ∀ (f i acc v : Nat) (l : List UInt8), i + f = 9 → v < 128 ^ f * 2 → (i = 0 ∨ 0 < v) → readG i acc (uintF f v ++ l) = .ok (acc + v * 128 ^ i, i + (uintF f v).length)
 | 0, i, acc, v, l, hi, hv, h0 => by
  have hv1 : v ≤ 1 := by simp at hv; omega
  have e : (UInt8.ofNat v).toNat = v := by simp [UInt8.toNat_ofNat']; omega
  simp only [uintF, List.singleton_append, readG, e, List.length_singleton]; rw [if_neg (by omega), if_pos (by omega)]
 | f + 1, i, acc, v, l, hi, hv, h0 => by
  rw [uintF]
  split
  ·rename_i hgt
   have e : (UInt8.ofNat (v % 128 + 128)).toNat = v % 128 + 128 := by simp [UInt8.toNat_ofNat']; omega
   simp only [List.cons_append, readG, e, List.length_cons]; rw [if_neg (by omega), if_neg (by omega), Knj f (i + 1) _ (v / 128) l (by omega) (by rw [Nat.pow_succ] at hv; omega) (.inr (by omega))]; congr 2
   ·rw [Nat.add_sub_cancel, Nat.pow_succ, Nat.add_assoc]; congr 1; have := Nat.mod_add_div v 128
    conv => rhs; rw [← this]
    rw [Nat.add_mul]; congr 1; rw [Nat.mul_comm 128 (v / 128), Nat.mul_assoc]; congr 1; rw [Nat.mul_comm]
   ·omega
  ·have e : (UInt8.ofNat v).toNat = v := by simp [UInt8.toNat_ofNat']; omega
   simp only [List.singleton_append, readG, e, List.length_singleton]; rw [if_neg (by omega), if_pos (by omega)]
theorem Kyt {v : Nat} (h : v < 2 ^ 64) : uintT v = uintF 9 v := (Kik 9 v (Nat.lt_of_lt_of_le h (by decide))).symm
theorem Kep {v : Nat} (h : v < 2 ^ 64) (l : List UInt8) : readU (uintT v ++ l) = .ok (v, (uintT v).length) := by
 rw [Kyt h, readU, Knj 9 0 0 v l (by omega) (by (have : (128 : Nat) ^ 9 * 2 = 2 ^ 64 := by decide); omega) (.inl rfl)]; simp
def textT (s : List UInt8) : List UInt8 := uintT s.length ++ s
def readT (l : List UInt8) : Except Nat (List UInt8 × Nat) :=
 match readU l with
 | .error e => .error e
 | .ok (n, k) => if l.length - k < n then .error 20 else .ok ((l.drop k).take n, k + n)
theorem Qaa {s : List UInt8} (hs : s.length < 2 ^ 64) (l : List UInt8) : readT (textT s ++ l) = .ok (s, (textT s).length) := by
 unfold readT textT; rw [List.append_assoc, Kep hs]; simp only []; rw [if_neg (by simp)]; simp
def Qhx (b : UInt8) : Bool := decide (48 ≤ b.toNat) && decide (b.toNat ≤ 57)
def Qhq (b : UInt8) : Bool := (decide (97 ≤ b.toNat) && decide (b.toNat ≤ 122)) || (decide (65 ≤ b.toNat) && decide (b.toNat ≤ 90))
def okB (d : Bool) (b : UInt8) : Bool := (d && Qhx b) || (b.toNat == 95) || Qhq b
def allOk : Bool → List UInt8 → Bool
 | _, [] => true
 | d, b :: l => okB d b && allOk true l
def fitN (s : Txt) : Bool := allOk false s && decide (1 ≤ s.length) && decide (s.length ≤ 32)
def fitV (s : Txt) : Bool := decide (1 ≤ s.length) && decide (s.length ≤ 64)
structure Lb where
 n : Txt
 v : Txt
instance : Inhabited Lb := ⟨⟨[], []⟩⟩
def names (l : List Lb) : List Txt := l.map Lb.n
def Kcc : List Lb → List Lb → Nat
 | _, [] => 0
 | pre, x :: r => if fitN x.n = false then 40 else if fitV x.v = false then 41 else if pre.any (fun y => y.n == x.n) then 42 else Kcc (pre ++ [x]) r
def Kav (l : List Lb) : Nat := if l.length = 0 then 43 else if 8 < l.length then 44 else Kcc [] l
def Kcp (l : List Lb) : Nat := if Kav l ≠ 0 then Kav l else if (names l).Pairwise (· < ·) then 0 else 42
def labT (x : Lb) : List UInt8 := textT x.n ++ textT x.v
def encL (l : List Lb) : List UInt8 := uintT l.length ++ l.flatMap labT
def Kgf (l : List Lb) : List UInt8 := if Kcp l = 0 then encL l else []
theorem Kis : ∀ {pre l : List Lb}, Kcc pre l = 0 → (∀ x ∈ l, fitN x.n = true ∧ fitV x.v = true)
 | _, [], _ => by simp
 | pre, x :: r, h => by
  rw [Kcc] at h
  split at h
  ·omega
  ·split at h
   ·omega
   ·split at h
    ·omega
    ·rename_i h1 h2 _
     have ih := Kis h; intro y hy; rcases List.mem_cons.1 hy with rfl | hy
     ·exact ⟨by simpa using h1, by simpa using h2⟩
     ·exact ih y hy
theorem Kjh : ∀ {pre l : List Lb}, Kcc pre l = 0 → (names l).Nodup ∧ ∀ x ∈ l, ∀ y ∈ pre, y.n ≠ x.n
 | _, [], _ => by simp [names]
 | pre, x :: r, h => by
  rw [Kcc] at h
  split at h
  ·omega
  ·split at h
   ·omega
   ·split at h
    ·omega
    ·rename_i hany
     obtain ⟨h1, h2⟩ := Kjh h
     have hx : ∀ y ∈ pre, y.n ≠ x.n := by
      intro y hy e; apply hany; rw [List.any_eq_true]; exact ⟨y, hy, by simp [e]⟩
     refine ⟨?_, ?_⟩
     ·rw [names, List.map_cons, List.nodup_cons]; refine ⟨?_, h1⟩; intro hm; obtain ⟨z, hz, e⟩ := List.mem_map.1 hm; exact h2 z hz x (by simp) e.symm
     ·intro z hz y hy; rcases List.mem_cons.1 hz with rfl | hz
      ·exact hx y hy
      ·exact h2 z hz y (by simp [hy])
theorem Kdt {l : List Lb} (h : Kav l = 0) : l.length ≠ 0 ∧ l.length ≤ 8 ∧ (∀ x ∈ l, fitN x.n = true ∧ fitV x.v = true) ∧ (names l).Nodup := by
 unfold Kav at h
 split at h
 ·omega
 ·split at h
  ·omega
  ·exact ⟨by omega, by omega, Kis h, (Kjh h).1⟩
theorem Qhw (a b : Txt) : Lib.compareBytes a b < 0 ↔ a < b := by
 induction a generalizing b with
 | nil =>
  cases b with
  | nil => simp [Lib.compareBytes]
  | cons y b => simp [Lib.compareBytes]
 | cons x a ih =>
  cases b with
  | nil => simp [Lib.compareBytes]
  | cons y b =>
   rw [Lib.compareBytes, List.cons_lt_cons_iff]
   by_cases h1 : x < y
   ·simp [h1]
   ·by_cases h2 : y < x
    ·simp only [h1, h2, if_true, if_false, false_or]; constructor
     ·intro h; omega
     ·rintro ⟨rfl, _⟩; exact absurd h2 h1
    ·have e : x = y := by
      apply UInt8.le_antisymm
      ·exact UInt8.not_lt.1 h2
      ·exact UInt8.not_lt.1 h1
     simp only [h1, h2, if_false, false_or]; rw [ih]; simp [e]
end
section
open Go.Shelf Go.RowKit
def bren : Go.Shelf.Ren := ⟨fun | 166 => 40 | 167 => 113 | 169 => 48 | 240 => 109 | 276 => 168 | n => n, fun | 0 => 0 | 3 => 3 | 4 => 4 | 5 => 5 | 9 => 9 | 20 => 20 | 37 => 76 | 70 => 107 | 72 => 109 | 75 => 111 | 76 => 112 | 80 => 114 | 127 => 215 | 164 => 263 | n => n, fun n => n⟩
theorem Qfl : Go.Proofs.Lays.n166 Tryz.prog bren := {
 mixed := by kernel_rfl
 f166 := Tryz.func40.trans (congrArg some (by kernel_rfl))
 f240 := Tryz.func109.trans (congrArg some (by kernel_rfl))
 f276 := Tryz.func168.trans (congrArg some (by kernel_rfl))
 t0 := Tryz.underlying0
 a0 := Tryz.isAgg0
 z0 := Tryz.sizeOf0
 v0 := Tryz.zeroValue0
 t3 := Tryz.underlying3
 a3 := Tryz.isAgg3
 z3 := Tryz.sizeOf3
 v3 := Tryz.zeroValue3
 t4 := Tryz.underlying4
 a4 := Tryz.isAgg4
 z4 := Tryz.sizeOf4
 v4 := Tryz.zeroValue4
 t9 := Tryz.underlying9
 a9 := Tryz.isAgg9
 z9 := Tryz.sizeOf9
 v9 := Tryz.zeroValue9
 t20 := Tryz.underlying20
 a20 := Tryz.isAgg20
 z20 := Tryz.sizeOf20
 v20 := Tryz.zeroValue20
 t37 := Tryz.underlying76
 a37 := Tryz.isAgg76
 z37 := Tryz.sizeOf76
 v37 := Tryz.zeroValue76
 t70 := Tryz.underlying107
 a70 := Tryz.isAgg107
 z70 := Tryz.sizeOf107
 v70 := Tryz.zeroValue107
 t72 := Tryz.underlying109
 a72 := Tryz.isAgg109
 z72 := Tryz.sizeOf109
 v72 := Tryz.zeroValue109
 t75 := Tryz.underlying111
 a75 := Tryz.isAgg111
 z75 := Tryz.sizeOf111
 v75 := Tryz.zeroValue111
 t164 := Tryz.underlying263
 a164 := Tryz.isAgg263
 z164 := Tryz.sizeOf263
 v164 := Tryz.zeroValue263 }
theorem Qes : Go.Proofs.Lays.n167 Tryz.prog bren := {
 mixed := by kernel_rfl
 f167 := Tryz.func113.trans (congrArg some (by kernel_rfl))
 f240 := Tryz.func109.trans (congrArg some (by kernel_rfl))
 f276 := Tryz.func168.trans (congrArg some (by kernel_rfl))
 t0 := Tryz.underlying0
 a0 := Tryz.isAgg0
 z0 := Tryz.sizeOf0
 v0 := Tryz.zeroValue0
 t4 := Tryz.underlying4
 a4 := Tryz.isAgg4
 z4 := Tryz.sizeOf4
 v4 := Tryz.zeroValue4
 t5 := Tryz.underlying5
 a5 := Tryz.isAgg5
 z5 := Tryz.sizeOf5
 v5 := Tryz.zeroValue5
 t9 := Tryz.underlying9
 a9 := Tryz.isAgg9
 z9 := Tryz.sizeOf9
 v9 := Tryz.zeroValue9
 t20 := Tryz.underlying20
 a20 := Tryz.isAgg20
 z20 := Tryz.sizeOf20
 v20 := Tryz.zeroValue20
 t37 := Tryz.underlying76
 a37 := Tryz.isAgg76
 z37 := Tryz.sizeOf76
 v37 := Tryz.zeroValue76
 t70 := Tryz.underlying107
 a70 := Tryz.isAgg107
 z70 := Tryz.sizeOf107
 v70 := Tryz.zeroValue107
 t72 := Tryz.underlying109
 a72 := Tryz.isAgg109
 z72 := Tryz.sizeOf109
 v72 := Tryz.zeroValue109
 t75 := Tryz.underlying111
 a75 := Tryz.isAgg111
 z75 := Tryz.sizeOf111
 v75 := Tryz.zeroValue111
 t164 := Tryz.underlying263
 a164 := Tryz.isAgg263
 z164 := Tryz.sizeOf263
 v164 := Tryz.zeroValue263 }
theorem Kmt : Go.Proofs.Lays.n169 Tryz.prog bren := {
 mixed := by kernel_rfl
 f169 := Tryz.func48.trans (congrArg some (by kernel_rfl))
 t0 := Tryz.underlying0
 a0 := Tryz.isAgg0
 z0 := Tryz.sizeOf0
 v0 := Tryz.zeroValue0
 t3 := Tryz.underlying3
 a3 := Tryz.isAgg3
 z3 := Tryz.sizeOf3
 v3 := Tryz.zeroValue3
 t9 := Tryz.underlying9
 a9 := Tryz.isAgg9
 z9 := Tryz.sizeOf9
 v9 := Tryz.zeroValue9
 t37 := Tryz.underlying76
 a37 := Tryz.isAgg76
 z37 := Tryz.sizeOf76
 v37 := Tryz.zeroValue76
 t70 := Tryz.underlying107
 a70 := Tryz.isAgg107
 z70 := Tryz.sizeOf107
 v70 := Tryz.zeroValue107
 t72 := Tryz.underlying109
 a72 := Tryz.isAgg109
 z72 := Tryz.sizeOf109
 v72 := Tryz.zeroValue109
 t127 := Tryz.underlying215
 a127 := Tryz.isAgg215
 z127 := Tryz.sizeOf215
 v127 := Tryz.zeroValue215 }
theorem Kti : Go.Proofs.Lays.n240 Tryz.prog bren := {
 mixed := by kernel_rfl
 f240 := Tryz.func109.trans (congrArg some (by kernel_rfl))
 f276 := Tryz.func168.trans (congrArg some (by kernel_rfl))
 t0 := Tryz.underlying0
 a0 := Tryz.isAgg0
 z0 := Tryz.sizeOf0
 v0 := Tryz.zeroValue0
 t4 := Tryz.underlying4
 a4 := Tryz.isAgg4
 z4 := Tryz.sizeOf4
 v4 := Tryz.zeroValue4
 t9 := Tryz.underlying9
 a9 := Tryz.isAgg9
 z9 := Tryz.sizeOf9
 v9 := Tryz.zeroValue9
 t20 := Tryz.underlying20
 a20 := Tryz.isAgg20
 z20 := Tryz.sizeOf20
 v20 := Tryz.zeroValue20
 t70 := Tryz.underlying107
 a70 := Tryz.isAgg107
 z70 := Tryz.sizeOf107
 v70 := Tryz.zeroValue107
 t72 := Tryz.underlying109
 a72 := Tryz.isAgg109
 z72 := Tryz.sizeOf109
 v72 := Tryz.zeroValue109
 t164 := Tryz.underlying263
 a164 := Tryz.isAgg263
 z164 := Tryz.sizeOf263
 v164 := Tryz.zeroValue263 }
theorem Kgg : Builder.Extra Tryz.prog bren := {
 sizeBuilder := by kernel_rfl
 liesBuilder := by kernel_rfl
 t5 := Tryz.underlying5
 a5 := Tryz.isAgg5
 z5 := Tryz.sizeOf5
 v5 := Tryz.zeroValue5
 infoByte := by kernel_rfl
 cellsByte := by kernel_rfl
 sizeByte := by kernel_rfl
 neB5 := by decide }
def Bld (B b : Nat) (l : List UInt8) (w : World) : Prop := Lib.IsBuilderF 109 5 B b (Lib.byteCells l) w
def Kso (b : Nat) (w w' : World) : Prop := Lib.OthersKept 5 (some b) w w'
theorem Kso.blk {b g : Nat} {t : TypeId} {cs : Array Value} {w w' : World} (h : Kso b w w') (hg : Blk w g t cs) (hne : g ≠ b) (ht : t ≠ 5) : Blk w' g t cs :=
 h g _ hg (fun e => hne (by injection e)) (fun c fz e => by injection e with _ e2 _; exact ht e2)
theorem Bld.new {B : Nat} (w : World) (hB : B ≤ w.heap.size) : Bld B w.heap.size [] (w.alloc (.cells #[.pointer none, .slice none 0 0] 109)) :=
 .inl ⟨hB, .slice none 0 0, heap_alloc_new w _, World.ownsRowF_nil _ _ _ _, by simp [Value.ownBlock]⟩
theorem Bld.lt {B b : Nat} {l : List UInt8} {w : World} (h : Bld B b l w) : b < w.heap.size := by
 rcases h with ⟨_, v, hb, _⟩ | ⟨_, v, hb, _⟩ <;> exact Blk.lt hb
theorem Bld.below {B b : Nat} {l : List UInt8} {w w' : World} (h : Bld B b l w) (hb : Below w.heap.size w w') : Bld B b l w' := by
 have key : ∀ p, Lib.BuilderAtF 109 5 B b p (Lib.byteCells l) w → Lib.BuilderAtF 109 5 B b p (Lib.byteCells l) w' := by
  rintro p ⟨h1, v, h2, h3, h4⟩; refine ⟨h1, v, (hb.block b (Blk.lt h2)).trans h2, h3.kept (row := none) ⟨hb.os, hb.tape, hb.output, hb.size, fun k hk _ => hb.block k hk⟩ (by cases v.ownBlock <;> simp), h4⟩
 rcases h with h | h
 ·exact .inl (key _ h)
 ·exact .inr (key _ h)
theorem Klu (B b : Nat) (l : List UInt8) (c : UInt8) (w : World) (h : Bld B b l w) (hlen : l.length + 1 ≤ 140737488355328) (hBw : B ≤ w.heap.size) :
  Calls Tryz.prog 113 #[.pointer (some ⟨b, 0, none⟩), .int .u8 c.toNat] w fun e w' => e = .returned .nilIface ∧ Bld B b (l ++ [c]) w' ∧ Below B w w' := by
 refine (Any.Builder_WriteByte_k Qes Kgg B b (Lib.byteCells l) c.toNat w h (by simpa [Lib.byteCells] using hlen) hBw).mono ?_; rintro e w' ⟨he, hb, hw, _⟩; refine ⟨he, ?_, hw⟩; have : Lib.byteCells (l ++ [c]) = Lib.byteCells l ++ [.int .u8 c.toNat] := by simp [Lib.byteCells]
 unfold Bld; rw [this]; exact .inr hb
theorem Kbb (B b : Nat) (l : List UInt8) (s : ByteArray) (w : World) (h : Bld B b l w) (hlen : l.length + s.size ≤ 140737488355328) (hBw : B ≤ w.heap.size) :
  Calls Tryz.prog 40 #[.pointer (some ⟨b, 0, none⟩), .string s] w fun e w' => e = .returned (.tuple #[.int .i64 s.size, .nilIface]) ∧ Bld B b (l ++ s.data.toList) w' ∧ Below B w w' ∧ Kso b w w' := by
 refine (Any.Builder_WriteString_k Qfl Kgg B b (Lib.byteCells l) s w h (by simpa [Lib.byteCells] using hlen) hBw).mono ?_; rintro e w' ⟨he, hb, hw, ho⟩; refine ⟨he, ?_, hw, ho⟩; have : Lib.byteCells (l ++ s.data.toList) = Lib.byteCells l ++ Lib.strCells s := by simp [Lib.byteCells, Lib.strCells]
 unfold Bld; rw [this]; exact .inr hb
theorem Kdv (B b : Nat) (l : List UInt8) (w : World) (h : Bld B b l w) (hBw : B ≤ w.heap.size) :
  Calls Tryz.prog 48 #[.pointer (some ⟨b, 0, none⟩)] w fun e w' => e = .returned (.string ⟨l.toArray⟩) ∧ Below B w w' :=
 (Any.Builder_String_any_k Kmt Kgg B b l w h hBw).mono fun _ _ h => ⟨h.1, h.2.2.1⟩
end
section
open Go.RowKit
attribute [local go_sem ↓] Go.wp_at_zero Go.wp_at_succ
attribute [local go_sem] Later.cell
theorem or128 (g : Nat) : bits .or .u8 ((g : Int) % 256) 128 = ((UInt8.ofNat (g % 128 + 128)).toNat : Int) := by
 have key : ∀ x : Fin 256, bits .or .u8 ((x.val : Nat) : Int) 128 = ((x.val % 128 + 128 : Nat) : Int) := by decide +kernel
 have h := key ⟨g % 256, Nat.mod_lt _ (by omega)⟩; simp only at h; rw [show ((g : Int) % 256) = ((g % 256 : Nat) : Int) by omega, h]; have : (UInt8.ofNat (g % 128 + 128)).toNat = g % 128 + 128 := by simp [UInt8.toNat_ofNat']; omega
 rw [this]; omega
theorem Kuu (B b : Nat) (l : List UInt8) (n : Nat) (w : World) (h : Bld B b l w) (hn : n < 256) (hlen : l.length + 1 ≤ 140737488355328) (hBw : B ≤ w.heap.size) :
  Calls Tryz.prog 113 #[.pointer (some ⟨b, 0, none⟩), .int .u8 n] w fun e w' => e = .returned .nilIface ∧ Bld B b (l ++ [UInt8.ofNat n]) w' ∧ Below B w w' := by
 have := Klu B b l (UInt8.ofNat n) w h hlen hBw; rw [show (UInt8.ofNat n).toNat = n by simp [UInt8.toNat_ofNat']; omega] at this; exact this
theorem Ktk {l : List UInt8} {g v : Nat} (h : l ++ uintT g = uintT v) (hg : ¬ 127 < g) : l ++ [UInt8.ofNat g] = uintT v := by
 rw [← h, Qbx (by omega)]
theorem Kqu {l : List UInt8} {g v : Nat} (h : l ++ uintT g = uintT v) (hl : g < 2 ^ 64) (hg : 127 < g) : (l ++ [UInt8.ofNat (g % 128 + 128)]) ++ uintT (g / 128) = uintT v := by
 rw [← h, Kzo hl hg]; simp
set_option maxHeartbeats 400000 in
theorem Kax (v : Nat) (hv : v < 2 ^ 64) (w : World) :
  Calls Tryz.prog 42 #[.int .u64 v] w fun e w' => e = .returned (.string ⟨(uintT v).toArray⟩) ∧ Below w.heap.size w w' := by
 go_enter Tryz.func42, Tryz.ntmps42
 go_upto_block 0 with fail
 have hb0 : Bld w.heap.size w.heap.size [] (w.alloc (.cells #[.pointer none, .slice none 0 0] 109)) := Bld.new w (Nat.le_refl _); have hw0 : Below w.heap.size w (w.alloc (.cells #[.pointer none, .slice none 0 0] 109)) := (Below.refl _ _).alloc (Nat.le_refl _) _; obtain ⟨w0, hw⟩ : ∃ w0, w.alloc (.cells #[.pointer none, .slice none 0 0] 109) = w0 := ⟨_, rfl⟩; rw [hw] at hb0 hw0 ⊢; clear hw; obtain ⟨b, hb⟩ : ∃ b, w.heap.size = b := ⟨_, rfl⟩; rw [hb] at hb0 hw0 ⊢; have HB := Lib.hid hb; clear hb; go_wp2_with fail
 go_loopg [0] v (fun g s0 wr => ∃ l, s0 = .int .u64 (g : Nat) ∧ g < 2 ^ 64 ∧ l ++ uintT g = uintT v ∧ Bld b b l wr ∧ Below b w wr ∧ b ≤ wr.heap.size)
 case atStart => exact ⟨[], rfl, hv, rfl, hb0, hw0, by have := hb0.lt; omega⟩
 case round =>
  obtain ⟨l, rfl, hg, hl, hbr, hwr, hbs⟩ := hrel
  have hlen : l.length ≤ 11 := by
   have := congrArg List.length hl; have h2 := Kab v; rw [List.length_append] at this; omega
  have HL := Lib.hid hl; clear hl
  by_cases h127 : 127 < gk
  ·go_wp2_with fail
   rw [or128]; refine (Klu b b l _ _ hbr (by omega) hbs).mono ?_; rintro e w1 ⟨rfl, hb1, hw1⟩; go_wp2_with fail
   go_roundg (gk / 128)
   case measure => omega
   case rel => exact ⟨_, by go_num, by omega, Kqu HL.out hg h127, hb1, hwr.trans hw1, Nat.le_trans hbs hw1.size⟩
  ·go_wp2_with fail
   refine (Kuu b b l gk _ hbr (by omega) (by omega) hbs).mono ?_; rintro e w1 ⟨rfl, hb1, hw1⟩; rw [Ktk HL.out h127] at hb1; go_wp2_with fail
   refine (Kdv b b _ _ hb1 (Nat.le_trans hbs hw1.size)).mono ?_; rintro e w2 ⟨rfl, hw2⟩; go_wp2_with fail
   go_ret
   refine ⟨rfl, ?_⟩; rw [HB.out]; exact (hwr.trans hw1).trans hw2
theorem Kaf (s : ByteArray) : s.data.toList.length = s.size := rfl
theorem Kvo {a b : ByteArray} (h : a.data.toList = b.data.toList) : a = b := by
 cases a; cases b
 exact congrArg ByteArray.mk (Array.toList_inj.1 h)
set_option maxHeartbeats 400000 in
theorem Kfm (s : ByteArray) (hs : s.size ≤ 140737488351232) (w : World) :
  Calls Tryz.prog 112 #[.string s] w fun e w' => e = .returned (.string ⟨(textT s.data.toList).toArray⟩) ∧ Below w.heap.size w w' := by
 have hu := Kax s.size (by omega) w; have hl := Kab s.size; obtain ⟨U, hU⟩ : ∃ U : ByteArray, (⟨(uintT s.size).toArray⟩ : ByteArray) = U := ⟨_, rfl⟩; have hUz : U.size ≤ 11 := by rw [← hU]; simp only [ByteArray.size, List.size_toArray]; exact hl.2
 rw [hU] at hu; have HU := Lib.hid hu; have HUU := Lib.hid hU; clear hu hU hl; go_enter Tryz.func112, Tryz.ntmps112
 go_wp2_with fail
 refine HU.out.mono ?_; rintro e w1 ⟨rfl, hb1⟩; go_wp2_with fail
 go_ret
 refine ⟨congrArg (fun s => Ending.returned (Value.string s)) (Kvo ?_), hb1⟩; rw [← HUU.out]; simp [textT]
theorem Qgu : (Tryz.prog.info? 5).map (fun i => (i.zero, i.size, i.bytes)) = some (some (.int .u8 0), 1, 1) := by kernel_rfl
def Kch (base : Nat) (w : World) (v : Value) (l : List UInt8) : Prop := w.ownsRow base 5 1 v l.length (Lib.byteCells l)
theorem Kch.new (w : World) : Kch w.heap.size (w.alloc (.cells #[] 5)) (.slice (some ⟨w.heap.size, 0, none⟩) 0 0) [] :=
 ⟨rfl, .inr ⟨w.heap.size, 0, #[], rfl, Nat.le_refl _, heap_alloc_new w _, Nat.le_refl _, by decide, rfl, rfl⟩⟩
theorem Kch.push {base : Nat} {w : World} {v : Value} {l : List UInt8} {c : UInt8} {x : Int} (h : w.ownsRow base 5 1 v (l.length + 1) (Lib.byteCells l ++ [.int .u8 x])) (hx : x = c.toNat) : Kch base w v (l ++ [c]) := by
 unfold Kch; rw [List.length_append, show Lib.byteCells (l ++ [c]) = Lib.byteCells l ++ [.int .u8 x] by rw [hx]; simp [Lib.byteCells]]; exact h
theorem Kgd {base e sz n : Nat} {w0 wr w1 : World} {v : Value} {xs : List Value} {o : Obj} (hwr : Below base w0 wr) (hbs : base ≤ wr.heap.size) (hown : wr.ownsRow base e sz v n xs) (hg : (wr.alloc o).grownBy w1 v.ownBlock) : Below base w0 w1 :=
 hwr.trans ⟨hg.os, hg.tape, hg.output, by have := hg.size; simp at this; omega, fun k hk => (hg.block k (by simp; omega) (fun e => by have := (hown.lt k e.symm).1; omega)).trans (Below.heap_alloc _ _ _ (by omega))⟩
theorem Kch.text {base : Nat} {w : World} {v : Value} {l : List UInt8} (h : Kch base w v l) (h0 : l ≠ []) : ∃ a cap, v = .slice (some a) l.length cap ∧ (convert 76 9 (.slice (some a) l.length cap)).run Tryz.prog w = .ok (.string ⟨l.toArray⟩) w := by
 rcases h.2 with ⟨_, hn⟩ | ⟨g, cap, cur, rfl, hb, hh, hnc, _, hsize, htk⟩
 ·exact absurd (List.eq_nil_of_length_eq_zero hn) h0
 ·refine ⟨⟨g, 0, none⟩, cap, rfl, run_convert_bytes_back w _ _ 5 _ cap l Tryz.underlying76 Tryz.underlying5 Tryz.underlying9 (fun j hj => ?_)⟩; rw [Addr.add_lit, Nat.zero_add, cell_of_row w g j cur 5 (0, 0) hh]; have e : (Lib.byteCells l)[j]? = some (.int .u8 (l[j].toNat : Int)) := by simp [Lib.byteCells, hj]
  rw [← htk, List.getElem?_take] at e
  split at e
  ·simpa using e
  ·cases e
set_option maxHeartbeats 400000 in
theorem Kdn (v : Nat) (hv : v < 2 ^ 64) (w : World) :
  Calls Tryz.prog 143 #[.int .u64 v] w fun e w' => e = .returned (.string ⟨(uintT v).toArray⟩) ∧ Below w.heap.size w w' := by
 obtain ⟨i0, hi0, hz0, hz1, hz2⟩ := info_parts Qgu; go_enter Tryz.func143, Tryz.ntmps143
 go_upto_block 0 with fail
 have ho0 : Kch w.heap.size (w.alloc (.cells #[] 5)) (.slice (some ⟨w.heap.size, 0, none⟩) 0 0) [] := Kch.new w; have hw0 : Below w.heap.size w (w.alloc (.cells #[] 5)) := (Below.refl _ _).alloc (Nat.le_refl _) _; obtain ⟨w0, hw⟩ : ∃ w0, w.alloc (.cells #[] 5) = w0 := ⟨_, rfl⟩; rw [hw] at ho0 hw0 ⊢; clear hw; obtain ⟨b, hb⟩ : ∃ b, w.heap.size = b := ⟨_, rfl⟩; rw [hb] at ho0 hw0 ⊢; have HB := Lib.hid hb; have hbs0 : b ≤ w0.heap.size := by rw [← hb]; exact hw0.size
 clear hb; go_wp2_with fail
 go_loopg [0, 3] v (fun g s0 s3 wr => ∃ l, s0 = .int .u64 (g : Nat) ∧ g < 2 ^ 64 ∧ l ++ uintT g = uintT v ∧ Kch b wr s3 l ∧ Below b w wr ∧ b ≤ wr.heap.size)
 case atStart => exact ⟨[], rfl, hv, rfl, ho0, hw0, hbs0⟩
 case round =>
  obtain ⟨l, rfl, hg, hl, hbr, hwr, hbs⟩ := hrel
  have hlen : l.length ≤ 11 := by
   have := congrArg List.length hl; have h2 := Kab v; rw [List.length_append] at this; omega
  have HL := Lib.hid hl; clear hl
  by_cases h127 : 127 < gk
  ·go_wp2_with (at_builtin; refine wpList_append_own_at _ rfl _ _ 76 rfl b 5 i0 (.int .u8 0) 1 1 Tryz.underlying76 hi0 hz0 hz1 hz2 rfl (by decide) _ _ _ rfl (World.ownsRow.alloc hbr _) ⟨wr.heap.size, 0, none⟩ 1 1 [.int .u8 ((gk : Int) % 128 + 128)] rfl rfl ?c1 ?c2 ?c3 ?c4 ?c5 ?_)
   case c1 => exact Kaw (l := [.int .u8 ((gk : Int) % 128 + 128)]) (Blk.new wr _ _)
   case c2 => intro u hu; rw [List.mem_singleton.1 hu]; rfl
   case c3 => unfold maxLen; omega
   case c4 => omega
   case c5 => simp; omega
   intro v' w1 hown' hgrow hx1 hat
   have hb1 : Kch b w1 v' (l ++ [UInt8.ofNat (gk % 128 + 128)]) := Kch.push hown' (by
    have : (UInt8.ofNat (gk % 128 + 128)).toNat = gk % 128 + 128 := by simp [UInt8.toNat_ofNat']; omega
    rw [this]; omega)
   have hw1 : Below b w w1 := Kgd hwr hbs hbr hgrow; have hs1 : b ≤ w1.heap.size := by have := hgrow.size; simp at this; omega
   clear hown' hgrow hat hx1; go_wp2_with fail
   go_roundg (gk / 128)
   case measure => omega
   case rel => exact ⟨_, by go_num, by omega, Kqu HL.out hg h127, hb1, hw1, hs1⟩
  ·go_wp2_with (at_builtin; refine wpList_append_own_at _ rfl _ _ 76 rfl b 5 i0 (.int .u8 0) 1 1 Tryz.underlying76 hi0 hz0 hz1 hz2 rfl (by decide) _ _ _ rfl (World.ownsRow.alloc hbr _) ⟨wr.heap.size, 0, none⟩ 1 1 [.int .u8 (gk : Int)] rfl rfl ?d1 ?d2 ?d3 ?d4 ?d5 ?_)
   case d1 => exact Kaw (l := [.int .u8 (gk : Int)]) (Blk.new wr _ _)
   case d2 => intro u hu; rw [List.mem_singleton.1 hu]; rfl
   case d3 => unfold maxLen; omega
   case d4 => omega
   case d5 => simp; omega
   intro v' w1 hown' hgrow hx1 hat
   have hb1 : Kch b w1 v' (l ++ [UInt8.ofNat gk]) := Kch.push hown' (by
    have : (UInt8.ofNat gk).toNat = gk := by simp [UInt8.toNat_ofNat']; omega
    rw [this])
   rw [Ktk HL.out h127] at hb1; have hw1 : Below b w w1 := Kgd hwr hbs hbr hgrow; obtain ⟨a, cap, rfl, hconv⟩ := hb1.text (by intro e; have := Kab v; rw [e] at this; simp at this); obtain ⟨nu, hnu⟩ : ∃ n, (uintT v).length = n := ⟨_, rfl⟩; rw [hnu] at hconv ⊢; clear hown' hgrow hat hnu hb1 hx1; go_wp2_with fail
   go_ret
   refine ⟨rfl, ?_⟩; rw [HB.out]; exact hw1
end
section
open Go.RowKit
open Lib renaming hid → Jh
attribute [local go_sem ↓] Go.wp_at_zero Go.wp_at_succ
attribute [local go_sem] Later.cell
def Kan (s : List UInt8) (k : Int) : Nat × Nat × Nat :=
 if k < 0 then (0, 0, 20) else match readU (s.drop k.toNat) with | .error e => (0, 0, e) | .ok (v, n) => (v, k.toNat + n, 0)
def outOf (j : Nat) (r : Except Nat (Nat × Nat)) : Nat × Nat × Nat := match r with | .error e => (0, 0, e) | .ok (v, n) => (v, j + n, 0)
theorem Kdh (s : List UInt8) (j : Nat) : Kan s (j : Int) = outOf j (readU (s.drop j)) := by
 unfold Kan outOf; rw [if_neg (by omega), Int.toNat_natCast]
theorem Krp {s : ByteArray} {i : Nat} (h : i < s.size) : s.data.toList.drop i = s[i] :: s.data.toList.drop (i + 1) := by
 rw [List.drop_eq_getElem_cons (by simpa using h)]; rfl
theorem Qie (b : Nat) (hb : b < 256) : bits .and .u8 (b : Int) 127 = ((b % 128 : Nat) : Int) := by
 have key : ∀ x : Fin 256, bits .and .u8 ((x.val : Nat) : Int) 127 = ((x.val % 128 : Nat) : Int) := by decide +kernel
 exact key ⟨b, hb⟩
theorem Krj (x : Nat) (h : x < 2 ^ 64) : IntKind.u64.wrap (x : Int) = (x : Int) := by
 rw [IntKind.wrap_u64]; rw [show (2 : Nat) ^ 64 = 18446744073709551616 by decide] at h; omega
theorem Qgg (acc b i : Nat) (hb : b < 256) (hi : i ≤ 9) (hacc : acc < 128 ^ i) (h9 : i = 9 → b % 128 ≤ 1) :
  bits .or .u64 (acc : Int) (IntKind.u64.wrap (IntKind.u64.wrap (bits .and .u8 (b : Int) 127) * 2 ^ (7 * i))) = ((acc + (b % 128) * 128 ^ i : Nat) : Int) := by
 have hp : (2 : Nat) ^ (7 * i) = 128 ^ i := by rw [Nat.pow_mul]
 have hx : (b % 128) * 128 ^ i < 2 ^ 64 := by
  by_cases h : i = 9
  ·subst h; have h1 := Nat.mul_le_mul_right (128 ^ 9) (h9 rfl); have h2 : 1 * 128 ^ 9 < 2 ^ 64 := by decide
   exact Nat.lt_of_le_of_lt h1 h2
  ·have h1 : (b % 128) * 128 ^ i ≤ 127 * 128 ^ i := Nat.mul_le_mul_right _ (by omega); have h2 : 127 * 128 ^ i ≤ 127 * 128 ^ 8 := Nat.mul_le_mul_left _ (Nat.pow_le_pow_right (by omega) (by omega)); have h3 : 127 * 128 ^ 8 < 2 ^ 64 := by decide
   exact Nat.lt_of_le_of_lt (Nat.le_trans h1 h2) h3
 have ha : acc < 2 ^ 64 := Nat.lt_of_lt_of_le hacc (Nat.le_trans (Nat.pow_le_pow_right (by omega) hi) (by decide)); rw [Qie b hb, Krj _ (Nat.lt_of_lt_of_le (Nat.mod_lt b (by omega : 128 > 0)) (by decide))]; have e1 : (((b % 128 : Nat) : Int) * 2 ^ (7 * i)) = (((b % 128) * 128 ^ i : Nat) : Int) := by rw [← hp]; simp
 have e64 : (2 : Nat) ^ 64 = 18446744073709551616 := by decide
 rw [e1, Krj _ hx, u64_or_nat _ _ (by rw [← e64]; exact ha) (by rw [← e64]; exact hx)]; congr 1; have := Nat.shiftLeft_add_eq_or_of_lt (i := 7 * i) (b := acc) (by rw [hp]; exact hacc) (b % 128); rw [Nat.shiftLeft_eq, hp] at this; rw [Nat.or_comm, ← this, Nat.add_comm]
theorem Kam (s : ByteArray) (k : Int) (v n e : Nat) (hr : Kan s.data.toList k = (v, n, e)) (hs : s.size ≤ 140737488351232) (w : World) :
  Calls Tryz.prog 78 #[.string s, .int .i64 k] w fun en w' => en = .returned (.tuple #[.int .u64 v, .int .i64 n, .int .i64 e]) ∧ w = w' := by
 by_cases hk : k < 0
 ·have e0 : decide (k < 0) = true := by simpa using hk
  obtain ⟨rfl, rfl, rfl⟩ : 0 = v ∧ 0 = n ∧ 20 = e := by simpa [Kan, hk] using hr
  clear hr; go_enter Tryz.func78, Tryz.ntmps78
  go_wp2_with fail
  go_ret3
  exact ⟨rfl, rfl⟩
 ·obtain ⟨j, rfl⟩ := Int.eq_ofNat_of_zero_le (Int.not_lt.1 hk); rw [Kdh] at hr; have e0 : decide ((j : Int) < 0) = false := by simp
  by_cases hj : j < s.size
  ·have e1 : decide ((s.size : Int) ≤ (j : Int)) = false := by simp; omega
   have e1' : decide (s.size ≤ j) = false := by simp; omega
   have HR := Jh hr; clear hr hk; go_enter Tryz.func78, Tryz.ntmps78
   go_wp2_with fail
   go_loopg [7, 18] 10 (fun g s7 s18 wr => wr = w ∧ ∃ i acc : Nat, i + g = 10 ∧ s18 = .int .i64 (i : Int) ∧ s7 = .int .u64 (acc : Int) ∧ i ≤ 9 ∧ acc < 128 ^ i ∧ j + i ≤ s.size ∧ outOf j (readG i acc (s.data.toList.drop (j + i))) = (v, n, e))
   case atStart => exact ⟨rfl, 0, 0, rfl, rfl, rfl, by omega, by simp, by omega, HR.out⟩
   case round =>
    obtain ⟨rfl, i, acc, hig, rfl, rfl, hi9, hacc, hjs, hout⟩ := hrel; obtain ⟨w, rfl⟩ : ∃ x, x = wr := ⟨_, rfl⟩; have HIG := Jh hig; clear hig; have HACC := Jh hacc; clear hacc
    by_cases hend : j + i = s.size
    ·have e2 : ((j : Int) + (i : Int) == (s.size : Int)) = true := by rw [beq_iff_eq]; omega
     rw [List.drop_of_length_le (by simp; omega)] at hout; obtain ⟨rfl, rfl, rfl⟩ : 0 = v ∧ 0 = n ∧ 20 = e := by simpa [outOf, readG] using hout
     clear hout hend; go_wp2_with fail
     go_ret3
     exact ⟨rfl, rfl⟩
    ·have e2 : ((j : Int) + (i : Int) == (s.size : Int)) = false := by rw [beq_eq_false_iff_ne]; omega
     have hlt : j + i < s.size := by omega
     rw [Krp hlt] at hout; obtain ⟨b, hb⟩ : ∃ b, s[j + i] = b := ⟨_, rfl⟩; have hbl := UInt8.toNat_lt b; rw [hb, readG] at hout; have HO := Jh hout; clear hout hend; go_upto_region 10 with fail
     clear e0 e1 e2 e1'; go_cut [45] (fun s45 wz => s45 = .bool (decide ((i = 9 ∧ 1 < b.toNat) ∨ (0 < i ∧ b.toNat = 0))) ∧ wz = w)
     case first =>
      clear hb; obtain ⟨x9, h9⟩ : ∃ x, ((i : Int) == 9) = x := ⟨_, rfl⟩; obtain ⟨x1, h1⟩ : ∃ x, decide ((1 : Int) < (b.toNat : Int)) = x := ⟨_, rfl⟩; obtain ⟨x0, h0⟩ : ∃ x, decide (0 < i) = x := ⟨_, rfl⟩; obtain ⟨xb, hb⟩ : ∃ x, ((b.toNat : Int) == 0) = x := ⟨_, rfl⟩
      have hfin : decide ((i = 9 ∧ 1 < b.toNat) ∨ (0 < i ∧ b.toNat = 0)) = ((x9 && x1) || (x0 && xb)) := by
       rw [← h9, ← h1, ← h0, ← hb, Bool.eq_iff_iff]; simp only [decide_eq_true_eq, Bool.or_eq_true, Bool.and_eq_true, beq_iff_eq]; omega
      have HF := Jh hfin; clear hfin; cases x9 <;> cases x1 <;> cases x0 <;> cases xb
      all_goals
       go_wp2_with fail
       go_meet
       exact ⟨vb (by rw [HF.out]; rfl), rfl⟩
     case rest =>
      obtain ⟨rfl, rfl⟩ := hcut; have hout := HO.out
      by_cases hbad : (i = 9 ∧ 1 < b.toNat) ∨ (0 < i ∧ b.toNat = 0)
      ·rw [if_pos hbad] at hout; obtain ⟨rfl, rfl, rfl⟩ : 0 = v ∧ 0 = n ∧ 21 = e := by simpa [outOf] using hout
       rw [decide_eq_true hbad]; clear hout hbad HO; go_wp2_with fail
       go_ret3
       exact ⟨rfl, rfl⟩
      ·rw [if_neg hbad] at hout; rw [decide_eq_false hbad]; have hval := Qgg acc b.toNat i hbl hi9 HACC.out (fun h9 => by omega); have HV := Jh hval; have HO2 := Jh hout
       have hn9 : ¬ b.toNat < 128 → i < 9 := fun h => by
        apply Classical.byContradiction; intro h'; exact hbad (.inl ⟨by omega, by omega⟩)
       have HN9 := Jh hn9; clear hout hbad HO hval hn9; go_upto_region 13 with fail
       rw [HV.out]; clear HV
       by_cases h128 : b.toNat < 128
       ·have hout := HO2.out; rw [if_pos h128, outOf] at hout; obtain ⟨hv, hn, he⟩ : acc + b.toNat * 128 ^ i = v ∧ j + (i + 1) = n ∧ 0 = e := by simpa using hout
        have hq2 : acc + b.toNat % 128 * 128 ^ i = v := by rw [← hv, Nat.mod_eq_of_lt h128]
        rw [hq2]; have HN := Jh hn; have HE := Jh he; clear hout HO2 hv hq2 hb hn he; go_wp2_with fail
        go_ret3
        exact ⟨ret3 rfl (vi (by have := HN.out; omega)) (vi (by rw [← HE.out]; rfl)), rfl⟩
       ·have hout := HO2.out; rw [if_neg h128] at hout; obtain ⟨q, hq⟩ : ∃ q, acc + b.toNat % 128 * 128 ^ i = q := ⟨_, rfl⟩; have hq2 : acc + (b.toNat - 128) * 128 ^ i = q := by rw [← hq]; congr 2; omega
        rw [hq2] at hout
        have hql : q < 128 ^ (i + 1) := by
         rw [← hq, Nat.pow_succ]; have h1 : (b.toNat % 128) * 128 ^ i ≤ 127 * 128 ^ i := Nat.mul_le_mul_right _ (by omega); have := HACC.out; omega
        have h9 := HN9.out h128; rw [hq]; have HO3 := Jh hout; have HQL := Jh hql; clear hout HO2 hq hq2 hb hql HACC; go_wp2_with fail
        go_roundg (gk - 1)
        case measure => have := HIG.out; omega
        case rel => exact ⟨rfl, i + 1, q, by have := HIG.out; omega, by go_num, rfl, by omega, HQL.out, by omega, HO3.out⟩
  ·rw [List.drop_of_length_le (by simp; omega)] at hr; obtain ⟨rfl, rfl, rfl⟩ : 0 = v ∧ 0 = n ∧ 20 = e := by simpa [outOf, readU, readG] using hr
   clear hr hk; have e1 : decide ((s.size : Int) ≤ (j : Int)) = true := by simp; omega
   go_enter Tryz.func78, Tryz.ntmps78
   go_wp2_with fail
   go_ret3
   exact ⟨rfl, rfl⟩
def Kbh (s : List UInt8) (k : Int) : List UInt8 × Nat × Nat :=
 if k < 0 then ([], 0, 20) else match readT (s.drop k.toNat) with | .error e => ([], 0, e) | .ok (t, n) => (t, k.toNat + n, 0)
theorem Klf (s : ByteArray) (a b : Nat) : (s.extract a b).data.toList = (s.data.toList.drop a).take (b - a) := by
 simp only [ByteArray.data_extract, Array.toList_extract]
theorem Kfs (s : ByteArray) (k : Int) (t : List UInt8) (n e : Nat) (hr : Kbh s.data.toList k = (t, n, e)) (hs : s.size ≤ 140737488351232) (w : World) :
  Calls Tryz.prog 91 #[.string s, .int .i64 k] w fun en w' => en = .returned (.tuple #[.string ⟨t.toArray⟩, .int .i64 n, .int .i64 e]) ∧ w = w' := by
 by_cases hk : k < 0
 ·obtain ⟨rfl, rfl, rfl⟩ : [] = t ∧ 0 = n ∧ 20 = e := by simpa [Kbh, hk] using hr
  have hra : Kan s.data.toList k = (0, 0, 20) := by simp [Kan, hk]
  have HRA := Jh hra; clear hr hra; go_enter Tryz.func91, Tryz.ntmps91
  go_wp2_with fail
  refine (Kam s k 0 0 20 HRA.out hs w).mono ?_; rintro en w1 ⟨rfl, rfl⟩; go_wp2_with fail
  go_ret3
  exact ⟨rfl, rfl⟩
 ·obtain ⟨j, rfl⟩ := Int.eq_ofNat_of_zero_le (Int.not_lt.1 hk); have hra := Kdh s.data.toList j; rw [Kbh, if_neg hk, Int.toNat_natCast, readT] at hr; obtain ⟨l, hl⟩ : ∃ l, s.data.toList.drop j = l := ⟨_, rfl⟩; have hlen : l.length = s.size - j := by rw [← hl, List.length_drop]; rfl
  rw [hl] at hr hra
  cases hu : readU l with
  | error c =>
   rw [hu] at hr hra; have hra' : Kan s.data.toList j = (0, 0, c) := hra; obtain ⟨rfl, rfl, rfl⟩ : [] = t ∧ 0 = n ∧ c = e := by simpa using hr
   have hc0 : c ≠ 0 := Kdm hu; have e1 : ((c : Int) != 0) = true := by simp; omega
   have HRA := Jh hra'; clear hr hra hra' hl hu hlen hk; go_enter Tryz.func91, Tryz.ntmps91
   go_wp2_with fail
   refine (Kam s j 0 0 c HRA.out hs w).mono ?_; rintro en w1 ⟨rfl, rfl⟩; go_wp2_with fail
   go_ret3
   exact ⟨rfl, rfl⟩
  | ok vk =>
   obtain ⟨v, m⟩ := vk; rw [hu] at hr hra; have hra' : Kan s.data.toList j = (v, j + m, 0) := hra; have hlt := Kdo hu
   have hv64 : v ≤ 18446744073709551615 := by
    have := hlt.1; rw [show (2 : Nat) ^ 64 = 18446744073709551616 by decide] at this; omega
   have hm1 := hlt.2.1; have hm2 := hlt.2.2.1; have hmj : j + m ≤ s.size := by omega
   simp only at hr; have HRA := Jh hra'
   by_cases hshort : l.length - m < v
   ·rw [if_pos hshort] at hr; obtain ⟨rfl, rfl, rfl⟩ : [] = t ∧ 0 = n ∧ 20 = e := by simpa using hr
    have hsh : s.size - (j + m) < v := by omega
    have e1 : decide ((s.size : Int) - ((j : Int) + (m : Int)) < (v : Int)) = true := by simp; omega
    clear hr hra hra' hl hu hlen hk hshort hlt; go_enter Tryz.func91, Tryz.ntmps91
    go_wp2_with fail
    refine (Kam s j v (j + m) 0 HRA.out hs w).mono ?_; rintro en w1 ⟨rfl, rfl⟩; go_wp2_with fail
    go_ret3
    exact ⟨rfl, rfl⟩
   ·rw [if_neg hshort] at hr; obtain ⟨ht, hn, he⟩ : (l.drop m).take v = t ∧ j + (m + v) = n ∧ 0 = e := by simpa using hr
    have hsh : j + m + v ≤ s.size := by omega
    have e1 : decide ((s.size : Int) - ((j : Int) + (m : Int)) < (v : Int)) = false := by simp; omega
    have htt : (s.data.toList.drop (j + m)).take v = t := by rw [← ht, ← hl, List.drop_drop]
    have HT := Jh htt; have HN := Jh hn; have HE := Jh he; have z1 : (0 : Int) ≤ (j : Int) + (m : Int) := by omega
    have z2 : (j : Int) + (m : Int) ≤ (j : Int) + (m : Int) + (v : Int) := by omega
    have z3 : (j : Int) + (m : Int) + (v : Int) ≤ (s.size : Int) := by omega
    clear hr hra hra' hl hu hlen hk hshort hlt ht hn he htt; go_enter Tryz.func91, Tryz.ntmps91
    go_wp2_with fail
    refine (Kam s j v (j + m) 0 HRA.out hs w).mono ?_; rintro en w1 ⟨rfl, rfl⟩; go_wp2_with fail
    go_ret3
    refine ⟨ret3 (congrArg Value.string (Kvo (a := s.extract (j + m) (j + m + v)) ?_)) (vi (by have := HN.out; omega)) (vi (by rw [← HE.out]; rfl)), rfl⟩; rw [Klf, show j + m + v - (j + m) = v by omega, HT.out]
theorem Qgy (d : Bool) (b : UInt8) : okB d b = ((d && (decide ((48 : Int) ≤ (b.toNat : Int)) && decide ((b.toNat : Int) ≤ 57))) || !(((b.toNat : Int) != 95) && (decide (bits .or .u8 (b.toNat : Int) 32 < 97) || decide (122 < bits .or .u8 (b.toNat : Int) 32)))) := by
 have key : ∀ (x : Fin 256) (d : Bool), okB d (UInt8.ofNat x.val) = ((d && (decide ((48 : Int) ≤ (x.val : Int)) && decide ((x.val : Int) ≤ 57))) || !(((x.val : Int) != 95) && (decide (bits .or .u8 (x.val : Int) 32 < 97) || decide (122 < bits .or .u8 (x.val : Int) 32)))) := by decide +kernel
 have h := key ⟨b.toNat, UInt8.toNat_lt b⟩ d; simp only [UInt8.ofNat_toNat] at h; exact h
theorem Qhz (d : Bool) (b : UInt8) : okB d b = ((((decide ((97 : Int) ≤ (b.toNat : Int)) && decide ((b.toNat : Int) ≤ 122)) || (decide ((65 : Int) ≤ (b.toNat : Int)) && decide ((b.toNat : Int) ≤ 90))) || ((b.toNat : Int) == 95)) || ((decide ((48 : Int) ≤ (b.toNat : Int)) && decide ((b.toNat : Int) ≤ 57)) && d)) := by
 have key : ∀ (x : Fin 256) (d : Bool), okB d (UInt8.ofNat x.val) = ((((decide ((97 : Int) ≤ (x.val : Int)) && decide ((x.val : Int) ≤ 122)) || (decide ((65 : Int) ≤ (x.val : Int)) && decide ((x.val : Int) ≤ 90))) || ((x.val : Int) == 95)) || ((decide ((48 : Int) ≤ (x.val : Int)) && decide ((x.val : Int) ≤ 57)) && d)) := by decide +kernel
 have h := key ⟨b.toNat, UInt8.toNat_lt b⟩ d; simp only [UInt8.ofNat_toNat] at h; exact h
theorem Kgl (s : ByteArray) : s.toList.isEmpty = decide (s.size = 0) := by
 rw [ByteArray.toList_eq, Bool.eq_iff_iff]; simp only [List.isEmpty_iff, decide_eq_true_eq]; rw [← Kaf]; constructor
 ·intro h; rw [h]; rfl
 ·intro h; exact List.eq_nil_of_length_eq_zero h
theorem Knl {s : ByteArray} {i : Nat} (h : i < s.size) {R : Bool} (hr : allOk (decide (0 < i)) (s.data.toList.drop i) = R) : (okB (decide (0 < i)) s[i] && allOk (decide (0 < i + 1)) (s.data.toList.drop (i + 1))) = R := by
 rw [Krp h, allOk] at hr; simpa using hr
theorem Ksj (s : ByteArray) (r : Bool) (hr : fitN s.data.toList = r) (hs : s.size ≤ 140737488351232) (w : World) :
  Calls Tryz.prog 191 #[.string s] w fun e w' => e = .returned (.bool r) ∧ w = w' := by
 obtain ⟨R, hR⟩ : ∃ R, allOk false s.data.toList = R := ⟨_, rfl⟩; have hrr : (R && (decide (1 ≤ s.size) && decide (s.size ≤ 32))) = r := by rw [← hr, ← hR, fitN, Kaf, Bool.and_assoc]
 have HRR := Jh hrr; have HR := Jh hR; clear hr hrr hR; go_enter Tryz.func191, Tryz.ntmps191
 go_upto_block 0 with fail
 go_cut [] (fun wz => wz = w ∧ R = true)
 case first =>
  go_wp2_with fail
  go_loopg [7] s.size (fun g s7 wr => wr = w ∧ ∃ i : Nat, i + g = s.size ∧ s7 = .int .i64 (i : Int) ∧ allOk (decide (0 < i)) (s.data.toList.drop i) = R)
  case atStart => exact ⟨rfl, 0, by omega, rfl, by simpa using HR.out⟩
  case round =>
   obtain ⟨rfl, i, hig, rfl, hall⟩ := hrel; obtain ⟨w, rfl⟩ : ∃ x, x = wr := ⟨_, rfl⟩; have HIG := Jh hig; have HALL := Jh hall; clear hig hall
   by_cases hi : i < s.size
   ·have hst := Knl hi HALL.out; obtain ⟨b, hb⟩ : ∃ b, s[i] = b := ⟨_, rfl⟩; have hbl := UInt8.toNat_lt b; rw [hb, Qgy] at hst; obtain ⟨x48, h48⟩ : ∃ x, decide ((48 : Int) ≤ (b.toNat : Int)) = x := ⟨_, rfl⟩; obtain ⟨x57, h57⟩ : ∃ x, decide ((b.toNat : Int) ≤ 57) = x := ⟨_, rfl⟩; obtain ⟨x0, h0⟩ : ∃ x, decide (0 < i) = x := ⟨_, rfl⟩; obtain ⟨x95, h95⟩ : ∃ x, ((b.toNat : Int) != 95) = x := ⟨_, rfl⟩; obtain ⟨xa, ha⟩ : ∃ x, decide (bits .or .u8 (b.toNat : Int) 32 < 97) = x := ⟨_, rfl⟩; obtain ⟨xz, hz⟩ : ∃ x, decide (122 < bits .or .u8 (b.toNat : Int) 32) = x := ⟨_, rfl⟩; rw [h48, h57, h0, h95, ha, hz] at hst; have HST := Jh hst; have H0 := Jh h0; clear hst; have el : decide ((i : Int) < (s.size : Int)) = true := by simp; omega
    have el' : decide (i < s.size) = true := by simp; omega
    go_upto_region 5 with fail
    clear hb; go_cut [13] (fun s13 wz => s13 = .bool (x48 && x57) ∧ wz = w)
    case first =>
     cases x48 <;> cases x57
     all_goals
      go_wp2_with fail
      go_meet
      exact ⟨rfl, rfl⟩
    case rest =>
     obtain ⟨rfl, rfl⟩ := hcut; obtain ⟨w, rfl⟩ : ∃ x, x = wc := ⟨_, rfl⟩; obtain ⟨dg, hdg⟩ : ∃ d, (x48 && x57) = d := ⟨_, rfl⟩; have hst := HST.out; rw [hdg] at hst ⊢; have HST2 := Jh hst; clear HST hst hdg h48 h57; obtain ⟨skip, hskip⟩ : ∃ d, (x0 && dg) = d := ⟨_, rfl⟩
     cases skip with
     | true =>
      obtain ⟨rfl, rfl⟩ : x0 = true ∧ dg = true := by simpa using hskip
      clear hskip; go_wp2_with fail
      go_roundg (gk - 1)
      case measure => have := HIG.out; omega
      case rel => exact ⟨rfl, i + 1, by have := HIG.out; omega, by go_num, by have := HST2.out; simpa using this⟩
     | false =>
      have hst := HST2.out; rw [hskip] at hst; have HST3 := Jh hst; clear hst HST2; cases dg <;> cases x0
      case true.true => simp at hskip
      all_goals
       clear hskip; go_upto_region 7 with fail
       go_cut [33] (fun s33 wz => s33 = .bool (x95 && (xa || xz)) ∧ wz = w)
       case first =>
        cases x95 <;> cases xa <;> cases xz
        all_goals
         go_wp2_with fail
         go_meet
         exact ⟨rfl, rfl⟩
       case rest =>
        obtain ⟨rfl, rfl⟩ := hcut; obtain ⟨w, rfl⟩ : ∃ x, x = wc := ⟨_, rfl⟩; obtain ⟨bad, hbad⟩ : ∃ d, (x95 && (xa || xz)) = d := ⟨_, rfl⟩; have hst := HST3.out; rw [hbad] at hst ⊢; have HST4 := Jh hst; clear hst HST3 hbad
        cases bad with
        | true =>
         have hRf : R = false := by have := HST4.out; simpa using this.symm
         have hrf : r = false := by rw [← HRR.out, hRf]; rfl
         subst hrf; clear hRf; go_wp2_with fail
         go_ret
         exact ⟨rfl, rfl⟩
        | false =>
         go_wp2_with fail
         go_roundg (gk - 1)
         case measure => have := HIG.out; omega
         case rel => exact ⟨rfl, i + 1, by have := HIG.out; omega, by go_num, by have := HST4.out; simpa using this⟩
   ·have hRt : R = true := by
     have := HALL.out; rw [List.drop_of_length_le (by rw [Kaf]; omega), allOk] at this; exact this.symm
    have HRT := Jh hRt; clear hRt; go_wp2_with fail
    go_meet
    exact ⟨rfl, HRT.out⟩
 case rest =>
  obtain ⟨rfl, hRt⟩ := hcut; obtain ⟨w, rfl⟩ : ∃ x, x = wc := ⟨_, rfl⟩; have hrr := HRR.out; rw [hRt, Bool.true_and] at hrr; have HRR2 := Jh hrr; clear hrr hRt
  by_cases h0 : s.size = 0
  ·have hE : s.toList.isEmpty = true := by rw [Kgl]; simp [h0]
   have hL : s.toList = [] := by simpa using hE
   have hrf : r = false := by rw [← HRR2.out, h0]; rfl
   subst hrf; clear h0; go_wp2_with fail
   go_ret
   exact ⟨rfl, rfl⟩
  ·have hE : s.toList.isEmpty = false := by rw [Kgl]; simp [h0]
   obtain ⟨x, hx⟩ : ∃ x, decide ((s.size : Int) ≤ 32) = x := ⟨_, rfl⟩
   have hrf : r = x := by
    rw [← HRR2.out, ← hx, Bool.eq_iff_iff]; simp only [Bool.and_eq_true, decide_eq_true_eq]; omega
   subst hrf; clear h0; go_wp2_with fail
   go_ret
   exact ⟨rfl, rfl⟩
set_option maxHeartbeats 400000 in
theorem Kpj (s : ByteArray) (r : Bool) (hr : fitV s.data.toList = r) (hs : s.size ≤ 140737488351232) (w : World) :
  Calls Tryz.prog 192 #[.string s] w fun e w' => e = .returned (.bool r) ∧ w = w' := by
 have hrr : (decide (1 ≤ s.size) && decide (s.size ≤ 64)) = r := by rw [← hr, fitV, Kaf]
 have HRR2 := Jh hrr; clear hr hrr
 by_cases h0 : s.size = 0
 ·have hE : s.toList.isEmpty = true := by rw [Kgl]; simp [h0]
  have hL : s.toList = [] := by simpa using hE
  have hrf : r = false := by rw [← HRR2.out, h0]; rfl
  subst hrf; clear h0; go_enter Tryz.func192, Tryz.ntmps192
  go_wp2_with fail
  go_ret
  exact ⟨rfl, rfl⟩
 ·have hE : s.toList.isEmpty = false := by rw [Kgl]; simp [h0]
  obtain ⟨x, hx⟩ : ∃ x, decide ((s.size : Int) ≤ 64) = x := ⟨_, rfl⟩
  have hrf : r = x := by
   rw [← HRR2.out, ← hx, Bool.eq_iff_iff]; simp only [Bool.and_eq_true, decide_eq_true_eq]; omega
  subst hrf; clear h0; go_enter Tryz.func192, Tryz.ntmps192
  go_wp2_with fail
  go_ret
  exact ⟨rfl, rfl⟩
set_option maxHeartbeats 400000 in
theorem Knn (s : ByteArray) (r : Bool) (hr : fitV s.data.toList = r) (hs : s.size ≤ 140737488351232) (w : World) :
  Calls Tryz.prog 184 #[.string s] w fun e w' => e = .returned (.bool r) ∧ w = w' := by
 have hrr : (decide (1 ≤ s.size) && decide (s.size ≤ 64)) = r := by rw [← hr, fitV, Kaf]
 obtain ⟨x1, h1⟩ : ∃ x, decide ((1 : Int) ≤ (s.size : Int)) = x := ⟨_, rfl⟩; obtain ⟨x2, h2⟩ : ∃ x, decide ((s.size : Int) ≤ 64) = x := ⟨_, rfl⟩
 have hrf : (x1 && x2) = r := by
  rw [← hrr, ← h1, ← h2, Bool.eq_iff_iff]; simp only [Bool.and_eq_true, decide_eq_true_eq]; omega
 subst hrf; have h1' : decide (1 ≤ s.size) = x1 := by rw [← h1, decide_eq_decide]; omega
 clear hr hrr; cases x1 <;> cases x2
 all_goals
  go_enter Tryz.func184, Tryz.ntmps184
  go_wp2_with fail
  go_ret
  exact ⟨rfl, rfl⟩
theorem Kpp (s : ByteArray) (r : Bool) (hr : fitN s.data.toList = r) (hs : s.size ≤ 140737488351232) (w : World) :
  Calls Tryz.prog 183 #[.string s] w fun e w' => e = .returned (.bool r) ∧ w = w' := by
 obtain ⟨R, hR⟩ : ∃ R, allOk false s.data.toList = R := ⟨_, rfl⟩; have hrr : (R && (decide (1 ≤ s.size) && decide (s.size ≤ 32))) = r := by rw [← hr, ← hR, fitN, Kaf, Bool.and_assoc]
 have HRR := Jh hrr; have HR := Jh hR; clear hr hrr hR; go_enter Tryz.func183, Tryz.ntmps183
 go_upto_block 0 with fail
 go_cut [] (fun wz => wz = w ∧ R = true)
 case first =>
  go_wp2_with fail
  go_loopg [3] s.size (fun g s3 wr => wr = w ∧ ∃ i : Nat, i + g = s.size ∧ s3 = .int .i64 (i : Int) ∧ allOk (decide (0 < i)) (s.data.toList.drop i) = R)
  case atStart => exact ⟨rfl, 0, by omega, rfl, by simpa using HR.out⟩
  case round =>
   obtain ⟨rfl, i, hig, rfl, hall⟩ := hrel; obtain ⟨w, rfl⟩ : ∃ x, x = wr := ⟨_, rfl⟩; have HIG := Jh hig; have HALL := Jh hall; clear hig hall
   by_cases hi : i < s.size
   ·have hst := Knl hi HALL.out; obtain ⟨b, hb⟩ : ∃ b, s[i] = b := ⟨_, rfl⟩; have hbl := UInt8.toNat_lt b; rw [hb, Qhz] at hst; obtain ⟨x97, h97⟩ : ∃ x, decide ((97 : Int) ≤ (b.toNat : Int)) = x := ⟨_, rfl⟩; obtain ⟨x122, h122⟩ : ∃ x, decide ((b.toNat : Int) ≤ 122) = x := ⟨_, rfl⟩; obtain ⟨x65, h65⟩ : ∃ x, decide ((65 : Int) ≤ (b.toNat : Int)) = x := ⟨_, rfl⟩; obtain ⟨x90, h90⟩ : ∃ x, decide ((b.toNat : Int) ≤ 90) = x := ⟨_, rfl⟩; obtain ⟨x95, h95⟩ : ∃ x, ((b.toNat : Int) == 95) = x := ⟨_, rfl⟩; obtain ⟨x48, h48⟩ : ∃ x, decide ((48 : Int) ≤ (b.toNat : Int)) = x := ⟨_, rfl⟩; obtain ⟨x57, h57⟩ : ∃ x, decide ((b.toNat : Int) ≤ 57) = x := ⟨_, rfl⟩; obtain ⟨x0, h0⟩ : ∃ x, decide (0 < i) = x := ⟨_, rfl⟩; rw [h97, h122, h65, h90, h95, h48, h57, h0] at hst; have HST := Jh hst
    have hz0 : ((i : Int) == 0) = !x0 := by
     rw [← h0, Bool.eq_iff_iff]; simp
    have H0 := Jh h0; clear hst; have el : decide ((i : Int) < (s.size : Int)) = true := by simp; omega
    have el' : decide (i < s.size) = true := by simp; omega
    go_upto_region 5 with fail
    clear hb; go_cut [5] (fun s5 wz => s5 = .bool (((x97 && x122) || (x65 && x90)) || x95) ∧ wz = w)
    case first =>
     clear h48 h57 h0 hz0; cases x97 <;> cases x122 <;> cases x65 <;> cases x90 <;> cases x95
     all_goals
      go_wp2_with fail
      go_meet
      exact ⟨rfl, rfl⟩
    case rest =>
     obtain ⟨rfl, rfl⟩ := hcut; obtain ⟨w, rfl⟩ : ∃ x, x = wc := ⟨_, rfl⟩; obtain ⟨lt, hlt⟩ : ∃ d, (((x97 && x122) || (x65 && x90)) || x95) = d := ⟨_, rfl⟩; have hst := HST.out; rw [hlt] at hst ⊢; have HST2 := Jh hst; clear HST hst hlt h97 h122 h65 h90 h95; go_upto_region 6 with fail
     go_cut [6] (fun s6 wz => s6 = .bool (x48 && x57) ∧ wz = w)
     case first =>
      cases x48 <;> cases x57
      all_goals
       go_wp2_with fail
       go_meet
       exact ⟨rfl, rfl⟩
     case rest =>
      obtain ⟨rfl, rfl⟩ := hcut; obtain ⟨w, rfl⟩ : ∃ x, x = wc := ⟨_, rfl⟩; obtain ⟨dg, hdg⟩ : ∃ d, (x48 && x57) = d := ⟨_, rfl⟩; have hst := HST2.out; rw [hdg] at hst ⊢; have HST3 := Jh hst; clear HST2 hst hdg h48 h57; go_upto_region 7 with fail
      go_cut [49] (fun s49 wz => s49 = .bool (!(lt || (dg && x0))) ∧ wz = w)
      case first =>
       cases lt <;> cases dg <;> cases x0
       all_goals
        go_wp2_with fail
        go_meet
        exact ⟨rfl, rfl⟩
      case rest =>
       obtain ⟨rfl, rfl⟩ := hcut; obtain ⟨w, rfl⟩ : ∃ x, x = wc := ⟨_, rfl⟩; obtain ⟨ok, hok⟩ : ∃ d, (lt || (dg && x0)) = d := ⟨_, rfl⟩; have hst := HST3.out; rw [hok] at hst ⊢; have HST4 := Jh hst; clear HST3 hst hok h0 hz0
       cases ok with
       | false =>
        have hRf : R = false := by have := HST4.out; simpa using this.symm
        have hrf : r = false := by rw [← HRR.out, hRf]; rfl
        subst hrf; clear hRf; go_wp2_with fail
        go_ret
        exact ⟨rfl, rfl⟩
       | true =>
        go_wp2_with fail
        go_roundg (gk - 1)
        case measure => have := HIG.out; omega
        case rel => exact ⟨rfl, i + 1, by have := HIG.out; omega, by go_num, by have := HST4.out; simpa using this⟩
   ·have hRt : R = true := by
     have := HALL.out; rw [List.drop_of_length_le (by rw [Kaf]; omega), allOk] at this; exact this.symm
    have HRT := Jh hRt; clear hRt; go_wp2_with fail
    go_meet
    exact ⟨rfl, HRT.out⟩
 case rest =>
  obtain ⟨rfl, hRt⟩ := hcut; obtain ⟨w, rfl⟩ : ∃ x, x = wc := ⟨_, rfl⟩; have hrr := HRR.out; rw [hRt, Bool.true_and] at hrr; obtain ⟨x1, h1⟩ : ∃ x, decide ((1 : Int) ≤ (s.size : Int)) = x := ⟨_, rfl⟩; obtain ⟨x2, h2⟩ : ∃ x, decide ((s.size : Int) ≤ 32) = x := ⟨_, rfl⟩
  have hrf : r = (x1 && x2) := by
   rw [← hrr, ← h1, ← h2, Bool.eq_iff_iff]; simp only [Bool.and_eq_true, decide_eq_true_eq]; omega
  have h1' : decide (1 ≤ s.size) = x1 := by rw [← h1, decide_eq_decide]; omega
  have HRF := Jh hrf; clear hrr hRt hrf; cases x1 <;> cases x2
  all_goals
   go_wp2_with fail
   go_ret
   exact ⟨Qfd (by rw [HRF.out]; rfl), rfl⟩
end
end Go.Proofs.YtdoiekknhnbepaaGreatDoor
namespace Go.Proofs
open Go.Shelf
open Go.RowKit in
open Go.RowKit in
open Go.RowKit in
def Tryz.lays125_ren : Go.Shelf.Ren := ⟨fun | 125 => 174 | 128 => 211 | 129 => 212 | n => n, fun | 46 => 200 | 3 => 3 | 51 => 74 | 53 => 100 | 4 => 4 | 5 => 5 | 9 => 9 | n => n, fun | n => n⟩
theorem Tryz.lays125 : Go.Proofs.Lays.n125 Tryz.prog Tryz.lays125_ren := {
 mixed := by kernel_rfl
 f125 := Tryz.func174.trans (congrArg some (by kernel_rfl))
 f128 := Tryz.func211.trans (congrArg some (by kernel_rfl))
 f129 := Tryz.func212.trans (congrArg some (by kernel_rfl))
 t3 := Tryz.underlying3
 a3 := Tryz.isAgg3
 z3 := Tryz.sizeOf3
 v3 := Tryz.zeroValue3
 t4 := Tryz.underlying4
 a4 := Tryz.isAgg4
 z4 := Tryz.sizeOf4
 v4 := Tryz.zeroValue4
 t5 := Tryz.underlying5
 a5 := Tryz.isAgg5
 z5 := Tryz.sizeOf5
 v5 := Tryz.zeroValue5
 t9 := Tryz.underlying9
 a9 := Tryz.isAgg9
 z9 := Tryz.sizeOf9
 v9 := Tryz.zeroValue9
 t46 := Tryz.underlying200
 a46 := Tryz.isAgg200
 z46 := Tryz.sizeOf200
 v46 := Tryz.zeroValue200
 t51 := Tryz.underlying74
 a51 := Tryz.isAgg74
 z51 := Tryz.sizeOf74
 v51 := Tryz.zeroValue74
 t53 := Tryz.underlying100
 a53 := Tryz.isAgg100
 z53 := Tryz.sizeOf100
 v53 := Tryz.zeroValue100 }
theorem Tryz.bits_Len (x : Int) (w : World) (h0 : 0 ≤ x) (h1 : x ≤ 18446744073709551615) :
  Calls Tryz.prog 174 #[.int .u64 x] w fun e w' => e = .returned (.int .i64 (Lib.bitLen x.toNat)) ∧ w' = w := Any.bits_Len Tryz.lays125 x w h0 h1
def Tryz.lays134_ren : Go.Shelf.Ren := ⟨fun | 134 => 244 | 129 => 212 | n => n, fun | 53 => 100 | 3 => 3 | 4 => 4 | 46 => 200 | 5 => 5 | 9 => 9 | n => n, fun | n => n⟩
theorem Tryz.lays134 : Go.Proofs.Lays.n134 Tryz.prog Tryz.lays134_ren := {
 mixed := by kernel_rfl
 f129 := Tryz.func212.trans (congrArg some (by kernel_rfl))
 f134 := Tryz.func244.trans (congrArg some (by kernel_rfl))
 t3 := Tryz.underlying3
 a3 := Tryz.isAgg3
 z3 := Tryz.sizeOf3
 v3 := Tryz.zeroValue3
 t4 := Tryz.underlying4
 a4 := Tryz.isAgg4
 z4 := Tryz.sizeOf4
 v4 := Tryz.zeroValue4
 t5 := Tryz.underlying5
 a5 := Tryz.isAgg5
 z5 := Tryz.sizeOf5
 v5 := Tryz.zeroValue5
 t9 := Tryz.underlying9
 a9 := Tryz.isAgg9
 z9 := Tryz.sizeOf9
 v9 := Tryz.zeroValue9
 t46 := Tryz.underlying200
 a46 := Tryz.isAgg200
 z46 := Tryz.sizeOf200
 v46 := Tryz.zeroValue200
 t53 := Tryz.underlying100
 a53 := Tryz.isAgg100
 z53 := Tryz.sizeOf100
 v53 := Tryz.zeroValue100 }
theorem Tryz.bits_LeadingZeros64 (x : Int) (w : World) (h0 : 0 ≤ x) (h1 : x ≤ 18446744073709551615) :
  Calls Tryz.prog 244 #[.int .u64 x] w fun e w' => e = .returned (.int .i64 (64 - (Lib.bitLen x.toNat : Int))) ∧ w' = w := Any.bits_LeadingZeros64 Tryz.lays134 x w h0 h1
def Tryz.lays213_ren : Go.Shelf.Ren := ⟨fun | 213 => 179 | 265 => 223 | n => n, fun | 9 => 9 | 3 => 3 | n => n, fun | n => n⟩
open Go.RowKit in
def Tryz.lays106_ren : Go.Shelf.Ren := ⟨fun | 106 => 131 | 213 => 179 | 265 => 223 | n => n, fun | 9 => 9 | 3 => 3 | n => n, fun | n => n⟩
theorem Tryz.lays106 : Go.Proofs.Lays.n106 Tryz.prog Tryz.lays106_ren := {
 mixed := by kernel_rfl
 f106 := Tryz.func131.trans (congrArg some (by kernel_rfl))
 f213 := Tryz.func179.trans (congrArg some (by kernel_rfl))
 f265 := Tryz.func223.trans (congrArg some (by kernel_rfl))
 t3 := Tryz.underlying3
 a3 := Tryz.isAgg3
 z3 := Tryz.sizeOf3
 v3 := Tryz.zeroValue3
 t9 := Tryz.underlying9
 a9 := Tryz.isAgg9
 z9 := Tryz.sizeOf9
 v9 := Tryz.zeroValue9 }
open Go.RowKit in
theorem Tryz.strings_Compare (a b : ByteArray) (w : World) :
  Calls Tryz.prog 131 #[.string a, .string b] w fun e w' => e = .returned (.int .i64 (Lib.compareBytes a.data.toList b.data.toList)) ∧ w' = w := Any.strings_Compare Tryz.lays106 a b w
open Go.RowKit in
open Go.RowKit in
open Go.RowKit in
open Go.RowKit in
open Go.RowKit in
open Go.RowKit in
open Go.Sort Go.RowKit in
open Go.Sort Go.RowKit in
open Go.RowKit Go.Sort in
open Go.RowKit Go.Sort in
def Tryz.laysBS_ren : Go.Shelf.Ren := ⟨fun | 26 => 169 | 33 => 197 | 34 => 198 | 38 => 241 | n => n, fun | 24 => 118 | 9 => 9 | 3 => 3 | 4 => 4 | 40 => 200 | 0 => 0 | n => n, fun | n => n⟩
theorem Tryz.laysBS : Go.Proofs.Lays2.n26 Tryz.prog Tryz.laysBS_ren := {
 mixed := by kernel_rfl
 f26 := Tryz.func169.trans (congrArg some (by kernel_rfl))
 f33 := Tryz.func197.trans (congrArg some (by kernel_rfl))
 f34 := Tryz.func198.trans (congrArg some (by kernel_rfl))
 f38 := Tryz.func241.trans (congrArg some (by kernel_rfl))
 t0 := Tryz.underlying0
 a0 := Tryz.isAgg0
 z0 := Tryz.sizeOf0
 v0 := Tryz.zeroValue0
 t3 := Tryz.underlying3
 a3 := Tryz.isAgg3
 z3 := Tryz.sizeOf3
 v3 := Tryz.zeroValue3
 t4 := Tryz.underlying4
 a4 := Tryz.isAgg4
 z4 := Tryz.sizeOf4
 v4 := Tryz.zeroValue4
 t9 := Tryz.underlying9
 a9 := Tryz.isAgg9
 z9 := Tryz.sizeOf9
 v9 := Tryz.zeroValue9
 t24 := Tryz.underlying118
 a24 := Tryz.isAgg118
 z24 := Tryz.sizeOf118
 v24 := Tryz.zeroValue118
 t40 := Tryz.underlying200
 a40 := Tryz.isAgg200
 z40 := Tryz.sizeOf200
 v40 := Tryz.zeroValue200 }
def Tryz.laysSFL_ren : Go.Shelf.Ren := ⟨fun | 6 => 119 | 15 => 174 | 14 => 173 | 28 => 211 | 29 => 212 | 20 => 203 | 21 => 204 | 22 => 205 | 23 => 206 | 24 => 207 | 25 => 208 | 26 => 209 | 27 => 210 | 46 => 246 | 47 => 247 | 48 => 248 | 49 => 249 | 50 => 250 | 57 => 261 | n => n, fun | 22 => 54 | 24 => 99 | 25 => 211 | 3 => 3 | 39 => 200 | 0 => 0 | 53 => 74 | 55 => 100 | 4 => 4 | 46 => 303 | 45 => 302 | 50 => 265 | 5 => 5 | 9 => 9 | 66 => 337 | 70 => 340 | 76 => 349 | 77 => 350 | n => n, fun | n => n⟩
theorem Tryz.laysSFL : Go.Proofs.SlLaysF0.n6 Tryz.prog Tryz.laysSFL_ren := {
 mixed := by kernel_rfl
 f6 := ⟨Tryz.f119.name, by decide, Tryz.func119.trans (congrArg some (by kernel_rfl))⟩
 f14 := ⟨Tryz.f173.name, by decide, Tryz.func173.trans (congrArg some (by kernel_rfl))⟩
 f15 := Tryz.func174.trans (congrArg some (by kernel_rfl))
 f20 := ⟨Tryz.f203.name, by decide, Tryz.func203.trans (congrArg some (by kernel_rfl))⟩
 f21 := ⟨Tryz.f204.name, by decide, Tryz.func204.trans (congrArg some (by kernel_rfl))⟩
 f22 := ⟨Tryz.f205.name, by decide, Tryz.func205.trans (congrArg some (by kernel_rfl))⟩
 f23 := ⟨Tryz.f206.name, by decide, Tryz.func206.trans (congrArg some (by kernel_rfl))⟩
 f24 := ⟨Tryz.f207.name, by decide, Tryz.func207.trans (congrArg some (by kernel_rfl))⟩
 f25 := ⟨Tryz.f208.name, by decide, Tryz.func208.trans (congrArg some (by kernel_rfl))⟩
 f26 := ⟨Tryz.f209.name, by decide, Tryz.func209.trans (congrArg some (by kernel_rfl))⟩
 f27 := ⟨Tryz.f210.name, by decide, Tryz.func210.trans (congrArg some (by kernel_rfl))⟩
 f28 := Tryz.func211.trans (congrArg some (by kernel_rfl))
 f29 := Tryz.func212.trans (congrArg some (by kernel_rfl))
 f46 := ⟨Tryz.f246.name, by decide, Tryz.func246.trans (congrArg some (by kernel_rfl))⟩
 f47 := Tryz.func247.trans (congrArg some (by kernel_rfl))
 f48 := Tryz.func248.trans (congrArg some (by kernel_rfl))
 f49 := ⟨Tryz.f249.name, by decide, Tryz.func249.trans (congrArg some (by kernel_rfl))⟩
 f50 := ⟨Tryz.f250.name, by decide, Tryz.func250.trans (congrArg some (by kernel_rfl))⟩
 f57 := ⟨Tryz.f261.name, by decide, Tryz.func261.trans (congrArg some (by kernel_rfl))⟩
 t0 := Tryz.underlying0
 a0 := Tryz.isAgg0
 z0 := Tryz.sizeOf0
 v0 := Tryz.zeroValue0
 t3 := Tryz.underlying3
 a3 := Tryz.isAgg3
 z3 := Tryz.sizeOf3
 v3 := Tryz.zeroValue3
 t4 := Tryz.underlying4
 a4 := Tryz.isAgg4
 z4 := Tryz.sizeOf4
 v4 := Tryz.zeroValue4
 t5 := Tryz.underlying5
 a5 := Tryz.isAgg5
 z5 := Tryz.sizeOf5
 v5 := Tryz.zeroValue5
 t9 := Tryz.underlying9
 a9 := Tryz.isAgg9
 z9 := Tryz.sizeOf9
 v9 := Tryz.zeroValue9
 t22 := Tryz.underlying54
 a22 := Tryz.isAgg54
 z22 := Tryz.sizeOf54
 v22 := Tryz.zeroValue54
 t25 := Tryz.underlying211
 a25 := Tryz.isAgg211
 z25 := Tryz.sizeOf211
 v25 := Tryz.zeroValue211
 t39 := Tryz.underlying200
 a39 := Tryz.isAgg200
 z39 := Tryz.sizeOf200
 v39 := Tryz.zeroValue200
 t45 := Tryz.underlying302
 a45 := Tryz.isAgg302
 z45 := Tryz.sizeOf302
 v45 := Tryz.zeroValue302
 t46 := Tryz.underlying303
 a46 := Tryz.isAgg303
 z46 := Tryz.sizeOf303
 v46 := Tryz.zeroValue303
 t50 := Tryz.underlying265
 a50 := Tryz.isAgg265
 z50 := Tryz.sizeOf265
 v50 := Tryz.zeroValue265
 t53 := Tryz.underlying74
 a53 := Tryz.isAgg74
 z53 := Tryz.sizeOf74
 v53 := Tryz.zeroValue74
 t55 := Tryz.underlying100
 a55 := Tryz.isAgg100
 z55 := Tryz.sizeOf100
 v55 := Tryz.zeroValue100
 t66 := Tryz.underlying337
 a66 := Tryz.isAgg337
 z66 := Tryz.sizeOf337
 v66 := Tryz.zeroValue337
 t70 := Tryz.underlying340
 a70 := Tryz.isAgg340
 z70 := Tryz.sizeOf340
 v70 := Tryz.zeroValue340
 t76 := Tryz.underlying349
 a76 := Tryz.isAgg349
 z76 := Tryz.sizeOf349
 v76 := Tryz.zeroValue349
 t77 := Tryz.underlying350
 a77 := Tryz.isAgg350
 z77 := Tryz.sizeOf350
 v77 := Tryz.zeroValue350 }
def Tryz.laysCFL_ren : Go.Shelf.Ren := ⟨fun | 8 => 193 | 6 => 232 | n => n, fun | 22 => 54 | 23 => 99 | 25 => 294 | 4 => 4 | 3 => 3 | 0 => 0 | n => n, fun | n => n⟩
theorem Tryz.laysCFL : Go.Proofs.SlLaysH0.n8 Tryz.prog Tryz.laysCFL_ren := {
 mixed := by kernel_rfl
 f6 := ⟨Tryz.f232.name, by decide, Tryz.func232.trans (congrArg some (by kernel_rfl))⟩
 f8 := ⟨Tryz.f193.name, by decide, Tryz.func193.trans (congrArg some (by kernel_rfl))⟩
 t0 := Tryz.underlying0
 a0 := Tryz.isAgg0
 z0 := Tryz.sizeOf0
 v0 := Tryz.zeroValue0
 t3 := Tryz.underlying3
 a3 := Tryz.isAgg3
 z3 := Tryz.sizeOf3
 v3 := Tryz.zeroValue3
 t4 := Tryz.underlying4
 a4 := Tryz.isAgg4
 z4 := Tryz.sizeOf4
 v4 := Tryz.zeroValue4
 t22 := Tryz.underlying54
 a22 := Tryz.isAgg54
 z22 := Tryz.sizeOf54
 v22 := Tryz.zeroValue54
 t25 := Tryz.underlying294
 a25 := Tryz.isAgg294
 z25 := Tryz.sizeOf294
 v25 := Tryz.zeroValue294 }
def Tryz.laysCL_ren : Go.Shelf.Ren := ⟨fun | 41 => 61 | n => n, fun | 22 => 54 | 23 => 99 | 4 => 4 | n => n, fun | n => n⟩
theorem Tryz.laysCL : Go.Proofs.SlLaysE0.n41 Tryz.prog Tryz.laysCL_ren := {
 mixed := by kernel_rfl
 f41 := ⟨Tryz.f61.name, by decide, Tryz.func61.trans (congrArg some (by kernel_rfl))⟩
 t4 := Tryz.underlying4
 a4 := Tryz.isAgg4
 z4 := Tryz.sizeOf4
 v4 := Tryz.zeroValue4
 t22 := Tryz.underlying54
 a22 := Tryz.isAgg54
 z22 := Tryz.sizeOf54
 v22 := Tryz.zeroValue54 }
end Go.Proofs
