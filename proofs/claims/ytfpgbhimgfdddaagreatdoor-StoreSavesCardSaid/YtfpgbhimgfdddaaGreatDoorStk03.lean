/- Merged (what the claim wants of): Region, SMap, Texts, DskMem. -/
import Derived.Test.YtfpgbhimgfdddaaGreatDoorStk01
import Derived.StillTail
import Derived.Deep.QuietTactic
import Derived.BigQuiet
import Derived.Deep.RegionHeld3
import Derived.Deep.DrawnRows
import Derived.Deep.DeepCutAuto
import Derived.WalkSpells
import Derived.WalkLawsBesides
import Derived.Maps.RangeWalk
import Derived.Maps.OwnSet
import Derived.Maps.Views
import Derived.StringKeys
import Derived.Sort.KeysCollected
import Derived.Test.YtfpgbhimgfdddaaGreatDoorProg
import Derived.Laws.AppendOwnNone
import Derived.Sort.OwnSorted
import Derived.Deep.LoopGhost
import Derived.Deep.CutBlock
import Derived.IntWalk
set_option linter.unusedVariables false
set_option linter.unusedSimpArgs false
/- Regions that draw their order: operations that read and calls that only make new memory, walked once in the order of the text, a forced tail behind them (a store, a new block). No program in sight. -/
namespace Go.Proofs.YtfpgbhimgfdddaaGreatDoor
open Go.RowKit

/-- A world that has grown out of w: all that stood in w stands in it unchanged. -/
structure Later (w0 : World) where
  w : World
  h : Below w0.heap.size w0 w

instance Later.some {w : World} : Nonempty (Later w) := ⟨⟨w, Below.refl _ _⟩⟩

theorem Later.cell {w : World} (x : Later w) (b o : Nat) (hb : b < w.heap.size) : x.w.cell? ⟨b, o, none⟩ = w.cell? ⟨b, o, none⟩ := x.h.cell (p := ⟨b, o, none⟩) hb
theorem Later.frozen {w : World} (x : Later w) (b o : Nat) (hb : b < w.heap.size) : x.w.frozen? ⟨b, o, none⟩ = w.frozen? ⟨b, o, none⟩ := x.h.frozen (p := ⟨b, o, none⟩) hb

/-- A callee whose contract says that it only made new memory, met in a world that has grown. -/
theorem quiet_later {P : Program} {f : FuncId} {args : Array Value} {w : World} (x : Later w) {v : Value} (h : Calls P f args x.w fun e w' => e = .returned v ∧ Below x.w.heap.size x.w w') :
    Calls P f args x.w fun e w'' => e = .returned v ∧ ∃ y : Later w, w'' = y.w :=
  h.mono fun _ w' ⟨he, hb⟩ => ⟨he, ⟨w', then_ x.h hb⟩, rfl⟩
theorem quiet_same {P : Program} {f : FuncId} {args : Array Value} {w : World} (x : Later w) {v : Value} (h : Calls P f args x.w fun e w' => e = .returned v ∧ x.w = w') :
    Calls P f args x.w fun e w'' => e = .returned v ∧ ∃ y : Later w, w'' = y.w :=
  h.mono fun _ _ ⟨he, hb⟩ => ⟨he, x, hb.symm⟩

section
variable {P : Program} {ops : Array Oper} {md : Region.Mode} {C : World → Prop}

/-- Up to n operations come up, in whatever order, each quiet in the class; then L. -/
def wpAnyT (P : Program) (md : Region.Mode) (ops : Array Oper) (C : World → Prop) (n : Nat) (L : Array Bool → Act → Prop) : Nat → Array Bool → Act → Prop
  | 0, listed, a => L listed a
  | f + 1, listed, a =>
    Region.ready md ops listed ≠ [] ∧ ∀ i ∈ Region.ready md ops listed, i < n ∧ qOp P ops C i (wpAnyT P md ops C n L f (listed.setIfInBounds i true)) a

theorem wpAny_of_T {n g : Nat} {L : Array Bool → Act → Prop} {Q' : Exit → Act → World → Prop} (hL : ∀ listed a w, C w → L listed a → wpAny P md ops Q' g listed a w) :
    ∀ (f : Nat) (listed : Array Bool) (a : Act) (w : World), C w → wpAnyT P md ops C n L f listed a → wpAny P md ops Q' (f + g) listed a w
  | 0, listed, a, w, hw, h => by rw [Nat.zero_add]; exact hL _ _ _ hw h
  | f + 1, listed, a, w, hw, h => by
    rw [show f + 1 + g = (f + g) + 1 by omega]
    exact ⟨fun h0 => absurd h0 h.1, fun i hi => wpOp_of_qOp hw (fun a' w' hw' h' => wpAny_of_T hL f _ a' w' hw' h') (h.2 i hi).2⟩

theorem wpAnyT_first {n i : Nat} {oi : Oper} {v : Value} {L : Array Bool → Act → Prop} (hi : ops[i]? = some oi) (hsel : ∀ (j : Nat) (o : Oper) cs b, ops[j]? = some o → o.op ≠ .select cs b)
    (hs : Region.sinkB md ops n = true) (hc : Region.chainB md ops n = true) (hn : n < ops.size) (hin : i < n)
    (hdone : ∀ listed a, L listed a → ∀ j ∈ Region.ready md ops listed, n ≤ j) :
    ∀ (f : Nat) (listed : Array Bool) (a : Act), HeadInv md ops n listed →
      (∀ j oj, ops[j]? = some oj → j ≠ i → listed.getD j true = false → (∀ e ∈ oj.after, Region.binds md e = true → e.on ≠ i) → oi.apart ops oj = true) →
      i ∈ Region.ready md ops listed → YieldsIn P ops C oi v a →
      wpAnyT P md ops C n L f (listed.setIfInBounds i true) (a.put oi.dst v) → wpAnyT P md ops C n L (f + 1) listed a := by
  intro f
  induction f with
  | zero =>
    intro listed a inv _ hr hy H
    refine ⟨fun h => (by rw [h] at hr; cases hr), fun j hj => ?_⟩
    have hjn : j < n := Nat.lt_of_not_le fun h => tail_waits hs hc hn inv _ i rfl hin (mem_ready.1 hr).1 j h hj
    refine ⟨hjn, ?_⟩
    by_cases hji : j = i
    · subst hji; exact hy.qOp hi H
    · exact absurd (hdone _ _ H j (ready_mono hj hji)) (by omega)
  | succ f ih =>
    intro listed a inv hfree hr hy H
    refine ⟨fun h => (by rw [h] at hr; cases hr), fun j hj => ?_⟩
    have hjn : j < n := Nat.lt_of_not_le fun h => tail_waits hs hc hn inv _ i rfl hin (mem_ready.1 hr).1 j h hj
    refine ⟨hjn, ?_⟩
    by_cases hji : j = i
    · subst hji; exact hy.qOp hi H
    obtain ⟨hjun, oj, hoj, hall⟩ := mem_ready.1 hj
    have hnot : ∀ e ∈ oj.after, Region.binds md e = true → e.on ≠ i := fun e he hb heq => by
      have h1 := hall e he hb
      rw [heq, getD_both (mem_ready.1 hr).1] at h1
      cases h1
    have h2 := qOp_put hoj (hfree j oj hoj hji hjun hnot) (fun cs b => hsel i oi cs b hi) (fun cs b => hsel j oj cs b hoj) hy (H.2 j (ready_mono hj hji)).2
    refine qOp_mono (fun a' h3 => ih (listed.setIfInBounds j true) a' (inv.set hj hjn) (fun k ok hk hki hun hno => hfree k ok hk hki ?_ hno) (ready_mono hr (Ne.symm hji)) h3.1 ?_) h2
    · by_cases hjk : j = k
      · subst hjk; exact hjun
      · rw [getD_set_ne true hjk] at hun; exact hun
    · rw [Array.setIfInBounds_comm _ _ hji]
      exact h3.2

theorem wpAnyT_lex {n g : Nat} {Lq : Act → Prop} (hsel : Region.noSelect ops = true) (hs : Region.sinkB md ops n = true) (hc : Region.chainB md ops n = true) (hn : n < ops.size) :
    ∀ (l : List Oper) (k : Nat) (listed : Array Bool) (a : Act), (∀ j, j < l.length → l[j]? = ops[k + j]?) → k + l.length = n → HeadInv md ops n listed →
    Region.lexHead md ops g l.length k listed = true → wpQuiet P ops C Lq l a →
    wpAnyT P md ops C n (fun listed' a' => Region.seqB md ops g n listed' = true ∧ Lq a') l.length listed a
  | [], k, listed, a, _, hk, _, hB, h => by
    have : k = n := by simpa using hk
    subst this
    exact ⟨by simpa [Region.lexHead] using hB, h⟩
  | o :: l, k, listed, a, hl, hk, inv, hB, h => by
    have h0 : ops[k]? = some o := by simpa using (hl 0 (by simp)).symm
    simp only [List.length_cons, Region.lexHead, Bool.and_eq_true] at hB
    obtain ⟨⟨hr, hf⟩, hB'⟩ := hB
    have hkn : k < n := by simp only [List.length_cons] at hk; omega
    have hr' : k ∈ Region.ready md ops listed := by simpa using hr
    have hst : qOp P ops C k (wpQuiet P ops C Lq l) a := by unfold qOp; simp only [h0]; exact h
    obtain ⟨v, hy, hK⟩ := yieldsIn_of_qOp h0 hst
    exact wpAnyT_first h0 (Region.noSelect_spec hsel) hs hc hn hkn (fun listed' a' hL => seqB_ready hL.1) l.length listed a inv (Region.free_spec h0 hf) hr' hy
      (wpAnyT_lex hsel hs hc hn l (k + 1) _ _ (fun j hj => by have := hl (j + 1) (by simp; omega); simpa [Nat.add_assoc, Nat.add_comm 1 j] using this) (by simp only [List.length_cons] at hk; omega) (inv.set hr' hkn) hB' hK)

/-- The first n operations are quiet in the class; what stands behind them has one order. -/
theorem wp_region_quiet_tail {id : Nat} {Q : Exit → Act → World → Prop} {a : Act} {w : World} {l : List Oper} (n : Nat) (hm : P.follows .mixedOrders = true) (hB : Region.lexTailB .any l.toArray n = true)
    (hC : C { w with drawn := w.drawn + 1 })
    (h : wpQuiet P l.toArray C (fun a' => ∀ w', C w' → wpList P l.toArray Q (l.drop n) a' w') (l.take n) a) : (Code.region id l.toArray true).wp P Q a w := by
  simp only [Region.lexTailB, Bool.and_eq_true, decide_eq_true_eq] at hB
  obtain ⟨⟨⟨⟨hsel, hn⟩, hs⟩, hc⟩, hlex⟩ := hB
  have hn' : n < l.length := by simpa using hn
  have htl : (l.take n).length = n := by simp; omega
  have hdl : (l.drop n).length = l.toArray.size - n := by simp
  have inv0 : HeadInv .any l.toArray n (Array.replicate l.toArray.size false) :=
    ⟨by simp, fun j oj _ hl => (by rw [getD_replicate_false] at hl; cases hl), fun t _ ht => getD_in (by simpa using ht) (getD_replicate_false _ _)⟩
  have H := wpAnyT_lex (md := .any) (g := l.toArray.size - n) hsel hs hc hn (l.take n) 0 _ a (fun j hj => by
    have hj' : j < n := by rw [htl] at hj; exact hj
    simp [hj']) (by simpa using htl) inv0 (by rw [htl]; exact hlex) h
  refine wp_region_any hm ?_
  have := wpAny_of_T (Q' := Q) (g := l.toArray.size - n) (fun listed a' w' hw' hL => by
    have := wpAny_of_seq (md := .any) (Q' := Q) (l.drop n) n listed a' w' (fun j => by simp [List.getElem?_drop]) (by rw [hdl]; exact hL.1) (hL.2 w' hw')
    rwa [hdl] at this) _ _ _ _ hC H
  rw [htl, show n + (l.toArray.size - n) = l.toArray.size by omega] at this
  exact this

/-- At the class of worlds that have grown out of w. -/
theorem wp_region_later {id : Nat} {Q : Exit → Act → World → Prop} {a : Act} {w : World} {l : List Oper} (hm : P.follows .mixedOrders = true) (hB : Region.lexB .any l.toArray = true)
    (h : wpQuiet P l.toArray (fun w' => ∃ x : Later w, w' = x.w) (fun a' => ∀ w', (∃ x : Later w, w' = x.w) → Q .normal a' w') l a) : (Code.region id l.toArray true).wp P Q a w :=
  wp_region_quiet (C := fun w' => ∃ x : Later w, w' = x.w) hm hB ⟨⟨w.drew, (Below.refl _ _).drew⟩, rfl⟩ (by simpa using h)
theorem wp_region_later_tail {id : Nat} {Q : Exit → Act → World → Prop} {a : Act} {w : World} {l : List Oper} (n : Nat) (hm : P.follows .mixedOrders = true) (hB : Region.lexTailB .any l.toArray n = true)
    (h : wpQuiet P l.toArray (fun w' => ∃ x : Later w, w' = x.w) (fun a' => ∀ w', (∃ x : Later w, w' = x.w) → wpList P l.toArray Q (l.drop n) a' w') (l.take n) a) : (Code.region id l.toArray true).wp P Q a w :=
  wp_region_quiet_tail (C := fun w' => ∃ x : Later w, w' = x.w) n hm hB ⟨⟨w.drew, (Below.refl _ _).drew⟩, rfl⟩ h
end
end Go.Proofs.YtfpgbhimgfdddaaGreatDoor

/- Maps whose keys are strings and whose elements are whatever values: what they hold as a function from texts; look-up, store, delete, range, copy. No program in sight. -/
namespace Go.Proofs.YtfpgbhimgfdddaaGreatDoor
open Go.RowKit Go.Maps Go.Sort

/-- Elements read as themselves. -/
def HR (v : Value) : Option (DataW Value × List MemPlace) := some (.held v, [])
/-- Block b is a map that holds at each key what f says. -/
def SMap (P : Program) (K : TypeId) (w : World) (b : Nat) (f : Txt → Option Value) : Prop :=
  ∃ D : DataW Value, w.ownsMap P K HR b (Maps.size D) D ∧ (∀ x, Maps.has D (.string x) = (f x).isSome) ∧ ∀ x v, f x = some v → ∀ z, D.atKey (.string x) z = .held v
/-- The function with one key set. -/
def upd (f : Txt → Option Value) (x : Txt) (v : Option Value) : Txt → Option Value := fun y => if y = x then v else f y

theorem nodup_len {α : Type} [DecidableEq α] : ∀ (l L : List α), l.Nodup → (∀ x ∈ l, x ∈ L) → l.length ≤ L.length
  | [], _, _, _ => by simp
  | a :: l, L, hn, h => by
    have ha := List.nodup_cons.1 hn
    have := nodup_len l (L.erase a) ha.2 (fun x hx => (List.mem_erase_of_ne (fun e : x = a => ha.1 (by rw [← e]; exact hx))).2 (h x (by simp [hx])))
    rw [List.length_erase_of_mem (h a (by simp))] at this
    have h0 : 0 < L.length := List.length_pos_of_mem (h a (by simp))
    simp only [List.length_cons]
    omega
section
variable {P : Program} {K T E : TypeId} {w w' : World} {b : Nat} {f : Txt → Option Value}

theorem owns_tight {n : Nat} {D : DataW Value} (h : w.ownsMap P K HR b n D) : w.ownsMap P K HR b (Maps.size D) D := by
  obtain ⟨es, clock, hb, F, hs, rfl⟩ := h
  exact ⟨es, clock, hb, F, by simp [Maps.size, length_sorted], rfl⟩
theorem SMap.lt (h : SMap P K w b f) : b < w.heap.size := by obtain ⟨D, h, _⟩ := h; exact h.lt
theorem SMap.grown {row : Option Nat} (h : SMap P K w b f) (hg : w.grownBy w' row) (hne : some b ≠ row) : SMap P K w' b f := by
  obtain ⟨D, h1, h2⟩ := h
  exact ⟨D, h1.kept hg hne, h2⟩
theorem SMap.same (h : SMap P K w b f) (hb : w'.heap[b]? = w.heap[b]?) : SMap P K w' b f := by
  obtain ⟨D, ⟨es, clock, h1, r⟩, h2⟩ := h
  exact ⟨D, ⟨es, clock, hb.trans h1, r⟩, h2⟩
theorem SMap.below {B : Nat} (h : SMap P K w b f) (hb : Below B w w') (hB : b < B) : SMap P K w' b f := h.same (hb.block b hB)
theorem SMap.made (w : World) : SMap P K (w.alloc (.map #[] 0)) w.heap.size fun _ => none :=
  ⟨.map [], World.ownsMap_made w P K HR, fun x => rfl, fun x v h => by cases h⟩
theorem SMap.keyed (hK : P.underlying K = some .string) : Keyed P K := string_keyed hK

/-- How many keys there are at the most. -/
theorem SMap.size_le (hK : P.underlying K = some .string) {D : DataW Value} {n : Nat} (h : w.ownsMap P K HR b n D) (L : List Txt) (hL : ∀ x, Maps.has D (.string x) = true → x ∈ L) : Maps.size D ≤ L.length := by
  obtain ⟨es, rfl, hpw⟩ := h.tidy (SMap.keyed hK)
  obtain ⟨es', e', hko⟩ := h.keysOf
  injection e' with e'
  subst e'
  have hstr : ∀ p ∈ es, ∃ x, p.1 = .string x := fun p hp => by
    obtain ⟨v, hv⟩ := hko p hp
    obtain ⟨x, _, hx, _⟩ := Maps.keyOf_str hK hv
    exact ⟨x, hx⟩
  rw [size_eq]
  have hnd : (es.map fun p => strOf p.1).Nodup := by
    refine List.pairwise_map.2 (hpw.imp_of_mem fun {p q} hp' hq' hne e => hne ?_)
    obtain ⟨a, ha⟩ := hstr p hp'
    obtain ⟨b, hb⟩ := hstr q hq'
    rw [ha, hb] at e ⊢
    exact congrArg _ e
  have hsub : ∀ x ∈ es.map (fun p => strOf p.1), x ∈ L := by
    intro x hx
    obtain ⟨p, hp, rfl⟩ := List.mem_map.1 hx
    obtain ⟨a, ha⟩ := hstr p hp
    apply hL
    rw [has_eq, List.any_eq_true]
    exact ⟨p, hp, by rw [ha]; simp [strOf, Lit.sameKey]⟩
  have := nodup_len _ L hnd hsub
  simpa using this

/-- 'm[k]'. -/
theorem SMap.look (h : SMap P K w b f) (hK : P.underlying K = some .string) (ht : P.underlying T = some (.map K E)) {z : Value} (hz : (zeroValue E).run P w = .ok z w) {s : ByteArray} (hs : s.size ≤ maxLen) :
    (Instr.lookup T (.map (some b)) (.string s) false).run P w = .ok ((f s.data.toList).getD z) w := by
  obtain ⟨D, h1, h2, h3⟩ := h
  obtain ⟨v, ps, hrun, hv⟩ := h1.lookup (SMap.keyed hK) ht hz (zd := .held z) (zp := []) rfl (WideMaps.keyOf_string_mk hK hs)
  rw [hrun]
  congr 1
  have e : DataW.held v = D.atKey (.string s.data.toList) (.held z) := by
    have : some (DataW.held v, ([] : List MemPlace)) = some (D.atKey (.string s.data.toList) (.held z), ps) := hv
    injection this with this
    injection this
  cases hf : f s.data.toList with
  | none =>
    have hh := h2 s.data.toList
    rw [hf] at hh
    rw [atKey_of_not_has hh] at e
    injection e
  | some u =>
    rw [h3 _ u hf] at e
    injection e

/-- 'm[k] = v'. -/
theorem SMap.put (h : SMap P K w b f) (hK : P.underlying K = some .string) (ht : P.underlying T = some (.map K E)) {s : ByteArray} (hs : s.size ≤ maxLen) (v : Value) (L : List Txt) (hL : ∀ x, (f x).isSome = true → x ∈ L) (hn : L.length < maxLen) :
    ∃ w1, (Instr.mapUpdate T (.map (some b)) (.string s) v).run P w = .ok () w1 ∧ SMap P K w1 b (upd f s.data.toList (some v)) ∧ w.grownBy w1 (some b) ∧ w1.heap.size = w.heap.size := by
  obtain ⟨D, h1, h2, h3⟩ := h
  have hsz := SMap.size_le hK h1 L (fun x hx => hL x (by rw [← h2]; exact hx))
  obtain ⟨w1, hrun, hown, hturn⟩ := h1.store (SMap.keyed hK) ht (by omega) (kl := .string s.data.toList) (WideMaps.keyOf_string_mk hK hs) (val := v) (d := .held v) (ps := []) rfl
  refine ⟨w1, hrun, ⟨_, owns_tight hown, fun x => ?_, fun x u hu z => ?_⟩, hturn.grown, ?_⟩
  · unfold upd
    by_cases e : x = s.data.toList
    · subst e
      rw [has_put_same (k := .string _) h1.isMap trivial, if_pos rfl]
      rfl
    · rw [has_put_other (by intro h; injection h with h; exact e h), if_neg e, h2]
  · unfold upd at hu
    by_cases e : x = s.data.toList
    · subst e
      rw [if_pos rfl] at hu
      injection hu with hu
      rw [atKey_put_same (k := .string _) h1.isMap trivial, hu]
    · rw [if_neg e] at hu
      rw [atKey_put_other (by intro h; injection h with h; exact e h)]
      exact h3 x u hu z
  · obtain ⟨es, clock, es', clock', _, rfl⟩ := hturn
    simp [ChangeMaps.setBlock]

/-- 'delete(m, k)'. -/
theorem SMap.del (h : SMap P K w b f) (hK : P.underlying K = some .string) (ht : P.underlying T = some (.map K E)) {s : ByteArray} (hs : s.size ≤ maxLen) (ty : TypeId) :
    ∃ w1, (Builtin.delete_ #[T, K] ty #[.map (some b), .string s]).run P w = .ok (.tuple #[]) w1 ∧ SMap P K w1 b (upd f s.data.toList none) ∧ w.grownBy w1 (some b) ∧ w1.heap.size = w.heap.size := by
  obtain ⟨D, h1, h2, h3⟩ := h
  obtain ⟨w1, hrun, hown, hturn⟩ := h1.drop (SMap.keyed hK) ht (kl := .string s.data.toList) (WideMaps.keyOf_string_mk hK hs) ty
  refine ⟨w1, hrun, ⟨_, owns_tight hown, fun x => ?_, fun x u hu z => ?_⟩, hturn.grown, ?_⟩
  · unfold upd
    by_cases e : x = s.data.toList
    · subst e
      rw [has_del_same, if_pos rfl]
      rfl
    · rw [has_del_other (by intro h; injection h with h; exact e h), if_neg e, h2]
  · unfold upd at hu
    by_cases e : x = s.data.toList
    · subst e
      rw [if_pos rfl] at hu
      cases hu
    · rw [if_neg e] at hu
      rw [atKey_del_other (by intro h; injection h with h; exact e h)]
      exact h3 x u hu z
  · obtain ⟨es, clock, es', clock', _, rfl⟩ := hturn
    simp [ChangeMaps.setBlock]
end

/-! ### at the operations -/
section
variable {P : Program} {K T E : TypeId} (w : World) {ops : Array Oper} {rest : List Oper} {o : Oper} {a : Act} {Q : Exit → Act → World → Prop} {b : Nat} {f : Txt → Option Value}
theorem wpList_look (hg : o.guard = none) (m x : Operand) (hop : o.op = Op.lookup T m x false) (hK : P.underlying K = some .string) (ht : P.underlying T = some (.map K E)) {z : Value} (hz : (zeroValue E).run P w = .ok z w)
    (hm : a.eval m = .map (some b)) (h : SMap P K w b f) {s : ByteArray} (hx : a.eval x = .string s) (hs : s.size ≤ maxLen) (r : Value) (hr : (f s.data.toList).getD z = r)
    (hQ : wpList P ops Q rest (a.put o.dst r) w) : wpList P ops Q (o :: rest) a w := by
  refine wpList_plain hg fun K' hK' => ?_
  have := h.look hK ht hz hs
  rw [hr] at this
  unfold Oper.wp
  simp [execOp, hop, hm, hx, this, Result.andThen]
  exact hK' _ _ hQ
theorem wpList_put (hg : o.guard = none) (m x v : Operand) (hop : o.op = Op.mapUpdate T m x v) (hK : P.underlying K = some .string) (ht : P.underlying T = some (.map K E))
    (hm : a.eval m = .map (some b)) (h : SMap P K w b f) {s : ByteArray} (hx : a.eval x = .string s) (hs : s.size ≤ maxLen) (u : Value) (hv : a.eval v = u) (L : List Txt) (hL : ∀ x, (f x).isSome = true → x ∈ L) (hn : L.length < maxLen)
    (hQ : ∀ w1, SMap P K w1 b (upd f s.data.toList (some u)) → w.grownBy w1 (some b) → w1.heap.size = w.heap.size → wpList P ops Q rest (a.put o.dst undef) w1) : wpList P ops Q (o :: rest) a w := by
  refine wpList_plain hg fun K' hK' => ?_
  obtain ⟨w1, hrun, h1, h2, h3⟩ := h.put hK ht hs u L hL hn
  unfold Oper.wp
  simp [execOp, hop, hm, hx, hv, hrun, Result.andThen]
  exact hK' _ _ (hQ w1 h1 h2 h3)
theorem wpList_del (hg : o.guard = none) (m x : Operand) (hop : o.op = Op.call { callee := Callee.builtin Builtin.delete, args := #[m, x], argTypes := #[T, K] }) (hK : P.underlying K = some .string) (ht : P.underlying T = some (.map K E))
    (hm : a.eval m = .map (some b)) (h : SMap P K w b f) {s : ByteArray} (hx : a.eval x = .string s) (hs : s.size ≤ maxLen)
    (hQ : ∀ w1, SMap P K w1 b (upd f s.data.toList none) → w.grownBy w1 (some b) → w1.heap.size = w.heap.size → wpList P ops Q rest (a.put o.dst (.tuple #[])) w1) : wpList P ops Q (o :: rest) a w := by
  refine wpList_plain hg fun K' hK' => ?_
  obtain ⟨w1, hrun, h1, h2, h3⟩ := h.del hK ht hs o.type
  unfold Oper.wp
  simp [execOp, hop, resolve, invoke, builtin, hm, hx, hrun, Result.andThen]
  exact hK' _ _ (hQ w1 h1 h2 h3)
end
end Go.Proofs.YtfpgbhimgfdddaaGreatDoor

/- Lists of texts in memory. -/
namespace Go.Proofs.YtfpgbhimgfdddaaGreatDoor
open Go.RowKit Go.Sort
attribute [local go_sem ↓] Go.wp_at_zero Go.wp_at_succ
attribute [local go_sem] Later.cell Later.frozen

def txtV (s : Txt) : Value := .string ⟨s.toArray⟩
def enc1 (s : Txt) : List Value := [txtV s]
/-- The slice '.slice A n _' reads as the texts l. -/
def Strs (w : World) (A : Option Addr) (n : Nat) (l : List Txt) : Prop := Elems w w.heap.size 1 enc1 A n l
section
variable {w w' : World} {A : Option Addr} {n : Nat} {l : List Txt}
theorem Strs.below (h : Strs w A n l) (hb : Below w.heap.size w w') : Strs w' A n l := (Elems.below h hb).more hb.size
theorem Strs.len (h : Strs w A n l) : l.length = n := Elems.len h
theorem Strs.at_ (h : Strs w A n l) {i : Nat} (hi : i < n) : ∃ b off, A = some ⟨b, off, none⟩ ∧ b < w.heap.size ∧ w.cell? ⟨b, off + i, none⟩ = some (txtV l[i]!) := by
  obtain ⟨b, off, e, hb, hc⟩ := h.2 (by omega)
  have hl : i < l.length := by have := h.len; omega
  refine ⟨b, off, e, hb, ?_⟩
  have := hc i l[i]! (by rw [getElem!_pos l i hl, List.getElem?_eq_getElem hl]) 0 _ rfl
  simpa using this
theorem Strs.nil : Strs w A 0 [] := Elems.nil_
end
theorem Strs.of_own {w : World} {base : Nat} {v : Value} {n : Nat} {l : List Txt} (h : w.ownsRow base 9 1 v n (l.map txtV)) (hn : l.length = n) : ∃ A c, v = .slice A n c ∧ Strs w A n l ∧ (∀ a, A = some a → base ≤ a.block) ∧ n ≤ c := by
  obtain ⟨A, c, h1, h2, h3, h4⟩ := Elems.of_own (enc := enc1) (xs := l) (fun _ _ => rfl) (by
    clear h hn
    induction l with
    | nil => rfl
    | cons x l ih => simp [enc1, ih]) h hn
  exact ⟨A, c, h1, h2, h3, h4⟩
theorem info_string : (Tryz.prog.info? 9).map (fun i => (i.zero, i.size, i.bytes)) = some (some (.string ⟨#[]⟩), 1, 16) := by kernel_rfl

theorem Strs.cells {w : World} {a : Addr} {n : Nat} {l : List Txt} (h : Strs w (some a) n l) : ∀ j u, (l.map txtV)[j]? = some u → w.cell? (a.add j) = some u := by
  intro j u hu
  have hj : j < l.length := by have := (List.getElem?_eq_some_iff.1 hu).1; simpa using this
  have hl := h.len
  obtain ⟨b, off, e, _, hc⟩ := h.at_ (i := j) (by omega)
  injection e with e
  subst e
  rw [Addr.add_lit, hc]
  rw [List.getElem?_map, List.getElem?_eq_getElem hj] at hu
  rw [getElem!_pos l j hj]
  exact hu

theorem holds_own {w : World} {base g cap n : Nat} {ss : List Txt} (h : w.ownsRow base 9 1 (.slice (some ⟨g, 0, none⟩) n cap) n (ss.map txtV)) (hn : ss.length = n) : Holds encStr w g 0 ss.toArray := by
  rcases h.2 with ⟨e, _⟩ | ⟨g', cap', cur, e, _, hh, _, _, hsz, htk⟩
  · cases e
  · injection e with e _ _
    injection e with e
    injection e with e
    subst e
    intro j hj
    have hj' : j < ss.length := by simpa using hj
    refine ⟨?_, by simp [World.frozen?, hh]⟩
    rw [Nat.zero_add, cell_of_row w g j cur _ (0, 0) hh]
    have e1 : cur[j]? = (ss.map txtV)[j]? := by
      rw [← htk, List.getElem?_take_of_lt (by omega)]; simp
    rw [e1, List.getElem?_map, List.getElem?_eq_getElem hj']
    simp [getElem!_pos ss j hj', txtV]

theorem own_grown {w w' : World} {B g : Nat} (hB : B ≤ w.heap.size) (hg : w.grownBy w' (some g)) (hgB : B ≤ g) : Below B w w' :=
  ⟨hg.os, hg.tape, hg.output, hg.size, fun k hk => hg.block k (by omega) (fun e => by injection e with e; omega)⟩

end Go.Proofs.YtfpgbhimgfdddaaGreatDoor

/- Layer 3 (disk): memory that a thing owns (roles of blocks), rows, and a disk in memory. -/
namespace Go.Proofs.YtfpgbhimgfdddaaGreatDoor
open Go.RowKit

/-- What has become of the world: a block that nobody owns (role 0) is as it was; old blocks keep their roles. -/
structure Own (R R' : Nat → Nat) (w w' : World) : Prop where
  os : w'.os = w.os
  tape : w'.tape = w.tape
  output : w'.output = w.output
  size : w.heap.size ≤ w'.heap.size
  block : ∀ k, k < w.heap.size → R k = 0 → w'.heap[k]? = w.heap[k]?
  old : ∀ k, k < w.heap.size → R' k = R k
/-- All that is owned is there. -/
def InW (R : Nat → Nat) (w : World) : Prop := ∀ k, R k ≠ 0 → k < w.heap.size
/-- A block gets a role. -/
def giv (R : Nat → Nat) (g r : Nat) : Nat → Nat := fun k => if k = g then r else R k

section
variable {R R' R'' : Nat → Nat} {w w' w'' : World}
theorem Own.refl (R : Nat → Nat) (w : World) : Own R R w w := ⟨rfl, rfl, rfl, Nat.le_refl _, fun _ _ _ => rfl, fun _ _ => rfl⟩
theorem Own.trans (h : Own R R' w w') (k : Own R' R'' w' w'') : Own R R'' w w'' :=
  ⟨k.os.trans h.os, k.tape.trans h.tape, k.output.trans h.output, Nat.le_trans h.size k.size,
   fun i hi hr => (k.block i (Nat.lt_of_lt_of_le hi h.size) ((h.old i hi).trans hr)).trans (h.block i hi hr),
   fun i hi => (k.old i (Nat.lt_of_lt_of_le hi h.size)).trans (h.old i hi)⟩
theorem Own.of_below (h : Below w.heap.size w w') : Own R R w w' := ⟨h.os, h.tape, h.output, h.size, fun k hk _ => h.block k hk, fun _ _ => rfl⟩
theorem Own.of_grown {g : Nat} (h : w.grownBy w' (some g)) (hg : R g ≠ 0) : Own R R w w' :=
  ⟨h.os, h.tape, h.output, h.size, fun k hk hr => h.block k hk (fun e => by injection e with e; exact hg (e ▸ hr)), fun _ _ => rfl⟩
theorem Own.of_set {g i : Nat} (u : Value) (hg : R g ≠ 0) : Own R R w (w.setCell ⟨g, i, none⟩ u) :=
  ⟨rfl, rfl, rfl, by simp [World.setCell], fun k _ hr => Below.heap_setCell _ _ _ _ (by rintro rfl; exact hg hr), fun _ _ => rfl⟩
theorem Own.of_alloc (o : Obj) : Own R R w (w.alloc o) := .of_below ((Below.refl _ _).alloc (Nat.le_refl _) _)
theorem Own.give {g r : Nat} (h : Own R R w w') (hg : w.heap.size ≤ g) : Own R (giv R g r) w w' :=
  ⟨h.os, h.tape, h.output, h.size, h.block, fun k hk => by unfold giv; rw [if_neg (by omega)]⟩
theorem Own.below {B : Nat} (h : Own R R' w w') (hB : B ≤ w.heap.size) (hR : ∀ k, k < B → R k = 0) : Below B w w' :=
  ⟨h.os, h.tape, h.output, h.size, fun k hk => h.block k (by omega) (hR k hk)⟩
theorem giv_self (R : Nat → Nat) (g r : Nat) : giv R g r g = r := by simp [giv]
theorem giv_ne {g r k : Nat} (h : k ≠ g) : giv R g r k = R k := by simp [giv, h]
theorem InW.new (h : InW R w) {g : Nat} (hg : w.heap.size ≤ g) : R g = 0 := by
  apply Classical.byContradiction
  intro h0
  have := h g h0
  omega
theorem InW.mono (h : InW R w) (hs : w.heap.size ≤ w'.heap.size) : InW R w' := fun k hk => Nat.lt_of_lt_of_le (h k hk) hs
theorem InW.give (h : InW R w) (hs : w.heap.size ≤ w'.heap.size) {g r : Nat} (hg : g < w'.heap.size) : InW (giv R g r) w' := by
  intro k hk
  by_cases e : k = g
  · subst e; exact hg
  · rw [giv_ne e] at hk
    exact Nat.lt_of_lt_of_le (h k hk) hs
end

/-- A slice that has its row for itself, in a block of the given role. -/
def RowIs (w : World) (R : Nat → Nat) (r : Nat) (T : TypeId) (sz : Nat) (v : Value) (n : Nat) (xs : List Value) : Prop := w.ownsRow 0 T sz v n xs ∧ ∀ g, v.ownBlock = some g → R g = r
theorem ownsRow.same {w w' : World} {base : Nat} {T : TypeId} {sz n : Nat} {v : Value} {xs : List Value} (h : w.ownsRow base T sz v n xs) (hb : ∀ g, v.ownBlock = some g → w'.heap[g]? = w.heap[g]?) : w'.ownsRow base T sz v n xs := by
  refine ⟨h.1, ?_⟩
  rcases h.2 with h2 | ⟨g, cap, cur, rfl, h3, h4, h5⟩
  · exact .inl h2
  · exact .inr ⟨g, cap, cur, rfl, h3, (hb g rfl).trans h4, h5⟩
theorem RowIs.same {w w' : World} {R R' : Nat → Nat} {r : Nat} {T : TypeId} {sz n : Nat} {v : Value} {xs : List Value} (h : RowIs w R r T sz v n xs) (hb : ∀ g, v.ownBlock = some g → R g = r → w'.heap[g]? = w.heap[g]? ∧ R' g = R g) : RowIs w' R' r T sz v n xs :=
  ⟨ownsRow.same h.1 fun g hg => (hb g hg (h.2 g hg)).1, fun g hg => (hb g hg (h.2 g hg)).2.trans (h.2 g hg)⟩
theorem RowIs.nil {w : World} {R : Nat → Nat} {r : Nat} {T : TypeId} {sz : Nat} : RowIs w R r T sz (.slice none 0 0) 0 [] := ⟨World.ownsRow_nil _ _ _ _, fun g hg => by cases hg⟩

/-! ### the disk in memory -/
/-- Where a disk lies. -/
structure Adr where
  p : Nat
  md : Nat
  mf : Nat
  sd : Nat
  sf : Nat
  sv : Value
  φ : List Nat
def dirF (l : List Th) (x : Txt) : Option Value := if l.any (fun y => y.dir && y.path == x) then some (.int .i64 1) else none
def fptr (φ : List Nat) (i : Nat) : Value := .pointer (some ⟨φ[i]?.getD 0, 0, none⟩)
def filF (φ : List Nat) (l : List Th) (x : Txt) : Option Value := (l.find? fun y => !y.dir && y.path == x).map fun y => fptr φ y.at_
abbrev MapM (w : World) (R : Nat → Nat) (r : Nat) (b : Nat) (f : Txt → Option Value) : Prop := SMap Tryz.prog 9 w b f ∧ R b = r
def encC (c : Ch) : List Value := [txtV c.text, .int .i64 (if c.cut then (c.size : Int) else -1)]
def FileM (w : World) (R : Nat → Nat) (i b : Nat) (f : By) : Prop :=
  ∃ v, Blk w b 143 #[txtV f.now, txtV f.safe, v] ∧ R b = 10 + 2 * i ∧ RowIs w R (11 + 2 * i) 151 2 v f.steps.length (f.steps.flatMap encC)
def FilesM (w : World) (R : Nat → Nat) (φ : List Nat) (fs : List By) : Prop := φ.length = fs.length ∧ ∀ (i b : Nat) (f : By), φ[i]? = some b → fs[i]? = some f → FileM w R i b f
/-- A variable that a step has caught. -/
def Box (w : World) (R : Nat → Nat) (b : Nat) (T : TypeId) (v : Value) : Prop := Blk w b T #[v] ∧ R b = 5
def StepM (w : World) (R : Nat → Nat) (φ : List Nat) : St → Value → Prop
  | .mkdir a, v => ∃ b, v = .func (.func 124) #[] #[.pointer (some ⟨b, 0, none⟩)] ∧ Box w R b 9 (txtV a)
  | .create a i, v => ∃ b c, v = .func (.func 66) #[] #[.pointer (some ⟨c, 0, none⟩), .pointer (some ⟨b, 0, none⟩)] ∧ Box w R b 9 (txtV a) ∧ Box w R c 140 (fptr φ i)
  | .rename a a', v => ∃ b c, v = .func (.func 113) #[] #[.pointer (some ⟨b, 0, none⟩), .pointer (some ⟨c, 0, none⟩)] ∧ Box w R b 9 (txtV a) ∧ Box w R c 9 (txtV a')
  | .remove a, v => ∃ b, v = .func (.func 115) #[] #[.pointer (some ⟨b, 0, none⟩)] ∧ Box w R b 9 (txtV a)
def StepsM (w : World) (R : Nat → Nat) (v : Value) (φ : List Nat) (l : List St) : Prop :=
  ∃ fs : List Value, RowIs w R 7 145 1 v l.length fs ∧ fs.length = l.length ∧ ∀ (i : Nat) s f, l[i]? = some s → fs[i]? = some f → StepM w R φ s f
/-- The disk's own cells. -/
def DBlk (w : World) (A : Adr) (d : Ds) : Prop := Blk w A.p 125 #[.map (some A.md), .map (some A.mf), .map (some A.sd), .map (some A.sf), A.sv, .int .i64 (d.cap : Int), .bool d.off, .int .i64 (d.await : Int)]
structure CD (B0 : Nat) (w : World) (R : Nat → Nat) (A : Adr) (d : Ds) : Prop where
  blk : DBlk w A d
  rp : R A.p = 1
  dirs : MapM w R 2 A.md (dirF d.things)
  files : MapM w R 3 A.mf (filF A.φ d.things)
  sdirs : MapM w R 4 A.sd (dirF d.safe)
  sfiles : MapM w R 6 A.sf (filF A.φ d.safe)
  steps : StepsM w R A.sv A.φ d.steps
  bytes : FilesM w R A.φ d.files
  inw : InW R w
  low : ∀ k, k < B0 → R k = 0

section
variable {w w' : World} {R R' : Nat → Nat} {B0 : Nat} {A : Adr} {d : Ds}
/-- What is owned is as it was. -/
def Same (R R' : Nat → Nat) (w w' : World) : Prop := ∀ k, R k ≠ 0 → w'.heap[k]? = w.heap[k]? ∧ R' k = R k
theorem FileM.same {i b : Nat} {f : By} (h : FileM w R i b f) (hs : ∀ k, R k = 10 + 2 * i ∨ R k = 11 + 2 * i → w'.heap[k]? = w.heap[k]? ∧ R' k = R k) : FileM w' R' i b f := by
  obtain ⟨v, h1, h2, h3⟩ := h
  exact ⟨v, ((hs b (.inl h2)).1).trans h1, ((hs b (.inl h2)).2).trans h2, h3.same fun g _ hr => hs g (.inr hr)⟩
theorem Box.same {b : Nat} {T : TypeId} {v : Value} (h : Box w R b T v) (hs : ∀ k, R k = 5 → w'.heap[k]? = w.heap[k]? ∧ R' k = R k) : Box w' R' b T v := ⟨((hs b h.2).1).trans h.1, ((hs b h.2).2).trans h.2⟩
theorem StepM.same {φ : List Nat} {s : St} {v : Value} (h : StepM w R φ s v) (hs : ∀ k, R k = 5 → w'.heap[k]? = w.heap[k]? ∧ R' k = R k) : StepM w' R' φ s v := by
  cases s with
  | mkdir a => obtain ⟨b, h1, h2⟩ := h; exact ⟨b, h1, h2.same hs⟩
  | create a i => obtain ⟨b, c, h1, h2, h3⟩ := h; exact ⟨b, c, h1, h2.same hs, h3.same hs⟩
  | rename a a' => obtain ⟨b, c, h1, h2, h3⟩ := h; exact ⟨b, c, h1, h2.same hs, h3.same hs⟩
  | remove a => obtain ⟨b, h1, h2⟩ := h; exact ⟨b, h1, h2.same hs⟩
theorem StepsM.same {v : Value} {φ : List Nat} {l : List St} (h : StepsM w R v φ l) (hs : ∀ k, R k = 5 ∨ R k = 7 → w'.heap[k]? = w.heap[k]? ∧ R' k = R k) : StepsM w' R' v φ l := by
  obtain ⟨fs, h1, h2, h3⟩ := h
  exact ⟨fs, h1.same fun g _ hr => hs g (.inr hr), h2, fun i s f hs' hf => (h3 i s f hs' hf).same fun k hk => hs k (.inl hk)⟩
theorem MapM.same {r b : Nat} {f : Txt → Option Value} (h : MapM w R r b f) (hs : ∀ k, R k = r → w'.heap[k]? = w.heap[k]? ∧ R' k = R k) : MapM w' R' r b f := ⟨h.1.same (hs b h.2).1, ((hs b h.2).2).trans h.2⟩
theorem FilesM.same {φ : List Nat} {fs : List By} (h : FilesM w R φ fs) (hs : ∀ k, 10 ≤ R k → w'.heap[k]? = w.heap[k]? ∧ R' k = R k) : FilesM w' R' φ fs :=
  ⟨h.1, fun i b f hb hf => (h.2 i b f hb hf).same fun k hk => hs k (by omega)⟩
theorem CD.same (h : CD B0 w R A d) (hs : Same R R' w w') (hw : InW R' w') (hl : ∀ k, k < B0 → R' k = 0) : CD B0 w' R' A d where
  blk := ((hs A.p (by rw [h.rp]; omega)).1).trans h.blk
  rp := ((hs A.p (by rw [h.rp]; omega)).2).trans h.rp
  dirs := h.dirs.same fun k hk => hs k (by omega)
  files := h.files.same fun k hk => hs k (by omega)
  sdirs := h.sdirs.same fun k hk => hs k (by omega)
  sfiles := h.sfiles.same fun k hk => hs k (by omega)
  steps := h.steps.same fun k hk => hs k (by omega)
  bytes := h.bytes.same fun k hk => hs k (by omega)
  inw := hw
  low := hl
theorem CD.below (h : CD B0 w R A d) (hb : Below w.heap.size w w') : CD B0 w' R A d :=
  h.same (fun k hk => ⟨hb.block k (h.inw k hk), rfl⟩) (h.inw.mono hb.size) h.low
/-- Another owner's work. -/
theorem CD.apart {S S' : Nat → Nat} (h : CD B0 w R A d) (ho : Own S S' w w') (hd : ∀ k, R k ≠ 0 → S k = 0) : CD B0 w' R A d :=
  h.same (fun k hk => ⟨ho.block k (h.inw k hk) (hd k hk), rfl⟩) (h.inw.mono ho.size) h.low
end

/-! ### failures -/
def failG : Nat → Nat
  | 1 => 5 | 2 => 6 | 3 => 3 | 4 => 0 | 5 => 1 | 6 => 4 | _ => 2
def failV (a : Nat → Addr) (k : Nat) : Value := .iface 306 (.pointer (some (a k)))
/-- What the failures' variables hold. -/
def Fails (B0 : Nat) (a : Nat → Addr) (w : World) : Prop := ∀ k, k ≠ 6 → failG k < B0 ∧ w.cell? ⟨failG k, 0, none⟩ = some (failV a k)
theorem Fails.below {B0 : Nat} {a : Nat → Addr} {w w' : World} (h : Fails B0 a w) (hb : Below B0 w w') : Fails B0 a w' := fun k hk => ⟨(h k hk).1, (hb.cell (p := ⟨failG k, 0, none⟩) (h k hk).1).trans (h k hk).2⟩
/-- The variable of the failure 6 (DiskSafe does not name it). -/
def Fail6 (B0 : Nat) (a : Nat → Addr) (w : World) : Prop := failG 6 < B0 ∧ w.cell? ⟨failG 6, 0, none⟩ = some (failV a 6)
theorem Fail6.below {B0 : Nat} {a : Nat → Addr} {w w' : World} (h : Fail6 B0 a w) (hb : Below B0 w w') : Fail6 B0 a w' := ⟨h.1, (hb.cell (p := ⟨failG 6, 0, none⟩) h.1).trans h.2⟩
/-- The error value of a call: nil, or a failure with its call and its path. -/
def ErrV (a : Nat → Addr) (w : World) (op path : ByteArray) : Nat → Value → Prop
  | 0, v => v = .nilIface
  | k + 1, v => ∃ q, v = .iface 68 (.pointer (some ⟨q, 0, none⟩)) ∧ Blk w q 71 #[.string op, .string path, failV a (k + 1)]
theorem ErrV.below {a : Nat → Addr} {w w' : World} {op path : ByteArray} {k : Nat} {v : Value} (h : ErrV a w op path k v) (hb : Below w.heap.size w w') : ErrV a w' op path k v := by
  cases k with
  | zero => exact h
  | succ k => obtain ⟨q, h1, h2⟩ := h; exact ⟨q, h1, h2.below hb h2.lt⟩

/-! ### parts of a disk turned -/
section
variable {w w' : World} {R R' : Nat → Nat} {B0 : Nat} {A : Adr} {d d' : Ds}
/-- The disk's own block alone has turned. -/
theorem CD.blk_only (h : CD B0 w R A d) (hw : ∀ k, k < w.heap.size → k ≠ A.p → w'.heap[k]? = w.heap[k]?) (hs : w.heap.size ≤ w'.heap.size) (hb : DBlk w' A d') (h1 : d'.things = d.things) (h2 : d'.safe = d.safe) (h3 : d'.steps = d.steps) (h4 : d'.files = d.files) : CD B0 w' R A d' := by
  have key : ∀ k, R k ≠ 0 → R k ≠ 1 → w'.heap[k]? = w.heap[k]? ∧ R k = R k := fun k hk h1 => ⟨hw k (h.inw k hk) (fun e => h1 (by rw [e]; exact h.rp)), rfl⟩
  exact {
    blk := hb
    rp := h.rp
    dirs := by rw [h1]; exact h.dirs.same fun k hk => key k (by omega) (by omega)
    files := by rw [h1]; exact h.files.same fun k hk => key k (by omega) (by omega)
    sdirs := by rw [h2]; exact h.sdirs.same fun k hk => key k (by omega) (by omega)
    sfiles := by rw [h2]; exact h.sfiles.same fun k hk => key k (by omega) (by omega)
    steps := by rw [h3]; exact h.steps.same fun k hk => key k (by omega) (by omega)
    bytes := by rw [h4]; exact h.bytes.same fun k hk => key k (by omega) (by omega)
    inw := h.inw.mono hs
    low := h.low }
/-- A file's block, or its row, has turned. -/
theorem CD.file_only (h : CD B0 w R A d) {i : Nat} {f : By} (hi : i < d.files.length) (hs : ∀ k, R k ≠ 0 → R k ≠ 10 + 2 * i → R k ≠ 11 + 2 * i → w'.heap[k]? = w.heap[k]? ∧ R' k = R k) (hw : InW R' w') (hl : ∀ k, k < B0 → R' k = 0) (hf : FileM w' R' i (A.φ[i]?.getD 0) f) : CD B0 w' R' A (setF d i f) where
  blk := ((hs A.p (by rw [h.rp]; omega) (by rw [h.rp]; omega) (by rw [h.rp]; omega)).1).trans h.blk
  rp := ((hs A.p (by rw [h.rp]; omega) (by rw [h.rp]; omega) (by rw [h.rp]; omega)).2).trans h.rp
  dirs := h.dirs.same fun k hk => hs k (by omega) (by omega) (by omega)
  files := h.files.same fun k hk => hs k (by omega) (by omega) (by omega)
  sdirs := h.sdirs.same fun k hk => hs k (by omega) (by omega) (by omega)
  sfiles := h.sfiles.same fun k hk => hs k (by omega) (by omega) (by omega)
  steps := h.steps.same fun k hk => hs k (by omega) (by omega) (by omega)
  bytes := by
    refine ⟨by simp [setF, h.bytes.1], fun j b g hb hg => ?_⟩
    simp only [setF] at hg
    by_cases e : j = i
    · subst e
      have hg' : f = g := by
        rw [List.getElem?_set_self (by simpa using hi)] at hg
        injection hg
      rw [← hg']
      rw [hb] at hf
      exact hf
    · rw [List.getElem?_set_ne (Ne.symm e)] at hg
      exact (h.bytes.2 j b g hb hg).same fun k hk => hs k (by omega) (by omega) (by omega)
  inw := hw
  low := hl
end
end Go.Proofs.YtfpgbhimgfdddaaGreatDoor
