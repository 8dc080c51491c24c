/- Merged (what the claim wants of): KeyIter, SortRow, BlkListsA, BlkListsB, ChkRdB, RegFault, ChkRdC. -/
import Derived.Test.YtdoiekknhnbepaaGreatDoorBon07
import Derived.Maps.RangeWalk
import Derived.Test.YtdoiekknhnbepaaGreatDoorBon01
import Derived.Shelf.SlSortCmp.NoneTotal
import Derived.Test.YtdoiekknhnbepaaGreatDoorBon03
import Derived.Test.YtdoiekknhnbepaaGreatDoorBon04
import Derived.Test.YtdoiekknhnbepaaGreatDoorBon06
import Derived.Test.YtdoiekknhnbepaaGreatDoorBon05
set_option linter.unusedVariables false
set_option linter.unusedSimpArgs false
set_option maxRecDepth 100000
set_option maxHeartbeats 8000000
namespace Go.Proofs.YtdoiekknhnbepaaGreatDoor
section
open Go.RowKit
open Go.ChangeMaps (setBlock)
open Go.MapKept
structure RIt (w : World) (b r : Nat) (es : Array MapEntry) (clock : Nat) (out : List MapEntry) (cnt : Nat) : Prop where
 ex : ∃ since seen c0, w.heap[b]? = some (.map es clock) ∧ w.heap[r]? = some (.mapIter (some b) since seen c0) ∧ (∀ x ∈ es.toList, x.born < since) ∧ (leftOf es seen).size = cnt ∧
  (∀ x ∈ es.toList, seen.contains x.born = true ↔ x ∈ out) ∧ since ≤ c0 ∧ since ≤ clock
 sub : ∀ x ∈ out, x ∈ es.toList
 nd : out.Nodup
section
variable {w w' : World} {b r : Nat} {es : Array MapEntry} {clock : Nat} {out : List MapEntry} {cnt : Nat}
theorem RIt.map (h : RIt w b r es clock out cnt) : w.heap[b]? = some (.map es clock) := by obtain ⟨_, _, _, hb, _⟩ := h.ex; exact hb
theorem RIt.blt (h : RIt w b r es clock out cnt) : b < w.heap.size := (Array.getElem?_eq_some_iff.1 h.map).1
theorem RIt.rlt (h : RIt w b r es clock out cnt) : r < w.heap.size := by obtain ⟨_, _, _, _, hr, _⟩ := h.ex; exact (Array.getElem?_eq_some_iff.1 hr).1
theorem RIt.ne (h : RIt w b r es clock out cnt) : r ≠ b := by
 obtain ⟨_, _, _, hb, hr, _⟩ := h.ex; intro e; rw [e, hb] at hr; cases hr
theorem RIt.kept {row : Option Nat} (h : RIt w b r es clock out cnt) (hg : w.grownBy w' row) (hb' : some b ≠ row) (hr' : some r ≠ row) : RIt w' b r es clock out cnt := by
 have h1 := h.blt; have h2 := h.rlt; obtain ⟨since, seen, c0, hb, hr, rest⟩ := h.ex; exact ⟨⟨since, seen, c0, (hg.block b h1 hb').trans hb, (hg.block r h2 hr').trans hr, rest⟩, h.sub, h.nd⟩
theorem RIt.below (h : RIt w b r es clock out cnt) (hb : Below w.heap.size w w') : RIt w' b r es clock out cnt := h.kept (row := none) ⟨hb.os, hb.tape, hb.output, hb.size, fun k hk _ => hb.block k hk⟩ (by simp) (by simp)
variable {P : Program} {ops : Array Oper} {rest : List Oper} {o : Oper} {a : Act} {Q : Exit → Act → World → Prop}
theorem Knb (hg : o.guard = none) (m : Operand) (t : TypeId) (hop : o.op = Op.range t m) (k e : TypeId) (ht : P.underlying t = some (.map k e)) (hm : a.eval m = .map (some b)) (hb : w.heap[b]? = some (.map es clock)) (hst : Stamped es clock)
  (hK : ∀ w', RIt w' b w.heap.size es clock [] es.size → w.grownBy w' none → w'.heap.size = w.heap.size + 1 → wpList P ops Q rest (a.put o.dst (.pointer (some ⟨w.heap.size, 0, none⟩))) w') :
  wpList P ops Q (o :: rest) a w := by
 refine wpList_plain hg fun K' hK' => ?_
 have hlt := (Array.getElem?_eq_some_iff.1 hb).1; have hrun := run_range_map (P := P) w t k e b es clock ht hb; unfold Oper.wp; simp [execOp, hop, hm, hrun, Result.andThen]; refine hK' _ _ (hK _ ⟨⟨clock, #[], clock, ((MapKept.heap_alloc w _).2 b hlt).trans hb, (MapKept.heap_alloc w _).1, hst.1, by simp [leftOf], fun x _ => by simp, Nat.le_refl _, Nat.le_refl _⟩, by simp, by simp⟩ (World.grownBy_alloc w _ none) (by simp))
theorem RIt.next (h : RIt w b r es clock out cnt) (hst : Stamped es clock) (ty : TypeId) :
  (cnt = 0 ∧ (∀ x ∈ es.toList, x ∈ out) ∧ (Instr.next (.pointer (some ⟨r, 0, none⟩)) false ty).run P w = .ok (.tuple #[.bool false]) w) ∨
  ∃ e w' cnt', e ∈ es.toList ∧ e ∉ out ∧ (Instr.next (.pointer (some ⟨r, 0, none⟩)) false ty).run P w = .ok (.tuple #[.bool true, e.key, e.val]) w' ∧ RIt w' b r es clock (out ++ [e]) cnt' ∧ cnt' < cnt ∧ w.grownBy w' (some r) ∧ w'.heap.size = w.heap.size ∧
   (Instr.entry (.pointer (some ⟨r, 0, none⟩))).run P w' = .ok (.tuple #[e.key, e.val]) w' := by
 have hne := h.ne; have hsub := h.sub; have hnd := h.nd; obtain ⟨since, seen, c0, hb, hr, hold, rfl, hl1, hsc, hsk⟩ := h.ex; rcases run_next_at (P := P) w ty r b since c0 seen es clock hr hb hold hsc with ⟨h0, hrun⟩ | ⟨e, he, w1, hal, hrun⟩
 ·exact Or.inl ⟨h0, fun x hx => (hl1 x hx).1 (all_seen es seen h0 x hx), hrun⟩
 ·obtain ⟨hem, hes⟩ := mem_left he; have hr1 : w1.heap[r]? = some (.mapIter (some b) since seen c0) := by rcases hal with rfl | rfl <;> exact hr
  have hb1 : w1.heap[b]? = some (.map es clock) := by rcases hal with rfl | rfl <;> exact hb
  have hset := heap_set (o' := .mapIter (some b) since (seen.push e.born) clock) hr1; have hb' : (setBlock w1 r (.mapIter (some b) since (seen.push e.born) clock)).heap[b]? = some (.map es clock) := (hset.2 b (fun e1 => hne e1.symm)).trans hb1
  have heo : e ∉ out := fun hm => by
   have := (hl1 e hem).2 hm; rw [hes] at this; cases this
  refine Or.inr ⟨e, _, _, hem, heo, hrun, ⟨⟨since, seen.push e.born, clock, hb', hset.1, hold, rfl, fun x hx => ?_, hsk, hsk⟩, fun x hx => ?_, ?_⟩, left_shrinks es seen e he, ?_, ?_, run_entry_at _ r b since seen es clock e hset.1 hb' hem hst.2.1⟩
  ·rw [contains_push, List.mem_append, List.mem_singleton, ← hl1 x hx, Bool.or_eq_true, beq_iff_eq]; constructor
   ·rintro (h | h)
    ·exact .inl h
    ·exact .inr (born_inj hst.2.1 hx hem h)
   ·rintro (h | h)
    ·exact .inl h
    ·exact .inr (by rw [h])
  ·rcases List.mem_append.1 hx with h | h
   ·exact hsub x h
   ·rw [List.mem_singleton.1 h]; exact hem
  ·exact List.nodup_append.2 ⟨hnd, by simp, fun x hx y hy => by rw [List.mem_singleton.1 hy]; rintro rfl; exact heo hx⟩
  ·rcases hal with rfl | rfl <;> exact ⟨rfl, rfl, rfl, by simp [setBlock], fun i _ hi => hset.2 i (fun e1 => hi (by rw [e1]))⟩
  ·rcases hal with rfl | rfl <;> simp [setBlock]
structure Qia (es : Array MapEntry) (out : List MapEntry) (cnt : Nat) : Prop where
 z : cnt = 0
 all : ∀ x ∈ es.toList, x ∈ out
structure Qhr {α : Type} (P : Program) (mkK : α → Value) (w : World) (b r : Nat) (es : Array MapEntry) (clock : Nat) (out : List MapEntry) (cnt : Nat) (x : α) (v : Value) (w' : World) : Prop where
 ex : ∃ e cnt', e ∈ es.toList ∧ e ∉ out ∧ e.key = mkK x ∧ e.val = v ∧ RIt w' b r es clock (out ++ [e]) cnt' ∧ cnt' < cnt
 g : w.grownBy w' (some r)
 s : w'.heap.size = w.heap.size
 run : (Instr.entry (.pointer (some ⟨r, 0, none⟩))).run P w' = .ok (.tuple #[mkK x, v]) w'
theorem Kof {α : Type} (hg : o.guard = none) (it : Operand) (hop : o.op = Op.next it false) (mkK : α → Value) (b r : Nat) (es : Array MapEntry) (clock : Nat) (out : List MapEntry) (cnt : Nat) (hst : Stamped es clock) (hk : ∀ e ∈ es.toList, ∃ x, e.key = mkK x)
  (hit : a.eval it = .pointer (some ⟨r, 0, none⟩)) (h : RIt w b r es clock out cnt)
  (hDone : Qia es out cnt → wpList P ops Q rest (a.put o.dst (.tuple #[.bool false])) w)
  (hMore : ∀ (x : α) (v : Value) (w' : World), Qhr P mkK w b r es clock out cnt x v w' → wpList P ops Q rest (a.put o.dst (.tuple #[.bool true, mkK x, v])) w') :
  wpList P ops Q (o :: rest) a w := by
 refine wpList_plain hg fun K' hK' => ?_
 unfold Oper.wp; rcases h.next (P := P) hst o.type with ⟨h0, hl, hrun⟩ | ⟨e, w', cnt', he, hno, hrun, hrg, hlt, hgr, hsz, hen⟩
 ·simp [execOp, hop, hit, hrun, Result.andThen]; exact hK' _ _ (hDone ⟨h0, hl⟩)
 ·obtain ⟨x, hx⟩ := hk e he; rw [hx] at hrun hen; simp [execOp, hop, hit, hrun, Result.andThen]; exact hK' _ _ (hMore x _ w' ⟨⟨e, cnt', he, hno, hx, rfl, hrg, hlt⟩, hgr, hsz, hen⟩)
end
end
section
open Go.RowKit Go.Shelf Go.Sort
theorem Krl {α : Type} {enc : α → List Value} {k : Nat} (hk : ∀ x, (enc x).length = k) (l : List α) : (l.flatMap enc).length = l.length * k := by
 induction l with
 | nil => simp
 | cons x l ih => rw [List.flatMap_cons, List.length_append, ih, hk, List.length_cons, Nat.succ_mul]; omega
theorem Kuf {α : Type} {enc : α → List Value} {k : Nat} (hk : ∀ x, (enc x).length = k) : ∀ (l : List α) (i j : Nat) (x : α), l[i]? = some x → j < k → (l.flatMap enc)[i * k + j]? = (enc x)[j]?
 | [], _, _, _, h, _ => by simp at h
 | y :: l, 0, j, x, h, hj => by
  simp only [List.getElem?_cons_zero, Option.some.injEq] at h; subst h; rw [List.flatMap_cons, List.getElem?_append_left (by rw [hk]; omega), Nat.zero_mul, Nat.zero_add]
 | y :: l, i + 1, j, x, h, hj => by
  rw [List.flatMap_cons, List.getElem?_append_right (by rw [hk, Nat.succ_mul]; omega), hk, show (i + 1) * k + j - k = i * k + j by rw [Nat.succ_mul]; omega]; exact Kuf hk l i j x (by simpa using h) hj
theorem Kqg {α : Type} [Inhabited α] {enc : α → List Value} {k : Nat} (hk : ∀ x, (enc x).length = k) (h0 : 0 < k) {l : List α} {t : Nat} (h : t < l.length * k) : (l.flatMap enc)[t]? = some ((enc l[t / k]!)[t % k]!) := by
 have hl : t / k < l.length := Nat.div_lt_of_lt_mul (by rw [Nat.mul_comm]; exact h); have h1 : l[t / k]? = some l[t / k]! := by rw [getElem!_pos l _ hl, List.getElem?_eq_getElem hl]
 have h2 := Kuf hk l (t / k) (t % k) _ h1 (Nat.mod_lt _ h0); rw [show t / k * k + t % k = t by rw [Nat.mul_comm]; exact Nat.div_add_mod t k] at h2; have h3 : t % k < (enc l[t / k]!).length := by rw [hk]; exact Nat.mod_lt _ h0
 rw [h2, List.getElem?_eq_getElem h3, getElem!_pos (enc l[t / k]!) _ h3]
section
variable {α : Type} [Inhabited α] {enc : α → List Value} {k : Nat} {w : World} {B g n cap : Nat} {T : TypeId} {l : List α}
theorem Qaj (hk : ∀ x, (enc x).length = k) (h0 : 0 < k) (hown : w.ownsRow B T k (.slice (some ⟨g, 0, none⟩) n cap) n (l.flatMap enc)) (hl : l.length = n) : HoldsK enc k w g 0 l.toArray := by
 rcases hown.2 with ⟨he, _⟩ | ⟨g', cap', cur, he, h1, h2, h3, h4, h5, h6⟩
 ·cases he
 ·injection he with he _ hcc; injection he with he; injection he with he _ _; subst he hcc; intro t ht; rw [size_flatK] at ht; have ht' : t < l.length * k := by simpa using ht
  refine ⟨?_, by simp [World.frozen?, h2]⟩; rw [get_flatK _ _ _ _ ht, Nat.zero_add, cell_of_row w g t cur _ (0, 0) h2]
  have e1 : cur[t]? = (l.flatMap enc)[t]? := by
   rw [← h6, List.getElem?_take_of_lt (by rw [hl] at ht'; exact ht')]; simp
  rw [e1, Kqg hk h0 ht']; simp only [List.getElem!_toArray, id]
theorem Kxb (enc : α → List Value) (k : Nat) (w : World) (blk off n : Nat) (d : Array α) (os : Array Obj) : w.grownBy (sortWorldK enc k w blk off n d os) (some blk) := by
 refine ⟨rfl, rfl, rfl, ?_, ?_⟩
 ·simp [sortWorldK, grow, putRowK, putRow, mapBlock, Sort.ahead]
 ·intro j hj hne; have hb : ¬ blk = j := fun e => hne (by rw [e])
  simp only [sortWorldK, grow, putRowK, putRow, mapBlock, Sort.ahead]; rw [Array.getElem?_append_left (by simpa using hj), Array.getElem?_modify, if_neg hb]
theorem Kzi (hk : ∀ x, (enc x).length = k) (h0 : 0 < k) (hown : w.ownsRow B T k (.slice (some ⟨g, 0, none⟩) n cap) n (l.flatMap enc)) (hl : l.length = n) (d : Array α) (hd : d.size = n) (m : Nat) (os : Array Obj) :
  (sortWorldK enc k w g 0 m d os).ownsRow B T k (.slice (some ⟨g, 0, none⟩) n cap) n (d.toList.flatMap enc) := by
 have hlt := World.ownsRow.lt hown g rfl; rcases hown.2 with ⟨he, _⟩ | ⟨g', cap', cur, he, h1, h2, h3, h4, h5, h6⟩
 ·cases he
 ·injection he with he _ hcc; injection he with he; injection he with he _ _; subst he hcc; refine ⟨by rw [Krl hk]; simp [hd], .inr ⟨g, cap, putCells id 0 (flatK enc k d) cur, rfl, h1, ?_, h3, h4, by simp [putCells, h5], ?_⟩⟩
  ·simp only [sortWorldK, grow, putRowK, putRow, mapBlock, Sort.ahead]; rw [Array.getElem?_append_left (by simpa using hlt.2), Array.getElem?_modify, if_pos rfl, h2]; rfl
  ·apply List.ext_getElem?; intro t
   by_cases ht : t < n * k
   ·rw [List.getElem?_take_of_lt ht, Kqg hk h0 (by simpa [hd] using ht)]; have htc : t < cur.size := by rw [h5]; exact Nat.lt_of_lt_of_le ht (Nat.mul_le_mul_right k h3)
    have hts : t < (flatK enc k d).size := by rw [size_flatK, hd]; exact ht
    simp only [putCells, Array.getElem?_toList, Array.getElem?_mapIdx, Array.getElem?_eq_getElem htc, Option.map_some]; rw [if_pos ⟨Nat.zero_le _, by simpa using hts⟩, Nat.sub_zero, get_flatK _ _ _ _ (by rw [hd]; exact ht)]; congr 2; have hq : t / k < d.size := Nat.div_lt_of_lt_mul (by rw [Nat.mul_comm, hd]; exact ht); rw [getElem!_pos d _ hq, getElem!_pos d.toList _ (by simpa using hq)]; simp
   ·rw [List.getElem?_eq_none (by rw [List.length_take]; omega), List.getElem?_eq_none (by rw [Krl hk]; simp [hd]; omega)]
theorem Kzt {d : Array α} (hl : l.length = n) (h : PermIn 0 n l.toArray d) : d.size = n ∧ d.toList.Perm l := by
 obtain ⟨hsz, _, hpm⟩ := h; have hsz' : d.size = n := by rw [hsz]; simpa using hl
 refine ⟨hsz', ?_⟩; have e1 : (d.extract 0 n) = d := by rw [← hsz']; simp
 have e2 : (l.toArray.extract 0 n) = l.toArray := by rw [← hl]; simp
 rw [e1, e2] at hpm; simpa using hpm
theorem Qap {d : Array α} {lt : α → α → Bool} (hd : d.size = n) (h : SortedIn lt 0 n d) : d.toList.Pairwise fun a b => lt b a = false := by
 rw [List.pairwise_iff_getElem]; intro i j hi hj hij; have hi' : i < d.size := by simpa using hi
 have hj' : j < d.size := by simpa using hj
 have := h i j (Nat.zero_le _) hij (by omega); rw [getElem!_pos d j hj', getElem!_pos d i hi'] at this; exact this
end
end
section
open Go.RowKit Go.Shelf Go.Sort
attribute [local go_sem ↓] Go.wp_at_zero Go.wp_at_succ
attribute [local go_sem] Later.cell
def cfK (x y : Lb) : Int := cmpL [x] [y]
theorem Qfq (x y : Lb) : cmpL [x] [y] < 0 ↔ ltB x y := by
 rw [Qev]; constructor
 ·rintro (h | ⟨_, h⟩)
  ·exact h
  ·simp [cmpL] at h
 ·exact .inl
theorem ltK (x y : Lb) : ltOf cfK x y = decide (ltB x y) := by
 unfold ltOf cfK; rw [decide_eq_decide]; exact Qfq x y
theorem Krd (x y : Lb) : ltB x y ∨ x = y ∨ ltB y x := by
 by_cases h1 : ltB x y
 ·exact .inl h1
 ·by_cases h2 : ltB y x
  ·exact .inr (.inr h2)
  ·exact .inr (.inl (Kpk h1 h2))
theorem swoK : SWO (ltOf cfK) where
 irrefl x := by rw [ltK]; simpa using Kec x
 trans x y z h1 h2 := by
  rw [ltK, decide_eq_true_eq] at h1 h2 ⊢; exact Kgh h1 h2
 ntrans x y z h1 h2 := by
  rw [ltK, decide_eq_false_iff_not] at h1 h2 ⊢; intro h; rcases Krd x y with k | rfl | k
  ·exact h1 k
  ·exact h2 h
  ·exact h2 (Kgh k h)
theorem Kwg (x y : Lb) (W : World) :
  Calls Tryz.prog 120 #[.agg (encLb x).toArray, .agg (encLb y).toArray] W fun e w' => e = .returned (.int .i64 (cfK x y)) ∧ ∃ q os', w' = grow (W.drewN q) os' := by
 suffices h : Calls Tryz.prog 120 #[.agg (encLb x).toArray, .agg (encLb y).toArray] W fun e w' => e = .returned (.int .i64 (cfK x y)) ∧ Grown W w' by
  refine h.mono ?_; rintro e w' ⟨he, ⟨p, hp⟩⟩; exact ⟨he, p.n, p.os, hp⟩
 have HC := Lib.hid (fun (w : World) (p q : Nat) (h1 : Blk w p 99 #[.string ⟨x.n.toArray⟩, .string ⟨x.v.toArray⟩]) (h2 : Blk w q 99 #[.string ⟨y.n.toArray⟩, .string ⟨y.v.toArray⟩]) =>
  Kni [x] [y] (some ⟨p, 0, none⟩) (some ⟨q, 0, none⟩) 1 1 1 1 w (cfK x y) rfl
   (⟨rfl, fun _ => ⟨p, 0, rfl, h1.lt, fun i z hz j v hv => by
    cases i with
    | zero => simp only [List.getElem?_cons_zero, Option.some.injEq] at hz; subst hz; rw [h1.cell]; simpa [encLb] using hv
    | succ i => simp at hz⟩⟩)
   (⟨rfl, fun _ => ⟨q, 0, rfl, h2.lt, fun i z hz j v hv => by
    cases i with
    | zero => simp only [List.getElem?_cons_zero, Option.some.injEq] at hz; subst hz; rw [h2.cell]; simpa [encLb] using hv
    | succ i => simp at hz⟩⟩) (by decide) (by decide))
 obtain ⟨r, hr⟩ : ∃ r, cfK x y = r := ⟨_, rfl⟩; unfold encLb; obtain ⟨N, hN⟩ : ∃ N : ByteArray, (⟨x.n.toArray⟩ : ByteArray) = N := ⟨_, rfl⟩; obtain ⟨V, hV⟩ : ∃ N : ByteArray, (⟨x.v.toArray⟩ : ByteArray) = N := ⟨_, rfl⟩; obtain ⟨N2, hN2⟩ : ∃ N : ByteArray, (⟨y.n.toArray⟩ : ByteArray) = N := ⟨_, rfl⟩; obtain ⟨V2, hV2⟩ : ∃ N : ByteArray, (⟨y.v.toArray⟩ : ByteArray) = N := ⟨_, rfl⟩; rw [hr] at HC ⊢; rw [hN, hV, hN2, hV2] at HC ⊢; clear hN hV hN2 hV2 hr; go_enter Tryz.func120, Tryz.ntmps120
 go_wp2_with fail
 have hg : Grown W ((((W.alloc (.cells #[.string N, .string V] 99)).alloc (.cells #[.string N2, .string V2] 99)).alloc (.cells #[.string N, .string V] 99)).alloc (.cells #[.string N2, .string V2] 99)) := ((((Grown.refl _).alloc _).alloc _).alloc _).alloc _; refine (HC.out _ (W.heap.size + 1 + 1) (W.heap.size + 1 + 1 + 1) ((Blk.newAt (by simp)).alloc _) (Blk.newAt (by simp))).mono ?_; rintro _ w' ⟨rfl, hb⟩; go_wp2_with fail
 go_ret
 exact ⟨rfl, hg.trans hb⟩
end
section
open Go.RowKit Go.Shelf Go.Sort Go.Maps
open Lib renaming hid → Jh
attribute [local go_sem ↓] Go.wp_at_zero Go.wp_at_succ
attribute [local go_sem] Later.cell
def Qel (w : World) (B : Nat) (v : Value) (l : List Lb) (e : Ending) (w' : World) : Prop :=
 e = .returned (.tuple #[]) ∧ ∃ l' : List Lb, l'.Perm l ∧ (l'.Pairwise fun a b => ¬ ltB b a) ∧ w'.ownsRow B 99 2 v l'.length (l'.flatMap encLb) ∧ w.grownBy w' v.ownBlock
theorem Kqa (l : List Lb) (B : Nat) (v : Value) (w : World) (h : w.ownsRow B 99 2 v l.length (l.flatMap encLb)) (hn : l.length ≤ 1099511627776) :
  Calls Tryz.prog 119 #[v, .func (.func 120) #[] #[]] w (Qel w B v l) := by
 have hsl : (l = [] ∧ v = .slice none 0 0) ∨ ∃ g c, v = .slice (some ⟨g, 0, none⟩) l.length c := by
  rcases h.2 with ⟨h1, h0⟩ | ⟨g, cap, cur, h1, _⟩
  ·exact .inl ⟨List.eq_nil_of_length_eq_zero h0, h1⟩
  ·exact .inr ⟨g, cap, h1⟩
 rcases hsl with ⟨rfl, rfl⟩ | ⟨g, c, rfl⟩
 ·refine (AnyF.slices_SortFunc_none Tryz.laysSFL none 0 _ w).mono ?_; rintro e w' ⟨rfl, rfl⟩; exact ⟨rfl, [], .refl _, List.Pairwise.nil, h, ⟨rfl, rfl, rfl, Nat.le_refl _, fun _ _ _ => rfl⟩⟩
 ·have hlt := World.ownsRow.lt h g rfl; have eg : ∀ args w, (callFunc 120 args).run Tryz.prog w = .ok (.enter 120 args) w := enters_of Tryz.func120 (by kernel_rfl) rfl; have hcon := AnyQ.slices_SortFunc Tryz.laysSFL 2 Tryz.isAgg99 Tryz.sizeOf99 encLb Kbv Kkw cfK swoK 120 #[] g 0 c l.toArray w eg (fun _ _ _ _ x y => Kwg x y _) (Qaj Kbv (by decide) h rfl) hlt.2 (by simp; omega); simp only [List.size_toArray] at hcon; refine hcon.mono ?_; rintro e w' ⟨rfl, d', m, os, hp, hs, rfl⟩; obtain ⟨hsz, hpm⟩ := Kzt rfl hp; refine ⟨rfl, d'.toList, hpm, ?_, ?_, Kxb _ _ _ _ _ _ _ _⟩
  ·refine (Qap hsz hs).imp ?_; intro a b hab; rw [ltK, decide_eq_false_iff_not] at hab; exact hab
  ·have := Kzi Kbv (by decide) h rfl d' hsz m os; rw [show d'.toList.length = l.length by simpa using hsz]; exact this
theorem Kja {S : List (List Lb)} {x : Lb} : Kaj S x ≠ [] ↔ x ∈ keysOf S := by
 constructor
 ·intro h; exact Classical.byContradiction fun hk => h (Kjz hk)
 ·intro h h0; obtain ⟨s, hs, hx⟩ := ((Kem S).2 x).1 h; obtain ⟨i, hi, rfl⟩ := List.getElem_of_mem hs; unfold Kaj at h0; rw [List.filter_eq_nil_iff] at h0; refine h0 i (List.mem_range.2 hi) ?_; rw [decide_eq_true_eq, List.getD_eq_getElem?_getD, List.getElem?_eq_getElem hi]; exact hx
theorem Kwb {S : List (List Lb)} {ks l' : List Lb} (hn : ks.Nodup) (hm : ∀ x, x ∈ ks ↔ x ∈ keysOf S) (hp : l'.Perm ks) (hs : l'.Pairwise fun a b => ¬ ltB b a) : l' = keysOf S := by
 refine Ktw ?_ (Kem S).1 fun x => by rw [hp.mem_iff, hm]
 refine (hs.and (hp.nodup_iff.2 hn)).imp ?_; rintro a b ⟨h1, h2⟩; rcases Krd a b with h | h | h
 ·exact h
 ·exact absurd h h2
 ·exact absurd h h1
theorem Knr {α β : Type} {f : α → β} : ∀ {l : List α}, l.Nodup → (∀ x ∈ l, ∀ y ∈ l, f x = f y → x = y) → (l.map f).Nodup
 | [], _, _ => by simp
 | a :: l, h, hi => by
  rw [List.nodup_cons] at h; rw [List.map_cons, List.nodup_cons]; refine ⟨?_, Knr h.2 fun x hx y hy => hi x (by simp [hx]) y (by simp [hy])⟩; intro hm; obtain ⟨y, hy, e⟩ := List.mem_map.1 hm; have := hi y (by simp [hy]) a (by simp) e; exact h.1 (this ▸ hy)
theorem Qct {α β : Type} {f : α → β} {l : List α} (h : (l.map f).Nodup) : l.Nodup := by
 induction l with
 | nil => simp
 | cons a l ih =>
  rw [List.map_cons, List.nodup_cons] at h; rw [List.nodup_cons]; exact ⟨fun hm => h.1 (List.mem_map_of_mem hm), ih h.2⟩
theorem Kro : ∀ (l L : List Lb), l.Nodup → (∀ x ∈ l, x ∈ L) → l.length ≤ L.length
 | [], _, _, _ => by simp
 | a :: l, L, hn, h => by
  have ha := List.nodup_cons.1 hn; have := Kro l (L.erase a) ha.2 (fun x hx => (List.mem_erase_of_ne (fun e : x = a => ha.1 (by rw [← e]; exact hx))).2 (h x (by simp [hx]))); rw [List.length_erase_of_mem (h a (by simp))] at this; have h0 : 0 < L.length := List.length_pos_of_mem (h a (by simp)); simp only [List.length_cons]; omega
theorem Kvr {w : World} {B b n : Nat} {S : List (List Lb)} {es : Array MapEntry} {clock : Nat} (h : LMap w B b (Kaj S) n es clock) {out : List MapEntry} {ks : List Lb} (hnd : out.Nodup) (hsub : ∀ x ∈ out, x ∈ es.toList) (hks : out.map (·.key) = ks.map lbV) :
  ks.Nodup ∧ (∀ x ∈ ks, x ∈ keysOf S) ∧ ((∀ e ∈ es.toList, e ∈ out) → ∀ x, x ∈ ks ↔ x ∈ keysOf S) ∧ ks.length ≤ es.size := by
 have hkn : (es.toList.map (·.key)).Nodup := h.st.2.2; have hkd : (out.map (·.key)).Nodup := Knr hnd fun x hx y hy e => entry_eq_of_key (List.pairwise_map.1 (show (es.toList.map (·.key)).Pairwise (· ≠ ·) from hkn)) (hsub x hx) (hsub y hy) e
 rw [hks] at hkd; have hksn := Qct hkd
 have hof : ∀ x ∈ ks, ∃ e ∈ out, e.key = lbV x := fun x hx => by
  have : lbV x ∈ out.map (·.key) := by rw [hks]; exact List.mem_map_of_mem hx
  obtain ⟨e, he, hk⟩ := List.mem_map.1 this; exact ⟨e, he, hk⟩
 have hke : ∀ e ∈ es.toList, ∀ x, e.key = lbV x → x ∈ keysOf S := fun e he x hk => by
  obtain ⟨y, _, hy, hf, _⟩ := h.k e he; rw [hk] at hy; rw [Kfd hy]; exact Kja.1 hf
 refine ⟨hksn, fun x hx => ?_, fun hall x => ⟨fun hx => ?_, fun hx => ?_⟩, ?_⟩
 ·obtain ⟨e, he, hk⟩ := hof x hx; exact hke e (hsub e he) x hk
 ·obtain ⟨e, he, hk⟩ := hof x hx; exact hke e (hsub e he) x hk
 ·obtain ⟨e, he, hk⟩ := h.a x (Kja.2 hx)
  have : lbV x ∈ ks.map lbV := by
   rw [← hks, ← hk]; exact List.mem_map_of_mem (hall e he)
  obtain ⟨y, hy, e1⟩ := List.mem_map.1 this; rw [← Kfd e1]; exact hy
 ·obtain ⟨L, hL⟩ : ∃ L : List Lb, es.toList.map (·.key) = L.map lbV := by
   have : ∀ l : List MapEntry, (∀ e ∈ l, ∃ x, e.key = lbV x) → ∃ L : List Lb, l.map (·.key) = L.map lbV := by
    intro l
    induction l with
    | nil => intro _; exact ⟨[], rfl⟩
    | cons e l ih =>
     intro hl; obtain ⟨x, hx⟩ := hl e (by simp); obtain ⟨L, hL⟩ := ih fun e he => hl e (by simp [he])
     exact ⟨x :: L, by simp [hx, hL]⟩
   exact this _ fun e he => by obtain ⟨x, _, hk, _⟩ := h.k e he; exact ⟨x, hk⟩
  have h1 := Kro ks L hksn fun x hx => by
   obtain ⟨e, he, hk⟩ := hof x hx; have : lbV x ∈ L.map lbV := by rw [← hL, ← hk]; exact List.mem_map_of_mem (hsub e he)
   obtain ⟨y, hy, e1⟩ := List.mem_map.1 this; rw [← Kfd e1]; exact hy
  have h2 := congrArg List.length hL; rw [List.length_map, List.length_map] at h2; have h3 : es.toList.length = es.size := by simp
  omega
structure LK where
 a : ByteArray
 b : ByteArray
def mkP (p : LK) : Value := .agg #[.string p.a, .string p.b]
theorem Qhh (x : Lb) : lbV x = mkP ⟨⟨x.n.toArray⟩, ⟨x.v.toArray⟩⟩ := rfl
theorem Qhv {p : LK} {x : Lb} (h : mkP p = lbV x) : p.a = ⟨x.n.toArray⟩ ∧ p.b = ⟨x.v.toArray⟩ := by
 obtain ⟨a, b⟩ := p; unfold mkP lbV at h; simp at h; exact ⟨h.1, h.2⟩
theorem Klt (S : List (List Lb)) (b n B : Nat) (es : Array MapEntry) (clock : Nat) (w : World) (h : LMap w B b (Kaj S) n es clock) (hn : n ≤ 1099511627776) (hS : S.length ≤ 1099511627776) (hz : (Kbl S).length ≤ 35184372088832) :
  Calls Tryz.prog 45 #[.map (some b)] w fun e w' => e = .returned (.string ⟨(Kbl S).toArray⟩) ∧ Below w.heap.size w w' := by
 obtain ⟨i0, hi0, hz0, hz1, hz2⟩ := info_parts Kmo
 have hkk : ∀ e ∈ es.toList, ∃ p, e.key = mkP p := fun e he => by
  obtain ⟨x, _, hk, _⟩ := h.k e he; exact ⟨_, hk.trans (Qhh x)⟩
 have H := Jh h; have HKK := Jh hkk; have HZ := Jh hz; have hesz : es.size ≤ 1099511627776 := Nat.le_trans h.sz hn; have hh := h.h; have hst := h.st; clear h hkk hz; go_enter Tryz.func45, Tryz.ntmps45
 go_wp2_with (at_range; refine Knb rfl _ 104 rfl 99 69 Tryz.underlying104 rfl hh hst ?_; intro w0 hrg0 hg0 hs0)
 obtain ⟨r, hr⟩ : ∃ r, w.heap.size = r := ⟨_, rfl⟩; have hB0 : Below r w w0 := ⟨hg0.os, hg0.tape, hg0.output, hg0.size, fun k hk => hg0.block k (by omega) (by simp)⟩; rw [hr] at hrg0 ⊢; have HR := Jh hr; have HST := Jh hst; clear hr hs0 hg0 hh hst; go_frame
 go_loopg [3] es.size (fun g s3 wr => ∃ (out : List MapEntry) (cnt : Nat) (ks : List Lb) (v3 : Value), v3 = s3 ∧ cnt ≤ g ∧ RIt wr b r es clock out cnt ∧ out.map (·.key) = ks.map lbV ∧ wr.ownsRow (r + 1) 99 2 v3 ks.length (ks.flatMap encLb) ∧ Below r w wr)
 case atStart => exact ⟨[], es.size, [], _, rfl, Nat.le_refl _, hrg0, rfl, World.ownsRow_nil _ _ _ _, hB0⟩
 case round =>
  obtain ⟨out, cnt, ks, v3, rfl, hcg, hrg, hks, hrow, hB⟩ := hrel; have HKS := Jh hks; clear hks; go_wp2_with (at_next; refine Kof rfl _ rfl mkP b r es clock out cnt HST.out HKK.out rfl hrg ?_ ?_)
  ·intro hao; have hall := hao.all; obtain ⟨k1, k2, k3, k4⟩ := Kvr H.out hrg.nd hrg.sub HKS.out; have hL : LMap wr B b (Kaj S) n es clock := H.out.below (HR.out.symm ▸ hB); have HSO := Jh (Kqa ks (r + 1) v3 wr hrow (by omega)); have HK1 := Jh k1; have HK3 := Jh (k3 hall); obtain ⟨A, cap, rfl⟩ := Kbq hrow; obtain ⟨m, hm⟩ : ∃ m, ks.length = m := ⟨_, rfl⟩; have HM := Jh hm; have hm30 : m ≤ 1099511627776 := by omega
   rw [hm] at HSO hrow ⊢; have HL := Jh hL; have HROW := Jh hrow; have HB := Jh hB; clear hao hall k1 k2 k3 k4 hL hm hrow hB hrg; go_wp2_with fail
   refine HSO.out.mono ?_; rintro e w3 ⟨rfl, l', hp, hs, hrow3, hg3⟩; have hK := Kwb HK1.out HK3.out hp hs; have hl'm : l'.length = m := hp.length_eq.trans HM.out; rw [hl'm] at hrow3; have hB3 : Below r w w3 := HB.out.trans ⟨hg3.os, hg3.tape, hg3.output, hg3.size, fun j hj => hg3.block j (by have := HB.out.size; rw [HR.out] at this; omega) (fun e => by have := (World.ownsRow.lt HROW.out j e.symm).1; omega)⟩; have hL3 : LMap w3 B b (Kaj S) n es clock := HL.out.kept hg3 (fun q e => by obtain ⟨cur, hc⟩ := Kcg HROW.out e; exact ⟨cur, _, hc, by decide⟩); obtain ⟨A', cap', he, hE3, _, _⟩ := Elems.of_own (fun x _ => Kbv x) rfl hrow3 hl'm; injection he with heA _ hec; subst heA hec; have hu := Kax m (by omega) w3; obtain ⟨U, hU⟩ : ∃ U : ByteArray, (⟨(uintT m).toArray⟩ : ByteArray) = U := ⟨_, rfl⟩; have hUU : U.data.toList = uintT m := by rw [← hU]
   rw [hU] at hu; have HU := Jh hu; have HUU := Jh hUU; have HK := Jh hK; have HLM := Jh hl'm; have HB3 := Jh hB3; have HE3 := Jh hE3; have HL3 := Jh hL3; clear hU hu hUU hK hl'm hB3 hE3 hL3 hrow3 hg3 hp hs; go_wp2_with fail
   refine HU.out.mono ?_; rintro e w4 ⟨rfl, hb4⟩; have HB4 := Jh (HB3.out.trans (hb4.mono (by have := HB3.out.size; rw [HR.out] at this; omega))); have HE4 := Jh ((HE3.out.below hb4).more hb4.size); have HL4 := Jh (HL3.out.below hb4); have hlz : uintT m ++ l'.flatMap (keyT S) = Kbl S := by unfold Kbl; rw [HK.out, ← HK.out, HLM.out]
   have HLZ := Jh hlz; clear hb4 hlz; go_wp2_with fail
   go_loopg [5, 28] m (fun g s5 s28 wz => ∃ (i : Nat) (Z : ByteArray), i + g = m ∧ s28 = .int .i64 (i : Int) ∧ s5 = .string Z ∧ Z.data.toList = uintT m ++ (l'.take i).flatMap (keyT S) ∧ Below w4.heap.size w4 wz)
   case atStart => exact ⟨0, U, by omega, rfl, rfl, by rw [HUU.out]; simp, Below.refl _ _⟩
   case round =>
    obtain ⟨i, Z, hig, rfl, rfl, hZ, hbz⟩ := hrel; have HIG := Jh hig; have HZL := Jh hZ; obtain ⟨wz, rfl⟩ : ∃ x, x = wr := ⟨_, rfl⟩; clear hig hZ
    by_cases hi : i < m
    ·have hil : i < l'.length := by have := HLM.out; omega
     have el : decide ((i : Int) < (m : Int)) = true := by simp; omega
     have el' : decide (i < m) = true := by simp; omega
     obtain ⟨bk, ok, rfl, _, _⟩ := HE4.out.2 (by omega); obtain ⟨hbl, c0, c1⟩ := Kbn HE4.out (by omega) hbz i hil; have hmem : l'[i]! ∈ l' := by rw [getElem!_pos l' i hil]; exact List.getElem_mem hil
     have htk : l'.take (i + 1) = l'.take i ++ [l'[i]!] := by rw [getElem!_pos l' i hil]; exact (List.take_append_getElem hil).symm
     obtain ⟨x, hx⟩ : ∃ x, l'[i]! = x := ⟨_, rfl⟩; rw [hx] at c0 c1 hmem htk
     have hlen : (uintT m ++ (l'.take (i + 1)).flatMap (keyT S)).length ≤ 35184372088832 := by
      have h1 := HZ.out; rw [← HLZ.out, List.length_append] at h1; rw [List.length_append]
      have h2 : ((l'.take (i + 1)).flatMap (keyT S)).length ≤ (l'.flatMap (keyT S)).length := by
       have : l'.flatMap (keyT S) = (l'.take (i + 1)).flatMap (keyT S) ++ (l'.drop (i + 1)).flatMap (keyT S) := by rw [← List.flatMap_append, List.take_append_drop]
       rw [this, List.length_append]; omega
      omega
     rw [htk, List.flatMap_append, List.flatMap_singleton, ← List.append_assoc, ← HZL.out] at hlen; have hkt : keyT S x = textT x.n ++ (textT x.v ++ postT (Kaj S x)) := rfl; rw [hkt] at hlen; simp only [List.length_append] at hlen; have hZs : Z.data.toList.length = Z.size := rfl; rw [hZs] at hlen; obtain ⟨N, hN⟩ : ∃ N : ByteArray, (⟨x.n.toArray⟩ : ByteArray) = N := ⟨_, rfl⟩; obtain ⟨V, hV⟩ : ∃ N : ByteArray, (⟨x.v.toArray⟩ : ByteArray) = N := ⟨_, rfl⟩; have hNn : N.data.toList = x.n := by rw [← hN]
     have hVv : V.data.toList = x.v := by rw [← hV]
     rw [hN] at c0; rw [hV] at c1; have hlb : lbV x = .agg #[.string N, .string V] := by unfold lbV; rw [hN, hV]
     have hxS : x ∈ keysOf S := by rw [← HK.out]; exact hmem
     obtain ⟨hxz, e0, he0, hek0⟩ : (x.n.length ≤ 1099511627776 ∧ x.v.length ≤ 1099511627776) ∧ ∃ e0, e0 ∈ es.toList ∧ e0.key = lbV x := by
      obtain ⟨e0, he0, hek0⟩ := HL4.out.a x (Kja.2 hxS); obtain ⟨y, hyz, hy, _⟩ := HL4.out.k e0 he0; rw [hek0] at hy; rw [Kfd hy]; exact ⟨hyz, e0, he0, by rw [hek0, Kfd hy]⟩
     have HXZ := Jh hxz; have HE0 := Jh he0; have HEK := Jh hek0; have HLB := Jh hlb; have HTK := Jh htk; have HNN := Jh hNn; have HVV := Jh hVv; clear hx hN hV hNn hVv hlb hxS hxz he0 hek0 htk hZs hkt hmem; go_upto_region 11 with fail
     have hb5 : Below wz.heap.size wz (wz.alloc (.cells #[.string N, .string V] 99)) := (Below.refl _ _).alloc (Nat.le_refl _) _; have hq : Blk (wz.alloc (.cells #[.string N, .string V] 99)) wz.heap.size 99 #[.string N, .string V] := Blk.new _ _ _; obtain ⟨w5, hw5⟩ : ∃ w5, wz.alloc (.cells #[.string N, .string V] 99) = w5 := ⟨_, rfl⟩; rw [hw5] at hb5 hq ⊢; obtain ⟨p, hp⟩ : ∃ p, wz.heap.size = p := ⟨_, rfl⟩; rw [hp] at hq ⊢; have hB5 := then_ hbz hb5; have hL5 := HL4.out.below hB5; clear hw5 hp c0 c1 hb5 hbz; have q0 : _ = some (Value.string N) := hq.cell 0; have q1 : _ = some (Value.string V) := hq.cell 1; obtain ⟨kl, hkl⟩ := Kms x (by have := HXZ.out.1; unfold maxLen; omega) (by have := HXZ.out.2; unfold maxLen; omega); have hlook := Kzl hL5.h (Kxs hL5) hkl HE0.out HEK.out hL5.st.2.2; rw [HLB.out] at hlook; obtain ⟨y, _, hy, hyf, hown⟩ := hL5.k e0 HE0.out; rw [HEK.out] at hy; obtain rfl : y = x := (Kfd hy).symm; obtain ⟨A2, c2, hv2, hE2, _, _⟩ := Elems.of_own (fun (x : Nat) _ => (rfl : (encN x).length = 1)) rfl hown rfl; rw [hv2] at hlook; have hpw : (Kaj S y).Pairwise (· < ·) := by unfold Kaj; exact List.pairwise_lt_range.filter _
     have hpv : ∀ z ∈ Kaj S y, z ≤ 1099511627776 := fun z hz => by
      unfold Kaj at hz; have := List.mem_range.1 (List.mem_filter.1 hz).1; omega
     have hplen := Kft S y; have HPE := Jh (Ksl (Kaj S y) A2 (Kaj S y).length c2 w5 hE2 (by omega) hpw hpv); obtain ⟨PT, hPT⟩ : ∃ N : ByteArray, (⟨(postT (Kaj S y)).toArray⟩ : ByteArray) = N := ⟨_, rfl⟩; obtain ⟨n2, hn2⟩ : ∃ n2, (Kaj S y).length = n2 := ⟨_, rfl⟩; have hPd : PT.data.toList = postT (Kaj S y) := by rw [← hPT]
     have hPs : PT.size = (postT (Kaj S y)).length := by rw [← Kaf, hPd]
     rw [hPT, hn2] at HPE; rw [hn2] at hlook; have HPD := Jh hPd; have HQ := Jh hq; rw [← hPs] at hlen; clear hy hyf hown hv2 hE2 hpw hpv hplen hPT hn2 hPs hPd hL5 hkl; go_wp2_with fail
     refine HPE.out.mono ?_; rintro _ w6 ⟨rfl, hb6⟩; have hq6 := HQ.out.below hb6 HQ.out.lt; have hB6 := then_ hB5 hb6; have q0 : w6.cell? ⟨p, 0, none⟩ = some (Value.string N) := hq6.cell 0; have q1 : w6.cell? ⟨p, 1, none⟩ = some (Value.string V) := hq6.cell 1; have hp6 := hq6.lt; have hNs : N.size ≤ 140737488351232 := by rw [← Kaf, HNN.out]; have := HXZ.out.1; omega
     have hVs : V.size ≤ 140737488351232 := by rw [← Kaf, HVV.out]; have := HXZ.out.2; omega
     have HT1 := Jh (fun u : Later w6 => Kfm N hNs u.w); have HT2 := Jh (fun u : Later w6 => Kfm V hVs u.w); rw [HNN.out] at HT1; rw [HVV.out] at HT2; obtain ⟨T1, hT1⟩ : ∃ N : ByteArray, (⟨(textT y.n).toArray⟩ : ByteArray) = N := ⟨_, rfl⟩; obtain ⟨T2, hT2⟩ : ∃ N : ByteArray, (⟨(textT y.v).toArray⟩ : ByteArray) = N := ⟨_, rfl⟩; have hTd1 : T1.data.toList = textT y.n := by rw [← hT1]
     have hTd2 : T2.data.toList = textT y.v := by rw [← hT2]
     have hTs1 : T1.size = (textT y.n).length := by rw [← Kaf, hTd1]
     have hTs2 : T2.size = (textT y.v).length := by rw [← Kaf, hTd2]
     rw [hT1] at HT1; rw [hT2] at HT2; rw [← hTs1, ← hTs2] at hlen; have HTD1 := Jh hTd1; have HTD2 := Jh hTd2; clear hT1 hT2 hTs1 hTs2 hTd1 hTd2 hNs hVs hq6 hq hb6 hlook hB5; go_upto_region 12 with fail
     refine Kad (by kernel_rfl) (by kernel_rfl) ?_
     repeat (go_big_quiet_step ((first | (go_at_call 112; first | with_reducible exact Kal _ (HT1.out _) | with_reducible exact Kal _ (HT2.out _)))))
     refine wpQuiet_nil ?_; rintro w7 ⟨⟨_, hb7⟩, rfl⟩; go_wp2_with fail
     go_roundg (gk - 1)
     case measure => have := HIG.out; omega
     case rel =>
      refine ⟨i + 1, _, by have := HIG.out; omega, by go_num, rfl, ?_, then_ hB6 hb7⟩; rw [HTK.out, List.flatMap_append, List.flatMap_singleton, ← List.append_assoc, ← HZL.out]; show _ = _ ++ keyT S y
      unfold keyT; simp only [ByteArray.data_append, Array.toList_append, HTD1.out, HTD2.out, HPD.out, List.append_assoc]
    ·have el : decide ((i : Int) < (m : Int)) = false := by simp; omega
     have el' : decide (i < m) = false := by simp; omega
     have him : i = m := by have := HIG.out; omega
     have hfin : (⟨(Kbl S).toArray⟩ : ByteArray) = Z := by
      have h1 := HZL.out; rw [him, ← HLM.out, List.take_length, HLM.out, HLZ.out] at h1; rw [← h1]
     have HF := Jh hfin; have HBZ := Jh (HB4.out.trans (hbz.mono (by have := HB4.out.size; rw [HR.out] at this; omega))); clear hfin him; go_wp2_with fail
     go_ret
     rw [HF.out]; exact ⟨rfl, by rw [HR.out]; exact HBZ.out⟩
  ·intro p v w2 hco; obtain ⟨e, cnt2, he, hno, hek, hev, hrg2, hlt⟩ := hco.ex; have hg2 := hco.g; have hen := hco.run; obtain ⟨x, hxz, hxk, hxf, _⟩ := H.out.k e he; have hxk2 := hxk; rw [hek] at hxk; obtain ⟨hX, hY⟩ := Qhv hxk; obtain ⟨X, Y⟩ := p; dsimp only at hX hY; have hB2 : Below r w w2 := hB.trans ⟨hg2.os, hg2.tape, hg2.output, hg2.size, fun j hj => hg2.block j (by have := hB.size; rw [HR.out] at this; omega) (fun e => by injection e with e; omega)⟩; have hrow2 : w2.ownsRow (r + 1) 99 2 v3 ks.length (ks.flatMap encLb) := hrow.kept hg2 (.inr fun e => by have := (hrow.lt r e).1; omega); have hkl := (Kvr H.out hrg.nd hrg.sub HKS.out).2.2.2; have hr2 : r < w2.heap.size := hrg2.rlt; have hbr : b < r := by have := (Array.getElem?_eq_some_iff.1 H.out.h).1; have := HR.out; omega
   obtain ⟨m, hm⟩ : ∃ m, ks.length = m := ⟨_, rfl⟩; rw [hm] at hkl hrow2; have HM := Jh hm; have HX := Jh hX; have HY := Jh hY; have HXK := Jh hxk2; have hen' : (Instr.entry (.pointer (some ⟨r, 0, none⟩))).run Tryz.prog w2 = .ok (.tuple #[.agg #[.string X, .string Y], v]) w2 := hen; clear hco hxk hxk2 hX hY hrow hrg hm hg2 hB hen hek hev hno hxf hxz he; unfold mkP; dsimp only; go_upto_region 5 with fail
   have hb3 : Below w2.heap.size w2 (w2.alloc (.cells #[.string X, .string Y] 99)) := (Below.refl _ _).alloc (Nat.le_refl _) _; have hq : Blk (w2.alloc (.cells #[.string X, .string Y] 99)) w2.heap.size 99 #[.string X, .string Y] := Blk.new _ _ _; obtain ⟨w3, hw3⟩ : ∃ w5, w2.alloc (.cells #[.string X, .string Y] 99) = w5 := ⟨_, rfl⟩; rw [hw3] at hb3 hq ⊢; obtain ⟨p, hp⟩ : ∃ p, w2.heap.size = p := ⟨_, rfl⟩; have hrow3 : w3.ownsRow (r + 1) 99 2 v3 m (ks.flatMap encLb) := by rw [← hw3]; exact hrow2.alloc _
   have hrg3 := hrg2.below hb3; have hB3 : Below r w w3 := hB2.trans (hb3.mono (by omega)); rw [hp] at hq ⊢; have q0 : _ = some (Value.string X) := hq.cell 0; have q1 : _ = some (Value.string Y) := hq.cell 1; have hr3 : r < w3.heap.size := hrg3.rlt; clear hp hw3 hb3 hrow2 hrg2 hB2 hen'; go_wp2_with (at_builtin; refine wpList_append_own_at _ rfl _ _ 54 rfl (r + 1) 99 i0 (.agg #[.string ⟨#[]⟩, .string ⟨#[]⟩]) 2 32 Tryz.underlying54 hi0 hz0 hz1 hz2 rfl (by decide) _ _ _ rfl (hrow3.alloc _) ⟨w3.heap.size, 0, none⟩ 1 1 [.string X, .string Y] rfl rfl ?p1 ?p2 ?p3 ?p4 ?p5 ?_)
   case p1 => exact Kaw (l := [.string X, .string Y]) (Blk.new w3 _ _)
   case p2 => intro u hu; simp at hu; rcases hu with rfl | rfl <;> rfl
   case p3 => unfold maxLen; omega
   case p4 => omega
   case p5 => simp; omega
   intro v' w4 hown' hgrow _ _; have hall : w3.grownBy w4 v3.ownBlock := (World.grownBy_alloc w3 _ _).trans hgrow; have hB4 : Below r w w4 := hB3.trans ⟨hall.os, hall.tape, hall.output, hall.size, fun j hj => hall.block j (by omega) (fun e => by have := (hrow3.lt j e.symm).1; omega)⟩; have hrg4 := hrg3.kept hall (fun e => by have := (hrow3.lt b e.symm).1; omega) (fun e => by have := (hrow3.lt r e.symm).1; omega)
   have hrow4 : w4.ownsRow (r + 1) 99 2 v' (ks ++ [x]).length ((ks ++ [x]).flatMap encLb) := by
    have e1 : (ks ++ [x]).flatMap encLb = ks.flatMap encLb ++ [.string X, .string Y] := by rw [List.flatMap_append]; simp [encLb, HX.out, HY.out]
    rw [e1, List.length_append, HM.out]; exact hown'
   have HXKS := Jh (show (out ++ [e]).map (·.key) = (ks ++ [x]).map lbV by rw [List.map_append, List.map_append, HKS.out]; simp [HXK.out]); clear hown' hgrow hall hrow3 hrg3 q0 q1 hq; go_wp2_with fail
   go_roundg (gk - 1)
   case measure => omega
   case rel => exact ⟨out ++ [e], cnt2, ks ++ [x], _, rfl, by omega, hrg4, HXKS.out, hrow4, hB4⟩
end
section
open Go.RowKit
open Lib renaming hid → Jh
attribute [local go_sem ↓] Go.wp_at_zero Go.wp_at_succ
attribute [local go_sem] Later.cell
def i64V (v : Int) : Value := .int .i64 v
def Kdf (S : List UInt8) (c : Cst) (i : Nat) : Option (Int × Cst × Nat) := match Kbr S i with
 | none => none
 | some (v, j) => some (v, c, j)
theorem Kept.two {w w1 w2 : World} {a b : Nat} (h : Kept w.heap.size [a, b] w w1) (k : Kept w1.heap.size [a, b] w1 w2) : Kept w.heap.size [a, b] w w2 := h.trans (k.mono h.size (fun _ _ h => h))
theorem Kept.then_' {w w1 w2 : World} {ex : List Nat} (h : Kept w.heap.size ex w w1) (k : Below w1.heap.size w1 w2) : Kept w.heap.size ex w w2 := h.then_ k
theorem Kcy {s : List UInt8} {i n v j : Nat} (h : readN s i n = some (v, j)) : v < 2 ^ n := by
 unfold readN at h
 split at h
 ·injection h with h; injection h with h _; have := Klh (Kco s i n); rw [Kfn] at this; omega
 ·cases h
theorem Qhu (w : World) : (Instr.field 334 (.agg #[.int .u64 2, .int .i64 2, .int .i64 7]) 2).run Tryz.prog w = .ok (.int .i64 7) w := by kernel_rfl
theorem Qgq (w : World) : (Instr.field 334 (.agg #[.int .u64 6, .int .i64 3, .int .i64 9]) 2).run Tryz.prog w = .ok (.int .i64 9) w := by kernel_rfl
theorem Qhb (w : World) : (Instr.field 334 (.agg #[.int .u64 14, .int .i64 4, .int .i64 12]) 2).run Tryz.prog w = .ok (.int .i64 12) w := by kernel_rfl
theorem Qgl (w : World) : (Instr.field 334 (.agg #[.int .u64 15, .int .i64 4, .int .i64 64]) 2).run Tryz.prog w = .ok (.int .i64 64) w := by kernel_rfl
theorem Kte (rd rb i : Nat) (S : ByteArray) (c : Cst) (w : World) (h : RdrAt rd rb S i c w) (hS : S.size ≤ 140737488351232) (hi : i ≤ 8 * S.size) :
  Calls Tryz.prog 229 #[.pointer (some ⟨rd, 0, none⟩)] w (RdO rd rb S i64V w (Kdf S.data.toList c i)) := by
 have H := Jh h; clear h; obtain ⟨M0, hM0⟩ : ∃ M0, Kdx S.data.toList 4 i = M0 := ⟨_, rfl⟩; have HM0 := Jh hM0; clear hM0; go_enter Tryz.func229, Tryz.ntmps229
 go_upto_block 0 with fail
 go_cut [3] (fun s3 wx => ∃ m j : Nat, M0 = some (m, j) ∧ s3 = .int .i64 (m : Int) ∧ m ≤ 4 ∧ j ≤ 8 * S.size ∧ RdrAt rd rb S j c wx ∧ Kept w.heap.size [rd, rb] w wx)
 case first =>
  go_wp2_with fail
  go_loopg [3] 4 (fun g s3 wr => ∃ m j : Nat, m + g = 4 ∧ s3 = .int .i64 (m : Int) ∧ j ≤ 8 * S.size ∧ RdrAt rd rb S j c wr ∧ Kept w.heap.size [rd, rb] w wr ∧ M0 = (match Kdx S.data.toList g j with | none => none | some (k, j2) => some (k + m, j2)))
  case atStart => exact ⟨0, i, rfl, rfl, hi, H.out, Kept.refl _ _ _, by rw [HM0.out]; cases M0 <;> rfl⟩
  case round =>
   obtain ⟨m, j, hm, rfl, hj, hr, hk, hmk⟩ := hrel; have HR := Jh hr; have HK := Jh hk; have HMK := Jh hmk; clear hr hk hmk
   cases gk with
   | zero =>
    obtain rfl : m = 4 := by omega
    have hmk := HMK.out; rw [Kdx] at hmk; go_wp2_with fail
    go_meet
    exact ⟨4, j, hmk, rfl, by decide, hj, HR.out, HK.out⟩
   | succ g =>
    have el : decide ((m : Int) < 4) = true := by rw [decide_eq_true_eq]; omega
    have HB := Jh (Kbt rd rb j 1 S c wr HR.out (by decide) hS hj); obtain ⟨o, ho⟩ : ∃ o, readN S.data.toList j 1 = o := ⟨_, rfl⟩; have HO := Jh ho; have hmk := HMK.out; rw [Kdx, ho] at hmk; unfold bitsR at HB; rw [ho] at HB; clear ho
    cases o with
    | none =>
     have HN : Hid (M0 = none) := Jh hmk; clear hmk; go_wp2_with fail
     refine HB.out.mono ?_; rintro _ w2 ⟨⟨f, hf, rfl⟩, hk2⟩; unfold Kaq; go_wp2_with fail
     refine Kag rfl ?_; unfold Kdf Kbr; rw [HM0.out, HN.out]; exact ⟨⟨f, hf, rfl⟩, HK.out.two hk2⟩
    | some vj =>
     obtain ⟨v, j2⟩ := vj; dsimp only at hmk HB; go_wp2_with fail
     refine HB.out.mono ?_; rintro _ w2 ⟨rfl, hr2, hj2, hk2⟩; unfold u64V; have HR2 := Jh hr2; have HK2 := Jh (HK.out.two hk2); clear hr2 hk2
     by_cases hv : v = 1
     ·subst hv; rw [if_pos rfl] at hmk; have HM := Jh hmk; clear hmk; go_wp2_with fail
      go_roundg g
      case measure => omega
      case rel =>
       refine ⟨m + 1, j2, by omega, by go_num, hj2, HR2.out, HK2.out, ?_⟩; rw [HM.out]
       cases Kdx S.data.toList g j2 with
       | none => rfl
       | some x => dsimp only; rw [Nat.add_right_comm, Nat.add_assoc]
     ·rw [if_neg hv] at hmk; have HM := Jh hmk; have e1 : ((v : Int) == 1) = false := by simp; omega
      clear hmk; go_wp2_with fail
      go_meet
      exact ⟨m, j2, by rw [HM.out, Nat.zero_add], rfl, by omega, hj2, HR2.out, HK2.out⟩
 case rest =>
  obtain ⟨m, j, hmk, rfl, hm4, hj, hr, hk⟩ := hcut; have HR := Jh hr; have HK := Jh hk; have HMK := Jh hmk; clear hr hk hmk; rcases (by omega : m = 0 ∨ m = 1 ∨ m = 2 ∨ m = 3 ∨ m = 4) with rfl | rfl | rfl | rfl | rfl
  ·go_wp2_with fail
   go_ret
   unfold Kdf Kbr; rw [HM0.out, HMK.out]; exact ⟨rfl, HR.out, hj, HK.out⟩
  ·have HB := Jh (fun w2 (hb : Below wc.heap.size wc w2) => Kbt rd rb j 7 S c w2 (HR.out.below hb) (by decide) hS hj); obtain ⟨o, ho⟩ : ∃ o, readN S.data.toList j 7 = o := ⟨_, rfl⟩; have HO := Jh ho; unfold bitsR at HB; simp only [ho] at HB; clear ho; go_wp2_with fail
   refine (Ket wc).mono ?_; rintro _ w2 ⟨rfl, hb2⟩; have i0 := size0; have i1 := Qhu; obtain ⟨vs, hvs⟩ : ∃ vs, Kfh = vs := ⟨_, rfl⟩; rw [hvs] at i0; rw [show (Value.agg #[.int .u64 2, .int .i64 2, .int .i64 7, .int .u64 6, .int .i64 3, .int .i64 9, .int .u64 14, .int .i64 4, .int .i64 12, .int .u64 15, .int .i64 4, .int .i64 64]) = vs from hvs]; clear hvs; have HB2 := Jh (HB.out w2 hb2); have HK2 := Jh (HK.out.then_' hb2); clear hb2
   cases o with
   | none =>
    go_wp2_with fail
    refine HB2.out.mono ?_; rintro _ w3 ⟨⟨f, hf, rfl⟩, hk3⟩; unfold Kaq; go_wp2_with fail
    refine Kag rfl ?_
    have hcr : Kbr S.data.toList i = none := by
     unfold Kbr; rw [HM0.out, HMK.out]; dsimp only; rw [show Kdk (0 + 1) = 7 from rfl, HO.out]
    unfold Kdf; rw [hcr]; exact ⟨⟨f, hf, rfl⟩, HK2.out.two hk3⟩
   | some vj =>
    obtain ⟨v, j2⟩ := vj; have hvl : v < 2 ^ 7 := Kcy HO.out; go_wp2_with fail
    refine HB2.out.mono ?_; rintro _ w3 ⟨rfl, hr3, hj3, hk3⟩; have HR3 := Jh hr3; have HK3 := Jh (HK2.out.two hk3); clear hr3 hk3; unfold u64V; go_wp2_with fail
    go_ret
    have hcr : Kbr S.data.toList i = some (signW 7 v, j2) := by
     unfold Kbr; rw [HM0.out, HMK.out]; dsimp only; rw [show Kdk (0 + 1) = 7 from rfl, HO.out]
    have hsg : wrap64 ((v : Int) * 144115188075855872) / 144115188075855872 = signW 7 v := by
     simp at hvl; unfold signW wrap64; simp
     split <;> omega
    unfold Kdf; rw [hcr, hsg]; exact ⟨rfl, HR3.out, hj3, HK3.out⟩
  ·have HB := Jh (fun w2 (hb : Below wc.heap.size wc w2) => Kbt rd rb j 9 S c w2 (HR.out.below hb) (by decide) hS hj); obtain ⟨o, ho⟩ : ∃ o, readN S.data.toList j 9 = o := ⟨_, rfl⟩; have HO := Jh ho; unfold bitsR at HB; simp only [ho] at HB; clear ho; go_wp2_with fail
   refine (Ket wc).mono ?_; rintro _ w2 ⟨rfl, hb2⟩; have i0 := size1; have i1 := Qgq; obtain ⟨vs, hvs⟩ : ∃ vs, Kfh = vs := ⟨_, rfl⟩; rw [hvs] at i0; rw [show (Value.agg #[.int .u64 2, .int .i64 2, .int .i64 7, .int .u64 6, .int .i64 3, .int .i64 9, .int .u64 14, .int .i64 4, .int .i64 12, .int .u64 15, .int .i64 4, .int .i64 64]) = vs from hvs]; clear hvs; have HB2 := Jh (HB.out w2 hb2); have HK2 := Jh (HK.out.then_' hb2); clear hb2
   cases o with
   | none =>
    go_wp2_with fail
    refine HB2.out.mono ?_; rintro _ w3 ⟨⟨f, hf, rfl⟩, hk3⟩; unfold Kaq; go_wp2_with fail
    refine Kag rfl ?_
    have hcr : Kbr S.data.toList i = none := by
     unfold Kbr; rw [HM0.out, HMK.out]; dsimp only; rw [show Kdk (1 + 1) = 9 from rfl, HO.out]
    unfold Kdf; rw [hcr]; exact ⟨⟨f, hf, rfl⟩, HK2.out.two hk3⟩
   | some vj =>
    obtain ⟨v, j2⟩ := vj; have hvl : v < 2 ^ 9 := Kcy HO.out; go_wp2_with fail
    refine HB2.out.mono ?_; rintro _ w3 ⟨rfl, hr3, hj3, hk3⟩; have HR3 := Jh hr3; have HK3 := Jh (HK2.out.two hk3); clear hr3 hk3; unfold u64V; go_wp2_with fail
    go_ret
    have hcr : Kbr S.data.toList i = some (signW 9 v, j2) := by
     unfold Kbr; rw [HM0.out, HMK.out]; dsimp only; rw [show Kdk (1 + 1) = 9 from rfl, HO.out]
    have hsg : wrap64 ((v : Int) * 36028797018963968) / 36028797018963968 = signW 9 v := by
     simp at hvl; unfold signW wrap64; simp
     split <;> omega
    unfold Kdf; rw [hcr, hsg]; exact ⟨rfl, HR3.out, hj3, HK3.out⟩
  ·have HB := Jh (fun w2 (hb : Below wc.heap.size wc w2) => Kbt rd rb j 12 S c w2 (HR.out.below hb) (by decide) hS hj); obtain ⟨o, ho⟩ : ∃ o, readN S.data.toList j 12 = o := ⟨_, rfl⟩; have HO := Jh ho; unfold bitsR at HB; simp only [ho] at HB; clear ho; go_wp2_with fail
   refine (Ket wc).mono ?_; rintro _ w2 ⟨rfl, hb2⟩; have i0 := size2; have i1 := Qhb; obtain ⟨vs, hvs⟩ : ∃ vs, Kfh = vs := ⟨_, rfl⟩; rw [hvs] at i0; rw [show (Value.agg #[.int .u64 2, .int .i64 2, .int .i64 7, .int .u64 6, .int .i64 3, .int .i64 9, .int .u64 14, .int .i64 4, .int .i64 12, .int .u64 15, .int .i64 4, .int .i64 64]) = vs from hvs]; clear hvs; have HB2 := Jh (HB.out w2 hb2); have HK2 := Jh (HK.out.then_' hb2); clear hb2
   cases o with
   | none =>
    go_wp2_with fail
    refine HB2.out.mono ?_; rintro _ w3 ⟨⟨f, hf, rfl⟩, hk3⟩; unfold Kaq; go_wp2_with fail
    refine Kag rfl ?_
    have hcr : Kbr S.data.toList i = none := by
     unfold Kbr; rw [HM0.out, HMK.out]; dsimp only; rw [show Kdk (2 + 1) = 12 from rfl, HO.out]
    unfold Kdf; rw [hcr]; exact ⟨⟨f, hf, rfl⟩, HK2.out.two hk3⟩
   | some vj =>
    obtain ⟨v, j2⟩ := vj; have hvl : v < 2 ^ 12 := Kcy HO.out; go_wp2_with fail
    refine HB2.out.mono ?_; rintro _ w3 ⟨rfl, hr3, hj3, hk3⟩; have HR3 := Jh hr3; have HK3 := Jh (HK2.out.two hk3); clear hr3 hk3; unfold u64V; go_wp2_with fail
    go_ret
    have hcr : Kbr S.data.toList i = some (signW 12 v, j2) := by
     unfold Kbr; rw [HM0.out, HMK.out]; dsimp only; rw [show Kdk (2 + 1) = 12 from rfl, HO.out]
    have hsg : wrap64 ((v : Int) * 4503599627370496) / 4503599627370496 = signW 12 v := by
     simp at hvl; unfold signW wrap64; simp
     split <;> omega
    unfold Kdf; rw [hcr, hsg]; exact ⟨rfl, HR3.out, hj3, HK3.out⟩
  ·have HB := Jh (fun w2 (hb : Below wc.heap.size wc w2) => Kbt rd rb j 64 S c w2 (HR.out.below hb) (by decide) hS hj); obtain ⟨o, ho⟩ : ∃ o, readN S.data.toList j 64 = o := ⟨_, rfl⟩; have HO := Jh ho; unfold bitsR at HB; simp only [ho] at HB; clear ho; go_wp2_with fail
   refine (Ket wc).mono ?_; rintro _ w2 ⟨rfl, hb2⟩; have i0 := size3; have i1 := Qgl; obtain ⟨vs, hvs⟩ : ∃ vs, Kfh = vs := ⟨_, rfl⟩; rw [hvs] at i0; rw [show (Value.agg #[.int .u64 2, .int .i64 2, .int .i64 7, .int .u64 6, .int .i64 3, .int .i64 9, .int .u64 14, .int .i64 4, .int .i64 12, .int .u64 15, .int .i64 4, .int .i64 64]) = vs from hvs]; clear hvs; have HB2 := Jh (HB.out w2 hb2); have HK2 := Jh (HK.out.then_' hb2); clear hb2
   cases o with
   | none =>
    go_wp2_with fail
    refine HB2.out.mono ?_; rintro _ w3 ⟨⟨f, hf, rfl⟩, hk3⟩; unfold Kaq; go_wp2_with fail
    refine Kag rfl ?_
    have hcr : Kbr S.data.toList i = none := by
     unfold Kbr; rw [HM0.out, HMK.out]; dsimp only; rw [show Kdk (3 + 1) = 64 from rfl, HO.out]
    unfold Kdf; rw [hcr]; exact ⟨⟨f, hf, rfl⟩, HK2.out.two hk3⟩
   | some vj =>
    obtain ⟨v, j2⟩ := vj; have hvl : v < 2 ^ 64 := Kcy HO.out; go_wp2_with fail
    refine HB2.out.mono ?_; rintro _ w3 ⟨rfl, hr3, hj3, hk3⟩; have HR3 := Jh hr3; have HK3 := Jh (HK2.out.two hk3); clear hr3 hk3; unfold u64V; go_wp2_with fail
    go_ret
    have hcr : Kbr S.data.toList i = some (signW 64 v, j2) := by
     unfold Kbr; rw [HM0.out, HMK.out]; dsimp only; rw [show Kdk (3 + 1) = 64 from rfl, HO.out]
    have hsg : wrap64 (v : Int) = signW 64 v := by
     simp at hvl; unfold signW wrap64; simp
     split <;> omega
    unfold Kdf; rw [hcr, hsg]; exact ⟨rfl, HR3.out, hj3, HK3.out⟩
end
section
open Go.RowKit
theorem Oper.wp_faults {P : Program} {Q : Exit → Act → World → Prop} {o : Oper} {a : Act} {w w1 : World} {g : FuncId} {args : Array Value} {K : Act → World → Prop} (h : (execOp a.eval o).run P w = .ok (.enter g args) w1) {N : List PanicEntry → World → Prop}
  (hc : Calls P g args w1 fun e w' => ∃ u, e = .panicked u ∧ N u w') (hK : ∀ u w', N u w' → Q (.panic u) a w') : OpW o P a w K Q := .of <| by
 unfold Oper.wp; rw [h]; refine Calls.mono hc ?_; rintro e w' ⟨u, rfl, hn⟩; exact hK u w' hn
end
section
open Go.RowKit
open Lib renaming hid → Jh
open List renaming setIfInBounds_toArray → Ja, set_cons_zero → Jb, set_cons_succ → Jc
attribute [local go_sem ↓] Go.wp_at_zero Go.wp_at_succ
attribute [local go_sem] Later.cell
theorem RdrAt.cells {rd rb : Nat} {S : ByteArray} {i : Nat} {c : Cst} {w : World} (h : RdrAt rd rb S i c w) :
  w.cell? ⟨rd, 3, none⟩ = some (.int .i64 (c.n : Int)) ∧ w.cell? ⟨rd, 4, none⟩ = some (.int .i64 c.last.t) ∧ w.cell? ⟨rd, 5, none⟩ = some (.int .u64 (c.last.v : Int)) ∧ w.cell? ⟨rd, 6, none⟩ = some (.int .i64 c.step) ∧
  w.cell? ⟨rd, 7, none⟩ = some (.int .i64 (c.lead : Int)) ∧ w.cell? ⟨rd, 8, none⟩ = some (.int .i64 (c.tail : Int)) ∧ w.cell? ⟨rd, 9, none⟩ = some (.bool c.window) ∧ ∀ i, w.frozen? ⟨rd, i, none⟩ = false :=
 ⟨h.r.cell 3, h.r.cell 4, h.r.cell 5, h.r.cell 6, h.r.cell 7, h.r.cell 8, h.r.cell 9, h.r.frozen⟩
theorem RdrAt.put {rd rb : Nat} {S : ByteArray} {i : Nat} {c : Cst} {w : World} (h : RdrAt rd rb S i c w) (k : Nat) (u : Value) (c' : Cst) (hc : (restC c).set k u = restC c') : RdrAt rd rb S i c' (w.setCell ⟨rd, k + 3, none⟩ u) := by
 refine ⟨?_, h.b.far (p := ⟨rd, k + 3, none⟩) (fun e => h.ne e.symm) _⟩; have := h.r.set_ (k + 3) u; rw [← hc]; simpa using this
theorem Kept.of_drew {B : Nat} {ex : List Nat} {w w' : World} (h : Kept B ex w.drew w') : Kept B ex w w' := ⟨h.os, h.tape, h.output, h.size, h.block⟩
theorem Qcq {S : List UInt8} {i v j : Nat} (h : readN S i 1 = some (v, j)) : v = 0 ∨ v = 1 := by
 have := Kcy h; omega
theorem Kuz (rd rb i : Nat) (S : ByteArray) (c : Cst) (w : World) (h : RdrAt rd rb S i c w) (hc : c.Ok) (hS_ : S.size ≤ 140737488351232) (hi : i ≤ 8 * S.size) :
  Calls Tryz.prog 231 #[.pointer (some ⟨rd, 0, none⟩)] w (RdO rd rb S u64V w (Kbd c S.data.toList i)) := by
 have H := Jh h; clear h; obtain ⟨r1, hr1⟩ : ∃ r1, readN S.data.toList i 1 = r1 := ⟨_, rfl⟩; have HB1 := Jh (Kbt rd rb i 1 S c w H.out (by decide) hS_ hi); unfold bitsR at HB1; rw [hr1] at HB1; have HR1 := Jh hr1; clear hr1
 cases r1 with
 | none =>
  go_enter Tryz.func231, Tryz.ntmps231
  go_wp2_with fail
  refine HB1.out.mono ?_; rintro _ w2 ⟨⟨f, hf, rfl⟩, hk2⟩; unfold Kaq; go_wp2_with fail
  refine Kag rfl ?_; unfold Kbd; rw [HR1.out]; exact ⟨⟨f, hf, rfl⟩, hk2⟩
 | some vj =>
  obtain ⟨v1, i1⟩ := vj; have h01 := Qcq HR1.out; dsimp only at HB1; go_enter Tryz.func231, Tryz.ntmps231
  go_wp2_with fail
  refine HB1.out.mono ?_; rintro _ w2 ⟨rfl, hq2, hi1, hk2⟩; have HQ2 := Jh hq2; have HK2 := Jh hk2; clear hq2 hk2; unfold u64V; rcases h01 with rfl | rfl
  ·go_wp2_with fail
   go_ret
   unfold Kbd; rw [HR1.out]; exact ⟨rfl, HQ2.out, hi1, HK2.out⟩
  ·obtain ⟨r2, hr2⟩ : ∃ r2, readN S.data.toList i1 1 = r2 := ⟨_, rfl⟩; have HB2 := Jh (Kbt rd rb i1 1 S c w2 HQ2.out (by decide) hS_ hi1); unfold bitsR at HB2; rw [hr2] at HB2; have HR2 := Jh hr2; clear hr2
   cases r2 with
   | none =>
    go_wp2_with fail
    refine HB2.out.mono ?_; rintro _ w3 ⟨⟨f, hf, rfl⟩, hk3⟩; unfold Kaq; go_wp2_with fail
    refine Kag rfl ?_; unfold Kbd; rw [HR1.out]; dsimp only; rw [HR2.out]; exact ⟨⟨f, hf, rfl⟩, HK2.out.two hk3⟩
   | some vj =>
    obtain ⟨v2, i2⟩ := vj; have h02 := Qcq HR2.out; dsimp only at HB2; go_wp2_with fail
    refine HB2.out.mono ?_; rintro _ w3 ⟨rfl, hq3, hi2, hk3⟩; have HQ3 := Jh hq3; have HK3 := Jh (HK2.out.two hk3); clear hq3 hk3; unfold u64V; rcases h02 with rfl | rfl
    ·have hcc := HQ3.out.cells; have c7 := hcc.2.2.2.2.1; have c8 := hcc.2.2.2.2.2.1; have c9 := hcc.2.2.2.2.2.2.1; clear hcc; have ge0 : decide ((0 : Int) ≤ (c.tail : Int)) = true := by rw [decide_eq_true_eq]; omega
     cases hw : c.window with
     | false =>
      rw [hw] at c9; go_wp2_with fail
      refine (Keg _ 21 w3).mono ?_; rintro _ _ ⟨rfl, rfl⟩; unfold Kaq; go_wp2_with fail
      refine Kag rfl ?_
      have hd : Kbd c S.data.toList i = none := by
       unfold Kbd; rw [HR1.out]; dsimp only; rw [HR2.out]; dsimp only; rw [if_neg (by simp [hw])]
      rw [hd]; exact ⟨⟨21, by decide, rfl⟩, HK3.out⟩
     | true =>
      rw [hw] at c9; have ho := hc.2; go_wp2_with fail
      refine (Kfb _ 21 w3).mono ?_; rintro _ _ ⟨rfl, rfl⟩; obtain ⟨n, hn⟩ : ∃ n, 64 - c.lead - c.tail = n := ⟨_, rfl⟩; have e1 : wrap64 (64 - (c.lead : Int) - (c.tail : Int)) = (n : Int) := by unfold wrap64; omega
      have e2 : (64 : Int) - (c.lead : Int) - (c.tail : Int) = (n : Int) := by omega
      obtain ⟨r3, hr3⟩ : ∃ r3, readN S.data.toList i2 n = r3 := ⟨_, rfl⟩; have HB3 := Jh (fun w' (hb : RdrAt rd rb S i2 c w') => Kbt rd rb i2 n S c w' hb (by omega) hS_ hi2); unfold bitsR at HB3; simp only [hr3] at HB3; have HR3 := Jh hr3; have HN := Jh hn; clear hr3 hn; have e9 : IntKind.i64.wrap (IntKind.i64.wrap (64 - (c.lead : Int)) - (c.tail : Int)) = (n : Int) := by rw [IntKind.wrap_i64, IntKind.wrap_i64]; omega
      have htl : c.tail < 64 := by omega
      have hlc : c.lead ≤ 63 := by omega
      go_upto_region 8 with fail
      have hS : w3.drew.cell? ⟨rd, 7, none⟩ = some (.int .i64 (c.lead : Int)) ∧ w3.drew.cell? ⟨rd, 8, none⟩ = some (.int .i64 (c.tail : Int)) := ⟨c7, c8⟩; refine Kat (fun w' => w'.cell? ⟨rd, 7, none⟩ = some (.int .i64 (c.lead : Int)) ∧ w'.cell? ⟨rd, 8, none⟩ = some (.int .i64 (c.tail : Int))) 17 18 (by kernel_rfl) rfl ?_; rw [show Array.replicate 18 false = #[false, false, false, false, false, false, false, false, false, false, false, false, false, false, false, false, false, false] from rfl]; refine Kaa (i := 0) (d := some 47) rfl rfl (by kernel_rfl) (by kernel_rfl) (by kernel_rfl) rfl (fun _ _ _ h => h) (by rfl) (fun w => by go_simp; try rfl) (fun _ => hS) ?_; simp only [Act.put, Ja, Jb, Jc]; refine Kaa (i := 1) (d := some 48) rfl rfl (by kernel_rfl) (by kernel_rfl) (by kernel_rfl) rfl (fun _ _ _ h => h) (by rfl) (fun w => by go_simp; try rfl) (fun _ => hS) ?_; simp only [Act.put, Ja, Jb, Jc]; refine Kaa (i := 2) (d := some 49) rfl rfl (by kernel_rfl) (by kernel_rfl) (by kernel_rfl) rfl (fun _ _ _ h => h) (by rfl) (fun w => by go_simp; try rfl) (fun _ => hS) ?_; simp only [Act.put, Ja, Jb, Jc]; refine Kaa (i := 3) (d := some 50) rfl rfl (by kernel_rfl) (by kernel_rfl) (by kernel_rfl) rfl (fun _ _ _ h => h) (by rfl) (fun w => by go_simp; try rfl) (fun _ => hS) ?_; simp only [Act.put, Ja, Jb, Jc]; refine Kai (i := 4) (d := some 51) rfl rfl (by kernel_rfl) (by kernel_rfl) (by kernel_rfl) (by kernel_rfl) rfl (fun _ _ _ h => h) (.inl ⟨by rfl, fun w hw => by (obtain ⟨ha, hb⟩ := hw; go_simp; try rfl)⟩) hS ?_; simp only [Act.put, Ja, Jb, Jc]; refine Kaa (i := 5) (d := some 52) rfl rfl (by kernel_rfl) (by kernel_rfl) (by kernel_rfl) rfl (fun _ _ _ h => h) (by rfl) (fun w => by go_simp; try rfl) (fun _ => hS) ?_; simp only [Act.put, Ja, Jb, Jc]; refine Kaa (i := 6) (d := some 53) rfl rfl (by kernel_rfl) (by kernel_rfl) (by kernel_rfl) rfl (fun _ _ _ h => h) (by rfl) (fun w => by go_simp; try rfl) (fun _ => hS) ?_; simp only [Act.put, Ja, Jb, Jc]; refine Kaa (i := 7) (d := some 54) rfl rfl (by kernel_rfl) (by kernel_rfl) (by kernel_rfl) rfl (fun _ _ _ h => h) (by rfl) (fun w => by go_simp; try rfl) (fun _ => hS) ?_; simp only [Act.put, Ja, Jb, Jc]; refine Kaa (i := 8) (d := some 55) rfl rfl (by kernel_rfl) (by kernel_rfl) (by kernel_rfl) rfl (fun _ _ _ h => h) (by rfl) (fun w => by go_simp; try rfl) (fun _ => hS) ?_; simp only [Act.put, Ja, Jb, Jc]; refine Kai (i := 9) (d := some 56) rfl rfl (by kernel_rfl) (by kernel_rfl) (by kernel_rfl) (by kernel_rfl) rfl (fun _ _ _ h => h) (.inl ⟨by rfl, fun w hw => by (obtain ⟨ha, hb⟩ := hw; go_simp; try rfl)⟩) hS ?_; simp only [Act.put, Ja, Jb, Jc]; refine Kaa (i := 10) (d := some 57) rfl rfl (by kernel_rfl) (by kernel_rfl) (by kernel_rfl) rfl (fun _ _ _ h => h) (by rfl) (fun w => by go_simp; try rfl) (fun _ => hS) ?_; simp only [Act.put, Ja, Jb, Jc]; refine Kaa (i := 12) (d := some 59) rfl rfl (by kernel_rfl) (by kernel_rfl) (by kernel_rfl) rfl (fun _ _ _ h => h) (by rfl) (fun w => by go_simp; try rfl) (fun _ => hS) ?_; simp only [Act.put, Ja, Jb, Jc]; refine Kaa (i := 13) (d := some 60) rfl rfl (by kernel_rfl) (by kernel_rfl) (by kernel_rfl) rfl (fun _ _ _ h => h) (by rfl) (fun w => by go_simp; try rfl) (fun _ => hS) ?_; simp only [Act.put, Ja, Jb, Jc]
      refine Kaa (i := 14) (d := some 61) rfl rfl (by kernel_rfl) (by kernel_rfl) (by kernel_rfl) rfl (fun _ _ _ h => h) (by rfl) (fun w => by go_simp; try rfl) (fun _ => hS) ?_; simp only [Act.put, Ja, Jb, Jc]; refine Kai (i := 15) (d := some 62) rfl rfl (by kernel_rfl) (by kernel_rfl) (by kernel_rfl) (by kernel_rfl) rfl (fun _ _ _ h => h) (.inl ⟨by rfl, fun w hw => by (obtain ⟨ha, hb⟩ := hw; go_simp; try rfl)⟩) hS ?_; simp only [Act.put, Ja, Jb, Jc]; refine Kac (i := 11) (by kernel_rfl) rfl rfl ?_
      cases r3 with
      | none =>
       refine Oper.wp_faults (w1 := w3.drew) (g := 228) (args := #[.pointer (some ⟨rd, 0, none⟩), .int .i64 (n : Int)]) (by go_simp) (N := fun u w' => (∃ f, f ≠ 0 ∧ Ending.panicked u = Kaq f) ∧ Kept w3.heap.size [rd, rb] w3 w') ((HB3.out w3.drew ⟨HQ3.out.r, HQ3.out.b⟩).mono ?_) ?_
       ·rintro _ w4 ⟨⟨f, hf, rfl⟩, hk4⟩; exact ⟨_, rfl, ⟨f, hf, rfl⟩, hk4.of_drew⟩
       ·rintro u w4 ⟨hfu, hk4⟩; simp only [Exit.then]; refine Kag rfl ?_
        have hd : Kbd c S.data.toList i = none := by
         unfold Kbd; rw [HR1.out]; dsimp only; rw [HR2.out]; dsimp only; rw [if_pos hw, HN.out, HR3.out]
        rw [hd]; exact ⟨hfu, HK3.out.two hk4⟩
      | some vj =>
       obtain ⟨v3, i3⟩ := vj; have hvn := Kcy HR3.out; refine Oper.wp_called (d := some 58) (w1 := w3.drew) (g := 228) (args := #[.pointer (some ⟨rd, 0, none⟩), .int .i64 (n : Int)]) rfl (by go_simp) (N := fun u w' => u = .int .u64 (v3 : Int) ∧ RdrAt rd rb S i3 c w' ∧ i3 ≤ 8 * S.size ∧ Kept w3.heap.size [rd, rb] w3 w') ((HB3.out w3.drew ⟨HQ3.out.r, HQ3.out.b⟩).mono ?_) ?_
       ·rintro _ w4 ⟨rfl, hq4, hi4, hk4⟩; exact ⟨_, rfl, rfl, hq4, hi4, hk4.of_drew⟩
       ·rintro _ w4 ⟨rfl, hq4, hi4, hk4⟩; refine ⟨fun _ => ⟨hq4.cells.2.2.2.2.1, hq4.cells.2.2.2.2.2.1⟩, ?_⟩; simp only [Act.put, Ja, Jb, Jc]
        have hd : Kbd c S.data.toList i = some (v3 <<< c.tail, c, i3) := by
         unfold Kbd; rw [HR1.out]; dsimp only; rw [HR2.out]; dsimp only; rw [if_pos hw, HN.out, HR3.out]
        have hlt : v3 <<< c.tail < 2 ^ 64 := (Kgp hc hd).1; have hsz : (v3 : Int) * (2 : Int) ^ c.tail = ((v3 <<< c.tail : Nat) : Int) := by rw [Nat.shiftLeft_eq]; simp
        obtain ⟨Z, hZ⟩ : ∃ Z, v3 <<< c.tail = Z := ⟨_, rfl⟩; rw [hZ] at hsz hd hlt
        have hsh : IntKind.u64.wrap ((v3 : Int) * (2 : Int) ^ c.tail) = (Z : Int) := by
         rw [hsz]; exact Kef _ (by omega) (by omega)
        clear hZ hlt hsz; refine Kac (i := 16) (by kernel_rfl) rfl rfl ?_; refine Oper.wp_ran (d := some 63) (w' := w4) (v := .int .u64 (Z : Int)) rfl (by go_simp; try rfl) ⟨fun _ => ⟨hq4.cells.2.2.2.2.1, hq4.cells.2.2.2.2.2.1⟩, ?_⟩; simp only [Act.put, Ja, Jb, Jc]; refine Kay (i := 17) (by kernel_rfl) rfl rfl (by kernel_rfl) ?_; refine Oper.wp_ran (d := some 2) (w' := w4) (v := .int .u64 (Z : Int)) rfl (by go_simp; try rfl) ?_; simp only [Act.put, Ja, Jb, Jc]; refine Kao (by kernel_rfl) ?_ _; clear c7 c8 c9 hS; go_wp2_with fail
        go_ret
        exact ⟨rfl, hq4, hi4, HK3.out.two hk4⟩
    ·obtain ⟨r5, hr5⟩ : ∃ r5, readN S.data.toList i2 5 = r5 := ⟨_, rfl⟩; have HB5 := Jh (Kbt rd rb i2 5 S c w3 HQ3.out (by decide) hS_ hi2); unfold bitsR at HB5; rw [hr5] at HB5; have HR5 := Jh hr5; clear hr5
     cases r5 with
     | none =>
      go_wp2_with fail
      refine HB5.out.mono ?_; rintro _ w4 ⟨⟨f, hf, rfl⟩, hk4⟩; unfold Kaq; go_wp2_with fail
      refine Kag rfl ?_
      have hd : Kbd c S.data.toList i = none := by
       unfold Kbd; rw [HR1.out]; dsimp only; rw [HR2.out]; dsimp only; rw [HR5.out]
      rw [hd]; exact ⟨⟨f, hf, rfl⟩, HK3.out.two hk4⟩
     | some vj =>
      obtain ⟨ld, i4⟩ := vj; dsimp only at HB5; have hld : ld < 2 ^ 5 := Kcy HR5.out; go_wp2_with fail
      refine HB5.out.mono ?_; rintro _ w4 ⟨rfl, hq4, hi4, hk4⟩; have hcc := hq4.cells; have c7 := hcc.2.2.2.2.1; have c9 := hcc.2.2.2.2.2.2.1; have z7 := hcc.2.2.2.2.2.2.2 7; have z9 := hcc.2.2.2.2.2.2.2 9
      have hq5 : RdrAt rd rb S i4 { c with lead := ld, window := true } ((w4.setCell ⟨rd, 7, none⟩ (.int .i64 (ld : Int))).setCell ⟨rd, 9, none⟩ (.bool true)) :=
       (hq4.put 4 (.int .i64 (ld : Int)) { c with lead := ld } rfl).put 6 (.bool true) { c with lead := ld, window := true } rfl
      have hk5 : Kept w.heap.size [rd, rb] w ((w4.setCell ⟨rd, 7, none⟩ (.int .i64 (ld : Int))).setCell ⟨rd, 9, none⟩ (.bool true)) :=
       ((HK3.out.two hk4).setCell (p := ⟨rd, 7, none⟩) (.inl (by simp)) _).setCell (p := ⟨rd, 9, none⟩) (.inl (by simp)) _
      have HQ5 := Jh hq5; have HK5 := Jh hk5; clear hcc hq4 hk4 hq5 hk5; unfold u64V; go_upto_region 6 with fail
      obtain ⟨w5, hw5⟩ : ∃ w5, ((w4.setCell ⟨rd, 7, none⟩ (.int .i64 (ld : Int))).setCell ⟨rd, 9, none⟩ (.bool true)) = w5 := ⟨_, rfl⟩; rw [hw5] at HQ5 HK5; rw [hw5]; clear hw5 c7 c9 z7 z9; obtain ⟨r6, hr6⟩ : ∃ r6, readN S.data.toList i4 6 = r6 := ⟨_, rfl⟩; have HB6 := Jh (Kbt rd rb i4 6 S _ w5.drew ⟨HQ5.out.r, HQ5.out.b⟩ (by decide) hS_ hi4); unfold bitsR at HB6; rw [hr6] at HB6; have HR6 := Jh hr6; clear hr6; have c7 : w5.cell? ⟨rd, 7, none⟩ = some (.int .i64 (ld : Int)) := HQ5.out.cells.2.2.2.2.1; have hS : w5.drew.cell? ⟨rd, 7, none⟩ = some (.int .i64 (ld : Int)) ∧ True := ⟨c7, trivial⟩; refine Kat (fun w' => w'.cell? ⟨rd, 7, none⟩ = some (.int .i64 (ld : Int)) ∧ True) 10 13 (by kernel_rfl) rfl ?_; rw [show Array.replicate 13 false = #[false, false, false, false, false, false, false, false, false, false, false, false, false] from rfl]; refine Kaa (i := 0) (d := some 22) rfl rfl (by kernel_rfl) (by kernel_rfl) (by kernel_rfl) rfl (fun _ _ _ h => h) (by rfl) (fun w => by go_simp; try rfl) (fun _ => hS) ?_; simp only [Act.put, Ja, Jb, Jc]; refine Kaa (i := 1) (d := some 23) rfl rfl (by kernel_rfl) (by kernel_rfl) (by kernel_rfl) rfl (fun _ _ _ h => h) (by rfl) (fun w => by go_simp; try rfl) (fun _ => hS) ?_; simp only [Act.put, Ja, Jb, Jc]; refine Kaa (i := 2) (d := some 24) rfl rfl (by kernel_rfl) (by kernel_rfl) (by kernel_rfl) rfl (fun _ _ _ h => h) (by rfl) (fun w => by go_simp; try rfl) (fun _ => hS) ?_; simp only [Act.put, Ja, Jb, Jc]; refine Kaa (i := 3) (d := some 25) rfl rfl (by kernel_rfl) (by kernel_rfl) (by kernel_rfl) rfl (fun _ _ _ h => h) (by rfl) (fun w => by go_simp; try rfl) (fun _ => hS) ?_; simp only [Act.put, Ja, Jb, Jc]; refine Kai (i := 4) (d := some 26) rfl rfl (by kernel_rfl) (by kernel_rfl) (by kernel_rfl) (by kernel_rfl) rfl (fun _ _ _ h => h) (.inl ⟨by rfl, fun w hw => by (obtain ⟨ha, hb⟩ := hw; go_simp; try rfl)⟩) hS ?_; simp only [Act.put, Ja, Jb, Jc]; refine Kaa (i := 5) (d := some 27) rfl rfl (by kernel_rfl) (by kernel_rfl) (by kernel_rfl) rfl (fun _ _ _ h => h) (by rfl) (fun w => by go_simp; try rfl) (fun _ => hS) ?_; simp only [Act.put, Ja, Jb, Jc]; refine Kaa (i := 6) (d := some 28) rfl rfl (by kernel_rfl) (by kernel_rfl) (by kernel_rfl) rfl (fun _ _ _ h => h) (by rfl) (fun w => by go_simp; try rfl) (fun _ => hS) ?_; simp only [Act.put, Ja, Jb, Jc]; refine Kac (i := 7) (by kernel_rfl) rfl rfl ?_
      cases r6 with
      | none =>
       refine Oper.wp_faults (w1 := w5.drew) (g := 228) (args := #[.pointer (some ⟨rd, 0, none⟩), .int .i64 6]) (by go_simp; try rfl) (N := fun u w' => (∃ f, f ≠ 0 ∧ Ending.panicked u = Kaq f) ∧ Kept w5.heap.size [rd, rb] w5 w') (HB6.out.mono ?_) ?_
       ·rintro _ w6 ⟨⟨f, hf, rfl⟩, hk6⟩; exact ⟨_, rfl, ⟨f, hf, rfl⟩, hk6.of_drew⟩
       ·rintro u w6 ⟨hfu, hk6⟩; simp only [Exit.then]; refine Kag rfl ?_
        have hd : Kbd c S.data.toList i = none := by
         unfold Kbd; rw [HR1.out]; dsimp only; rw [HR2.out]; dsimp only; rw [HR5.out]; dsimp only; rw [HR6.out]
        rw [hd]; exact ⟨hfu, HK5.out.two hk6⟩
      | some vj =>
       obtain ⟨k, i6⟩ := vj; have hkl : k < 2 ^ 6 := Kcy HR6.out; refine Oper.wp_called (d := some 29) (w1 := w5.drew) (g := 228) (args := #[.pointer (some ⟨rd, 0, none⟩), .int .i64 6]) rfl (by go_simp; try rfl) (N := fun u w' => u = .int .u64 (k : Int) ∧ RdrAt rd rb S i6 { c with lead := ld, window := true } w' ∧ i6 ≤ 8 * S.size ∧ Kept w5.heap.size [rd, rb] w5 w') (HB6.out.mono ?_) ?_
       ·rintro _ w6 ⟨rfl, hq6, hi6, hk6⟩; exact ⟨_, rfl, rfl, hq6, hi6, hk6.of_drew⟩
       ·rintro _ w6 ⟨rfl, hq6, hi6, hk6⟩; have d7 : w6.cell? ⟨rd, 7, none⟩ = some (.int .i64 (ld : Int)) := hq6.cells.2.2.2.2.1; have d8 := hq6.cells.2.2.2.2.2.1; have z8 := hq6.cells.2.2.2.2.2.2.2 8; have HQ6 := Jh hq6; have HK6 := Jh (HK5.out.two hk6); clear hq6 hk6; refine ⟨fun _ => ⟨d7, trivial⟩, ?_⟩; simp only [Act.put, Ja, Jb, Jc]; have hkw : IntKind.i64.wrap (k : Int) = (k : Int) := by rw [IntKind.wrap_i64]; omega
        have hw63 : IntKind.i64.wrap (63 - (ld : Int)) = 63 - (ld : Int) := by rw [IntKind.wrap_i64]; omega
        have hwk : IntKind.i64.wrap (63 - (ld : Int) - (k : Int)) = 63 - (ld : Int) - (k : Int) := by rw [IntKind.wrap_i64]; omega
        refine Kac (i := 8) (by kernel_rfl) rfl rfl ?_; refine Oper.wp_ran (d := some 30) (w' := w6) (v := .int .i64 (k : Int)) rfl (by go_simp; try rfl) ⟨fun _ => ⟨d7, trivial⟩, ?_⟩; simp only [Act.put, Ja, Jb, Jc]; refine Kac (i := 9) (by kernel_rfl) rfl rfl ?_; refine Oper.wp_ran (d := some 31) (w' := w6) (v := .int .i64 (63 - (ld : Int) - (k : Int))) rfl (by go_simp; try rfl) ⟨fun _ => ⟨d7, trivial⟩, ?_⟩; simp only [Act.put, Ja, Jb, Jc]; refine Kay (i := 10) (by kernel_rfl) rfl rfl (by kernel_rfl) ?_; refine Oper.wp_ran (d := some 32) (w' := w6) (v := .pointer (some ⟨rd, 1, none⟩)) rfl (by go_simp; try rfl) ?_; simp only [Act.put, Ja, Jb, Jc]; refine Kay (i := 11) (by kernel_rfl) rfl rfl (by kernel_rfl) ?_; refine Oper.wp_ran (d := some 33) (w' := w6) (v := .pointer (some ⟨rd, 8, none⟩)) rfl (by go_simp; try rfl) ?_; simp only [Act.put, Ja, Jb, Jc]; refine Kay (i := 12) (by kernel_rfl) rfl rfl (by kernel_rfl) ?_; refine Oper.wp_skipped (w' := w6.setCell ⟨rd, 8, none⟩ (.int .i64 (63 - (ld : Int) - (k : Int)))) rfl (by go_simp; try rfl) ?_; simp only [Act.put, Ja, Jb, Jc]; refine Kao (by kernel_rfl) ?_ _
        have e8 : (w6.setCell ⟨rd, 8, none⟩ (.int .i64 (63 - (ld : Int) - (k : Int)))).cell? ⟨rd, 8, none⟩ = some (.int .i64 (63 - (ld : Int) - (k : Int))) := by
         have := (HQ6.out.r.set_ 8 (.int .i64 (63 - (ld : Int) - (k : Int)))).cell 8; exact this
        have e7 : (w6.setCell ⟨rd, 8, none⟩ (.int .i64 (63 - (ld : Int) - (k : Int)))).cell? ⟨rd, 9, none⟩ = some (.bool true) := (HQ6.out.r.set_ 8 (.int .i64 (63 - (ld : Int) - (k : Int)))).cell 9; have hk7 : Kept w.heap.size [rd, rb] w (w6.setCell ⟨rd, 8, none⟩ (.int .i64 (63 - (ld : Int) - (k : Int)))) := HK6.out.setCell (p := ⟨rd, 8, none⟩) (.inl (by simp)) _
        by_cases hle : ld + k ≤ 63
        ·obtain ⟨tl, htl⟩ : ∃ tl, 63 - ld - k = tl := ⟨_, rfl⟩; have hti : 63 - (ld : Int) - (k : Int) = (tl : Int) := by omega
         rw [hti] at e8 e7 hk7; rw [hti]; obtain ⟨d, hdd⟩ : ∃ d : Cst, { c with lead := ld, tail := tl, window := true } = d := ⟨_, rfl⟩
         have hq7 : RdrAt rd rb S i6 d (w6.setCell ⟨rd, 8, none⟩ (.int .i64 (tl : Int))) := by
          rw [← hdd]; exact HQ6.out.put 5 (.int .i64 (tl : Int)) { c with lead := ld, tail := tl, window := true } rfl
         obtain ⟨w7, hw7⟩ : ∃ w7, w6.setCell ⟨rd, 8, none⟩ (.int .i64 (tl : Int)) = w7 := ⟨_, rfl⟩; rw [hw7] at hk7 hq7; rw [hw7]; have HQ7 := Jh hq7; have HK7 := Jh hk7; have HTL := Jh htl; have HD := Jh hdd
         have c8 : w7.cell? ⟨rd, 8, none⟩ = some (.int .i64 (tl : Int)) := by
          have := hq7.cells.2.2.2.2.2.1; rw [← hdd] at this; exact this
         have c7' : w7.cell? ⟨rd, 7, none⟩ = some (.int .i64 (ld : Int)) := by
          have := hq7.cells.2.2.2.2.1; rw [← hdd] at this; exact this
         have c9 : w7.cell? ⟨rd, 9, none⟩ = some (.bool true) := by
          have := hq7.cells.2.2.2.2.2.2.1; rw [← hdd] at this; exact this
         have hdl : some (Value.int .i64 (d.lead : Int)) = some (.int .i64 (ld : Int)) := by rw [← hdd]
         have hdt : some (Value.int .i64 (d.tail : Int)) = some (.int .i64 (tl : Int)) := by rw [← hdd]
         have ge0 : decide ((0 : Int) ≤ (tl : Int)) = true := by rw [decide_eq_true_eq]; omega
         clear hw7 hk7 hq7 hS c7 d7 d8 z8 e8 e7 hti hwk htl hdd; have c7 := c7'; clear c7'; go_wp2_with fail
         refine (Kfb _ 21 w7).mono ?_; rintro _ _ ⟨rfl, rfl⟩; clear c9; obtain ⟨n, hn⟩ : ∃ n, k + 1 = n := ⟨_, rfl⟩; have htl := HTL.out; obtain ⟨r3, hr3⟩ : ∃ r3, readN S.data.toList i6 n = r3 := ⟨_, rfl⟩; have HB3 := Jh (fun w' (hb : RdrAt rd rb S i6 d w') => Kbt rd rb i6 n S d w' hb (by omega) hS_ hi6); unfold bitsR at HB3; simp only [hr3] at HB3; have HR3 := Jh (show readN S.data.toList i6 (k + 1) = r3 by rw [hn]; exact hr3); have HN := Jh hn; clear hr3; have e10 : n = 64 - ld - tl := by omega
         have e9 : IntKind.i64.wrap (IntKind.i64.wrap (64 - (ld : Int)) - (tl : Int)) = (n : Int) := by rw [IntKind.wrap_i64, IntKind.wrap_i64]; omega
         have htl : tl < 64 := by omega
         have hlc : ld ≤ 63 := by omega
         go_upto_region 8 with fail
         have hS : w7.drew.cell? ⟨rd, 7, none⟩ = some (.int .i64 (ld : Int)) ∧ w7.drew.cell? ⟨rd, 8, none⟩ = some (.int .i64 (tl : Int)) := ⟨c7, c8⟩; refine Kat (fun w' => w'.cell? ⟨rd, 7, none⟩ = some (.int .i64 (ld : Int)) ∧ w'.cell? ⟨rd, 8, none⟩ = some (.int .i64 (tl : Int))) 17 18 (by kernel_rfl) rfl ?_; rw [show Array.replicate 18 false = #[false, false, false, false, false, false, false, false, false, false, false, false, false, false, false, false, false, false] from rfl]; refine Kaa (i := 0) (d := some 47) rfl rfl (by kernel_rfl) (by kernel_rfl) (by kernel_rfl) rfl (fun _ _ _ h => h) (by rfl) (fun w => by go_simp; try rfl) (fun _ => hS) ?_; simp only [Act.put, Ja, Jb, Jc]; refine Kaa (i := 1) (d := some 48) rfl rfl (by kernel_rfl) (by kernel_rfl) (by kernel_rfl) rfl (fun _ _ _ h => h) (by rfl) (fun w => by go_simp; try rfl) (fun _ => hS) ?_; simp only [Act.put, Ja, Jb, Jc]; refine Kaa (i := 2) (d := some 49) rfl rfl (by kernel_rfl) (by kernel_rfl) (by kernel_rfl) rfl (fun _ _ _ h => h) (by rfl) (fun w => by go_simp; try rfl) (fun _ => hS) ?_; simp only [Act.put, Ja, Jb, Jc]; refine Kaa (i := 3) (d := some 50) rfl rfl (by kernel_rfl) (by kernel_rfl) (by kernel_rfl) rfl (fun _ _ _ h => h) (by rfl) (fun w => by go_simp; try rfl) (fun _ => hS) ?_; simp only [Act.put, Ja, Jb, Jc]; refine Kai (i := 4) (d := some 51) rfl rfl (by kernel_rfl) (by kernel_rfl) (by kernel_rfl) (by kernel_rfl) rfl (fun _ _ _ h => h) (.inl ⟨by rfl, fun w hw => by (obtain ⟨ha, hb⟩ := hw; go_simp; try rfl)⟩) hS ?_; simp only [Act.put, Ja, Jb, Jc]; refine Kaa (i := 5) (d := some 52) rfl rfl (by kernel_rfl) (by kernel_rfl) (by kernel_rfl) rfl (fun _ _ _ h => h) (by rfl) (fun w => by go_simp; try rfl) (fun _ => hS) ?_; simp only [Act.put, Ja, Jb, Jc]; refine Kaa (i := 6) (d := some 53) rfl rfl (by kernel_rfl) (by kernel_rfl) (by kernel_rfl) rfl (fun _ _ _ h => h) (by rfl) (fun w => by go_simp; try rfl) (fun _ => hS) ?_; simp only [Act.put, Ja, Jb, Jc]; refine Kaa (i := 7) (d := some 54) rfl rfl (by kernel_rfl) (by kernel_rfl) (by kernel_rfl) rfl (fun _ _ _ h => h) (by rfl) (fun w => by go_simp; try rfl) (fun _ => hS) ?_; simp only [Act.put, Ja, Jb, Jc]; refine Kaa (i := 8) (d := some 55) rfl rfl (by kernel_rfl) (by kernel_rfl) (by kernel_rfl) rfl (fun _ _ _ h => h) (by rfl) (fun w => by go_simp; try rfl) (fun _ => hS) ?_; simp only [Act.put, Ja, Jb, Jc]; refine Kai (i := 9) (d := some 56) rfl rfl (by kernel_rfl) (by kernel_rfl) (by kernel_rfl) (by kernel_rfl) rfl (fun _ _ _ h => h) (.inl ⟨by rfl, fun w hw => by (obtain ⟨ha, hb⟩ := hw; go_simp; try rfl)⟩) hS ?_; simp only [Act.put, Ja, Jb, Jc]; refine Kaa (i := 10) (d := some 57) rfl rfl (by kernel_rfl) (by kernel_rfl) (by kernel_rfl) rfl (fun _ _ _ h => h) (by rfl) (fun w => by go_simp; try rfl) (fun _ => hS) ?_; simp only [Act.put, Ja, Jb, Jc]; refine Kaa (i := 12) (d := some 59) rfl rfl (by kernel_rfl) (by kernel_rfl) (by kernel_rfl) rfl (fun _ _ _ h => h) (by rfl) (fun w => by go_simp; try rfl) (fun _ => hS) ?_; simp only [Act.put, Ja, Jb, Jc]; refine Kaa (i := 13) (d := some 60) rfl rfl (by kernel_rfl) (by kernel_rfl) (by kernel_rfl) rfl (fun _ _ _ h => h) (by rfl) (fun w => by go_simp; try rfl) (fun _ => hS) ?_; simp only [Act.put, Ja, Jb, Jc]
         refine Kaa (i := 14) (d := some 61) rfl rfl (by kernel_rfl) (by kernel_rfl) (by kernel_rfl) rfl (fun _ _ _ h => h) (by rfl) (fun w => by go_simp; try rfl) (fun _ => hS) ?_; simp only [Act.put, Ja, Jb, Jc]; refine Kai (i := 15) (d := some 62) rfl rfl (by kernel_rfl) (by kernel_rfl) (by kernel_rfl) (by kernel_rfl) rfl (fun _ _ _ h => h) (.inl ⟨by rfl, fun w hw => by (obtain ⟨ha, hb⟩ := hw; go_simp; try rfl)⟩) hS ?_; simp only [Act.put, Ja, Jb, Jc]; refine Kac (i := 11) (by kernel_rfl) rfl rfl ?_
         cases r3 with
         | none =>
          refine Oper.wp_faults (w1 := w7.drew) (g := 228) (args := #[.pointer (some ⟨rd, 0, none⟩), .int .i64 (n : Int)]) (by go_simp) (N := fun u w' => (∃ f, f ≠ 0 ∧ Ending.panicked u = Kaq f) ∧ Kept w7.heap.size [rd, rb] w7 w') ((HB3.out w7.drew ⟨HQ7.out.r, HQ7.out.b⟩).mono ?_) ?_
          ·rintro _ w4 ⟨⟨f, hf, rfl⟩, hk4⟩; exact ⟨_, rfl, ⟨f, hf, rfl⟩, hk4.of_drew⟩
          ·rintro u w4 ⟨hfu, hk4⟩; simp only [Exit.then]; refine Kag rfl ?_
           have hd : Kbd c S.data.toList i = none := by
            unfold Kbd; rw [HR1.out]; dsimp only; rw [HR2.out]; dsimp only; rw [HR5.out]; dsimp only; rw [HR6.out]; dsimp only; rw [if_pos hle, HR3.out]
           rw [hd]; exact ⟨hfu, HK7.out.two hk4⟩
         | some vj =>
          obtain ⟨v3, i3⟩ := vj; have hvn := Kcy HR3.out; refine Oper.wp_called (d := some 58) (w1 := w7.drew) (g := 228) (args := #[.pointer (some ⟨rd, 0, none⟩), .int .i64 (n : Int)]) rfl (by go_simp) (N := fun u w' => u = .int .u64 (v3 : Int) ∧ RdrAt rd rb S i3 d w' ∧ i3 ≤ 8 * S.size ∧ Kept w7.heap.size [rd, rb] w7 w') ((HB3.out w7.drew ⟨HQ7.out.r, HQ7.out.b⟩).mono ?_) ?_
          ·rintro _ w4 ⟨rfl, hq4, hi4, hk4⟩; exact ⟨_, rfl, rfl, hq4, hi4, hk4.of_drew⟩
          ·rintro _ w4 ⟨rfl, hq4, hi4, hk4⟩; refine ⟨fun _ => ⟨hq4.cells.2.2.2.2.1.trans hdl, hq4.cells.2.2.2.2.2.1.trans hdt⟩, ?_⟩; simp only [Act.put, Ja, Jb, Jc]
           have hd : Kbd c S.data.toList i = some (v3 <<< tl, d, i3) := by
            unfold Kbd; rw [HR1.out]; dsimp only; rw [HR2.out]; dsimp only; rw [HR5.out]; dsimp only; rw [HR6.out]; dsimp only; rw [if_pos hle, HR3.out]; dsimp only; rw [HTL.out, HD.out]
           have hlt : v3 <<< tl < 2 ^ 64 := (Kgp hc hd).1; have hsz : (v3 : Int) * (2 : Int) ^ tl = ((v3 <<< tl : Nat) : Int) := by rw [Nat.shiftLeft_eq]; simp
           obtain ⟨Z, hZ⟩ : ∃ Z, v3 <<< tl = Z := ⟨_, rfl⟩; rw [hZ] at hsz hd hlt
           have hsh : IntKind.u64.wrap ((v3 : Int) * (2 : Int) ^ tl) = (Z : Int) := by
            rw [hsz]; exact Kef _ (by omega) (by omega)
           clear hZ hlt hsz; refine Kac (i := 16) (by kernel_rfl) rfl rfl ?_; refine Oper.wp_ran (d := some 63) (w' := w4) (v := .int .u64 (Z : Int)) rfl (by go_simp; try rfl) ⟨fun _ => ⟨hq4.cells.2.2.2.2.1.trans hdl, hq4.cells.2.2.2.2.2.1.trans hdt⟩, ?_⟩; simp only [Act.put, Ja, Jb, Jc]; refine Kay (i := 17) (by kernel_rfl) rfl rfl (by kernel_rfl) ?_; refine Oper.wp_ran (d := some 2) (w' := w4) (v := .int .u64 (Z : Int)) rfl (by go_simp; try rfl) ?_; simp only [Act.put, Ja, Jb, Jc]; refine Kao (by kernel_rfl) ?_ _; clear c7 c8 hS; go_wp2_with fail
           go_ret
           exact ⟨rfl, hq4, hi4, HK7.out.two hk4⟩
        ·have ge0 : decide ((0 : Int) ≤ 63 - (ld : Int) - (k : Int)) = false := by rw [decide_eq_false_iff_not]; omega
         have ge1 : ¬ (0 : Int) ≤ 63 - (ld : Int) - (k : Int) := by omega
         have HK7 := Jh hk7; obtain ⟨zz, hzz⟩ : ∃ zz, 63 - (ld : Int) - (k : Int) = zz := ⟨_, rfl⟩; rw [hzz] at ge0 ge1 e7 e8 HK7; rw [hzz]; obtain ⟨w7, hw7⟩ : ∃ w7, w6.setCell ⟨rd, 8, none⟩ (.int .i64 zz) = w7 := ⟨_, rfl⟩; rw [hw7] at e7 e8 HK7; rw [hw7]; clear hw7 hk7 hS c7 d7 d8 z8 hwk hzz; go_wp2_with fail
         refine (Keg _ 21 w7).mono ?_; rintro _ _ ⟨rfl, rfl⟩; unfold Kaq; go_wp2_with fail
         refine Kag rfl ?_
         have hd : Kbd c S.data.toList i = none := by
          unfold Kbd; rw [HR1.out]; dsimp only; rw [HR2.out]; dsimp only; rw [HR5.out]; dsimp only; rw [HR6.out]; dsimp only; rw [if_neg hle]
         rw [hd]; exact ⟨⟨21, by decide, rfl⟩, HK7.out⟩
end
end Go.Proofs.YtdoiekknhnbepaaGreatDoor
