/- Merged (what the claim wants of): StgB, StoSave, StoWalksA, StoSave2. -/
import Derived.Test.YtfpgbhimgfdddaaGreatDoorWak01
import Derived.OrdersHeld
import Derived.Test.YtfpgbhimgfdddaaGreatDoorProg
import Derived.WalkKit
import Derived.Laws.StructEq
import Derived.Test.YtfpgbhimgfdddaaGreatDoorWak16
import Derived.Test.YtfpgbhimgfdddaaGreatDoorWak14
import Derived.Test.YtfpgbhimgfdddaaGreatDoorWak15
import Derived.Test.YtfpgbhimgfdddaaGreatDoorShelf
import Derived.Lib.LaidTab
set_option linter.unusedVariables false
set_option linter.unusedSimpArgs false
/- RegInv, RegTake, RegTake2, ResRow, StoArr together. -/
namespace Go.Proofs.YtfpgbhimgfdddaaGreatDoor
section
open Go.RowKit

/-- Each operation stands behind all that it waits for. -/
def waitsB (ops : Array Oper) : Bool := (List.range ops.size).all fun i => match ops[i]? with | none => true | some o => o.guard.isNone && o.after.all fun e => decide (e.on < i)
theorem waits_spec {ops : Array Oper} (h : waitsB ops = true) {i : Nat} {o : Oper} (ho : ops[i]? = some o) : o.guard = none ∧ ∀ e ∈ o.after, e.on < i := by
  have hi : i < ops.size := (Array.getElem?_eq_some_iff.1 ho).1
  have h1 := List.all_eq_true.1 h i (List.mem_range.2 hi)
  simp only [ho, Bool.and_eq_true] at h1
  refine ⟨by simpa using h1.1, fun e he => ?_⟩
  have := Array.all_eq_true_iff_forall_mem.1 h1.2 e he
  simpa using this
theorem count_set : ∀ {l : List Bool} {i : Nat}, l[i]? = some false → (l.set i true).count false + 1 = l.count false
  | b :: l, 0, h => by
    have hb : b = false := by simpa using h
    subst hb
    simp
  | b :: l, i + 1, h => by
    have := count_set (l := l) (i := i) (by simpa using h)
    rw [List.set_cons_succ, List.count_cons, List.count_cons]
    omega
section
variable {P : Program} {ops : Array Oper}
theorem wpAny_inv {Q : Exit → Act → World → Prop} (hw : waitsB ops = true) (I : Array Bool → Act → World → Prop)
    (hs : ∀ L a w i o, I L a w → ops[i]? = some o → L.getD i true = false → (∀ e ∈ o.after, Region.binds .any e = true → L.getD e.on false = true) → o.wp P a w (fun a' w' => I (L.setIfInBounds i true) a' w') Q)
    (he : ∀ L a w, I L a w → (∀ i, i < ops.size → L.getD i false = true) → Q .normal a w) :
    ∀ (f : Nat) (L : Array Bool) (a : Act) (w : World), L.size = ops.size → L.toList.count false = f → I L a w → wpAny P .any ops Q f L a w := by
  have hend : ∀ (L : Array Bool), L.size = ops.size → Region.ready .any ops L = [] → ∀ i, i < ops.size → L.getD i false = true := by
    intro L hL hr i
    induction i using Nat.strongRecOn with
    | _ i ih =>
      intro hi
      apply Classical.byContradiction
      intro hf
      have hil : i < L.size := by omega
      have hfi : L.getD i true = false := by
        rw [Array.getD_eq_getD_getElem?, Array.getElem?_eq_getElem hil] at hf ⊢
        simpa using hf
      have hmem : i ∈ Region.ready .any ops L := mem_ready.2 ⟨hfi, ops[i], Array.getElem?_eq_getElem hi, fun e he _ => by
        have hlt := (waits_spec hw (Array.getElem?_eq_getElem hi)).2 e he
        exact ih e.on hlt (by omega)⟩
      rw [hr] at hmem
      cases hmem
  intro f
  induction f with
  | zero =>
    intro L a w hL hc hI
    have hall : ∀ i, i < ops.size → L.getD i false = true := by
      intro i hi
      have hil : i < L.size := by omega
      have hb : L[i] ≠ false := fun e => by
        have : false ∈ L.toList := by rw [← e]; exact Array.getElem_mem_toList hil
        exact absurd (List.count_pos_iff.2 this) (by omega)
      rw [Array.getD_eq_getD_getElem?, Array.getElem?_eq_getElem hil]
      simpa using hb
    refine ⟨?_, he L a w hI hall⟩
    cases hr : Region.ready .any ops L with
    | nil => rfl
    | cons j r =>
      have hj : j ∈ Region.ready .any ops L := by rw [hr]; exact List.mem_cons_self ..
      obtain ⟨h1, o, ho, _⟩ := mem_ready.1 hj
      have hjo := (Array.getElem?_eq_some_iff.1 ho).1
      have h2 := hall j hjo
      have hjl : j < L.size := by omega
      rw [Array.getD_eq_getD_getElem?, Array.getElem?_eq_getElem hjl] at h1 h2
      simp at h1 h2
      rw [h1] at h2
      cases h2
  | succ f ih =>
    intro L a w hL hc hI
    refine ⟨fun hr => he L a w hI (hend L hL hr), fun i hi => ?_⟩
    obtain ⟨h1, o, ho, h2⟩ := mem_ready.1 hi
    have hio := (Array.getElem?_eq_some_iff.1 ho).1
    have hil : i < L.size := by omega
    have hg := (waits_spec hw ho).1
    unfold wpOp
    simp only [ho]
    rw [if_pos (by simp [Region.wanted, hg])]
    left
    have hset : (L.setIfInBounds i true).toList = L.toList.set i true := by simp [Array.toList_setIfInBounds]
    have hfi : L.toList[i]? = some false := by
      rw [Array.getD_eq_getD_getElem?, Array.getElem?_eq_getElem hil] at h1
      rw [Array.getElem?_toList, Array.getElem?_eq_getElem hil]
      simpa using h1
    refine Oper.wp_mono (fun a' w' h' => ih _ a' w' (by simpa using hL) ?_ h') (hs L a w i o hI ho h1 h2)
    have := count_set hfi
    rw [hset]
    omega
theorem wp_region_inv {id : Nat} {Q : Exit → Act → World → Prop} {a : Act} {w : World} (hm : P.follows .mixedOrders = true) (hw : waitsB ops = true) (I : Array Bool → Act → World → Prop)
    (h0 : I (Array.replicate ops.size false) a w.drew)
    (hs : ∀ L a w i o, I L a w → ops[i]? = some o → L.getD i true = false → (∀ e ∈ o.after, Region.binds .any e = true → L.getD e.on false = true) → o.wp P a w (fun a' w' => I (L.setIfInBounds i true) a' w') Q)
    (he : ∀ L a w, I L a w → (∀ i, i < ops.size → L.getD i false = true) → Q .normal a w) : (Code.region id ops true).wp P Q a w :=
  wp_region_any hm (wpAny_inv hw I hs he _ _ _ _ (by simp) (by simp) h0)
theorem count_take {n i : Nat} {l : List Bool} (hi : i < n) (h : l[i]? = some false) : ((l.set i true).take n).count false + 1 = (l.take n).count false := by
  rw [List.take_set]
  exact count_set (by rw [List.getElem?_take_of_lt hi]; exact h)
/-- The first n operations come up by the invariant; what stands behind them has one order. -/
theorem wpAny_inv_tail {Q : Exit → Act → World → Prop} {l : List Oper} (n : Nat) (hw : waitsB l.toArray = true) (hsk : Region.sinkB .any l.toArray n = true) (hch : Region.chainB .any l.toArray n = true) (hn : n < l.toArray.size)
    (hsq : Region.seqB .any l.toArray (l.length - n) n (Array.replicate n true ++ Array.replicate (l.length - n) false) = true) (I : Array Bool → Act → World → Prop)
    (hs : ∀ L a w i o, i < n → I L a w → l.toArray[i]? = some o → L.getD i true = false → (∀ e ∈ o.after, Region.binds .any e = true → L.getD e.on false = true) → o.wp P a w (fun a' w' => I (L.setIfInBounds i true) a' w') Q)
    (he : ∀ L a w, I L a w → (∀ i, i < n → L.getD i false = true) → wpList P l.toArray Q (l.drop n) a w) :
    ∀ (f : Nat) (L : Array Bool) (a : Act) (w : World), HeadInv .any l.toArray n L → (L.toList.take n).count false = f → I L a w → wpAny P .any l.toArray Q (f + (l.length - n)) L a w := by
  have hlen : l.toArray.size = l.length := by simp
  intro f
  induction f with
  | zero =>
    intro L a w inv hc hI
    have hall : ∀ i, i < n → L.getD i false = true := by
      intro i hi
      have hil : i < L.size := by rw [inv.size]; omega
      have hb : L[i] ≠ false := fun e => by
        have hm : false ∈ L.toList.take n := by
          rw [← e]
          refine List.mem_iff_getElem?.2 ⟨i, ?_⟩
          rw [List.getElem?_take_of_lt hi, Array.getElem?_toList, Array.getElem?_eq_getElem hil]
        exact absurd (List.count_pos_iff.2 hm) (by omega)
      rw [Array.getD_eq_getD_getElem?, Array.getElem?_eq_getElem hil]
      simpa using hb
    have hL : L = Array.replicate n true ++ Array.replicate (l.length - n) false := by
      apply Array.ext
      · rw [inv.size]; simp; omega
      · intro i h1 h2
        rcases Nat.lt_or_ge i n with hi | hi
        · have h3 := hall i hi
          rw [Array.getD_eq_getD_getElem?, Array.getElem?_eq_getElem h1] at h3
          rw [Array.getElem_append_left (by simpa using hi)]
          simpa using h3
        · have h3 := inv.tail i hi (by rw [← inv.size]; exact h1)
          rw [Array.getD_eq_getD_getElem?, Array.getElem?_eq_getElem h1] at h3
          rw [Array.getElem_append_right (by simpa using hi)]
          simpa using h3
    have := wpAny_of_seq (P := P) (md := .any) (ops := l.toArray) (Q' := Q) (l.drop n) n L a w (fun j => by simp [List.getElem?_drop]) (by rw [List.length_drop, hL]; exact hsq) (he L a w hI hall)
    rw [List.length_drop] at this
    rw [Nat.zero_add]
    exact this
  | succ f ih =>
    intro L a w inv hc hI
    obtain ⟨i0, hi0, hf0⟩ : ∃ i0, i0 < n ∧ L.getD i0 true = false := by
      have hpos : 0 < (L.toList.take n).count false := by omega
      obtain ⟨i0, hi0⟩ := List.mem_iff_getElem?.1 (List.count_pos_iff.1 hpos)
      have hl := (List.getElem?_eq_some_iff.1 hi0).1
      have hin : i0 < n := by rw [List.length_take] at hl; omega
      rw [List.getElem?_take_of_lt hin, Array.getElem?_toList] at hi0
      exact ⟨i0, hin, by rw [Array.getD_eq_getD_getElem?, hi0]; rfl⟩
    have hready : ∃ j, j ∈ Region.ready .any l.toArray L := by
      have key : ∀ i, i < n → L.getD i true = false → ∃ j, j ∈ Region.ready .any l.toArray L := by
        intro i
        induction i using Nat.strongRecOn with
        | _ i ih2 =>
          intro hi hf
          have hio : i < l.toArray.size := by omega
          by_cases hr : i ∈ Region.ready .any l.toArray L
          · exact ⟨i, hr⟩
          · have hex : ∃ e ∈ (l.toArray[i]).after, L.getD e.on false ≠ true := by
              apply Classical.byContradiction
              intro hno
              refine hr (mem_ready.2 ⟨hf, _, Array.getElem?_eq_getElem hio, fun e he _ => ?_⟩)
              apply Classical.byContradiction
              intro h5
              exact hno ⟨e, he, h5⟩
            obtain ⟨e, he, h5⟩ := hex
            have hlt := (waits_spec hw (Array.getElem?_eq_getElem hio)).2 e he
            refine ih2 e.on hlt (by omega) ?_
            have hel : e.on < L.size := by rw [inv.size]; omega
            rw [Array.getD_eq_getD_getElem?, Array.getElem?_eq_getElem hel] at h5 ⊢
            simpa using h5
      exact key i0 hi0 hf0
    rw [show f + 1 + (l.length - n) = (f + (l.length - n)) + 1 by omega]
    refine ⟨fun hr => (by obtain ⟨j, hj⟩ := hready; rw [hr] at hj; cases hj), fun i hi => ?_⟩
    have hin : i < n := Nat.lt_of_not_le fun h => tail_waits hsk hch hn inv _ i0 rfl hi0 hf0 i h hi
    obtain ⟨h1, o, ho, h2⟩ := mem_ready.1 hi
    have hio := (Array.getElem?_eq_some_iff.1 ho).1
    have hil : i < L.size := by rw [inv.size]; exact hio
    have hg := (waits_spec hw ho).1
    unfold wpOp
    simp only [ho]
    rw [if_pos (by simp [Region.wanted, hg])]
    left
    have hset : (L.setIfInBounds i true).toList = L.toList.set i true := by simp [Array.toList_setIfInBounds]
    have hfi : L.toList[i]? = some false := by
      rw [Array.getD_eq_getD_getElem?, Array.getElem?_eq_getElem hil] at h1
      rw [Array.getElem?_toList, Array.getElem?_eq_getElem hil]
      simpa using h1
    refine Oper.wp_mono (fun a' w' h' => ih _ a' w' (inv.set hi hin) ?_ h') (hs L a w i o hin hI ho h1 h2)
    have := count_take hin hfi
    rw [hset]
    omega
theorem wp_region_inv_tail {id : Nat} {Q : Exit → Act → World → Prop} {a : Act} {w : World} {l : List Oper} (n : Nat) (hm : P.follows .mixedOrders = true) (hw : waitsB l.toArray = true) (hsk : Region.sinkB .any l.toArray n = true) (hch : Region.chainB .any l.toArray n = true) (hn : n < l.toArray.size)
    (hsq : Region.seqB .any l.toArray (l.length - n) n (Array.replicate n true ++ Array.replicate (l.length - n) false) = true) (I : Array Bool → Act → World → Prop)
    (h0 : I (Array.replicate l.toArray.size false) a w.drew)
    (hs : ∀ L a w i o, i < n → I L a w → l.toArray[i]? = some o → L.getD i true = false → (∀ e ∈ o.after, Region.binds .any e = true → L.getD e.on false = true) → o.wp P a w (fun a' w' => I (L.setIfInBounds i true) a' w') Q)
    (he : ∀ L a w, I L a w → (∀ i, i < n → L.getD i false = true) → wpList P l.toArray Q (l.drop n) a w) : (Code.region id l.toArray true).wp P Q a w := by
  have inv0 : HeadInv .any l.toArray n (Array.replicate l.toArray.size false) :=
    ⟨by simp, fun j oj _ hl => (by rw [getD_replicate_false] at hl; cases hl), fun t _ ht => getD_in (by simpa using ht) (getD_replicate_false _ _)⟩
  have h := wpAny_inv_tail (P := P) n hw hsk hch hn hsq I hs he _ _ a _ inv0 rfl h0
  have hsz : l.toArray.size = l.length := by simp
  have hc : ((Array.replicate l.toArray.size false).toList.take n).count false = n := by
    rw [Array.toList_replicate, List.take_replicate, List.count_replicate_self]
    omega
  rw [hc, show n + (l.length - n) = l.toArray.size by omega] at h
  exact wp_region_any hm h
end
end

section
open Go.RowKit

section
variable {P : Program} {ops : Array Oper} {Q : Exit → Act → World → Prop} {md : Region.Mode} {S : World → Prop} {k : Nat}
/-- Whatever order is picked; S holds behind every operation up to the k-th. -/
def wpAnyK (P : Program) (md : Region.Mode) (ops : Array Oper) (Q : Exit → Act → World → Prop) (S : World → Prop) (k : Nat) : Nat → Array Bool → Act → World → Prop
  | 0, L, a, w => Region.ready md ops L = [] ∧ Q .normal a w
  | f + 1, L, a, w => (Region.ready md ops L = [] → Q .normal a w) ∧ ∀ i ∈ Region.ready md ops L, wpOp P ops Q i (fun a' w' => ((L.setIfInBounds i true).getD k false = false → S w') ∧ wpAnyK P md ops Q S k f (L.setIfInBounds i true) a' w') a w
theorem wpAny_of_K : ∀ (f : Nat) (L : Array Bool) (a : Act) (w : World), wpAnyK P md ops Q S k f L a w → wpAny P md ops Q f L a w
  | 0, _, _, _, h => h
  | f + 1, _, _, _, h => ⟨h.1, fun i hi => wpOp_mono (fun a' w' h' => wpAny_of_K f _ a' w' h'.2) (h.2 i hi)⟩
theorem wpAnyK_first {i : Nat} {oi : Oper} {v : Value} (hi : ops[i]? = some oi) (hsel : ∀ (j : Nat) (o : Oper) cs b, ops[j]? = some o → o.op ≠ .select cs b)
    (hQ : ∀ c a w, Q (.panic c) (a.put oi.dst v) w → Q (.panic c) a w) (hki : k ≠ i) (hkw : ∀ ok, ops[k]? = some ok → ∃ e ∈ ok.after, Region.binds md e = true ∧ e.on = i) :
    ∀ (f : Nat) (L : Array Bool) (a : Act) (w : World),
      (∀ j oj, ops[j]? = some oj → j ≠ i → L.getD j true = false → (∀ e ∈ oj.after, Region.binds md e = true → e.on ≠ i) → oi.apart ops oj = true) →
      i ∈ Region.ready md ops L → YieldsIf P ops S oi v a → L.getD k false = false → S w →
      wpAnyK P md ops Q S k f (L.setIfInBounds i true) (a.put oi.dst v) w → wpAnyK P md ops Q S k (f + 1) L a w := by
  intro f
  induction f with
  | zero =>
    intro L a w hfree hr hy hl hS H
    refine ⟨fun h => (by rw [h] at hr; cases hr), fun j hj => ?_⟩
    by_cases hji : j = i
    · subst hji; exact hy.wpOp hi hS ⟨fun _ => hS, H⟩
    · have := ready_mono hj hji
      rw [H.1] at this
      cases this
  | succ f ih =>
    intro L a w hfree hr hy hl hS H
    refine ⟨fun h => (by rw [h] at hr; cases hr), fun j hj => ?_⟩
    by_cases hji : j = i
    · subst hji; exact hy.wpOp hi hS ⟨fun _ => hS, H⟩
    · have h1 := H.2 j (ready_mono hj hji)
      obtain ⟨hjun, oj, hoj, hall⟩ := mem_ready.1 hj
      have hnot : ∀ e ∈ oj.after, Region.binds md e = true → e.on ≠ i := fun e he hb heq => by
        have h1 := hall e he hb
        have h0 := (mem_ready.1 hr).1
        rw [heq] at h1
        rcases Nat.lt_or_ge i L.size with h' | h'
        · simp [h'] at h0 h1; rw [h0] at h1; cases h1
        · simp [Array.getElem?_eq_none h'] at h1
      have hjk : j ≠ k := by
        rintro rfl
        obtain ⟨e, he, hb, heq⟩ := hkw oj hoj
        exact hnot e he hb heq
      have h2 := wpOp_putIf hoj (hfree j oj hoj hji hjun hnot) (fun cs b => hsel i oi cs b hi) (fun cs b => hsel j oj cs b hoj) hQ hy h1
      have hfree' : ∀ k ok, ops[k]? = some ok → k ≠ i → (L.setIfInBounds j true).getD k true = false →
          (∀ e ∈ ok.after, Region.binds md e = true → e.on ≠ i) → oi.apart ops ok = true := fun k ok hk hki hun hno => by
        refine hfree k ok hk hki ?_ hno
        by_cases hjk : j = k
        · subst hjk; exact hjun
        · rw [getD_set_ne true hjk] at hun; exact hun
      have hl1 : (L.setIfInBounds j true).getD k false = false := by rw [getD_set_ne false hjk]; exact hl
      have hl2 : ((L.setIfInBounds i true).setIfInBounds j true).getD k false = false := by rw [getD_set_ne false hjk, getD_set_ne false (Ne.symm hki)]; exact hl
      refine wpOp_mono (fun a' w' h3 => ⟨fun _ => h3.2.1 hl2, ih (L.setIfInBounds j true) a' w' hfree' (ready_mono hr (Ne.symm hji)) h3.1 hl1 (h3.2.1 hl2) ?_⟩) h2
      rw [Array.setIfInBounds_comm _ _ hji]
      exact h3.2.2
/-- An operation that yields in any world. -/
theorem wpAnyK_firstP {i : Nat} {oi : Oper} {v : Value} (hi : ops[i]? = some oi) (hsel : ∀ (j : Nat) (o : Oper) cs b, ops[j]? = some o → o.op ≠ .select cs b)
    (hQ : ∀ c a w, Q (.panic c) (a.put oi.dst v) w → Q (.panic c) a w) (hki : k ≠ i) :
    ∀ (f : Nat) (L : Array Bool) (a : Act) (w : World),
      (∀ j oj, ops[j]? = some oj → j ≠ i → L.getD j true = false → (∀ e ∈ oj.after, Region.binds md e = true → e.on ≠ i) → oi.apart ops oj = true) →
      i ∈ Region.ready md ops L → YieldsIf P ops (fun _ => True) oi v a → (L.getD k false = false → S w) →
      wpAnyK P md ops Q S k f (L.setIfInBounds i true) (a.put oi.dst v) w → wpAnyK P md ops Q S k (f + 1) L a w := by
  have same : ∀ L : Array Bool, (L.setIfInBounds i true).getD k false = L.getD k false := fun L => getD_set_ne false (Ne.symm hki)
  intro f
  induction f with
  | zero =>
    intro L a w hfree hr hy hS H
    refine ⟨fun h => (by rw [h] at hr; cases hr), fun j hj => ?_⟩
    by_cases hji : j = i
    · subst hji; exact hy.wpOp hi trivial ⟨fun h => hS (by rw [same] at h; exact h), H⟩
    · have := ready_mono hj hji
      rw [H.1] at this
      cases this
  | succ f ih =>
    intro L a w hfree hr hy hS H
    refine ⟨fun h => (by rw [h] at hr; cases hr), fun j hj => ?_⟩
    by_cases hji : j = i
    · subst hji; exact hy.wpOp hi trivial ⟨fun h => hS (by rw [same] at h; exact h), H⟩
    · have h1 := H.2 j (ready_mono hj hji)
      obtain ⟨hjun, oj, hoj, hall⟩ := mem_ready.1 hj
      have hnot : ∀ e ∈ oj.after, Region.binds md e = true → e.on ≠ i := fun e he hb heq => by
        have h1 := hall e he hb
        have h0 := (mem_ready.1 hr).1
        rw [heq] at h1
        rcases Nat.lt_or_ge i L.size with h' | h'
        · simp [h'] at h0 h1; rw [h0] at h1; cases h1
        · simp [Array.getElem?_eq_none h'] at h1
      have h2 := wpOp_putIf hoj (hfree j oj hoj hji hjun hnot) (fun cs b => hsel i oi cs b hi) (fun cs b => hsel j oj cs b hoj) hQ hy h1
      have hfree' : ∀ k ok, ops[k]? = some ok → k ≠ i → (L.setIfInBounds j true).getD k true = false →
          (∀ e ∈ ok.after, Region.binds md e = true → e.on ≠ i) → oi.apart ops ok = true := fun k ok hk hki hun hno => by
        refine hfree k ok hk hki ?_ hno
        by_cases hjk : j = k
        · subst hjk; exact hjun
        · rw [getD_set_ne true hjk] at hun; exact hun
      have hl2 : ((L.setIfInBounds i true).setIfInBounds j true).getD k false = (L.setIfInBounds j true).getD k false := by
        rw [Array.setIfInBounds_comm _ _ (Ne.symm hji), same]
      refine wpOp_mono (fun a' w' h3 => ⟨fun h => h3.2.1 (by rw [hl2]; exact h), ih (L.setIfInBounds j true) a' w' hfree' (ready_mono hr (Ne.symm hji)) h3.1 (fun h => h3.2.1 (by rw [hl2]; exact h)) ?_⟩) h2
      rw [Array.setIfInBounds_comm _ _ hji]
      exact h3.2.2
/-- The k-th operation waits for the i-th. -/
def waitsFor (md : Region.Mode) (ops : Array Oper) (k i : Nat) : Bool := k != i && match ops[k]? with | some ok => ok.after.any fun e => Region.binds md e && e.on == i | none => true
theorem wpAnyK_take {i : Nat} {oi : Oper} {v : Value} {f : Nat} {L : Array Bool} {a : Act} {w : World} {d : Option Tmp} (hi : ops[i]? = some oi) (hd : oi.dst = d)
    (hs : Region.noSelect ops = true) (hf : Region.free md ops L i = true) (hr : (Region.ready md ops L).contains i = true) (hkw : waitsFor md ops k i = true) (hl : L.getD k false = false)
    (hQ : ∀ c a w, Q (.panic c) (a.put oi.dst v) w → Q (.panic c) a w) (hy : YieldsIf P ops S oi v a) (hS : S w)
    (h : wpAnyK P md ops Q S k f (L.setIfInBounds i true) (a.put d v) w) : wpAnyK P md ops Q S k (f + 1) L a w := by
  subst hd
  simp only [waitsFor, Bool.and_eq_true, bne_iff_ne, ne_eq] at hkw
  refine wpAnyK_first hi (Region.noSelect_spec hs) hQ hkw.1 (fun ok hok => ?_) f L a w (Region.free_spec hi hf) (by simpa using hr) hy hl hS h
  have h2 := hkw.2
  rw [hok] at h2
  obtain ⟨e, he, hb⟩ := Array.any_eq_true'.1 h2
  simp only [Bool.and_eq_true, beq_iff_eq] at hb
  exact ⟨e, he, hb.1, hb.2⟩
theorem wpAnyK_pure {i : Nat} {oi : Oper} {v : Value} {f : Nat} {L : Array Bool} {a : Act} {w : World} {d : Option Tmp} (hi : ops[i]? = some oi) (hd : oi.dst = d)
    (hs : Region.noSelect ops = true) (hf : Region.free md ops L i = true) (hr : (Region.ready md ops L).contains i = true) (hki : (k != i) = true)
    (hQ : ∀ c a w, Q (.panic c) (a.put oi.dst v) w → Q (.panic c) a w) (hw : Region.wanted oi (yielded ops a.tmps) = true) (hy : ∀ w, (execOp a.eval oi).run P w = .ok (.value v) w) (hS : L.getD k false = false → S w)
    (h : wpAnyK P md ops Q S k f (L.setIfInBounds i true) (a.put d v) w) : wpAnyK P md ops Q S k (f + 1) L a w := by
  subst hd
  exact wpAnyK_firstP hi (Region.noSelect_spec hs) hQ (by simpa using hki) f L a w (Region.free_spec hi hf) (by simpa using hr) (.inl ⟨hw, fun w _ => hy w⟩) hS h
/-- One operation, behind a wall. -/
@[irreducible] def OpW (o : Oper) (P : Program) (a : Act) (w : World) (K : Act → World → Prop) (Q : Exit → Act → World → Prop) : Prop := o.wp P a w K Q
theorem OpW.of {o : Oper} {P : Program} {a : Act} {w : World} {K : Act → World → Prop} {Q : Exit → Act → World → Prop} (h : o.wp P a w K Q) : OpW o P a w K Q := by
  unfold OpW
  exact h
theorem OpW.out {o : Oper} {P : Program} {a : Act} {w : World} {K : Act → World → Prop} {Q : Exit → Act → World → Prop} (h : OpW o P a w K Q) : o.wp P a w K Q := by
  unfold OpW at h
  exact h
/-- One alone may come up. -/
theorem wpAnyK_only {i : Nat} {o : Oper} {f : Nat} {L : Array Bool} {a : Act} {w : World} (hr0 : (Region.ready md ops L == [i]) = true) (ho : ops[i]? = some o) (hg : o.guard = none)
    (h : OpW o P a w (fun a' w' => ((L.setIfInBounds i true).getD k false = false → S w') ∧ wpAnyK P md ops Q S k f (L.setIfInBounds i true) a' w') Q) : wpAnyK P md ops Q S k (f + 1) L a w := by
  have hr : Region.ready md ops L = [i] := eq_of_beq hr0
  refine ⟨fun h0 => absurd (hr.symm.trans h0) (by simp), fun j hj => ?_⟩
  rw [hr] at hj
  obtain rfl : j = i := by simpa using hj
  unfold wpOp
  simp only [ho]
  rw [if_pos (by simp [Region.wanted, hg])]
  exact .inl h.out
/-- One alone may come up, the k-th or one behind it. -/
theorem wpAnyK_after {i : Nat} {o : Oper} {f : Nat} {L : Array Bool} {a : Act} {w : World} (hr : (Region.ready md ops L == [i]) = true) (ho : ops[i]? = some o) (hg : o.guard = none) (hL : (L.setIfInBounds i true).getD k false = true)
    (h : OpW o P a w (fun a' w' => wpAnyK P md ops Q S k f (L.setIfInBounds i true) a' w') Q) : wpAnyK P md ops Q S k (f + 1) L a w :=
  wpAnyK_only hr ho hg (.of (Oper.wp_mono (fun a' w' h' => ⟨fun e => absurd (hL.symm.trans e) (by simp), h'⟩) h.out))
theorem wpAnyK_done {L : Array Bool} {a : Act} {w : World} (hr : (Region.ready md ops L == []) = true) (h : Q .normal a w) : ∀ f, wpAnyK P md ops Q S k f L a w
  | 0 => ⟨eq_of_beq hr, h⟩
  | _ + 1 => ⟨fun _ => h, by rw [eq_of_beq hr]; simp⟩
theorem wp_region_K {id : Nat} {a : Act} {w : World} (S : World → Prop) (k n : Nat) (hm : P.follows .mixedOrders = true) (hn : ops.size = n)
    (h : wpAnyK P .any ops Q S k n (Array.replicate n false) a w.drew) : (Code.region id ops true).wp P Q a w := by
  subst hn
  exact wp_region_any hm (wpAny_of_K _ _ _ _ h)
/-- An operation that leaves one value and another world. -/
theorem Oper.wp_ran {o : Oper} {a : Act} {w w' : World} {v : Value} {d : Option Tmp} {K : Act → World → Prop} (hd : o.dst = d) (h : (execOp a.eval o).run P w = .ok (.value v) w') (hK : K (a.put d v) w') : OpW o P a w K Q := .of <| by
  subst hd
  unfold Oper.wp
  rw [h]
  exact hK
theorem Oper.wp_skipped {o : Oper} {a : Act} {w w' : World} {K : Act → World → Prop} (hd : o.dst = none) (h : (execOp a.eval o).run P w = .ok .skip w') (hK : K (a.put none undef) w') : OpW o P a w K Q := .of <| by
  unfold Oper.wp
  rw [h]
  show K (a.put o.dst undef) w'
  rw [hd]
  exact hK
/-- A call by its contract. -/
theorem Oper.wp_called {o : Oper} {a : Act} {w w1 : World} {g : FuncId} {args : Array Value} {d : Option Tmp} {K : Act → World → Prop} (hd : o.dst = d) (h : (execOp a.eval o).run P w = .ok (.enter g args) w1) {N : Value → World → Prop}
    (hc : Calls P g args w1 fun e w' => ∃ u, e = .returned u ∧ N u w') (hK : ∀ u w', N u w' → K (a.put d u) w') : OpW o P a w K Q := .of <| by
  subst hd
  unfold Oper.wp
  rw [h]
  refine Calls.mono hc ?_
  rintro e w' ⟨u, rfl, hn⟩
  exact hK u w' hn
end
end

section
open Go.RowKit
section
variable {P : Program} {ops : Array Oper} {Q : Exit → Act → World → Prop} {md : Region.Mode} {S : World → Prop} {k : Nat}
/-- The same, behind a guard that is met. -/
theorem wpAnyK_onlyW {i : Nat} {o : Oper} {f : Nat} {L : Array Bool} {a : Act} {w : World} (hr0 : (Region.ready md ops L == [i]) = true) (ho : ops[i]? = some o) (hw : Region.wanted o (yielded ops a.tmps) = true)
    (h : OpW o P a w (fun a' w' => ((L.setIfInBounds i true).getD k false = false → S w') ∧ wpAnyK P md ops Q S k f (L.setIfInBounds i true) a' w') Q) : wpAnyK P md ops Q S k (f + 1) L a w := by
  have hr : Region.ready md ops L = [i] := eq_of_beq hr0
  refine ⟨fun h0 => absurd (hr.symm.trans h0) (by simp), fun j hj => ?_⟩
  rw [hr] at hj
  obtain rfl : j = i := by simpa using hj
  unfold wpOp
  simp only [ho]
  rw [if_pos hw]
  exact .inl h.out
end
end

section
open Go.RowKit

theorem results_cell0 {fn : Func} {p : Tmp} {t : TypeId} (h : fn.results = #[.cell p t]) (tmps : Array Value) (w : World) (a : Addr) (x : Value)
    (hp : tmps.getD p undef = .pointer (some a)) (hx : (loadVar t a).run Tryz.prog w = .ok x w) :
    (results fn tmps).run Tryz.prog w = .ok x w := by
  have hp' : tmps[p]?.getD undef = .pointer (some a) := by simpa using hp
  simp only [results, h]
  simp [Sem.run_bind, Result.andThen, asAddr, hp', hx]
theorem results_cell1 {fn : Func} {p q : Tmp} {t : TypeId} (h : fn.results = #[.cell p t, .tmp q]) (tmps : Array Value) (w : World) (a : Addr) (x : Value)
    (hp : tmps.getD p undef = .pointer (some a)) (hx : (loadVar t a).run Tryz.prog w = .ok x w) :
    (results fn tmps).run Tryz.prog w = .ok (.tuple #[x, tmps.getD q undef]) w := by
  have hp' : tmps[p]?.getD undef = .pointer (some a) := by simpa using hp
  simp only [results, h]
  simp [Sem.run_bind, Result.andThen, asAddr, hp', hx]
end

section
open Go.RowKit
end
end Go.Proofs.YtfpgbhimgfdddaaGreatDoor

/- The walks of layer 20 (store): a block's files are written (printed by gen_stosave.py). -/
namespace Go.Proofs.YtfpgbhimgfdddaaGreatDoor
open Go.RowKit Go.Shelf Go.Sort
attribute [local go_sem ↓] Go.wp_at_zero Go.wp_at_succ
attribute [local go_sem] Later.cell Later.frozen

def fsV (FA FB FC : ByteArray) : Value := .agg #[.string FA, .string FB, .string FC]
/-- What write keeps: the texts, their names, where they lie. -/
structure WrB (g bn bt : Nat) (FA FB FC : ByteArray) (w : World) (R : Nat → Nat) : Prop where
  bg : Blk w g 57 #[.string FA, .string FB, .string FC]
  kn : Blk w bn 152 #[.string ⟨#[47, 109, 101, 116, 97]⟩, .string ⟨#[47, 99, 104, 117, 110, 107, 115]⟩, .string ⟨#[47, 105, 110, 100, 101, 120]⟩]
  kt : Blk w bt 154 #[.pointer (some ⟨g, 0, none⟩), .pointer (some ⟨g, 1, none⟩), .pointer (some ⟨g, 2, none⟩)]
  rg : R g = 0
  rn : R bn = 0
  rt : R bt = 0
section
variable {B0 M p : Nat} {a : Nat → Addr} {R R' : Nat → Nat} {d : Ds} {w w' : World}
theorem WrB.out {g bn bt : Nat} {FA FB FC : ByteArray} (h : WrB g bn bt FA FB FC w R) (ho : Out R R' w w') : WrB g bn bt FA FB FC w' R' :=
  ⟨ho.blk h.bg h.rg, ho.blk h.kn h.rn, ho.blk h.kt h.rt, ho.old _ h.bg.lt h.rg, ho.old _ h.kn.lt h.rn, ho.old _ h.kt.lt h.rt⟩
end
end Go.Proofs.YtfpgbhimgfdddaaGreatDoor

/- The walks of layer 20 (store): names. -/
namespace Go.Proofs.YtfpgbhimgfdddaaGreatDoor
open Go.RowKit Go.Shelf Go.Sort
attribute [local go_sem ↓] Go.wp_at_zero Go.wp_at_succ
attribute [local go_sem] Later.cell Later.frozen

/-! ### names, plain -/
/-- The last k digits of n. -/
def padN : Nat → Nat → Txt
  | 0, _ => []
  | k + 1, n => padN k (n / 10) ++ [UInt8.ofNat (48 + n % 10)]
def nameT (letter : Txt) (n : Int) : Txt := if n < 1 ∨ 99999999 < n then [] else letter ++ padN 8 n.toNat
theorem padN_len : ∀ k n, (padN k n).length = k
  | 0, _ => rfl
  | k + 1, n => by rw [padN, List.length_append, padN_len k]; rfl
theorem padN_zero : ∀ k, padN k 0 = List.replicate k 48
  | 0 => rfl
  | k + 1 => by rw [padN, Nat.zero_div, padN_zero k, List.replicate_succ']; rfl
theorem pad_dec : ∀ (k n : Nat), n < 10 ^ (k + 1) → (Lib.decDigits n).length ≤ k + 1 ∧ List.replicate (k + 1 - (Lib.decDigits n).length) 48 ++ Lib.decDigits n = padN (k + 1) n
  | 0, n, h => by
    rw [Lib.decDigits_one (by omega)]
    have : n % 10 = n := by omega
    simp [padN, this]
  | k + 1, n, h => by
    by_cases h10 : n < 10
    · rw [Lib.decDigits_one h10, padN, show n / 10 = 0 by omega, padN_zero, show n % 10 = n by omega]
      simp
    · have ih := pad_dec k (n / 10) (by rw [Nat.pow_succ] at h; omega)
      have e : Lib.decDigits n = Lib.decDigits (n / 10) ++ [UInt8.ofNat (48 + n % 10)] := by rw [Lib.decDigits, dif_neg h10]
      rw [e, List.length_append, padN, ← ih.2, ← List.append_assoc]
      have h1 := ih.1
      constructor
      · simp; omega
      · simp only [List.length_singleton]
        rw [show k + 1 + 1 - ((Lib.decDigits (n / 10)).length + 1) = k + 1 - (Lib.decDigits (n / 10)).length by omega]
theorem repeat_one (b : UInt8) : ∀ c, Lib.repeatL [b] c = List.replicate c b
  | 0 => rfl
  | c + 1 => by rw [Lib.repeatL, repeat_one b c, List.replicate_succ]; rfl

/-! ### the table of powers -/
def PowTab (w : World) : Prop := Lib.TabIs Tryz.prog w "internal/strconv.uint64pow10" .u64 Lib.pow10Tab
theorem var_below {P : Program} {B g : Nat} {W W' : World} {n : String} {cs : Array Value} (h : Below B W W') (hg : P.globalNamed n = some g) (hgB : g < B) (hv : W.var? P n = some cs) : W'.var? P n = some cs := by
  unfold World.var? at hv ⊢
  simp only [hg, Option.bind_some] at hv ⊢
  rw [h.block g hgB]
  exact hv
theorem PowTab.below {B : Nat} {w w' : World} (h : PowTab w) (hB : 9 < B) (hb : Below B w w') : PowTab w' := var_below hb (by kernel_rfl) hB h
theorem below_drewN (w : World) : ∀ k, Below w.heap.size w (w.drewN k)
  | 0 => Below.refl _ _
  | k + 1 => (below_drewN w k).drew
theorem below_grow {B : Nat} {w w' : World} (h : Below B w w') (hB : B ≤ w.heap.size) (os : Array Obj) : Below B w (grow w' os) :=
  ⟨h.os, h.tape, h.output, by have := h.size; simp [grow]; omega, fun k hk => by
    rw [← h.block k hk]
    simp only [grow]
    exact Array.getElem?_append_left (by have := h.size; omega)⟩
end Go.Proofs.YtfpgbhimgfdddaaGreatDoor

/- The walks of layer 20 (store): Save and Load (printed by gen_stosave2.py). -/
namespace Go.Proofs.YtfpgbhimgfdddaaGreatDoor
open Go.RowKit Go.Shelf Go.Sort
attribute [local go_sem ↓] Go.wp_at_zero Go.wp_at_succ
attribute [local go_sem] Later.cell Later.frozen

theorem nameT_good (l : Txt) {n : Int} (h1 : 1 ≤ n) (h2 : n ≤ 99999999) : nameT l n = l ++ padN 8 n.toNat := by unfold nameT; rw [if_neg (by omega)]
theorem nameT_bad (l : Txt) {n : Int} (h : n < 1 ∨ 99999999 < n) : nameT l n = [] := by unfold nameT; rw [if_pos h]
theorem padN_name : ∀ k n, (padN k n).all nameC = true
  | 0, _ => rfl
  | k + 1, n => by
    have ih := padN_name k (n / 10)
    rw [padN, List.all_append, ih]
    have h : n % 10 < 10 := Nat.mod_lt _ (by decide)
    obtain ⟨d, hd⟩ : ∃ d, n % 10 = d := ⟨_, rfl⟩
    rw [hd] at h ⊢
    match d, h with
    | 0, _ => decide
    | 1, _ => decide
    | 2, _ => decide
    | 3, _ => decide
    | 4, _ => decide
    | 5, _ => decide
    | 6, _ => decide
    | 7, _ => decide
    | 8, _ => decide
    | 9, _ => decide
    | d + 10, h => exact absurd h (by omega)
/-- What the world holds for the store. -/
structure SEnv (B0 : Nat) (a : Nat → Addr) (w : World) : Prop where
  e : Env5 B0 a w
  nib : NibTab w
  pow : PowTab w
  hb : B0 ≤ w.heap.size
/-- The constants' places. -/
structure SCon (B0 : Nat) (a : Nat → Addr) : Prop where
  ap : Apart a
  nib : 7 < B0
  pow : 9 < B0
theorem SEnv.below {B0 : Nat} {a : Nat → Addr} {w w' : World} (h : SEnv B0 a w) (hc : SCon B0 a) (hb : Below B0 w w') : SEnv B0 a w' :=
  ⟨h.e.below hb, h.nib.below hc.nib hb, h.pow.below hc.pow hb, Nat.le_trans h.hb hb.size⟩
theorem SEnv.low {B0 : Nat} {a : Nat → Addr} {w w' : World} (h : SEnv B0 a w) (hc : SCon B0 a) (hb : Below w.heap.size w w') : SEnv B0 a w' := h.below hc (hb.mono h.hb)
theorem SEnv.out {B0 M p : Nat} {a : Nat → Addr} {d : Ds} {R R' : Nat → Nat} {w w' : World} (h : SEnv B0 a w) (hc : SCon B0 a) (hD : Dk B0 M w R p d) (ho : Out R R' w w') : SEnv B0 a w' := h.below hc (ho.below h.hb hD.low)
theorem Out.all {R R' : Nat → Nat} {w w' : World} (h : Out R R' w w') (hz : ∀ k, k < w.heap.size → R k = 0) : Below w.heap.size w w' := h.below (Nat.le_refl _) hz
section
variable {B0 M p : Nat} {a : Nat → Addr} {R R' : Nat → Nat} {d : Ds} {w w' : World}
theorem Dk.set (h : Dk B0 M w R p d) {b : Nat} (hb : R b = 0) (k : Nat) (v : Value) : Dk B0 M (w.setCell ⟨b, k, none⟩ v) R p d := by
  obtain ⟨A, h1, h2⟩ := h.ex
  refine ⟨⟨A, h1.same (fun j hj => ⟨Below.heap_setCell _ _ _ j ?_, rfl⟩) (h1.inw.mono (by simp)) h1.low, h2⟩, h.wf⟩
  rintro rfl
  exact hj hb
theorem ErrW.set {k : Nat} {v : Value} (h : ErrW a w R k v) {b : Nat} {t : TypeId} {cs : Array Value} (hb : Blk w b t cs) (ht : t ≠ 71) (j : Nat) (u : Value) : ErrW a (w.setCell ⟨b, j, none⟩ u) R k v := by
  cases k with
  | zero => exact h
  | succ k =>
    obtain ⟨q, op, path, h1, h2, h3⟩ := h
    exact ⟨q, op, path, h1, Blk.far h2 (by have := Blk.ne_ hb h2 ht; simpa using this.symm) u, h3⟩
theorem Out.set {b : Nat} (h : Out R R' w w') (hb : w.heap.size ≤ b) (k : Nat) (v : Value) : Out R R' w (w'.setCell ⟨b, k, none⟩ v) :=
  ⟨h.os, h.tape, h.output, by simpa using h.size, fun j hj h0 => (Below.heap_setCell _ _ _ j (by simp; omega)).trans (h.block j hj h0), h.old⟩
end
end Go.Proofs.YtfpgbhimgfdddaaGreatDoor
