/- Maps whose keys hold pointers: look-up, store and range, by whatever law compares the keys. No program in sight. -/
import Derived.Test.YtlmnincllndpnaaRegion
import Derived.Maps.RangeRun
import Derived.LaidEql
import Derived.LaidEqlPtr
import Derived.MapKept
import Derived.Carry
namespace Go.Proofs.Ytlmnincllndpnaa
open Go.RowKit
open Go.ChangeMaps (setBlock)
open Go.MapKept

/-- The two keys can be compared, and are found alike just where they are one. -/
def Cmp (P : Program) (w : World) (K : TypeId) (k k' : Value) : Prop := ∃ b : Bool, (Op.equal K k k').run P w = .ok b w ∧ (b = true ↔ k = k')
/-- The key can be looked up and laid. -/
structure Fine (P : Program) (w : World) (K : TypeId) (k : Value) : Prop where
  check : ∀ b, (Instr.checkKey b 10000 K k).run P w = .ok () w
  now : ∃ d, P.underlying K = some d ∧ ∀ k', Instr.sameNow d k k' = none
  bits : Instr.sameBits 10000 k k = true

section
variable {P : Program} {w : World} {K : TypeId} {k : Value}

theorem find_cases : ∀ (es : List MapEntry) (i : Nat), (∀ e ∈ es, Cmp P w K k e.key) →
    (∃ j e, es[j]? = some e ∧ e.key = k ∧ (Instr.findAsking K k es i).run P w = .ok (some (i + j, e.val)) w) ∨ ((∀ e ∈ es, e.key ≠ k) ∧ (Instr.findAsking K k es i).run P w = .ok none w)
  | [], i, _ => .inr ⟨by simp, by simp [Instr.findAsking]⟩
  | e :: es, i, h => by
    obtain ⟨b, hb, hbe⟩ := h e (by simp)
    cases b with
    | true =>
      refine .inl ⟨0, e, rfl, (hbe.1 rfl).symm, ?_⟩
      simp [Instr.findAsking, hb]
    | false =>
      have hne : e.key ≠ k := fun h => by have := hbe.2 h.symm; cases this
      rcases find_cases es (i + 1) (fun x hx => h x (by simp [hx])) with ⟨j, e', h1, h2, h3⟩ | ⟨h1, h2⟩
      · refine .inl ⟨j + 1, e', by simpa using h1, h2, ?_⟩
        simp [Instr.findAsking, hb, h3]
        omega
      · refine .inr ⟨fun x hx => ?_, ?_⟩
        · rcases List.mem_cons.1 hx with rfl | hx
          · exact hne
          · exact h1 x hx
        · simp [Instr.findAsking, hb, h2]

theorem findKey_cases (hf : Fine P w K k) (es : List MapEntry) (h : ∀ e ∈ es, Cmp P w K k e.key) :
    (∃ j e, es[j]? = some e ∧ e.key = k ∧ (Instr.findKey K k es).run P w = .ok (some (j, e.val)) w) ∨ ((∀ e ∈ es, e.key ≠ k) ∧ (Instr.findKey K k es).run P w = .ok none w) := by
  obtain ⟨d, hd, hn⟩ := hf.now
  cases es with
  | nil => exact .inr ⟨by simp, by simp [Instr.findKey, run_underlying hd, Instr.findNow]⟩
  | cons e es =>
    have e1 : (Instr.findKey K k (e :: es)).run P w = (Instr.findAsking K k (e :: es)).run P w := by
      simp [Instr.findKey, run_underlying hd, Instr.findNow, hn]
    rw [e1]
    have := find_cases (P := P) (w := w) (K := K) (k := k) (e :: es) 0 h
    simpa using this

/-- 'm[k]'. -/
theorem look_cases {T E : TypeId} {m : Nat} {es : Array MapEntry} {clock : Nat} {z : Value} (hf : Fine P w K k) (ht : P.underlying T = some (.map K E)) (hz : (zeroValue E).run P w = .ok z w) (hm : w.heap[m]? = some (.map es clock))
    (h : ∀ e ∈ es.toList, Cmp P w K k e.key) :
    (∃ e ∈ es.toList, e.key = k ∧ (Instr.lookup T (.map (some m)) k false).run P w = .ok e.val w) ∨ ((∀ e ∈ es.toList, e.key ≠ k) ∧ (Instr.lookup T (.map (some m)) k false).run P w = .ok z w) := by
  rcases findKey_cases hf es.toList h with ⟨j, e, h1, h2, h3⟩ | ⟨h1, h2⟩
  · refine .inl ⟨e, List.mem_of_getElem? h1, h2, ?_⟩
    simp [Instr.lookup, run_underlying ht, MapKept.run_getObj_map hm, hf.check, h3]
  · refine .inr ⟨h1, ?_⟩
    simp [Instr.lookup, run_underlying ht, MapKept.run_getObj_map hm, hf.check, h2, hz]

open Classical in
/-- The first entry of a key. -/
noncomputable def fnd (k : Value) : List MapEntry → Nat → Option (Nat × Value)
  | [], _ => none
  | e :: es, i => if e.key = k then some (i, e.val) else fnd k es (i + 1)
theorem find_run : ∀ (es : List MapEntry) (i : Nat), (∀ e ∈ es, Cmp P w K k e.key) → (Instr.findAsking K k es i).run P w = .ok (fnd k es i) w
  | [], i, _ => by simp [Instr.findAsking, fnd]
  | e :: es, i, h => by
    obtain ⟨b, hb, hbe⟩ := h e (by simp)
    cases b with
    | true =>
      have h1 : fnd k (e :: es) i = some (i, e.val) := by simp [fnd, (hbe.1 rfl).symm]
      rw [h1]
      simp [Instr.findAsking, hb]
    | false =>
      have hne : ¬ e.key = k := fun h => by have := hbe.2 h.symm; cases this
      simp [Instr.findAsking, hb, fnd, hne, find_run es (i + 1) (fun x hx => h x (by simp [hx]))]
theorem findKey_run (hf : Fine P w K k) (es : List MapEntry) (h : ∀ e ∈ es, Cmp P w K k e.key) : (Instr.findKey K k es).run P w = .ok (fnd k es 0) w := by
  obtain ⟨d, hd, hn⟩ := hf.now
  cases es with
  | nil => simp [Instr.findKey, run_underlying hd, Instr.findNow, fnd]
  | cons e es =>
    have e1 : (Instr.findKey K k (e :: es)).run P w = (Instr.findAsking K k (e :: es)).run P w := by
      simp [Instr.findKey, run_underlying hd, Instr.findNow, hn]
    rw [e1, find_run _ _ h]
/-- What a look-up answers. -/
noncomputable def atK (es : Array MapEntry) (k z : Value) : Value := match fnd k es.toList 0 with | some (_, v) => v | none => z
theorem look_run {T E : TypeId} {m : Nat} {es : Array MapEntry} {clock : Nat} {z : Value} (hf : Fine P w K k) (ht : P.underlying T = some (.map K E)) (hz : (zeroValue E).run P w = .ok z w) (hm : w.heap[m]? = some (.map es clock))
    (h : ∀ e ∈ es.toList, Cmp P w K k e.key) : (Instr.lookup T (.map (some m)) k false).run P w = .ok (atK es k z) w := by
  have h1 := findKey_run hf es.toList h
  unfold atK
  cases hc : fnd k es.toList 0 with
  | none => rw [hc] at h1; simp [Instr.lookup, run_underlying ht, MapKept.run_getObj_map hm, hf.check, h1, hz]
  | some x => rw [hc] at h1; simp [Instr.lookup, run_underlying ht, MapKept.run_getObj_map hm, hf.check, h1]
theorem fnd_cases (k : Value) : ∀ (es : List MapEntry) (i : Nat), (∃ j e, e ∈ es ∧ e.key = k ∧ fnd k es i = some (j, e.val)) ∨ ((∀ e ∈ es, e.key ≠ k) ∧ fnd k es i = none)
  | [], i => .inr ⟨by simp, rfl⟩
  | e :: es, i => by
    by_cases h : e.key = k
    · exact .inl ⟨i, e, by simp, h, by simp [fnd, h]⟩
    · rcases fnd_cases k es (i + 1) with ⟨j, e', h1, h2, h3⟩ | ⟨h1, h2⟩
      · exact .inl ⟨j, e', by simp [h1], h2, by simp [fnd, h, h3]⟩
      · refine .inr ⟨fun x hx => ?_, by simp [fnd, h, h2]⟩
        rcases List.mem_cons.1 hx with rfl | hx
        · exact h
        · exact h1 x hx
theorem atK_cases (es : Array MapEntry) (k z : Value) : (∃ e ∈ es.toList, e.key = k ∧ atK es k z = e.val) ∨ ((∀ e ∈ es.toList, e.key ≠ k) ∧ atK es k z = z) := by
  unfold atK
  rcases fnd_cases k es.toList 0 with ⟨j, e, h1, h2, h3⟩ | ⟨h1, h2⟩
  · exact .inl ⟨e, h1, h2, by rw [h3]⟩
  · exact .inr ⟨h1, by rw [h2]⟩

/-- What a store leaves. -/
structure Laid (es es' : Array MapEntry) (clock clock' : Nat) (k v : Value) : Prop where
  olds : ∀ e' ∈ es'.toList, e' ∈ es.toList ∨ (e'.key = k ∧ e'.val = v)
  keys : ∀ e ∈ es.toList, ∃ e' ∈ es'.toList, e'.key = e.key
  new : ∃ e' ∈ es'.toList, e'.key = k ∧ e'.val = v
  stamps : Stamped es clock → Stamped es' clock'

/-- 'm[k] = v'. -/
theorem lay_cases {T E : TypeId} {m : Nat} {es : Array MapEntry} {clock : Nat} {v : Value} (hf : Fine P w K k) (ht : P.underlying T = some (.map K E)) (hm : w.heap[m]? = some (.map es clock)) (h : ∀ e ∈ es.toList, Cmp P w K k e.key) :
    ∃ es' clock', (Instr.mapUpdate T (.map (some m)) k v).run P w = .ok () (setBlock w m (.map es' clock')) ∧ Laid es es' clock clock' k v := by
  rcases findKey_cases hf es.toList h with ⟨j, e, h1, h2, h3⟩ | ⟨h1, h2⟩
  · have hj : es[j]? = some e := by simpa using h1
    refine ⟨es.modify j (fun e => { e with key := k, val := v }), clock, ?_, ⟨?_, ?_, ?_, ?_⟩⟩
    · simp [Instr.mapUpdate, run_underlying ht, MapKept.run_getObj_map hm, hf.check, h3, hj, h2, Instr.keyThatStays, hf.bits, MapKept.run_setObj_map _ hm, setBlock]
    · intro e' he'
      obtain ⟨i, hi⟩ := List.mem_iff_getElem?.1 he'
      rw [Array.getElem?_toList, Array.getElem?_modify] at hi
      by_cases hij : j = i
      · subst hij
        simp [hj] at hi
        exact .inr ⟨by rw [← hi], by rw [← hi]⟩
      · rw [if_neg hij] at hi
        exact .inl (List.mem_of_getElem? (by rw [Array.getElem?_toList]; exact hi))
    · intro e0 he0
      obtain ⟨i, hi⟩ := List.mem_iff_getElem?.1 he0
      by_cases hij : j = i
      · subst hij
        have : e0 = e := Option.some.inj (hi.symm.trans h1)
        subst this
        exact ⟨{ e0 with key := k, val := v }, List.mem_of_getElem? (i := j) (by rw [Array.getElem?_toList, Array.getElem?_modify]; simp [hj]), h2.symm⟩
      · exact ⟨e0, List.mem_of_getElem? (i := i) (by rw [Array.getElem?_toList, Array.getElem?_modify, if_neg hij]; simpa using hi), rfl⟩
    · exact ⟨{ e with key := k, val := v }, List.mem_of_getElem? (i := j) (by rw [Array.getElem?_toList, Array.getElem?_modify]; simp [hj]), rfl, rfl⟩
    · intro hs
      refine stamped_modify hs j _ (fun _ _ => rfl) (fun e0 _ he0 => ?_)
      rw [hj] at he0
      injection he0 with he0
      subst he0
      exact h2.symm
  · refine ⟨es.push { key := k, val := v, born := clock }, clock + 1, ?_, ⟨?_, ?_, ?_, ?_⟩⟩
    · simp [Instr.mapUpdate, run_underlying ht, MapKept.run_getObj_map hm, hf.check, h2, MapKept.run_setObj_map _ hm, setBlock]
    · intro e' he'
      rw [Array.toList_push] at he'
      rcases List.mem_append.1 he' with h | h
      · exact .inl h
      · simp at h; exact .inr ⟨by rw [h], by rw [h]⟩
    · intro e0 he0
      exact ⟨e0, by rw [Array.toList_push]; exact List.mem_append.2 (.inl he0), rfl⟩
    · exact ⟨{ key := k, val := v, born := clock }, by rw [Array.toList_push]; exact List.mem_append.2 (.inr (by simp)), rfl, rfl⟩
    · intro hs
      exact stamped_push hs h1
end

/-! ### the world behind a store into a map -/
theorem setBlock_same {w : World} {m : Nat} {o o' : Obj} (h : w.heap[m]? = some o) : (setBlock w m o').heap[m]? = some o' := (heap_set h).1
theorem setBlock_other (w : World) {m k : Nat} (o' : Obj) (hk : k ≠ m) : (setBlock w m o').heap[k]? = w.heap[k]? := by
  unfold setBlock
  simp [Ne.symm hk]
theorem setBlock_size (w : World) (m : Nat) (o' : Obj) : (setBlock w m o').heap.size = w.heap.size := by simp [setBlock]
theorem Kept.setBlock {B : Nat} {ex : List Nat} {a w : World} (h : Kept B ex a w) {m : Nat} (hm : m ∈ ex ∨ B ≤ m) (o : Obj) : Kept B ex a (setBlock w m o) :=
  h.trans ⟨rfl, rfl, rfl, by rw [setBlock_size]; exact Nat.le_refl _, fun k hk hn => setBlock_other w o (by rintro rfl; rcases hm with hm | hm; exact hn hm; omega)⟩

/-- Every block of cells stays what it is. -/
def Keeps (w w' : World) : Prop := ∀ b t cs, Blk w b t cs → Blk w' b t cs
theorem Keeps.refl (w : World) : Keeps w w := fun _ _ _ h => h
theorem Keeps.trans {a b c : World} (h : Keeps a b) (h' : Keeps b c) : Keeps a c := fun _ _ _ x => h' _ _ _ (h _ _ _ x)
theorem Kept.keeps {w w' : World} {ex : List Nat} (h : Kept w.heap.size ex w w') (hx : ∀ m ∈ ex, ∃ es clock, w.heap[m]? = some (.map es clock)) : Keeps w w' := by
  intro b t cs hb
  refine hb.kept h hb.lt (fun hm => ?_)
  obtain ⟨es, clock, he⟩ := hx b hm
  unfold Blk at hb
  rw [he] at hb
  cases hb

/-! ### pointers as keys -/
section
variable {P : Program} {w : World}
/-- Nil, or the head of a block of cells. -/
def PtrIs (w : World) (v : Value) : Prop := v = .pointer none ∨ ∃ q t cs, v = .pointer (some ⟨q, 0, none⟩) ∧ Blk w q t cs
theorem PtrIs.keep {w w' : World} {v : Value} (h : PtrIs w v) (hk : Keeps w w') : PtrIs w' v := by
  rcases h with h | ⟨q, t, cs, h, hb⟩
  · exact .inl h
  · exact .inr ⟨q, t, cs, h, hk _ _ _ hb⟩
theorem equalIn_ptr (d : Nat) {T e : TypeId} {j : TypeInfo} (ht : P.underlying T = some (.pointer e)) (hi : P.info? e = some j) (hs : j.size ≠ 0) {v v' : Value} (h : PtrIs w v) (h' : PtrIs w v') :
    ∃ b : Bool, (Op.equalIn (d + 1) T v v').run P w = .ok b w ∧ (b = true ↔ v = v') := by
  rcases h with rfl | ⟨q, t, cs, rfl, hb⟩ <;> rcases h' with rfl | ⟨q', t', cs', rfl, hb'⟩
  · exact ⟨true, by simp [Op.equalIn, run_underlying ht], by simp⟩
  · exact ⟨false, by simp [Op.equalIn, run_underlying ht], by simp⟩
  · exact ⟨false, by simp [Op.equalIn, run_underlying ht], by simp⟩
  · by_cases he : q = q'
    · subst he
      exact ⟨true, by simp [Op.equalIn, run_underlying ht, sizeOf, typeInfo, hi, hs, run_sameAddr_same], by simp⟩
    · have hne : (⟨q, 0, none⟩ : Addr) ≠ ⟨q', 0, none⟩ := by simp [he]
      exact ⟨false, by simp [Op.equalIn, run_underlying ht, sizeOf, typeInfo, hi, hs, run_sameAddr_other w hne hb hb'], by simp [he]⟩
theorem cmp_ptr {T e : TypeId} {j : TypeInfo} (ht : P.underlying T = some (.pointer e)) (hi : P.info? e = some j) (hs : j.size ≠ 0) {v v' : Value} (h : PtrIs w v) (h' : PtrIs w v') : Cmp P w T v v' := equalIn_ptr 9999 ht hi hs h h'
theorem fine_ptr {T e : TypeId} (ht : P.underlying T = some (.pointer e)) {v : Value} (h : PtrIs w v) : Fine P w T v := by
  refine ⟨fun b => ?_, ⟨_, ht, fun k' => ?_⟩, ?_⟩
  · rw [show (10000 : Nat) = 9999 + 1 from rfl, Instr.checkKey]
    rcases h with rfl | ⟨q, t, cs, rfl, hb⟩ <;> simp [run_underlying ht]
  · cases k' <;> rfl
  · rcases h with rfl | ⟨q, t, cs, rfl, hb⟩ <;> (rw [Instr.sameBits]; simp)
end
end Go.Proofs.Ytlmnincllndpnaa
