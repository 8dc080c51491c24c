/- Merged (what the claim wants of): DskPower, DskListed, DskAlike, DskNil, DskTwo, DskJoin, DskJoin2, DskJoin3, DskWakes, StgC. -/
import Derived.Test.YtfpgbhimgfdddaaGreatDoorWak14
import Derived.Deep.RegionHeldLaw
import Derived.Laws.AppendOwnNone
import Derived.Test.YtfpgbhimgfdddaaGreatDoorWak01
import Derived.Deep.LoopGhost
import Derived.Deep.CutBlock
import Derived.IntWalk
import Derived.Maps.AppendAt
import Derived.Laws.IdiomStrings
set_option linter.unusedVariables false
set_option linter.unusedSimpArgs false
/- The walks of layer 3's law: power, arm by arm; twin (printed by gen_lawpower.py). -/
namespace Go.Proofs.YtfpgbhimgfdddaaGreatDoor
open Go.RowKit Go.Shelf Go.Maps Go.Sort
attribute [local go_sem ↓] Go.wp_at_zero Go.wp_at_succ
attribute [local go_sem] Later.cell Later.frozen

/-- An append whose run is known, at a step of a region that draws. -/
theorem step_known {P : Program} {w w' : World} {ops : Array Oper} {o : Oper} {a : Act} {K : Act → World → Prop} {Q : Exit → Act → World → Prop} {E : Prop} (hgd : o.guard = none) (s x : Operand) (t : TypeId)
    (ho : o.op = .call { callee := .builtin .append, args := #[s, x], argTypes := #[t, t] }) (v u v' : Value) (hs : a.eval s = v) (hx : a.eval x = u)
    (hrun : (Builtin.append_ #[t, t] o.type #[v, u]).run P w = .ok v' w') (h : K (a.put o.dst v') w') :
    if Region.wanted o (yielded ops a.tmps) = true then Oper.wp P o a w K Q else E := by
  have hw : Region.wanted o (yielded ops a.tmps) = true := by simp [Region.wanted, hgd]
  rw [if_pos hw]
  unfold Oper.wp execOp
  simp only [ho, resolve, invoke, builtin, Sem.run_bind, Sem.run_pure, Result.andThen_ok, List.map_toArray, List.map_cons, List.map_nil, hs, hx, hrun]
  exact h
theorem info_int3 : (Tryz.prog.info? 3).map (fun i => (i.zero, i.size, i.bytes)) = some (some (.int .i64 0), 1, 8) := by kernel_rfl
set_option maxRecDepth 100000 in
/-- append([]int(nil), data...). -/
theorem run_ints (Ad : Option Addr) (n c : Nat) (data : List Int) (w : World) (h : Ints3 w Ad n data) (hA : Ad = none → c = 0) (hn : n * 8 ≤ 140737488355328) :
    ∃ A' c' w', (Builtin.append_ #[58, 58] 58 #[.slice none 0 0, .slice Ad n c]).run Tryz.prog w = .ok (.slice A' n c') w' ∧ Ints3 w' A' n data ∧ Below w.heap.size w w' ∧ ∀ x, A' = some x → w.heap.size ≤ x.block := by
  obtain ⟨i0, hi0, hz0, hz1, hz2⟩ := info_parts info_int3
  have hl : data.length = n := Elems.len h
  cases Ad with
  | none =>
    have h0 : n = 0 := by
      rcases Nat.eq_zero_or_pos n with h0 | h0
      · exact h0
      · obtain ⟨b, off, e, _⟩ := h.2 h0; cases e
    subst h0
    obtain rfl := hA rfl
    exact ⟨none, 0, w, run_append_owned_none w w.heap.size 58 58 3 i0 1 Tryz.underlying58 hi0 _ 0 [] (World.ownsRow_nil _ _ _ _), h, Below.refl _ _, fun x e => by cases e⟩
  | some a =>
    have hcells : ∀ j u, (data.map (Value.int .i64))[j]? = some u → w.cell? (a.add j) = some u := by
      intro j u hj
      rw [List.getElem?_map, Option.map_eq_some_iff] at hj
      obtain ⟨x, hx, rfl⟩ := hj
      have hjn : j < n := by have := (List.getElem?_eq_some_iff.1 hx).1; omega
      obtain ⟨b, off, e, hb, hc⟩ := h.2 (by omega)
      have := hc j x hx 0 (.int .i64 x) rfl
      injection e with e
      rw [e]
      have e2 : (⟨b, off, none⟩ : Addr).add j = ⟨b, off + j, none⟩ := by
        unfold Addr.add
        split
        · rename_i h0; subst h0; rfl
        · rfl
      rw [e2]
      simpa using this
    obtain ⟨v', w', h1, h2, h3, h4, h5⟩ := run_append_own_at (P := Tryz.prog) (w := w) w.heap.size 58 58 3 i0 (.int .i64 0) 1 8 Tryz.underlying58 hi0 hz0 hz1 hz2 rfl (by decide) (.slice none 0 0) 0 [] (World.ownsRow_nil _ _ _ _) a n c (data.map (Value.int .i64)) (by rw [List.length_map, hl, Nat.mul_one]) hcells (by intro u hu; obtain ⟨x, _, rfl⟩ := List.mem_map.1 hu; rfl) (by unfold maxLen; omega) (by omega) (Nat.le_refl _)
    rw [Nat.zero_add, List.nil_append] at h2
    obtain ⟨A', c', rfl, hs, hbase, hnc⟩ := Elems.of_own (enc := I1) (xs := data) (fun _ _ => rfl) (flatMap_I1 data) h2 hl
    exact ⟨A', c', w', h1, hs, ⟨h3.os, h3.tape, h3.output, h3.size, fun k hk => h3.block k hk (fun e => by cases e)⟩, hbase⟩
section
variable {M : World → Prop} {N : World → Prop} {k : Nat}
end
end Go.Proofs.YtfpgbhimgfdddaaGreatDoor

/- The walks of layer 3's law: twin, listed. -/
namespace Go.Proofs.YtfpgbhimgfdddaaGreatDoor
open Go.RowKit Go.Shelf Go.Maps Go.Sort
attribute [local go_sem ↓] Go.wp_at_zero Go.wp_at_succ
attribute [local go_sem] Later.cell Later.frozen

theorem EntRow.out {w : World} {B : Nat} {v : Value} {l : List En} (h : EntRow w B v l) : ∃ A c, v = .slice A l.length c ∧ Elems w w.heap.size 3 encE A l.length l ∧ l.length ≤ c := by
  obtain ⟨A, c, h1, h2, _, h4⟩ := Elems.of_own (enc := encE) (xs := l) (fun _ _ => rfl) rfl h rfl
  exact ⟨A, c, h1, h2, h4⟩

section
variable {M : Value → Value → World → Prop} {N : Value → Value → Value → World → Prop} {k : Nat}
end
end Go.Proofs.YtfpgbhimgfdddaaGreatDoor

/- The walks of layer 3 (disk): the calls at a nil disk. -/
namespace Go.Proofs.YtfpgbhimgfdddaaGreatDoor
open Go.RowKit Go.Shelf Go.Maps Go.Sort
attribute [local go_sem ↓] Go.wp_at_zero Go.wp_at_succ
attribute [local go_sem] Later.cell Later.frozen

section
variable {B0 : Nat} {a : Nat → Addr}
def NilOut (a : Nat → Addr) (op s : ByteArray) (w : World) (e : Ending) (w' : World) : Prop :=
  ∃ v, e = .returned v ∧ ErrV a w' op s (0 + 1) v ∧ Below w.heap.size w w'
def NilOut2 (a : Nat → Addr) (u : Value) (op s : ByteArray) (w : World) (e : Ending) (w' : World) : Prop :=
  ∃ v, e = .returned (.tuple #[u, v]) ∧ ErrV a w' op s (0 + 1) v ∧ Below w.heap.size w w'
theorem ready_nil (ok : Bool) (op s : ByteArray) (w : World) (hF : Fails B0 a w) :
    Calls Tryz.prog 61 #[.pointer none, .string op, .string s, .bool ok] w (NilOut a op s w) := by
  have f1 : _ = some (failV a 1) := (hF 1 (by decide)).2
  have hfl := fun k w => fail_calls (a := a) op s k w
  unfold failV at f1 hfl
  simp only [failG] at f1
  have HF := Lib.hid hfl
  clear hF hfl
  go_enter Tryz.func61, Tryz.ntmps61
  go_wp2_with fail
  refine (HF.out 0 w).mono ?_
  rintro e w1 ⟨v, rfl, hv, hb⟩
  have HV := Lib.hid hv
  clear hv
  go_wp2_with fail
  go_ret
  exact ⟨v, rfl, HV.out, hb⟩
theorem NilOut.then_ {op s : ByteArray} {w w1 w2 : World} {e : Ending} (hb : Below w.heap.size w w1) (h : NilOut a op s w1 e w2) : NilOut a op s w e w2 := by
  obtain ⟨v, h1, h2, h3⟩ := h
  exact ⟨v, h1, h2, Go.Proofs.YtfpgbhimgfdddaaGreatDoor.then_ hb h3⟩
theorem file_nil (op S : ByteArray) (w : World) (hS : S.size ≤ 1073741824) (hB : B0 ≤ w.heap.size) (hF : Fails B0 a w) :
    Calls Tryz.prog 67 #[.pointer none, .string op, .string S] w (NilOut2 a (.pointer none) op S w) := by
  obtain ⟨rn, hrn⟩ : ∃ r, pathB S.data.toList = r := ⟨_, rfl⟩
  have HNM := Lib.hid (path_calls S rn hrn hS w)
  clear hrn
  go_enter Tryz.func67, Tryz.ntmps67
  go_wp2_with fail
  refine HNM.out.mono ?_
  rintro _ w2 ⟨rfl, hB2⟩
  have HRD := Lib.hid (ready_nil (B0 := B0) (a := a) rn op S w2 (hF.below (hB2.mono hB)))
  go_wp2_with fail
  refine HRD.out.mono ?_
  rintro _ w3 ⟨v, rfl, hv3, hb3⟩
  have HFIN := Lib.hid (show NilOut2 a (.pointer none) op S w (.returned (.tuple #[.pointer none, v])) w3 from ⟨v, rfl, hv3, then_ hB2 hb3⟩)
  obtain ⟨q4, rfl, _⟩ := hv3
  go_wp2_with fail
  go_ret2
  exact HFIN.out

-- PRINTED by gen_dsknil.py
set_option maxHeartbeats 1000000 in
theorem append_nil (S : ByteArray) (Ao : Option Addr) (pn pc : Nat) (w : World) (hS : S.size ≤ 1073741824) (hB : B0 ≤ w.heap.size) (hF : Fails B0 a w) :
    Calls Tryz.prog 20 #[.pointer none, .string S, .slice Ao pn pc] w (NilOut a ⟨#[97, 112, 112, 101, 110, 100]⟩ S w) := by
  have HF := Lib.hid (file_nil (a := a) ⟨#[97, 112, 112, 101, 110, 100]⟩ S w hS hB hF)
  go_enter Tryz.func20, Tryz.ntmps20
  go_wp2_with fail
  refine HF.out.mono ?_
  rintro _ w3 ⟨v, rfl, hv3, hb3⟩
  have HFIN := Lib.hid (show NilOut a ⟨#[97, 112, 112, 101, 110, 100]⟩ S w (.returned v) w3 from ⟨v, rfl, hv3, hb3⟩)
  obtain ⟨q4, rfl, _⟩ := hv3
  go_wp2_with fail
  go_ret
  exact HFIN.out
end
end Go.Proofs.YtfpgbhimgfdddaaGreatDoor

/- Layer 3's law: the code's disk and the document's, side by side. -/
namespace Go.Proofs.YtfpgbhimgfdddaaGreatDoor
open Go.RowKit Go.Shelf Go.Maps Go.Sort

/-- What lies below all disks: the failures. -/
structure Env (B0 : Nat) (a : Nat → Addr) (w : World) : Prop where
  f : Fails B0 a w
  g : Fail6 B0 a w
  s : Sents B0 a w
theorem Env.below {B0 : Nat} {a : Nat → Addr} {w w' : World} (h : Env B0 a w) (hb : Below B0 w w') : Env B0 a w' := ⟨h.f.below hb, h.g.below hb, h.s.below hb⟩
section
variable {B0 M : Nat} {a : Nat → Addr} {R R' S S' : Nat → Nat} {A A' : Adr} {B B' : RAdr} {d d' : Ds} {w w' w'' : World}
/-- The code's call is over, the document's not yet. -/
structure Half (B0 : Nat) (a : Nat → Addr) (R : Nat → Nat) (A : Adr) (r : Nat × Ds) (op s : ByteArray) (w : World) (v : Value) (w' : World) : Prop where
  ex : ∃ R' A', ErrV a w' op s r.1 v ∧ CD B0 w' R' A' r.2 ∧ Own R R' w w' ∧ A'.p = A.p
theorem Half.keep {r : Nat × Ds} {op s : ByteArray} {v : Value} (h : Half B0 a R A r op s w v w') {q : Nat} (hq : q < w.heap.size) (h0 : R q = 0) : w'.heap[q]? = w.heap[q]? := by
  obtain ⟨R', A', h1, h2, h3, h4⟩ := h.ex
  exact h3.block q hq h0
theorem Half.of {r : Nat × Ds} {op s : ByteArray} {f : FuncId} {args : Array Value} (h : Calls Tryz.prog f args w (NamesOutF B0 a R A r op s w)) : Calls Tryz.prog f args w fun e w' => ∃ v, e = .returned v ∧ Half B0 a R A r op s w v w' :=
  h.mono fun _ _ ⟨v, R', A', h1, h2, h3, h4, h5, _⟩ => ⟨v, h1, R', A', h2, h3, h4, h5⟩

/-! ### the failures' numbers -/

/-! ### what a well-formed disk gives the walks -/
theorem WF.nl (h : WF M d) (hM : M ≤ 536870912) : ∀ i, (Go.Proofs.YtfpgbhimgfdddaaGreatDoor.fAt d i).now.length ≤ 1073741824 := fun i => by have := (h.fAt i).now; omega
theorem WF.sl (h : WF M d) (hM : M ≤ 536870912) : ∀ i, (Go.Proofs.YtfpgbhimgfdddaaGreatDoor.fAt d i).steps.length ≤ 1073741824 := fun i => by have := (h.fAt i).sl; omega
theorem WF.usedL (h : WF M d) : ∀ l : List Th, Go.Proofs.YtfpgbhimgfdddaaGreatDoor.usedL d l ≤ l.length * M
  | [] => by simp [Go.Proofs.YtfpgbhimgfdddaaGreatDoor.usedL]
  | x :: l => by
    have h1 := h.usedL l
    have h2 : (if x.dir then 0 else (nowAt d x.at_).length) ≤ M := by
      split
      · omega
      · have := (h.fAt x.at_).now; exact this
    have h3 : Go.Proofs.YtfpgbhimgfdddaaGreatDoor.usedL d (x :: l) = (if x.dir then 0 else (nowAt d x.at_).length) + Go.Proofs.YtfpgbhimgfdddaaGreatDoor.usedL d l := by simp [Go.Proofs.YtfpgbhimgfdddaaGreatDoor.usedL]
    rw [h3, List.length_cons, Nat.add_mul]
    omega
theorem WF.used (h : WF M d) (hM : M ≤ 536870912) : Go.Proofs.YtfpgbhimgfdddaaGreatDoor.usedL d d.things ≤ 4611686018427387904 := by
  have h1 := h.usedL d.things
  have h2 := h.tl
  have h3 : d.things.length * M ≤ 536870912 * 536870912 := Nat.mul_le_mul (by omega) hM
  omega
theorem WF.capl (h : WF M d) : d.cap ≤ 4611686018427387904 := by have := h.cap; omega
end
end Go.Proofs.YtfpgbhimgfdddaaGreatDoor

/- Layer 3's law: step at the two disks (printed by gen_lawjoin.py). -/
namespace Go.Proofs.YtfpgbhimgfdddaaGreatDoor
open Go.RowKit Go.Shelf Go.Maps Go.Sort

structure OpM (w : World) (Q : Nat → Nat) (o : OpV) (parts : List Txt) (data : List Int) (L : Nat) : Prop where
  a : o.a.size ≤ 1073741824
  b : o.b.size ≤ 1073741824
  n1 : -9223372036854775808 ≤ o.n
  n2 : o.n ≤ 9223372036854775807
  m1 : -9223372036854775808 ≤ o.m
  m2 : o.m ≤ 9223372036854775807
  ps : Strs w o.pa o.pn parts
  pc : o.pn ≤ o.pc
  pn : o.pn * 16 ≤ 140737488351232
  p0 : o.pa = none → o.pc = 0
  po : ∀ x, o.pa = some x → 0 < o.pn → Q x.block = 0
  fl : parts.flatten.length ≤ L
  ds : Ints3 w o.da o.dn data
  dn : o.dn * 8 ≤ 140737488355328
  d0 : o.da = none → o.dc = 0
  do_ : ∀ x, o.da = some x → 0 < o.dn → Q x.block = 0
  dr : ∀ x ∈ data, -9223372036854775808 ≤ x ∧ x ≤ 9223372036854775807
def byteOf (m : Int) : UInt8 := UInt8.ofNat (m % 256).toNat
/-- What a call does with the disk. -/
def opD (d : Ds) (o : OpV) (parts : List Txt) (data : List Int) : Ds :=
  if o.kind = 1 then (mkdirD d o.a.data.toList).2 else if o.kind = 2 then (createD d o.a.data.toList).2 else if o.kind = 3 then (appendD d o.a.data.toList parts.flatten).2
  else if o.kind = 4 then (cutD d o.a.data.toList o.n).2 else if o.kind = 5 then (syncD d o.a.data.toList).2 else if o.kind = 6 then (syncNamesD d).2
  else if o.kind = 7 then (renameD d o.a.data.toList o.b.data.toList).2 else if o.kind = 8 then (removeD d o.a.data.toList).2
  else if o.kind = 12 then crashD d o.n else if o.kind = 13 then restartD d o.n data o.yes else if o.kind = 14 then (flipD d o.a.data.toList o.n (byteOf o.m)).2 else d
section
variable {B0 M : Nat} {a : Nat → Addr} {R S : Nat → Nat} {A : Adr} {B : RAdr} {d : Ds} {w w' : World}
theorem WF.op (h : WF M d) (o : OpV) (parts : List Txt) (data : List Int) (hn : o.n ≤ 9223372036854775807) {L : Nat} (hL : parts.flatten.length ≤ L) : WF (M + L + 1) (opD d o parts data) := by
  have h0 : WF (M + L + 1) d := h.more (by omega)
  have hp : ∀ {x : Ds}, WF (M + 1) x → WF (M + L + 1) x := fun k => k.more (by omega)
  unfold opD
  repeat' split
  · exact hp (h.mkdir _)
  · exact hp (h.create _)
  · exact (h.append _ _).more (by omega)
  · exact hp (h.cut _ _)
  · exact hp (h.sync _)
  · exact hp h.syncNames
  · exact hp (h.rename _ _)
  · exact hp (h.remove _)
  · exact hp (h.crash hn)
  · exact hp (h.restart _ _ _)
  · exact hp (h.flip _ _ _)
  · exact h0
theorem OpM.same {Q : Nat → Nat} {o : OpV} {parts : List Txt} {data : List Int} {L : Nat} (h : OpM w Q o parts data L) (hs : w.heap.size ≤ w'.heap.size) (hk : ∀ k, k < w.heap.size → Q k = 0 → w'.heap[k]? = w.heap[k]?) : Strs w' o.pa o.pn parts ∧ Ints3 w' o.da o.dn data := by
  constructor
  · refine ⟨h.ps.1, fun h0 => ?_⟩
    obtain ⟨b, off, e, hb, hc⟩ := h.ps.2 h0
    refine ⟨b, off, e, by omega, fun i x hx j v hv => ?_⟩
    rw [← hc i x hx j v hv]
    exact World.cell?_of_block (hk b hb (h.po _ e h0))
  · refine ⟨h.ds.1, fun h0 => ?_⟩
    obtain ⟨b, off, e, hb, hc⟩ := h.ds.2 h0
    refine ⟨b, off, e, by omega, fun i x hx j v hv => ?_⟩
    rw [← hc i x hx j v hv]
    exact World.cell?_of_block (hk b hb (h.do_ _ e h0))
end
end Go.Proofs.YtfpgbhimgfdddaaGreatDoor

/- Layer 3's law: wakes. -/
namespace Go.Proofs.YtfpgbhimgfdddaaGreatDoor
open Go.RowKit Go.Shelf Go.Maps Go.Sort
attribute [local go_sem ↓] Go.wp_at_zero Go.wp_at_succ
attribute [local go_sem] Later.cell Later.frozen

section
variable {B0 : Nat} {a : Nat → Addr}
theorem nil_of {a : Nat → Addr} {w : World} {op s : ByteArray} {k : Nat} {v : Value} (h : ErrV a w op s k v) (hk : k = 0) : v = .nilIface := by subst hk; exact h
theorem strs_of {w : World} {b : Nat} {l : List Txt} (h : Blk w b 9 (l.map txtV).toArray) : Strs w (some ⟨b, 0, none⟩) l.length l :=
  ⟨rfl, fun _ => ⟨b, 0, rfl, h.lt, fun i x hx j v hv => by
    match j, hv with
    | 0, hv =>
      injection hv with hv
      subst hv
      have h1 := h.cell i
      have h2 : (l.map txtV).toArray[i]? = some (txtV x) := by simp [hx]
      simpa [h2] using h1
    | j + 1, hv => simp [enc1] at hv⟩⟩
end
end Go.Proofs.YtfpgbhimgfdddaaGreatDoor

/- EncWalksA, EncWalksB, EncWalksC, EncWalksE, EncWalksF together. -/
namespace Go.Proofs.YtfpgbhimgfdddaaGreatDoor
section
open Go.RowKit
attribute [local go_sem ↓] Go.wp_at_zero Go.wp_at_succ
attribute [local go_sem] Later.cell Later.frozen

end

section
open Go.RowKit
attribute [local go_sem ↓] Go.wp_at_zero Go.wp_at_succ
attribute [local go_sem] Later.cell Later.frozen

/-- A slice of bytes of the call's own. -/
def BytesOwn (base : Nat) (w : World) (v : Value) (l : List UInt8) : Prop := w.ownsRow base 5 1 v l.length (Lib.byteCells l)
theorem BytesOwn.new (w : World) : BytesOwn w.heap.size (w.alloc (.cells #[] 5)) (.slice (some ⟨w.heap.size, 0, none⟩) 0 0) [] :=
  ⟨rfl, .inr ⟨w.heap.size, 0, #[], rfl, Nat.le_refl _, heap_alloc_new w _, Nat.le_refl _, by decide, rfl, rfl⟩⟩
theorem BytesOwn.text {base : Nat} {w : World} {v : Value} {l : List UInt8} (h : BytesOwn base w v l) (h0 : l ≠ []) : ∃ a cap, v = .slice (some a) l.length cap ∧ (convert 104 9 (.slice (some a) l.length cap)).run Tryz.prog w = .ok (.string ⟨l.toArray⟩) w := by
  rcases h.2 with ⟨_, hn⟩ | ⟨g, cap, cur, rfl, hb, hh, hnc, _, hsize, htk⟩
  · exact absurd (List.eq_nil_of_length_eq_zero hn) h0
  · refine ⟨⟨g, 0, none⟩, cap, rfl, run_convert_bytes_back w _ _ 5 _ cap l Tryz.underlying104 Tryz.underlying5 Tryz.underlying9 (fun j hj => ?_)⟩
    rw [Addr.add_lit, Nat.zero_add, cell_of_row w g j cur 5 (0, 0) hh]
    have e : (Lib.byteCells l)[j]? = some (.int .u8 (l[j].toNat : Int)) := by simp [Lib.byteCells, hj]
    rw [← htk, List.getElem?_take] at e
    split at e
    · simpa using e
    · cases e

end

section
open Go.RowKit
attribute [local go_sem ↓] Go.wp_at_zero Go.wp_at_succ
attribute [local go_sem] Later.cell Later.frozen

end

section
open Go.RowKit
attribute [local go_sem ↓] Go.wp_at_zero Go.wp_at_succ
attribute [local go_sem] Later.cell Later.frozen

/-! ### bits -/
theorem u32_keep (n : Int) (h0 : 0 ≤ n) (h1 : n < 2 ^ 32) : IntKind.u32.wrap n = n := by
  rw [IntKind.wrap_u32]
  omega
theorem and_u32 {a b : Nat} (ha : a < 4294967296) (hb : b < 4294967296) : bits .and .u32 (a : Int) (b : Int) = ((a &&& b : Nat) : Int) := (bits_nat .u32 32 (by decide) u32_keep a b ha hb).1
theorem or_u32 {a b : Nat} (ha : a < 4294967296) (hb : b < 4294967296) : bits .or .u32 (a : Int) (b : Int) = ((a ||| b : Nat) : Int) := (bits_nat .u32 32 (by decide) u32_keep a b ha hb).2
theorem xor_u32 {a b : Nat} (ha : a < 4294967296) (hb : b < 4294967296) : bits .xor .u32 (a : Int) (b : Int) = ((a ^^^ b : Nat) : Int) := by
  have h : bits .xor .u32 (a : Int) (b : Int) = IntKind.u32.wrap (((BitVec.ofInt 32 (a : Int) ^^^ BitVec.ofInt 32 (b : Int)).toNat : Nat) : Int) := rfl
  rw [h, BitVec.ofInt_natCast, BitVec.ofInt_natCast, BitVec.toNat_xor, BitVec.toNat_ofNat, BitVec.toNat_ofNat, Nat.mod_eq_of_lt (show a < 2 ^ 32 by omega), Nat.mod_eq_of_lt (show b < 2 ^ 32 by omega)]
  exact u32_keep _ (Int.natCast_nonneg _) (by have := xor_lt32 ha hb; omega)
theorem or_add {k x : Nat} (y : Nat) (h : x < 2 ^ k) : (y * 2 ^ k) ||| x = y * 2 ^ k + x := by
  have := Nat.shiftLeft_add_eq_or_of_lt h y
  rw [Nat.shiftLeft_eq] at this
  exact this.symm
theorem or_split {x1 x0 y1 y0 : Nat} (hx : x0 < 65536) (hy : y0 < 65536) : (x1 * 65536 + x0) ||| (y1 * 65536 + y0) = (x1 ||| y1) * 65536 + (x0 ||| y0) := by
  have e1 := or_add (k := 16) x1 (show x0 < 2 ^ 16 from hx)
  have e2 := or_add (k := 16) y1 (show y0 < 2 ^ 16 from hy)
  have e3 := or_add (k := 16) (x1 ||| y1) (Nat.or_lt_two_pow (show x0 < 2 ^ 16 from hx) (show y0 < 2 ^ 16 from hy))
  have e4 : (x1 ||| y1) * 2 ^ 16 = x1 * 2 ^ 16 ||| y1 * 2 ^ 16 := by
    rw [← Nat.shiftLeft_eq, ← Nat.shiftLeft_eq, ← Nat.shiftLeft_eq, Nat.shiftLeft_or_distrib]
  have e16 : (65536 : Nat) = 2 ^ 16 := by decide
  rw [e16, ← e1, ← e2, ← e3, e4, Nat.or_assoc, Nat.or_assoc]
  congr 1
  rw [← Nat.or_assoc, ← Nat.or_assoc, Nat.or_comm x0]
theorem and_mask (v : Nat) : v &&& 16711935 = v / 65536 % 256 * 65536 + v % 256 := by
  have h1 : (16711935 : Nat) = 255 <<< 16 ||| 255 := by decide
  have h2 : v &&& 255 = v % 256 := Nat.and_two_pow_sub_one_eq_mod v 8
  have h3 : v &&& (255 <<< 16) = ((v >>> 16) &&& 255) <<< 16 := by
    apply Nat.eq_of_testBit_eq
    intro i
    simp only [Nat.testBit_and, Nat.testBit_shiftLeft, Nat.testBit_shiftRight]
    by_cases h : 16 ≤ i
    · simp [h, Nat.add_sub_cancel' h]
    · simp [h]
  have h4 : (v >>> 16) &&& 255 = v / 65536 % 256 := by
    rw [Nat.shiftRight_eq_div_pow]
    exact Nat.and_two_pow_sub_one_eq_mod _ 8
  rw [h1, Nat.and_or_distrib_left, h2, h3, h4, Nat.shiftLeft_eq]
  exact or_add (k := 16) _ (by omega)
def revN (v : Nat) : Nat := v % 256 * 16777216 + v / 256 % 256 * 65536 + v / 65536 % 256 * 256 + v / 16777216
theorem rev_step {v : Nat} (hv : v < 4294967296) : ((v / 256) &&& 16711935) ||| ((v &&& 16711935) * 256) = (v / 65536 % 256 * 256 + v / 16777216) * 65536 + (v % 256 * 256 + v / 256 % 256) := by
  rw [and_mask, and_mask]
  have e1 : (v / 65536 % 256 * 65536 + v % 256) * 256 = (v / 65536 % 256 * 256) * 65536 + v % 256 * 256 := by omega
  have e2 : v / 256 / 65536 % 256 = v / 16777216 := by omega
  rw [e1, e2, or_split (by omega) (by omega)]
  have e3 := or_add (k := 8) (v / 65536 % 256) (show v / 16777216 < 2 ^ 8 by omega)
  have e4 := or_add (k := 8) (v % 256) (show v / 256 % 256 < 2 ^ 8 by omega)
  have e8 : (2 : Nat) ^ 8 = 256 := by decide
  rw [e8] at e3 e4
  rw [Nat.or_comm (v / 16777216), Nat.or_comm (v / 256 % 256), e3, e4]
theorem rev_half {v : Nat} (hv : v < 4294967296) : bits .or .u32 (bits .and .u32 ((v : Int) / 256) 16711935) (bits .and .u32 (v : Int) 16711935 * 256 % 4294967296) = (((v / 65536 % 256 * 256 + v / 16777216) * 65536 + (v % 256 * 256 + v / 256 % 256) : Nat) : Int) := by
  have e1 : (v : Int) / 256 = ((v / 256 : Nat) : Int) := by omega
  have e2 : ∀ x : Nat, x < 4294967296 → bits .and .u32 (x : Int) 16711935 = ((x &&& 16711935 : Nat) : Int) := fun x hx => and_u32 hx (by decide)
  have e3 : ((v &&& 16711935 : Nat) : Int) * 256 % 4294967296 = (((v &&& 16711935) * 256 : Nat) : Int) := by rw [and_mask]; omega
  rw [e1, e2 _ (by omega), e2 _ hv, e3, or_u32 (by rw [and_mask]; omega) (by rw [and_mask]; omega), rev_step hv]
theorem rev_bits {v : Nat} (hv : v < 4294967296) {T : Int} (hT : T = (((v / 65536 % 256 * 256 + v / 16777216) * 65536 + (v % 256 * 256 + v / 256 % 256) : Nat) : Int)) :
    bits .or .u32 (T / 65536) (T * 65536 % 4294967296) = ((revN v : Nat) : Int) := by
  subst hT
  have e1 : (((v / 65536 % 256 * 256 + v / 16777216) * 65536 + (v % 256 * 256 + v / 256 % 256) : Nat) : Int) / 65536 = ((v / 65536 % 256 * 256 + v / 16777216 : Nat) : Int) := by omega
  have e2 : (((v / 65536 % 256 * 256 + v / 16777216) * 65536 + (v % 256 * 256 + v / 256 % 256) : Nat) : Int) * 65536 % 4294967296 = (((v % 256 * 256 + v / 256 % 256) * 65536 : Nat) : Int) := by omega
  rw [e1, e2, or_u32 (by omega) (by omega), Nat.or_comm]
  have e3 := or_add (k := 16) (v % 256 * 256 + v / 256 % 256) (show v / 65536 % 256 * 256 + v / 16777216 < 2 ^ 16 by omega)
  have e16 : (2 : Nat) ^ 16 = 65536 := by decide
  rw [e16] at e3
  rw [e3]
  unfold revN
  omega
set_option maxHeartbeats 400000 in
theorem rev_calls (v : Nat) (hv : v < 4294967296) (w : World) :
    Calls Tryz.prog 136 #[.int .u32 v] w fun e w' => e = .returned (.int .u32 (revN v : Nat)) ∧ w = w' := by
  go_enter Tryz.func136, Tryz.ntmps136
  go_wp2_with fail
  rw [rev_bits hv (rev_half hv)]
  go_ret
  exact ⟨rfl, rfl⟩
theorem four_bytes (a b c d : UInt8) (g : Nat) (w : World) (h0 : w.cell? ⟨g, 0, none⟩ = some (.int .u8 (a.toNat : Int))) (h1 : w.cell? ⟨g, 1, none⟩ = some (.int .u8 (b.toNat : Int))) (h2 : w.cell? ⟨g, 2, none⟩ = some (.int .u8 (c.toNat : Int))) (h3 : w.cell? ⟨g, 3, none⟩ = some (.int .u8 (d.toNat : Int))) :
    (convert 104 9 (.slice (some ⟨g, 0, none⟩) 4 4)).run Tryz.prog w = .ok (.string ⟨#[a, b, c, d]⟩) w :=
  run_convert_bytes_back w _ _ 5 ⟨g, 0, none⟩ 4 [a, b, c, d] Tryz.underlying104 Tryz.underlying5 Tryz.underlying9 (fun j hj => by
    match j, hj with
    | 0, _ => exact h0
    | 1, _ => exact h1
    | 2, _ => exact h2
    | 3, _ => exact h3
    | _ + 4, hj => simp at hj; omega)
theorem rev_parts {a b c d r : Nat} (ha : a < 256) (hb : b < 256) (hc : c < 256) (hd : d < 256) (hr : a * 16777216 + b * 65536 + c * 256 + d = r) :
    (r : Int) / 16777216 = (a : Int) ∧ (r : Int) / 65536 % 256 = (b : Int) ∧ (r : Int) / 256 % 256 = (c : Int) ∧ (r : Int) % 256 = (d : Int) := by
  subst hr
  refine ⟨?_, ?_, ?_, ?_⟩ <;> omega
set_option maxRecDepth 100000 in
set_option maxHeartbeats 400000 in
theorem four_calls (v : Nat) (hv : v < 4294967296) (w : World) :
    Calls Tryz.prog 101 #[.int .u32 v] w fun e w' => e = .returned (.string ⟨(fourT v).toArray⟩) ∧ Below w.heap.size w w' := by
  have HR := Lib.hid (rev_calls v hv w)
  obtain ⟨r, hr⟩ : ∃ r, revN v = r := ⟨_, rfl⟩
  rw [hr] at HR
  have hr2 : r < 4294967296 := by rw [← hr]; unfold revN; omega
  obtain ⟨b0, h0⟩ : ∃ b, UInt8.ofNat v = b := ⟨_, rfl⟩
  obtain ⟨b1, h1⟩ : ∃ b, UInt8.ofNat (v / 256) = b := ⟨_, rfl⟩
  obtain ⟨b2, h2⟩ : ∃ b, UInt8.ofNat (v / 65536) = b := ⟨_, rfl⟩
  obtain ⟨b3, h3⟩ : ∃ b, UInt8.ofNat (v / 16777216) = b := ⟨_, rfl⟩
  obtain ⟨p0, p1, p2, p3⟩ := rev_parts (a := v % 256) (b := v / 256 % 256) (c := v / 65536 % 256) (d := v / 16777216) (by omega) (by omega) (by omega) (by omega) hr
  have k0 : (r : Int) / 16777216 = (b0.toNat : Int) := by rw [p0, ← h0, UInt8.toNat_ofNat']
  have k1 : (r : Int) / 65536 % 256 = (b1.toNat : Int) := by rw [p1, ← h1, UInt8.toNat_ofNat']
  have k2 : (r : Int) / 256 % 256 = (b2.toNat : Int) := by rw [p2, ← h2, UInt8.toNat_ofNat']
  have k3 : (r : Int) % 256 = (b3.toNat : Int) := by rw [p3, ← h3, UInt8.toNat_ofNat']; omega
  have hcv := four_bytes b0 b1 b2 b3 w.heap.size (w.alloc (.cells #[.int .u8 ((r : Int) / 16777216), .int .u8 ((r : Int) / 65536 % 256), .int .u8 ((r : Int) / 256 % 256), .int .u8 ((r : Int) % 256)] 5)) (by rw [k0]; simp [go_sem]) (by rw [k1]; simp [go_sem]) (by rw [k2]; simp [go_sem]) (by rw [k3]; simp [go_sem])
  have hb : Below w.heap.size w (w.alloc (.cells #[.int .u8 ((r : Int) / 16777216), .int .u8 ((r : Int) / 65536 % 256), .int .u8 ((r : Int) / 256 % 256), .int .u8 ((r : Int) % 256)] 5)) := (Below.refl _ _).alloc (Nat.le_refl _) _
  have hfin : (⟨#[b0, b1, b2, b3]⟩ : ByteArray) = ⟨(fourT v).toArray⟩ := by rw [← h0, ← h1, ← h2, ← h3]; rfl
  have HFIN := Lib.hid hfin
  have HB := Lib.hid hb
  clear k0 k1 k2 k3 h0 h1 h2 h3 hr hfin hb p0 p1 p2 p3
  go_enter Tryz.func101, Tryz.ntmps101
  go_wp2_with fail
  refine HR.out.mono ?_
  rintro _ w1 ⟨rfl, rfl⟩
  go_wp2_with fail
  go_ret
  exact ⟨by first | rfl | (rw [HFIN.out]; rfl), HB.out⟩

/-! ### sums -/
/-- The table of the remainders as it lies. -/
def NibTab (w : World) : Prop := ∀ i, i < 16 → w.cell? ⟨7, i, none⟩ = some (.int .u32 (nibs.getD i 0 : Nat))
theorem NibTab.below {B : Nat} {w w' : World} (h : NibTab w) (hB : 7 < B) (hb : Below B w w') : NibTab w' := fun i hi => (hb.cell (p := ⟨7, i, none⟩) hB).trans (h i hi)
theorem and15 {c : Nat} (h : c < 4294967296) : bits .and .u32 (c : Int) 15 = ((c % 16 : Nat) : Int) := by
  have h1 : bits .and .u32 (c : Int) 15 = ((c &&& 15 : Nat) : Int) := and_u32 h (by decide)
  rw [h1]
  congr 1
  exact Nat.and_two_pow_sub_one_eq_mod c 4
theorem nib_xor {c : Nat} (h : c < 4294967296) : bits .xor .u32 ((nibs.getD (c % 16) 0 : Nat) : Int) ((c : Int) / 16) = ((nibN c : Nat) : Int) := by
  have e1 : (c : Int) / 16 = ((c / 16 : Nat) : Int) := by omega
  rw [e1, xor_u32 (nibs_lt _) (by omega)]
  rfl
set_option maxRecDepth 100000 in
set_option maxHeartbeats 2000000 in
theorem crc_calls (Ao : Option Addr) (n c : Nat) (l : List Txt) (w : World) (h : Strs w Ao n l) (hn : n ≤ 140737488355328) (hs : ∀ s ∈ l, s.length ≤ 140737488355328) (hT : NibTab w) :
    Calls Tryz.prog 102 #[.slice Ao n c] w fun e w' => e = .returned (.int .u32 (crcL l.flatten : Nat)) ∧ w = w' := by
  have hln := h.len
  have HS := Lib.hid hs
  have HH := Lib.hid h
  have HT := Lib.hid hT
  clear hs h hT
  go_enter Tryz.func102, Tryz.ntmps102
  go_wp2_with fail
  go_loopg [3, 9] n (fun g s3 s9 wr => ∃ i c : Nat, i + g = n ∧ s9 = .int .i64 (i : Int) ∧ s3 = .int .u32 (c : Int) ∧ c < 4294967296 ∧ crcF 4294967295 (l.take i).flatten = c ∧ wr = w)
  case atStart => exact ⟨0, 4294967295, by omega, rfl, rfl, by decide, rfl, rfl⟩
  case round =>
    obtain ⟨i, c, hig, rfl, rfl, hc, hcr, rfl⟩ := hrel
    have HIG := Lib.hid hig
    have HCR := Lib.hid hcr
    clear hig hcr
    by_cases hi : i < n
    · have el : decide ((i : Int) < (n : Int)) = true := by simp; omega
      have el' : decide (i < n) = true := by simp; omega
      have hiin : (i : Int) < (n : Int) := by omega
      obtain ⟨b, off, hXe, hbl, x0⟩ := HH.out.at_ hi
      subst hXe
      have hil : i < l.length := by omega
      obtain ⟨T, hT⟩ : ∃ T : ByteArray, (⟨l[i]!.toArray⟩ : ByteArray) = T := ⟨_, rfl⟩
      have hTl : T.data.toList = l[i]! := by rw [← hT]
      have hTs : T.size ≤ 140737488355328 := by
        have := HS.out l[i]! (by rw [getElem!_pos l i hil]; exact List.getElem_mem _)
        rw [← hTl, text_size3] at this
        exact this
      unfold txtV at x0
      rw [hT] at x0
      have hft := flat_take hil
      rw [← hTl] at hft
      have HFT := Lib.hid hft
      obtain ⟨og, rfl⟩ : ∃ x, x = gk := ⟨_, rfl⟩
      clear hft hT hTl
      go_wp2_with fail
      go_loopg [3, 15] T.size (fun g s3 s15 wr2 => ∃ j c : Nat, j + g = T.size ∧ s15 = .int .i64 (j : Int) ∧ s3 = .int .u32 (c : Int) ∧ c < 4294967296 ∧ crcF 4294967295 ((l.take i).flatten ++ T.data.toList.take j) = c ∧ wr2 = wr)
      case atStart => exact ⟨0, c, by omega, rfl, rfl, hc, by rw [List.take_zero, List.append_nil]; exact HCR.out, rfl⟩
      case round =>
        obtain ⟨j, c', hjg, rfl, rfl, hc', hcr', rfl⟩ := hrel
        have HJG := Lib.hid hjg
        have HCR2 := Lib.hid hcr'
        clear hjg hcr'
        by_cases hj : j < T.size
        · have fl : decide ((j : Int) < (T.size : Int)) = true := by simp; omega
          have fl' : decide (j < T.size) = true := by simp; omega
          have hjin : (j : Int) < (T.size : Int) := by omega
          have hbt := UInt8.toNat_lt T[j]
          obtain ⟨c0, hc0⟩ : ∃ x, c' ^^^ T[j].toNat = x := ⟨_, rfl⟩
          have hx0 : bits .xor .u32 (c' : Int) (T[j].toNat : Int) = (c0 : Int) := by rw [← hc0]; exact xor_u32 hc' (by omega)
          have hl0 : c0 < 4294967296 := by rw [← hc0]; exact xor_lt32 hc' (by omega)
          obtain ⟨i0, hi0⟩ : ∃ x, c0 % 16 = x := ⟨_, rfl⟩
          have ha0 : bits .and .u32 (c0 : Int) 15 = (i0 : Int) := by rw [← hi0]; exact and15 hl0
          have hi16 : i0 < 16 := by omega
          obtain ⟨n0, hn0⟩ : ∃ x, nibs.getD i0 0 = x := ⟨_, rfl⟩
          have hm0 := HT.out i0 hi16
          rw [hn0] at hm0
          obtain ⟨c1, hc1⟩ : ∃ x, nibN c0 = x := ⟨_, rfl⟩
          have hy0 : bits .xor .u32 (n0 : Int) ((c0 : Int) / 16) = (c1 : Int) := by rw [← hn0, ← hi0, ← hc1]; exact nib_xor hl0
          have hl1 : c1 < 4294967296 := by rw [← hc1]; exact nibN_lt hl0
          obtain ⟨i1, hi1⟩ : ∃ x, c1 % 16 = x := ⟨_, rfl⟩
          have ha1 : bits .and .u32 (c1 : Int) 15 = (i1 : Int) := by rw [← hi1]; exact and15 hl1
          have hi17 : i1 < 16 := by omega
          obtain ⟨n1, hn1⟩ : ∃ x, nibs.getD i1 0 = x := ⟨_, rfl⟩
          have hm1 := HT.out i1 hi17
          rw [hn1] at hm1
          obtain ⟨c2, hc2⟩ : ∃ x, nibN c1 = x := ⟨_, rfl⟩
          have hy1 : bits .xor .u32 (n1 : Int) ((c1 : Int) / 16) = (c2 : Int) := by rw [← hn1, ← hi1, ← hc2]; exact nib_xor hl1
          have hl2 : c2 < 4294967296 := by rw [← hc2]; exact nibN_lt hl1
          have hnext : crcF 4294967295 ((l.take i).flatten ++ T.data.toList.take (j + 1)) = c2 := by
            have e : T.data.toList.take (j + 1) = T.data.toList.take j ++ [T[j]] := by
              rw [List.take_add_one, List.getElem?_eq_getElem (by simpa using hj)]
              simp [ByteArray.getElem_eq_getElem_data]
            rw [e, ← List.append_assoc, crcF_snoc, HCR2.out, ← hc2, ← hc1, ← hc0]
            rfl
          have HNX := Lib.hid hnext
          clear hnext hc0 hc1 hc2 hn0 hn1 hi0 hi1
          go_wp2_with fail
          go_roundg (gk - 1)
          case measure => have := HJG.out; omega
          case rel => exact ⟨j + 1, c2, by have := HJG.out; omega, by go_num, rfl, hl2, HNX.out, rfl⟩
        · have fl : decide ((j : Int) < (T.size : Int)) = false := by simp; omega
          have fl' : decide (j < T.size) = false := by simp; omega
          have hfull : crcF 4294967295 (l.take (i + 1)).flatten = c' := by
            have := HCR2.out
            have e : T.data.toList.take j = T.data.toList := List.take_of_length_le (by rw [text_size3]; omega)
            rw [e, ← HFT.out] at this
            exact this
          have HF := Lib.hid hfull
          clear hfull
          go_wp2_with fail
          go_roundg (og - 1)
          case measure => have := HIG.out; omega
          case rel => exact ⟨i + 1, c', by have := HIG.out; omega, by go_num, rfl, hc', HF.out, rfl⟩
    · have el : decide ((i : Int) < (n : Int)) = false := by simp; omega
      have el' : decide (i < n) = false := by simp; omega
      have hend : bits .xor .u32 IntKind.u32.max (c : Int) = ((crcL l.flatten : Nat) : Int) := by
        have h1 : bits .xor .u32 IntKind.u32.max (c : Int) = ((4294967295 ^^^ c : Nat) : Int) := xor_u32 (a := 4294967295) (by decide) hc
        have h2 := HCR.out
        rw [List.take_of_length_le (by omega)] at h2
        rw [h1]
        unfold crcL
        rw [h2, Nat.xor_comm]
      go_wp2_with fail
      go_ret
      exact ⟨rfl, rfl⟩
def leV : List UInt8 → Nat
  | [] => 0
  | b :: l => b.toNat + 256 * leV l
theorem leV_num {l : List UInt8} (h : 4 ≤ l.length) : leV (l.take 4) = numT l := by
  match l, h with
  | a :: b :: c :: d :: r, _ =>
    simp only [List.take_succ_cons, List.take_zero, leV, numT]
    omega
theorem leV_lt : ∀ l : List UInt8, leV l < 256 ^ l.length
  | [] => by simp [leV]
  | b :: l => by
    have := leV_lt l
    have := UInt8.toNat_lt b
    rw [leV, List.length_cons, Nat.pow_succ]
    omega
theorem or_byte {v b : Nat} (hv : v < 16777216) (hb : b < 256) : bits .or .u32 ((v : Int) * 256) (b : Int) = ((b + 256 * v : Nat) : Int) := by
  have e1 : (v : Int) * 256 = ((v * 256 : Nat) : Int) := by omega
  rw [e1, or_u32 (by omega) (by omega)]
  have e3 := or_add (k := 8) v (show b < 2 ^ 8 from hb)
  have e8 : (2 : Nat) ^ 8 = 256 := by decide
  rw [e8] at e3
  rw [e3]
  congr 1
  omega
set_option maxRecDepth 100000 in
set_option maxHeartbeats 1000000 in
theorem number_calls (s : ByteArray) (hs : 4 ≤ s.size) (hz : s.size ≤ 140737488355328) (w : World) :
    Calls Tryz.prog 109 #[.string s] w fun e w' => e = .returned (.int .u32 (numT s.data.toList : Nat)) ∧ w = w' := by
  have hfin := leV_num (l := s.data.toList) (by rw [text_size3]; exact hs)
  have HFIN := Lib.hid hfin
  clear hfin
  have hl4 : (s.data.toList.take 4).length = 4 := by rw [List.length_take, text_size3]; omega
  go_enter Tryz.func109, Tryz.ntmps109
  go_wp2_with fail
  go_loopg [3, 4] 4 (fun g s3 s4 wr => ∃ v : Nat, g ≤ 4 ∧ s4 = .int .i64 ((g : Int) - 1) ∧ s3 = .int .u32 (v : Int) ∧ leV ((s.data.toList.take 4).drop g) = v ∧ wr = w)
  case atStart => exact ⟨0, by omega, rfl, rfl, by rw [List.drop_of_length_le (by omega)]; rfl, rfl⟩
  case round =>
    obtain ⟨v, hg4, rfl, rfl, hv, rfl⟩ := hrel
    have hvl := leV_lt ((s.data.toList.take 4).drop gk)
    rw [hv, List.length_drop, hl4] at hvl
    by_cases hg : 0 < gk
    · obtain ⟨j, rfl⟩ : ∃ j, gk = j + 1 := ⟨gk - 1, by omega⟩
      have ej : ((j + 1 : Nat) : Int) - 1 = (j : Int) := by omega
      rw [ej]
      have el : decide ((0 : Int) ≤ (j : Int)) = true := by simp
      have hj : j < s.size := by omega
      have hbt := UInt8.toNat_lt s[j]
      have hv24 : v < 16777216 := by
        refine Nat.lt_of_lt_of_le hvl ?_
        have : 256 ^ (4 - (j + 1)) ≤ 256 ^ 3 := Nat.pow_le_pow_right (by decide) (by omega)
        exact this
      have hor := or_byte hv24 hbt
      have hn : leV ((s.data.toList.take 4).drop j) = s[j].toNat + 256 * v := by
        have hjl : j < (s.data.toList.take 4).length := by omega
        rw [List.drop_eq_getElem_cons hjl, leV, hv]
        congr 2
        rw [List.getElem_take]
        simp [ByteArray.getElem_eq_getElem_data]
      have HN := Lib.hid hn
      clear hn hv hvl
      go_wp2_with fail
      go_roundg j
      case measure => omega
      case rel => exact ⟨_, by omega, by go_num, rfl, HN.out, rfl⟩
    · obtain rfl : gk = 0 := by omega
      have el : decide ((0 : Int) ≤ ((0 : Nat) : Int) - 1) = false := by simp
      rw [List.drop_zero, HFIN.out] at hv
      subst hv
      go_wp2_with fail
      go_ret
      exact ⟨rfl, rfl⟩
end

section
open Go.RowKit
attribute [local go_sem ↓] Go.wp_at_zero Go.wp_at_succ
attribute [local go_sem] Later.cell Later.frozen

theorem NibTab.lt {w : World} (h : NibTab w) : 7 < w.heap.size := lt_of_cell (h 0 (by decide))
theorem strs_one {w : World} {b : Nat} {S : ByteArray} (h : Blk w b 9 #[.string S]) : Strs w (some ⟨b, 0, none⟩) 1 [S.data.toList] := strs_of (by unfold txtV; exact h)
/-- The sum of one text. -/
theorem crc_one {w : World} {b c : Nat} {S : ByteArray} (h : Blk w b 9 #[.string S]) (hS : S.size ≤ 140737488355328) (hT : NibTab w) :
    Calls Tryz.prog 102 #[.slice (some ⟨b, 0, none⟩) 1 c] w fun e w' => e = .returned (.int .u32 (crcL S.data.toList : Nat)) ∧ w = w' := by
  have h1 := crc_calls (some ⟨b, 0, none⟩) 1 c [S.data.toList] w (strs_one h) (by decide) (fun s hs => by rw [List.mem_singleton.1 hs, text_size3]; exact hS) hT
  have e : [S.data.toList].flatten = S.data.toList := by simp
  rw [e] at h1
  exact h1
end
end Go.Proofs.YtfpgbhimgfdddaaGreatDoor
