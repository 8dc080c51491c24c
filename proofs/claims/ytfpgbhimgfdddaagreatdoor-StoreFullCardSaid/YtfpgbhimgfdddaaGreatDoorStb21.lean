/- Merged: DskTwo, DskJoin, DskJoin2, DskJoin3, DskWakes, DskRun, DskPlays, DskOne, OpenS, OpenRow, OpenBulk. -/
import Derived.Test.YtfpgbhimgfdddaaGreatDoorStb20
import Derived.Test.YtfpgbhimgfdddaaGreatDoorStb19
import Derived.Test.YtfpgbhimgfdddaaGreatDoorRows
import Derived.ProofKit
import Derived.SizedLaws
import Derived.OpenShut
import Derived.ChangeMaps5
import Derived.Test.YtfpgbhimgfdddaaGreatDoorStb01
import Derived.Deep.Slices
set_option linter.unusedVariables false
set_option linter.unusedSimpArgs false
/-! ## DskTwo -/
/- Layer 3's law: the code's disk and the document's, side by side. -/
namespace Go.Proofs.YtfpgbhimgfdddaaGreatDoor
open Go.RowKit Go.Shelf Go.Maps Go.Sort

/-- What lies below all disks: the failures. -/
structure Env (B0 : Nat) (a : Nat → Addr) (w : World) : Prop where
  f : Fails B0 a w
  g : Fail6 B0 a w
  s : Sents B0 a w
theorem Env.below {B0 : Nat} {a : Nat → Addr} {w w' : World} (h : Env B0 a w) (hb : Below B0 w w') : Env B0 a w' := ⟨h.f.below hb, h.g.below hb, h.s.below hb⟩
def mix (R S : Nat → Nat) : Nat → Nat := fun k => R k + S k
section
variable {B0 M : Nat} {a : Nat → Addr} {R R' S S' : Nat → Nat} {A A' : Adr} {B B' : RAdr} {d d' : Ds} {w w' w'' : World}
theorem Own.mixL (h : Own R R' w w') : Own (mix R S) (mix R' S) w w' :=
  ⟨h.os, h.tape, h.output, h.size, fun k hk h0 => h.block k hk (by unfold mix at h0; omega), fun k hk => by unfold mix; rw [h.old k hk]⟩
theorem Own.mixR (h : Own S S' w w') : Own (mix R S) (mix R S') w w' :=
  ⟨h.os, h.tape, h.output, h.size, fun k hk h0 => h.block k hk (by unfold mix at h0; omega), fun k hk => by unfold mix; rw [h.old k hk]⟩
/-- The code's call is over, the document's not yet. -/
structure Half (B0 : Nat) (a : Nat → Addr) (R : Nat → Nat) (A : Adr) (r : Nat × Ds) (op s : ByteArray) (w : World) (v : Value) (w' : World) : Prop where
  ex : ∃ R' A', ErrV a w' op s r.1 v ∧ CD B0 w' R' A' r.2 ∧ Own R R' w w' ∧ A'.p = A.p
theorem Half.keep {r : Nat × Ds} {op s : ByteArray} {v : Value} (h : Half B0 a R A r op s w v w') {q : Nat} (hq : q < w.heap.size) (h0 : R q = 0) : w'.heap[q]? = w.heap[q]? := by
  obtain ⟨R', A', h1, h2, h3, h4⟩ := h.ex
  exact h3.block q hq h0
theorem Half.of {r : Nat × Ds} {op s : ByteArray} {f : FuncId} {args : Array Value} (h : Calls Tryz.prog f args w (NamesOutF B0 a R A r op s w)) : Calls Tryz.prog f args w fun e w' => ∃ v, e = .returned v ∧ Half B0 a R A r op s w v w' :=
  h.mono fun _ _ ⟨v, R', A', h1, h2, h3, h4, h5, _⟩ => ⟨v, h1, R', A', h2, h3, h4, h5⟩
theorem Half.of_ {r : Nat × Ds} {op s : ByteArray} {f : FuncId} {args : Array Value} (h : Calls Tryz.prog f args w (NamesOut B0 a R A r op s w)) : Calls Tryz.prog f args w fun e w' => ∃ v, e = .returned v ∧ Half B0 a R A r op s w v w' :=
  h.mono fun _ _ ⟨v, R', A', h1, h2, h3, h4, h5, _⟩ => ⟨v, h1, R', A', h2, h3, h4, h5⟩

/-! ### the failures' numbers -/
theorem stepD_le (d : Ds) : (stepD d).1 ≤ 7 := by
  unfold stepD
  repeat' split
  all_goals simp
theorem namesD_le (d : Ds) (s : St) : (namesD d s).1 ≤ 7 := by
  unfold namesD
  have := stepD_le d
  repeat' split
  all_goals first | exact this | simp
theorem mkdirD_le (d : Ds) (s : Txt) : (mkdirD d s).1 ≤ 7 := by
  unfold mkdirD
  have := namesD_le d (.mkdir s)
  repeat' split
  all_goals first | exact this | simp
theorem createD_le (d : Ds) (s : Txt) : (createD d s).1 ≤ 7 := by
  unfold createD
  have := stepD_le d
  repeat' split
  all_goals first | exact this | simp
theorem removeD_le (d : Ds) (s : Txt) : (removeD d s).1 ≤ 7 := by
  unfold removeD
  have := namesD_le d (.remove s)
  repeat' split
  all_goals first | exact this | simp
theorem renameD_le (d : Ds) (s t : Txt) : (renameD d s t).1 ≤ 7 := by
  unfold renameD
  have := namesD_le d (.rename s t)
  repeat' split
  all_goals first | exact this | simp
theorem fileD_le {d : Ds} {s : Txt} {e : Nat} (h : fileD d s = .error e) : e ≤ 7 := by
  unfold fileD fileT at h
  repeat' split at h
  all_goals first | (cases h; done) | (injection h with h; omega)
theorem appendD_le (d : Ds) (s t : Txt) : (appendD d s t).1 ≤ 7 := by
  unfold appendD
  have := stepD_le d
  split
  · rename_i e h; exact fileD_le h
  · repeat' split
    all_goals first | exact this | simp
theorem cutD_le (d : Ds) (s : Txt) (n : Int) : (cutD d s n).1 ≤ 7 := by
  unfold cutD
  have := stepD_le d
  split
  · rename_i e h; exact fileD_le h
  · repeat' split
    all_goals first | exact this | simp
theorem syncD_le (d : Ds) (s : Txt) : (syncD d s).1 ≤ 7 := by
  unfold syncD
  have := stepD_le d
  split
  · rename_i e h; exact fileD_le h
  · repeat' split
    all_goals first | exact this | simp
theorem syncNamesD_le (d : Ds) : (syncNamesD d).1 ≤ 7 := by
  unfold syncNamesD
  have := stepD_le d
  repeat' split
  all_goals first | exact this | simp
theorem flipD_le (d : Ds) (s : Txt) (k : Int) (m : UInt8) : (flipD d s k m).1 ≤ 7 := by
  unfold flipD
  split
  · rename_i e h; exact fileD_le h
  · repeat' split
    all_goals simp
theorem allD_le (d : Ds) (s : Txt) : (allD d s).2 ≤ 7 := by
  unfold allD
  split
  · rename_i e h; exact fileD_le h
  · simp
theorem readD_le (d : Ds) (s : Txt) (k n : Int) : (readD d s k n).2 ≤ 7 := by
  unfold readD
  have := allD_le d s
  repeat' split
  all_goals first | exact this | simp
theorem listD_le (d : Ds) (s : Txt) : (listD d s).2 ≤ 7 := by
  unfold listD
  repeat' split
  all_goals simp

/-! ### what a well-formed disk gives the walks -/
theorem WF.nl (h : WF M d) (hM : M ≤ 536870912) : ∀ i, (Go.Proofs.YtfpgbhimgfdddaaGreatDoor.fAt d i).now.length ≤ 1073741824 := fun i => by have := (h.fAt i).now; omega
theorem WF.sl (h : WF M d) (hM : M ≤ 536870912) : ∀ i, (Go.Proofs.YtfpgbhimgfdddaaGreatDoor.fAt d i).steps.length ≤ 1073741824 := fun i => by have := (h.fAt i).sl; omega
theorem WF.usedL (h : WF M d) : ∀ l : List Th, Go.Proofs.YtfpgbhimgfdddaaGreatDoor.usedL d l ≤ l.length * M
  | [] => by simp [Go.Proofs.YtfpgbhimgfdddaaGreatDoor.usedL]
  | x :: l => by
    have h1 := h.usedL l
    have h2 : (if x.dir then 0 else (nowAt d x.at_).length) ≤ M := by
      split
      · omega
      · have := (h.fAt x.at_).now; exact this
    have h3 : Go.Proofs.YtfpgbhimgfdddaaGreatDoor.usedL d (x :: l) = (if x.dir then 0 else (nowAt d x.at_).length) + Go.Proofs.YtfpgbhimgfdddaaGreatDoor.usedL d l := by simp [Go.Proofs.YtfpgbhimgfdddaaGreatDoor.usedL]
    rw [h3, List.length_cons, Nat.add_mul]
    omega
theorem WF.used (h : WF M d) (hM : M ≤ 536870912) : Go.Proofs.YtfpgbhimgfdddaaGreatDoor.usedL d d.things ≤ 4611686018427387904 := by
  have h1 := h.usedL d.things
  have h2 := h.tl
  have h3 : d.things.length * M ≤ 536870912 * 536870912 := Nat.mul_le_mul (by omega) hM
  omega
theorem WF.capl (h : WF M d) : d.cap ≤ 4611686018427387904 := by have := h.cap; omega
end
end Go.Proofs.YtfpgbhimgfdddaaGreatDoor

/-! ## DskJoin -/
/- Layer 3's law: step at the two disks (printed by gen_lawjoin.py). -/
namespace Go.Proofs.YtfpgbhimgfdddaaGreatDoor
open Go.RowKit Go.Shelf Go.Maps Go.Sort

structure OpM (w : World) (Q : Nat → Nat) (o : OpV) (parts : List Txt) (data : List Int) (L : Nat) : Prop where
  a : o.a.size ≤ 1073741824
  b : o.b.size ≤ 1073741824
  n1 : -9223372036854775808 ≤ o.n
  n2 : o.n ≤ 9223372036854775807
  m1 : -9223372036854775808 ≤ o.m
  m2 : o.m ≤ 9223372036854775807
  ps : Strs w o.pa o.pn parts
  pc : o.pn ≤ o.pc
  pn : o.pn * 16 ≤ 140737488351232
  p0 : o.pa = none → o.pc = 0
  po : ∀ x, o.pa = some x → 0 < o.pn → Q x.block = 0
  fl : parts.flatten.length ≤ L
  ds : Ints3 w o.da o.dn data
  dn : o.dn * 8 ≤ 140737488355328
  d0 : o.da = none → o.dc = 0
  do_ : ∀ x, o.da = some x → 0 < o.dn → Q x.block = 0
  dr : ∀ x ∈ data, -9223372036854775808 ≤ x ∧ x ≤ 9223372036854775807
def byteOf (m : Int) : UInt8 := UInt8.ofNat (m % 256).toNat
theorem byteOf_val (m : Int) : ((byteOf m).toNat : Int) = m % 256 := by
  unfold byteOf
  rw [UInt8.toNat_ofNat']
  have h1 := Int.emod_nonneg m (by decide : (256 : Int) ≠ 0)
  have h2 := Int.emod_lt_of_pos m (by decide : (0 : Int) < 256)
  omega
/-- What a call does with the disk. -/
def opD (d : Ds) (o : OpV) (parts : List Txt) (data : List Int) : Ds :=
  if o.kind = 1 then (mkdirD d o.a.data.toList).2 else if o.kind = 2 then (createD d o.a.data.toList).2 else if o.kind = 3 then (appendD d o.a.data.toList parts.flatten).2
  else if o.kind = 4 then (cutD d o.a.data.toList o.n).2 else if o.kind = 5 then (syncD d o.a.data.toList).2 else if o.kind = 6 then (syncNamesD d).2
  else if o.kind = 7 then (renameD d o.a.data.toList o.b.data.toList).2 else if o.kind = 8 then (removeD d o.a.data.toList).2
  else if o.kind = 12 then crashD d o.n else if o.kind = 13 then restartD d o.n data o.yes else if o.kind = 14 then (flipD d o.a.data.toList o.n (byteOf o.m)).2 else d
section
variable {B0 M : Nat} {a : Nat → Addr} {R S : Nat → Nat} {A : Adr} {B : RAdr} {d : Ds} {w w' : World}
theorem WF.op (h : WF M d) (o : OpV) (parts : List Txt) (data : List Int) (hn : o.n ≤ 9223372036854775807) {L : Nat} (hL : parts.flatten.length ≤ L) : WF (M + L + 1) (opD d o parts data) := by
  have h0 : WF (M + L + 1) d := h.more (by omega)
  have hp : ∀ {x : Ds}, WF (M + 1) x → WF (M + L + 1) x := fun k => k.more (by omega)
  unfold opD
  repeat' split
  · exact hp (h.mkdir _)
  · exact hp (h.create _)
  · exact (h.append _ _).more (by omega)
  · exact hp (h.cut _ _)
  · exact hp (h.sync _)
  · exact hp h.syncNames
  · exact hp (h.rename _ _)
  · exact hp (h.remove _)
  · exact hp (h.crash hn)
  · exact hp (h.restart _ _ _)
  · exact hp (h.flip _ _ _)
  · exact h0
theorem OpM.same {Q : Nat → Nat} {o : OpV} {parts : List Txt} {data : List Int} {L : Nat} (h : OpM w Q o parts data L) (hs : w.heap.size ≤ w'.heap.size) (hk : ∀ k, k < w.heap.size → Q k = 0 → w'.heap[k]? = w.heap[k]?) : Strs w' o.pa o.pn parts ∧ Ints3 w' o.da o.dn data := by
  constructor
  · refine ⟨h.ps.1, fun h0 => ?_⟩
    obtain ⟨b, off, e, hb, hc⟩ := h.ps.2 h0
    refine ⟨b, off, e, by omega, fun i x hx j v hv => ?_⟩
    rw [← hc i x hx j v hv]
    exact World.cell?_of_block (hk b hb (h.po _ e h0))
  · refine ⟨h.ds.1, fun h0 => ?_⟩
    obtain ⟨b, off, e, hb, hc⟩ := h.ds.2 h0
    refine ⟨b, off, e, by omega, fun i x hx j v hv => ?_⟩
    rw [← hc i x hx j v hv]
    exact World.cell?_of_block (hk b hb (h.do_ _ e h0))
end
end Go.Proofs.YtfpgbhimgfdddaaGreatDoor

/-! ## DskJoin2 -/
/- Layer 3's law: step at the two disks: the other arms (printed by gen_lawjoin2.py). -/
namespace Go.Proofs.YtfpgbhimgfdddaaGreatDoor
open Go.RowKit Go.Shelf Go.Maps Go.Sort
section
variable {B0 M : Nat} {a : Nat → Addr} {R S : Nat → Nat} {A : Adr} {B : RAdr} {d : Ds} {w w' : World}
theorem Half.back {r : Nat × Ds} {op s : ByteArray} {v : Value} {w1 : World} (h : Half B0 a R A r op s w v w') (hb : Below w1.heap.size w1 w) : Half B0 a R A r op s w1 v w' := by
  obtain ⟨R', A', h1, h2, h3, h4⟩ := h.ex
  exact ⟨R', A', h1, h2, (Own.of_below hb).trans h3, h4⟩
theorem sortE_len (d : Ds) (X : Txt) : (listD d X).1.length ≤ d.things.length := by
  unfold listD
  repeat' split
  · exact Nat.zero_le _
  · exact Nat.zero_le _
  · exact Nat.zero_le _
  · exact Nat.zero_le _
  · rw [(sortE_perm _).length_eq]; exact List.length_filterMap_le _ _
end
end Go.Proofs.YtfpgbhimgfdddaaGreatDoor

/-! ## DskJoin3 -/
/- Layer 3's law: power at the two disks; step at any call; alike (printed by gen_lawjoin3.py). -/
namespace Go.Proofs.YtfpgbhimgfdddaaGreatDoor
open Go.RowKit Go.Shelf Go.Maps Go.Sort
section
variable {B0 M : Nat} {a : Nat → Addr} {R S : Nat → Nat} {A : Adr} {B : RAdr} {d : Ds} {w w' : World}
/-- The code's call without an answer is over. -/
structure HalfP (B0 : Nat) (R : Nat → Nat) (A : Adr) (d' : Ds) (w w' : World) : Prop where
  ex : ∃ R' A', CD B0 w' R' A' d' ∧ Own R R' w w' ∧ A'.p = A.p
theorem HalfP.back {d' : Ds} {w1 : World} (h : HalfP B0 R A d' w w') (hb : Below w1.heap.size w1 w) : HalfP B0 R A d' w1 w' := by
  obtain ⟨R', A', k2, k3, k4⟩ := h.ex
  exact ⟨R', A', k2, (Own.of_below hb).trans k3, k4⟩
end
end Go.Proofs.YtfpgbhimgfdddaaGreatDoor

/-! ## DskWakes -/
/- Layer 3's law: wakes. -/
namespace Go.Proofs.YtfpgbhimgfdddaaGreatDoor
open Go.RowKit Go.Shelf Go.Maps Go.Sort
attribute [local go_sem ↓] Go.wp_at_zero Go.wp_at_succ
attribute [local go_sem] Later.cell Later.frozen

section
variable {B0 : Nat} {a : Nat → Addr}
def wk0 : Ds := newD 9
def wk1 : Ds := (createD wk0 [97]).2
def wk2 : Ds := (syncNamesD wk1).2
def wk3 : Ds := (appendD wk2 [97] [120, 121, 122]).2
def wk4 : Ds := (syncD wk3 [97]).2
def wk5 : Ds := (appendD wk4 [97] [117, 118]).2
def wk6 : Ds := restartD wk5 0 [1] true
theorem wk_w0 : WF 1 wk0 := (WF.new 9).more (by omega)
theorem wk_w1 : WF 2 wk1 := wk_w0.create _
theorem wk_w2 : WF 3 wk2 := wk_w1.syncNames
theorem wk_w3 : WF 7 wk3 := wk_w2.append [97] [120, 121, 122]
theorem wk_w4 : WF 8 wk4 := wk_w3.sync _
theorem wk_w5 : WF 11 wk5 := wk_w4.append [97] [117, 118]
theorem wk_w6 : WF 12 wk6 := wk_w5.restart _ _ _
theorem wk_n1 : (createD wk0 [97]).1 = 0 := by decide
theorem wk_n2 : (syncNamesD wk1).1 = 0 := by decide
theorem wk_n3 : (appendD wk2 [97] [120, 121, 122]).1 = 0 := by decide
theorem wk_n4 : (syncD wk3 [97]).1 = 0 := by decide
theorem wk_n5 : (appendD wk4 [97] [117, 118]).1 = 0 := by decide
theorem wk_all : allD wk6 [97] = ([120, 121, 122, 117, 0], 0) := by decide
theorem wk_used : usedD wk6 = 5 := by decide
theorem nil_of {a : Nat → Addr} {w : World} {op s : ByteArray} {k : Nat} {v : Value} (h : ErrV a w op s k v) (hk : k = 0) : v = .nilIface := by subst hk; exact h
theorem strs_of {w : World} {b : Nat} {l : List Txt} (h : Blk w b 9 (l.map txtV).toArray) : Strs w (some ⟨b, 0, none⟩) l.length l :=
  ⟨rfl, fun _ => ⟨b, 0, rfl, h.lt, fun i x hx j v hv => by
    match j, hv with
    | 0, hv =>
      injection hv with hv
      subst hv
      have h1 := h.cell i
      have h2 : (l.map txtV).toArray[i]? = some (txtV x) := by simp [hx]
      simpa [h2] using h1
    | j + 1, hv => simp [enc1] at hv⟩⟩
end
end Go.Proofs.YtfpgbhimgfdddaaGreatDoor

/-! ## DskRun -/
/- Layer 3's law: two disks through a script. -/
namespace Go.Proofs.YtfpgbhimgfdddaaGreatDoor
open Go.RowKit Go.Shelf Go.Maps Go.Sort

/-- One call of a script, with the texts and the numbers that it hands over. -/
structure OpE where
  o : OpV
  parts : List Txt
  data : List Int
instance : Inhabited OpE := ⟨⟨⟨0, ⟨#[]⟩, ⟨#[]⟩, 0, 0, none, 0, 0, none, 0, 0, false⟩, [], []⟩⟩
def encO (e : OpE) : List Value := e.o.cells.toList
def costO (e : OpE) : Nat := e.parts.flatten.length + 1
def costs (l : List OpE) : Nat := (l.map costO).sum
theorem costs_take {l : List OpE} {i : Nat} (hi : i < l.length) : costs (l.take (i + 1)) = costs (l.take i) + costO l[i]! := by
  unfold costs
  rw [List.take_add_one, List.map_append, List.sum_append, List.getElem?_eq_getElem hi, getElem!_pos l i hi]
  simp
theorem costs_le {l : List OpE} (i : Nat) : costs (l.take i) ≤ costs l := by
  unfold costs
  have h : (l.map costO).sum = ((l.take i).map costO).sum + ((l.drop i).map costO).sum := by rw [← List.sum_append, ← List.map_append, List.take_append_drop]
  omega
structure ScriptM (W : World) (X : Option Addr) (n : Nat) (l : List OpE) : Prop where
  row : Elems W W.heap.size 8 encO X n l
  ops : ∀ e ∈ l, OpM W (fun _ => 0) e.o e.parts e.data e.parts.flatten.length
  n : n ≤ 1073741824
theorem OpM.later {W w : World} {B0 : Nat} {Q : Nat → Nat} {o : OpV} {parts : List Txt} {data : List Int} {L : Nat} (h : OpM W (fun _ => 0) o parts data L) (hB : B0 = W.heap.size) (hb : Below B0 W w) (hQ : ∀ k, k < B0 → Q k = 0) : OpM w Q o parts data L := by
  subst hB
  have hs := h.same hb.size fun k hk _ => hb.block k hk
  refine ⟨h.a, h.b, h.n1, h.n2, h.m1, h.m2, hs.1, h.pc, h.pn, h.p0, fun x hx h0 => ?_, h.fl, hs.2, h.dn, h.d0, fun x hx h0 => ?_, h.dr⟩
  · obtain ⟨b, off, e, hb, _⟩ := h.ps.2 h0
    rw [hx] at e
    injection e with e
    subst e
    exact hQ _ hb
  · obtain ⟨b, off, e, hb, _⟩ := h.ds.2 h0
    rw [hx] at e
    injection e with e
    subst e
    exact hQ _ hb
theorem ops_at {w : World} {X : Option Addr} {n : Nat} {l : List OpE} (h : Elems w w.heap.size 8 encO X n l) {i : Nat} (hi : i < n) : ∃ b off, X = some ⟨b, off, none⟩ ∧ b < w.heap.size ∧
    w.cell? ⟨b, off + i * 8, none⟩ = some (.int .i64 l[i]!.o.kind) ∧ w.cell? ⟨b, off + i * 8 + 1, none⟩ = some (.string l[i]!.o.a) ∧ w.cell? ⟨b, off + i * 8 + 2, none⟩ = some (.string l[i]!.o.b) ∧ w.cell? ⟨b, off + i * 8 + 3, none⟩ = some (.int .i64 l[i]!.o.n)
    ∧ w.cell? ⟨b, off + i * 8 + 4, none⟩ = some (.int .i64 l[i]!.o.m) ∧ w.cell? ⟨b, off + i * 8 + 5, none⟩ = some (.slice l[i]!.o.pa l[i]!.o.pn l[i]!.o.pc) ∧ w.cell? ⟨b, off + i * 8 + 6, none⟩ = some (.slice l[i]!.o.da l[i]!.o.dn l[i]!.o.dc) ∧ w.cell? ⟨b, off + i * 8 + 7, none⟩ = some (.bool l[i]!.o.yes) := by
  obtain ⟨b, off, e, hb, hc⟩ := h.2 (by omega)
  have hl : i < l.length := by have : l.length = n := Elems.len h; omega
  have hx := hc i l[i]! (by rw [getElem!_pos l i hl, List.getElem?_eq_getElem hl])
  exact ⟨b, off, e, hb, by simpa using hx 0 _ rfl, by simpa using hx 1 _ rfl, by simpa using hx 2 _ rfl, by simpa using hx 3 _ rfl, by simpa using hx 4 _ rfl, by simpa using hx 5 _ rfl, by simpa using hx 6 _ rfl, by simpa using hx 7 _ rfl⟩

/-- What a law has at its entry. -/
structure Start (a : Nat → Addr) (W : World) : Prop where
  env : Env W.heap.size a W
  ap : Apart a
section
variable {a : Nat → Addr} {M : Nat} {W w w' : World} {p q : Nat} {d : Ds}
end
end Go.Proofs.YtfpgbhimgfdddaaGreatDoor

/-! ## DskPlays -/
/- Layer 3's laws: DiskPlays. -/
namespace Go.Proofs.YtfpgbhimgfdddaaGreatDoor
open Go.RowKit Go.Shelf Go.Maps Go.Sort
attribute [local go_sem ↓] Go.wp_at_zero Go.wp_at_succ
attribute [local go_sem] Later.cell Later.frozen

end Go.Proofs.YtfpgbhimgfdddaaGreatDoor

/-! ## DskOne -/
/- Layer 3's law DiskSafe: one disk through the law's calls. -/
namespace Go.Proofs.YtfpgbhimgfdddaaGreatDoor
open Go.RowKit Go.Shelf Go.Maps Go.Sort

/-- The code's disk at the place p holds d. -/
structure One (M : Nat) (W w : World) (p : Nat) (d : Ds) : Prop where
  ex : ∃ R A, CD W.heap.size w R A d ∧ A.p = p
  wf : WF M d
  below : Below W.heap.size W w
section
variable {a : Nat → Addr} {M : Nat} {W w w' : World} {p : Nat} {d d' : Ds}
theorem One.later (h : One M W w p d) (hb : Below w.heap.size w w') : One M W w' p d := by
  obtain ⟨R, A, h1, h2⟩ := h.ex
  exact ⟨⟨R, A, h1.below hb, h2⟩, h.wf, h.below.trans (hb.mono h.below.size)⟩
theorem One.more {M' : Nat} (h : One M W w p d) (hM : M ≤ M') : One M' W w p d := ⟨h.ex, h.wf.more hM, h.below⟩
theorem one_new (n : Int) (hn : n ≤ 9223372036854775807) (hn' : -9223372036854775808 ≤ n) (w : World) (hb : Below W.heap.size W w) :
    Calls Tryz.prog 11 #[.int .i64 n] w fun x w1 => ∃ p, x = .returned (.pointer (some ⟨p, 0, none⟩)) ∧ One 0 W w1 p (newD n) :=
  (new_calls W.heap.size n w hb.size hn hn').mono fun x w1 ⟨R, A, e, h1, h2, h3⟩ => ⟨A.p, e, ⟨R, A, h1, rfl⟩, WF.new n, hb.trans (h2.mono hb.size)⟩
def OneOut (M : Nat) (W : World) (p : Nat) (d : Ds) (e : Ending) (w : World) : Prop := e = .returned .nilIface ∧ One M W w p d
theorem One.of {M' : Nat} {r : Nat × Ds} {op s : ByteArray} {R : Nat → Nat} {A : Adr} (h : One M W w A.p d) (hc : CD W.heap.size w R A d) (hr : r = (0, d')) (hw : WF M' r.2) {f : FuncId} {args : Array Value} (hC : Calls Tryz.prog f args w (NamesOutF W.heap.size a R A r op s w)) :
    Calls Tryz.prog f args w (OneOut M' W A.p d') := by
  subst hr
  refine hC.mono ?_
  rintro e w2 ⟨v, R', A', rfl, h1, h2, h3, h4, _⟩
  obtain rfl := nil_of h1 rfl
  exact ⟨rfl, ⟨R', A', h2, h4⟩, hw, h.below.trans (h3.below h.below.size hc.low)⟩
theorem One.mkdir (hF : Fails W.heap.size a W) (h : One M W w p d) (hM : M ≤ 536870912) (S : ByteArray) (hS : S.size ≤ 1073741824) (h0 : mkdirD d S.data.toList = (0, d')) :
    Calls Tryz.prog 86 #[.pointer (some ⟨p, 0, none⟩), .string S] w (OneOut (M + 1) W p d') := by
  obtain ⟨R, A, hc, rfl⟩ := h.ex
  exact One.of h hc h0 (h.wf.mkdir _) ((mkdir_calls S w hc (h.wf.fit hM) hS h.below.size (hF.below h.below)).mono fun _ _ k => k.weak)
theorem One.create (hF : Fails W.heap.size a W) (h : One M W w p d) (hM : M ≤ 536870912) (S : ByteArray) (hS : S.size ≤ 1073741824) (h0 : createD d S.data.toList = (0, d')) :
    Calls Tryz.prog 19 #[.pointer (some ⟨p, 0, none⟩), .string S] w (OneOut (M + 1) W p d') := by
  obtain ⟨R, A, hc, rfl⟩ := h.ex
  exact One.of h hc h0 (h.wf.create _) (create_calls S w hc (h.wf.fit hM) h.wf.nums hS h.below.size (hF.below h.below))
theorem One.append (hF : Fails W.heap.size a W) (h : One M W w p d) (hM : M ≤ 536870912) (S : ByteArray) (hS : S.size ≤ 1073741824) (Ao : Option Addr) (t : Txt) (hl : Strs w Ao 1 [t]) (ht : t.length ≤ 140737488355328) (h0 : appendD d S.data.toList t = (0, d')) :
    Calls Tryz.prog 20 #[.pointer (some ⟨p, 0, none⟩), .string S, .slice Ao 1 1] w (OneOut (M + t.length + 1) W p d') := by
  obtain ⟨R, A, hc, rfl⟩ := h.ex
  have e : [t].flatten = t := by simp
  have hk := append_calls (a := a) S Ao 1 1 [t] w hc (h.wf.fit hM) hS h.below.size (hF.below h.below) hl (by decide) (by decide) (by rw [e]; exact ht) (h.wf.used hM) h.wf.capl (h.wf.nl hM) (h.wf.sl hM)
  rw [e] at hk
  exact One.of h hc h0 (h.wf.append _ _) (hk.mono fun _ _ k => k.weak)
theorem One.sync (hF : Fails W.heap.size a W) (h : One M W w p d) (hM : M ≤ 536870912) (S : ByteArray) (hS : S.size ≤ 1073741824) (h0 : syncD d S.data.toList = (0, d')) :
    Calls Tryz.prog 91 #[.pointer (some ⟨p, 0, none⟩), .string S] w (OneOut (M + 1) W p d') := by
  obtain ⟨R, A, hc, rfl⟩ := h.ex
  exact One.of h hc h0 (h.wf.sync _) ((sync_calls S w hc (h.wf.fit hM) hS h.below.size (hF.below h.below)).mono fun _ _ k => k.weak)
theorem One.syncNames (hF : Fails W.heap.size a W) (h : One M W w p d) (hM : M ≤ 536870912) (h0 : syncNamesD d = (0, d')) :
    Calls Tryz.prog 75 #[.pointer (some ⟨p, 0, none⟩)] w (OneOut (M + 1) W p d') := by
  obtain ⟨R, A, hc, rfl⟩ := h.ex
  exact One.of h hc h0 h.wf.syncNames ((syncNames_calls w hc (h.wf.fit hM) h.below.size (hF.below h.below)).mono fun _ _ k => k.weak)
/-- The list that is handed over need not be a caller's: it lies outside the disk. -/
theorem One.restart (h : One M W w p d) (hM : M ≤ 536870912) (n : Int) (hn1 : -9223372036854775808 ≤ n) (hn2 : n ≤ 9223372036854775807) {w2 : World} (hb : Below w.heap.size w w2) (Ad : Option Addr) (nd cd : Nat) (data : List Int) (z : Bool)
    (hdat : Ints3 w2 Ad nd data) (hdr : ∀ x, Ad = some x → w.heap.size ≤ x.block) (hdb : ∀ x ∈ data, -9223372036854775808 ≤ x ∧ x ≤ 9223372036854775807) (hnd : nd ≤ 140737488355328) :
    Calls Tryz.prog 27 #[.pointer (some ⟨p, 0, none⟩), .int .i64 n, .slice Ad nd cd, .bool z] w2 fun e w' => e = .returned (.tuple #[]) ∧ One (M + 1) W w' p (restartD d n data z) := by
  have h2 := h.later hb
  obtain ⟨R, A, hc, rfl⟩ := h.ex
  refine (restart_calls n Ad nd cd data z w2 (hc.below hb) h.wf hM h2.below.size hn1 hn2 hdat (fun x hx _ => hc.inw.new (hdr x hx)) hdb hnd).mono ?_
  rintro e w3 ⟨R', A', rfl, k1, k2, k3⟩
  exact ⟨rfl, ⟨R', A', k1, k3⟩, h.wf.restart _ _ _, h2.below.trans (k2.below h2.below.size hc.low)⟩
theorem One.all (hF : Fails W.heap.size a W) (h : One M W w p d) (hM : M ≤ 536870912) (S : ByteArray) (hS : S.size ≤ 1073741824) {t : Txt} (h0 : allD d S.data.toList = (t, 0)) :
    Calls Tryz.prog 59 #[.pointer (some ⟨p, 0, none⟩), .string S] w fun e w' => e = .returned (.tuple #[txtV t, .nilIface]) ∧ Below w.heap.size w w' := by
  obtain ⟨R, A, hc, rfl⟩ := h.ex
  refine (all3_calls S w hc (h.wf.fit hM) hS h.below.size (hF.below h.below)).mono ?_
  rintro e w2 ⟨v, rfl, hv, hb⟩
  rw [h0] at hv ⊢
  obtain rfl := nil_of hv rfl
  exact ⟨rfl, hb⟩
theorem One.list (hF : Fails W.heap.size a W) (h : One M W w p d) (hM : M ≤ 536870912) (S : ByteArray) (hS : S.size ≤ 1073741824) (hS0 : S.data.toList ≠ []) {l : List En} (h0 : listD d S.data.toList = (l, 0)) :
    Calls Tryz.prog 29 #[.pointer (some ⟨p, 0, none⟩), .string S] w fun e w' => ∃ X c, e = .returned (.tuple #[.slice X l.length c, .nilIface]) ∧ Below w.heap.size w w' := by
  obtain ⟨R, A, hc, rfl⟩ := h.ex
  refine (list_dir S hS0 w hc (h.wf.fit hM) hS h.below.size (hF.below h.below) (h.wf.nl hM)).mono ?_
  rintro e w2 ⟨v, u, rfl, hv, hr, hb⟩
  rw [h0] at hv hr
  obtain rfl := nil_of hv rfl
  obtain ⟨X, c, rfl, _, _⟩ := EntRow.out hr
  exact ⟨X, c, rfl, hb⟩
theorem One.off (h : One M W w p d) (h0 : d.off = false) :
    Calls Tryz.prog 26 #[.pointer (some ⟨p, 0, none⟩)] w fun e w' => e = .returned (.bool false) ∧ w = w' := by
  obtain ⟨R, A, hc, rfl⟩ := h.ex
  rw [← h0]
  exact off_calls A.p d.off w (Blk.cell hc.blk 6)

/-! ### copies of texts -/
/-- An append whose run is known. -/
theorem wpList_append_known {P : Program} {w w' : World} {ops : Array Oper} {rest : List Oper} {o : Oper} {a : Act} {Q : Exit → Act → World → Prop} (hgd : o.guard = none) (s x : Operand) (t : TypeId)
    (ho : o.op = .call { callee := .builtin .append, args := #[s, x], argTypes := #[t, t] }) {v u v' : Value} (hs : a.eval s = v) (hx : a.eval x = u)
    (hrun : (Builtin.append_ #[t, t] o.type #[v, u]).run P w = .ok v' w') (h : wpList P ops Q rest (a.put o.dst v') w') : wpList P ops Q (o :: rest) a w := by
  refine wpList_plain hgd fun K hK => ?_
  unfold Oper.wp
  simp [execOp, ho, resolve, invoke, builtin, hs, hx, hrun, Result.andThen]
  exact hK _ _ h
theorem run_texts (v : Value) (k : Nat) (xs : List Value) (B : Nat) (Ad : Option Addr) (n c : Nat) (l : List Txt) (w : World) (hown : w.ownsRow B 9 1 v k xs) (hB : B ≤ w.heap.size) (h : Strs w Ad n l) (hA : Ad = none → c = 0) (hn : (k + n) * 16 ≤ 140737488351232) :
    ∃ v' w', (Builtin.append_ #[78, 78] 78 #[v, .slice Ad n c]).run Tryz.prog w = .ok v' w' ∧ w'.ownsRow B 9 1 v' (k + n) (xs ++ l.map txtV) ∧ w.grownBy w' v.ownBlock := by
  obtain ⟨i0, hi0, hz0, hz1, hz2⟩ := info_parts info_string3
  have hl := h.len
  cases Ad with
  | none =>
    have h0 : n = 0 := by
      rcases Nat.eq_zero_or_pos n with h0 | h0
      · exact h0
      · obtain ⟨b, off, e, _⟩ := h.2 h0; cases e
    subst h0
    obtain rfl := hA rfl
    obtain rfl : l = [] := List.eq_nil_of_length_eq_zero hl
    exact ⟨v, w, run_append_owned_none (P := Tryz.prog) (w := w) B 78 78 9 i0 1 Tryz.underlying78 hi0 v k xs hown, by simpa using hown, ⟨rfl, rfl, rfl, Nat.le_refl _, fun _ _ _ => rfl⟩⟩
  | some x =>
    obtain ⟨v', w', h1, h2, h3, _, _⟩ := run_append_own_at (P := Tryz.prog) (w := w) B 78 78 9 i0 (.string ⟨#[]⟩) 1 16 Tryz.underlying78 hi0 hz0 hz1 hz2 rfl (by decide) v k xs hown x n c (l.map txtV) (by rw [List.length_map, hl, Nat.mul_one]) h.cells (txtV_one l) (by unfold maxLen; omega) (by omega) hB
    exact ⟨v', w', h1, h2, h3⟩
/-- append(append([]string(nil), l...), m...). -/
theorem run_texts2 (A1 : Option Addr) (n1 c1 : Nat) (l1 : List Txt) (A2 : Option Addr) (n2 c2 : Nat) (l2 : List Txt) (w : World) (h1 : Strs w A1 n1 l1) (h2 : Strs w A2 n2 l2) (hA1 : A1 = none → c1 = 0) (hA2 : A2 = none → c2 = 0) (hn : (n1 + n2) * 16 ≤ 140737488351232) :
    ∃ v w1 X c w2, (Builtin.append_ #[78, 78] 78 #[.slice none 0 0, .slice A1 n1 c1]).run Tryz.prog w = .ok v w1 ∧ (Builtin.append_ #[78, 78] 78 #[v, .slice A2 n2 c2]).run Tryz.prog w1 = .ok (.slice X (n1 + n2) c) w2 ∧
      Strs w2 X (n1 + n2) (l1 ++ l2) ∧ Below w.heap.size w w2 := by
  obtain ⟨v, w1, r1, o1, g1⟩ := run_texts (.slice none 0 0) 0 [] w.heap.size A1 n1 c1 l1 w (World.ownsRow_nil _ _ _ _) (Nat.le_refl _) h1 hA1 (by omega)
  rw [Nat.zero_add, List.nil_append] at o1
  have hb1 : Below w.heap.size w w1 := ⟨g1.os, g1.tape, g1.output, g1.size, fun k hk => g1.block k hk (fun e => by cases e)⟩
  obtain ⟨v2, w2, r2, o2, g2⟩ := run_texts v n1 _ w.heap.size A2 n2 c2 l2 w1 o1 hb1.size (h2.below hb1) hA2 hn
  rw [← List.map_append] at o2
  obtain ⟨X, c, rfl, hs, _, _⟩ := Strs.of_own o2 (by rw [List.length_append, h1.len, h2.len])
  refine ⟨v, w1, X, c, w2, r1, r2, hs, g2.os.trans hb1.os, g2.tape.trans hb1.tape, g2.output.trans hb1.output, Nat.le_trans hb1.size g2.size, fun k hk => ?_⟩
  refine (g2.block k (Nat.lt_of_lt_of_le hk hb1.size) fun e => ?_).trans (hb1.block k hk)
  have := World.ownsRow.lt o1 k e.symm
  omega
end
end Go.Proofs.YtfpgbhimgfdddaaGreatDoor

/-! ## OpenS -/
/- Small facts for opening the arguments of a statement whose parameters are strings and numbers. -/
namespace Go.Proofs.YtfpgbhimgfdddaaGreatDoor
open Go.ChangeShapes Go.WideShapes Go.ChangeAt Go.RowKit

theorem Tryz.own : ownKnob Tryz.prog.godebug = none := by kernel_rfl
theorem Tryz.laidOut : laidOutB Tryz.prog = true := by kernel_rfl
theorem wf_lo {n : Int} (h : (Lit.int .i64 n).wf = true) : -9223372036854775808 ≤ n ∧ n ≤ 9223372036854775807 := by
  have h1 : IntKind.i64.min = -9223372036854775808 := rfl
  have h2 : IntKind.i64.max = 9223372036854775807 := rfl
  simp only [Lit.wf, Bool.and_eq_true, decide_eq_true_eq] at h
  omega
theorem wf_u8 {n : Int} (h : (Lit.int .u8 n).wf = true) : 0 ≤ n ∧ n < 256 := by
  have h1 : IntKind.u8.min = 0 := rfl
  have h2 : IntKind.u8.max = 255 := rfl
  simp only [Lit.wf, Bool.and_eq_true, decide_eq_true_eq] at h
  omega
/-- A string's weight is its length. -/
theorem string_weight {H : Type} {s : ByteArray} (h : ((DataW.lit (.string s.data.toList) : DataW H).weights Tryz.prog 9).all (· ≤ reachBytes) = true) : s.size ≤ 140737488351232 := by
  have h3 : reachBytes = 140737488351232 := rfl
  simp only [DataW.weights, Tryz.underlying9] at h
  simp at h
  have e : s.data.toList.length = s.size := rfl
  omega
end Go.Proofs.YtfpgbhimgfdddaaGreatDoor

/-! ## OpenRow -/
/- Opening an argument that is a slice: its elements, whatever they are, and how much they weigh. -/
namespace Go.Proofs.YtfpgbhimgfdddaaGreatDoor
open Go.ChangeShapes Go.WideShapes Go.ChangeAt Go.RowKit Go.Deep

/-- No weight of the datum passes the reach. -/
def Light {H : Type} (P : Program) (t : TypeId) (d : DataW H) : Prop := ∀ m ∈ d.weights P t, m ≤ 140737488351232
theorem Light.of {H : Type} {P : Program} {ts : List TypeId} {ds : List (DataW H)} (hsz : (DataW.weightsEach P ts ds).all (· ≤ reachBytes) = true) {j : Nat} {t : TypeId} {d : DataW H} (ht : ts[j]? = some t) (hd : ds[j]? = some d) : Light P t d := by
  intro m hm
  have := List.all_eq_true.1 hsz m (DataW.weights_mem_each ht hd m hm)
  have h3 : reachBytes = 140737488351232 := rfl
  have h4 : m ≤ reachBytes := by simpa using this
  omega
theorem weightsAll_mem {H : Type} {P : Program} {e : TypeId} {d : DataW H} {m : Nat} (hm : m ∈ d.weights P e) : ∀ {l : List (DataW H)}, d ∈ l → m ∈ DataW.weightsAll P e l
  | x :: l, h => by
    rw [DataW.weightsAll, List.mem_append]
    rcases List.mem_cons.1 h with rfl | h
    · exact .inl hm
    · exact .inr (weightsAll_mem hm h)
theorem Light.elem {H : Type} {P : Program} {t e : TypeId} {l sp : List (DataW H)} (h : Light P t (.slice l sp)) (ht : P.underlying t = some (.slice e)) {d : DataW H} (hd : d ∈ l) : Light P e d := by
  intro m hm
  refine h m ?_
  simp only [DataW.weights, ht, List.mem_cons, List.mem_append]
  exact .inr (.inl (weightsAll_mem hm hd))
theorem Light.row {H : Type} {P : Program} {t e : TypeId} {l sp : List (DataW H)} (h : Light P t (.slice l sp)) (ht : P.underlying t = some (.slice e)) : l.length * P.bytesOf e ≤ 140737488351232 := by
  have := h ((l.length + sp.length) * P.bytesOf e) (by simp [DataW.weights, ht])
  rw [Nat.add_mul] at this
  omega
theorem Light.part {H : Type} {P : Program} {t : TypeId} {fs : Array Field} {l : List (DataW H)} (h : Light P t (.agg l)) (ht : P.underlying t = some (.struct fs)) {j : Nat} {u : TypeId} {d : DataW H} (hu : (fs.toList.map (·.type))[j]? = some u) (hd : l[j]? = some d) : Light P u d := by
  intro m hm
  refine h m ?_
  simp only [DataW.weights, ht]
  exact DataW.weights_mem_each hu hd m hm
theorem Light.text {H : Type} {P : Program} {t : TypeId} {l : List UInt8} (h : Light P t (.lit (.string l) : DataW H)) : l.length ≤ 140737488351232 :=
  h _ (by simp [DataW.weights])

section
variable {H : Type} {enc : TypeId × Value → H} {P : Program} {w : World} {base : Nat} {spare : Nat → Bool} {held : Bool}

theorem open_row {α : Type} [Inhabited α] {t e : TypeId} {sz : Nat} {ea : α → List Value} {Q : DataW H → α → Prop} (ht : P.underlying t = some (.slice e)) (hc : P.cellsOf e = sz) (h0 : 0 < sz) (hz : ∀ y, (ea y).length = sz)
    (ho : ∀ (fuel : Nat) (l : List Value) (x : DataW H × List MemPlace), DataW.trod enc P w base spare held fuel e l = some x → ∃ y, l = ea y ∧ Q x.1 y)
    {fuel : Nat} {v : Value} {x : DataW H × List MemPlace} (h : DataW.trod enc P w base spare held fuel t [v] = some x) :
    ∃ A n c ys, v = .slice A n c ∧ (A = none → c = 0) ∧ n ≤ c ∧ Elems w w.heap.size sz ea A n ys ∧ (Light P t x.1 → n * P.bytesOf e ≤ 140737488351232 ∧ ∀ y ∈ ys, ∃ d, Light P e d ∧ Q d y) ∧ ∀ y ∈ ys, ∃ d, Q d y := by
  rcases open_slice ht h with ⟨hcs, _⟩ | ⟨a, len, cap, m, n, D, Pl, hcs, _, hl, _, hmm, hx, hi⟩
  · simp at hcs
    subst hcs
    exact ⟨none, 0, 0, [], rfl, fun _ => rfl, Nat.le_refl _, Elems.nil_, fun _ => ⟨by omega, fun y hy => by cases hy⟩, fun y hy => by cases hy⟩
  · simp at hcs
    subst hcs
    rw [hc] at hi
    have hlm : len ≤ m := by rw [hmm]; split <;> omega
    obtain ⟨f, hf⟩ := choose_lt (α := α) (n := len) (p := fun i y => (∀ j u, (ea y)[j]? = some u → w.cell? (a.add (i * sz + j)) = some u) ∧ Q (D i) y) (by
      intro i hlt
      obtain ⟨cs', hc', ht'⟩ := hi i (by omega)
      obtain ⟨y, rfl, hq⟩ := ho _ _ _ ht'
      obtain ⟨_, hcl, hat⟩ := World.cells?_some hc'
      refine ⟨y, fun j u hu => ?_, hq⟩
      have hj : j < sz := by have := (List.getElem?_eq_some_iff.1 hu).1; rw [hz] at this; exact this
      have := hat j hj
      rw [Go.Deep.add_add] at this
      rw [this, hu])
    refine ⟨some a, len, cap, (List.range len).map f, rfl, (fun h => by cases h), hl, ⟨by simp, fun h0' => ?_⟩, fun hL => ?_, ?_⟩
    · obtain ⟨b, off, spot⟩ := a
      have hp : 0 < (ea (f 0)).length := by rw [hz]; exact h0
      have h00 := (hf 0 h0').1 0 _ (List.getElem?_eq_getElem hp)
      have hspot : spot = none := by simpa [Addr.add] using World.cell?_spot h00
      subst hspot
      refine ⟨b, off, rfl, by simpa [Addr.add] using lt_of_cell h00, fun i x hx j u hu => ?_⟩
      have hil : i < len := by have := (List.getElem?_eq_some_iff.1 hx).1; simpa using this
      have hxe : f i = x := by simpa [hil] using hx
      subst hxe
      have := (hf i hil).1 j u hu
      rw [add_plain] at this
      rw [← this, Nat.add_assoc]
    · rw [hx] at hL
      refine ⟨by simpa using hL.row ht, fun y hy => ?_⟩
      obtain ⟨i, hi', rfl⟩ := List.mem_map.1 hy
      have hil : i < len := List.mem_range.1 hi'
      exact ⟨D i, hL.elem ht (List.mem_map_of_mem hi'), (hf i hil).2⟩
    · intro y hy
      obtain ⟨i, hi', rfl⟩ := List.mem_map.1 hy
      exact ⟨D i, (hf i (List.mem_range.1 hi')).2⟩
end
end Go.Proofs.YtfpgbhimgfdddaaGreatDoor

/-! ## OpenBulk -/
/- Opening an argument that is a slice, each element beside its datum; what the bound on the bulk gives. -/
namespace Go.Proofs.YtfpgbhimgfdddaaGreatDoor
open Go.ChangeShapes Go.WideShapes Go.ChangeAt Go.RowKit Go.Deep

section
variable {H : Type} {enc : TypeId × Value → H} {P : Program} {w : World} {base : Nat} {spare : Nat → Bool} {held : Bool}

theorem open_row2 {α : Type} [Inhabited α] {t e : TypeId} {sz : Nat} {ea : α → List Value} {Q : DataW H → α → Prop} (ht : P.underlying t = some (.slice e)) (hc : P.cellsOf e = sz) (h0 : 0 < sz) (hz : ∀ y, (ea y).length = sz)
    (ho : ∀ (fuel : Nat) (l : List Value) (x : DataW H × List MemPlace), DataW.trod enc P w base spare held fuel e l = some x → ∃ y, l = ea y ∧ Q x.1 y)
    {fuel : Nat} {v : Value} {x : DataW H × List MemPlace} (h : DataW.trod enc P w base spare held fuel t [v] = some x) :
    ∃ A n c ys, v = .slice A n c ∧ (A = none → c = 0) ∧ n ≤ c ∧ Elems w w.heap.size sz ea A n ys ∧ ∃ ds sp, (x.1 = .slice ds sp ∨ (x.1 = .nil ∧ ds = [])) ∧ ds.length = ys.length ∧ ∀ (i : Nat) d y, ds[i]? = some d → ys[i]? = some y → Q d y := by
  rcases open_slice ht h with ⟨hcs, hx⟩ | ⟨a, len, cap, m, n, D, Pl, hcs, _, hl, _, hmm, hx, hi⟩
  · simp at hcs
    subst hcs
    exact ⟨none, 0, 0, [], rfl, fun _ => rfl, Nat.le_refl _, Elems.nil_, [], [], .inr ⟨by rw [hx], rfl⟩, rfl, fun i d y hd => by simp at hd⟩
  · simp at hcs
    subst hcs
    rw [hc] at hi
    have hlm : len ≤ m := by rw [hmm]; split <;> omega
    obtain ⟨f, hf⟩ := choose_lt (α := α) (n := len) (p := fun i y => (∀ j u, (ea y)[j]? = some u → w.cell? (a.add (i * sz + j)) = some u) ∧ Q (D i) y) (by
      intro i hlt
      obtain ⟨cs', hc', ht'⟩ := hi i (by omega)
      obtain ⟨y, rfl, hq⟩ := ho _ _ _ ht'
      obtain ⟨_, hcl, hat⟩ := World.cells?_some hc'
      refine ⟨y, fun j u hu => ?_, hq⟩
      have hj : j < sz := by have := (List.getElem?_eq_some_iff.1 hu).1; rw [hz] at this; exact this
      have := hat j hj
      rw [Go.Deep.add_add] at this
      rw [this, hu])
    refine ⟨some a, len, cap, (List.range len).map f, rfl, (fun h => by cases h), hl, ⟨by simp, fun h0' => ?_⟩, (List.range len).map D, _, .inl (by rw [hx]), by simp, fun i d y hd hy => ?_⟩
    · obtain ⟨b, off, spot⟩ := a
      have hp : 0 < (ea (f 0)).length := by rw [hz]; exact h0
      have h00 := (hf 0 h0').1 0 _ (List.getElem?_eq_getElem hp)
      have hspot : spot = none := by simpa [Addr.add] using World.cell?_spot h00
      subst hspot
      refine ⟨b, off, rfl, by simpa [Addr.add] using lt_of_cell h00, fun i x hx j u hu => ?_⟩
      have hil : i < len := by have := (List.getElem?_eq_some_iff.1 hx).1; simpa using this
      have hxe : f i = x := by simpa [hil] using hx
      subst hxe
      have := (hf i hil).1 j u hu
      rw [add_plain] at this
      rw [← this, Nat.add_assoc]
    · have hil : i < len := by have := (List.getElem?_eq_some_iff.1 hd).1; simpa using this
      have h1 : D i = d := by simpa [hil] using hd
      have h2 : f i = y := by simpa [hil] using hy
      rw [← h1, ← h2]
      exact (hf i hil).2
end

/-! ### the bulk -/
theorem bulk_one {H : Type} (d : DataW H) : 1 ≤ Rows.uptoBulk d := by
  cases d with
  | lit l => cases l <;> simp [Rows.uptoBulk]
  | nil => simp [Rows.uptoBulk]
  | ptr d => simp [Rows.uptoBulk]
  | slice elems spare => simp [Rows.uptoBulk]
  | agg parts => simp [Rows.uptoBulk]
  | iface t d => simp [Rows.uptoBulk]
  | map entries => simp [Rows.uptoBulk]
  | held h => simp [Rows.uptoBulk]
theorem bulk_text {H : Type} (l : List UInt8) : Rows.uptoBulk (DataW.lit (H := H) (.string l)) = l.length + 1 := by simp [Rows.uptoBulk]
theorem bulk_slice {H : Type} (l sp : List (DataW H)) : Rows.uptoBulkAll l + 1 ≤ Rows.uptoBulk (.slice l sp) := by simp only [Rows.uptoBulk]; omega
theorem bulk_all {H : Type} {l : List (DataW H)} (hk : Rows.uptoSmall H l = true) : Rows.uptoBulkAll l ≤ 1048576 := of_decide_eq_true hk
/-- The measures of the elements, added up, are no more than the bulk. -/
theorem bulk_sum {H α : Type} (mu : α → Nat) : ∀ (ds : List (DataW H)) (ys : List α), ds.length = ys.length → (∀ (i : Nat) d y, ds[i]? = some d → ys[i]? = some y → mu y ≤ Rows.uptoBulk d) → (ys.map mu).sum ≤ Rows.uptoBulkAll ds
  | [], [], _, _ => by simp
  | d :: ds, y :: ys, hl, h => by
    have h1 := h 0 d y rfl rfl
    have h2 := bulk_sum mu ds ys (by simpa using hl) (fun i d' y' hd hy => h (i + 1) d' y' (by simpa using hd) (by simpa using hy))
    simp only [List.map_cons, List.sum_cons, Rows.uptoBulkAll]
    omega
  | [], _ :: _, hl, _ => by simp at hl
  | _ :: _, [], hl, _ => by simp at hl
theorem bulk_row {H α : Type} (mu : α → Nat) {d : DataW H} {ds sp : List (DataW H)} {ys : List α} (hd : d = .slice ds sp ∨ (d = .nil ∧ ds = [])) (hl : ds.length = ys.length) (h : ∀ (i : Nat) d y, ds[i]? = some d → ys[i]? = some y → mu y ≤ Rows.uptoBulk d) : (ys.map mu).sum + 1 ≤ Rows.uptoBulk d := by
  have := bulk_sum mu ds ys hl h
  rcases hd with rfl | ⟨rfl, rfl⟩
  · have := bulk_slice ds sp; omega
  · obtain rfl : ys = [] := List.eq_nil_of_length_eq_zero (by simpa using hl.symm)
    simp [Rows.uptoBulk]
end Go.Proofs.YtfpgbhimgfdddaaGreatDoor
