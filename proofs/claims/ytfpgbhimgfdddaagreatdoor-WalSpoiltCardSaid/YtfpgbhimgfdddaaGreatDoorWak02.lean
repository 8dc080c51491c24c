/- Merged (what the claim wants of): DskMem, DskWalksA, DskWalksB, DskWalksC. -/
import Derived.Test.YtfpgbhimgfdddaaGreatDoorWak01
import Derived.Test.YtfpgbhimgfdddaaGreatDoorShelf
set_option linter.unusedVariables false
set_option linter.unusedSimpArgs false
/- Layer 3 (disk): memory that a thing owns (roles of blocks), rows, and a disk in memory. -/
namespace Go.Proofs.YtfpgbhimgfdddaaGreatDoor
open Go.RowKit

/-- What has become of the world: a block that nobody owns (role 0) is as it was; old blocks keep their roles. -/
structure Own (R R' : Nat → Nat) (w w' : World) : Prop where
  os : w'.os = w.os
  tape : w'.tape = w.tape
  output : w'.output = w.output
  size : w.heap.size ≤ w'.heap.size
  block : ∀ k, k < w.heap.size → R k = 0 → w'.heap[k]? = w.heap[k]?
  old : ∀ k, k < w.heap.size → R' k = R k
/-- All that is owned is there. -/
def InW (R : Nat → Nat) (w : World) : Prop := ∀ k, R k ≠ 0 → k < w.heap.size
/-- A block gets a role. -/
def giv (R : Nat → Nat) (g r : Nat) : Nat → Nat := fun k => if k = g then r else R k

section
variable {R R' R'' : Nat → Nat} {w w' w'' : World}
theorem Own.refl (R : Nat → Nat) (w : World) : Own R R w w := ⟨rfl, rfl, rfl, Nat.le_refl _, fun _ _ _ => rfl, fun _ _ => rfl⟩
theorem Own.trans (h : Own R R' w w') (k : Own R' R'' w' w'') : Own R R'' w w'' :=
  ⟨k.os.trans h.os, k.tape.trans h.tape, k.output.trans h.output, Nat.le_trans h.size k.size,
   fun i hi hr => (k.block i (Nat.lt_of_lt_of_le hi h.size) ((h.old i hi).trans hr)).trans (h.block i hi hr),
   fun i hi => (k.old i (Nat.lt_of_lt_of_le hi h.size)).trans (h.old i hi)⟩
theorem Own.of_below (h : Below w.heap.size w w') : Own R R w w' := ⟨h.os, h.tape, h.output, h.size, fun k hk _ => h.block k hk, fun _ _ => rfl⟩
theorem Own.of_grown {g : Nat} (h : w.grownBy w' (some g)) (hg : R g ≠ 0) : Own R R w w' :=
  ⟨h.os, h.tape, h.output, h.size, fun k hk hr => h.block k hk (fun e => by injection e with e; exact hg (e ▸ hr)), fun _ _ => rfl⟩
theorem Own.of_set {g i : Nat} (u : Value) (hg : R g ≠ 0) : Own R R w (w.setCell ⟨g, i, none⟩ u) :=
  ⟨rfl, rfl, rfl, by simp [World.setCell], fun k _ hr => Below.heap_setCell _ _ _ _ (by rintro rfl; exact hg hr), fun _ _ => rfl⟩
theorem Own.of_alloc (o : Obj) : Own R R w (w.alloc o) := .of_below ((Below.refl _ _).alloc (Nat.le_refl _) _)
theorem Own.give {g r : Nat} (h : Own R R w w') (hg : w.heap.size ≤ g) : Own R (giv R g r) w w' :=
  ⟨h.os, h.tape, h.output, h.size, h.block, fun k hk => by unfold giv; rw [if_neg (by omega)]⟩
theorem Own.below {B : Nat} (h : Own R R' w w') (hB : B ≤ w.heap.size) (hR : ∀ k, k < B → R k = 0) : Below B w w' :=
  ⟨h.os, h.tape, h.output, h.size, fun k hk => h.block k (by omega) (hR k hk)⟩
theorem giv_self (R : Nat → Nat) (g r : Nat) : giv R g r g = r := by simp [giv]
theorem giv_ne {g r k : Nat} (h : k ≠ g) : giv R g r k = R k := by simp [giv, h]
theorem InW.new (h : InW R w) {g : Nat} (hg : w.heap.size ≤ g) : R g = 0 := by
  apply Classical.byContradiction
  intro h0
  have := h g h0
  omega
theorem InW.mono (h : InW R w) (hs : w.heap.size ≤ w'.heap.size) : InW R w' := fun k hk => Nat.lt_of_lt_of_le (h k hk) hs
theorem InW.give (h : InW R w) (hs : w.heap.size ≤ w'.heap.size) {g r : Nat} (hg : g < w'.heap.size) : InW (giv R g r) w' := by
  intro k hk
  by_cases e : k = g
  · subst e; exact hg
  · rw [giv_ne e] at hk
    exact Nat.lt_of_lt_of_le (h k hk) hs
end

/-- A slice that has its row for itself, in a block of the given role. -/
def RowIs (w : World) (R : Nat → Nat) (r : Nat) (T : TypeId) (sz : Nat) (v : Value) (n : Nat) (xs : List Value) : Prop := w.ownsRow 0 T sz v n xs ∧ ∀ g, v.ownBlock = some g → R g = r
theorem ownsRow.same {w w' : World} {base : Nat} {T : TypeId} {sz n : Nat} {v : Value} {xs : List Value} (h : w.ownsRow base T sz v n xs) (hb : ∀ g, v.ownBlock = some g → w'.heap[g]? = w.heap[g]?) : w'.ownsRow base T sz v n xs := by
  refine ⟨h.1, ?_⟩
  rcases h.2 with h2 | ⟨g, cap, cur, rfl, h3, h4, h5⟩
  · exact .inl h2
  · exact .inr ⟨g, cap, cur, rfl, h3, (hb g rfl).trans h4, h5⟩
theorem RowIs.same {w w' : World} {R R' : Nat → Nat} {r : Nat} {T : TypeId} {sz n : Nat} {v : Value} {xs : List Value} (h : RowIs w R r T sz v n xs) (hb : ∀ g, v.ownBlock = some g → R g = r → w'.heap[g]? = w.heap[g]? ∧ R' g = R g) : RowIs w' R' r T sz v n xs :=
  ⟨ownsRow.same h.1 fun g hg => (hb g hg (h.2 g hg)).1, fun g hg => (hb g hg (h.2 g hg)).2.trans (h.2 g hg)⟩
theorem RowIs.nil {w : World} {R : Nat → Nat} {r : Nat} {T : TypeId} {sz : Nat} : RowIs w R r T sz (.slice none 0 0) 0 [] := ⟨World.ownsRow_nil _ _ _ _, fun g hg => by cases hg⟩

/-! ### the disk in memory -/
/-- Where a disk lies. -/
structure Adr where
  p : Nat
  md : Nat
  mf : Nat
  sd : Nat
  sf : Nat
  sv : Value
  φ : List Nat
def dirF (l : List Th) (x : Txt) : Option Value := if l.any (fun y => y.dir && y.path == x) then some (.int .i64 1) else none
def fptr (φ : List Nat) (i : Nat) : Value := .pointer (some ⟨φ[i]?.getD 0, 0, none⟩)
def filF (φ : List Nat) (l : List Th) (x : Txt) : Option Value := (l.find? fun y => !y.dir && y.path == x).map fun y => fptr φ y.at_
abbrev MapM (w : World) (R : Nat → Nat) (r : Nat) (b : Nat) (f : Txt → Option Value) : Prop := SMap Tryz.prog 9 w b f ∧ R b = r
def encC (c : Ch) : List Value := [txtV c.text, .int .i64 (if c.cut then (c.size : Int) else -1)]
def FileM (w : World) (R : Nat → Nat) (i b : Nat) (f : By) : Prop :=
  ∃ v, Blk w b 143 #[txtV f.now, txtV f.safe, v] ∧ R b = 10 + 2 * i ∧ RowIs w R (11 + 2 * i) 151 2 v f.steps.length (f.steps.flatMap encC)
def FilesM (w : World) (R : Nat → Nat) (φ : List Nat) (fs : List By) : Prop := φ.length = fs.length ∧ ∀ (i b : Nat) (f : By), φ[i]? = some b → fs[i]? = some f → FileM w R i b f
/-- A variable that a step has caught. -/
def Box (w : World) (R : Nat → Nat) (b : Nat) (T : TypeId) (v : Value) : Prop := Blk w b T #[v] ∧ R b = 5
def StepM (w : World) (R : Nat → Nat) (φ : List Nat) : St → Value → Prop
  | .mkdir a, v => ∃ b, v = .func (.func 124) #[] #[.pointer (some ⟨b, 0, none⟩)] ∧ Box w R b 9 (txtV a)
  | .create a i, v => ∃ b c, v = .func (.func 66) #[] #[.pointer (some ⟨c, 0, none⟩), .pointer (some ⟨b, 0, none⟩)] ∧ Box w R b 9 (txtV a) ∧ Box w R c 140 (fptr φ i)
  | .rename a a', v => ∃ b c, v = .func (.func 113) #[] #[.pointer (some ⟨b, 0, none⟩), .pointer (some ⟨c, 0, none⟩)] ∧ Box w R b 9 (txtV a) ∧ Box w R c 9 (txtV a')
  | .remove a, v => ∃ b, v = .func (.func 115) #[] #[.pointer (some ⟨b, 0, none⟩)] ∧ Box w R b 9 (txtV a)
def StepsM (w : World) (R : Nat → Nat) (v : Value) (φ : List Nat) (l : List St) : Prop :=
  ∃ fs : List Value, RowIs w R 7 145 1 v l.length fs ∧ fs.length = l.length ∧ ∀ (i : Nat) s f, l[i]? = some s → fs[i]? = some f → StepM w R φ s f
/-- The disk's own cells. -/
def DBlk (w : World) (A : Adr) (d : Ds) : Prop := Blk w A.p 125 #[.map (some A.md), .map (some A.mf), .map (some A.sd), .map (some A.sf), A.sv, .int .i64 (d.cap : Int), .bool d.off, .int .i64 (d.await : Int)]
structure CD (B0 : Nat) (w : World) (R : Nat → Nat) (A : Adr) (d : Ds) : Prop where
  blk : DBlk w A d
  rp : R A.p = 1
  dirs : MapM w R 2 A.md (dirF d.things)
  files : MapM w R 3 A.mf (filF A.φ d.things)
  sdirs : MapM w R 4 A.sd (dirF d.safe)
  sfiles : MapM w R 6 A.sf (filF A.φ d.safe)
  steps : StepsM w R A.sv A.φ d.steps
  bytes : FilesM w R A.φ d.files
  inw : InW R w
  low : ∀ k, k < B0 → R k = 0

section
variable {w w' : World} {R R' : Nat → Nat} {B0 : Nat} {A : Adr} {d : Ds}
/-- What is owned is as it was. -/
def Same (R R' : Nat → Nat) (w w' : World) : Prop := ∀ k, R k ≠ 0 → w'.heap[k]? = w.heap[k]? ∧ R' k = R k
theorem FileM.same {i b : Nat} {f : By} (h : FileM w R i b f) (hs : ∀ k, R k = 10 + 2 * i ∨ R k = 11 + 2 * i → w'.heap[k]? = w.heap[k]? ∧ R' k = R k) : FileM w' R' i b f := by
  obtain ⟨v, h1, h2, h3⟩ := h
  exact ⟨v, ((hs b (.inl h2)).1).trans h1, ((hs b (.inl h2)).2).trans h2, h3.same fun g _ hr => hs g (.inr hr)⟩
theorem Box.same {b : Nat} {T : TypeId} {v : Value} (h : Box w R b T v) (hs : ∀ k, R k = 5 → w'.heap[k]? = w.heap[k]? ∧ R' k = R k) : Box w' R' b T v := ⟨((hs b h.2).1).trans h.1, ((hs b h.2).2).trans h.2⟩
theorem StepM.same {φ : List Nat} {s : St} {v : Value} (h : StepM w R φ s v) (hs : ∀ k, R k = 5 → w'.heap[k]? = w.heap[k]? ∧ R' k = R k) : StepM w' R' φ s v := by
  cases s with
  | mkdir a => obtain ⟨b, h1, h2⟩ := h; exact ⟨b, h1, h2.same hs⟩
  | create a i => obtain ⟨b, c, h1, h2, h3⟩ := h; exact ⟨b, c, h1, h2.same hs, h3.same hs⟩
  | rename a a' => obtain ⟨b, c, h1, h2, h3⟩ := h; exact ⟨b, c, h1, h2.same hs, h3.same hs⟩
  | remove a => obtain ⟨b, h1, h2⟩ := h; exact ⟨b, h1, h2.same hs⟩
theorem StepsM.same {v : Value} {φ : List Nat} {l : List St} (h : StepsM w R v φ l) (hs : ∀ k, R k = 5 ∨ R k = 7 → w'.heap[k]? = w.heap[k]? ∧ R' k = R k) : StepsM w' R' v φ l := by
  obtain ⟨fs, h1, h2, h3⟩ := h
  exact ⟨fs, h1.same fun g _ hr => hs g (.inr hr), h2, fun i s f hs' hf => (h3 i s f hs' hf).same fun k hk => hs k (.inl hk)⟩
theorem MapM.same {r b : Nat} {f : Txt → Option Value} (h : MapM w R r b f) (hs : ∀ k, R k = r → w'.heap[k]? = w.heap[k]? ∧ R' k = R k) : MapM w' R' r b f := ⟨h.1.same (hs b h.2).1, ((hs b h.2).2).trans h.2⟩
theorem FilesM.same {φ : List Nat} {fs : List By} (h : FilesM w R φ fs) (hs : ∀ k, 10 ≤ R k → w'.heap[k]? = w.heap[k]? ∧ R' k = R k) : FilesM w' R' φ fs :=
  ⟨h.1, fun i b f hb hf => (h.2 i b f hb hf).same fun k hk => hs k (by omega)⟩
theorem CD.same (h : CD B0 w R A d) (hs : Same R R' w w') (hw : InW R' w') (hl : ∀ k, k < B0 → R' k = 0) : CD B0 w' R' A d where
  blk := ((hs A.p (by rw [h.rp]; omega)).1).trans h.blk
  rp := ((hs A.p (by rw [h.rp]; omega)).2).trans h.rp
  dirs := h.dirs.same fun k hk => hs k (by omega)
  files := h.files.same fun k hk => hs k (by omega)
  sdirs := h.sdirs.same fun k hk => hs k (by omega)
  sfiles := h.sfiles.same fun k hk => hs k (by omega)
  steps := h.steps.same fun k hk => hs k (by omega)
  bytes := h.bytes.same fun k hk => hs k (by omega)
  inw := hw
  low := hl
theorem CD.below (h : CD B0 w R A d) (hb : Below w.heap.size w w') : CD B0 w' R A d :=
  h.same (fun k hk => ⟨hb.block k (h.inw k hk), rfl⟩) (h.inw.mono hb.size) h.low
/-- Another owner's work. -/
theorem CD.apart {S S' : Nat → Nat} (h : CD B0 w R A d) (ho : Own S S' w w') (hd : ∀ k, R k ≠ 0 → S k = 0) : CD B0 w' R A d :=
  h.same (fun k hk => ⟨ho.block k (h.inw k hk) (hd k hk), rfl⟩) (h.inw.mono ho.size) h.low
end

/-! ### failures -/
def failG : Nat → Nat
  | 1 => 5 | 2 => 6 | 3 => 3 | 4 => 0 | 5 => 1 | 6 => 4 | _ => 2
def failV (a : Nat → Addr) (k : Nat) : Value := .iface 306 (.pointer (some (a k)))
/-- What the failures' variables hold. -/
def Fails (B0 : Nat) (a : Nat → Addr) (w : World) : Prop := ∀ k, k ≠ 6 → failG k < B0 ∧ w.cell? ⟨failG k, 0, none⟩ = some (failV a k)
theorem Fails.below {B0 : Nat} {a : Nat → Addr} {w w' : World} (h : Fails B0 a w) (hb : Below B0 w w') : Fails B0 a w' := fun k hk => ⟨(h k hk).1, (hb.cell (p := ⟨failG k, 0, none⟩) (h k hk).1).trans (h k hk).2⟩
/-- The variable of the failure 6 (DiskSafe does not name it). -/
def Fail6 (B0 : Nat) (a : Nat → Addr) (w : World) : Prop := failG 6 < B0 ∧ w.cell? ⟨failG 6, 0, none⟩ = some (failV a 6)
theorem Fail6.below {B0 : Nat} {a : Nat → Addr} {w w' : World} (h : Fail6 B0 a w) (hb : Below B0 w w') : Fail6 B0 a w' := ⟨h.1, (hb.cell (p := ⟨failG 6, 0, none⟩) h.1).trans h.2⟩
/-- The error value of a call: nil, or a failure with its call and its path. -/
def ErrV (a : Nat → Addr) (w : World) (op path : ByteArray) : Nat → Value → Prop
  | 0, v => v = .nilIface
  | k + 1, v => ∃ q, v = .iface 68 (.pointer (some ⟨q, 0, none⟩)) ∧ Blk w q 71 #[.string op, .string path, failV a (k + 1)]
theorem ErrV.below {a : Nat → Addr} {w w' : World} {op path : ByteArray} {k : Nat} {v : Value} (h : ErrV a w op path k v) (hb : Below w.heap.size w w') : ErrV a w' op path k v := by
  cases k with
  | zero => exact h
  | succ k => obtain ⟨q, h1, h2⟩ := h; exact ⟨q, h1, h2.below hb h2.lt⟩

/-! ### parts of a disk turned -/
section
variable {w w' : World} {R R' : Nat → Nat} {B0 : Nat} {A : Adr} {d d' : Ds}
/-- The disk's own block alone has turned. -/
theorem CD.blk_only (h : CD B0 w R A d) (hw : ∀ k, k < w.heap.size → k ≠ A.p → w'.heap[k]? = w.heap[k]?) (hs : w.heap.size ≤ w'.heap.size) (hb : DBlk w' A d') (h1 : d'.things = d.things) (h2 : d'.safe = d.safe) (h3 : d'.steps = d.steps) (h4 : d'.files = d.files) : CD B0 w' R A d' := by
  have key : ∀ k, R k ≠ 0 → R k ≠ 1 → w'.heap[k]? = w.heap[k]? ∧ R k = R k := fun k hk h1 => ⟨hw k (h.inw k hk) (fun e => h1 (by rw [e]; exact h.rp)), rfl⟩
  exact {
    blk := hb
    rp := h.rp
    dirs := by rw [h1]; exact h.dirs.same fun k hk => key k (by omega) (by omega)
    files := by rw [h1]; exact h.files.same fun k hk => key k (by omega) (by omega)
    sdirs := by rw [h2]; exact h.sdirs.same fun k hk => key k (by omega) (by omega)
    sfiles := by rw [h2]; exact h.sfiles.same fun k hk => key k (by omega) (by omega)
    steps := by rw [h3]; exact h.steps.same fun k hk => key k (by omega) (by omega)
    bytes := by rw [h4]; exact h.bytes.same fun k hk => key k (by omega) (by omega)
    inw := h.inw.mono hs
    low := h.low }
/-- A file's block, or its row, has turned. -/
theorem CD.file_only (h : CD B0 w R A d) {i : Nat} {f : By} (hi : i < d.files.length) (hs : ∀ k, R k ≠ 0 → R k ≠ 10 + 2 * i → R k ≠ 11 + 2 * i → w'.heap[k]? = w.heap[k]? ∧ R' k = R k) (hw : InW R' w') (hl : ∀ k, k < B0 → R' k = 0) (hf : FileM w' R' i (A.φ[i]?.getD 0) f) : CD B0 w' R' A (setF d i f) where
  blk := ((hs A.p (by rw [h.rp]; omega) (by rw [h.rp]; omega) (by rw [h.rp]; omega)).1).trans h.blk
  rp := ((hs A.p (by rw [h.rp]; omega) (by rw [h.rp]; omega) (by rw [h.rp]; omega)).2).trans h.rp
  dirs := h.dirs.same fun k hk => hs k (by omega) (by omega) (by omega)
  files := h.files.same fun k hk => hs k (by omega) (by omega) (by omega)
  sdirs := h.sdirs.same fun k hk => hs k (by omega) (by omega) (by omega)
  sfiles := h.sfiles.same fun k hk => hs k (by omega) (by omega) (by omega)
  steps := h.steps.same fun k hk => hs k (by omega) (by omega) (by omega)
  bytes := by
    refine ⟨by simp [setF, h.bytes.1], fun j b g hb hg => ?_⟩
    simp only [setF] at hg
    by_cases e : j = i
    · subst e
      have hg' : f = g := by
        rw [List.getElem?_set_self (by simpa using hi)] at hg
        injection hg
      rw [← hg']
      rw [hb] at hf
      exact hf
    · rw [List.getElem?_set_ne (Ne.symm e)] at hg
      exact (h.bytes.2 j b g hb hg).same fun k hk => hs k (by omega) (by omega) (by omega)
  inw := hw
  low := hl
end
end Go.Proofs.YtfpgbhimgfdddaaGreatDoor

/- The walks of layer 3 (disk): names, the code's and the document's. -/
namespace Go.Proofs.YtfpgbhimgfdddaaGreatDoor
open Go.RowKit
attribute [local go_sem ↓] Go.wp_at_zero Go.wp_at_succ
attribute [local go_sem] Later.cell Later.frozen

theorem text_size3 (s : ByteArray) : s.data.toList.length = s.size := rfl
theorem drop_byte3 {s : ByteArray} {i : Nat} (h : i < s.size) : s.data.toList.drop i = s[i] :: s.data.toList.drop (i + 1) := by
  rw [List.drop_eq_getElem_cons (by simpa using h)]
  rfl
theorem empty_size3 (s : ByteArray) : s.toList.isEmpty = decide (s.size = 0) := by
  rw [ByteArray.toList_eq, Bool.eq_iff_iff]
  simp only [List.isEmpty_iff, decide_eq_true_eq]
  rw [← text_size3]
  constructor
  · intro h; rw [h]; rfl
  · intro h; exact List.eq_nil_of_length_eq_zero h
theorem name_cases (b : UInt8) : (97 ≤ b.toNat ∧ b.toNat ≤ 122) ∨ (48 ≤ b.toNat ∧ b.toNat ≤ 57) ∨ (b.toNat = 46) ∨ (b.toNat = 45) ∨ (b.toNat < 48 ∧ b.toNat ≠ 46 ∧ b.toNat ≠ 45) ∨ (57 < b.toNat ∧ b.toNat < 97) ∨ (122 < b.toNat) := by omega

set_option maxRecDepth 100000 in
set_option maxHeartbeats 2000000 in
theorem name_calls (s : ByteArray) (r : Bool) (hr : nameB s.data.toList = r) (hs : s.size ≤ 1073741824) (w : World) :
    Calls Tryz.prog 80 #[.string s] w fun e w' => e = .returned (.bool r) ∧ w = w' := by
  obtain ⟨R, hR⟩ : ∃ R, s.data.toList.all nameC = R := ⟨_, rfl⟩
  have hrr : (R && (decide (1 ≤ s.size) && decide (s.size ≤ 32))) = r := by rw [← hr, ← hR, nameB, text_size3, Bool.and_assoc]
  have HRR := Lib.hid hrr
  have HR := Lib.hid hR
  clear hr hrr hR
  go_enter Tryz.func80, Tryz.ntmps80
  go_upto_block 0 with fail
  go_cut [] (fun wz => wz = w ∧ R = true)
  case first =>
    go_wp2_with fail
    go_loopg [7] s.size (fun g sx wr => wr = w ∧ ∃ i : Nat, i + g = s.size ∧ sx = .int .i64 (i : Int) ∧ (s.data.toList.drop i).all nameC = R)
    case atStart => exact ⟨rfl, 0, by omega, rfl, by simpa using HR.out⟩
    case round =>
      obtain ⟨rfl, i, hig, rfl, hall⟩ := hrel
      obtain ⟨w, rfl⟩ : ∃ x, x = wr := ⟨_, rfl⟩
      have HIG := Lib.hid hig
      by_cases hi : i < s.size
      · have hst : (nameC s[i] && (s.data.toList.drop (i + 1)).all nameC) = R := by rw [← hall, drop_byte3 hi, List.all_cons]
        obtain ⟨b, hb⟩ : ∃ b, s[i] = b := ⟨_, rfl⟩
        have hbl := UInt8.toNat_lt b
        rw [hb] at hst
        have HST := Lib.hid hst
        clear hst hig hall
        have el : decide ((i : Int) < (s.size : Int)) = true := by simp; omega
        have el' : decide (i < s.size) = true := by simp; omega
        go_upto_region 6 with fail
        clear hb
        rcases name_cases b with h | h | h | h | h | h | h
        · have hn : nameC b = true := by simp only [nameC]; simp; omega
          have d1 : decide ((97 : Int) ≤ (b.toNat : Int)) = true := by simp; omega
          have d2 : decide ((b.toNat : Int) ≤ 122) = true := by simp; omega
          have d3 : decide ((48 : Int) ≤ (b.toNat : Int)) = true := by simp; omega
          have d4 : decide ((b.toNat : Int) ≤ 57) = false := by simp; omega
          have d5 : ((b.toNat : Int) == 46) = false := by simp; omega
          have d6 : ((b.toNat : Int) != 46) = true := by simp; omega
          have d7 : ((b.toNat : Int) == 45) = false := by simp; omega
          have d8 : ((b.toNat : Int) != 45) = true := by simp; omega
          have hnx : (s.data.toList.drop (i + 1)).all nameC = R := by have := HST.out; rw [hn, Bool.true_and] at this; exact this
          have HNX := Lib.hid hnx
          clear hnx hn h
          go_wp2_with fail
          go_roundg (gk - 1)
          case measure => have := HIG.out; omega
          case rel => exact ⟨rfl, i + 1, by have := HIG.out; omega, by go_num, HNX.out⟩
        · have hn : nameC b = true := by simp only [nameC]; simp; omega
          have d1 : decide ((97 : Int) ≤ (b.toNat : Int)) = false := by simp; omega
          have d2 : decide ((b.toNat : Int) ≤ 122) = true := by simp; omega
          have d3 : decide ((48 : Int) ≤ (b.toNat : Int)) = true := by simp; omega
          have d4 : decide ((b.toNat : Int) ≤ 57) = true := by simp; omega
          have d5 : ((b.toNat : Int) == 46) = false := by simp; omega
          have d6 : ((b.toNat : Int) != 46) = true := by simp; omega
          have d7 : ((b.toNat : Int) == 45) = false := by simp; omega
          have d8 : ((b.toNat : Int) != 45) = true := by simp; omega
          have hnx : (s.data.toList.drop (i + 1)).all nameC = R := by have := HST.out; rw [hn, Bool.true_and] at this; exact this
          have HNX := Lib.hid hnx
          clear hnx hn h
          go_wp2_with fail
          go_roundg (gk - 1)
          case measure => have := HIG.out; omega
          case rel => exact ⟨rfl, i + 1, by have := HIG.out; omega, by go_num, HNX.out⟩
        · have hn : nameC b = true := by simp only [nameC]; simp; omega
          have d1 : decide ((97 : Int) ≤ (b.toNat : Int)) = false := by simp; omega
          have d2 : decide ((b.toNat : Int) ≤ 122) = true := by simp; omega
          have d3 : decide ((48 : Int) ≤ (b.toNat : Int)) = false := by simp; omega
          have d4 : decide ((b.toNat : Int) ≤ 57) = true := by simp; omega
          have d5 : ((b.toNat : Int) == 46) = true := by simp; omega
          have d6 : ((b.toNat : Int) != 46) = false := by simp; omega
          have d7 : ((b.toNat : Int) == 45) = false := by simp; omega
          have d8 : ((b.toNat : Int) != 45) = true := by simp; omega
          have hnx : (s.data.toList.drop (i + 1)).all nameC = R := by have := HST.out; rw [hn, Bool.true_and] at this; exact this
          have HNX := Lib.hid hnx
          clear hnx hn h
          go_wp2_with fail
          go_roundg (gk - 1)
          case measure => have := HIG.out; omega
          case rel => exact ⟨rfl, i + 1, by have := HIG.out; omega, by go_num, HNX.out⟩
        · have hn : nameC b = true := by simp only [nameC]; simp; omega
          have d1 : decide ((97 : Int) ≤ (b.toNat : Int)) = false := by simp; omega
          have d2 : decide ((b.toNat : Int) ≤ 122) = true := by simp; omega
          have d3 : decide ((48 : Int) ≤ (b.toNat : Int)) = false := by simp; omega
          have d4 : decide ((b.toNat : Int) ≤ 57) = true := by simp; omega
          have d5 : ((b.toNat : Int) == 46) = false := by simp; omega
          have d6 : ((b.toNat : Int) != 46) = true := by simp; omega
          have d7 : ((b.toNat : Int) == 45) = true := by simp; omega
          have d8 : ((b.toNat : Int) != 45) = false := by simp; omega
          have hnx : (s.data.toList.drop (i + 1)).all nameC = R := by have := HST.out; rw [hn, Bool.true_and] at this; exact this
          have HNX := Lib.hid hnx
          clear hnx hn h
          go_wp2_with fail
          go_roundg (gk - 1)
          case measure => have := HIG.out; omega
          case rel => exact ⟨rfl, i + 1, by have := HIG.out; omega, by go_num, HNX.out⟩
        · have hn : nameC b = false := by simp only [nameC]; simp; omega
          have d1 : decide ((97 : Int) ≤ (b.toNat : Int)) = false := by simp; omega
          have d2 : decide ((b.toNat : Int) ≤ 122) = true := by simp; omega
          have d3 : decide ((48 : Int) ≤ (b.toNat : Int)) = false := by simp; omega
          have d4 : decide ((b.toNat : Int) ≤ 57) = true := by simp; omega
          have d5 : ((b.toNat : Int) == 46) = false := by simp; omega
          have d6 : ((b.toNat : Int) != 46) = true := by simp; omega
          have d7 : ((b.toNat : Int) == 45) = false := by simp; omega
          have d8 : ((b.toNat : Int) != 45) = true := by simp; omega
          obtain rfl : false = R := by have := HST.out; rw [hn, Bool.false_and] at this; exact this
          obtain rfl : false = r := by have := HRR.out; rw [Bool.false_and] at this; exact this
          clear hn h
          go_wp2_with fail
          go_ret
          exact ⟨rfl, rfl⟩
        · have hn : nameC b = false := by simp only [nameC]; simp; omega
          have d1 : decide ((97 : Int) ≤ (b.toNat : Int)) = false := by simp; omega
          have d2 : decide ((b.toNat : Int) ≤ 122) = true := by simp; omega
          have d3 : decide ((48 : Int) ≤ (b.toNat : Int)) = true := by simp; omega
          have d4 : decide ((b.toNat : Int) ≤ 57) = false := by simp; omega
          have d5 : ((b.toNat : Int) == 46) = false := by simp; omega
          have d6 : ((b.toNat : Int) != 46) = true := by simp; omega
          have d7 : ((b.toNat : Int) == 45) = false := by simp; omega
          have d8 : ((b.toNat : Int) != 45) = true := by simp; omega
          obtain rfl : false = R := by have := HST.out; rw [hn, Bool.false_and] at this; exact this
          obtain rfl : false = r := by have := HRR.out; rw [Bool.false_and] at this; exact this
          clear hn h
          go_wp2_with fail
          go_ret
          exact ⟨rfl, rfl⟩
        · have hn : nameC b = false := by simp only [nameC]; simp; omega
          have d1 : decide ((97 : Int) ≤ (b.toNat : Int)) = true := by simp; omega
          have d2 : decide ((b.toNat : Int) ≤ 122) = false := by simp; omega
          have d3 : decide ((48 : Int) ≤ (b.toNat : Int)) = true := by simp; omega
          have d4 : decide ((b.toNat : Int) ≤ 57) = false := by simp; omega
          have d5 : ((b.toNat : Int) == 46) = false := by simp; omega
          have d6 : ((b.toNat : Int) != 46) = true := by simp; omega
          have d7 : ((b.toNat : Int) == 45) = false := by simp; omega
          have d8 : ((b.toNat : Int) != 45) = true := by simp; omega
          obtain rfl : false = R := by have := HST.out; rw [hn, Bool.false_and] at this; exact this
          obtain rfl : false = r := by have := HRR.out; rw [Bool.false_and] at this; exact this
          clear hn h
          go_wp2_with fail
          go_ret
          exact ⟨rfl, rfl⟩
      · have el : decide ((i : Int) < (s.size : Int)) = false := by simp; omega
        have el' : decide (i < s.size) = false := by simp; omega
        have hR1 : R = true := by rw [← hall, List.drop_of_length_le (by rw [text_size3]; omega)]; rfl
        clear hig hall
        go_wp2_with fail
        go_meet
        exact ⟨rfl, hR1⟩
  case rest =>
    obtain ⟨rfl, rfl⟩ := hcut
    obtain ⟨w, rfl⟩ : ∃ x, x = wc := ⟨_, rfl⟩
    have hrr := HRR.out
    rw [Bool.true_and] at hrr
    by_cases h0 : s.size = 0
    · obtain rfl : false = r := by rw [← hrr]; simp [h0]
      have e1 : s.toList.isEmpty = true := by rw [empty_size3]; simpa using h0
      have e2 : (!s.toList.isEmpty) = false := by rw [e1]; rfl
      have e3 : decide ((1 : Int) ≤ (s.size : Int)) = false := decide_eq_false (by omega)
      have e4 : decide (1 ≤ s.size) = false := decide_eq_false (by omega)
      have e5 : s.toList = [] := by simpa using e1
      clear hrr
      go_wp2_with fail
      go_ret
      exact ⟨rfl, rfl⟩
    · have e1 : s.toList.isEmpty = false := by rw [empty_size3]; simpa using h0
      have e2 : (!s.toList.isEmpty) = true := by rw [e1]; rfl
      have e3 : decide ((1 : Int) ≤ (s.size : Int)) = true := decide_eq_true (by omega)
      have e4 : decide (1 ≤ s.size) = true := decide_eq_true (by omega)
      rw [e4, Bool.true_and] at hrr
      by_cases h32 : s.size ≤ 32
      · obtain rfl : true = r := by rw [← hrr]; simp [h32]
        have e5 : decide ((s.size : Int) ≤ 32) = true := by simp; omega
        have e6 : decide (s.size ≤ 32) = true := by simp; omega
        clear hrr
        go_wp2_with fail
        go_ret
        exact ⟨rfl, rfl⟩
      · obtain rfl : false = r := by rw [← hrr]; simp [h32]
        have e5 : decide ((s.size : Int) ≤ 32) = false := by simp; omega
        have e6 : decide (s.size ≤ 32) = false := by simp; omega
        clear hrr
        go_wp2_with fail
        go_ret
        exact ⟨rfl, rfl⟩

end Go.Proofs.YtfpgbhimgfdddaaGreatDoor

/- The walks of layer 3 (disk): paths, the code's and the document's. -/
namespace Go.Proofs.YtfpgbhimgfdddaaGreatDoor
open Go.RowKit
attribute [local go_sem ↓] Go.wp_at_zero Go.wp_at_succ
attribute [local go_sem] Later.cell Later.frozen

theorem bytes_eq {a b : ByteArray} (h : a.data.toList = b.data.toList) : a = b := by
  cases a; cases b
  simp at h
  rw [h]
theorem bytes_of {a : ByteArray} {l : Txt} (h : a.data.toList = l) : a = ⟨l.toArray⟩ := bytes_eq (by simpa using h)
theorem take_bytes (s : ByteArray) (k : Nat) : (s.extract 0 k).data.toList = s.data.toList.take k := by
  simp only [ByteArray.data_extract, Array.toList_extract]
  simp
theorem drop_bytes (s : ByteArray) (k : Nat) : (s.extract k s.size).data.toList = s.data.toList.drop k := by
  simp only [ByteArray.data_extract, Array.toList_extract]
  rw [← text_size3, List.extract_eq_take_drop, List.take_of_length_le]
  simp
theorem index_slash : ∀ l : Txt, Lib.indexByte l 47 = match slashAt l with | none => -1 | some k => (k : Int)
  | [] => rfl
  | b :: l => by
    have ih := index_slash l
    rw [Lib.indexByte, slashAt]
    by_cases hb : b = 47
    · simp [hb]
    · rw [if_neg hb, if_neg (by simpa using hb), ih]
      cases slashAt l with
      | none => simp
      | some k =>
        simp only [Option.map_some]
        rw [if_neg (by simp)]
        simp
theorem slashAt_lt : ∀ {l : Txt} {k : Nat}, slashAt l = some k → k < l.length
  | b :: l, k, h => by
    rw [slashAt] at h
    split at h
    · injection h with h; subst h; simp
    · cases hs : slashAt l with
      | none => rw [hs] at h; cases h
      | some j =>
        rw [hs] at h
        injection h with h
        have := slashAt_lt hs
        simp at h ⊢
        omega
/-- The text cut at its first slash. -/
def cutR (l : Txt) : Txt × Txt × Bool := match slashAt l with | none => (l, [], false) | some k => (l.take k, l.drop (k + 1), true)

set_option maxRecDepth 100000 in
set_option maxHeartbeats 1000000 in
theorem scut_calls (s : ByteArray) (A B : ByteArray) (f : Bool) (hr : cutR s.data.toList = (A.data.toList, B.data.toList, f)) (hs : s.size ≤ 1073741824) (w : World) :
    Calls Tryz.prog 138 #[.string s, .string ⟨#[47]⟩] w fun e w' => e = .returned (.tuple #[.string A, .string B, .bool f]) ∧ Below w.heap.size w w' := by
  have hix := Tryz.stringslite_Index_one s 47 w
  rw [index_slash] at hix
  unfold cutR at hr
  cases hsl : slashAt s.data.toList with
  | none =>
    rw [hsl] at hix hr
    obtain ⟨h1, h2, rfl⟩ : s.data.toList = A.data.toList ∧ [] = B.data.toList ∧ false = f := by simpa using hr
    obtain rfl := bytes_eq h1
    obtain rfl : ⟨#[]⟩ = B := bytes_eq h2
    have HIX := Lib.hid hix
    clear hix hr hsl h1 h2
    go_enter Tryz.func138, Tryz.ntmps138
    go_wp2_with fail
    refine HIX.out.mono ?_
    rintro e w' ⟨rfl, rfl⟩
    go_wp2_with fail
    go_ret3
    exact ⟨rfl, Below.refl _ _⟩
  | some k =>
    rw [hsl] at hix hr
    have hk := slashAt_lt hsl
    rw [text_size3] at hk
    obtain ⟨h1, h2, rfl⟩ : s.data.toList.take k = A.data.toList ∧ s.data.toList.drop (k + 1) = B.data.toList ∧ true = f := by simpa using hr
    have e1 : s.extract 0 k = A := bytes_eq (by rw [take_bytes]; exact h1)
    have e2 : s.extract (k + 1) s.size = B := bytes_eq (by rw [drop_bytes]; exact h2)
    have HIX := Lib.hid hix
    have HE1 := Lib.hid e1
    have HE2 := Lib.hid e2
    have hk0 : decide ((0 : Int) ≤ (k : Int)) = true := by simp
    clear hix hr hsl h1 h2 e1 e2
    go_enter Tryz.func138, Tryz.ntmps138
    go_wp2_with fail
    refine HIX.out.mono ?_
    rintro e w' ⟨rfl, rfl⟩
    go_upto_region 3 with fail
    have z1 : IntKind.i64.wrap ((k : Int) + 1) = (k : Int) + 1 := IntWalk.i64_in _ (by omega)
    have z2 : (0 : Int) ≤ (k : Int) + 1 := by omega
    have z3 : ((k : Int) + 1).toNat = k + 1 := by omega
    have z4 : (k : Int) ≤ (s.size : Int) := by omega
    have z5 : (k : Int) + 1 ≤ (s.size : Int) := by omega
    refine wp_region_later (by kernel_rfl) (by kernel_rfl) ?_
    repeat (go_big_quiet_step (fail))
    refine wpQuiet_nil ?_
    rintro w2 ⟨⟨_, hb2⟩, rfl⟩
    clear z1 z2 z3 z4 z5
    go_wp2_with fail
    go_ret3
    exact ⟨ret3 (by rw [← HE1.out]; rfl) (by rw [← HE2.out]; rfl) rfl, hb2⟩
theorem cut3_calls (s : ByteArray) (A B : ByteArray) (f : Bool) (hr : cutR s.data.toList = (A.data.toList, B.data.toList, f)) (hs : s.size ≤ 1073741824) (w : World) :
    Calls Tryz.prog 111 #[.string s, .string ⟨#[47]⟩] w fun e w' => e = .returned (.tuple #[.string A, .string B, .bool f]) ∧ Below w.heap.size w w' := by
  have HC := Lib.hid (scut_calls s A B f hr hs w)
  clear hr
  go_enter Tryz.func111, Tryz.ntmps111
  go_wp2_with fail
  refine HC.out.mono ?_
  rintro e w' ⟨rfl, hb⟩
  go_wp2_with fail
  go_ret3
  exact ⟨rfl, hb⟩

theorem cut_pair (s : ByteArray) : ∃ (A B : ByteArray) (f : Bool), cutR s.data.toList = (A.data.toList, B.data.toList, f) ∧ A.size ≤ s.size ∧ B.size ≤ s.size ∧ pathB s.data.toList = (nameB A.data.toList && (!f || nameB B.data.toList)) := by
  unfold cutR pathB
  cases h : slashAt s.data.toList with
  | none => exact ⟨s, ⟨#[]⟩, false, rfl, Nat.le_refl _, Nat.zero_le _, by simp⟩
  | some k =>
    refine ⟨⟨(s.data.toList.take k).toArray⟩, ⟨(s.data.toList.drop (k + 1)).toArray⟩, true, rfl, ?_, ?_, by simp⟩
    · rw [← text_size3, ← text_size3]; simp; omega
    · rw [← text_size3, ← text_size3]; simp

set_option maxHeartbeats 1000000 in
theorem path_calls (s : ByteArray) (r : Bool) (hr : pathB s.data.toList = r) (hs : s.size ≤ 1073741824) (w : World) :
    Calls Tryz.prog 62 #[.string s] w fun e w' => e = .returned (.bool r) ∧ Below w.heap.size w w' := by
  obtain ⟨A, B, f, h1, h2, h3, h4⟩ := cut_pair s
  rw [hr] at h4
  have HC := Lib.hid (cut3_calls s A B f h1 hs w)
  obtain ⟨ra, hra⟩ : ∃ r, nameB A.data.toList = r := ⟨_, rfl⟩
  obtain ⟨rb, hrb⟩ : ∃ r, nameB B.data.toList = r := ⟨_, rfl⟩
  have HA := Lib.hid (fun w => name_calls A ra hra (by omega) w)
  have HB := Lib.hid (fun w => name_calls B rb hrb (by omega) w)
  rw [hra, hrb] at h4
  have H4 := Lib.hid h4
  clear h1 hra hrb hr h4
  go_enter Tryz.func62, Tryz.ntmps62
  go_wp2_with fail
  refine HC.out.mono ?_
  rintro e w1 ⟨rfl, hb⟩
  go_wp2_with fail
  refine (HA.out w1).mono ?_
  rintro e w1' ⟨rfl, rfl⟩
  cases ra with
  | false =>
    obtain rfl : r = false := by simpa using H4.out
    go_wp2_with fail
    go_ret
    exact ⟨rfl, hb⟩
  | true =>
    cases f with
    | false =>
      obtain rfl : r = true := by simpa using H4.out
      go_wp2_with fail
      go_ret
      exact ⟨rfl, hb⟩
    | true =>
      obtain rfl : r = rb := by simpa using H4.out
      go_wp2_with fail
      refine (HB.out w1).mono ?_
      rintro e w1' ⟨rfl, rfl⟩
      go_wp2_with fail
      go_ret
      exact ⟨rfl, hb⟩

/-! ### the document's -/

end Go.Proofs.YtfpgbhimgfdddaaGreatDoor

/- The walks of layer 3 (disk): failures, ready, step, Off, Crash. -/
namespace Go.Proofs.YtfpgbhimgfdddaaGreatDoor
open Go.RowKit
attribute [local go_sem ↓] Go.wp_at_zero Go.wp_at_succ
attribute [local go_sem] Later.cell Later.frozen

section
variable {B0 : Nat} {a : Nat → Addr}
theorem fail_calls (op s : ByteArray) (k : Nat) (w : World) :
    Calls Tryz.prog 64 #[.string op, .string s, failV a (k + 1)] w fun e w' => ∃ v, e = .returned v ∧ ErrV a w' op s (k + 1) v ∧ Below w.heap.size w w' := by
  unfold failV
  obtain ⟨x, hx⟩ : ∃ x, a (k + 1) = x := ⟨_, rfl⟩
  have HX := Lib.hid hx
  rw [hx]
  clear hx
  go_enter Tryz.func64, Tryz.ntmps64
  go_wp2_with fail
  go_ret
  exact ⟨_, rfl, ⟨_, rfl, by unfold failV; rw [HX.out]; exact Blk.new _ _ _⟩, (Below.refl _ _).alloc (Nat.le_refl _) _⟩

def readyR (off ok : Bool) : Nat := if off then 1 else if ok then 0 else 2
set_option maxHeartbeats 1000000 in
theorem ready_calls (p : Nat) (off ok : Bool) (op s : ByteArray) (k : Nat) (hk : readyR off ok = k) (w : World) (hoff : w.cell? ⟨p, 6, none⟩ = some (.bool off)) (hF : Fails B0 a w) :
    Calls Tryz.prog 61 #[.pointer (some ⟨p, 0, none⟩), .string op, .string s, .bool ok] w fun e w' => ∃ v, e = .returned v ∧ ErrV a w' op s k v ∧ Below w.heap.size w w' := by
  have f1 : _ = some (failV a 1) := (hF 1 (by decide)).2
  have f2 : _ = some (failV a 2) := (hF 2 (by decide)).2
  have hfl := fun k w => fail_calls (a := a) op s k w
  unfold failV at f1 f2 hfl
  simp only [failG] at f1 f2
  have HF := Lib.hid hfl
  have HK := Lib.hid hk
  clear hk hF hfl
  cases off with
  | true =>
    obtain rfl : 1 = k := by have := HK.out; simpa [readyR] using this
    go_enter Tryz.func61, Tryz.ntmps61
    go_wp2_with fail
    refine (HF.out 0 w).mono ?_
    rintro e w1 ⟨v, rfl, hv, hb⟩
    have HV := Lib.hid hv
    clear hv
    go_wp2_with fail
    go_ret
    exact ⟨v, rfl, HV.out, hb⟩
  | false =>
    cases ok with
    | true =>
      obtain rfl : 0 = k := by have := HK.out; simpa [readyR] using this
      go_enter Tryz.func61, Tryz.ntmps61
      go_wp2_with fail
      go_ret
      exact ⟨_, rfl, rfl, Below.refl _ _⟩
    | false =>
      obtain rfl : 2 = k := by have := HK.out; simpa [readyR] using this
      go_enter Tryz.func61, Tryz.ntmps61
      go_wp2_with fail
      refine (HF.out 1 w).mono ?_
      rintro e w1 ⟨v, rfl, hv, hb⟩
      have HV := Lib.hid hv
      clear hv
      go_wp2_with fail
      go_ret
      exact ⟨v, rfl, HV.out, hb⟩

variable {R : Nat → Nat} {A : Adr} {d : Ds}
theorem DBlk.set (w : World) {d' : Ds} {i : Nat} {u : Value} (h : DBlk w A d) (he : (#[.map (some A.md), .map (some A.mf), .map (some A.sd), .map (some A.sf), A.sv, .int .i64 (d.cap : Int), .bool d.off, .int .i64 (d.await : Int)] : Array Value).setIfInBounds i u = #[.map (some A.md), .map (some A.mf), .map (some A.sd), .map (some A.sf), A.sv, .int .i64 (d'.cap : Int), .bool d'.off, .int .i64 (d'.await : Int)]) : DBlk (w.setCell ⟨A.p, i, none⟩ u) A d' := by
  have := Blk.set_ h i u
  rw [he] at this
  exact this
def StepOut (B0 : Nat) (a : Nat → Addr) (R : Nat → Nat) (A : Adr) (d : Ds) (op s : ByteArray) (w : World) (e : Ending) (w' : World) : Prop :=
  ∃ v, e = .returned v ∧ ErrV a w' op s (stepD d).1 v ∧ CD B0 w' R A (stepD d).2 ∧ Own R R w w' ∧ ∀ k, k < w.heap.size → k ≠ A.p → w'.heap[k]? = w.heap[k]?
set_option maxHeartbeats 1000000 in
theorem step_calls (op s : ByteArray) (w : World) (h : CD B0 w R A d) (haw : d.await ≤ 9223372036854775807) (hB : B0 ≤ w.heap.size) (hF : Fails B0 a w) :
    Calls Tryz.prog 69 #[.pointer (some ⟨A.p, 0, none⟩), .string op, .string s] w (StepOut B0 a R A d op s w) := by
  have c7 : _ = some (Value.int .i64 (d.await : Int)) := Blk.cell h.blk 7
  have g7 := Blk.frozen h.blk 7
  have hp1 : R A.p ≠ 0 := by rw [h.rp]; omega
  have hpl := Blk.lt h.blk
  by_cases h0 : d.await = 0
  · have e1 : decide ((0 : Int) < (d.await : Int)) = false := by simp; omega
    have e2 : decide (0 < d.await) = false := by simp; omega
    have hst : stepD d = (0, d) := by simp [stepD, h0]
    have HST := Lib.hid hst
    have H := Lib.hid h
    obtain ⟨n, hn⟩ : ∃ n, d.await = n := ⟨_, rfl⟩
    obtain ⟨p, hp⟩ : ∃ p, A.p = p := ⟨_, rfl⟩
    rw [hn] at c7 e1 e2
    rw [hp] at c7 g7 ⊢
    clear hst h h0 hn hp hp1 hpl hF g7
    go_enter Tryz.func69, Tryz.ntmps69
    go_wp2_with fail
    go_ret
    exact ⟨_, rfl, by rw [HST.out]; rfl, by rw [HST.out]; exact H.out, Own.refl _ _, fun _ _ _ => rfl⟩
  · have e1 : decide ((0 : Int) < (d.await : Int)) = true := by simp; omega
    have e2 : decide (0 < d.await) = true := by simp; omega
    by_cases hx1 : d.await = 1
    · have hst : stepD d = (1, { d with await := 0, off := true }) := by simp [stepD, hx1]
      have f1 : _ = some (failV a 1) := (hF 1 (by decide)).2
      have hf1 := (hF 1 (by decide)).1
      have hfl := fun w => fail_calls (a := a) op s 0 w
      have hne : failG 1 ≠ A.p := by
        intro e
        have := h.low A.p (by rw [← e]; exact hf1)
        exact hp1 this
      have hblk2 : DBlk ((w.setCell ⟨A.p, 7, none⟩ (.int .i64 0)).setCell ⟨A.p, 6, none⟩ (.bool true)) A { d with await := 0, off := true } := by
        have h1 : DBlk (w.setCell ⟨A.p, 7, none⟩ (.int .i64 0)) A { d with await := 0 } := DBlk.set w h.blk rfl
        exact DBlk.set _ h1 rfl
      have hCD : CD B0 ((w.setCell ⟨A.p, 7, none⟩ (.int .i64 0)).setCell ⟨A.p, 6, none⟩ (.bool true)) R A { d with await := 0, off := true } :=
        h.blk_only (fun k _ hk => (Below.heap_setCell _ _ _ k hk).trans (Below.heap_setCell _ _ _ k hk)) (by simp [World.setCell]) hblk2 rfl rfl rfl rfl
      have hO : Own R R w ((w.setCell ⟨A.p, 7, none⟩ (.int .i64 0)).setCell ⟨A.p, 6, none⟩ (.bool true)) := (Own.of_set _ hp1).trans (Own.of_set _ hp1)
      have hfc : ((w.setCell ⟨A.p, 7, none⟩ (.int .i64 0)).setCell ⟨A.p, 6, none⟩ (.bool true)).cell? ⟨failG 1, 0, none⟩ = some (failV a 1) := by
        rw [← f1]
        exact World.cell?_of_block ((Below.heap_setCell _ _ _ _ hne).trans (Below.heap_setCell _ _ _ _ hne))
      have c7' := c7
      rw [hx1] at c7'
      have g6 := Blk.frozen h.blk 6
      have c6 : _ = some (Value.bool d.off) := Blk.cell h.blk 6
      unfold failV at hfc hfl
      simp only [failG] at hfc
      have hfar : ∀ w1 : World, Below ((w.setCell ⟨A.p, 7, none⟩ (.int .i64 0)).setCell ⟨A.p, 6, none⟩ (.bool true)).heap.size ((w.setCell ⟨A.p, 7, none⟩ (.int .i64 0)).setCell ⟨A.p, 6, none⟩ (.bool true)) w1 → ∀ k, k < w.heap.size → k ≠ A.p → w1.heap[k]? = w.heap[k]? :=
        fun w1 hb k hk hne => (hb.block k (by simp [World.setCell]; exact hk)).trans ((Below.heap_setCell _ _ _ k hne).trans (Below.heap_setCell _ _ _ k hne))
      have HFAR := Lib.hid hfar
      have HST := Lib.hid hst
      have HC := Lib.hid hCD
      have HO := Lib.hid hO
      have HFL := Lib.hid hfl
      obtain ⟨p, hp⟩ : ∃ p, A.p = p := ⟨_, rfl⟩
      have HPP := Lib.hid hp
      rw [hp] at c7' g7 g6 c6 hpl hfc HC HO HFAR ⊢
      clear hfar
      clear hst h h0 hp hp1 hF hfl hCD hO hblk2 f1 hf1 hne c7 e1 e2 hx1
      go_enter Tryz.func69, Tryz.ntmps69
      go_wp2_with fail
      refine (HFL.out _).mono ?_
      rintro e w1 ⟨v, rfl, hv, hb⟩
      have HV := Lib.hid hv
      clear hv
      go_wp2_with fail
      go_ret
      exact ⟨v, rfl, by rw [HST.out]; exact HV.out, by rw [HST.out]; exact HC.out.below hb, HO.out.trans (Own.of_below hb), by rw [HPP.out]; exact HFAR.out _ hb⟩
    · have hst : stepD d = (0, { d with await := d.await - 1 }) := by simp [stepD, h0, hx1]
      have hval : (Value.int .i64 ((d.await : Int) - 1)) = .int .i64 ((d.await - 1 : Nat) : Int) := vi (by omega)
      have hblk2 : DBlk (w.setCell ⟨A.p, 7, none⟩ (.int .i64 ((d.await : Int) - 1))) A { d with await := d.await - 1 } := DBlk.set w h.blk (by rw [hval]; rfl)
      have hCD : CD B0 (w.setCell ⟨A.p, 7, none⟩ (.int .i64 ((d.await : Int) - 1))) R A { d with await := d.await - 1 } :=
        h.blk_only (fun k _ hk => Below.heap_setCell _ _ _ k hk) (by simp [World.setCell]) hblk2 rfl rfl rfl rfl
      have hO : Own R R w (w.setCell ⟨A.p, 7, none⟩ (.int .i64 ((d.await : Int) - 1))) := Own.of_set _ hp1
      have HST := Lib.hid hst
      have HC := Lib.hid hCD
      have HO := Lib.hid hO
      have e3 : (((d.await : Int) - 1) == 0) = false := by simp; omega
      have hn2 : 2 ≤ d.await := by omega
      obtain ⟨n, hn⟩ : ∃ n, d.await = n := ⟨_, rfl⟩
      obtain ⟨p, hp⟩ : ∃ p, A.p = p := ⟨_, rfl⟩
      have HPP := Lib.hid hp
      have hr := HST.out
      rw [hn] at c7 e1 e2 e3 HC HO haw hn2 hr
      rw [hp] at c7 g7 hpl HC HO ⊢
      have HR := Lib.hid hr
      clear hst h h0 hp hp1 hF hCD hO hblk2 hx1 hval hn hr HST
      go_enter Tryz.func69, Tryz.ntmps69
      go_wp2_with fail
      go_ret
      exact ⟨_, rfl, by rw [HR.out]; rfl, by rw [HR.out]; exact HC.out, HO.out, fun k _ hne => Below.heap_setCell _ _ _ k (by rw [← HPP.out]; exact hne)⟩
end

/-! ### Off, Crash -/
set_option maxHeartbeats 400000 in
theorem off_calls (p : Nat) (off : Bool) (w : World) (hoff : w.cell? ⟨p, 6, none⟩ = some (.bool off)) :
    Calls Tryz.prog 26 #[.pointer (some ⟨p, 0, none⟩)] w fun e w' => e = .returned (.bool off) ∧ w = w' := by
  go_enter Tryz.func26, Tryz.ntmps26
  go_wp2_with fail
  go_ret
  exact ⟨rfl, rfl⟩
set_option maxHeartbeats 1000000 in
theorem crash_calls {B0 : Nat} {R : Nat → Nat} {A : Adr} {d : Ds} (n : Int) (w : World) (h : CD B0 w R A d) (hn : n ≤ 9223372036854775807) (hn' : -9223372036854775808 ≤ n) :
    Calls Tryz.prog 25 #[.pointer (some ⟨A.p, 0, none⟩), .int .i64 n] w fun e w' => e = .returned (.tuple #[]) ∧ CD B0 w' R A (crashD d n) ∧ Own R R w w' := by
  have c7 : _ = some (Value.int .i64 (d.await : Int)) := Blk.cell h.blk 7
  have g7 := Blk.frozen h.blk 7
  have hp1 : R A.p ≠ 0 := by rw [h.rp]; omega
  have hblk2 : ∀ v : Int, v = (n.toNat : Int) → DBlk (w.setCell ⟨A.p, 7, none⟩ (.int .i64 v)) A (crashD d n) := fun v hv => DBlk.set w h.blk (by rw [hv]; rfl)
  have hCD : ∀ v : Int, v = (n.toNat : Int) → CD B0 (w.setCell ⟨A.p, 7, none⟩ (.int .i64 v)) R A (crashD d n) := fun v hv =>
    h.blk_only (fun k _ hk => Below.heap_setCell _ _ _ k hk) (by simp [World.setCell]) (hblk2 v hv) rfl rfl rfl rfl
  have hO : ∀ v : Value, Own R R w (w.setCell ⟨A.p, 7, none⟩ v) := fun v => Own.of_set _ hp1
  have HC := Lib.hid hCD
  have HO := Lib.hid hO
  obtain ⟨p, hp⟩ : ∃ p, A.p = p := ⟨_, rfl⟩
  rw [hp] at c7 g7 HC HO ⊢
  clear h hp hp1 hCD hO hblk2
  by_cases hneg : n < 0
  · have e1 : decide ((0 : Int) < n) = false := by simp; omega
    have e2 : decide (n < 0) = true := by simpa using hneg
    have e3 : decide ((0 : Int) ≤ n) = false := by simp; omega
    have e4 : max 0 n = 0 := by omega
    go_enter Tryz.func25, Tryz.ntmps25
    go_wp2_with fail
    go_end0
    exact ⟨rfl, HC.out _ (by omega), HO.out _⟩
  · have e2 : decide (n < 0) = false := by simp; omega
    have e4 : max 0 n = n := by omega
    go_enter Tryz.func25, Tryz.ntmps25
    go_wp2_with fail
    go_end0
    exact ⟨rfl, HC.out _ (by omega), HO.out _⟩
end Go.Proofs.YtfpgbhimgfdddaaGreatDoor
