/- The code's disk (layer 3) in the hands of a caller of its own: what the calls answer, failures too. -/
import Derived.Test.YtfpgbhimgfdddaaGreatDoorStb21
import Derived.Test.YtfpgbhimgfdddaaGreatDoorStb19
set_option linter.unusedVariables false
set_option linter.unusedSimpArgs false
namespace Go.Proofs.YtfpgbhimgfdddaaGreatDoor
open Go.RowKit Go.Shelf Go.Maps Go.Sort

/-- What has become of the world: a block that nobody owns is as it was, and nobody owns it now. -/
structure Out (R R' : Nat → Nat) (w w' : World) : Prop where
  os : w'.os = w.os
  tape : w'.tape = w.tape
  output : w'.output = w.output
  size : w.heap.size ≤ w'.heap.size
  block : ∀ k, k < w.heap.size → R k = 0 → w'.heap[k]? = w.heap[k]?
  old : ∀ k, k < w.heap.size → R k = 0 → R' k = 0
section
variable {R R' R'' : Nat → Nat} {w w' w'' : World} {a : Nat → Addr} {B0 M M' p k : Nat} {d d' : Ds} {A : Adr} {v : Value}
theorem giv_zero {R : Nat → Nat} {k : Nat} (h : R k = 0) (q : Nat) : giv R q 0 k = 0 := by
  unfold giv
  split
  · rfl
  · exact h
theorem Out.refl (R : Nat → Nat) (w : World) : Out R R w w := ⟨rfl, rfl, rfl, Nat.le_refl _, fun _ _ _ => rfl, fun _ _ h => h⟩
theorem Out.of_own (h : Own R R' w w') : Out R R' w w' := ⟨h.os, h.tape, h.output, h.size, h.block, fun k hk h0 => (h.old k hk).trans h0⟩
theorem Out.trans (h : Out R R' w w') (k : Out R' R'' w' w'') : Out R R'' w w'' :=
  ⟨k.os.trans h.os, k.tape.trans h.tape, k.output.trans h.output, Nat.le_trans h.size k.size,
   fun i hi hr => (k.block i (Nat.lt_of_lt_of_le hi h.size) (h.old i hi hr)).trans (h.block i hi hr),
   fun i hi hr => k.old i (Nat.lt_of_lt_of_le hi h.size) (h.old i hi hr)⟩
theorem Out.of_below (h : Below w.heap.size w w') : Out R R w w' := ⟨h.os, h.tape, h.output, h.size, fun k hk _ => h.block k hk, fun _ _ h => h⟩
theorem Out.below {B : Nat} (h : Out R R' w w') (hB : B ≤ w.heap.size) (hR : ∀ k, k < B → R k = 0) : Below B w w' :=
  ⟨h.os, h.tape, h.output, h.size, fun k hk => h.block k (by omega) (hR k hk)⟩
theorem Out.free (h : Out R R' w w') (q : Nat) : Out R (giv R' q 0) w w' :=
  ⟨h.os, h.tape, h.output, h.size, h.block, fun k hk h0 => giv_zero (h.old k hk h0) q⟩
theorem Out.blk {g : Nat} {t : TypeId} {cs : Array Value} (h : Out R R' w w') (hg : Blk w g t cs) (h0 : R g = 0) : Blk w' g t cs := (h.block g hg.lt h0).trans hg

/-! ### a block that the disk has no part in -/
theorem RowIs.free {r : Nat} {T T2 : TypeId} {sz n q : Nat} {xs : List Value} {cs : Array Value} (h : RowIs w R r T sz v n xs) (hq : Blk w q T2 cs) (hne : T ≠ T2) : RowIs w (giv R q 0) r T sz v n xs := by
  refine ⟨h.1, fun g hg => ?_⟩
  rw [giv_ne, h.2 g hg]
  rintro rfl
  rcases h.1.2 with ⟨rfl, _⟩ | ⟨g, cap, cur, rfl, _, h4, _⟩
  · cases hg
  · injection hg with hg
    subst hg
    exact (Blk.ne_ (t := T) (cs := cur) h4 hq hne) rfl
theorem Box.free {b q : Nat} {T T2 : TypeId} {cs : Array Value} (h : Box w R b T v) (hq : Blk w q T2 cs) (hne : T ≠ T2) : Box w (giv R q 0) b T v := ⟨h.1, by rw [giv_ne (Blk.ne_ h.1 hq hne)]; exact h.2⟩
theorem MapM.free {r b q : Nat} {f : Txt → Option Value} {T2 : TypeId} {cs : Array Value} (h : MapM w R r b f) (hq : Blk w q T2 cs) : MapM w (giv R q 0) r b f := by
  refine ⟨h.1, ?_⟩
  rw [giv_ne]
  · exact h.2
  · rintro rfl
    obtain ⟨D, ⟨es, clock, h1, _⟩, _⟩ := h.1
    unfold Blk at hq
    rw [hq] at h1
    cases h1
theorem CD.free {q : Nat} {cs : Array Value} (h : CD B0 w R A d) (hq : Blk w q 71 cs) : CD B0 w (giv R q 0) A d where
  blk := h.blk
  rp := by rw [giv_ne (Blk.ne_ h.blk hq (by decide))]; exact h.rp
  dirs := h.dirs.free hq
  files := h.files.free hq
  sdirs := h.sdirs.free hq
  sfiles := h.sfiles.free hq
  steps := by
    obtain ⟨fs, h1, h2, h3⟩ := h.steps
    refine ⟨fs, h1.free hq (by decide), h2, fun i s f hs hf => ?_⟩
    have h4 := h3 i s f hs hf
    cases s with
    | mkdir a => obtain ⟨b, e, h5⟩ := h4; exact ⟨b, e, h5.free hq (by decide)⟩
    | create a i => obtain ⟨b, c, e, h5, h6⟩ := h4; exact ⟨b, c, e, h5.free hq (by decide), h6.free hq (by decide)⟩
    | rename a a' => obtain ⟨b, c, e, h5, h6⟩ := h4; exact ⟨b, c, e, h5.free hq (by decide), h6.free hq (by decide)⟩
    | remove a => obtain ⟨b, e, h5⟩ := h4; exact ⟨b, e, h5.free hq (by decide)⟩
  bytes := ⟨h.bytes.1, fun i b f hb hf => by
    obtain ⟨v, h1, h2, h3⟩ := h.bytes.2 i b f hb hf
    exact ⟨v, h1, by rw [giv_ne (Blk.ne_ h1 hq (by decide))]; exact h2, h3.free hq (by decide)⟩⟩
  inw := fun k hk => h.inw k fun e => hk (giv_zero e q)
  low := fun k hk => giv_zero (h.low k hk) q

/-! ### the disk and its answers -/
/-- The disk at the place p holds d. -/
structure Dk (B0 M : Nat) (w : World) (R : Nat → Nat) (p : Nat) (d : Ds) : Prop where
  ex : ∃ A, CD B0 w R A d ∧ A.p = p
  wf : WF M d
theorem Dk.below (h : Dk B0 M w R p d) (hb : Below w.heap.size w w') : Dk B0 M w' R p d := by
  obtain ⟨A, h1, h2⟩ := h.ex
  exact ⟨⟨A, h1.below hb, h2⟩, h.wf⟩
theorem Dk.more (h : Dk B0 M w R p d) (hM : M ≤ M') : Dk B0 M' w R p d := ⟨h.ex, h.wf.more hM⟩
theorem Dk.low (h : Dk B0 M w R p d) : ∀ k, k < B0 → R k = 0 := by
  obtain ⟨A, h1, h2⟩ := h.ex
  exact h1.low
theorem Dk.new (h : Dk B0 M w R p d) {k : Nat} (hk : w.heap.size ≤ k) : R k = 0 := by
  obtain ⟨A, h1, h2⟩ := h.ex
  exact h1.inw.new hk
theorem Dk.lt (h : Dk B0 M w R p d) : p < w.heap.size := by
  obtain ⟨A, h1, rfl⟩ := h.ex
  exact h1.blk.lt
/-- An error: none, or a failure in a block that nobody owns. -/
def ErrW (a : Nat → Addr) (w : World) (R : Nat → Nat) : Nat → Value → Prop
  | 0, v => v = .nilIface
  | k + 1, v => ∃ q op path, v = .iface 68 (.pointer (some ⟨q, 0, none⟩)) ∧ Blk w q 71 #[.string op, .string path, failV a (k + 1)] ∧ R q = 0
theorem ErrW.out (h : ErrW a w R k v) (ho : Out R R' w w') : ErrW a w' R' k v := by
  cases k with
  | zero => exact h
  | succ k =>
    obtain ⟨q, op, path, h1, h2, h3⟩ := h
    exact ⟨q, op, path, h1, ho.blk h2 h3, ho.old q h2.lt h3⟩
theorem ErrW.below (h : ErrW a w R k v) (hb : Below w.heap.size w w') : ErrW a w' R k v := h.out (Out.of_below hb)
theorem ErrW.nil (h : ErrW a w R k v) (hk : k = 0) : v = .nilIface := by subst hk; exact h
theorem ErrW.some_ (h : ErrW a w R k v) (hk : k ≠ 0) : ∃ q op path, v = .iface 68 (.pointer (some ⟨q, 0, none⟩)) ∧ Blk w q 71 #[.string op, .string path, failV a k] ∧ R q = 0 := by
  cases k with
  | zero => exact absurd rfl hk
  | succ k => exact h
/-- A call's error and the disk behind it. -/
def DkOut (a : Nat → Addr) (B0 M : Nat) (R : Nat → Nat) (p : Nat) (r : Nat × Ds) (w : World) (e : Ending) (w' : World) : Prop :=
  ∃ v R', e = .returned v ∧ ErrW a w' R' r.1 v ∧ Dk B0 M w' R' p r.2 ∧ Out R R' w w'
theorem DkOut.mk' {op s : ByteArray} {R' : Nat → Nat} (h1 : ErrV a w' op s k v) (h2 : CD B0 w' R' A d') (h3 : Out R R' w w') (hw : WF M d') :
    ∃ R'', ErrW a w' R'' k v ∧ Dk B0 M w' R'' A.p d' ∧ Out R R'' w w' := by
  cases k with
  | zero => exact ⟨R', h1, ⟨⟨A, h2, rfl⟩, hw⟩, h3⟩
  | succ k =>
    obtain ⟨q, e, h4⟩ := h1
    exact ⟨giv R' q 0, ⟨q, op, s, e, h4, giv_self _ _ _⟩, ⟨⟨A, h2.free h4, rfl⟩, hw⟩, h3.free q⟩
theorem DkOut.of {r : Nat × Ds} {op s : ByteArray} {e : Ending} (h : NamesOutF B0 a R A r op s w e w') (hw : WF M r.2) : DkOut a B0 M R A.p r w e w' := by
  obtain ⟨v, R', A', rfl, h1, h2, h3, h4, _⟩ := h
  obtain ⟨R'', k1, k2, k3⟩ := DkOut.mk' h1 h2 (Out.of_own h3) hw
  rw [h4] at k2
  exact ⟨v, R'', rfl, k1, k2, k3⟩
theorem Dk.mkdir (h : Dk B0 M w R p d) (hM : M ≤ 536870912) (hB : B0 ≤ w.heap.size) (hF : Fails B0 a w) (S : ByteArray) (hS : S.size ≤ 1073741824) :
    Calls Tryz.prog 86 #[.pointer (some ⟨p, 0, none⟩), .string S] w (DkOut a B0 (M + 1) R p (mkdirD d S.data.toList) w) := by
  obtain ⟨A, hc, rfl⟩ := h.ex
  exact (mkdir_calls S w hc (h.wf.fit hM) hS hB hF).mono fun _ _ k => .of k.weak (h.wf.mkdir _)
theorem Dk.create (h : Dk B0 M w R p d) (hM : M ≤ 536870912) (hB : B0 ≤ w.heap.size) (hF : Fails B0 a w) (S : ByteArray) (hS : S.size ≤ 1073741824) :
    Calls Tryz.prog 19 #[.pointer (some ⟨p, 0, none⟩), .string S] w (DkOut a B0 (M + 1) R p (createD d S.data.toList) w) := by
  obtain ⟨A, hc, rfl⟩ := h.ex
  exact (create_calls S w hc (h.wf.fit hM) h.wf.nums hS hB hF).mono fun _ _ k => .of k (h.wf.create _)
theorem Dk.append (h : Dk B0 M w R p d) (hM : M ≤ 536870912) (hB : B0 ≤ w.heap.size) (hF : Fails B0 a w) (S : ByteArray) (hS : S.size ≤ 1073741824) (Ao : Option Addr) (t : Txt) (hl : Strs w Ao 1 [t]) (ht : t.length ≤ 140737488351232) :
    Calls Tryz.prog 20 #[.pointer (some ⟨p, 0, none⟩), .string S, .slice Ao 1 1] w (DkOut a B0 (M + t.length + 1) R p (appendD d S.data.toList t) w) := by
  obtain ⟨A, hc, rfl⟩ := h.ex
  have e : [t].flatten = t := by simp
  have hk := append_calls (a := a) S Ao 1 1 [t] w hc (h.wf.fit hM) hS hB hF hl (by decide) (by decide) (by rw [e]; omega) (h.wf.used hM) h.wf.capl (h.wf.nl hM) (h.wf.sl hM)
  rw [e] at hk
  exact hk.mono fun _ _ k => .of k.weak (h.wf.append _ _)
theorem Dk.sync (h : Dk B0 M w R p d) (hM : M ≤ 536870912) (hB : B0 ≤ w.heap.size) (hF : Fails B0 a w) (S : ByteArray) (hS : S.size ≤ 1073741824) :
    Calls Tryz.prog 91 #[.pointer (some ⟨p, 0, none⟩), .string S] w (DkOut a B0 (M + 1) R p (syncD d S.data.toList) w) := by
  obtain ⟨A, hc, rfl⟩ := h.ex
  exact (sync_calls S w hc (h.wf.fit hM) hS hB hF).mono fun _ _ k => .of k.weak (h.wf.sync _)
theorem Dk.syncNames (h : Dk B0 M w R p d) (hM : M ≤ 536870912) (hB : B0 ≤ w.heap.size) (hF : Fails B0 a w) :
    Calls Tryz.prog 75 #[.pointer (some ⟨p, 0, none⟩)] w (DkOut a B0 (M + 1) R p (syncNamesD d) w) := by
  obtain ⟨A, hc, rfl⟩ := h.ex
  exact (syncNames_calls w hc (h.wf.fit hM) hB hF).mono fun _ _ k => .of k.weak h.wf.syncNames
theorem Dk.rename (h : Dk B0 M w R p d) (hM : M ≤ 536870912) (hB : B0 ≤ w.heap.size) (hF : Fails B0 a w) (S S2 : ByteArray) (hS : S.size ≤ 1073741824) (hS2 : S2.size ≤ 1073741824) :
    Calls Tryz.prog 73 #[.pointer (some ⟨p, 0, none⟩), .string S, .string S2] w (DkOut a B0 (M + 1) R p (renameD d S.data.toList S2.data.toList) w) := by
  obtain ⟨A, hc, rfl⟩ := h.ex
  exact (rename_calls S S2 w hc (h.wf.fit hM) hS hS2 hB hF).mono fun _ _ k => .of k.weak (h.wf.rename _ _)
theorem Dk.remove (h : Dk B0 M w R p d) (hM : M ≤ 536870912) (hB : B0 ≤ w.heap.size) (hF : Fails B0 a w) (S : ByteArray) (hS : S.size ≤ 1073741824) :
    Calls Tryz.prog 74 #[.pointer (some ⟨p, 0, none⟩), .string S] w (DkOut a B0 (M + 1) R p (removeD d S.data.toList) w) := by
  obtain ⟨A, hc, rfl⟩ := h.ex
  exact (remove_calls S w hc (h.wf.fit hM) hS hB hF).mono fun _ _ k => .of k.weak (h.wf.remove _)
/-- A text (or something else) and an error; the disk is as it was. -/
def DkRead (a : Nat → Addr) (B0 M : Nat) (R : Nat → Nat) (p : Nat) (d : Ds) (P : Value → World → Prop) (k : Nat) (w : World) (e : Ending) (w' : World) : Prop :=
  ∃ u v R', e = .returned (.tuple #[u, v]) ∧ P u w' ∧ ErrW a w' R' k v ∧ Dk B0 M w' R' p d ∧ Out R R' w w'
theorem Dk.all (h : Dk B0 M w R p d) (hM : M ≤ 536870912) (hB : B0 ≤ w.heap.size) (hF : Fails B0 a w) (S : ByteArray) (hS : S.size ≤ 1073741824) :
    Calls Tryz.prog 59 #[.pointer (some ⟨p, 0, none⟩), .string S] w (DkRead a B0 M R p d (fun u _ => u = txtV (allD d S.data.toList).1) (allD d S.data.toList).2 w) := by
  obtain ⟨A, hc, rfl⟩ := h.ex
  refine (all3_calls S w hc (h.wf.fit hM) hS hB hF).mono ?_
  rintro e w2 ⟨v, rfl, hv, hb⟩
  obtain ⟨R'', k1, k2, k3⟩ := DkOut.mk' hv (hc.below hb) (Out.of_below (R := R) hb) h.wf
  exact ⟨_, v, R'', rfl, rfl, k1, k2, k3⟩
theorem Dk.off (h : Dk B0 M w R p d) : Calls Tryz.prog 26 #[.pointer (some ⟨p, 0, none⟩)] w fun e w' => e = .returned (.bool d.off) ∧ w = w' := by
  obtain ⟨A, hc, rfl⟩ := h.ex
  exact off_calls A.p d.off w (Blk.cell hc.blk 6)
theorem Dk.used (h : Dk B0 M w R p d) (hM : M ≤ 536870912) : Calls Tryz.prog 30 #[.pointer (some ⟨p, 0, none⟩)] w fun e w' => e = .returned (.int .i64 (usedD d : Int)) ∧ Below w.heap.size w w' := by
  obtain ⟨A, hc, rfl⟩ := h.ex
  exact used_calls w hc (h.wf.fit hM) (h.wf.used hM)
theorem Dk.crash (h : Dk B0 M w R p d) (n : Int) (hn : n ≤ 9223372036854775807) (hn' : -9223372036854775808 ≤ n) :
    Calls Tryz.prog 25 #[.pointer (some ⟨p, 0, none⟩), .int .i64 n] w fun e w' => e = .returned (.tuple #[]) ∧ Dk B0 (M + 1) w' R p (crashD d n) ∧ Out R R w w' := by
  obtain ⟨A, hc, rfl⟩ := h.ex
  exact (crash_calls n w hc hn hn').mono fun e w' ⟨h1, h2, h3⟩ => ⟨h1, ⟨⟨A, h2, rfl⟩, h.wf.crash hn⟩, Out.of_own h3⟩
theorem Dk.made (n : Int) (hn : n ≤ 9223372036854775807) (hn' : -9223372036854775808 ≤ n) (w : World) (hB : B0 ≤ w.heap.size) :
    Calls Tryz.prog 11 #[.int .i64 n] w fun x w1 => ∃ p R, x = .returned (.pointer (some ⟨p, 0, none⟩)) ∧ Dk B0 0 w1 R p (newD n) ∧ Below w.heap.size w w1 ∧ ∀ k, k < w.heap.size → R k = 0 :=
  (new_calls w.heap.size n w (Nat.le_refl _) hn hn').mono fun x w1 ⟨R, A, e, h1, h2, h3⟩ => ⟨A.p, R, e, ⟨⟨A, ⟨h1.blk, h1.rp, h1.dirs, h1.files, h1.sdirs, h1.sfiles, h1.steps, h1.bytes, h1.inw, fun k hk => h1.low k (by omega)⟩, rfl⟩, WF.new n⟩, h2, h1.low⟩
theorem Dk.restart (h : Dk B0 M w R p d) (hM : M ≤ 536870912) (hB : B0 ≤ w.heap.size) (n : Int) (hn1 : -9223372036854775808 ≤ n) (hn2 : n ≤ 9223372036854775807) (Ad : Option Addr) (nd cd : Nat) (data : List Int) (z : Bool)
    (hdat : Ints3 w Ad nd data) (hdr : ∀ x, Ad = some x → 0 < nd → R x.block = 0) (hdb : ∀ x ∈ data, -9223372036854775808 ≤ x ∧ x ≤ 9223372036854775807) (hnd : nd ≤ 140737488355328) :
    Calls Tryz.prog 27 #[.pointer (some ⟨p, 0, none⟩), .int .i64 n, .slice Ad nd cd, .bool z] w fun e w' => ∃ R', e = .returned (.tuple #[]) ∧ Dk B0 (M + 1) w' R' p (restartD d n data z) ∧ Out R R' w w' := by
  obtain ⟨A, hc, rfl⟩ := h.ex
  refine (restart_calls n Ad nd cd data z w hc h.wf hM hB hn1 hn2 hdat hdr hdb hnd).mono ?_
  rintro e w3 ⟨R', A', rfl, k1, k2, k3⟩
  exact ⟨R', rfl, ⟨⟨A', k1, k3⟩, h.wf.restart _ _ _⟩, Out.of_own k2⟩
end
end Go.Proofs.YtfpgbhimgfdddaaGreatDoor
