/- Merged (what the claim wants of): DskJoin, DskJoin2, DskJoin3, DskWakes, DskRun, DskPlays, DskOne, StoDisk, ErrIs, Builder. -/
import Derived.Test.YtfpgbhimgfdddaaGreatDoorStk19
import Derived.Test.YtfpgbhimgfdddaaGreatDoorStk06
import Derived.LaidEql
import Derived.Stop.Asserts
import Derived.RowKitTokens
import Derived.Shelf.Strings.BuilderK
import Derived.Test.YtfpgbhimgfdddaaGreatDoorProg
import Derived.Test.YtfpgbhimgfdddaaGreatDoorStk01
set_option linter.unusedVariables false
set_option linter.unusedSimpArgs false
/- Layer 3's law: step at the two disks (printed by gen_lawjoin.py). -/
namespace Go.Proofs.YtfpgbhimgfdddaaGreatDoor
open Go.RowKit Go.Shelf Go.Maps Go.Sort

structure OpM (w : World) (Q : Nat → Nat) (o : OpV) (parts : List Txt) (data : List Int) (L : Nat) : Prop where
  a : o.a.size ≤ 1073741824
  b : o.b.size ≤ 1073741824
  n1 : -9223372036854775808 ≤ o.n
  n2 : o.n ≤ 9223372036854775807
  m1 : -9223372036854775808 ≤ o.m
  m2 : o.m ≤ 9223372036854775807
  ps : Strs w o.pa o.pn parts
  pc : o.pn ≤ o.pc
  pn : o.pn * 16 ≤ 140737488351232
  p0 : o.pa = none → o.pc = 0
  po : ∀ x, o.pa = some x → 0 < o.pn → Q x.block = 0
  fl : parts.flatten.length ≤ L
  ds : Ints3 w o.da o.dn data
  dn : o.dn * 8 ≤ 140737488355328
  d0 : o.da = none → o.dc = 0
  do_ : ∀ x, o.da = some x → 0 < o.dn → Q x.block = 0
  dr : ∀ x ∈ data, -9223372036854775808 ≤ x ∧ x ≤ 9223372036854775807
def byteOf (m : Int) : UInt8 := UInt8.ofNat (m % 256).toNat
/-- What a call does with the disk. -/
def opD (d : Ds) (o : OpV) (parts : List Txt) (data : List Int) : Ds :=
  if o.kind = 1 then (mkdirD d o.a.data.toList).2 else if o.kind = 2 then (createD d o.a.data.toList).2 else if o.kind = 3 then (appendD d o.a.data.toList parts.flatten).2
  else if o.kind = 4 then (cutD d o.a.data.toList o.n).2 else if o.kind = 5 then (syncD d o.a.data.toList).2 else if o.kind = 6 then (syncNamesD d).2
  else if o.kind = 7 then (renameD d o.a.data.toList o.b.data.toList).2 else if o.kind = 8 then (removeD d o.a.data.toList).2
  else if o.kind = 12 then crashD d o.n else if o.kind = 13 then restartD d o.n data o.yes else if o.kind = 14 then (flipD d o.a.data.toList o.n (byteOf o.m)).2 else d
section
variable {B0 M : Nat} {a : Nat → Addr} {R S : Nat → Nat} {A : Adr} {B : RAdr} {d : Ds} {w w' : World}
theorem WF.op (h : WF M d) (o : OpV) (parts : List Txt) (data : List Int) (hn : o.n ≤ 9223372036854775807) {L : Nat} (hL : parts.flatten.length ≤ L) : WF (M + L + 1) (opD d o parts data) := by
  have h0 : WF (M + L + 1) d := h.more (by omega)
  have hp : ∀ {x : Ds}, WF (M + 1) x → WF (M + L + 1) x := fun k => k.more (by omega)
  unfold opD
  repeat' split
  · exact hp (h.mkdir _)
  · exact hp (h.create _)
  · exact (h.append _ _).more (by omega)
  · exact hp (h.cut _ _)
  · exact hp (h.sync _)
  · exact hp h.syncNames
  · exact hp (h.rename _ _)
  · exact hp (h.remove _)
  · exact hp (h.crash hn)
  · exact hp (h.restart _ _ _)
  · exact hp (h.flip _ _ _)
  · exact h0
theorem OpM.same {Q : Nat → Nat} {o : OpV} {parts : List Txt} {data : List Int} {L : Nat} (h : OpM w Q o parts data L) (hs : w.heap.size ≤ w'.heap.size) (hk : ∀ k, k < w.heap.size → Q k = 0 → w'.heap[k]? = w.heap[k]?) : Strs w' o.pa o.pn parts ∧ Ints3 w' o.da o.dn data := by
  constructor
  · refine ⟨h.ps.1, fun h0 => ?_⟩
    obtain ⟨b, off, e, hb, hc⟩ := h.ps.2 h0
    refine ⟨b, off, e, by omega, fun i x hx j v hv => ?_⟩
    rw [← hc i x hx j v hv]
    exact World.cell?_of_block (hk b hb (h.po _ e h0))
  · refine ⟨h.ds.1, fun h0 => ?_⟩
    obtain ⟨b, off, e, hb, hc⟩ := h.ds.2 h0
    refine ⟨b, off, e, by omega, fun i x hx j v hv => ?_⟩
    rw [← hc i x hx j v hv]
    exact World.cell?_of_block (hk b hb (h.do_ _ e h0))
end
end Go.Proofs.YtfpgbhimgfdddaaGreatDoor

/- Layer 3's law: wakes. -/
namespace Go.Proofs.YtfpgbhimgfdddaaGreatDoor
open Go.RowKit Go.Shelf Go.Maps Go.Sort
attribute [local go_sem ↓] Go.wp_at_zero Go.wp_at_succ
attribute [local go_sem] Later.cell Later.frozen

section
variable {B0 : Nat} {a : Nat → Addr}
theorem nil_of {a : Nat → Addr} {w : World} {op s : ByteArray} {k : Nat} {v : Value} (h : ErrV a w op s k v) (hk : k = 0) : v = .nilIface := by subst hk; exact h
theorem strs_of {w : World} {b : Nat} {l : List Txt} (h : Blk w b 9 (l.map txtV).toArray) : Strs w (some ⟨b, 0, none⟩) l.length l :=
  ⟨rfl, fun _ => ⟨b, 0, rfl, h.lt, fun i x hx j v hv => by
    match j, hv with
    | 0, hv =>
      injection hv with hv
      subst hv
      have h1 := h.cell i
      have h2 : (l.map txtV).toArray[i]? = some (txtV x) := by simp [hx]
      simpa [h2] using h1
    | j + 1, hv => simp [enc1] at hv⟩⟩
end
end Go.Proofs.YtfpgbhimgfdddaaGreatDoor

/- Layer 3's law: two disks through a script. -/
namespace Go.Proofs.YtfpgbhimgfdddaaGreatDoor
open Go.RowKit Go.Shelf Go.Maps Go.Sort

/-- One call of a script, with the texts and the numbers that it hands over. -/
structure OpE where
  o : OpV
  parts : List Txt
  data : List Int
instance : Inhabited OpE := ⟨⟨⟨0, ⟨#[]⟩, ⟨#[]⟩, 0, 0, none, 0, 0, none, 0, 0, false⟩, [], []⟩⟩
theorem OpM.later {W w : World} {B0 : Nat} {Q : Nat → Nat} {o : OpV} {parts : List Txt} {data : List Int} {L : Nat} (h : OpM W (fun _ => 0) o parts data L) (hB : B0 = W.heap.size) (hb : Below B0 W w) (hQ : ∀ k, k < B0 → Q k = 0) : OpM w Q o parts data L := by
  subst hB
  have hs := h.same hb.size fun k hk _ => hb.block k hk
  refine ⟨h.a, h.b, h.n1, h.n2, h.m1, h.m2, hs.1, h.pc, h.pn, h.p0, fun x hx h0 => ?_, h.fl, hs.2, h.dn, h.d0, fun x hx h0 => ?_, h.dr⟩
  · obtain ⟨b, off, e, hb, _⟩ := h.ps.2 h0
    rw [hx] at e
    injection e with e
    subst e
    exact hQ _ hb
  · obtain ⟨b, off, e, hb, _⟩ := h.ds.2 h0
    rw [hx] at e
    injection e with e
    subst e
    exact hQ _ hb

section
variable {a : Nat → Addr} {M : Nat} {W w w' : World} {p q : Nat} {d : Ds}
end
end Go.Proofs.YtfpgbhimgfdddaaGreatDoor

/- Layer 3's law DiskSafe: one disk through the law's calls. -/
namespace Go.Proofs.YtfpgbhimgfdddaaGreatDoor
open Go.RowKit Go.Shelf Go.Maps Go.Sort

/-- The code's disk at the place p holds d. -/
structure One (M : Nat) (W w : World) (p : Nat) (d : Ds) : Prop where
  ex : ∃ R A, CD W.heap.size w R A d ∧ A.p = p
  wf : WF M d
  below : Below W.heap.size W w
section
variable {a : Nat → Addr} {M : Nat} {W w w' : World} {p : Nat} {d d' : Ds}
theorem One.later (h : One M W w p d) (hb : Below w.heap.size w w') : One M W w' p d := by
  obtain ⟨R, A, h1, h2⟩ := h.ex
  exact ⟨⟨R, A, h1.below hb, h2⟩, h.wf, h.below.trans (hb.mono h.below.size)⟩
theorem One.more {M' : Nat} (h : One M W w p d) (hM : M ≤ M') : One M' W w p d := ⟨h.ex, h.wf.more hM, h.below⟩
def OneOut (M : Nat) (W : World) (p : Nat) (d : Ds) (e : Ending) (w : World) : Prop := e = .returned .nilIface ∧ One M W w p d
theorem One.of {M' : Nat} {r : Nat × Ds} {op s : ByteArray} {R : Nat → Nat} {A : Adr} (h : One M W w A.p d) (hc : CD W.heap.size w R A d) (hr : r = (0, d')) (hw : WF M' r.2) {f : FuncId} {args : Array Value} (hC : Calls Tryz.prog f args w (NamesOutF W.heap.size a R A r op s w)) :
    Calls Tryz.prog f args w (OneOut M' W A.p d') := by
  subst hr
  refine hC.mono ?_
  rintro e w2 ⟨v, R', A', rfl, h1, h2, h3, h4, _⟩
  obtain rfl := nil_of h1 rfl
  exact ⟨rfl, ⟨R', A', h2, h4⟩, hw, h.below.trans (h3.below h.below.size hc.low)⟩
theorem One.mkdir (hF : Fails W.heap.size a W) (h : One M W w p d) (hM : M ≤ 536870912) (S : ByteArray) (hS : S.size ≤ 1073741824) (h0 : mkdirD d S.data.toList = (0, d')) :
    Calls Tryz.prog 86 #[.pointer (some ⟨p, 0, none⟩), .string S] w (OneOut (M + 1) W p d') := by
  obtain ⟨R, A, hc, rfl⟩ := h.ex
  exact One.of h hc h0 (h.wf.mkdir _) ((mkdir_calls S w hc (h.wf.fit hM) hS h.below.size (hF.below h.below)).mono fun _ _ k => k.weak)
theorem One.create (hF : Fails W.heap.size a W) (h : One M W w p d) (hM : M ≤ 536870912) (S : ByteArray) (hS : S.size ≤ 1073741824) (h0 : createD d S.data.toList = (0, d')) :
    Calls Tryz.prog 19 #[.pointer (some ⟨p, 0, none⟩), .string S] w (OneOut (M + 1) W p d') := by
  obtain ⟨R, A, hc, rfl⟩ := h.ex
  exact One.of h hc h0 (h.wf.create _) (create_calls S w hc (h.wf.fit hM) h.wf.nums hS h.below.size (hF.below h.below))
theorem One.append (hF : Fails W.heap.size a W) (h : One M W w p d) (hM : M ≤ 536870912) (S : ByteArray) (hS : S.size ≤ 1073741824) (Ao : Option Addr) (t : Txt) (hl : Strs w Ao 1 [t]) (ht : t.length ≤ 140737488355328) (h0 : appendD d S.data.toList t = (0, d')) :
    Calls Tryz.prog 20 #[.pointer (some ⟨p, 0, none⟩), .string S, .slice Ao 1 1] w (OneOut (M + t.length + 1) W p d') := by
  obtain ⟨R, A, hc, rfl⟩ := h.ex
  have e : [t].flatten = t := by simp
  have hk := append_calls (a := a) S Ao 1 1 [t] w hc (h.wf.fit hM) hS h.below.size (hF.below h.below) hl (by decide) (by decide) (by rw [e]; exact ht) (h.wf.used hM) h.wf.capl (h.wf.nl hM) (h.wf.sl hM)
  rw [e] at hk
  exact One.of h hc h0 (h.wf.append _ _) (hk.mono fun _ _ k => k.weak)
theorem One.sync (hF : Fails W.heap.size a W) (h : One M W w p d) (hM : M ≤ 536870912) (S : ByteArray) (hS : S.size ≤ 1073741824) (h0 : syncD d S.data.toList = (0, d')) :
    Calls Tryz.prog 91 #[.pointer (some ⟨p, 0, none⟩), .string S] w (OneOut (M + 1) W p d') := by
  obtain ⟨R, A, hc, rfl⟩ := h.ex
  exact One.of h hc h0 (h.wf.sync _) ((sync_calls S w hc (h.wf.fit hM) hS h.below.size (hF.below h.below)).mono fun _ _ k => k.weak)
theorem One.syncNames (hF : Fails W.heap.size a W) (h : One M W w p d) (hM : M ≤ 536870912) (h0 : syncNamesD d = (0, d')) :
    Calls Tryz.prog 75 #[.pointer (some ⟨p, 0, none⟩)] w (OneOut (M + 1) W p d') := by
  obtain ⟨R, A, hc, rfl⟩ := h.ex
  exact One.of h hc h0 h.wf.syncNames ((syncNames_calls w hc (h.wf.fit hM) h.below.size (hF.below h.below)).mono fun _ _ k => k.weak)
/-- The list that is handed over need not be a caller's: it lies outside the disk. -/
theorem One.restart (h : One M W w p d) (hM : M ≤ 536870912) (n : Int) (hn1 : -9223372036854775808 ≤ n) (hn2 : n ≤ 9223372036854775807) {w2 : World} (hb : Below w.heap.size w w2) (Ad : Option Addr) (nd cd : Nat) (data : List Int) (z : Bool)
    (hdat : Ints3 w2 Ad nd data) (hdr : ∀ x, Ad = some x → w.heap.size ≤ x.block) (hdb : ∀ x ∈ data, -9223372036854775808 ≤ x ∧ x ≤ 9223372036854775807) (hnd : nd ≤ 140737488355328) :
    Calls Tryz.prog 27 #[.pointer (some ⟨p, 0, none⟩), .int .i64 n, .slice Ad nd cd, .bool z] w2 fun e w' => e = .returned (.tuple #[]) ∧ One (M + 1) W w' p (restartD d n data z) := by
  have h2 := h.later hb
  obtain ⟨R, A, hc, rfl⟩ := h.ex
  refine (restart_calls n Ad nd cd data z w2 (hc.below hb) h.wf hM h2.below.size hn1 hn2 hdat (fun x hx _ => hc.inw.new (hdr x hx)) hdb hnd).mono ?_
  rintro e w3 ⟨R', A', rfl, k1, k2, k3⟩
  exact ⟨rfl, ⟨R', A', k1, k3⟩, h.wf.restart _ _ _, h2.below.trans (k2.below h2.below.size hc.low)⟩
theorem One.all (hF : Fails W.heap.size a W) (h : One M W w p d) (hM : M ≤ 536870912) (S : ByteArray) (hS : S.size ≤ 1073741824) {t : Txt} (h0 : allD d S.data.toList = (t, 0)) :
    Calls Tryz.prog 59 #[.pointer (some ⟨p, 0, none⟩), .string S] w fun e w' => e = .returned (.tuple #[txtV t, .nilIface]) ∧ Below w.heap.size w w' := by
  obtain ⟨R, A, hc, rfl⟩ := h.ex
  refine (all3_calls S w hc (h.wf.fit hM) hS h.below.size (hF.below h.below)).mono ?_
  rintro e w2 ⟨v, rfl, hv, hb⟩
  rw [h0] at hv ⊢
  obtain rfl := nil_of hv rfl
  exact ⟨rfl, hb⟩
theorem One.list (hF : Fails W.heap.size a W) (h : One M W w p d) (hM : M ≤ 536870912) (S : ByteArray) (hS : S.size ≤ 1073741824) (hS0 : S.data.toList ≠ []) {l : List En} (h0 : listD d S.data.toList = (l, 0)) :
    Calls Tryz.prog 29 #[.pointer (some ⟨p, 0, none⟩), .string S] w fun e w' => ∃ X c, e = .returned (.tuple #[.slice X l.length c, .nilIface]) ∧ Below w.heap.size w w' := by
  obtain ⟨R, A, hc, rfl⟩ := h.ex
  refine (list_dir S hS0 w hc (h.wf.fit hM) hS h.below.size (hF.below h.below) (h.wf.nl hM)).mono ?_
  rintro e w2 ⟨v, u, rfl, hv, hr, hb⟩
  rw [h0] at hv hr
  obtain rfl := nil_of hv rfl
  obtain ⟨X, c, rfl, _, _⟩ := EntRow.out hr
  exact ⟨X, c, rfl, hb⟩
theorem One.off (h : One M W w p d) (h0 : d.off = false) :
    Calls Tryz.prog 26 #[.pointer (some ⟨p, 0, none⟩)] w fun e w' => e = .returned (.bool false) ∧ w = w' := by
  obtain ⟨R, A, hc, rfl⟩ := h.ex
  rw [← h0]
  exact off_calls A.p d.off w (Blk.cell hc.blk 6)

/-! ### copies of texts -/
end
end Go.Proofs.YtfpgbhimgfdddaaGreatDoor

/- The code's disk (layer 3) in the hands of a caller of its own: what the calls answer, failures too. -/
namespace Go.Proofs.YtfpgbhimgfdddaaGreatDoor
open Go.RowKit Go.Shelf Go.Maps Go.Sort

/-- What has become of the world: a block that nobody owns is as it was, and nobody owns it now. -/
structure Out (R R' : Nat → Nat) (w w' : World) : Prop where
  os : w'.os = w.os
  tape : w'.tape = w.tape
  output : w'.output = w.output
  size : w.heap.size ≤ w'.heap.size
  block : ∀ k, k < w.heap.size → R k = 0 → w'.heap[k]? = w.heap[k]?
  old : ∀ k, k < w.heap.size → R k = 0 → R' k = 0
section
variable {R R' R'' : Nat → Nat} {w w' w'' : World} {a : Nat → Addr} {B0 M M' p k : Nat} {d d' : Ds} {A : Adr} {v : Value}
theorem giv_zero {R : Nat → Nat} {k : Nat} (h : R k = 0) (q : Nat) : giv R q 0 k = 0 := by
  unfold giv
  split
  · rfl
  · exact h
theorem Out.refl (R : Nat → Nat) (w : World) : Out R R w w := ⟨rfl, rfl, rfl, Nat.le_refl _, fun _ _ _ => rfl, fun _ _ h => h⟩
theorem Out.of_own (h : Own R R' w w') : Out R R' w w' := ⟨h.os, h.tape, h.output, h.size, h.block, fun k hk h0 => (h.old k hk).trans h0⟩
theorem Out.trans (h : Out R R' w w') (k : Out R' R'' w' w'') : Out R R'' w w'' :=
  ⟨k.os.trans h.os, k.tape.trans h.tape, k.output.trans h.output, Nat.le_trans h.size k.size,
   fun i hi hr => (k.block i (Nat.lt_of_lt_of_le hi h.size) (h.old i hi hr)).trans (h.block i hi hr),
   fun i hi hr => k.old i (Nat.lt_of_lt_of_le hi h.size) (h.old i hi hr)⟩
theorem Out.of_below (h : Below w.heap.size w w') : Out R R w w' := ⟨h.os, h.tape, h.output, h.size, fun k hk _ => h.block k hk, fun _ _ h => h⟩
theorem Out.below {B : Nat} (h : Out R R' w w') (hB : B ≤ w.heap.size) (hR : ∀ k, k < B → R k = 0) : Below B w w' :=
  ⟨h.os, h.tape, h.output, h.size, fun k hk => h.block k (by omega) (hR k hk)⟩
theorem Out.free (h : Out R R' w w') (q : Nat) : Out R (giv R' q 0) w w' :=
  ⟨h.os, h.tape, h.output, h.size, h.block, fun k hk h0 => giv_zero (h.old k hk h0) q⟩
theorem Out.blk {g : Nat} {t : TypeId} {cs : Array Value} (h : Out R R' w w') (hg : Blk w g t cs) (h0 : R g = 0) : Blk w' g t cs := (h.block g hg.lt h0).trans hg

/-! ### a block that the disk has no part in -/
theorem RowIs.free {r : Nat} {T T2 : TypeId} {sz n q : Nat} {xs : List Value} {cs : Array Value} (h : RowIs w R r T sz v n xs) (hq : Blk w q T2 cs) (hne : T ≠ T2) : RowIs w (giv R q 0) r T sz v n xs := by
  refine ⟨h.1, fun g hg => ?_⟩
  rw [giv_ne, h.2 g hg]
  rintro rfl
  rcases h.1.2 with ⟨rfl, _⟩ | ⟨g, cap, cur, rfl, _, h4, _⟩
  · cases hg
  · injection hg with hg
    subst hg
    exact (Blk.ne_ (t := T) (cs := cur) h4 hq hne) rfl
theorem Box.free {b q : Nat} {T T2 : TypeId} {cs : Array Value} (h : Box w R b T v) (hq : Blk w q T2 cs) (hne : T ≠ T2) : Box w (giv R q 0) b T v := ⟨h.1, by rw [giv_ne (Blk.ne_ h.1 hq hne)]; exact h.2⟩
theorem MapM.free {r b q : Nat} {f : Txt → Option Value} {T2 : TypeId} {cs : Array Value} (h : MapM w R r b f) (hq : Blk w q T2 cs) : MapM w (giv R q 0) r b f := by
  refine ⟨h.1, ?_⟩
  rw [giv_ne]
  · exact h.2
  · rintro rfl
    obtain ⟨D, ⟨es, clock, h1, _⟩, _⟩ := h.1
    unfold Blk at hq
    rw [hq] at h1
    cases h1
theorem CD.free {q : Nat} {cs : Array Value} (h : CD B0 w R A d) (hq : Blk w q 71 cs) : CD B0 w (giv R q 0) A d where
  blk := h.blk
  rp := by rw [giv_ne (Blk.ne_ h.blk hq (by decide))]; exact h.rp
  dirs := h.dirs.free hq
  files := h.files.free hq
  sdirs := h.sdirs.free hq
  sfiles := h.sfiles.free hq
  steps := by
    obtain ⟨fs, h1, h2, h3⟩ := h.steps
    refine ⟨fs, h1.free hq (by decide), h2, fun i s f hs hf => ?_⟩
    have h4 := h3 i s f hs hf
    cases s with
    | mkdir a => obtain ⟨b, e, h5⟩ := h4; exact ⟨b, e, h5.free hq (by decide)⟩
    | create a i => obtain ⟨b, c, e, h5, h6⟩ := h4; exact ⟨b, c, e, h5.free hq (by decide), h6.free hq (by decide)⟩
    | rename a a' => obtain ⟨b, c, e, h5, h6⟩ := h4; exact ⟨b, c, e, h5.free hq (by decide), h6.free hq (by decide)⟩
    | remove a => obtain ⟨b, e, h5⟩ := h4; exact ⟨b, e, h5.free hq (by decide)⟩
  bytes := ⟨h.bytes.1, fun i b f hb hf => by
    obtain ⟨v, h1, h2, h3⟩ := h.bytes.2 i b f hb hf
    exact ⟨v, h1, by rw [giv_ne (Blk.ne_ h1 hq (by decide))]; exact h2, h3.free hq (by decide)⟩⟩
  inw := fun k hk => h.inw k fun e => hk (giv_zero e q)
  low := fun k hk => giv_zero (h.low k hk) q

/-! ### the disk and its answers -/
/-- The disk at the place p holds d. -/
structure Dk (B0 M : Nat) (w : World) (R : Nat → Nat) (p : Nat) (d : Ds) : Prop where
  ex : ∃ A, CD B0 w R A d ∧ A.p = p
  wf : WF M d
theorem Dk.below (h : Dk B0 M w R p d) (hb : Below w.heap.size w w') : Dk B0 M w' R p d := by
  obtain ⟨A, h1, h2⟩ := h.ex
  exact ⟨⟨A, h1.below hb, h2⟩, h.wf⟩
theorem Dk.more (h : Dk B0 M w R p d) (hM : M ≤ M') : Dk B0 M' w R p d := ⟨h.ex, h.wf.more hM⟩
theorem Dk.low (h : Dk B0 M w R p d) : ∀ k, k < B0 → R k = 0 := by
  obtain ⟨A, h1, h2⟩ := h.ex
  exact h1.low
theorem Dk.new (h : Dk B0 M w R p d) {k : Nat} (hk : w.heap.size ≤ k) : R k = 0 := by
  obtain ⟨A, h1, h2⟩ := h.ex
  exact h1.inw.new hk
theorem Dk.lt (h : Dk B0 M w R p d) : p < w.heap.size := by
  obtain ⟨A, h1, rfl⟩ := h.ex
  exact h1.blk.lt
/-- An error: none, or a failure in a block that nobody owns. -/
def ErrW (a : Nat → Addr) (w : World) (R : Nat → Nat) : Nat → Value → Prop
  | 0, v => v = .nilIface
  | k + 1, v => ∃ q op path, v = .iface 68 (.pointer (some ⟨q, 0, none⟩)) ∧ Blk w q 71 #[.string op, .string path, failV a (k + 1)] ∧ R q = 0
theorem ErrW.out (h : ErrW a w R k v) (ho : Out R R' w w') : ErrW a w' R' k v := by
  cases k with
  | zero => exact h
  | succ k =>
    obtain ⟨q, op, path, h1, h2, h3⟩ := h
    exact ⟨q, op, path, h1, ho.blk h2 h3, ho.old q h2.lt h3⟩
theorem ErrW.below (h : ErrW a w R k v) (hb : Below w.heap.size w w') : ErrW a w' R k v := h.out (Out.of_below hb)
theorem ErrW.nil (h : ErrW a w R k v) (hk : k = 0) : v = .nilIface := by subst hk; exact h
theorem ErrW.some_ (h : ErrW a w R k v) (hk : k ≠ 0) : ∃ q op path, v = .iface 68 (.pointer (some ⟨q, 0, none⟩)) ∧ Blk w q 71 #[.string op, .string path, failV a k] ∧ R q = 0 := by
  cases k with
  | zero => exact absurd rfl hk
  | succ k => exact h
/-- A call's error and the disk behind it. -/
def DkOut (a : Nat → Addr) (B0 M : Nat) (R : Nat → Nat) (p : Nat) (r : Nat × Ds) (w : World) (e : Ending) (w' : World) : Prop :=
  ∃ v R', e = .returned v ∧ ErrW a w' R' r.1 v ∧ Dk B0 M w' R' p r.2 ∧ Out R R' w w'
theorem DkOut.mk' {op s : ByteArray} {R' : Nat → Nat} (h1 : ErrV a w' op s k v) (h2 : CD B0 w' R' A d') (h3 : Out R R' w w') (hw : WF M d') :
    ∃ R'', ErrW a w' R'' k v ∧ Dk B0 M w' R'' A.p d' ∧ Out R R'' w w' := by
  cases k with
  | zero => exact ⟨R', h1, ⟨⟨A, h2, rfl⟩, hw⟩, h3⟩
  | succ k =>
    obtain ⟨q, e, h4⟩ := h1
    exact ⟨giv R' q 0, ⟨q, op, s, e, h4, giv_self _ _ _⟩, ⟨⟨A, h2.free h4, rfl⟩, hw⟩, h3.free q⟩
theorem DkOut.of {r : Nat × Ds} {op s : ByteArray} {e : Ending} (h : NamesOutF B0 a R A r op s w e w') (hw : WF M r.2) : DkOut a B0 M R A.p r w e w' := by
  obtain ⟨v, R', A', rfl, h1, h2, h3, h4, _⟩ := h
  obtain ⟨R'', k1, k2, k3⟩ := DkOut.mk' h1 h2 (Out.of_own h3) hw
  rw [h4] at k2
  exact ⟨v, R'', rfl, k1, k2, k3⟩
theorem Dk.mkdir (h : Dk B0 M w R p d) (hM : M ≤ 536870912) (hB : B0 ≤ w.heap.size) (hF : Fails B0 a w) (S : ByteArray) (hS : S.size ≤ 1073741824) :
    Calls Tryz.prog 86 #[.pointer (some ⟨p, 0, none⟩), .string S] w (DkOut a B0 (M + 1) R p (mkdirD d S.data.toList) w) := by
  obtain ⟨A, hc, rfl⟩ := h.ex
  exact (mkdir_calls S w hc (h.wf.fit hM) hS hB hF).mono fun _ _ k => .of k.weak (h.wf.mkdir _)
theorem Dk.create (h : Dk B0 M w R p d) (hM : M ≤ 536870912) (hB : B0 ≤ w.heap.size) (hF : Fails B0 a w) (S : ByteArray) (hS : S.size ≤ 1073741824) :
    Calls Tryz.prog 19 #[.pointer (some ⟨p, 0, none⟩), .string S] w (DkOut a B0 (M + 1) R p (createD d S.data.toList) w) := by
  obtain ⟨A, hc, rfl⟩ := h.ex
  exact (create_calls S w hc (h.wf.fit hM) h.wf.nums hS hB hF).mono fun _ _ k => .of k (h.wf.create _)
theorem Dk.append (h : Dk B0 M w R p d) (hM : M ≤ 536870912) (hB : B0 ≤ w.heap.size) (hF : Fails B0 a w) (S : ByteArray) (hS : S.size ≤ 1073741824) (Ao : Option Addr) (t : Txt) (hl : Strs w Ao 1 [t]) (ht : t.length ≤ 140737488351232) :
    Calls Tryz.prog 20 #[.pointer (some ⟨p, 0, none⟩), .string S, .slice Ao 1 1] w (DkOut a B0 (M + t.length + 1) R p (appendD d S.data.toList t) w) := by
  obtain ⟨A, hc, rfl⟩ := h.ex
  have e : [t].flatten = t := by simp
  have hk := append_calls (a := a) S Ao 1 1 [t] w hc (h.wf.fit hM) hS hB hF hl (by decide) (by decide) (by rw [e]; omega) (h.wf.used hM) h.wf.capl (h.wf.nl hM) (h.wf.sl hM)
  rw [e] at hk
  exact hk.mono fun _ _ k => .of k.weak (h.wf.append _ _)
theorem Dk.sync (h : Dk B0 M w R p d) (hM : M ≤ 536870912) (hB : B0 ≤ w.heap.size) (hF : Fails B0 a w) (S : ByteArray) (hS : S.size ≤ 1073741824) :
    Calls Tryz.prog 91 #[.pointer (some ⟨p, 0, none⟩), .string S] w (DkOut a B0 (M + 1) R p (syncD d S.data.toList) w) := by
  obtain ⟨A, hc, rfl⟩ := h.ex
  exact (sync_calls S w hc (h.wf.fit hM) hS hB hF).mono fun _ _ k => .of k.weak (h.wf.sync _)
theorem Dk.syncNames (h : Dk B0 M w R p d) (hM : M ≤ 536870912) (hB : B0 ≤ w.heap.size) (hF : Fails B0 a w) :
    Calls Tryz.prog 75 #[.pointer (some ⟨p, 0, none⟩)] w (DkOut a B0 (M + 1) R p (syncNamesD d) w) := by
  obtain ⟨A, hc, rfl⟩ := h.ex
  exact (syncNames_calls w hc (h.wf.fit hM) hB hF).mono fun _ _ k => .of k.weak h.wf.syncNames
theorem Dk.rename (h : Dk B0 M w R p d) (hM : M ≤ 536870912) (hB : B0 ≤ w.heap.size) (hF : Fails B0 a w) (S S2 : ByteArray) (hS : S.size ≤ 1073741824) (hS2 : S2.size ≤ 1073741824) :
    Calls Tryz.prog 73 #[.pointer (some ⟨p, 0, none⟩), .string S, .string S2] w (DkOut a B0 (M + 1) R p (renameD d S.data.toList S2.data.toList) w) := by
  obtain ⟨A, hc, rfl⟩ := h.ex
  exact (rename_calls S S2 w hc (h.wf.fit hM) hS hS2 hB hF).mono fun _ _ k => .of k.weak (h.wf.rename _ _)
theorem Dk.remove (h : Dk B0 M w R p d) (hM : M ≤ 536870912) (hB : B0 ≤ w.heap.size) (hF : Fails B0 a w) (S : ByteArray) (hS : S.size ≤ 1073741824) :
    Calls Tryz.prog 74 #[.pointer (some ⟨p, 0, none⟩), .string S] w (DkOut a B0 (M + 1) R p (removeD d S.data.toList) w) := by
  obtain ⟨A, hc, rfl⟩ := h.ex
  exact (remove_calls S w hc (h.wf.fit hM) hS hB hF).mono fun _ _ k => .of k.weak (h.wf.remove _)
/-- A text (or something else) and an error; the disk is as it was. -/
def DkRead (a : Nat → Addr) (B0 M : Nat) (R : Nat → Nat) (p : Nat) (d : Ds) (P : Value → World → Prop) (k : Nat) (w : World) (e : Ending) (w' : World) : Prop :=
  ∃ u v R', e = .returned (.tuple #[u, v]) ∧ P u w' ∧ ErrW a w' R' k v ∧ Dk B0 M w' R' p d ∧ Out R R' w w'
theorem Dk.all (h : Dk B0 M w R p d) (hM : M ≤ 536870912) (hB : B0 ≤ w.heap.size) (hF : Fails B0 a w) (S : ByteArray) (hS : S.size ≤ 1073741824) :
    Calls Tryz.prog 59 #[.pointer (some ⟨p, 0, none⟩), .string S] w (DkRead a B0 M R p d (fun u _ => u = txtV (allD d S.data.toList).1) (allD d S.data.toList).2 w) := by
  obtain ⟨A, hc, rfl⟩ := h.ex
  refine (all3_calls S w hc (h.wf.fit hM) hS hB hF).mono ?_
  rintro e w2 ⟨v, rfl, hv, hb⟩
  obtain ⟨R'', k1, k2, k3⟩ := DkOut.mk' hv (hc.below hb) (Out.of_below (R := R) hb) h.wf
  exact ⟨_, v, R'', rfl, rfl, k1, k2, k3⟩
theorem Dk.off (h : Dk B0 M w R p d) : Calls Tryz.prog 26 #[.pointer (some ⟨p, 0, none⟩)] w fun e w' => e = .returned (.bool d.off) ∧ w = w' := by
  obtain ⟨A, hc, rfl⟩ := h.ex
  exact off_calls A.p d.off w (Blk.cell hc.blk 6)
theorem Dk.used (h : Dk B0 M w R p d) (hM : M ≤ 536870912) : Calls Tryz.prog 30 #[.pointer (some ⟨p, 0, none⟩)] w fun e w' => e = .returned (.int .i64 (usedD d : Int)) ∧ Below w.heap.size w w' := by
  obtain ⟨A, hc, rfl⟩ := h.ex
  exact used_calls w hc (h.wf.fit hM) (h.wf.used hM)
theorem Dk.crash (h : Dk B0 M w R p d) (n : Int) (hn : n ≤ 9223372036854775807) (hn' : -9223372036854775808 ≤ n) :
    Calls Tryz.prog 25 #[.pointer (some ⟨p, 0, none⟩), .int .i64 n] w fun e w' => e = .returned (.tuple #[]) ∧ Dk B0 (M + 1) w' R p (crashD d n) ∧ Out R R w w' := by
  obtain ⟨A, hc, rfl⟩ := h.ex
  exact (crash_calls n w hc hn hn').mono fun e w' ⟨h1, h2, h3⟩ => ⟨h1, ⟨⟨A, h2, rfl⟩, h.wf.crash hn⟩, Out.of_own h3⟩
theorem Dk.made (n : Int) (hn : n ≤ 9223372036854775807) (hn' : -9223372036854775808 ≤ n) (w : World) (hB : B0 ≤ w.heap.size) :
    Calls Tryz.prog 11 #[.int .i64 n] w fun x w1 => ∃ p R, x = .returned (.pointer (some ⟨p, 0, none⟩)) ∧ Dk B0 0 w1 R p (newD n) ∧ Below w.heap.size w w1 ∧ ∀ k, k < w.heap.size → R k = 0 :=
  (new_calls w.heap.size n w (Nat.le_refl _) hn hn').mono fun x w1 ⟨R, A, e, h1, h2, h3⟩ => ⟨A.p, R, e, ⟨⟨A, ⟨h1.blk, h1.rp, h1.dirs, h1.files, h1.sdirs, h1.sfiles, h1.steps, h1.bytes, h1.inw, fun k hk => h1.low k (by omega)⟩, rfl⟩, WF.new n⟩, h2, h1.low⟩
theorem Dk.restart (h : Dk B0 M w R p d) (hM : M ≤ 536870912) (hB : B0 ≤ w.heap.size) (n : Int) (hn1 : -9223372036854775808 ≤ n) (hn2 : n ≤ 9223372036854775807) (Ad : Option Addr) (nd cd : Nat) (data : List Int) (z : Bool)
    (hdat : Ints3 w Ad nd data) (hdr : ∀ x, Ad = some x → 0 < nd → R x.block = 0) (hdb : ∀ x ∈ data, -9223372036854775808 ≤ x ∧ x ≤ 9223372036854775807) (hnd : nd ≤ 140737488355328) :
    Calls Tryz.prog 27 #[.pointer (some ⟨p, 0, none⟩), .int .i64 n, .slice Ad nd cd, .bool z] w fun e w' => ∃ R', e = .returned (.tuple #[]) ∧ Dk B0 (M + 1) w' R' p (restartD d n data z) ∧ Out R R' w w' := by
  obtain ⟨A, hc, rfl⟩ := h.ex
  refine (restart_calls n Ad nd cd data z w hc h.wf hM hB hn1 hn2 hdat hdr hdb hnd).mono ?_
  rintro e w3 ⟨R', A', rfl, k1, k2, k3⟩
  exact ⟨R', rfl, ⟨⟨A', k1, k3⟩, h.wf.restart _ _ _⟩, Out.of_own k2⟩
end
end Go.Proofs.YtfpgbhimgfdddaaGreatDoor

/- errors.Is, where the target is a sentinel of errors.New's make and the error is a call's failure on the disk. -/
namespace Go.Proofs.YtfpgbhimgfdddaaGreatDoor
open Go.RowKit Go.Extern.Stop Go.Stop Go.Extern
attribute [local go_sem ↓] Go.wp_at_zero Go.wp_at_succ

theorem is_typeOf (v : Value) (w : World) : (Extern.ReflectliteType.typeOf #[.iface 306 v]).run Tryz.prog w = .ok (.iface 234 (.agg #[.pointer (some ⟨Tryz.prog.globals.size, 306, none⟩)])) w := by kernel_rfl
def cmpM : Array Value → Sem Value := Extern.ReflectliteType.method fun t => do Extern.Rtype.noPackHeld "Comparable" t; pure (.bool (← typeInfo t).comparable)
theorem is_comparable (w : World) : (cmpM #[.agg #[.pointer (some ⟨Tryz.prog.globals.size, 306, none⟩)]]).run Tryz.prog w = .ok (.bool true) w := by kernel_rfl
theorem is_noIsE (v : Value) (xT : TypeId) (w : World) : (Instr.typeAssert (.iface 306 v) xT 236 true).run Tryz.prog w = .ok (.tuple #[.nilIface, .bool false]) w := run_typeAssert_lacksB Tryz.underlying236 (by kernel_rfl) (by kernel_rfl) v xT w
theorem is_noUnwrapE (v : Value) (xT : TypeId) (w : World) : (Instr.typeAssert (.iface 306 v) xT 239 true).run Tryz.prog w = .ok (.tuple #[.nilIface, .bool false]) w := run_typeAssert_lacksB Tryz.underlying239 (by kernel_rfl) (by kernel_rfl) v xT w
theorem is_noUnwrapsE (v : Value) (xT : TypeId) (w : World) : (Instr.typeAssert (.iface 306 v) xT 240 true).run Tryz.prog w = .ok (.tuple #[.nilIface, .bool false]) w := run_typeAssert_lacksB Tryz.underlying240 (by kernel_rfl) (by kernel_rfl) v xT w
theorem is_noIsF (v : Value) (xT : TypeId) (w : World) : (Instr.typeAssert (.iface 68 v) xT 236 true).run Tryz.prog w = .ok (.tuple #[.nilIface, .bool false]) w := run_typeAssert_lacksB Tryz.underlying236 (by kernel_rfl) (by kernel_rfl) v xT w
theorem is_hasUnwrapF (v : Value) (xT : TypeId) (w : World) : (Instr.typeAssert (.iface 68 v) xT 239 true).run Tryz.prog w = .ok (.tuple #[.iface 68 v, .bool true]) w := run_typeAssert_hasB Tryz.underlying239 (by kernel_rfl) v xT w
section
variable {B0 : Nat} {a : Nat → Addr}
set_option maxHeartbeats 4000000 in
/-- errors.is of a failure and its own cause, or another. -/
theorem isin_calls (q i j : Nat) (op path : ByteArray) (w : World) (hq : Blk w q 71 #[.string op, .string path, failV a i]) (hs : Sents B0 a w) (ha : Apart a) (h1 : 1 ≤ i) (h2 : i ≤ 7) (h3 : 1 ≤ j) (h4 : j ≤ 7) :
    Calls Tryz.prog 126 #[.iface 68 (.pointer (some ⟨q, 0, none⟩)), failV a j, .bool true] w fun e w' => e = .returned (.bool (decide (i = j))) ∧ w = w' := by
  have m2 : w.cell? ⟨q, 2, none⟩ = some (failV a i) := hq.cell 2
  have nF := is_noIsF
  have uF := is_hasUnwrapF
  have nE := is_noIsE
  have uE := is_noUnwrapE
  have vE := is_noUnwrapsE
  have hty := run_eql_iface_types (P := Tryz.prog) 68 306 (.pointer (some ⟨q, 0, none⟩)) (.pointer (some (a j))) Tryz.underlying32 (by decide) w
  by_cases hij : i = j
  · subst hij
    have heq := err_eq (a := a) i w
    rw [decide_eq_true rfl]
    unfold failV at m2 heq ⊢
    clear hq hs ha
    go_enter Tryz.func126, Tryz.ntmps126
    go_wp2
    refine wp_loop_rounds 2 ?_
    rw [rounds_succ]
    go_wp2
    rw [rounds_succ]
    go_wp2
    go_ret
    exact ⟨rfl, rfl⟩
  · have hne := err_ne (w := w) hs ha h1 h2 h3 h4 hij
    rw [decide_eq_false hij]
    unfold failV at m2 hne ⊢
    clear hq hs ha
    go_enter Tryz.func126, Tryz.ntmps126
    go_wp2
    refine wp_loop_rounds 2 ?_
    rw [rounds_succ]
    go_wp2
    rw [rounds_succ]
    go_wp2
    go_ret
    exact ⟨rfl, rfl⟩
set_option maxHeartbeats 4000000 in
theorem is_calls (q i j : Nat) (op path : ByteArray) (w : World) (hq : Blk w q 71 #[.string op, .string path, failV a i]) (hs : Sents B0 a w) (ha : Apart a) (h1 : 1 ≤ i) (h2 : i ≤ 7) (h3 : 1 ≤ j) (h4 : j ≤ 7) :
    Calls Tryz.prog 87 #[.iface 68 (.pointer (some ⟨q, 0, none⟩)), failV a j] w fun e w' => e = .returned (.bool (decide (i = j))) ∧ w = w' := by
  have HI := Lib.hid (isin_calls q i j op path w hq hs ha h1 h2 h3 h4)
  have h8 := @run_callFunc_extern Tryz.prog 125 _ Extern.ReflectliteType.typeOf Tryz.func125 (by kernel_rfl) (by kernel_rfl) (by kernel_rfl) (by kernel_rfl)
  have h32 := @run_callFunc_extern Tryz.prog 248 _ cmpM Tryz.func248 (by kernel_rfl) (by kernel_rfl) (by kernel_rfl) (by kernel_rfl)
  have tT := is_typeOf
  have cT := is_comparable
  obtain ⟨gs, hgs⟩ : ∃ g, Tryz.prog.globals.size = g := ⟨_, rfl⟩
  rw [hgs] at cT
  simp only [hgs] at tT
  clear hgs
  unfold failV at HI ⊢
  clear hq hs ha
  go_enter Tryz.func87, Tryz.ntmps87
  go_wp2_with fail
  refine HI.out.mono ?_
  rintro e w' ⟨rfl, rfl⟩
  go_wp2_with fail
  go_ret
  exact ⟨rfl, rfl⟩
set_option maxHeartbeats 4000000 in
theorem is_nil_calls (j : Nat) (w : World) :
    Calls Tryz.prog 87 #[.nilIface, failV a j] w fun e w' => e = .returned (.bool false) ∧ w = w' := by
  have hn := run_eql_iface_nil_left (P := Tryz.prog) w 306 (.pointer (some (a j))) Tryz.underlying32
  unfold failV
  go_enter Tryz.func87, Tryz.ntmps87
  go_wp2_with fail
  go_ret
  exact ⟨rfl, rfl⟩
end
end Go.Proofs.YtfpgbhimgfdddaaGreatDoor

/- strings.Builder at this program: the library's contracts at the program's own numbers. -/
namespace Go.Proofs.YtfpgbhimgfdddaaGreatDoor
open Go.Shelf Go.RowKit
def bren : Go.Shelf.Ren := ⟨fun | 166 => 47 | 167 => 135 | 169 => 51 | 240 => 98 | 276 => 134 | n => n, fun | 0 => 0 | 3 => 3 | 4 => 4 | 5 => 5 | 9 => 9 | 20 => 20 | 37 => 104 | 70 => 103 | 72 => 106 | 75 => 32 | 76 => 97 | 80 => 118 | 127 => 191 | 164 => 215 | n => n, fun n => n⟩
theorem blays166 : Go.Proofs.Lays.n166 Tryz.prog bren := {
  mixed := by kernel_rfl
  f166 := Tryz.func47.trans (congrArg some (by kernel_rfl))
  f240 := Tryz.func98.trans (congrArg some (by kernel_rfl))
  f276 := Tryz.func134.trans (congrArg some (by kernel_rfl))
  t0 := Tryz.underlying0
  a0 := Tryz.isAgg0
  z0 := Tryz.sizeOf0
  v0 := Tryz.zeroValue0
  t3 := Tryz.underlying3
  a3 := Tryz.isAgg3
  z3 := Tryz.sizeOf3
  v3 := Tryz.zeroValue3
  t4 := Tryz.underlying4
  a4 := Tryz.isAgg4
  z4 := Tryz.sizeOf4
  v4 := Tryz.zeroValue4
  t9 := Tryz.underlying9
  a9 := Tryz.isAgg9
  z9 := Tryz.sizeOf9
  v9 := Tryz.zeroValue9
  t20 := Tryz.underlying20
  a20 := Tryz.isAgg20
  z20 := Tryz.sizeOf20
  v20 := Tryz.zeroValue20
  t37 := Tryz.underlying104
  a37 := Tryz.isAgg104
  z37 := Tryz.sizeOf104
  v37 := Tryz.zeroValue104
  t70 := Tryz.underlying103
  a70 := Tryz.isAgg103
  z70 := Tryz.sizeOf103
  v70 := Tryz.zeroValue103
  t72 := Tryz.underlying106
  a72 := Tryz.isAgg106
  z72 := Tryz.sizeOf106
  v72 := Tryz.zeroValue106
  t75 := Tryz.underlying32
  a75 := Tryz.isAgg32
  z75 := Tryz.sizeOf32
  v75 := Tryz.zeroValue32
  t164 := Tryz.underlying215
  a164 := Tryz.isAgg215
  z164 := Tryz.sizeOf215
  v164 := Tryz.zeroValue215 }
theorem blays167 : Go.Proofs.Lays.n167 Tryz.prog bren := {
  mixed := by kernel_rfl
  f167 := Tryz.func135.trans (congrArg some (by kernel_rfl))
  f240 := Tryz.func98.trans (congrArg some (by kernel_rfl))
  f276 := Tryz.func134.trans (congrArg some (by kernel_rfl))
  t0 := Tryz.underlying0
  a0 := Tryz.isAgg0
  z0 := Tryz.sizeOf0
  v0 := Tryz.zeroValue0
  t4 := Tryz.underlying4
  a4 := Tryz.isAgg4
  z4 := Tryz.sizeOf4
  v4 := Tryz.zeroValue4
  t5 := Tryz.underlying5
  a5 := Tryz.isAgg5
  z5 := Tryz.sizeOf5
  v5 := Tryz.zeroValue5
  t9 := Tryz.underlying9
  a9 := Tryz.isAgg9
  z9 := Tryz.sizeOf9
  v9 := Tryz.zeroValue9
  t20 := Tryz.underlying20
  a20 := Tryz.isAgg20
  z20 := Tryz.sizeOf20
  v20 := Tryz.zeroValue20
  t37 := Tryz.underlying104
  a37 := Tryz.isAgg104
  z37 := Tryz.sizeOf104
  v37 := Tryz.zeroValue104
  t70 := Tryz.underlying103
  a70 := Tryz.isAgg103
  z70 := Tryz.sizeOf103
  v70 := Tryz.zeroValue103
  t72 := Tryz.underlying106
  a72 := Tryz.isAgg106
  z72 := Tryz.sizeOf106
  v72 := Tryz.zeroValue106
  t75 := Tryz.underlying32
  a75 := Tryz.isAgg32
  z75 := Tryz.sizeOf32
  v75 := Tryz.zeroValue32
  t164 := Tryz.underlying215
  a164 := Tryz.isAgg215
  z164 := Tryz.sizeOf215
  v164 := Tryz.zeroValue215 }
theorem blays169 : Go.Proofs.Lays.n169 Tryz.prog bren := {
  mixed := by kernel_rfl
  f169 := Tryz.func51.trans (congrArg some (by kernel_rfl))
  t0 := Tryz.underlying0
  a0 := Tryz.isAgg0
  z0 := Tryz.sizeOf0
  v0 := Tryz.zeroValue0
  t3 := Tryz.underlying3
  a3 := Tryz.isAgg3
  z3 := Tryz.sizeOf3
  v3 := Tryz.zeroValue3
  t9 := Tryz.underlying9
  a9 := Tryz.isAgg9
  z9 := Tryz.sizeOf9
  v9 := Tryz.zeroValue9
  t37 := Tryz.underlying104
  a37 := Tryz.isAgg104
  z37 := Tryz.sizeOf104
  v37 := Tryz.zeroValue104
  t70 := Tryz.underlying103
  a70 := Tryz.isAgg103
  z70 := Tryz.sizeOf103
  v70 := Tryz.zeroValue103
  t72 := Tryz.underlying106
  a72 := Tryz.isAgg106
  z72 := Tryz.sizeOf106
  v72 := Tryz.zeroValue106
  t127 := Tryz.underlying191
  a127 := Tryz.isAgg191
  z127 := Tryz.sizeOf191
  v127 := Tryz.zeroValue191 }
theorem bextra : Builder.Extra Tryz.prog bren := {
  sizeBuilder := by kernel_rfl
  liesBuilder := by kernel_rfl
  t5 := Tryz.underlying5
  a5 := Tryz.isAgg5
  z5 := Tryz.sizeOf5
  v5 := Tryz.zeroValue5
  infoByte := by kernel_rfl
  cellsByte := by kernel_rfl
  sizeByte := by kernel_rfl
  neB5 := by decide }
/-- A builder at block b, its bytes l, all of it from block B on. -/
def Bld (B b : Nat) (l : List UInt8) (w : World) : Prop := Lib.IsBuilderF 106 5 B b (Lib.byteCells l) w
/-- Every block but the builder's and rows of bytes stands as it stood. -/
def Others (b : Nat) (w w' : World) : Prop := Lib.OthersKept 5 (some b) w w'
theorem Others.blk {b g : Nat} {t : TypeId} {cs : Array Value} {w w' : World} (h : Others b w w') (hg : Blk w g t cs) (hne : g ≠ b) (ht : t ≠ 5) : Blk w' g t cs :=
  h g _ hg (fun e => hne (by injection e)) (fun c fz e => by injection e with _ e2 _; exact ht e2)
theorem Bld.new {B : Nat} (w : World) (hB : B ≤ w.heap.size) : Bld B w.heap.size [] (w.alloc (.cells #[.pointer none, .slice none 0 0] 106)) :=
  .inl ⟨hB, .slice none 0 0, heap_alloc_new w _, World.ownsRowF_nil _ _ _ _, by simp [Value.ownBlock]⟩
theorem Bld.lt {B b : Nat} {l : List UInt8} {w : World} (h : Bld B b l w) : b < w.heap.size := by
  rcases h with ⟨_, v, hb, _⟩ | ⟨_, v, hb, _⟩ <;> exact Blk.lt hb
theorem Bld.below {B b : Nat} {l : List UInt8} {w w' : World} (h : Bld B b l w) (hb : Below w.heap.size w w') : Bld B b l w' := by
  have key : ∀ p, Lib.BuilderAtF 106 5 B b p (Lib.byteCells l) w → Lib.BuilderAtF 106 5 B b p (Lib.byteCells l) w' := by
    rintro p ⟨h1, v, h2, h3, h4⟩
    refine ⟨h1, v, (hb.block b (Blk.lt h2)).trans h2, h3.kept (row := none) ⟨hb.os, hb.tape, hb.output, hb.size, fun k hk _ => hb.block k hk⟩ (by cases v.ownBlock <;> simp), h4⟩
  rcases h with h | h
  · exact .inl (key _ h)
  · exact .inr (key _ h)
theorem wbyte_calls (B b : Nat) (l : List UInt8) (c : UInt8) (w : World) (h : Bld B b l w) (hlen : l.length + 1 ≤ 140737488355328) (hBw : B ≤ w.heap.size) :
    Calls Tryz.prog 135 #[.pointer (some ⟨b, 0, none⟩), .int .u8 c.toNat] w fun e w' => e = .returned .nilIface ∧ Bld B b (l ++ [c]) w' ∧ Below B w w' := by
  refine (Any.Builder_WriteByte_k blays167 bextra B b (Lib.byteCells l) c.toNat w h (by simpa [Lib.byteCells] using hlen) hBw).mono ?_
  rintro e w' ⟨he, hb, hw, _⟩
  refine ⟨he, ?_, hw⟩
  have : Lib.byteCells (l ++ [c]) = Lib.byteCells l ++ [.int .u8 c.toNat] := by simp [Lib.byteCells]
  unfold Bld
  rw [this]
  exact .inr hb
theorem wstring_calls (B b : Nat) (l : List UInt8) (s : ByteArray) (w : World) (h : Bld B b l w) (hlen : l.length + s.size ≤ 140737488355328) (hBw : B ≤ w.heap.size) :
    Calls Tryz.prog 47 #[.pointer (some ⟨b, 0, none⟩), .string s] w fun e w' => e = .returned (.tuple #[.int .i64 s.size, .nilIface]) ∧ Bld B b (l ++ s.data.toList) w' ∧ Below B w w' ∧ Others b w w' := by
  refine (Any.Builder_WriteString_k blays166 bextra B b (Lib.byteCells l) s w h (by simpa [Lib.byteCells] using hlen) hBw).mono ?_
  rintro e w' ⟨he, hb, hw, ho⟩
  refine ⟨he, ?_, hw, ho⟩
  have : Lib.byteCells (l ++ s.data.toList) = Lib.byteCells l ++ Lib.strCells s := by simp [Lib.byteCells, Lib.strCells]
  unfold Bld
  rw [this]
  exact .inr hb
theorem bstring_calls (B b : Nat) (l : List UInt8) (w : World) (h : Bld B b l w) (hBw : B ≤ w.heap.size) :
    Calls Tryz.prog 51 #[.pointer (some ⟨b, 0, none⟩)] w fun e w' => e = .returned (.string ⟨l.toArray⟩) ∧ Below B w w' :=
  (Any.Builder_String_any_k blays169 bextra B b l w h hBw).mono fun _ _ h => ⟨h.1, h.2.2.1⟩
end Go.Proofs.YtfpgbhimgfdddaaGreatDoor
