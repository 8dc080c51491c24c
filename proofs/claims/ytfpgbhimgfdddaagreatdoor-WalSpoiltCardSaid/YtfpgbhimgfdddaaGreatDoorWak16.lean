/- Merged (what the claim wants of): DskKept, DskRun, DskPlays, DskOne, StoDisk, ErrIs, StoPut. -/
import Derived.Test.YtfpgbhimgfdddaaGreatDoorWak12
import Derived.Test.YtfpgbhimgfdddaaGreatDoorWak15
import Derived.Test.YtfpgbhimgfdddaaGreatDoorWak14
import Derived.LaidEql
import Derived.Stop.Asserts
import Derived.RowKitTokens
set_option linter.unusedVariables false
set_option linter.unusedSimpArgs false
/- The plain law of layer 3 (disk): what was made safe survives a restart. No program in sight. -/
namespace Go.Proofs.YtfpgbhimgfdddaaGreatDoor

/-- The paths x/a, x/b, .. -/
def pthX (i : Nat) : Txt := [120, 47, UInt8.ofNat (97 + i)]
def thX (n : Nat) : List Th := ⟨[120], true, 0⟩ :: (List.range n).map fun j => ⟨pthX j, false, j⟩
theorem pthX_byte {i : Nat} (hi : i < 26) : (UInt8.ofNat (97 + i)).toNat = 97 + i := by
  rw [UInt8.toNat_ofNat']
  omega
theorem pthX_inj {i j : Nat} (hi : i < 26) (hj : j < 26) (h : pthX i = pthX j) : i = j := by
  unfold pthX at h
  have h1 : UInt8.ofNat (97 + i) = UInt8.ofNat (97 + j) := by simpa using h
  have h2 := congrArg UInt8.toNat h1
  rw [pthX_byte hi, pthX_byte hj] at h2
  omega
theorem pthX_path : ∀ i, i < 26 → pathB (pthX i) = true := by decide
theorem pthX_slash (i : Nat) : slashAt (pthX i) = some 1 := by simp [pthX, slashAt]
theorem thX_succ (n : Nat) : thX (n + 1) = thX n ++ [⟨pthX n, false, n⟩] := by simp [thX, List.range_succ]
theorem find_lay {n j : Nat} (hn : n ≤ 26) (hj : j < 26) : findT (thX n) (pthX j) = if j < n then some ⟨pthX j, false, j⟩ else none := by
  induction n with
  | zero => simp [thX, findT, pthX]
  | succ n ih =>
    have ih := ih (by omega)
    unfold findT at ih ⊢
    rw [thX_succ, List.find?_append, ih]
    by_cases h1 : j < n
    · rw [if_pos h1, if_pos (by omega)]
      rfl
    · rw [if_neg h1]
      by_cases h2 : j = n
      · subst h2
        simp
      · have h3 : (pthX n == pthX j) = false := by
          rw [beq_eq_false_iff_ne]
          intro h
          exact h2 (pthX_inj (by omega) hj h).symm
        rw [if_neg (by omega)]
        simp [h3]
theorem find_x (n : Nat) : findT (thX n) [120] = some ⟨[120], true, 0⟩ := by simp [findT, thX]

structure Lay (d : Ds) (n : Nat) : Prop where
  things : d.things = thX n
  off : d.off = false
  aw : d.await = 0
  cap : d.cap = 67108864
  fl : d.files.length = n
def sumF (l : List By) : Nat := (l.map fun f => f.now.length).sum
theorem sumF_set : ∀ {l : List By} {i : Nat} (h : i < l.length) (f : By), sumF (l.set i f) + (l[i]).now.length = sumF l + f.now.length
  | x :: l, 0, _, f => by simp [sumF]; omega
  | x :: l, i + 1, h, f => by
    have := sumF_set (l := l) (i := i) (by simpa using h) f
    simp [sumF] at this ⊢
    omega
theorem sumF_append (l : List By) (f : By) : sumF (l ++ [f]) = sumF l + f.now.length := by simp [sumF]
section
variable {d : Ds} {n i : Nat}
theorem Lay.used (h : Lay d n) : usedD d = sumF d.files := by
  unfold usedD
  rw [if_neg (by rw [h.off]; simp), h.things]
  unfold usedL thX sumF
  rw [List.map_cons, List.sum_cons, List.map_map]
  have e : ((List.range n).map ((fun x : Th => if x.dir then 0 else (nowAt d x.at_).length) ∘ fun j => ⟨pthX j, false, j⟩)) = d.files.map fun f => f.now.length := by
    refine List.ext_getElem (by simp [h.fl]) fun k h1 h2 => ?_
    rw [List.length_map] at h2
    simp [nowAt, List.getElem?_eq_getElem h2]
  rw [e]
  simp
theorem Lay.step (h : Lay d n) : stepD d = (0, d) := by
  unfold stepD
  rw [if_pos h.aw]
theorem Lay.file (h : Lay d n) (hn : n ≤ 26) (hi : i < n) : fileD d (pthX i) = .ok i := by
  unfold fileD fileT
  rw [if_neg (by rw [h.off]; simp), if_neg (by rw [pthX_path i (by omega)]; simp), h.things, find_lay hn (by omega), if_pos hi]
  simp
theorem Lay.create (h : Lay d n) (hn : n < 26) : (createD d (pthX n)).1 = 0 ∧ Lay (createD d (pthX n)).2 (n + 1) ∧ (createD d (pthX n)).2.files = d.files ++ [⟨[], [], []⟩] := by
  have hp : parentB d.things (pthX n) = true := by
    unfold parentB
    rw [pthX_slash]
    simp only [pthX, List.take_succ_cons, List.take_zero, h.things]
    unfold isT
    rw [find_x]
    rfl
  have hi : isT d.things (pthX n) = 0 := by
    unfold isT
    rw [h.things, find_lay (by omega) hn, if_neg (by omega)]
  have e : createD d (pthX n) = (0, { d with things := applyS d.things (.create (pthX n) d.files.length), steps := d.steps ++ [.create (pthX n) d.files.length], files := d.files ++ [⟨[], [], []⟩] }) := by
    unfold createD
    rw [if_neg (by rw [h.off]; simp), if_neg (by rw [pthX_path n hn]; simp), if_neg (by rw [hp]; simp), if_neg (by rw [hi]; simp), h.step]
    unfold namesD
    rw [h.step]
    simp
  rw [e]
  refine ⟨rfl, ⟨?_, h.off, h.aw, h.cap, ?_⟩, rfl⟩
  · simp only [applyS, h.things, h.fl, thX_succ]
  · simp [h.fl]
theorem fAt_pos {i : Nat} (h : i < d.files.length) : fAt d i = d.files[i] := by
  unfold fAt
  rw [List.getElem?_eq_getElem h]
  rfl
theorem Lay.append (h : Lay d n) (hn : n ≤ 26) (hi : i < n) (t : Txt) (hu : sumF d.files + t.length ≤ 67108864) :
    appendD d (pthX i) t = (0, setF d i { fAt d i with now := (fAt d i).now ++ t, steps := (fAt d i).steps ++ [⟨t, false, 0⟩] }) := by
  unfold appendD
  rw [h.file hn hi]
  simp only
  rw [if_neg (by rw [h.used, h.cap]; omega), h.step]
  simp
theorem Lay.sync (h : Lay d n) (hn : n ≤ 26) (hi : i < n) : syncD d (pthX i) = (0, setF d i ⟨(fAt d i).now, (fAt d i).now, []⟩) := by
  unfold syncD
  rw [h.file hn hi]
  simp only
  rw [h.step]
  simp
theorem Lay.set (h : Lay d n) (i : Nat) (f : By) : Lay (setF d i f) n := ⟨h.things, h.off, h.aw, h.cap, by simp [setF, h.fl]⟩
theorem Lay.syncNames (h : Lay d n) : syncNamesD d = (0, { d with safe := d.things, steps := [] }) := by
  unfold syncNamesD
  rw [if_neg (by rw [h.off]; simp), h.step]
  simp
end

/-! ### the files -/
/-- The text stays ahead of all that may be left of the file. -/
structure Hold (t : Txt) (f : By) : Prop where
  safe : t <+: f.safe
  now : t <+: f.now
  cuts : ∀ c ∈ f.steps, c.cut = false
theorem keepL_held : ∀ (r : List Ch) (now : Txt) (left : Nat) (z : Bool), (∀ c ∈ r, c.cut = false) → now <+: (keepL r now left z).1
  | [], now, _, _, _ => List.prefix_refl now
  | c :: r, now, left, z, h => by
    rw [keepL, if_neg (by rw [h c (List.mem_cons_self ..)]; simp)]
    exact (List.prefix_append _ _).trans (keepL_held r _ _ _ fun x hx => h x (List.mem_cons_of_mem _ hx))
theorem Hold.keep {t : Txt} {f : By} (h : Hold t f) (wish : Int) (z : Bool) : Hold t (keepF f wish z) := by
  have h1 := keepL_held f.steps f.safe (shareN wish (units f.steps)) z h.cuts
  have h2 : t <+: (keepF f wish z).now := by
    unfold keepF
    simp only
    split
    · exact (h.safe.trans h1).trans (List.prefix_append _ _)
    · exact h.safe.trans h1
  exact ⟨h2, h2, by simp [keepF]⟩
theorem Hold.append {t : Txt} {f : By} (h : Hold t f) (s : Txt) : Hold t { f with now := f.now ++ s, steps := f.steps ++ [⟨s, false, 0⟩] } where
  safe := h.safe
  now := h.now.trans (List.prefix_append _ _)
  cuts := by
    intro c hc
    rcases List.mem_append.1 hc with hc | hc
    · exact h.cuts c hc
    · rw [List.mem_singleton.1 hc]
theorem Hold.plain (t : Txt) : Hold t ⟨t, t, []⟩ := ⟨List.prefix_refl t, List.prefix_refl t, by simp⟩
/-- Each text stays ahead of its file. -/
def Holds (T : List Txt) (l : List By) : Prop := ∀ (j : Nat) (t : Txt), T[j]? = some t → ∃ f, l[j]? = some f ∧ Hold t f
theorem Holds.set {T : List Txt} {l : List By} (h : Holds T l) (i : Nat) (f : By) (hf : ∀ t, T[i]? = some t → Hold t f) : Holds T (l.set i f) := by
  intro j t ht
  obtain ⟨g, h1, h2⟩ := h j t ht
  by_cases e : i = j
  · subst e
    have hl : i < l.length := by
      rcases Nat.lt_or_ge i l.length with hl | hl
      · exact hl
      · rw [List.getElem?_eq_none hl] at h1; cases h1
    exact ⟨f, List.getElem?_set_self hl, hf t ht⟩
  · exact ⟨g, by rw [List.getElem?_set_ne e]; exact h1, h2⟩
theorem Holds.keepAll {T : List Txt} (data : List Int) (z : Bool) : ∀ (r : List En) (i : Nat) (l : List By), Holds T l → Holds T (Go.Proofs.YtfpgbhimgfdddaaGreatDoor.keepAll data z r i l)
  | [], _, _, h => h
  | x :: r, i, l, h => by
    rw [Go.Proofs.YtfpgbhimgfdddaaGreatDoor.keepAll]
    refine Holds.keepAll data z r _ _ (h.set _ _ fun t ht => ?_)
    obtain ⟨f, h1, h2⟩ := h _ t ht
    rw [h1]
    exact h2.keep _ _
theorem Holds.snoc {T : List Txt} {l : List By} (h : Holds T l) (hl : T.length = l.length) (t : Txt) {f : By} (hf : Hold t f) : Holds (T ++ [t]) (l ++ [f]) := by
  intro j s hs
  rcases Nat.lt_trichotomy j T.length with hj | hj | hj
  · rw [List.getElem?_append_left hj] at hs
    obtain ⟨g, h1, h2⟩ := h j s hs
    exact ⟨g, by rw [List.getElem?_append_left (by omega)]; exact h1, h2⟩
  · rw [List.getElem?_append_right (by omega), hj, Nat.sub_self] at hs
    have : t = s := by simpa using hs
    subst this
    exact ⟨f, by rw [List.getElem?_append_right (by omega), hj, hl, Nat.sub_self]; rfl, hf⟩
  · rw [List.getElem?_eq_none (by simp; omega)] at hs
    cases hs

/-! ### the law's disk -/
/-- The disk behind the files of T, with so many bytes. -/
structure KeptF (T : List Txt) (u : Nat) (d : Ds) : Prop where
  lay : Lay d T.length
  n : T.length ≤ 26
  holds : Holds T d.files
  sum : sumF d.files = u
section
variable {T : List Txt} {u i : Nat} {d : Ds}
/-- One file more, made safe. -/
theorem KeptF.more (h : KeptF T u d) (hn : T.length < 26) (t : Txt) (hu : u + t.length ≤ 67108864) :
    ∃ d1 d2 d3, createD d (pthX T.length) = (0, d1) ∧ appendD d1 (pthX T.length) t = (0, d2) ∧ syncD d2 (pthX T.length) = (0, d3) ∧ KeptF (T ++ [t]) (u + t.length) d3 := by
  obtain ⟨e1, l1, f1⟩ := h.lay.create hn
  obtain ⟨d1, hd1⟩ : ∃ x, (createD d (pthX T.length)).2 = x := ⟨_, rfl⟩
  rw [hd1] at l1 f1
  have s1 : sumF d1.files = u := by rw [f1, sumF_append, h.sum]; simp
  have hfl := h.lay.fl
  have hf1 : fAt d1 T.length = ⟨[], [], []⟩ := by
    unfold fAt
    rw [f1, List.getElem?_append_right (by omega), hfl, Nat.sub_self]
    rfl
  have e2 := l1.append (i := T.length) (by omega) (by omega) t (by omega)
  rw [hf1] at e2
  have l2 := l1.set T.length { (⟨[], [], []⟩ : By) with now := (⟨[], [], []⟩ : By).now ++ t, steps := (⟨[], [], []⟩ : By).steps ++ [⟨t, false, 0⟩] }
  have e3 := l2.sync (i := T.length) (by omega) (by omega)
  have l3 := l2.set T.length ⟨t, t, []⟩
  have hx : ∀ f : By, (d1.files.set T.length f) = d.files ++ [f] := fun f => by
    rw [f1, List.set_append_right _ _ (by omega), hfl, Nat.sub_self]
    rfl
  have hf2 : fAt (setF d1 T.length ⟨t, [], [⟨t, false, 0⟩]⟩) T.length = ⟨t, [], [⟨t, false, 0⟩]⟩ := by
    unfold fAt setF
    simp only
    rw [hx, List.getElem?_append_right (by omega), hfl, Nat.sub_self]
    rfl
  have hfiles : (setF (setF d1 T.length ⟨t, [], [⟨t, false, 0⟩]⟩) T.length ⟨t, t, []⟩).files = d.files ++ [⟨t, t, []⟩] := by
    unfold setF
    simp only [List.set_set]
    rw [hx]
  refine ⟨d1, _, _, Prod.ext e1 hd1, e2, e3, ?_⟩
  simp only [List.nil_append] at hf2 ⊢
  rw [hf2]
  simp only [List.nil_append] at l3
  refine ⟨by rw [List.length_append]; exact l3, by simp; omega, ?_, ?_⟩
  · rw [hfiles]; exact h.holds.snoc hfl.symm t (Hold.plain t)
  · rw [hfiles, sumF_append, h.sum]
/-- A text behind a file. -/
theorem KeptF.append (h : KeptF T u d) (hi : i < T.length) (t : Txt) (hu : u + t.length ≤ 67108864) :
    ∃ d', appendD d (pthX i) t = (0, d') ∧ KeptF T (u + t.length) d' ∧ d'.safe = d.safe ∧ d'.steps = d.steps := by
  have hfl := h.lay.fl
  have e := h.lay.append h.n hi t (by rw [h.sum]; exact hu)
  refine ⟨_, e, ⟨h.lay.set _ _, h.n, ?_, ?_⟩, rfl, rfl⟩
  · unfold setF
    refine h.holds.set _ _ fun s hs => ?_
    obtain ⟨f, h1, h2⟩ := h.holds i s hs
    have : fAt d i = f := by unfold fAt; rw [h1]; rfl
    rw [this]
    exact h2.append t
  · have h3 := sumF_set (l := d.files) (i := i) (by omega) { fAt d i with now := (fAt d i).now ++ t, steps := (fAt d i).steps ++ [⟨t, false, 0⟩] }
    have h4 := fAt_pos (d := d) (i := i) (by omega)
    rw [← h4, h.sum] at h3
    simp only [List.length_append] at h3
    unfold setF
    simp only
    omega
theorem KeptF.syncNames (h : KeptF T u d) : ∃ d', syncNamesD d = (0, d') ∧ KeptF T u d' ∧ d'.safe = thX T.length ∧ d'.steps = [] :=
  ⟨_, h.lay.syncNames, ⟨⟨h.lay.things, h.lay.off, h.lay.aw, h.lay.cap, h.lay.fl⟩, h.n, h.holds, h.sum⟩, h.lay.things, rfl⟩
theorem ent_lay (h : d.things = thX i) : (entD d [120]).length = i := by
  unfold entD
  rw [h]
  have e : ∀ n, ((thX n).filterMap fun x => if ([120] : Txt) = [] then (if (slashAt x.path).isSome then none else some (⟨x.path, x.dir, if x.dir then 0 else (nowAt d x.at_).length⟩ : En))
    else if insideB x.path [120] then some ⟨x.path.drop (([120] : Txt).length + 1), x.dir, if x.dir then 0 else (nowAt d x.at_).length⟩ else none).length = n := by
    intro n
    induction n with
    | zero => simp [thX, insideB]
    | succ n ih =>
      rw [thX_succ, List.filterMap_append, List.length_append, ih]
      have hin : insideB (pthX n) [120] = true := by simp [insideB, pthX, List.isPrefixOf]
      simp [hin]
  exact e i
/-- Behind the restart. -/
theorem KeptF.restart (h : KeptF T u d) (hs : d.safe = thX T.length) (h0 : d.steps = []) (data : List Int) (z : Bool) :
    (∀ (i : Nat) (t : Txt), T[i]? = some t → ∃ x, allD (restartD d 0 data z) (pthX i) = (x, 0) ∧ t <+: x) ∧ (∃ l, listD (restartD d 0 data z) [120] = (l, 0) ∧ l.length = T.length) ∧ (restartD d 0 data z).off = false := by
  have ht : (restartD d 0 data z).things = thX T.length := by simp [restartD, h0, hs]
  have hf : Holds T (restartD d 0 data z).files := by
    simp only [restartD]
    exact Holds.keepAll _ _ _ _ _ h.holds
  have ho : (restartD d 0 data z).off = false := rfl
  refine ⟨fun i t hi => ?_, ?_, ho⟩
  · obtain ⟨f, h1, h2⟩ := hf i t hi
    have hiT : i < T.length := by
      rcases Nat.lt_or_ge i T.length with hl | hl
      · exact hl
      · rw [List.getElem?_eq_none hl] at hi; cases hi
    have hn := h.n
    have e : fileD (restartD d 0 data z) (pthX i) = .ok i := by
      unfold fileD fileT
      rw [if_neg (by rw [ho]; simp), if_neg (by rw [pthX_path i (by omega)]; simp), ht, find_lay h.n (by omega), if_pos hiT]
      simp
    refine ⟨f.now, ?_, h2.now⟩
    unfold allD
    rw [e]
    simp only [fAt, h1]
    rfl
  · refine ⟨sortE (entD (restartD d 0 data z) [120]), ?_, ?_⟩
    · unfold listD
      have hi : isT (restartD d 0 data z).things [120] = 2 := by
        unfold isT
        rw [ht, find_x]
        rfl
      rw [if_neg (by rw [ho]; simp), if_neg (by decide), if_neg (by rw [hi]; simp), if_neg (by rw [hi]; simp)]
    · rw [(sortE_perm _).length_eq, ent_lay ht]
end
end Go.Proofs.YtfpgbhimgfdddaaGreatDoor

/- Layer 3's law: two disks through a script. -/
namespace Go.Proofs.YtfpgbhimgfdddaaGreatDoor
open Go.RowKit Go.Shelf Go.Maps Go.Sort

/-- One call of a script, with the texts and the numbers that it hands over. -/
structure OpE where
  o : OpV
  parts : List Txt
  data : List Int
instance : Inhabited OpE := ⟨⟨⟨0, ⟨#[]⟩, ⟨#[]⟩, 0, 0, none, 0, 0, none, 0, 0, false⟩, [], []⟩⟩
def encO (e : OpE) : List Value := e.o.cells.toList
def costO (e : OpE) : Nat := e.parts.flatten.length + 1
def costs (l : List OpE) : Nat := (l.map costO).sum
structure ScriptM (W : World) (X : Option Addr) (n : Nat) (l : List OpE) : Prop where
  row : Elems W W.heap.size 8 encO X n l
  ops : ∀ e ∈ l, OpM W (fun _ => 0) e.o e.parts e.data e.parts.flatten.length
  n : n ≤ 1073741824
theorem OpM.later {W w : World} {B0 : Nat} {Q : Nat → Nat} {o : OpV} {parts : List Txt} {data : List Int} {L : Nat} (h : OpM W (fun _ => 0) o parts data L) (hB : B0 = W.heap.size) (hb : Below B0 W w) (hQ : ∀ k, k < B0 → Q k = 0) : OpM w Q o parts data L := by
  subst hB
  have hs := h.same hb.size fun k hk _ => hb.block k hk
  refine ⟨h.a, h.b, h.n1, h.n2, h.m1, h.m2, hs.1, h.pc, h.pn, h.p0, fun x hx h0 => ?_, h.fl, hs.2, h.dn, h.d0, fun x hx h0 => ?_, h.dr⟩
  · obtain ⟨b, off, e, hb, _⟩ := h.ps.2 h0
    rw [hx] at e
    injection e with e
    subst e
    exact hQ _ hb
  · obtain ⟨b, off, e, hb, _⟩ := h.ds.2 h0
    rw [hx] at e
    injection e with e
    subst e
    exact hQ _ hb

/-- What a law has at its entry. -/
structure Start (a : Nat → Addr) (W : World) : Prop where
  env : Env W.heap.size a W
  ap : Apart a
section
variable {a : Nat → Addr} {M : Nat} {W w w' : World} {p q : Nat} {d : Ds}
end
end Go.Proofs.YtfpgbhimgfdddaaGreatDoor

/- Layer 3's law DiskSafe: one disk through the law's calls. -/
namespace Go.Proofs.YtfpgbhimgfdddaaGreatDoor
open Go.RowKit Go.Shelf Go.Maps Go.Sort

/-- The code's disk at the place p holds d. -/
structure One (M : Nat) (W w : World) (p : Nat) (d : Ds) : Prop where
  ex : ∃ R A, CD W.heap.size w R A d ∧ A.p = p
  wf : WF M d
  below : Below W.heap.size W w
section
variable {a : Nat → Addr} {M : Nat} {W w w' : World} {p : Nat} {d d' : Ds}
theorem One.later (h : One M W w p d) (hb : Below w.heap.size w w') : One M W w' p d := by
  obtain ⟨R, A, h1, h2⟩ := h.ex
  exact ⟨⟨R, A, h1.below hb, h2⟩, h.wf, h.below.trans (hb.mono h.below.size)⟩
theorem One.more {M' : Nat} (h : One M W w p d) (hM : M ≤ M') : One M' W w p d := ⟨h.ex, h.wf.more hM, h.below⟩
def OneOut (M : Nat) (W : World) (p : Nat) (d : Ds) (e : Ending) (w : World) : Prop := e = .returned .nilIface ∧ One M W w p d
theorem One.of {M' : Nat} {r : Nat × Ds} {op s : ByteArray} {R : Nat → Nat} {A : Adr} (h : One M W w A.p d) (hc : CD W.heap.size w R A d) (hr : r = (0, d')) (hw : WF M' r.2) {f : FuncId} {args : Array Value} (hC : Calls Tryz.prog f args w (NamesOutF W.heap.size a R A r op s w)) :
    Calls Tryz.prog f args w (OneOut M' W A.p d') := by
  subst hr
  refine hC.mono ?_
  rintro e w2 ⟨v, R', A', rfl, h1, h2, h3, h4, _⟩
  obtain rfl := nil_of h1 rfl
  exact ⟨rfl, ⟨R', A', h2, h4⟩, hw, h.below.trans (h3.below h.below.size hc.low)⟩
theorem One.mkdir (hF : Fails W.heap.size a W) (h : One M W w p d) (hM : M ≤ 536870912) (S : ByteArray) (hS : S.size ≤ 1073741824) (h0 : mkdirD d S.data.toList = (0, d')) :
    Calls Tryz.prog 86 #[.pointer (some ⟨p, 0, none⟩), .string S] w (OneOut (M + 1) W p d') := by
  obtain ⟨R, A, hc, rfl⟩ := h.ex
  exact One.of h hc h0 (h.wf.mkdir _) ((mkdir_calls S w hc (h.wf.fit hM) hS h.below.size (hF.below h.below)).mono fun _ _ k => k.weak)
theorem One.create (hF : Fails W.heap.size a W) (h : One M W w p d) (hM : M ≤ 536870912) (S : ByteArray) (hS : S.size ≤ 1073741824) (h0 : createD d S.data.toList = (0, d')) :
    Calls Tryz.prog 19 #[.pointer (some ⟨p, 0, none⟩), .string S] w (OneOut (M + 1) W p d') := by
  obtain ⟨R, A, hc, rfl⟩ := h.ex
  exact One.of h hc h0 (h.wf.create _) (create_calls S w hc (h.wf.fit hM) h.wf.nums hS h.below.size (hF.below h.below))
theorem One.append (hF : Fails W.heap.size a W) (h : One M W w p d) (hM : M ≤ 536870912) (S : ByteArray) (hS : S.size ≤ 1073741824) (Ao : Option Addr) (t : Txt) (hl : Strs w Ao 1 [t]) (ht : t.length ≤ 140737488355328) (h0 : appendD d S.data.toList t = (0, d')) :
    Calls Tryz.prog 20 #[.pointer (some ⟨p, 0, none⟩), .string S, .slice Ao 1 1] w (OneOut (M + t.length + 1) W p d') := by
  obtain ⟨R, A, hc, rfl⟩ := h.ex
  have e : [t].flatten = t := by simp
  have hk := append_calls (a := a) S Ao 1 1 [t] w hc (h.wf.fit hM) hS h.below.size (hF.below h.below) hl (by decide) (by decide) (by rw [e]; exact ht) (h.wf.used hM) h.wf.capl (h.wf.nl hM) (h.wf.sl hM)
  rw [e] at hk
  exact One.of h hc h0 (h.wf.append _ _) (hk.mono fun _ _ k => k.weak)
theorem One.sync (hF : Fails W.heap.size a W) (h : One M W w p d) (hM : M ≤ 536870912) (S : ByteArray) (hS : S.size ≤ 1073741824) (h0 : syncD d S.data.toList = (0, d')) :
    Calls Tryz.prog 91 #[.pointer (some ⟨p, 0, none⟩), .string S] w (OneOut (M + 1) W p d') := by
  obtain ⟨R, A, hc, rfl⟩ := h.ex
  exact One.of h hc h0 (h.wf.sync _) ((sync_calls S w hc (h.wf.fit hM) hS h.below.size (hF.below h.below)).mono fun _ _ k => k.weak)
theorem One.syncNames (hF : Fails W.heap.size a W) (h : One M W w p d) (hM : M ≤ 536870912) (h0 : syncNamesD d = (0, d')) :
    Calls Tryz.prog 75 #[.pointer (some ⟨p, 0, none⟩)] w (OneOut (M + 1) W p d') := by
  obtain ⟨R, A, hc, rfl⟩ := h.ex
  exact One.of h hc h0 h.wf.syncNames ((syncNames_calls w hc (h.wf.fit hM) h.below.size (hF.below h.below)).mono fun _ _ k => k.weak)
/-- The list that is handed over need not be a caller's: it lies outside the disk. -/
theorem One.restart (h : One M W w p d) (hM : M ≤ 536870912) (n : Int) (hn1 : -9223372036854775808 ≤ n) (hn2 : n ≤ 9223372036854775807) {w2 : World} (hb : Below w.heap.size w w2) (Ad : Option Addr) (nd cd : Nat) (data : List Int) (z : Bool)
    (hdat : Ints3 w2 Ad nd data) (hdr : ∀ x, Ad = some x → w.heap.size ≤ x.block) (hdb : ∀ x ∈ data, -9223372036854775808 ≤ x ∧ x ≤ 9223372036854775807) (hnd : nd ≤ 140737488355328) :
    Calls Tryz.prog 27 #[.pointer (some ⟨p, 0, none⟩), .int .i64 n, .slice Ad nd cd, .bool z] w2 fun e w' => e = .returned (.tuple #[]) ∧ One (M + 1) W w' p (restartD d n data z) := by
  have h2 := h.later hb
  obtain ⟨R, A, hc, rfl⟩ := h.ex
  refine (restart_calls n Ad nd cd data z w2 (hc.below hb) h.wf hM h2.below.size hn1 hn2 hdat (fun x hx _ => hc.inw.new (hdr x hx)) hdb hnd).mono ?_
  rintro e w3 ⟨R', A', rfl, k1, k2, k3⟩
  exact ⟨rfl, ⟨R', A', k1, k3⟩, h.wf.restart _ _ _, h2.below.trans (k2.below h2.below.size hc.low)⟩
theorem One.all (hF : Fails W.heap.size a W) (h : One M W w p d) (hM : M ≤ 536870912) (S : ByteArray) (hS : S.size ≤ 1073741824) {t : Txt} (h0 : allD d S.data.toList = (t, 0)) :
    Calls Tryz.prog 59 #[.pointer (some ⟨p, 0, none⟩), .string S] w fun e w' => e = .returned (.tuple #[txtV t, .nilIface]) ∧ Below w.heap.size w w' := by
  obtain ⟨R, A, hc, rfl⟩ := h.ex
  refine (all3_calls S w hc (h.wf.fit hM) hS h.below.size (hF.below h.below)).mono ?_
  rintro e w2 ⟨v, rfl, hv, hb⟩
  rw [h0] at hv ⊢
  obtain rfl := nil_of hv rfl
  exact ⟨rfl, hb⟩
theorem One.list (hF : Fails W.heap.size a W) (h : One M W w p d) (hM : M ≤ 536870912) (S : ByteArray) (hS : S.size ≤ 1073741824) (hS0 : S.data.toList ≠ []) {l : List En} (h0 : listD d S.data.toList = (l, 0)) :
    Calls Tryz.prog 29 #[.pointer (some ⟨p, 0, none⟩), .string S] w fun e w' => ∃ X c, e = .returned (.tuple #[.slice X l.length c, .nilIface]) ∧ Below w.heap.size w w' := by
  obtain ⟨R, A, hc, rfl⟩ := h.ex
  refine (list_dir S hS0 w hc (h.wf.fit hM) hS h.below.size (hF.below h.below) (h.wf.nl hM)).mono ?_
  rintro e w2 ⟨v, u, rfl, hv, hr, hb⟩
  rw [h0] at hv hr
  obtain rfl := nil_of hv rfl
  obtain ⟨X, c, rfl, _, _⟩ := EntRow.out hr
  exact ⟨X, c, rfl, hb⟩
theorem One.off (h : One M W w p d) (h0 : d.off = false) :
    Calls Tryz.prog 26 #[.pointer (some ⟨p, 0, none⟩)] w fun e w' => e = .returned (.bool false) ∧ w = w' := by
  obtain ⟨R, A, hc, rfl⟩ := h.ex
  rw [← h0]
  exact off_calls A.p d.off w (Blk.cell hc.blk 6)

/-! ### copies of texts -/
end
end Go.Proofs.YtfpgbhimgfdddaaGreatDoor

/- The code's disk (layer 3) in the hands of a caller of its own: what the calls answer, failures too. -/
namespace Go.Proofs.YtfpgbhimgfdddaaGreatDoor
open Go.RowKit Go.Shelf Go.Maps Go.Sort

/-- What has become of the world: a block that nobody owns is as it was, and nobody owns it now. -/
structure Out (R R' : Nat → Nat) (w w' : World) : Prop where
  os : w'.os = w.os
  tape : w'.tape = w.tape
  output : w'.output = w.output
  size : w.heap.size ≤ w'.heap.size
  block : ∀ k, k < w.heap.size → R k = 0 → w'.heap[k]? = w.heap[k]?
  old : ∀ k, k < w.heap.size → R k = 0 → R' k = 0
section
variable {R R' R'' : Nat → Nat} {w w' w'' : World} {a : Nat → Addr} {B0 M M' p k : Nat} {d d' : Ds} {A : Adr} {v : Value}
theorem giv_zero {R : Nat → Nat} {k : Nat} (h : R k = 0) (q : Nat) : giv R q 0 k = 0 := by
  unfold giv
  split
  · rfl
  · exact h
theorem Out.refl (R : Nat → Nat) (w : World) : Out R R w w := ⟨rfl, rfl, rfl, Nat.le_refl _, fun _ _ _ => rfl, fun _ _ h => h⟩
theorem Out.of_own (h : Own R R' w w') : Out R R' w w' := ⟨h.os, h.tape, h.output, h.size, h.block, fun k hk h0 => (h.old k hk).trans h0⟩
theorem Out.trans (h : Out R R' w w') (k : Out R' R'' w' w'') : Out R R'' w w'' :=
  ⟨k.os.trans h.os, k.tape.trans h.tape, k.output.trans h.output, Nat.le_trans h.size k.size,
   fun i hi hr => (k.block i (Nat.lt_of_lt_of_le hi h.size) (h.old i hi hr)).trans (h.block i hi hr),
   fun i hi hr => k.old i (Nat.lt_of_lt_of_le hi h.size) (h.old i hi hr)⟩
theorem Out.of_below (h : Below w.heap.size w w') : Out R R w w' := ⟨h.os, h.tape, h.output, h.size, fun k hk _ => h.block k hk, fun _ _ h => h⟩
theorem Out.below {B : Nat} (h : Out R R' w w') (hB : B ≤ w.heap.size) (hR : ∀ k, k < B → R k = 0) : Below B w w' :=
  ⟨h.os, h.tape, h.output, h.size, fun k hk => h.block k (by omega) (hR k hk)⟩
theorem Out.free (h : Out R R' w w') (q : Nat) : Out R (giv R' q 0) w w' :=
  ⟨h.os, h.tape, h.output, h.size, h.block, fun k hk h0 => giv_zero (h.old k hk h0) q⟩
theorem Out.blk {g : Nat} {t : TypeId} {cs : Array Value} (h : Out R R' w w') (hg : Blk w g t cs) (h0 : R g = 0) : Blk w' g t cs := (h.block g hg.lt h0).trans hg

/-! ### a block that the disk has no part in -/
theorem RowIs.free {r : Nat} {T T2 : TypeId} {sz n q : Nat} {xs : List Value} {cs : Array Value} (h : RowIs w R r T sz v n xs) (hq : Blk w q T2 cs) (hne : T ≠ T2) : RowIs w (giv R q 0) r T sz v n xs := by
  refine ⟨h.1, fun g hg => ?_⟩
  rw [giv_ne, h.2 g hg]
  rintro rfl
  rcases h.1.2 with ⟨rfl, _⟩ | ⟨g, cap, cur, rfl, _, h4, _⟩
  · cases hg
  · injection hg with hg
    subst hg
    exact (Blk.ne_ (t := T) (cs := cur) h4 hq hne) rfl
theorem Box.free {b q : Nat} {T T2 : TypeId} {cs : Array Value} (h : Box w R b T v) (hq : Blk w q T2 cs) (hne : T ≠ T2) : Box w (giv R q 0) b T v := ⟨h.1, by rw [giv_ne (Blk.ne_ h.1 hq hne)]; exact h.2⟩
theorem MapM.free {r b q : Nat} {f : Txt → Option Value} {T2 : TypeId} {cs : Array Value} (h : MapM w R r b f) (hq : Blk w q T2 cs) : MapM w (giv R q 0) r b f := by
  refine ⟨h.1, ?_⟩
  rw [giv_ne]
  · exact h.2
  · rintro rfl
    obtain ⟨D, ⟨es, clock, h1, _⟩, _⟩ := h.1
    unfold Blk at hq
    rw [hq] at h1
    cases h1
theorem CD.free {q : Nat} {cs : Array Value} (h : CD B0 w R A d) (hq : Blk w q 71 cs) : CD B0 w (giv R q 0) A d where
  blk := h.blk
  rp := by rw [giv_ne (Blk.ne_ h.blk hq (by decide))]; exact h.rp
  dirs := h.dirs.free hq
  files := h.files.free hq
  sdirs := h.sdirs.free hq
  sfiles := h.sfiles.free hq
  steps := by
    obtain ⟨fs, h1, h2, h3⟩ := h.steps
    refine ⟨fs, h1.free hq (by decide), h2, fun i s f hs hf => ?_⟩
    have h4 := h3 i s f hs hf
    cases s with
    | mkdir a => obtain ⟨b, e, h5⟩ := h4; exact ⟨b, e, h5.free hq (by decide)⟩
    | create a i => obtain ⟨b, c, e, h5, h6⟩ := h4; exact ⟨b, c, e, h5.free hq (by decide), h6.free hq (by decide)⟩
    | rename a a' => obtain ⟨b, c, e, h5, h6⟩ := h4; exact ⟨b, c, e, h5.free hq (by decide), h6.free hq (by decide)⟩
    | remove a => obtain ⟨b, e, h5⟩ := h4; exact ⟨b, e, h5.free hq (by decide)⟩
  bytes := ⟨h.bytes.1, fun i b f hb hf => by
    obtain ⟨v, h1, h2, h3⟩ := h.bytes.2 i b f hb hf
    exact ⟨v, h1, by rw [giv_ne (Blk.ne_ h1 hq (by decide))]; exact h2, h3.free hq (by decide)⟩⟩
  inw := fun k hk => h.inw k fun e => hk (giv_zero e q)
  low := fun k hk => giv_zero (h.low k hk) q

/-! ### the disk and its answers -/
/-- The disk at the place p holds d. -/
structure Dk (B0 M : Nat) (w : World) (R : Nat → Nat) (p : Nat) (d : Ds) : Prop where
  ex : ∃ A, CD B0 w R A d ∧ A.p = p
  wf : WF M d
theorem Dk.below (h : Dk B0 M w R p d) (hb : Below w.heap.size w w') : Dk B0 M w' R p d := by
  obtain ⟨A, h1, h2⟩ := h.ex
  exact ⟨⟨A, h1.below hb, h2⟩, h.wf⟩
theorem Dk.more (h : Dk B0 M w R p d) (hM : M ≤ M') : Dk B0 M' w R p d := ⟨h.ex, h.wf.more hM⟩
theorem Dk.low (h : Dk B0 M w R p d) : ∀ k, k < B0 → R k = 0 := by
  obtain ⟨A, h1, h2⟩ := h.ex
  exact h1.low
theorem Dk.new (h : Dk B0 M w R p d) {k : Nat} (hk : w.heap.size ≤ k) : R k = 0 := by
  obtain ⟨A, h1, h2⟩ := h.ex
  exact h1.inw.new hk
theorem Dk.lt (h : Dk B0 M w R p d) : p < w.heap.size := by
  obtain ⟨A, h1, rfl⟩ := h.ex
  exact h1.blk.lt
/-- An error: none, or a failure in a block that nobody owns. -/
def ErrW (a : Nat → Addr) (w : World) (R : Nat → Nat) : Nat → Value → Prop
  | 0, v => v = .nilIface
  | k + 1, v => ∃ q op path, v = .iface 68 (.pointer (some ⟨q, 0, none⟩)) ∧ Blk w q 71 #[.string op, .string path, failV a (k + 1)] ∧ R q = 0
theorem ErrW.out (h : ErrW a w R k v) (ho : Out R R' w w') : ErrW a w' R' k v := by
  cases k with
  | zero => exact h
  | succ k =>
    obtain ⟨q, op, path, h1, h2, h3⟩ := h
    exact ⟨q, op, path, h1, ho.blk h2 h3, ho.old q h2.lt h3⟩
theorem ErrW.below (h : ErrW a w R k v) (hb : Below w.heap.size w w') : ErrW a w' R k v := h.out (Out.of_below hb)
theorem ErrW.nil (h : ErrW a w R k v) (hk : k = 0) : v = .nilIface := by subst hk; exact h
theorem ErrW.some_ (h : ErrW a w R k v) (hk : k ≠ 0) : ∃ q op path, v = .iface 68 (.pointer (some ⟨q, 0, none⟩)) ∧ Blk w q 71 #[.string op, .string path, failV a k] ∧ R q = 0 := by
  cases k with
  | zero => exact absurd rfl hk
  | succ k => exact h
/-- A call's error and the disk behind it. -/
def DkOut (a : Nat → Addr) (B0 M : Nat) (R : Nat → Nat) (p : Nat) (r : Nat × Ds) (w : World) (e : Ending) (w' : World) : Prop :=
  ∃ v R', e = .returned v ∧ ErrW a w' R' r.1 v ∧ Dk B0 M w' R' p r.2 ∧ Out R R' w w'
theorem DkOut.mk' {op s : ByteArray} {R' : Nat → Nat} (h1 : ErrV a w' op s k v) (h2 : CD B0 w' R' A d') (h3 : Out R R' w w') (hw : WF M d') :
    ∃ R'', ErrW a w' R'' k v ∧ Dk B0 M w' R'' A.p d' ∧ Out R R'' w w' := by
  cases k with
  | zero => exact ⟨R', h1, ⟨⟨A, h2, rfl⟩, hw⟩, h3⟩
  | succ k =>
    obtain ⟨q, e, h4⟩ := h1
    exact ⟨giv R' q 0, ⟨q, op, s, e, h4, giv_self _ _ _⟩, ⟨⟨A, h2.free h4, rfl⟩, hw⟩, h3.free q⟩
theorem DkOut.of {r : Nat × Ds} {op s : ByteArray} {e : Ending} (h : NamesOutF B0 a R A r op s w e w') (hw : WF M r.2) : DkOut a B0 M R A.p r w e w' := by
  obtain ⟨v, R', A', rfl, h1, h2, h3, h4, _⟩ := h
  obtain ⟨R'', k1, k2, k3⟩ := DkOut.mk' h1 h2 (Out.of_own h3) hw
  rw [h4] at k2
  exact ⟨v, R'', rfl, k1, k2, k3⟩
theorem Dk.mkdir (h : Dk B0 M w R p d) (hM : M ≤ 536870912) (hB : B0 ≤ w.heap.size) (hF : Fails B0 a w) (S : ByteArray) (hS : S.size ≤ 1073741824) :
    Calls Tryz.prog 86 #[.pointer (some ⟨p, 0, none⟩), .string S] w (DkOut a B0 (M + 1) R p (mkdirD d S.data.toList) w) := by
  obtain ⟨A, hc, rfl⟩ := h.ex
  exact (mkdir_calls S w hc (h.wf.fit hM) hS hB hF).mono fun _ _ k => .of k.weak (h.wf.mkdir _)
theorem Dk.create (h : Dk B0 M w R p d) (hM : M ≤ 536870912) (hB : B0 ≤ w.heap.size) (hF : Fails B0 a w) (S : ByteArray) (hS : S.size ≤ 1073741824) :
    Calls Tryz.prog 19 #[.pointer (some ⟨p, 0, none⟩), .string S] w (DkOut a B0 (M + 1) R p (createD d S.data.toList) w) := by
  obtain ⟨A, hc, rfl⟩ := h.ex
  exact (create_calls S w hc (h.wf.fit hM) h.wf.nums hS hB hF).mono fun _ _ k => .of k (h.wf.create _)
theorem Dk.append (h : Dk B0 M w R p d) (hM : M ≤ 536870912) (hB : B0 ≤ w.heap.size) (hF : Fails B0 a w) (S : ByteArray) (hS : S.size ≤ 1073741824) (Ao : Option Addr) (t : Txt) (hl : Strs w Ao 1 [t]) (ht : t.length ≤ 140737488351232) :
    Calls Tryz.prog 20 #[.pointer (some ⟨p, 0, none⟩), .string S, .slice Ao 1 1] w (DkOut a B0 (M + t.length + 1) R p (appendD d S.data.toList t) w) := by
  obtain ⟨A, hc, rfl⟩ := h.ex
  have e : [t].flatten = t := by simp
  have hk := append_calls (a := a) S Ao 1 1 [t] w hc (h.wf.fit hM) hS hB hF hl (by decide) (by decide) (by rw [e]; omega) (h.wf.used hM) h.wf.capl (h.wf.nl hM) (h.wf.sl hM)
  rw [e] at hk
  exact hk.mono fun _ _ k => .of k.weak (h.wf.append _ _)
theorem Dk.sync (h : Dk B0 M w R p d) (hM : M ≤ 536870912) (hB : B0 ≤ w.heap.size) (hF : Fails B0 a w) (S : ByteArray) (hS : S.size ≤ 1073741824) :
    Calls Tryz.prog 91 #[.pointer (some ⟨p, 0, none⟩), .string S] w (DkOut a B0 (M + 1) R p (syncD d S.data.toList) w) := by
  obtain ⟨A, hc, rfl⟩ := h.ex
  exact (sync_calls S w hc (h.wf.fit hM) hS hB hF).mono fun _ _ k => .of k.weak (h.wf.sync _)
theorem Dk.syncNames (h : Dk B0 M w R p d) (hM : M ≤ 536870912) (hB : B0 ≤ w.heap.size) (hF : Fails B0 a w) :
    Calls Tryz.prog 75 #[.pointer (some ⟨p, 0, none⟩)] w (DkOut a B0 (M + 1) R p (syncNamesD d) w) := by
  obtain ⟨A, hc, rfl⟩ := h.ex
  exact (syncNames_calls w hc (h.wf.fit hM) hB hF).mono fun _ _ k => .of k.weak h.wf.syncNames
theorem Dk.rename (h : Dk B0 M w R p d) (hM : M ≤ 536870912) (hB : B0 ≤ w.heap.size) (hF : Fails B0 a w) (S S2 : ByteArray) (hS : S.size ≤ 1073741824) (hS2 : S2.size ≤ 1073741824) :
    Calls Tryz.prog 73 #[.pointer (some ⟨p, 0, none⟩), .string S, .string S2] w (DkOut a B0 (M + 1) R p (renameD d S.data.toList S2.data.toList) w) := by
  obtain ⟨A, hc, rfl⟩ := h.ex
  exact (rename_calls S S2 w hc (h.wf.fit hM) hS hS2 hB hF).mono fun _ _ k => .of k.weak (h.wf.rename _ _)
theorem Dk.remove (h : Dk B0 M w R p d) (hM : M ≤ 536870912) (hB : B0 ≤ w.heap.size) (hF : Fails B0 a w) (S : ByteArray) (hS : S.size ≤ 1073741824) :
    Calls Tryz.prog 74 #[.pointer (some ⟨p, 0, none⟩), .string S] w (DkOut a B0 (M + 1) R p (removeD d S.data.toList) w) := by
  obtain ⟨A, hc, rfl⟩ := h.ex
  exact (remove_calls S w hc (h.wf.fit hM) hS hB hF).mono fun _ _ k => .of k.weak (h.wf.remove _)
/-- A text (or something else) and an error; the disk is as it was. -/
def DkRead (a : Nat → Addr) (B0 M : Nat) (R : Nat → Nat) (p : Nat) (d : Ds) (P : Value → World → Prop) (k : Nat) (w : World) (e : Ending) (w' : World) : Prop :=
  ∃ u v R', e = .returned (.tuple #[u, v]) ∧ P u w' ∧ ErrW a w' R' k v ∧ Dk B0 M w' R' p d ∧ Out R R' w w'
theorem Dk.all (h : Dk B0 M w R p d) (hM : M ≤ 536870912) (hB : B0 ≤ w.heap.size) (hF : Fails B0 a w) (S : ByteArray) (hS : S.size ≤ 1073741824) :
    Calls Tryz.prog 59 #[.pointer (some ⟨p, 0, none⟩), .string S] w (DkRead a B0 M R p d (fun u _ => u = txtV (allD d S.data.toList).1) (allD d S.data.toList).2 w) := by
  obtain ⟨A, hc, rfl⟩ := h.ex
  refine (all3_calls S w hc (h.wf.fit hM) hS hB hF).mono ?_
  rintro e w2 ⟨v, rfl, hv, hb⟩
  obtain ⟨R'', k1, k2, k3⟩ := DkOut.mk' hv (hc.below hb) (Out.of_below (R := R) hb) h.wf
  exact ⟨_, v, R'', rfl, rfl, k1, k2, k3⟩
theorem Dk.off (h : Dk B0 M w R p d) : Calls Tryz.prog 26 #[.pointer (some ⟨p, 0, none⟩)] w fun e w' => e = .returned (.bool d.off) ∧ w = w' := by
  obtain ⟨A, hc, rfl⟩ := h.ex
  exact off_calls A.p d.off w (Blk.cell hc.blk 6)
theorem Dk.used (h : Dk B0 M w R p d) (hM : M ≤ 536870912) : Calls Tryz.prog 30 #[.pointer (some ⟨p, 0, none⟩)] w fun e w' => e = .returned (.int .i64 (usedD d : Int)) ∧ Below w.heap.size w w' := by
  obtain ⟨A, hc, rfl⟩ := h.ex
  exact used_calls w hc (h.wf.fit hM) (h.wf.used hM)
theorem Dk.crash (h : Dk B0 M w R p d) (n : Int) (hn : n ≤ 9223372036854775807) (hn' : -9223372036854775808 ≤ n) :
    Calls Tryz.prog 25 #[.pointer (some ⟨p, 0, none⟩), .int .i64 n] w fun e w' => e = .returned (.tuple #[]) ∧ Dk B0 (M + 1) w' R p (crashD d n) ∧ Out R R w w' := by
  obtain ⟨A, hc, rfl⟩ := h.ex
  exact (crash_calls n w hc hn hn').mono fun e w' ⟨h1, h2, h3⟩ => ⟨h1, ⟨⟨A, h2, rfl⟩, h.wf.crash hn⟩, Out.of_own h3⟩
theorem Dk.made (n : Int) (hn : n ≤ 9223372036854775807) (hn' : -9223372036854775808 ≤ n) (w : World) (hB : B0 ≤ w.heap.size) :
    Calls Tryz.prog 11 #[.int .i64 n] w fun x w1 => ∃ p R, x = .returned (.pointer (some ⟨p, 0, none⟩)) ∧ Dk B0 0 w1 R p (newD n) ∧ Below w.heap.size w w1 ∧ ∀ k, k < w.heap.size → R k = 0 :=
  (new_calls w.heap.size n w (Nat.le_refl _) hn hn').mono fun x w1 ⟨R, A, e, h1, h2, h3⟩ => ⟨A.p, R, e, ⟨⟨A, ⟨h1.blk, h1.rp, h1.dirs, h1.files, h1.sdirs, h1.sfiles, h1.steps, h1.bytes, h1.inw, fun k hk => h1.low k (by omega)⟩, rfl⟩, WF.new n⟩, h2, h1.low⟩
theorem Dk.restart (h : Dk B0 M w R p d) (hM : M ≤ 536870912) (hB : B0 ≤ w.heap.size) (n : Int) (hn1 : -9223372036854775808 ≤ n) (hn2 : n ≤ 9223372036854775807) (Ad : Option Addr) (nd cd : Nat) (data : List Int) (z : Bool)
    (hdat : Ints3 w Ad nd data) (hdr : ∀ x, Ad = some x → 0 < nd → R x.block = 0) (hdb : ∀ x ∈ data, -9223372036854775808 ≤ x ∧ x ≤ 9223372036854775807) (hnd : nd ≤ 140737488355328) :
    Calls Tryz.prog 27 #[.pointer (some ⟨p, 0, none⟩), .int .i64 n, .slice Ad nd cd, .bool z] w fun e w' => ∃ R', e = .returned (.tuple #[]) ∧ Dk B0 (M + 1) w' R' p (restartD d n data z) ∧ Out R R' w w' := by
  obtain ⟨A, hc, rfl⟩ := h.ex
  refine (restart_calls n Ad nd cd data z w hc h.wf hM hB hn1 hn2 hdat hdr hdb hnd).mono ?_
  rintro e w3 ⟨R', A', rfl, k1, k2, k3⟩
  exact ⟨R', rfl, ⟨⟨A', k1, k3⟩, h.wf.restart _ _ _⟩, Out.of_own k2⟩
end
end Go.Proofs.YtfpgbhimgfdddaaGreatDoor

/- errors.Is, where the target is a sentinel of errors.New's make and the error is a call's failure on the disk. -/
namespace Go.Proofs.YtfpgbhimgfdddaaGreatDoor
open Go.RowKit Go.Extern.Stop Go.Stop Go.Extern
attribute [local go_sem ↓] Go.wp_at_zero Go.wp_at_succ

theorem is_typeOf (v : Value) (w : World) : (Extern.ReflectliteType.typeOf #[.iface 306 v]).run Tryz.prog w = .ok (.iface 234 (.agg #[.pointer (some ⟨Tryz.prog.globals.size, 306, none⟩)])) w := by kernel_rfl
def cmpM : Array Value → Sem Value := Extern.ReflectliteType.method fun t => do Extern.Rtype.noPackHeld "Comparable" t; pure (.bool (← typeInfo t).comparable)
theorem is_comparable (w : World) : (cmpM #[.agg #[.pointer (some ⟨Tryz.prog.globals.size, 306, none⟩)]]).run Tryz.prog w = .ok (.bool true) w := by kernel_rfl
theorem is_noIsE (v : Value) (xT : TypeId) (w : World) : (Instr.typeAssert (.iface 306 v) xT 236 true).run Tryz.prog w = .ok (.tuple #[.nilIface, .bool false]) w := run_typeAssert_lacksB Tryz.underlying236 (by kernel_rfl) (by kernel_rfl) v xT w
theorem is_noUnwrapE (v : Value) (xT : TypeId) (w : World) : (Instr.typeAssert (.iface 306 v) xT 239 true).run Tryz.prog w = .ok (.tuple #[.nilIface, .bool false]) w := run_typeAssert_lacksB Tryz.underlying239 (by kernel_rfl) (by kernel_rfl) v xT w
theorem is_noUnwrapsE (v : Value) (xT : TypeId) (w : World) : (Instr.typeAssert (.iface 306 v) xT 240 true).run Tryz.prog w = .ok (.tuple #[.nilIface, .bool false]) w := run_typeAssert_lacksB Tryz.underlying240 (by kernel_rfl) (by kernel_rfl) v xT w
theorem is_noIsF (v : Value) (xT : TypeId) (w : World) : (Instr.typeAssert (.iface 68 v) xT 236 true).run Tryz.prog w = .ok (.tuple #[.nilIface, .bool false]) w := run_typeAssert_lacksB Tryz.underlying236 (by kernel_rfl) (by kernel_rfl) v xT w
theorem is_hasUnwrapF (v : Value) (xT : TypeId) (w : World) : (Instr.typeAssert (.iface 68 v) xT 239 true).run Tryz.prog w = .ok (.tuple #[.iface 68 v, .bool true]) w := run_typeAssert_hasB Tryz.underlying239 (by kernel_rfl) v xT w
section
variable {B0 : Nat} {a : Nat → Addr}
set_option maxHeartbeats 4000000 in
/-- errors.is of a failure and its own cause, or another. -/
theorem isin_calls (q i j : Nat) (op path : ByteArray) (w : World) (hq : Blk w q 71 #[.string op, .string path, failV a i]) (hs : Sents B0 a w) (ha : Apart a) (h1 : 1 ≤ i) (h2 : i ≤ 7) (h3 : 1 ≤ j) (h4 : j ≤ 7) :
    Calls Tryz.prog 126 #[.iface 68 (.pointer (some ⟨q, 0, none⟩)), failV a j, .bool true] w fun e w' => e = .returned (.bool (decide (i = j))) ∧ w = w' := by
  have m2 : w.cell? ⟨q, 2, none⟩ = some (failV a i) := hq.cell 2
  have nF := is_noIsF
  have uF := is_hasUnwrapF
  have nE := is_noIsE
  have uE := is_noUnwrapE
  have vE := is_noUnwrapsE
  have hty := run_eql_iface_types (P := Tryz.prog) 68 306 (.pointer (some ⟨q, 0, none⟩)) (.pointer (some (a j))) Tryz.underlying32 (by decide) w
  by_cases hij : i = j
  · subst hij
    have heq := err_eq (a := a) i w
    rw [decide_eq_true rfl]
    unfold failV at m2 heq ⊢
    clear hq hs ha
    go_enter Tryz.func126, Tryz.ntmps126
    go_wp2
    refine wp_loop_rounds 2 ?_
    rw [rounds_succ]
    go_wp2
    rw [rounds_succ]
    go_wp2
    go_ret
    exact ⟨rfl, rfl⟩
  · have hne := err_ne (w := w) hs ha h1 h2 h3 h4 hij
    rw [decide_eq_false hij]
    unfold failV at m2 hne ⊢
    clear hq hs ha
    go_enter Tryz.func126, Tryz.ntmps126
    go_wp2
    refine wp_loop_rounds 2 ?_
    rw [rounds_succ]
    go_wp2
    rw [rounds_succ]
    go_wp2
    go_ret
    exact ⟨rfl, rfl⟩
set_option maxHeartbeats 4000000 in
theorem is_calls (q i j : Nat) (op path : ByteArray) (w : World) (hq : Blk w q 71 #[.string op, .string path, failV a i]) (hs : Sents B0 a w) (ha : Apart a) (h1 : 1 ≤ i) (h2 : i ≤ 7) (h3 : 1 ≤ j) (h4 : j ≤ 7) :
    Calls Tryz.prog 87 #[.iface 68 (.pointer (some ⟨q, 0, none⟩)), failV a j] w fun e w' => e = .returned (.bool (decide (i = j))) ∧ w = w' := by
  have HI := Lib.hid (isin_calls q i j op path w hq hs ha h1 h2 h3 h4)
  have h8 := @run_callFunc_extern Tryz.prog 125 _ Extern.ReflectliteType.typeOf Tryz.func125 (by kernel_rfl) (by kernel_rfl) (by kernel_rfl) (by kernel_rfl)
  have h32 := @run_callFunc_extern Tryz.prog 248 _ cmpM Tryz.func248 (by kernel_rfl) (by kernel_rfl) (by kernel_rfl) (by kernel_rfl)
  have tT := is_typeOf
  have cT := is_comparable
  obtain ⟨gs, hgs⟩ : ∃ g, Tryz.prog.globals.size = g := ⟨_, rfl⟩
  rw [hgs] at cT
  simp only [hgs] at tT
  clear hgs
  unfold failV at HI ⊢
  clear hq hs ha
  go_enter Tryz.func87, Tryz.ntmps87
  go_wp2_with fail
  refine HI.out.mono ?_
  rintro e w' ⟨rfl, rfl⟩
  go_wp2_with fail
  go_ret
  exact ⟨rfl, rfl⟩
set_option maxHeartbeats 4000000 in
theorem is_nil_calls (j : Nat) (w : World) :
    Calls Tryz.prog 87 #[.nilIface, failV a j] w fun e w' => e = .returned (.bool false) ∧ w = w' := by
  have hn := run_eql_iface_nil_left (P := Tryz.prog) w 306 (.pointer (some (a j))) Tryz.underlying32
  unfold failV
  go_enter Tryz.func87, Tryz.ntmps87
  go_wp2_with fail
  go_ret
  exact ⟨rfl, rfl⟩
end
end Go.Proofs.YtfpgbhimgfdddaaGreatDoor

/- The walks of layer 17 (checkpoint): Put, which puts a file in its place. -/
namespace Go.Proofs.YtfpgbhimgfdddaaGreatDoor
open Go.RowKit Go.Shelf Go.Sort
attribute [local go_sem ↓] Go.wp_at_zero Go.wp_at_succ
attribute [local go_sem] Later.cell Later.frozen

section
variable {B0 M p : Nat} {a : Nat → Addr} {R : Nat → Nat} {d : Ds}
/-- What the failures' variables hold, and their blocks. -/
structure Env5 (B0 : Nat) (a : Nat → Addr) (w : World) : Prop where
  f : Fails B0 a w
  s : Sents B0 a w
theorem Env5.below {w w' : World} (h : Env5 B0 a w) (hb : Below B0 w w') : Env5 B0 a w' := ⟨h.f.below hb, h.s.below hb⟩
theorem Env5.out {R R' : Nat → Nat} {w w' : World} {M' : Nat} (h : Env5 B0 a w) (ho : Out R R' w w') (hB : B0 ≤ w.heap.size) (hD : Dk B0 M' w R p d) : Env5 B0 a w' := h.below (ho.below hB hD.low)
/-- errors.Is(err, api.FailMissing). -/
theorem is_missing {w : World} {k : Nat} {v : Value} (hv : ErrW a w R k v) (hk : k ≤ 7) (hs : Sents B0 a w) (ha : Apart a) :
    Calls Tryz.prog 87 #[v, .iface 306 (.pointer (some (a 4)))] w fun e w' => e = .returned (.bool (decide (k = 4))) ∧ w = w' := by
  cases k with
  | zero =>
    obtain rfl : v = .nilIface := hv
    exact is_nil_calls 4 w
  | succ k =>
    obtain ⟨q, op, path, rfl, h1, h2⟩ := hv
    exact is_calls q (k + 1) 4 op path w h1 hs ha (by omega) hk (by omega) (by omega)
/-- What Put keeps: its arguments' variables and the name of the fresh file. -/
structure PutB (b p : Nat) (P T F : ByteArray) (w : World) (R : Nat → Nat) : Prop where
  bd : Blk w b 29 #[.pointer (some ⟨p, 0, none⟩)]
  bp : Blk w (b + 1) 9 #[.string P]
  bt : Blk w (b + 2) 9 #[.string T]
  bf : Blk w (b + 3) 9 #[.string F]
  rd : R b = 0
  rp : R (b + 1) = 0
  rt : R (b + 2) = 0
  rf : R (b + 3) = 0
theorem PutB.out {b : Nat} {P T F : ByteArray} {w w' : World} {R R' : Nat → Nat} (h : PutB b p P T F w R) (ho : Out R R' w w') : PutB b p P T F w' R' :=
  ⟨ho.blk h.bd h.rd, ho.blk h.bp h.rp, ho.blk h.bt h.rt, ho.blk h.bf h.rf, ho.old _ h.bd.lt h.rd, ho.old _ h.bp.lt h.rp, ho.old _ h.bt.lt h.rt, ho.old _ h.bf.lt h.rf⟩
def putF (b p i : Nat) : Value :=
  #[.func (.func 105) #[] #[.pointer (some ⟨b, 0, none⟩), .pointer (some ⟨b + 3, 0, none⟩)], .func (.func 106) #[] #[.pointer (some ⟨b, 0, none⟩), .pointer (some ⟨b + 3, 0, none⟩), .pointer (some ⟨b + 2, 0, none⟩)],
    .func (.func 107) #[] #[.pointer (some ⟨b, 0, none⟩), .pointer (some ⟨b + 3, 0, none⟩)], .func (.func 108) #[] #[.pointer (some ⟨b, 0, none⟩), .pointer (some ⟨b + 3, 0, none⟩), .pointer (some ⟨b + 1, 0, none⟩)],
    .func (.func 75) #[.pointer (some ⟨p, 0, none⟩)] #[]].getD i undef
def putRow (b p : Nat) : Array Value := #[putF b p 0, putF b p 1, putF b p 2, putF b p 3, putF b p 4]
end
end Go.Proofs.YtfpgbhimgfdddaaGreatDoor
