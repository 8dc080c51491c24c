/- Merged: DskKept, RdkWalksN, RdkWalksO, RdkWalksH, RdkWalksJ, RdkWalksK, DskLaw, DskStep, DskPower, DskListed, DskAlike. -/
import Derived.Test.YtfpgbhimgfdddaaGreatDoorStb15
import Derived.Test.YtfpgbhimgfdddaaGreatDoorStb17
import Derived.Test.YtfpgbhimgfdddaaGreatDoorStb14
import Derived.Test.YtfpgbhimgfdddaaGreatDoorStb18
import Derived.Test.YtfpgbhimgfdddaaGreatDoorStb19
import Derived.Deep.RegionHeldLaw
import Derived.Laws.AppendOwnNone
set_option linter.unusedVariables false
set_option linter.unusedSimpArgs false
/-! ## DskKept -/
/- The plain law of layer 3 (disk): what was made safe survives a restart. No program in sight. -/
namespace Go.Proofs.YtfpgbhimgfdddaaGreatDoor

/-- The paths x/a, x/b, .. -/
def pthX (i : Nat) : Txt := [120, 47, UInt8.ofNat (97 + i)]
def thX (n : Nat) : List Th := ⟨[120], true, 0⟩ :: (List.range n).map fun j => ⟨pthX j, false, j⟩
theorem pthX_byte {i : Nat} (hi : i < 26) : (UInt8.ofNat (97 + i)).toNat = 97 + i := by
  rw [UInt8.toNat_ofNat']
  omega
theorem pthX_inj {i j : Nat} (hi : i < 26) (hj : j < 26) (h : pthX i = pthX j) : i = j := by
  unfold pthX at h
  have h1 : UInt8.ofNat (97 + i) = UInt8.ofNat (97 + j) := by simpa using h
  have h2 := congrArg UInt8.toNat h1
  rw [pthX_byte hi, pthX_byte hj] at h2
  omega
theorem pthX_path : ∀ i, i < 26 → pathB (pthX i) = true := by decide
theorem pthX_slash (i : Nat) : slashAt (pthX i) = some 1 := by simp [pthX, slashAt]
theorem thX_succ (n : Nat) : thX (n + 1) = thX n ++ [⟨pthX n, false, n⟩] := by simp [thX, List.range_succ]
theorem find_lay {n j : Nat} (hn : n ≤ 26) (hj : j < 26) : findT (thX n) (pthX j) = if j < n then some ⟨pthX j, false, j⟩ else none := by
  induction n with
  | zero => simp [thX, findT, pthX]
  | succ n ih =>
    have ih := ih (by omega)
    unfold findT at ih ⊢
    rw [thX_succ, List.find?_append, ih]
    by_cases h1 : j < n
    · rw [if_pos h1, if_pos (by omega)]
      rfl
    · rw [if_neg h1]
      by_cases h2 : j = n
      · subst h2
        simp
      · have h3 : (pthX n == pthX j) = false := by
          rw [beq_eq_false_iff_ne]
          intro h
          exact h2 (pthX_inj (by omega) hj h).symm
        rw [if_neg (by omega)]
        simp [h3]
theorem find_x (n : Nat) : findT (thX n) [120] = some ⟨[120], true, 0⟩ := by simp [findT, thX]

structure Lay (d : Ds) (n : Nat) : Prop where
  things : d.things = thX n
  off : d.off = false
  aw : d.await = 0
  cap : d.cap = 67108864
  fl : d.files.length = n
def sumF (l : List By) : Nat := (l.map fun f => f.now.length).sum
theorem sumF_set : ∀ {l : List By} {i : Nat} (h : i < l.length) (f : By), sumF (l.set i f) + (l[i]).now.length = sumF l + f.now.length
  | x :: l, 0, _, f => by simp [sumF]; omega
  | x :: l, i + 1, h, f => by
    have := sumF_set (l := l) (i := i) (by simpa using h) f
    simp [sumF] at this ⊢
    omega
theorem sumF_append (l : List By) (f : By) : sumF (l ++ [f]) = sumF l + f.now.length := by simp [sumF]
section
variable {d : Ds} {n i : Nat}
theorem Lay.used (h : Lay d n) : usedD d = sumF d.files := by
  unfold usedD
  rw [if_neg (by rw [h.off]; simp), h.things]
  unfold usedL thX sumF
  rw [List.map_cons, List.sum_cons, List.map_map]
  have e : ((List.range n).map ((fun x : Th => if x.dir then 0 else (nowAt d x.at_).length) ∘ fun j => ⟨pthX j, false, j⟩)) = d.files.map fun f => f.now.length := by
    refine List.ext_getElem (by simp [h.fl]) fun k h1 h2 => ?_
    rw [List.length_map] at h2
    simp [nowAt, List.getElem?_eq_getElem h2]
  rw [e]
  simp
theorem Lay.step (h : Lay d n) : stepD d = (0, d) := by
  unfold stepD
  rw [if_pos h.aw]
theorem Lay.file (h : Lay d n) (hn : n ≤ 26) (hi : i < n) : fileD d (pthX i) = .ok i := by
  unfold fileD fileT
  rw [if_neg (by rw [h.off]; simp), if_neg (by rw [pthX_path i (by omega)]; simp), h.things, find_lay hn (by omega), if_pos hi]
  simp
theorem mkdir_lay (c : Int) (hc : c = 67108864) : mkdirD (newD c) [120] = (0, { (newD c) with things := thX 0, steps := [.mkdir [120]] }) ∧ Lay (mkdirD (newD c) [120]).2 0 ∧ (mkdirD (newD c) [120]).2.files = [] := by
  subst hc
  have e : mkdirD (newD 67108864) [120] = (0, { (newD 67108864) with things := thX 0, steps := [.mkdir [120]] }) := by
    unfold mkdirD
    rw [if_neg (by simp [newD]), if_neg (by decide), if_neg (by simp [newD, isT, findT])]
    simp [namesD, stepD, newD, applyS, thX]
  refine ⟨e, ?_, ?_⟩
  · rw [e]; exact ⟨rfl, rfl, rfl, rfl, rfl⟩
  · rw [e]; rfl
theorem Lay.create (h : Lay d n) (hn : n < 26) : (createD d (pthX n)).1 = 0 ∧ Lay (createD d (pthX n)).2 (n + 1) ∧ (createD d (pthX n)).2.files = d.files ++ [⟨[], [], []⟩] := by
  have hp : parentB d.things (pthX n) = true := by
    unfold parentB
    rw [pthX_slash]
    simp only [pthX, List.take_succ_cons, List.take_zero, h.things]
    unfold isT
    rw [find_x]
    rfl
  have hi : isT d.things (pthX n) = 0 := by
    unfold isT
    rw [h.things, find_lay (by omega) hn, if_neg (by omega)]
  have e : createD d (pthX n) = (0, { d with things := applyS d.things (.create (pthX n) d.files.length), steps := d.steps ++ [.create (pthX n) d.files.length], files := d.files ++ [⟨[], [], []⟩] }) := by
    unfold createD
    rw [if_neg (by rw [h.off]; simp), if_neg (by rw [pthX_path n hn]; simp), if_neg (by rw [hp]; simp), if_neg (by rw [hi]; simp), h.step]
    unfold namesD
    rw [h.step]
    simp
  rw [e]
  refine ⟨rfl, ⟨?_, h.off, h.aw, h.cap, ?_⟩, rfl⟩
  · simp only [applyS, h.things, h.fl, thX_succ]
  · simp [h.fl]
theorem fAt_pos {i : Nat} (h : i < d.files.length) : fAt d i = d.files[i] := by
  unfold fAt
  rw [List.getElem?_eq_getElem h]
  rfl
theorem Lay.append (h : Lay d n) (hn : n ≤ 26) (hi : i < n) (t : Txt) (hu : sumF d.files + t.length ≤ 67108864) :
    appendD d (pthX i) t = (0, setF d i { fAt d i with now := (fAt d i).now ++ t, steps := (fAt d i).steps ++ [⟨t, false, 0⟩] }) := by
  unfold appendD
  rw [h.file hn hi]
  simp only
  rw [if_neg (by rw [h.used, h.cap]; omega), h.step]
  simp
theorem Lay.sync (h : Lay d n) (hn : n ≤ 26) (hi : i < n) : syncD d (pthX i) = (0, setF d i ⟨(fAt d i).now, (fAt d i).now, []⟩) := by
  unfold syncD
  rw [h.file hn hi]
  simp only
  rw [h.step]
  simp
theorem Lay.set (h : Lay d n) (i : Nat) (f : By) : Lay (setF d i f) n := ⟨h.things, h.off, h.aw, h.cap, by simp [setF, h.fl]⟩
theorem Lay.syncNames (h : Lay d n) : syncNamesD d = (0, { d with safe := d.things, steps := [] }) := by
  unfold syncNamesD
  rw [if_neg (by rw [h.off]; simp), h.step]
  simp
end

/-! ### the files -/
/-- The text stays ahead of all that may be left of the file. -/
structure Hold (t : Txt) (f : By) : Prop where
  safe : t <+: f.safe
  now : t <+: f.now
  cuts : ∀ c ∈ f.steps, c.cut = false
theorem keepL_held : ∀ (r : List Ch) (now : Txt) (left : Nat) (z : Bool), (∀ c ∈ r, c.cut = false) → now <+: (keepL r now left z).1
  | [], now, _, _, _ => List.prefix_refl now
  | c :: r, now, left, z, h => by
    rw [keepL, if_neg (by rw [h c (List.mem_cons_self ..)]; simp)]
    exact (List.prefix_append _ _).trans (keepL_held r _ _ _ fun x hx => h x (List.mem_cons_of_mem _ hx))
theorem Hold.keep {t : Txt} {f : By} (h : Hold t f) (wish : Int) (z : Bool) : Hold t (keepF f wish z) := by
  have h1 := keepL_held f.steps f.safe (shareN wish (units f.steps)) z h.cuts
  have h2 : t <+: (keepF f wish z).now := by
    unfold keepF
    simp only
    split
    · exact (h.safe.trans h1).trans (List.prefix_append _ _)
    · exact h.safe.trans h1
  exact ⟨h2, h2, by simp [keepF]⟩
theorem Hold.append {t : Txt} {f : By} (h : Hold t f) (s : Txt) : Hold t { f with now := f.now ++ s, steps := f.steps ++ [⟨s, false, 0⟩] } where
  safe := h.safe
  now := h.now.trans (List.prefix_append _ _)
  cuts := by
    intro c hc
    rcases List.mem_append.1 hc with hc | hc
    · exact h.cuts c hc
    · rw [List.mem_singleton.1 hc]
theorem Hold.plain (t : Txt) : Hold t ⟨t, t, []⟩ := ⟨List.prefix_refl t, List.prefix_refl t, by simp⟩
/-- Each text stays ahead of its file. -/
def Holds (T : List Txt) (l : List By) : Prop := ∀ (j : Nat) (t : Txt), T[j]? = some t → ∃ f, l[j]? = some f ∧ Hold t f
theorem Holds.set {T : List Txt} {l : List By} (h : Holds T l) (i : Nat) (f : By) (hf : ∀ t, T[i]? = some t → Hold t f) : Holds T (l.set i f) := by
  intro j t ht
  obtain ⟨g, h1, h2⟩ := h j t ht
  by_cases e : i = j
  · subst e
    have hl : i < l.length := by
      rcases Nat.lt_or_ge i l.length with hl | hl
      · exact hl
      · rw [List.getElem?_eq_none hl] at h1; cases h1
    exact ⟨f, List.getElem?_set_self hl, hf t ht⟩
  · exact ⟨g, by rw [List.getElem?_set_ne e]; exact h1, h2⟩
theorem Holds.keepAll {T : List Txt} (data : List Int) (z : Bool) : ∀ (r : List En) (i : Nat) (l : List By), Holds T l → Holds T (Go.Proofs.YtfpgbhimgfdddaaGreatDoor.keepAll data z r i l)
  | [], _, _, h => h
  | x :: r, i, l, h => by
    rw [Go.Proofs.YtfpgbhimgfdddaaGreatDoor.keepAll]
    refine Holds.keepAll data z r _ _ (h.set _ _ fun t ht => ?_)
    obtain ⟨f, h1, h2⟩ := h _ t ht
    rw [h1]
    exact h2.keep _ _
theorem Holds.snoc {T : List Txt} {l : List By} (h : Holds T l) (hl : T.length = l.length) (t : Txt) {f : By} (hf : Hold t f) : Holds (T ++ [t]) (l ++ [f]) := by
  intro j s hs
  rcases Nat.lt_trichotomy j T.length with hj | hj | hj
  · rw [List.getElem?_append_left hj] at hs
    obtain ⟨g, h1, h2⟩ := h j s hs
    exact ⟨g, by rw [List.getElem?_append_left (by omega)]; exact h1, h2⟩
  · rw [List.getElem?_append_right (by omega), hj, Nat.sub_self] at hs
    have : t = s := by simpa using hs
    subst this
    exact ⟨f, by rw [List.getElem?_append_right (by omega), hj, hl, Nat.sub_self]; rfl, hf⟩
  · rw [List.getElem?_eq_none (by simp; omega)] at hs
    cases hs

/-! ### the law's disk -/
/-- The disk behind the files of T, with so many bytes. -/
structure KeptF (T : List Txt) (u : Nat) (d : Ds) : Prop where
  lay : Lay d T.length
  n : T.length ≤ 26
  holds : Holds T d.files
  sum : sumF d.files = u
section
variable {T : List Txt} {u i : Nat} {d : Ds}
/-- One file more, made safe. -/
theorem KeptF.more (h : KeptF T u d) (hn : T.length < 26) (t : Txt) (hu : u + t.length ≤ 67108864) :
    ∃ d1 d2 d3, createD d (pthX T.length) = (0, d1) ∧ appendD d1 (pthX T.length) t = (0, d2) ∧ syncD d2 (pthX T.length) = (0, d3) ∧ KeptF (T ++ [t]) (u + t.length) d3 := by
  obtain ⟨e1, l1, f1⟩ := h.lay.create hn
  obtain ⟨d1, hd1⟩ : ∃ x, (createD d (pthX T.length)).2 = x := ⟨_, rfl⟩
  rw [hd1] at l1 f1
  have s1 : sumF d1.files = u := by rw [f1, sumF_append, h.sum]; simp
  have hfl := h.lay.fl
  have hf1 : fAt d1 T.length = ⟨[], [], []⟩ := by
    unfold fAt
    rw [f1, List.getElem?_append_right (by omega), hfl, Nat.sub_self]
    rfl
  have e2 := l1.append (i := T.length) (by omega) (by omega) t (by omega)
  rw [hf1] at e2
  have l2 := l1.set T.length { (⟨[], [], []⟩ : By) with now := (⟨[], [], []⟩ : By).now ++ t, steps := (⟨[], [], []⟩ : By).steps ++ [⟨t, false, 0⟩] }
  have e3 := l2.sync (i := T.length) (by omega) (by omega)
  have l3 := l2.set T.length ⟨t, t, []⟩
  have hx : ∀ f : By, (d1.files.set T.length f) = d.files ++ [f] := fun f => by
    rw [f1, List.set_append_right _ _ (by omega), hfl, Nat.sub_self]
    rfl
  have hf2 : fAt (setF d1 T.length ⟨t, [], [⟨t, false, 0⟩]⟩) T.length = ⟨t, [], [⟨t, false, 0⟩]⟩ := by
    unfold fAt setF
    simp only
    rw [hx, List.getElem?_append_right (by omega), hfl, Nat.sub_self]
    rfl
  have hfiles : (setF (setF d1 T.length ⟨t, [], [⟨t, false, 0⟩]⟩) T.length ⟨t, t, []⟩).files = d.files ++ [⟨t, t, []⟩] := by
    unfold setF
    simp only [List.set_set]
    rw [hx]
  refine ⟨d1, _, _, Prod.ext e1 hd1, e2, e3, ?_⟩
  simp only [List.nil_append] at hf2 ⊢
  rw [hf2]
  simp only [List.nil_append] at l3
  refine ⟨by rw [List.length_append]; exact l3, by simp; omega, ?_, ?_⟩
  · rw [hfiles]; exact h.holds.snoc hfl.symm t (Hold.plain t)
  · rw [hfiles, sumF_append, h.sum]
/-- A text behind a file. -/
theorem KeptF.append (h : KeptF T u d) (hi : i < T.length) (t : Txt) (hu : u + t.length ≤ 67108864) :
    ∃ d', appendD d (pthX i) t = (0, d') ∧ KeptF T (u + t.length) d' ∧ d'.safe = d.safe ∧ d'.steps = d.steps := by
  have hfl := h.lay.fl
  have e := h.lay.append h.n hi t (by rw [h.sum]; exact hu)
  refine ⟨_, e, ⟨h.lay.set _ _, h.n, ?_, ?_⟩, rfl, rfl⟩
  · unfold setF
    refine h.holds.set _ _ fun s hs => ?_
    obtain ⟨f, h1, h2⟩ := h.holds i s hs
    have : fAt d i = f := by unfold fAt; rw [h1]; rfl
    rw [this]
    exact h2.append t
  · have h3 := sumF_set (l := d.files) (i := i) (by omega) { fAt d i with now := (fAt d i).now ++ t, steps := (fAt d i).steps ++ [⟨t, false, 0⟩] }
    have h4 := fAt_pos (d := d) (i := i) (by omega)
    rw [← h4, h.sum] at h3
    simp only [List.length_append] at h3
    unfold setF
    simp only
    omega
theorem KeptF.syncNames (h : KeptF T u d) : ∃ d', syncNamesD d = (0, d') ∧ KeptF T u d' ∧ d'.safe = thX T.length ∧ d'.steps = [] :=
  ⟨_, h.lay.syncNames, ⟨⟨h.lay.things, h.lay.off, h.lay.aw, h.lay.cap, h.lay.fl⟩, h.n, h.holds, h.sum⟩, h.lay.things, rfl⟩
theorem ent_lay (h : d.things = thX i) : (entD d [120]).length = i := by
  unfold entD
  rw [h]
  have e : ∀ n, ((thX n).filterMap fun x => if ([120] : Txt) = [] then (if (slashAt x.path).isSome then none else some (⟨x.path, x.dir, if x.dir then 0 else (nowAt d x.at_).length⟩ : En))
    else if insideB x.path [120] then some ⟨x.path.drop (([120] : Txt).length + 1), x.dir, if x.dir then 0 else (nowAt d x.at_).length⟩ else none).length = n := by
    intro n
    induction n with
    | zero => simp [thX, insideB]
    | succ n ih =>
      rw [thX_succ, List.filterMap_append, List.length_append, ih]
      have hin : insideB (pthX n) [120] = true := by simp [insideB, pthX, List.isPrefixOf]
      simp [hin]
  exact e i
/-- Behind the restart. -/
theorem KeptF.restart (h : KeptF T u d) (hs : d.safe = thX T.length) (h0 : d.steps = []) (data : List Int) (z : Bool) :
    (∀ (i : Nat) (t : Txt), T[i]? = some t → ∃ x, allD (restartD d 0 data z) (pthX i) = (x, 0) ∧ t <+: x) ∧ (∃ l, listD (restartD d 0 data z) [120] = (l, 0) ∧ l.length = T.length) ∧ (restartD d 0 data z).off = false := by
  have ht : (restartD d 0 data z).things = thX T.length := by simp [restartD, h0, hs]
  have hf : Holds T (restartD d 0 data z).files := by
    simp only [restartD]
    exact Holds.keepAll _ _ _ _ _ h.holds
  have ho : (restartD d 0 data z).off = false := rfl
  refine ⟨fun i t hi => ?_, ?_, ho⟩
  · obtain ⟨f, h1, h2⟩ := hf i t hi
    have hiT : i < T.length := by
      rcases Nat.lt_or_ge i T.length with hl | hl
      · exact hl
      · rw [List.getElem?_eq_none hl] at hi; cases hi
    have hn := h.n
    have e : fileD (restartD d 0 data z) (pthX i) = .ok i := by
      unfold fileD fileT
      rw [if_neg (by rw [ho]; simp), if_neg (by rw [pthX_path i (by omega)]; simp), ht, find_lay h.n (by omega), if_pos hiT]
      simp
    refine ⟨f.now, ?_, h2.now⟩
    unfold allD
    rw [e]
    simp only [fAt, h1]
    rfl
  · refine ⟨sortE (entD (restartD d 0 data z) [120]), ?_, ?_⟩
    · unfold listD
      have hi : isT (restartD d 0 data z).things [120] = 2 := by
        unfold isT
        rw [ht, find_x]
        rfl
      rw [if_neg (by rw [ho]; simp), if_neg (by decide), if_neg (by rw [hi]; simp), if_neg (by rw [hi]; simp)]
    · rw [(sortE_perm _).length_eq, ent_lay ht]
end
end Go.Proofs.YtfpgbhimgfdddaaGreatDoor

/-! ## RdkWalksN -/
/- The walks of layer 3 (disk), the document's: keep. -/
namespace Go.Proofs.YtfpgbhimgfdddaaGreatDoor
open Go.RowKit Go.Shelf Go.Maps Go.Sort
attribute [local go_sem ↓] Go.wp_at_zero Go.wp_at_succ
attribute [local go_sem] Later.cell Later.frozen

def RChs (w : World) (A : Option Addr) (n : Nat) (l : List Ch) : Prop := Elems w w.heap.size 3 encCh A n l
theorem RChs.at_ {w : World} {A : Option Addr} {n : Nat} {l : List Ch} (h : RChs w A n l) {i : Nat} (hi : i < n) : ∃ b off, A = some ⟨b, off, none⟩ ∧ b < w.heap.size ∧ w.cell? ⟨b, off + i * 3, none⟩ = some (txtV l[i]!.text) ∧ w.cell? ⟨b, off + i * 3 + 1, none⟩ = some (.bool l[i]!.cut) ∧ w.cell? ⟨b, off + i * 3 + 2, none⟩ = some (.int .i64 (l[i]!.size : Int)) := by
  obtain ⟨b, off, e, hb, hc⟩ := h.2 (by omega)
  have hl : i < l.length := by have : l.length = n := Elems.len h; omega
  have hx := hc i l[i]! (by rw [getElem!_pos l i hl, List.getElem?_eq_getElem hl])
  exact ⟨b, off, e, hb, by simpa using hx 0 _ rfl, by simpa using hx 1 _ rfl, by simpa using hx 2 _ rfl⟩
def RKeepOut (f : By) (w : World) (e : Ending) (w' : World) : Prop := e = .returned (.agg #[txtV f.now, txtV f.safe, .slice none 0 0]) ∧ Below w.heap.size w w'
theorem rep_snoc (T : ByteArray) (j : Nat) : (T ++ ⟨(List.replicate j (0 : UInt8)).toArray⟩ : ByteArray) ++ (⟨#[0]⟩ : ByteArray) = T ++ ⟨(List.replicate (j + 1) (0 : UInt8)).toArray⟩ := by
  apply bytes_eq
  have e : ∀ (a b : ByteArray), (a ++ b).data.toList = a.data.toList ++ b.data.toList := fun a b => by simp
  rw [e, e, e]
  show T.data.toList ++ List.replicate j 0 ++ [0] = T.data.toList ++ List.replicate (j + 1) 0
  rw [List.append_assoc, List.replicate_succ']
theorem rep_nil (T : ByteArray) : T ++ (⟨(List.replicate 0 (0 : UInt8)).toArray⟩ : ByteArray) = T := by
  apply bytes_eq
  have e : ∀ (a b : ByteArray), (a ++ b).data.toList = a.data.toList ++ b.data.toList := fun a b => by simp
  rw [e]
  simp
theorem rep_size (T : ByteArray) (j : Nat) : (T ++ (⟨(List.replicate j (0 : UInt8)).toArray⟩ : ByteArray)).size = T.size + j := by
  rw [← text_size3]
  have e : ∀ (a b : ByteArray), (a ++ b).data.toList = a.data.toList ++ b.data.toList := fun a b => by simp
  rw [e, List.length_append, text_size3]
  simp
end Go.Proofs.YtfpgbhimgfdddaaGreatDoor

/-! ## RdkWalksO -/
/- The walks of layer 3 (disk), the document's: Restart. -/
namespace Go.Proofs.YtfpgbhimgfdddaaGreatDoor
open Go.RowKit Go.Shelf Go.Maps Go.Sort
attribute [local go_sem ↓] Go.wp_at_zero Go.wp_at_succ
attribute [local go_sem] Later.cell Later.frozen

theorem encS_parts (s : St) : ∃ (K AT : Int) (S1 S2 : ByteArray), encS s = [.int .i64 K, .string S1, .string S2, .int .i64 AT] := by
  cases s with
  | mkdir a => exact ⟨1, 0, ⟨a.toArray⟩, ⟨#[]⟩, rfl⟩
  | create a i => exact ⟨2, i, ⟨a.toArray⟩, ⟨#[]⟩, rfl⟩
  | rename a b => exact ⟨3, 0, ⟨a.toArray⟩, ⟨b.toArray⟩, rfl⟩
  | remove a => exact ⟨4, 0, ⟨a.toArray⟩, ⟨#[]⟩, rfl⟩
theorem encS_len (s : St) : (encS s).length = 4 := by cases s <;> rfl
theorem encS_at : ∀ {l : List St} {i : Nat} {s : St} (j : Nat), l[i]? = some s → j < 4 → (l.flatMap encS)[i * 4 + j]? = (encS s)[j]?
  | [], _, _, _, h, _ => by simp at h
  | f :: m, 0, e, k, h, hk => by
    simp at h
    subst h
    rw [List.flatMap_cons, Nat.zero_mul, Nat.zero_add, List.getElem?_append_left (by rw [encS_len]; exact hk)]
  | f :: m, j + 1, e, k, h, hk => by
    rw [List.flatMap_cons, List.getElem?_append_right (by rw [encS_len]; omega)]
    rw [show (j + 1) * 4 + k - (encS f).length = j * 4 + k by rw [encS_len]; omega]
    exact encS_at k (by simpa using h) hk
/-- The entries of the first i things' files. -/
def filesTo (l : List Th) (i : Nat) : List En := sortE (((l.take i).filter fun x => !x.dir).map fun x => ⟨x.path, false, x.at_⟩)
theorem filesTo_all {l : List Th} {i : Nat} (h : l.length ≤ i) : filesTo l i = sortedF l := by unfold filesTo; rw [List.take_of_length_le h]; rfl
theorem filesTo_succ {l : List Th} {i : Nat} (hi : i < l.length) : filesTo l (i + 1) = if l[i]!.dir then filesTo l i else insE ⟨l[i]!.path, false, l[i]!.at_⟩ (filesTo l i) := by
  unfold filesTo
  rw [List.take_succ_eq_append_getElem hi, List.filter_append, List.map_append, getElem!_pos l i hi]
  cases hd : l[i].dir with
  | true => simp [hd]
  | false =>
    simp only [List.filter_cons, hd, List.filter_nil]
    unfold sortE
    rw [List.foldl_append]
    rfl
theorem filesTo_len (l : List Th) (i : Nat) : (filesTo l i).length ≤ i := by
  unfold filesTo
  rw [(sortE_perm _).length_eq, List.length_map]
  refine Nat.le_trans (List.length_filter_le _ _) ?_
  rw [List.length_take]
  omega
def Ints (w : World) (A : Option Addr) (n : Nat) (l : List Int) : Prop := Elems w w.heap.size 1 I1 A n l
theorem Ints.at_ {w : World} {A : Option Addr} {n : Nat} {l : List Int} (h : Ints w A n l) {i : Nat} (hi : i < n) : ∃ b off, A = some ⟨b, off, none⟩ ∧ b < w.heap.size ∧ w.cell? ⟨b, off + i, none⟩ = some (.int .i64 l[i]!) := by
  obtain ⟨b, off, e, hb, hc⟩ := h.2 (by omega)
  have hl : i < l.length := by have : l.length = n := Elems.len h; omega
  have hx := hc i l[i]! (by rw [getElem!_pos l i hl, List.getElem?_eq_getElem hl])
  exact ⟨b, off, e, hb, by simpa using hx 0 _ rfl⟩
def wishAt (data : List Int) (i : Nat) : Int := if data = [] then 0 else data[i % data.length]?.getD 0
section
variable {B0 M : Nat} {R : Nat → Nat} {A : RAdr} {d : Ds}
theorem keepF_plain (f : By) (wish : Int) (z : Bool) : keepF f wish z = ⟨(keepF f wish z).now, (keepF f wish z).now, []⟩ := rfl
end
end Go.Proofs.YtfpgbhimgfdddaaGreatDoor

/-! ## RdkWalksH -/
/- The walks of layer 3 (disk), the document's: Flip, Cut. -/
namespace Go.Proofs.YtfpgbhimgfdddaaGreatDoor
open Go.RowKit Go.Shelf Go.Maps Go.Sort
attribute [local go_sem ↓] Go.wp_at_zero Go.wp_at_succ
attribute [local go_sem] Later.cell Later.frozen

section
variable {B0 : Nat} {R : Nat → Nat} {A : RAdr} {d : Ds}

end
end Go.Proofs.YtfpgbhimgfdddaaGreatDoor

/-! ## RdkWalksJ -/
/- The walks of layer 3 (disk), the document's: Append. -/
namespace Go.Proofs.YtfpgbhimgfdddaaGreatDoor
open Go.RowKit Go.Shelf Go.Maps Go.Sort
attribute [local go_sem ↓] Go.wp_at_zero Go.wp_at_succ
attribute [local go_sem] Later.cell Later.frozen

section
variable {B0 : Nat} {R : Nat → Nat} {A : RAdr} {d : Ds}
theorem flat_take {l : List Txt} {i : Nat} (hi : i < l.length) : (l.take (i + 1)).flatten = (l.take i).flatten ++ l[i]! := by
  rw [List.take_succ_eq_append_getElem hi, List.flatten_append, getElem!_pos l i hi]
  simp
theorem flat_take_le (l : List Txt) (i : Nat) : (l.take i).flatten.length ≤ l.flatten.length := by
  conv => rhs; rw [← List.take_append_drop i l]
  rw [List.flatten_append, List.length_append]
  omega
end
end Go.Proofs.YtfpgbhimgfdddaaGreatDoor

/-! ## RdkWalksK -/
/- The walks of layer 3 (disk), the document's: Create. -/
namespace Go.Proofs.YtfpgbhimgfdddaaGreatDoor
open Go.RowKit Go.Shelf Go.Maps Go.Sort
attribute [local go_sem ↓] Go.wp_at_zero Go.wp_at_succ
attribute [local go_sem] Later.cell Later.frozen

section
variable {B0 : Nat} {R : Nat → Nat} {A : RAdr} {d : Ds}
end
end Go.Proofs.YtfpgbhimgfdddaaGreatDoor

/-! ## DskLaw -/
/- The walks of layer 3's law: code, twin. -/
namespace Go.Proofs.YtfpgbhimgfdddaaGreatDoor
open Go.RowKit Go.Shelf Go.Maps Go.Sort
attribute [local go_sem ↓] Go.wp_at_zero Go.wp_at_succ
attribute [local go_sem] Later.cell Later.frozen

/-- The failures lie apart. -/
def Apart (a : Nat → Addr) : Prop := ∀ i j, 1 ≤ i → i ≤ 7 → 1 ≤ j → j ≤ 7 → i ≠ j → a i ≠ a j
section
variable {B0 : Nat} {a : Nat → Addr}
theorem run_asserted (v : Value) (w : World) : (Instr.typeAssert (.iface 68 v) 32 68 true).run Tryz.prog w = .ok (.tuple #[v, .bool true]) w := by
  simp [Instr.typeAssert, run_underlying Tryz.underlying68, go_sem, Result.andThen]
/-- What the failures' variables point at. -/
def Sents (B0 : Nat) (a : Nat → Addr) (w : World) : Prop := ∀ k, 1 ≤ k → k ≤ 7 → (a k).block < B0 ∧ ∃ cs t, w.heap[(a k).block]? = some (.cells cs t (0, 0))
theorem Sents.below {w w' : World} (h : Sents B0 a w) (hb : Below B0 w w') : Sents B0 a w' := fun k h1 h2 => by
  obtain ⟨h3, cs, t, h4⟩ := h k h1 h2
  exact ⟨h3, cs, t, (hb.block _ h3).trans h4⟩
theorem info_ep : (Tryz.prog.info? 306).map (·.comparable) = some true := by kernel_rfl
theorem info_es : (Tryz.prog.info? 308).map (·.size) = some 1 := by kernel_rfl
theorem err_eq (i : Nat) (w : World) : (binOp .eql 32 (failV a i) (failV a i)).run Tryz.prog w = .ok (.bool true) w := by
  obtain ⟨i0, h1, h2⟩ := Option.map_eq_some_iff.1 info_ep
  obtain ⟨j0, h3, _⟩ := Option.map_eq_some_iff.1 info_es
  exact run_eql_iface_ptr_same w (a i) Tryz.underlying32 Tryz.underlying306 h1 h2 h3
theorem err_ne {i j : Nat} {w : World} (hs : Sents B0 a w) (ha : Apart a) (h1 : 1 ≤ i) (h2 : i ≤ 7) (h3 : 1 ≤ j) (h4 : j ≤ 7) (hne : i ≠ j) : (binOp .eql 32 (failV a i) (failV a j)).run Tryz.prog w = .ok (.bool false) w := by
  obtain ⟨i0, k1, k2⟩ := Option.map_eq_some_iff.1 info_ep
  obtain ⟨j0, k3, k4⟩ := Option.map_eq_some_iff.1 info_es
  obtain ⟨_, ci, ti, hi⟩ := hs i h1 h2
  obtain ⟨_, cj, tj, hj⟩ := hs j h3 h4
  exact run_eql_iface_ptr_other w Tryz.underlying32 Tryz.underlying306 k1 k2 k3 (by rw [k4]; decide) (ha i j h1 h2 h3 h4 hne) hi hj
end
end Go.Proofs.YtfpgbhimgfdddaaGreatDoor

/-! ## DskStep -/
/- The walks of layer 3's law: step, arm by arm (printed by gen_lawstep.py). -/
namespace Go.Proofs.YtfpgbhimgfdddaaGreatDoor
open Go.RowKit Go.Shelf Go.Maps Go.Sort
attribute [local go_sem ↓] Go.wp_at_zero Go.wp_at_succ
attribute [local go_sem] Later.cell Later.frozen

/-- One call of a script, in memory. -/
structure OpV where
  kind : Int
  a : ByteArray
  b : ByteArray
  n : Int
  m : Int
  pa : Option Addr
  pn : Nat
  pc : Nat
  da : Option Addr
  dn : Nat
  dc : Nat
  yes : Bool
def OpV.cells (o : OpV) : Array Value := #[.int .i64 o.kind, .string o.a, .string o.b, .int .i64 o.n, .int .i64 o.m, .slice o.pa o.pn o.pc, .slice o.da o.dn o.dc, .bool o.yes]
structure OpCells (w : World) (q : Nat) (K : Int) (A B : ByteArray) (n m : Int) (pa : Option Addr) (pn pc : Nat) (da : Option Addr) (dn dc : Nat) (yes : Bool) : Prop where
  c0 : w.cell? ⟨q, 0, none⟩ = some (.int .i64 K)
  c1 : w.cell? ⟨q, 1, none⟩ = some (.string A)
  c2 : w.cell? ⟨q, 2, none⟩ = some (.string B)
  c3 : w.cell? ⟨q, 3, none⟩ = some (.int .i64 n)
  c4 : w.cell? ⟨q, 4, none⟩ = some (.int .i64 m)
  c5 : w.cell? ⟨q, 5, none⟩ = some (.slice pa pn pc)
  c6 : w.cell? ⟨q, 6, none⟩ = some (.slice da dn dc)
  c7 : w.cell? ⟨q, 7, none⟩ = some (.bool yes)
section
variable {M : Value → World → Prop} {N : World → Prop} {k : Nat}
end
end Go.Proofs.YtfpgbhimgfdddaaGreatDoor

/-! ## DskPower -/
/- The walks of layer 3's law: power, arm by arm; twin (printed by gen_lawpower.py). -/
namespace Go.Proofs.YtfpgbhimgfdddaaGreatDoor
open Go.RowKit Go.Shelf Go.Maps Go.Sort
attribute [local go_sem ↓] Go.wp_at_zero Go.wp_at_succ
attribute [local go_sem] Later.cell Later.frozen

/-- An append whose run is known, at a step of a region that draws. -/
theorem step_known {P : Program} {w w' : World} {ops : Array Oper} {o : Oper} {a : Act} {K : Act → World → Prop} {Q : Exit → Act → World → Prop} {E : Prop} (hgd : o.guard = none) (s x : Operand) (t : TypeId)
    (ho : o.op = .call { callee := .builtin .append, args := #[s, x], argTypes := #[t, t] }) (v u v' : Value) (hs : a.eval s = v) (hx : a.eval x = u)
    (hrun : (Builtin.append_ #[t, t] o.type #[v, u]).run P w = .ok v' w') (h : K (a.put o.dst v') w') :
    if Region.wanted o (yielded ops a.tmps) = true then Oper.wp P o a w K Q else E := by
  have hw : Region.wanted o (yielded ops a.tmps) = true := by simp [Region.wanted, hgd]
  rw [if_pos hw]
  unfold Oper.wp execOp
  simp only [ho, resolve, invoke, builtin, Sem.run_bind, Sem.run_pure, Result.andThen_ok, List.map_toArray, List.map_cons, List.map_nil, hs, hx, hrun]
  exact h
theorem info_int3 : (Tryz.prog.info? 3).map (fun i => (i.zero, i.size, i.bytes)) = some (some (.int .i64 0), 1, 8) := by kernel_rfl
set_option maxRecDepth 100000 in
/-- append([]int(nil), data...). -/
theorem run_ints (Ad : Option Addr) (n c : Nat) (data : List Int) (w : World) (h : Ints3 w Ad n data) (hA : Ad = none → c = 0) (hn : n * 8 ≤ 140737488355328) :
    ∃ A' c' w', (Builtin.append_ #[58, 58] 58 #[.slice none 0 0, .slice Ad n c]).run Tryz.prog w = .ok (.slice A' n c') w' ∧ Ints3 w' A' n data ∧ Below w.heap.size w w' ∧ ∀ x, A' = some x → w.heap.size ≤ x.block := by
  obtain ⟨i0, hi0, hz0, hz1, hz2⟩ := info_parts info_int3
  have hl : data.length = n := Elems.len h
  cases Ad with
  | none =>
    have h0 : n = 0 := by
      rcases Nat.eq_zero_or_pos n with h0 | h0
      · exact h0
      · obtain ⟨b, off, e, _⟩ := h.2 h0; cases e
    subst h0
    obtain rfl := hA rfl
    exact ⟨none, 0, w, run_append_owned_none w w.heap.size 58 58 3 i0 1 Tryz.underlying58 hi0 _ 0 [] (World.ownsRow_nil _ _ _ _), h, Below.refl _ _, fun x e => by cases e⟩
  | some a =>
    have hcells : ∀ j u, (data.map (Value.int .i64))[j]? = some u → w.cell? (a.add j) = some u := by
      intro j u hj
      rw [List.getElem?_map, Option.map_eq_some_iff] at hj
      obtain ⟨x, hx, rfl⟩ := hj
      have hjn : j < n := by have := (List.getElem?_eq_some_iff.1 hx).1; omega
      obtain ⟨b, off, e, hb, hc⟩ := h.2 (by omega)
      have := hc j x hx 0 (.int .i64 x) rfl
      injection e with e
      rw [e]
      have e2 : (⟨b, off, none⟩ : Addr).add j = ⟨b, off + j, none⟩ := by
        unfold Addr.add
        split
        · rename_i h0; subst h0; rfl
        · rfl
      rw [e2]
      simpa using this
    obtain ⟨v', w', h1, h2, h3, h4, h5⟩ := run_append_own_at (P := Tryz.prog) (w := w) w.heap.size 58 58 3 i0 (.int .i64 0) 1 8 Tryz.underlying58 hi0 hz0 hz1 hz2 rfl (by decide) (.slice none 0 0) 0 [] (World.ownsRow_nil _ _ _ _) a n c (data.map (Value.int .i64)) (by rw [List.length_map, hl, Nat.mul_one]) hcells (by intro u hu; obtain ⟨x, _, rfl⟩ := List.mem_map.1 hu; rfl) (by unfold maxLen; omega) (by omega) (Nat.le_refl _)
    rw [Nat.zero_add, List.nil_append] at h2
    obtain ⟨A', c', rfl, hs, hbase, hnc⟩ := Elems.of_own (enc := I1) (xs := data) (fun _ _ => rfl) (flatMap_I1 data) h2 hl
    exact ⟨A', c', w', h1, hs, ⟨h3.os, h3.tape, h3.output, h3.size, fun k hk => h3.block k hk (fun e => by cases e)⟩, hbase⟩
section
variable {M : World → Prop} {N : World → Prop} {k : Nat}
end
end Go.Proofs.YtfpgbhimgfdddaaGreatDoor

/-! ## DskListed -/
/- The walks of layer 3's law: twin, listed. -/
namespace Go.Proofs.YtfpgbhimgfdddaaGreatDoor
open Go.RowKit Go.Shelf Go.Maps Go.Sort
attribute [local go_sem ↓] Go.wp_at_zero Go.wp_at_succ
attribute [local go_sem] Later.cell Later.frozen

theorem info_string3 : (Tryz.prog.info? 9).map (fun i => (i.zero, i.size, i.bytes)) = some (some (.string ⟨#[]⟩), 1, 16) := by kernel_rfl
def TwinOut3 (w : World) (l : List Txt) (e : Ending) (w' : World) : Prop :=
  ∃ A c, e = .returned (.slice A l.length c) ∧ Strs w' A l.length l ∧ l.length ≤ c ∧ Below w.heap.size w w'

theorem ents_at {w : World} {A : Option Addr} {n : Nat} {l : List En} (h : Elems w w.heap.size 3 encE A n l) {i : Nat} (hi : i < n) : ∃ b off, A = some ⟨b, off, none⟩ ∧ b < w.heap.size ∧ w.cell? ⟨b, off + i * 3, none⟩ = some (txtV l[i]!.name) ∧ w.cell? ⟨b, off + i * 3 + 1, none⟩ = some (.bool l[i]!.dir) ∧ w.cell? ⟨b, off + i * 3 + 2, none⟩ = some (.int .i64 (l[i]!.size : Int)) := by
  obtain ⟨b, off, e, hb, hc⟩ := h.2 (by omega)
  have hl : i < l.length := by have : l.length = n := Elems.len h; omega
  have hx := hc i l[i]! (by rw [getElem!_pos l i hl, List.getElem?_eq_getElem hl])
  exact ⟨b, off, e, hb, by simpa using hx 0 _ rfl, by simpa using hx 1 _ rfl, by simpa using hx 2 _ rfl⟩
theorem EntRow.out {w : World} {B : Nat} {v : Value} {l : List En} (h : EntRow w B v l) : ∃ A c, v = .slice A l.length c ∧ Elems w w.heap.size 3 encE A l.length l ∧ l.length ≤ c := by
  obtain ⟨A, c, h1, h2, _, h4⟩ := Elems.of_own (enc := encE) (xs := l) (fun _ _ => rfl) rfl h rfl
  exact ⟨A, c, h1, h2, h4⟩

section
variable {M : Value → Value → World → Prop} {N : Value → Value → Value → World → Prop} {k : Nat}
end
end Go.Proofs.YtfpgbhimgfdddaaGreatDoor

/-! ## DskAlike -/
/- The walks of layer 3's law: alike. -/
namespace Go.Proofs.YtfpgbhimgfdddaaGreatDoor
open Go.RowKit Go.Shelf Go.Maps Go.Sort
attribute [local go_sem ↓] Go.wp_at_zero Go.wp_at_succ
attribute [local go_sem] Later.cell Later.frozen

end Go.Proofs.YtfpgbhimgfdddaaGreatDoor
