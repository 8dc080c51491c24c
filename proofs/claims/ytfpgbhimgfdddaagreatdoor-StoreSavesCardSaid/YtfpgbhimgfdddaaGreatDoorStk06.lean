/- Merged (what the claim wants of): DskKept, DskWalksA, DskWalksB. -/
import Derived.Test.YtfpgbhimgfdddaaGreatDoorStk05
import Derived.Test.YtfpgbhimgfdddaaGreatDoorStk03
import Derived.Test.YtfpgbhimgfdddaaGreatDoorShelf
set_option linter.unusedVariables false
set_option linter.unusedSimpArgs false
/- The plain law of layer 3 (disk): what was made safe survives a restart. No program in sight. -/
namespace Go.Proofs.YtfpgbhimgfdddaaGreatDoor

/-- The paths x/a, x/b, .. -/
def pthX (i : Nat) : Txt := [120, 47, UInt8.ofNat (97 + i)]
def thX (n : Nat) : List Th := ⟨[120], true, 0⟩ :: (List.range n).map fun j => ⟨pthX j, false, j⟩
theorem pthX_byte {i : Nat} (hi : i < 26) : (UInt8.ofNat (97 + i)).toNat = 97 + i := by
  rw [UInt8.toNat_ofNat']
  omega
theorem pthX_inj {i j : Nat} (hi : i < 26) (hj : j < 26) (h : pthX i = pthX j) : i = j := by
  unfold pthX at h
  have h1 : UInt8.ofNat (97 + i) = UInt8.ofNat (97 + j) := by simpa using h
  have h2 := congrArg UInt8.toNat h1
  rw [pthX_byte hi, pthX_byte hj] at h2
  omega
theorem pthX_path : ∀ i, i < 26 → pathB (pthX i) = true := by decide
theorem pthX_slash (i : Nat) : slashAt (pthX i) = some 1 := by simp [pthX, slashAt]
theorem thX_succ (n : Nat) : thX (n + 1) = thX n ++ [⟨pthX n, false, n⟩] := by simp [thX, List.range_succ]
theorem find_lay {n j : Nat} (hn : n ≤ 26) (hj : j < 26) : findT (thX n) (pthX j) = if j < n then some ⟨pthX j, false, j⟩ else none := by
  induction n with
  | zero => simp [thX, findT, pthX]
  | succ n ih =>
    have ih := ih (by omega)
    unfold findT at ih ⊢
    rw [thX_succ, List.find?_append, ih]
    by_cases h1 : j < n
    · rw [if_pos h1, if_pos (by omega)]
      rfl
    · rw [if_neg h1]
      by_cases h2 : j = n
      · subst h2
        simp
      · have h3 : (pthX n == pthX j) = false := by
          rw [beq_eq_false_iff_ne]
          intro h
          exact h2 (pthX_inj (by omega) hj h).symm
        rw [if_neg (by omega)]
        simp [h3]
theorem find_x (n : Nat) : findT (thX n) [120] = some ⟨[120], true, 0⟩ := by simp [findT, thX]

structure Lay (d : Ds) (n : Nat) : Prop where
  things : d.things = thX n
  off : d.off = false
  aw : d.await = 0
  cap : d.cap = 67108864
  fl : d.files.length = n
def sumF (l : List By) : Nat := (l.map fun f => f.now.length).sum
theorem sumF_set : ∀ {l : List By} {i : Nat} (h : i < l.length) (f : By), sumF (l.set i f) + (l[i]).now.length = sumF l + f.now.length
  | x :: l, 0, _, f => by simp [sumF]; omega
  | x :: l, i + 1, h, f => by
    have := sumF_set (l := l) (i := i) (by simpa using h) f
    simp [sumF] at this ⊢
    omega
theorem sumF_append (l : List By) (f : By) : sumF (l ++ [f]) = sumF l + f.now.length := by simp [sumF]
section
variable {d : Ds} {n i : Nat}
theorem Lay.used (h : Lay d n) : usedD d = sumF d.files := by
  unfold usedD
  rw [if_neg (by rw [h.off]; simp), h.things]
  unfold usedL thX sumF
  rw [List.map_cons, List.sum_cons, List.map_map]
  have e : ((List.range n).map ((fun x : Th => if x.dir then 0 else (nowAt d x.at_).length) ∘ fun j => ⟨pthX j, false, j⟩)) = d.files.map fun f => f.now.length := by
    refine List.ext_getElem (by simp [h.fl]) fun k h1 h2 => ?_
    rw [List.length_map] at h2
    simp [nowAt, List.getElem?_eq_getElem h2]
  rw [e]
  simp
theorem Lay.step (h : Lay d n) : stepD d = (0, d) := by
  unfold stepD
  rw [if_pos h.aw]
theorem Lay.file (h : Lay d n) (hn : n ≤ 26) (hi : i < n) : fileD d (pthX i) = .ok i := by
  unfold fileD fileT
  rw [if_neg (by rw [h.off]; simp), if_neg (by rw [pthX_path i (by omega)]; simp), h.things, find_lay hn (by omega), if_pos hi]
  simp
theorem Lay.create (h : Lay d n) (hn : n < 26) : (createD d (pthX n)).1 = 0 ∧ Lay (createD d (pthX n)).2 (n + 1) ∧ (createD d (pthX n)).2.files = d.files ++ [⟨[], [], []⟩] := by
  have hp : parentB d.things (pthX n) = true := by
    unfold parentB
    rw [pthX_slash]
    simp only [pthX, List.take_succ_cons, List.take_zero, h.things]
    unfold isT
    rw [find_x]
    rfl
  have hi : isT d.things (pthX n) = 0 := by
    unfold isT
    rw [h.things, find_lay (by omega) hn, if_neg (by omega)]
  have e : createD d (pthX n) = (0, { d with things := applyS d.things (.create (pthX n) d.files.length), steps := d.steps ++ [.create (pthX n) d.files.length], files := d.files ++ [⟨[], [], []⟩] }) := by
    unfold createD
    rw [if_neg (by rw [h.off]; simp), if_neg (by rw [pthX_path n hn]; simp), if_neg (by rw [hp]; simp), if_neg (by rw [hi]; simp), h.step]
    unfold namesD
    rw [h.step]
    simp
  rw [e]
  refine ⟨rfl, ⟨?_, h.off, h.aw, h.cap, ?_⟩, rfl⟩
  · simp only [applyS, h.things, h.fl, thX_succ]
  · simp [h.fl]
theorem fAt_pos {i : Nat} (h : i < d.files.length) : fAt d i = d.files[i] := by
  unfold fAt
  rw [List.getElem?_eq_getElem h]
  rfl
theorem Lay.append (h : Lay d n) (hn : n ≤ 26) (hi : i < n) (t : Txt) (hu : sumF d.files + t.length ≤ 67108864) :
    appendD d (pthX i) t = (0, setF d i { fAt d i with now := (fAt d i).now ++ t, steps := (fAt d i).steps ++ [⟨t, false, 0⟩] }) := by
  unfold appendD
  rw [h.file hn hi]
  simp only
  rw [if_neg (by rw [h.used, h.cap]; omega), h.step]
  simp
theorem Lay.sync (h : Lay d n) (hn : n ≤ 26) (hi : i < n) : syncD d (pthX i) = (0, setF d i ⟨(fAt d i).now, (fAt d i).now, []⟩) := by
  unfold syncD
  rw [h.file hn hi]
  simp only
  rw [h.step]
  simp
theorem Lay.set (h : Lay d n) (i : Nat) (f : By) : Lay (setF d i f) n := ⟨h.things, h.off, h.aw, h.cap, by simp [setF, h.fl]⟩
theorem Lay.syncNames (h : Lay d n) : syncNamesD d = (0, { d with safe := d.things, steps := [] }) := by
  unfold syncNamesD
  rw [if_neg (by rw [h.off]; simp), h.step]
  simp
end

/-! ### the files -/
/-- The text stays ahead of all that may be left of the file. -/
structure Hold (t : Txt) (f : By) : Prop where
  safe : t <+: f.safe
  now : t <+: f.now
  cuts : ∀ c ∈ f.steps, c.cut = false
theorem keepL_held : ∀ (r : List Ch) (now : Txt) (left : Nat) (z : Bool), (∀ c ∈ r, c.cut = false) → now <+: (keepL r now left z).1
  | [], now, _, _, _ => List.prefix_refl now
  | c :: r, now, left, z, h => by
    rw [keepL, if_neg (by rw [h c (List.mem_cons_self ..)]; simp)]
    exact (List.prefix_append _ _).trans (keepL_held r _ _ _ fun x hx => h x (List.mem_cons_of_mem _ hx))
theorem Hold.keep {t : Txt} {f : By} (h : Hold t f) (wish : Int) (z : Bool) : Hold t (keepF f wish z) := by
  have h1 := keepL_held f.steps f.safe (shareN wish (units f.steps)) z h.cuts
  have h2 : t <+: (keepF f wish z).now := by
    unfold keepF
    simp only
    split
    · exact (h.safe.trans h1).trans (List.prefix_append _ _)
    · exact h.safe.trans h1
  exact ⟨h2, h2, by simp [keepF]⟩
theorem Hold.append {t : Txt} {f : By} (h : Hold t f) (s : Txt) : Hold t { f with now := f.now ++ s, steps := f.steps ++ [⟨s, false, 0⟩] } where
  safe := h.safe
  now := h.now.trans (List.prefix_append _ _)
  cuts := by
    intro c hc
    rcases List.mem_append.1 hc with hc | hc
    · exact h.cuts c hc
    · rw [List.mem_singleton.1 hc]
theorem Hold.plain (t : Txt) : Hold t ⟨t, t, []⟩ := ⟨List.prefix_refl t, List.prefix_refl t, by simp⟩
/-- Each text stays ahead of its file. -/
def Holds (T : List Txt) (l : List By) : Prop := ∀ (j : Nat) (t : Txt), T[j]? = some t → ∃ f, l[j]? = some f ∧ Hold t f
theorem Holds.set {T : List Txt} {l : List By} (h : Holds T l) (i : Nat) (f : By) (hf : ∀ t, T[i]? = some t → Hold t f) : Holds T (l.set i f) := by
  intro j t ht
  obtain ⟨g, h1, h2⟩ := h j t ht
  by_cases e : i = j
  · subst e
    have hl : i < l.length := by
      rcases Nat.lt_or_ge i l.length with hl | hl
      · exact hl
      · rw [List.getElem?_eq_none hl] at h1; cases h1
    exact ⟨f, List.getElem?_set_self hl, hf t ht⟩
  · exact ⟨g, by rw [List.getElem?_set_ne e]; exact h1, h2⟩
theorem Holds.keepAll {T : List Txt} (data : List Int) (z : Bool) : ∀ (r : List En) (i : Nat) (l : List By), Holds T l → Holds T (Go.Proofs.YtfpgbhimgfdddaaGreatDoor.keepAll data z r i l)
  | [], _, _, h => h
  | x :: r, i, l, h => by
    rw [Go.Proofs.YtfpgbhimgfdddaaGreatDoor.keepAll]
    refine Holds.keepAll data z r _ _ (h.set _ _ fun t ht => ?_)
    obtain ⟨f, h1, h2⟩ := h _ t ht
    rw [h1]
    exact h2.keep _ _
theorem Holds.snoc {T : List Txt} {l : List By} (h : Holds T l) (hl : T.length = l.length) (t : Txt) {f : By} (hf : Hold t f) : Holds (T ++ [t]) (l ++ [f]) := by
  intro j s hs
  rcases Nat.lt_trichotomy j T.length with hj | hj | hj
  · rw [List.getElem?_append_left hj] at hs
    obtain ⟨g, h1, h2⟩ := h j s hs
    exact ⟨g, by rw [List.getElem?_append_left (by omega)]; exact h1, h2⟩
  · rw [List.getElem?_append_right (by omega), hj, Nat.sub_self] at hs
    have : t = s := by simpa using hs
    subst this
    exact ⟨f, by rw [List.getElem?_append_right (by omega), hj, hl, Nat.sub_self]; rfl, hf⟩
  · rw [List.getElem?_eq_none (by simp; omega)] at hs
    cases hs

/-! ### the law's disk -/
/-- The disk behind the files of T, with so many bytes. -/
structure KeptF (T : List Txt) (u : Nat) (d : Ds) : Prop where
  lay : Lay d T.length
  n : T.length ≤ 26
  holds : Holds T d.files
  sum : sumF d.files = u
section
variable {T : List Txt} {u i : Nat} {d : Ds}
/-- One file more, made safe. -/
theorem KeptF.more (h : KeptF T u d) (hn : T.length < 26) (t : Txt) (hu : u + t.length ≤ 67108864) :
    ∃ d1 d2 d3, createD d (pthX T.length) = (0, d1) ∧ appendD d1 (pthX T.length) t = (0, d2) ∧ syncD d2 (pthX T.length) = (0, d3) ∧ KeptF (T ++ [t]) (u + t.length) d3 := by
  obtain ⟨e1, l1, f1⟩ := h.lay.create hn
  obtain ⟨d1, hd1⟩ : ∃ x, (createD d (pthX T.length)).2 = x := ⟨_, rfl⟩
  rw [hd1] at l1 f1
  have s1 : sumF d1.files = u := by rw [f1, sumF_append, h.sum]; simp
  have hfl := h.lay.fl
  have hf1 : fAt d1 T.length = ⟨[], [], []⟩ := by
    unfold fAt
    rw [f1, List.getElem?_append_right (by omega), hfl, Nat.sub_self]
    rfl
  have e2 := l1.append (i := T.length) (by omega) (by omega) t (by omega)
  rw [hf1] at e2
  have l2 := l1.set T.length { (⟨[], [], []⟩ : By) with now := (⟨[], [], []⟩ : By).now ++ t, steps := (⟨[], [], []⟩ : By).steps ++ [⟨t, false, 0⟩] }
  have e3 := l2.sync (i := T.length) (by omega) (by omega)
  have l3 := l2.set T.length ⟨t, t, []⟩
  have hx : ∀ f : By, (d1.files.set T.length f) = d.files ++ [f] := fun f => by
    rw [f1, List.set_append_right _ _ (by omega), hfl, Nat.sub_self]
    rfl
  have hf2 : fAt (setF d1 T.length ⟨t, [], [⟨t, false, 0⟩]⟩) T.length = ⟨t, [], [⟨t, false, 0⟩]⟩ := by
    unfold fAt setF
    simp only
    rw [hx, List.getElem?_append_right (by omega), hfl, Nat.sub_self]
    rfl
  have hfiles : (setF (setF d1 T.length ⟨t, [], [⟨t, false, 0⟩]⟩) T.length ⟨t, t, []⟩).files = d.files ++ [⟨t, t, []⟩] := by
    unfold setF
    simp only [List.set_set]
    rw [hx]
  refine ⟨d1, _, _, Prod.ext e1 hd1, e2, e3, ?_⟩
  simp only [List.nil_append] at hf2 ⊢
  rw [hf2]
  simp only [List.nil_append] at l3
  refine ⟨by rw [List.length_append]; exact l3, by simp; omega, ?_, ?_⟩
  · rw [hfiles]; exact h.holds.snoc hfl.symm t (Hold.plain t)
  · rw [hfiles, sumF_append, h.sum]
/-- A text behind a file. -/
theorem KeptF.append (h : KeptF T u d) (hi : i < T.length) (t : Txt) (hu : u + t.length ≤ 67108864) :
    ∃ d', appendD d (pthX i) t = (0, d') ∧ KeptF T (u + t.length) d' ∧ d'.safe = d.safe ∧ d'.steps = d.steps := by
  have hfl := h.lay.fl
  have e := h.lay.append h.n hi t (by rw [h.sum]; exact hu)
  refine ⟨_, e, ⟨h.lay.set _ _, h.n, ?_, ?_⟩, rfl, rfl⟩
  · unfold setF
    refine h.holds.set _ _ fun s hs => ?_
    obtain ⟨f, h1, h2⟩ := h.holds i s hs
    have : fAt d i = f := by unfold fAt; rw [h1]; rfl
    rw [this]
    exact h2.append t
  · have h3 := sumF_set (l := d.files) (i := i) (by omega) { fAt d i with now := (fAt d i).now ++ t, steps := (fAt d i).steps ++ [⟨t, false, 0⟩] }
    have h4 := fAt_pos (d := d) (i := i) (by omega)
    rw [← h4, h.sum] at h3
    simp only [List.length_append] at h3
    unfold setF
    simp only
    omega
theorem KeptF.syncNames (h : KeptF T u d) : ∃ d', syncNamesD d = (0, d') ∧ KeptF T u d' ∧ d'.safe = thX T.length ∧ d'.steps = [] :=
  ⟨_, h.lay.syncNames, ⟨⟨h.lay.things, h.lay.off, h.lay.aw, h.lay.cap, h.lay.fl⟩, h.n, h.holds, h.sum⟩, h.lay.things, rfl⟩
theorem ent_lay (h : d.things = thX i) : (entD d [120]).length = i := by
  unfold entD
  rw [h]
  have e : ∀ n, ((thX n).filterMap fun x => if ([120] : Txt) = [] then (if (slashAt x.path).isSome then none else some (⟨x.path, x.dir, if x.dir then 0 else (nowAt d x.at_).length⟩ : En))
    else if insideB x.path [120] then some ⟨x.path.drop (([120] : Txt).length + 1), x.dir, if x.dir then 0 else (nowAt d x.at_).length⟩ else none).length = n := by
    intro n
    induction n with
    | zero => simp [thX, insideB]
    | succ n ih =>
      rw [thX_succ, List.filterMap_append, List.length_append, ih]
      have hin : insideB (pthX n) [120] = true := by simp [insideB, pthX, List.isPrefixOf]
      simp [hin]
  exact e i
/-- Behind the restart. -/
theorem KeptF.restart (h : KeptF T u d) (hs : d.safe = thX T.length) (h0 : d.steps = []) (data : List Int) (z : Bool) :
    (∀ (i : Nat) (t : Txt), T[i]? = some t → ∃ x, allD (restartD d 0 data z) (pthX i) = (x, 0) ∧ t <+: x) ∧ (∃ l, listD (restartD d 0 data z) [120] = (l, 0) ∧ l.length = T.length) ∧ (restartD d 0 data z).off = false := by
  have ht : (restartD d 0 data z).things = thX T.length := by simp [restartD, h0, hs]
  have hf : Holds T (restartD d 0 data z).files := by
    simp only [restartD]
    exact Holds.keepAll _ _ _ _ _ h.holds
  have ho : (restartD d 0 data z).off = false := rfl
  refine ⟨fun i t hi => ?_, ?_, ho⟩
  · obtain ⟨f, h1, h2⟩ := hf i t hi
    have hiT : i < T.length := by
      rcases Nat.lt_or_ge i T.length with hl | hl
      · exact hl
      · rw [List.getElem?_eq_none hl] at hi; cases hi
    have hn := h.n
    have e : fileD (restartD d 0 data z) (pthX i) = .ok i := by
      unfold fileD fileT
      rw [if_neg (by rw [ho]; simp), if_neg (by rw [pthX_path i (by omega)]; simp), ht, find_lay h.n (by omega), if_pos hiT]
      simp
    refine ⟨f.now, ?_, h2.now⟩
    unfold allD
    rw [e]
    simp only [fAt, h1]
    rfl
  · refine ⟨sortE (entD (restartD d 0 data z) [120]), ?_, ?_⟩
    · unfold listD
      have hi : isT (restartD d 0 data z).things [120] = 2 := by
        unfold isT
        rw [ht, find_x]
        rfl
      rw [if_neg (by rw [ho]; simp), if_neg (by decide), if_neg (by rw [hi]; simp), if_neg (by rw [hi]; simp)]
    · rw [(sortE_perm _).length_eq, ent_lay ht]
end
end Go.Proofs.YtfpgbhimgfdddaaGreatDoor

/- The walks of layer 3 (disk): names, the code's and the document's. -/
namespace Go.Proofs.YtfpgbhimgfdddaaGreatDoor
open Go.RowKit
attribute [local go_sem ↓] Go.wp_at_zero Go.wp_at_succ
attribute [local go_sem] Later.cell Later.frozen

theorem text_size3 (s : ByteArray) : s.data.toList.length = s.size := rfl
theorem drop_byte3 {s : ByteArray} {i : Nat} (h : i < s.size) : s.data.toList.drop i = s[i] :: s.data.toList.drop (i + 1) := by
  rw [List.drop_eq_getElem_cons (by simpa using h)]
  rfl
theorem empty_size3 (s : ByteArray) : s.toList.isEmpty = decide (s.size = 0) := by
  rw [ByteArray.toList_eq, Bool.eq_iff_iff]
  simp only [List.isEmpty_iff, decide_eq_true_eq]
  rw [← text_size3]
  constructor
  · intro h; rw [h]; rfl
  · intro h; exact List.eq_nil_of_length_eq_zero h
theorem name_cases (b : UInt8) : (97 ≤ b.toNat ∧ b.toNat ≤ 122) ∨ (48 ≤ b.toNat ∧ b.toNat ≤ 57) ∨ (b.toNat = 46) ∨ (b.toNat = 45) ∨ (b.toNat < 48 ∧ b.toNat ≠ 46 ∧ b.toNat ≠ 45) ∨ (57 < b.toNat ∧ b.toNat < 97) ∨ (122 < b.toNat) := by omega

set_option maxRecDepth 100000 in
set_option maxHeartbeats 2000000 in
theorem name_calls (s : ByteArray) (r : Bool) (hr : nameB s.data.toList = r) (hs : s.size ≤ 1073741824) (w : World) :
    Calls Tryz.prog 80 #[.string s] w fun e w' => e = .returned (.bool r) ∧ w = w' := by
  obtain ⟨R, hR⟩ : ∃ R, s.data.toList.all nameC = R := ⟨_, rfl⟩
  have hrr : (R && (decide (1 ≤ s.size) && decide (s.size ≤ 32))) = r := by rw [← hr, ← hR, nameB, text_size3, Bool.and_assoc]
  have HRR := Lib.hid hrr
  have HR := Lib.hid hR
  clear hr hrr hR
  go_enter Tryz.func80, Tryz.ntmps80
  go_upto_block 0 with fail
  go_cut [] (fun wz => wz = w ∧ R = true)
  case first =>
    go_wp2_with fail
    go_loopg [7] s.size (fun g sx wr => wr = w ∧ ∃ i : Nat, i + g = s.size ∧ sx = .int .i64 (i : Int) ∧ (s.data.toList.drop i).all nameC = R)
    case atStart => exact ⟨rfl, 0, by omega, rfl, by simpa using HR.out⟩
    case round =>
      obtain ⟨rfl, i, hig, rfl, hall⟩ := hrel
      obtain ⟨w, rfl⟩ : ∃ x, x = wr := ⟨_, rfl⟩
      have HIG := Lib.hid hig
      by_cases hi : i < s.size
      · have hst : (nameC s[i] && (s.data.toList.drop (i + 1)).all nameC) = R := by rw [← hall, drop_byte3 hi, List.all_cons]
        obtain ⟨b, hb⟩ : ∃ b, s[i] = b := ⟨_, rfl⟩
        have hbl := UInt8.toNat_lt b
        rw [hb] at hst
        have HST := Lib.hid hst
        clear hst hig hall
        have el : decide ((i : Int) < (s.size : Int)) = true := by simp; omega
        have el' : decide (i < s.size) = true := by simp; omega
        go_upto_region 6 with fail
        clear hb
        rcases name_cases b with h | h | h | h | h | h | h
        · have hn : nameC b = true := by simp only [nameC]; simp; omega
          have d1 : decide ((97 : Int) ≤ (b.toNat : Int)) = true := by simp; omega
          have d2 : decide ((b.toNat : Int) ≤ 122) = true := by simp; omega
          have d3 : decide ((48 : Int) ≤ (b.toNat : Int)) = true := by simp; omega
          have d4 : decide ((b.toNat : Int) ≤ 57) = false := by simp; omega
          have d5 : ((b.toNat : Int) == 46) = false := by simp; omega
          have d6 : ((b.toNat : Int) != 46) = true := by simp; omega
          have d7 : ((b.toNat : Int) == 45) = false := by simp; omega
          have d8 : ((b.toNat : Int) != 45) = true := by simp; omega
          have hnx : (s.data.toList.drop (i + 1)).all nameC = R := by have := HST.out; rw [hn, Bool.true_and] at this; exact this
          have HNX := Lib.hid hnx
          clear hnx hn h
          go_wp2_with fail
          go_roundg (gk - 1)
          case measure => have := HIG.out; omega
          case rel => exact ⟨rfl, i + 1, by have := HIG.out; omega, by go_num, HNX.out⟩
        · have hn : nameC b = true := by simp only [nameC]; simp; omega
          have d1 : decide ((97 : Int) ≤ (b.toNat : Int)) = false := by simp; omega
          have d2 : decide ((b.toNat : Int) ≤ 122) = true := by simp; omega
          have d3 : decide ((48 : Int) ≤ (b.toNat : Int)) = true := by simp; omega
          have d4 : decide ((b.toNat : Int) ≤ 57) = true := by simp; omega
          have d5 : ((b.toNat : Int) == 46) = false := by simp; omega
          have d6 : ((b.toNat : Int) != 46) = true := by simp; omega
          have d7 : ((b.toNat : Int) == 45) = false := by simp; omega
          have d8 : ((b.toNat : Int) != 45) = true := by simp; omega
          have hnx : (s.data.toList.drop (i + 1)).all nameC = R := by have := HST.out; rw [hn, Bool.true_and] at this; exact this
          have HNX := Lib.hid hnx
          clear hnx hn h
          go_wp2_with fail
          go_roundg (gk - 1)
          case measure => have := HIG.out; omega
          case rel => exact ⟨rfl, i + 1, by have := HIG.out; omega, by go_num, HNX.out⟩
        · have hn : nameC b = true := by simp only [nameC]; simp; omega
          have d1 : decide ((97 : Int) ≤ (b.toNat : Int)) = false := by simp; omega
          have d2 : decide ((b.toNat : Int) ≤ 122) = true := by simp; omega
          have d3 : decide ((48 : Int) ≤ (b.toNat : Int)) = false := by simp; omega
          have d4 : decide ((b.toNat : Int) ≤ 57) = true := by simp; omega
          have d5 : ((b.toNat : Int) == 46) = true := by simp; omega
          have d6 : ((b.toNat : Int) != 46) = false := by simp; omega
          have d7 : ((b.toNat : Int) == 45) = false := by simp; omega
          have d8 : ((b.toNat : Int) != 45) = true := by simp; omega
          have hnx : (s.data.toList.drop (i + 1)).all nameC = R := by have := HST.out; rw [hn, Bool.true_and] at this; exact this
          have HNX := Lib.hid hnx
          clear hnx hn h
          go_wp2_with fail
          go_roundg (gk - 1)
          case measure => have := HIG.out; omega
          case rel => exact ⟨rfl, i + 1, by have := HIG.out; omega, by go_num, HNX.out⟩
        · have hn : nameC b = true := by simp only [nameC]; simp; omega
          have d1 : decide ((97 : Int) ≤ (b.toNat : Int)) = false := by simp; omega
          have d2 : decide ((b.toNat : Int) ≤ 122) = true := by simp; omega
          have d3 : decide ((48 : Int) ≤ (b.toNat : Int)) = false := by simp; omega
          have d4 : decide ((b.toNat : Int) ≤ 57) = true := by simp; omega
          have d5 : ((b.toNat : Int) == 46) = false := by simp; omega
          have d6 : ((b.toNat : Int) != 46) = true := by simp; omega
          have d7 : ((b.toNat : Int) == 45) = true := by simp; omega
          have d8 : ((b.toNat : Int) != 45) = false := by simp; omega
          have hnx : (s.data.toList.drop (i + 1)).all nameC = R := by have := HST.out; rw [hn, Bool.true_and] at this; exact this
          have HNX := Lib.hid hnx
          clear hnx hn h
          go_wp2_with fail
          go_roundg (gk - 1)
          case measure => have := HIG.out; omega
          case rel => exact ⟨rfl, i + 1, by have := HIG.out; omega, by go_num, HNX.out⟩
        · have hn : nameC b = false := by simp only [nameC]; simp; omega
          have d1 : decide ((97 : Int) ≤ (b.toNat : Int)) = false := by simp; omega
          have d2 : decide ((b.toNat : Int) ≤ 122) = true := by simp; omega
          have d3 : decide ((48 : Int) ≤ (b.toNat : Int)) = false := by simp; omega
          have d4 : decide ((b.toNat : Int) ≤ 57) = true := by simp; omega
          have d5 : ((b.toNat : Int) == 46) = false := by simp; omega
          have d6 : ((b.toNat : Int) != 46) = true := by simp; omega
          have d7 : ((b.toNat : Int) == 45) = false := by simp; omega
          have d8 : ((b.toNat : Int) != 45) = true := by simp; omega
          obtain rfl : false = R := by have := HST.out; rw [hn, Bool.false_and] at this; exact this
          obtain rfl : false = r := by have := HRR.out; rw [Bool.false_and] at this; exact this
          clear hn h
          go_wp2_with fail
          go_ret
          exact ⟨rfl, rfl⟩
        · have hn : nameC b = false := by simp only [nameC]; simp; omega
          have d1 : decide ((97 : Int) ≤ (b.toNat : Int)) = false := by simp; omega
          have d2 : decide ((b.toNat : Int) ≤ 122) = true := by simp; omega
          have d3 : decide ((48 : Int) ≤ (b.toNat : Int)) = true := by simp; omega
          have d4 : decide ((b.toNat : Int) ≤ 57) = false := by simp; omega
          have d5 : ((b.toNat : Int) == 46) = false := by simp; omega
          have d6 : ((b.toNat : Int) != 46) = true := by simp; omega
          have d7 : ((b.toNat : Int) == 45) = false := by simp; omega
          have d8 : ((b.toNat : Int) != 45) = true := by simp; omega
          obtain rfl : false = R := by have := HST.out; rw [hn, Bool.false_and] at this; exact this
          obtain rfl : false = r := by have := HRR.out; rw [Bool.false_and] at this; exact this
          clear hn h
          go_wp2_with fail
          go_ret
          exact ⟨rfl, rfl⟩
        · have hn : nameC b = false := by simp only [nameC]; simp; omega
          have d1 : decide ((97 : Int) ≤ (b.toNat : Int)) = true := by simp; omega
          have d2 : decide ((b.toNat : Int) ≤ 122) = false := by simp; omega
          have d3 : decide ((48 : Int) ≤ (b.toNat : Int)) = true := by simp; omega
          have d4 : decide ((b.toNat : Int) ≤ 57) = false := by simp; omega
          have d5 : ((b.toNat : Int) == 46) = false := by simp; omega
          have d6 : ((b.toNat : Int) != 46) = true := by simp; omega
          have d7 : ((b.toNat : Int) == 45) = false := by simp; omega
          have d8 : ((b.toNat : Int) != 45) = true := by simp; omega
          obtain rfl : false = R := by have := HST.out; rw [hn, Bool.false_and] at this; exact this
          obtain rfl : false = r := by have := HRR.out; rw [Bool.false_and] at this; exact this
          clear hn h
          go_wp2_with fail
          go_ret
          exact ⟨rfl, rfl⟩
      · have el : decide ((i : Int) < (s.size : Int)) = false := by simp; omega
        have el' : decide (i < s.size) = false := by simp; omega
        have hR1 : R = true := by rw [← hall, List.drop_of_length_le (by rw [text_size3]; omega)]; rfl
        clear hig hall
        go_wp2_with fail
        go_meet
        exact ⟨rfl, hR1⟩
  case rest =>
    obtain ⟨rfl, rfl⟩ := hcut
    obtain ⟨w, rfl⟩ : ∃ x, x = wc := ⟨_, rfl⟩
    have hrr := HRR.out
    rw [Bool.true_and] at hrr
    by_cases h0 : s.size = 0
    · obtain rfl : false = r := by rw [← hrr]; simp [h0]
      have e1 : s.toList.isEmpty = true := by rw [empty_size3]; simpa using h0
      have e2 : (!s.toList.isEmpty) = false := by rw [e1]; rfl
      have e3 : decide ((1 : Int) ≤ (s.size : Int)) = false := decide_eq_false (by omega)
      have e4 : decide (1 ≤ s.size) = false := decide_eq_false (by omega)
      have e5 : s.toList = [] := by simpa using e1
      clear hrr
      go_wp2_with fail
      go_ret
      exact ⟨rfl, rfl⟩
    · have e1 : s.toList.isEmpty = false := by rw [empty_size3]; simpa using h0
      have e2 : (!s.toList.isEmpty) = true := by rw [e1]; rfl
      have e3 : decide ((1 : Int) ≤ (s.size : Int)) = true := decide_eq_true (by omega)
      have e4 : decide (1 ≤ s.size) = true := decide_eq_true (by omega)
      rw [e4, Bool.true_and] at hrr
      by_cases h32 : s.size ≤ 32
      · obtain rfl : true = r := by rw [← hrr]; simp [h32]
        have e5 : decide ((s.size : Int) ≤ 32) = true := by simp; omega
        have e6 : decide (s.size ≤ 32) = true := by simp; omega
        clear hrr
        go_wp2_with fail
        go_ret
        exact ⟨rfl, rfl⟩
      · obtain rfl : false = r := by rw [← hrr]; simp [h32]
        have e5 : decide ((s.size : Int) ≤ 32) = false := by simp; omega
        have e6 : decide (s.size ≤ 32) = false := by simp; omega
        clear hrr
        go_wp2_with fail
        go_ret
        exact ⟨rfl, rfl⟩

end Go.Proofs.YtfpgbhimgfdddaaGreatDoor

/- The walks of layer 3 (disk): paths, the code's and the document's. -/
namespace Go.Proofs.YtfpgbhimgfdddaaGreatDoor
open Go.RowKit
attribute [local go_sem ↓] Go.wp_at_zero Go.wp_at_succ
attribute [local go_sem] Later.cell Later.frozen

theorem bytes_eq {a b : ByteArray} (h : a.data.toList = b.data.toList) : a = b := by
  cases a; cases b
  simp at h
  rw [h]
theorem bytes_of {a : ByteArray} {l : Txt} (h : a.data.toList = l) : a = ⟨l.toArray⟩ := bytes_eq (by simpa using h)
theorem take_bytes (s : ByteArray) (k : Nat) : (s.extract 0 k).data.toList = s.data.toList.take k := by
  simp only [ByteArray.data_extract, Array.toList_extract]
  simp
theorem drop_bytes (s : ByteArray) (k : Nat) : (s.extract k s.size).data.toList = s.data.toList.drop k := by
  simp only [ByteArray.data_extract, Array.toList_extract]
  rw [← text_size3, List.extract_eq_take_drop, List.take_of_length_le]
  simp
theorem index_slash : ∀ l : Txt, Lib.indexByte l 47 = match slashAt l with | none => -1 | some k => (k : Int)
  | [] => rfl
  | b :: l => by
    have ih := index_slash l
    rw [Lib.indexByte, slashAt]
    by_cases hb : b = 47
    · simp [hb]
    · rw [if_neg hb, if_neg (by simpa using hb), ih]
      cases slashAt l with
      | none => simp
      | some k =>
        simp only [Option.map_some]
        rw [if_neg (by simp)]
        simp
theorem slashAt_lt : ∀ {l : Txt} {k : Nat}, slashAt l = some k → k < l.length
  | b :: l, k, h => by
    rw [slashAt] at h
    split at h
    · injection h with h; subst h; simp
    · cases hs : slashAt l with
      | none => rw [hs] at h; cases h
      | some j =>
        rw [hs] at h
        injection h with h
        have := slashAt_lt hs
        simp at h ⊢
        omega
/-- The text cut at its first slash. -/
def cutR (l : Txt) : Txt × Txt × Bool := match slashAt l with | none => (l, [], false) | some k => (l.take k, l.drop (k + 1), true)

set_option maxRecDepth 100000 in
set_option maxHeartbeats 1000000 in
theorem scut_calls (s : ByteArray) (A B : ByteArray) (f : Bool) (hr : cutR s.data.toList = (A.data.toList, B.data.toList, f)) (hs : s.size ≤ 1073741824) (w : World) :
    Calls Tryz.prog 138 #[.string s, .string ⟨#[47]⟩] w fun e w' => e = .returned (.tuple #[.string A, .string B, .bool f]) ∧ Below w.heap.size w w' := by
  have hix := Tryz.stringslite_Index_one s 47 w
  rw [index_slash] at hix
  unfold cutR at hr
  cases hsl : slashAt s.data.toList with
  | none =>
    rw [hsl] at hix hr
    obtain ⟨h1, h2, rfl⟩ : s.data.toList = A.data.toList ∧ [] = B.data.toList ∧ false = f := by simpa using hr
    obtain rfl := bytes_eq h1
    obtain rfl : ⟨#[]⟩ = B := bytes_eq h2
    have HIX := Lib.hid hix
    clear hix hr hsl h1 h2
    go_enter Tryz.func138, Tryz.ntmps138
    go_wp2_with fail
    refine HIX.out.mono ?_
    rintro e w' ⟨rfl, rfl⟩
    go_wp2_with fail
    go_ret3
    exact ⟨rfl, Below.refl _ _⟩
  | some k =>
    rw [hsl] at hix hr
    have hk := slashAt_lt hsl
    rw [text_size3] at hk
    obtain ⟨h1, h2, rfl⟩ : s.data.toList.take k = A.data.toList ∧ s.data.toList.drop (k + 1) = B.data.toList ∧ true = f := by simpa using hr
    have e1 : s.extract 0 k = A := bytes_eq (by rw [take_bytes]; exact h1)
    have e2 : s.extract (k + 1) s.size = B := bytes_eq (by rw [drop_bytes]; exact h2)
    have HIX := Lib.hid hix
    have HE1 := Lib.hid e1
    have HE2 := Lib.hid e2
    have hk0 : decide ((0 : Int) ≤ (k : Int)) = true := by simp
    clear hix hr hsl h1 h2 e1 e2
    go_enter Tryz.func138, Tryz.ntmps138
    go_wp2_with fail
    refine HIX.out.mono ?_
    rintro e w' ⟨rfl, rfl⟩
    go_upto_region 3 with fail
    have z1 : IntKind.i64.wrap ((k : Int) + 1) = (k : Int) + 1 := IntWalk.i64_in _ (by omega)
    have z2 : (0 : Int) ≤ (k : Int) + 1 := by omega
    have z3 : ((k : Int) + 1).toNat = k + 1 := by omega
    have z4 : (k : Int) ≤ (s.size : Int) := by omega
    have z5 : (k : Int) + 1 ≤ (s.size : Int) := by omega
    refine wp_region_later (by kernel_rfl) (by kernel_rfl) ?_
    repeat (go_big_quiet_step (fail))
    refine wpQuiet_nil ?_
    rintro w2 ⟨⟨_, hb2⟩, rfl⟩
    clear z1 z2 z3 z4 z5
    go_wp2_with fail
    go_ret3
    exact ⟨ret3 (by rw [← HE1.out]; rfl) (by rw [← HE2.out]; rfl) rfl, hb2⟩
theorem cut3_calls (s : ByteArray) (A B : ByteArray) (f : Bool) (hr : cutR s.data.toList = (A.data.toList, B.data.toList, f)) (hs : s.size ≤ 1073741824) (w : World) :
    Calls Tryz.prog 111 #[.string s, .string ⟨#[47]⟩] w fun e w' => e = .returned (.tuple #[.string A, .string B, .bool f]) ∧ Below w.heap.size w w' := by
  have HC := Lib.hid (scut_calls s A B f hr hs w)
  clear hr
  go_enter Tryz.func111, Tryz.ntmps111
  go_wp2_with fail
  refine HC.out.mono ?_
  rintro e w' ⟨rfl, hb⟩
  go_wp2_with fail
  go_ret3
  exact ⟨rfl, hb⟩

theorem cut_pair (s : ByteArray) : ∃ (A B : ByteArray) (f : Bool), cutR s.data.toList = (A.data.toList, B.data.toList, f) ∧ A.size ≤ s.size ∧ B.size ≤ s.size ∧ pathB s.data.toList = (nameB A.data.toList && (!f || nameB B.data.toList)) := by
  unfold cutR pathB
  cases h : slashAt s.data.toList with
  | none => exact ⟨s, ⟨#[]⟩, false, rfl, Nat.le_refl _, Nat.zero_le _, by simp⟩
  | some k =>
    refine ⟨⟨(s.data.toList.take k).toArray⟩, ⟨(s.data.toList.drop (k + 1)).toArray⟩, true, rfl, ?_, ?_, by simp⟩
    · rw [← text_size3, ← text_size3]; simp; omega
    · rw [← text_size3, ← text_size3]; simp

set_option maxHeartbeats 1000000 in
theorem path_calls (s : ByteArray) (r : Bool) (hr : pathB s.data.toList = r) (hs : s.size ≤ 1073741824) (w : World) :
    Calls Tryz.prog 62 #[.string s] w fun e w' => e = .returned (.bool r) ∧ Below w.heap.size w w' := by
  obtain ⟨A, B, f, h1, h2, h3, h4⟩ := cut_pair s
  rw [hr] at h4
  have HC := Lib.hid (cut3_calls s A B f h1 hs w)
  obtain ⟨ra, hra⟩ : ∃ r, nameB A.data.toList = r := ⟨_, rfl⟩
  obtain ⟨rb, hrb⟩ : ∃ r, nameB B.data.toList = r := ⟨_, rfl⟩
  have HA := Lib.hid (fun w => name_calls A ra hra (by omega) w)
  have HB := Lib.hid (fun w => name_calls B rb hrb (by omega) w)
  rw [hra, hrb] at h4
  have H4 := Lib.hid h4
  clear h1 hra hrb hr h4
  go_enter Tryz.func62, Tryz.ntmps62
  go_wp2_with fail
  refine HC.out.mono ?_
  rintro e w1 ⟨rfl, hb⟩
  go_wp2_with fail
  refine (HA.out w1).mono ?_
  rintro e w1' ⟨rfl, rfl⟩
  cases ra with
  | false =>
    obtain rfl : r = false := by simpa using H4.out
    go_wp2_with fail
    go_ret
    exact ⟨rfl, hb⟩
  | true =>
    cases f with
    | false =>
      obtain rfl : r = true := by simpa using H4.out
      go_wp2_with fail
      go_ret
      exact ⟨rfl, hb⟩
    | true =>
      obtain rfl : r = rb := by simpa using H4.out
      go_wp2_with fail
      refine (HB.out w1).mono ?_
      rintro e w1' ⟨rfl, rfl⟩
      go_wp2_with fail
      go_ret
      exact ⟨rfl, hb⟩

/-! ### the document's -/

end Go.Proofs.YtfpgbhimgfdddaaGreatDoor
