/- Merged (what the claim wants of): DskInv. -/
import Derived.Test.YtfpgbhimgfdddaaGreatDoorStk14
set_option linter.unusedVariables false
set_option linter.unusedSimpArgs false
/- The plain law of layer 3 (disk): what stays true of a disk, call by call. No program in sight. -/
namespace Go.Proofs.YtfpgbhimgfdddaaGreatDoor

/-- The steps lead on, each where it may be taken. -/
def Chain (n : Nat) : List Th → List St → Prop
  | _, [] => True
  | l, s :: r => StOk n l s ∧ Chain n (applyS l s) r
theorem Chain.append {n : Nat} : ∀ {l : List Th} {r : List St} {s : St}, Chain n l r → StOk n (r.foldl applyS l) s → Chain n l (r ++ [s])
  | _, [], _, _, h => ⟨h, trivial⟩
  | _, _ :: _, _, h, k => ⟨h.1, Chain.append h.2 k⟩
theorem StOk.more {n m : Nat} {l : List Th} {s : St} (h : StOk n l s) (hm : n ≤ m) : StOk m l s := by
  cases s with
  | mkdir a => exact h
  | create a i => exact ⟨h.1, h.2.1, h.2.2.1, by have := h.2.2.2.1; omega, h.2.2.2.2⟩
  | remove a => exact h
  | rename a b => exact h
theorem Chain.more {n m : Nat} (hm : n ≤ m) : ∀ {l : List Th} {r : List St}, Chain n l r → Chain m l r
  | _, [], _ => trivial
  | _, _ :: _, h => ⟨h.1.more hm, Chain.more hm h.2⟩
theorem TW.more {n m : Nat} {l : List Th} (h : TW n l) (hm : n ≤ m) : TW m l := ⟨h.nodup, h.dirs, h.paths, h.par, fun x hx hd => by have := h.ats x hx hd; omega, h.inj⟩
theorem Chain.tw {n : Nat} : ∀ {l : List Th} {r : List St}, TW n l → Chain n l r → TW n (r.foldl applyS l)
  | _, [], h, _ => h
  | l, s :: r, h, k => by rw [List.foldl_cons]; exact Chain.tw (h.apply k.1) k.2
theorem Chain.take {n : Nat} : ∀ {l : List Th} {r : List St} (i : Nat), Chain n l r → Chain n l (r.take i)
  | _, _, 0, _ => trivial
  | _, [], _ + 1, _ => trivial
  | _, _ :: _, i + 1, h => ⟨h.1, Chain.take i h.2⟩
theorem Chain.at_ {n : Nat} : ∀ {l : List Th} {r : List St} {i : Nat} {s : St}, Chain n l r → r[i]? = some s → StOk n ((r.take i).foldl applyS l) s
  | _, _ :: _, 0, _, h, e => by simp at e; subst e; exact h.1
  | _, _ :: _, _ + 1, _, h, e => by simpa using Chain.at_ h.2 (by simpa using e)
theorem applyS_len (l : List Th) (s : St) : (applyS l s).length ≤ l.length + 1 := by
  cases s with
  | mkdir a => simp [applyS]
  | create a i => simp [applyS]
  | remove a => simp only [applyS]; exact Nat.le_succ_of_le (List.length_filter_le _ _)
  | rename a b => simp only [applyS, List.length_map]; exact Nat.le_succ_of_le (List.length_filter_le _ _)
theorem foldS_len : ∀ (r : List St) (l : List Th), (r.foldl applyS l).length ≤ l.length + r.length
  | [], _ => Nat.le_refl _
  | s :: r, l => by
    have h1 := foldS_len r (applyS l s)
    have h2 := applyS_len l s
    simp only [List.foldl_cons, List.length_cons]
    omega
theorem foldS_take {r : List St} {i : Nat} {s : St} {l : List Th} (h : r[i]? = some s) : (r.take (i + 1)).foldl applyS l = applyS ((r.take i).foldl applyS l) s := by
  rw [List.take_add_one, h, List.foldl_append]
  rfl

/-! ### a file -/
/-- The length behind the steps. -/
def lenOf : List Ch → Nat → Nat
  | [], n => n
  | c :: r, n => lenOf r (if c.cut then c.size else n + c.text.length)
theorem lenOf_append : ∀ (r : List Ch) (c : Ch) (n : Nat), lenOf (r ++ [c]) n = if c.cut then c.size else lenOf r n + c.text.length
  | [], c, n => rfl
  | x :: r, c, n => by rw [List.cons_append, lenOf, lenOf_append r c]; rfl
theorem units_append (r : List Ch) (c : Ch) : units (r ++ [c]) = units r + (c.text.length + if c.cut then 1 else 0) := by
  unfold units
  simp
theorem units_cons (r : List Ch) (c : Ch) : units (c :: r) = (c.text.length + if c.cut then 1 else 0) + units r := by
  unfold units
  simp
theorem lenOf_le {M : Nat} : ∀ (r : List Ch) (n : Nat), stepsOk M r n → lenOf r n ≤ n + units r
  | [], n, _ => by simp [lenOf]
  | c :: r, n, h => by
    rw [lenOf, units_cons]
    unfold stepsOk at h
    cases hc : c.cut with
    | true =>
      rw [hc] at h
      simp only [if_true] at h ⊢
      have := lenOf_le r c.size h.2
      omega
    | false =>
      rw [hc] at h
      simp only [Bool.false_eq_true, if_false] at h ⊢
      have := lenOf_le r _ h.2
      omega
theorem stepsOk.more {M M' : Nat} (hM : M ≤ M') : ∀ {r : List Ch} {n : Nat}, stepsOk M r n → stepsOk M' r n
  | [], _, _ => trivial
  | c :: r, n, h => by
    unfold stepsOk at h ⊢
    split
    · rename_i hc
      rw [if_pos hc] at h
      exact ⟨h.1, stepsOk.more hM h.2⟩
    · rename_i hc
      rw [if_neg hc] at h
      exact ⟨by omega, stepsOk.more hM h.2⟩
theorem stepsOk.append {M : Nat} : ∀ {r : List Ch} {c : Ch} {n : Nat}, stepsOk M r n → (if c.cut then c.size ≤ lenOf r n else lenOf r n + c.text.length ≤ M) → stepsOk M (r ++ [c]) n
  | [], c, n, _, h => by
    rw [List.nil_append]
    unfold stepsOk
    split
    · rename_i hc
      rw [if_pos hc] at h
      exact ⟨h, trivial⟩
    · rename_i hc
      rw [if_neg hc] at h
      exact ⟨h, trivial⟩
  | x :: r, c, n, h, k => by
    rw [List.cons_append]
    unfold stepsOk at h ⊢
    rw [lenOf] at k
    split
    · rename_i hx
      rw [if_pos hx] at h k
      exact ⟨h.1, stepsOk.append h.2 k⟩
    · rename_i hx
      rw [if_neg hx] at h k
      exact ⟨h.1, stepsOk.append h.2 k⟩
structure FOk (M : Nat) (f : By) : Prop where
  ok : stepsOk M f.steps f.safe.length
  len : lenOf f.steps f.safe.length = f.now.length
  sum : f.safe.length + units f.steps ≤ M
  sl : f.steps.length ≤ M
section
variable {M M' : Nat} {f : By}
theorem FOk.more (h : FOk M f) (hM : M ≤ M') : FOk M' f := ⟨h.ok.more hM, h.len, Nat.le_trans h.sum hM, Nat.le_trans h.sl hM⟩
theorem FOk.now (h : FOk M f) : f.now.length ≤ M := by
  have h1 := lenOf_le _ _ h.ok
  have h2 := h.len
  have h3 := h.sum
  omega
theorem FOk.plain {s : Txt} (h : s.length ≤ M) : FOk M ⟨s, s, []⟩ := ⟨trivial, rfl, by simp [units]; exact h, Nat.zero_le _⟩
theorem FOk.append (h : FOk M f) (t : Txt) : FOk (M + t.length + 1) { f with now := f.now ++ t, steps := f.steps ++ [⟨t, false, 0⟩] } where
  ok := (h.ok.more (by omega)).append (by
    have h1 := h.now
    have h2 := h.len
    simp only [Bool.false_eq_true, if_false]
    omega)
  len := by
    have h2 := h.len
    simp [lenOf_append, h2]
  sum := by
    have h3 := h.sum
    simp only [units_append, Bool.false_eq_true, if_false]
    omega
  sl := by
    have := h.sl
    simp
    omega
theorem FOk.cut (h : FOk M f) {n : Nat} (hn : n ≤ f.now.length) : FOk (M + 1) { f with now := f.now.take n, steps := f.steps ++ [⟨[], true, n⟩] } where
  ok := (h.ok.more (by omega)).append (by
    have h2 := h.len
    simp only [if_true]
    omega)
  len := by
    simp [lenOf_append]
    omega
  sum := by
    have h3 := h.sum
    simp only [units_append, if_true, List.length_nil]
    omega
  sl := by
    have := h.sl
    simp
    omega
theorem keepL_len : ∀ (r : List Ch) (now : Txt) (left : Nat) (z : Bool), (keepL r now left z).1.length + (keepL r now left z).2.1 ≤ now.length + left
  | [], _, _, _ => Nat.le_refl _
  | c :: r, now, left, z => by
    rw [keepL]
    split
    · split
      · have := keepL_len r (now.take c.size) (left - 1) z
        rw [List.length_take] at this
        omega
      · exact keepL_len r now left false
    · have := keepL_len r (now ++ c.text.take (min left c.text.length)) (left - min left c.text.length) z
      rw [List.length_append, List.length_take] at this
      omega
theorem FOk.keep (h : FOk M f) (wish : Int) (z : Bool) : FOk M (keepF f wish z) := by
  have h1 := keepL_len f.steps f.safe (shareN wish (units f.steps)) z
  have h2 := shareN_le wish (units f.steps)
  have h3 := h.sum
  unfold keepF
  refine FOk.plain ?_
  split
  · rw [List.length_append, List.length_replicate]
    omega
  · omega
end

/-! ### the disk -/
structure WF (M : Nat) (d : Ds) : Prop where
  safe : TW d.files.length d.safe
  chain : Chain d.files.length d.safe d.steps
  things : d.things = d.steps.foldl applyS d.safe
  files : ∀ f ∈ d.files, FOk M f
  names : d.safe.length + d.steps.length ≤ M
  fl : d.files.length ≤ M
  aw : d.await ≤ 9223372036854775807
  cap : d.cap ≤ 67108864
section
variable {M M' : Nat} {d : Ds}
theorem WF.more (h : WF M d) (hM : M ≤ M') : WF M' d := ⟨h.safe, h.chain, h.things, fun f hf => (h.files f hf).more hM, Nat.le_trans h.names hM, Nat.le_trans h.fl hM, h.aw, h.cap⟩
theorem WF.tw (h : WF M d) : TW d.files.length d.things := by rw [h.things]; exact h.chain.tw h.safe
theorem WF.tl (h : WF M d) : d.things.length ≤ M := by
  rw [h.things]
  exact Nat.le_trans (foldS_len _ _) h.names
theorem WF.fit (h : WF M d) (hM : M ≤ 536870912) : Fit d := ⟨h.tw, Nat.le_trans h.tl hM, by have := h.names; omega, Nat.le_trans h.fl hM, h.aw⟩
theorem WF.nums (h : WF M d) : Nums d := by
  refine ⟨h.tw.ats, h.safe.ats, fun s i hs => ?_⟩
  obtain ⟨j, hj⟩ := List.mem_iff_getElem?.1 hs
  exact (h.chain.at_ hj).2.2.2.1
theorem WF.fAt (h : WF M d) (i : Nat) : FOk M (fAt d i) := by
  unfold Go.Proofs.YtfpgbhimgfdddaaGreatDoor.fAt
  cases hf : d.files[i]? with
  | none => exact FOk.plain (Nat.zero_le _)
  | some f => exact h.files f (List.mem_of_getElem? hf)
theorem WF.new (n : Int) : WF 0 (newD n) where
  safe := ⟨by simp [newD], by simp [newD], by simp [newD], by simp [newD], by simp [newD], by simp [newD]⟩
  chain := trivial
  things := rfl
  files := by simp [newD]
  names := by simp [newD]
  fl := by simp [newD]
  aw := by simp [newD]
  cap := by simp [newD]; omega
theorem WF.same (h : WF M d) {d' : Ds} (h1 : d'.things = d.things) (h2 : d'.safe = d.safe) (h3 : d'.steps = d.steps) (h4 : d'.files = d.files) (h5 : d'.await ≤ 9223372036854775807) (h6 : d'.cap = d.cap) : WF M d' :=
  ⟨by rw [h4, h2]; exact h.safe, by rw [h4, h2, h3]; exact h.chain, by rw [h1, h2, h3]; exact h.things, by rw [h4]; exact h.files, by rw [h2, h3]; exact h.names, by rw [h4]; exact h.fl, h5, by rw [h6]; exact h.cap⟩
theorem stepD_rest (d : Ds) : (stepD d).2.things = d.things ∧ (stepD d).2.safe = d.safe ∧ (stepD d).2.steps = d.steps ∧ (stepD d).2.files = d.files ∧ (stepD d).2.await ≤ d.await ∧ (stepD d).2.cap = d.cap := by
  unfold stepD
  split
  · exact ⟨rfl, rfl, rfl, rfl, Nat.le_refl _, rfl⟩
  · split
    · exact ⟨rfl, rfl, rfl, rfl, Nat.zero_le _, rfl⟩
    · exact ⟨rfl, rfl, rfl, rfl, Nat.sub_le _ _, rfl⟩
theorem WF.step (h : WF M d) : WF M (stepD d).2 := by
  obtain ⟨h1, h2, h3, h4, h5, h6⟩ := stepD_rest d
  exact h.same h1 h2 h3 h4 (Nat.le_trans h5 h.aw) h6
theorem WF.names_ (h : WF M d) {s : St} (hs : StOk d.files.length d.things s) : WF (M + 1) (namesD d s).2 := by
  unfold namesD
  obtain ⟨h1, h2, h3, h4, h5, h6⟩ := stepD_rest d
  split
  · exact h.step.more (by omega)
  · exact {
      safe := by simp only [h2, h4]; exact h.safe
      chain := by simp only [h2, h4]; exact h.chain.append (by rw [← h.things]; exact hs)
      things := by simp only [h2]; rw [List.foldl_append, ← h.things]; rfl
      files := by simp only [h4]; exact fun f hf => (h.files f hf).more (by omega)
      names := by simp only [h2, List.length_append]; have := h.names; simp; omega
      fl := by simp only [h4]; have := h.fl; omega
      aw := Nat.le_trans h5 h.aw
      cap := by simp only [h6]; exact h.cap }
theorem WF.mkdir (h : WF M d) (s : Txt) : WF (M + 1) (mkdirD d s).2 := by
  unfold mkdirD
  split
  · exact h.more (by omega)
  split
  · exact h.more (by omega)
  split
  · exact h.more (by omega)
  rename_i h1 h2 h3
  exact h.names_ ⟨by simpa using h2, by simpa using h3⟩
theorem WF.remove (h : WF M d) (s : Txt) : WF (M + 1) (removeD d s).2 := by
  unfold removeD
  split
  · exact h.more (by omega)
  split
  · exact h.more (by omega)
  split
  · exact h.more (by omega)
  rename_i h1 h2 h3
  exact h.names_ ⟨by simpa using h2, by simpa using h3⟩
theorem WF.rename (h : WF M d) (a b : Txt) : WF (M + 1) (renameD d a b).2 := by
  unfold renameD
  split
  · exact h.more (by omega)
  split
  · exact h.more (by omega)
  split
  · exact h.more (by omega)
  split
  · exact h.more (by omega)
  split
  · exact h.more (by omega)
  rename_i h1 h2 h3 h4 h5
  simp only [not_or, not_and, Bool.not_eq_false] at h2 h3 h4 h5
  refine h.names_ ⟨h2.1, h2.2, h4.1, h4.2, h5.1, fun e => ⟨h3 e, ?_⟩, ?_⟩
  · rcases isT_range d.things b with h0 | h0 | h0
    · exact h0
    · exact absurd e (h5.2 h0).1
    · exact absurd h0 h5.1
  · rintro rfl
    rcases isT_range d.things a with h0 | h0 | h0
    · exact h4.1 h0
    · exact (h5.2 h0).2 rfl
    · exact h5.1 h0
theorem WF.create (h : WF M d) (s : Txt) : WF (M + 1) (createD d s).2 := by
  unfold createD
  split
  · exact h.more (by omega)
  split
  · exact h.more (by omega)
  split
  · exact h.more (by omega)
  split
  · exact h.more (by omega)
  split
  · exact h.step.more (by omega)
  rename_i h1 h2 h3 h4 h5
  obtain ⟨k1, k2, k3, k4, k5, k6⟩ := stepD_rest d
  have e : (namesD d (.create s d.files.length)).2 = { (stepD d).2 with things := applyS d.things (.create s d.files.length), steps := d.steps ++ [.create s d.files.length] } := by
    unfold namesD
    rw [if_neg h5]
  rw [e]
  have hle : d.files.length ≤ (d.files ++ [(⟨[], [], []⟩ : By)]).length := by simp
  exact {
    safe := by simp only [k2]; exact h.safe.more hle
    chain := by
      simp only [k2]
      refine (h.chain.more hle).append ?_
      rw [← h.things]
      exact ⟨by simpa using h2, by simpa using h3, by simpa using h4, by simp, fun x hx hd => Nat.ne_of_lt (h.tw.ats x hx hd)⟩
    things := by simp only [k2]; rw [List.foldl_append, ← h.things]; rfl
    files := by
      intro f hf
      rcases List.mem_append.1 hf with hf | hf
      · exact (h.files f hf).more (by omega)
      · rw [List.mem_singleton.1 hf]; exact FOk.plain (Nat.zero_le _)
    names := by simp only [k2, List.length_append]; have := h.names; simp; omega
    fl := by have := h.fl; simp; omega
    aw := Nat.le_trans k5 h.aw
    cap := by simp only [k6]; exact h.cap }
theorem WF.set_ (h : WF M d) {i : Nat} {f : By} (hf : FOk M' f) (hM : M ≤ M') : WF M' (setF d i f) where
  safe := by simp only [setF, List.length_set]; exact h.safe
  chain := by simp only [setF, List.length_set]; exact h.chain
  things := h.things
  files := by
    intro g hg
    rcases List.mem_or_eq_of_mem_set hg with hg | rfl
    · exact (h.files g hg).more hM
    · exact hf
  names := Nat.le_trans h.names hM
  fl := by simp only [setF, List.length_set]; exact Nat.le_trans h.fl hM
  aw := h.aw
  cap := h.cap
theorem WF.append (h : WF M d) (s t : Txt) : WF (M + t.length + 1) (appendD d s t).2 := by
  unfold appendD
  split
  · exact h.more (by omega)
  split
  · exact h.more (by omega)
  split
  · exact h.step.more (by omega)
  rename_i i _ _ _
  exact h.step.set_ ((h.fAt i).append t) (by omega)
theorem WF.cut (h : WF M d) (s : Txt) (n : Int) : WF (M + 1) (cutD d s n).2 := by
  unfold cutD
  split
  · exact h.more (by omega)
  split
  · exact h.more (by omega)
  split
  · exact h.step.more (by omega)
  rename_i i _ hn _
  exact h.step.set_ ((h.fAt i).cut (by omega)) (by omega)
theorem WF.sync (h : WF M d) (s : Txt) : WF (M + 1) (syncD d s).2 := by
  unfold syncD
  split
  · exact h.more (by omega)
  split
  · exact h.step.more (by omega)
  rename_i i _ _
  exact h.step.set_ (FOk.plain (Nat.le_succ_of_le (h.fAt i).now)) (by omega)
theorem flipT_len {s : Txt} {k : Nat} (m : UInt8) (h : k < s.length) : (flipT s k m).length = s.length := by
  unfold flipT
  simp
  omega
theorem WF.flip (h : WF M d) (s : Txt) (k : Int) (m : UInt8) : WF (M + 1) (flipD d s k m).2 := by
  unfold flipD
  split
  · exact h.more (by omega)
  split
  · exact h.more (by omega)
  rename_i i _ hn
  refine h.set_ (FOk.plain ?_) (by omega)
  rw [flipT_len m (by omega)]
  exact Nat.le_succ_of_le (h.fAt i).now
theorem WF.syncNames (h : WF M d) : WF (M + 1) (syncNamesD d).2 := by
  unfold syncNamesD
  split
  · exact h.more (by omega)
  split
  · exact h.step.more (by omega)
  obtain ⟨k1, k2, k3, k4, k5, k6⟩ := stepD_rest d
  exact {
    safe := by simp only [k4]; exact h.tw
    chain := trivial
    things := by simp only [k1]; rfl
    files := by simp only [k4]; exact fun f hf => (h.files f hf).more (by omega)
    names := by have := h.tl; simp; omega
    fl := by simp only [k4]; have := h.fl; omega
    aw := Nat.le_trans k5 h.aw
    cap := by simp only [k6]; exact h.cap }
theorem WF.crash (h : WF M d) {n : Int} (hn : n ≤ 9223372036854775807) : WF (M + 1) (crashD d n) := (h.same (d' := crashD d n) rfl rfl rfl rfl (by simp only [crashD]; omega) rfl).more (by omega)
theorem keepAll_len (data : List Int) (z : Bool) : ∀ (l : List En) (i : Nat) (fs : List By), (keepAll data z l i fs).length = fs.length
  | [], _, _ => rfl
  | x :: r, i, fs => by rw [keepAll, keepAll_len data z r]; simp
theorem keepAll_ok (data : List Int) (z : Bool) : ∀ (l : List En) (i : Nat) (fs : List By), (∀ f ∈ fs, FOk M f) → ∀ f ∈ keepAll data z l i fs, FOk M f
  | [], _, _, h => h
  | x :: r, i, fs, h => by
    rw [keepAll]
    refine keepAll_ok data z r _ _ fun f hf => ?_
    rcases List.mem_or_eq_of_mem_set hf with hf | rfl
    · exact h f hf
    · refine FOk.keep ?_ _ _
      cases hx : fs[x.size]? with
      | none => exact FOk.plain (Nat.zero_le _)
      | some g => exact h g (List.mem_of_getElem? hx)
theorem WF.restart (h : WF M d) (n : Int) (data : List Int) (z : Bool) : WF (M + 1) (restartD d n data z) where
  safe := by
    simp only [restartD, keepAll_len]
    exact (h.chain.take _).tw h.safe
  chain := trivial
  things := rfl
  files := by
    simp only [restartD]
    exact fun f hf => (keepAll_ok data z _ _ _ h.files f hf).more (by omega)
  names := by
    have h1 := h.names
    have h2 := foldS_len (d.steps.take (shareN n d.steps.length)) d.safe
    rw [List.length_take] at h2
    simp only [restartD, List.length_nil]
    omega
  fl := by simp only [restartD, keepAll_len]; have := h.fl; omega
  aw := by simp [restartD]
  cap := h.cap
end
end Go.Proofs.YtfpgbhimgfdddaaGreatDoor
