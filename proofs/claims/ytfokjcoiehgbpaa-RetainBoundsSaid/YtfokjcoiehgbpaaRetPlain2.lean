/- More of the plain law of layer 25: what a sweep leaves, and that there is nothing more to decide. No program in sight. -/
import Derived.Test.YtfokjcoiehgbpaaRetPlain
namespace Go.Proofs.Ytfokjcoiehgbpaa
open Go.RowKit

/-- A fit block: its resolution is one of three, its bytes are no less than nothing. -/
def okInfo (x : Info) : Prop := 1 ≤ x.id ∧ 0 ≤ x.res ∧ x.res ≤ 2 ∧ 0 ≤ x.bytes
/-- The first k blocks are fit, and their numbers rise. -/
def FitTo (xs : List Info) (k : Nat) : Prop :=
  (∀ i x, i < k → xs[i]? = some x → okInfo x) ∧ ∀ i x y, i + 1 < k → xs[i]? = some x → xs[i + 1]? = some y → x.id < y.id

theorem FitTo.zero (xs : List Info) : FitTo xs 0 := ⟨fun _ _ h => by omega, fun _ _ _ h => by omega⟩
theorem FitTo.succ {xs : List Info} {k : Nat} {x : Info} (h : FitTo xs k) (hx : xs[k]? = some x) (ho : okInfo x) (hp : ∀ j y, k = j + 1 → xs[j]? = some y → y.id < x.id) : FitTo xs (k + 1) := by
  refine ⟨fun i y hi hy => ?_, fun i y z hi hy hz => ?_⟩
  · by_cases e : i = k
    · subst e; rw [hx] at hy; injection hy with hy; subst hy; exact ho
    · exact h.1 i y (by omega) hy
  · by_cases e : i + 1 = k
    · subst e; rw [hx] at hz; injection hz with hz; subst hz; exact hp i y rfl hy
    · exact h.2 i y z (by omega) hy hz
theorem FitTo.rises {xs : List Info} (h : FitTo xs xs.length) : ∀ (d i : Nat) (x y : Info), xs[i]? = some x → xs[i + 1 + d]? = some y → x.id < y.id := by
  intro d
  induction d with
  | zero =>
    intro i x y hx hy
    have := (List.getElem?_eq_some_iff.1 hy).1
    exact h.2 i x y (by omega) hx hy
  | succ d ih =>
    intro i x y hx hy
    have hl := (List.getElem?_eq_some_iff.1 hy).1
    obtain ⟨z, hz⟩ : ∃ z, xs[i + 1 + d]? = some z := ⟨_, List.getElem?_eq_getElem (by omega)⟩
    have h1 := ih i x z hx hz
    have h2 := h.2 (i + 1 + d) z y (by omega) hz (by rw [← hy]; congr 1)
    omega
theorem FitTo.known {xs : List Info} (h : FitTo xs xs.length) {i : Nat} {x : Info} (hx : xs[i]? = some x) : knownB x.res = true := by
  have := h.1 i x (List.getElem?_eq_some_iff.1 hx).1 hx
  unfold okInfo at this
  simp [knownB]
  omega

/-- The numbers of the blocks from k on, m of them, that are gone. -/
def idsFrom (xs : List Info) (gs : List Bool) : Nat → Nat → List Int
  | _, 0 => []
  | k, m + 1 => if gs.getD k false then (xs.getD k Info.zero).id :: idsFrom xs gs (k + 1) m else idsFrom xs gs (k + 1) m
theorem idsTo_from (xs : List Info) (gs : List Bool) (m : Nat) : ∀ k, idsTo xs gs (k + m) = idsTo xs gs k ++ idsFrom xs gs k m := by
  induction m with
  | zero => intro k; simp [idsFrom]
  | succ m ih =>
    intro k
    rw [show k + (m + 1) = (k + 1) + m by omega, ih (k + 1), idsFrom, idsTo]
    split <;> simp
theorem idsFrom_gt {xs : List Info} (h : FitTo xs xs.length) (gs : List Bool) {k : Nat} {x : Info} (hx : xs[k]? = some x) : ∀ (m j : Nat), k < j → j + m ≤ xs.length → ∀ i ∈ idsFrom xs gs j m, x.id < i := by
  intro m
  induction m with
  | zero => intro j _ _ i hi; simp [idsFrom] at hi
  | succ m ih =>
    intro j hj hl i hi
    have hrec := ih (j + 1) (by omega) (by omega)
    unfold idsFrom at hi
    split at hi
    · rcases List.mem_cons.1 hi with rfl | hi
      · obtain ⟨y, hy⟩ : ∃ y, xs[j]? = some y := ⟨_, List.getElem?_eq_getElem (by omega)⟩
        have := h.rises (j - k - 1) k x y hx (by rw [← hy]; congr 1; omega)
        simpa [List.getD, hy] using this
      · exact hrec i hi
    · exact hrec i hi
theorem idsFrom_le (xs : List Info) (gs : List Bool) (m : Nat) : ∀ k, (idsFrom xs gs k m).length ≤ m := by
  induction m with
  | zero => intro k; simp [idsFrom]
  | succ m ih =>
    intro k
    have := ih (k + 1)
    unfold idsFrom
    split
    · simp; omega
    · omega

/-- Those of the first k blocks that stay. -/
def keptTo (xs : List Info) (gs : List Bool) : Nat → List Info
  | 0 => []
  | k + 1 => if gs.getD k false then keptTo xs gs k else keptTo xs gs k ++ [xs.getD k Info.zero]
theorem keptTo_congr {xs : List Info} {gs gs' : List Bool} {k : Nat} (h : ∀ i, i < k → gs.getD i false = gs'.getD i false) : keptTo xs gs k = keptTo xs gs' k := by
  induction k with
  | zero => rfl
  | succ k ih => rw [keptTo, keptTo, h k (by omega), ih (fun i hi => h i (by omega))]
theorem keptTo_le (xs : List Info) (gs : List Bool) (k : Nat) : (keptTo xs gs k).length ≤ k := by
  induction k with
  | zero => simp [keptTo]
  | succ k ih =>
    unfold keptTo
    split
    · omega
    · simp; omega
theorem keptTo_mem {xs : List Info} {gs : List Bool} : ∀ {k : Nat} {x : Info}, k ≤ xs.length → x ∈ keptTo xs gs k → ∃ i, i < k ∧ xs[i]? = some x ∧ gs.getD i false = false := by
  intro k
  induction k with
  | zero => intro x _ h; simp [keptTo] at h
  | succ k ih =>
    intro x hk h
    unfold keptTo at h
    split at h
    · obtain ⟨i, h1, h2⟩ := ih (by omega) h
      exact ⟨i, by omega, h2⟩
    · rename_i hg
      rcases List.mem_append.1 h with h | h
      · obtain ⟨i, h1, h2⟩ := ih (by omega) h
        exact ⟨i, by omega, h2⟩
      · have hx : x = xs.getD k Info.zero := by simpa using h
        exact ⟨k, by omega, by rw [hx, List.getD, List.getElem?_eq_getElem (by omega)]; rfl, by simpa using hg⟩

/-- The bytes of blocks, summed as the program sums them. -/
def sumB (l : List Info) : Int := l.foldl (fun a x => wrap64 (a + x.bytes)) 0
theorem sumB_snoc (l : List Info) (x : Info) : sumB (l ++ [x]) = wrap64 (sumB l + x.bytes) := by simp [sumB]

theorem getD_set_of_ne {gs : List Bool} {i k : Nat} {b : Bool} (h : i ≠ k) : (gs.set k b).getD i false = gs.getD i false := by
  rw [List.getD, List.getD, List.getElem?_set_ne (Ne.symm h)]

/-- A pass: what is counted is what stays. -/
theorem dropTo_kept (lo : List Int) (xs : List Info) (gs : List Bool) (k : Nat) (hk : k ≤ gs.length) :
    (dropTo lo xs gs k).bytes = sumB (keptTo xs (dropTo lo xs gs k).gs k) ∧ (dropTo lo xs gs k).count = (keptTo xs (dropTo lo xs gs k).gs k).length := by
  induction k with
  | zero => simp [dropTo, keptTo, sumB]
  | succ k ih =>
    obtain ⟨ih1, ih2⟩ := ih (by omega)
    have hl := dropTo_len lo xs gs k
    by_cases hg : goesB lo (xs.getD k Info.zero) = true
    · rw [dropTo_goes rfl hg]
      dsimp only
      have e : keptTo xs ((dropTo lo xs gs k).gs.set k true) (k + 1) = keptTo xs (dropTo lo xs gs k).gs k := by
        rw [keptTo, if_pos (by simp [List.getD, show k < (dropTo lo xs gs k).gs.length by omega])]
        exact keptTo_congr fun i hi => getD_set_of_ne (by omega)
      rw [e]; exact ⟨ih1, ih2⟩
    · have hg' : goesB lo (xs.getD k Info.zero) = false := by simpa using hg
      by_cases hw : (dropTo lo xs gs k).gs.getD k false = true
      · rw [dropTo_was rfl hg' hw, keptTo, if_pos hw]; exact ⟨ih1, ih2⟩
      · have hw' : (dropTo lo xs gs k).gs.getD k false = false := by simpa using hw
        rw [dropTo_stays rfl hg' hw']
        dsimp only
        rw [keptTo, if_neg hw, sumB_snoc, ih1, ih2]
        simp
/-- A pass: a block is gone behind it just where it was gone, or lies below the lows. -/
theorem dropTo_gone (lo : List Int) (xs : List Info) (gs : List Bool) (k : Nat) (hk : k ≤ gs.length) (i : Nat) :
    (dropTo lo xs gs k).gs.getD i false = (gs.getD i false || (decide (i < k) && goesB lo (xs.getD i Info.zero))) := by
  induction k with
  | zero => simp [dropTo]
  | succ k ih =>
    have ih' := ih (by omega)
    have hl := dropTo_len lo xs gs k
    by_cases hg : goesB lo (xs.getD k Info.zero) = true
    · rw [dropTo_goes rfl hg]
      dsimp only
      by_cases e : i = k
      · subst e
        have h1 : ((dropTo lo xs gs i).gs.set i true).getD i false = true := by
          rw [List.getD, List.getElem?_set_self (by omega)]; rfl
        rw [h1, hg]; simp
      · rw [getD_set_of_ne e, ih']
        have : decide (i < k + 1) = decide (i < k) := by simp; omega
        rw [this]
    · have hg' : goesB lo (xs.getD k Info.zero) = false := by simpa using hg
      have key : (gs.getD i false || (decide (i < k + 1) && goesB lo (xs.getD i Info.zero))) = (gs.getD i false || (decide (i < k) && goesB lo (xs.getD i Info.zero))) := by
        by_cases e : i = k
        · subst e; rw [hg']; simp
        · have : decide (i < k + 1) = decide (i < k) := by simp; omega
          rw [this]
      rw [key, ← ih']
      by_cases hw : (dropTo lo xs gs k).gs.getD k false = true
      · rw [dropTo_was rfl hg' hw]
      · have hw' : (dropTo lo xs gs k).gs.getD k false = false := by simpa using hw
        rw [dropTo_stays rfl hg' hw']
/-- A pass in which all blocks are of known resolution: if there is no oldest one, none stays. -/
theorem dropTo_none {lo : List Int} {xs : List Info} {gs : List Bool} (hx : ∀ (i : Nat) (x : Info), xs[i]? = some x → knownB x.res = true) (k : Nat) (hk : k ≤ xs.length) (h : (dropTo lo xs gs k).oldest < 0) : (dropTo lo xs gs k).count = 0 := by
  induction k with
  | zero => rfl
  | succ k ih =>
    by_cases hg : goesB lo (xs.getD k Info.zero) = true
    · rw [dropTo_goes rfl hg] at h ⊢; exact ih (by omega) h
    · have hg' : goesB lo (xs.getD k Info.zero) = false := by simpa using hg
      by_cases hw : (dropTo lo xs gs k).gs.getD k false = true
      · rw [dropTo_was rfl hg' hw] at h ⊢; exact ih (by omega) h
      · have hw' : (dropTo lo xs gs k).gs.getD k false = false := by simpa using hw
        rw [dropTo_stays rfl hg' hw'] at h
        exfalso
        have hkn := hx k (xs.getD k Info.zero) (by rw [List.getD, List.getElem?_eq_getElem (by omega)]; rfl)
        dsimp only at h
        unfold nextOldest at h
        rw [hkn] at h
        by_cases ho : (dropTo lo xs gs k).oldest < 0
        · simp [ho] at h; omega
        · split at h <;> omega

theorem raiseLow_ge (lo : List Int) (b : Info) (r : Nat) : lo.getD r 0 ≤ (raiseLow lo b).getD r 0 ∨ lo.length ≤ r := by
  by_cases hr : r < lo.length
  · left
    unfold raiseLow
    by_cases e : b.res.toNat = r
    · subst e
      rw [List.getD, List.getD, List.getElem?_set_self hr, List.getElem?_eq_getElem hr]
      simp only [Option.getD_some]
      omega
    · rw [List.getD, List.getD, List.getElem?_set_ne e]
      omega
  · right; omega
theorem raiseLow_len (lo : List Int) (b : Info) : (raiseLow lo b).length = lo.length := by simp [raiseLow]

/-- What a sweep leaves: a last pass over the final lows, behind which there is no more to do; no low has fallen. -/
theorem sweepF_last (size : Int) (xs : List Info) : ∀ (f : Nat) (lo : List Int) (gs : List Bool), gs.length = xs.length → lo.length = 3 → left gs ≤ f →
    ∃ g0, (sweepF size xs f lo gs).2 = (dropTo (sweepF size xs f lo gs).1 xs g0 xs.length).gs ∧ g0.length = xs.length ∧ stopB size (dropTo (sweepF size xs f lo gs).1 xs g0 xs.length) = true ∧
      (sweepF size xs f lo gs).1.length = 3 ∧ ∀ r, r < 3 → lo.getD r 0 ≤ (sweepF size xs f lo gs).1.getD r 0 := by
  intro f
  induction f with
  | zero =>
    intro lo gs hl h3 hf
    by_cases hst : stopB size (dropTo lo xs gs xs.length) = true
    · rw [sweepF_stop hst]
      exact ⟨gs, rfl, hl, hst, h3, fun _ _ => Int.le_refl _⟩
    · obtain ⟨_, f', h0, _⟩ := sweep_goes hl hf (by simpa using hst)
      omega
  | succ f ih =>
    intro lo gs hl h3 hf
    by_cases hst : stopB size (dropTo lo xs gs xs.length) = true
    · rw [sweepF_stop hst]
      exact ⟨gs, rfl, hl, hst, h3, fun _ _ => Int.le_refl _⟩
    · obtain ⟨o, f', h0, _, ho, _, hlf, hs⟩ := sweep_goes (size := size) hl hf (by simpa using hst)
      obtain rfl : f' = f := by omega
      rw [hs]
      obtain ⟨g0, a1, a2, a3, a4, a5⟩ := ih (raiseLow lo (xs.getD o Info.zero)) ((dropTo lo xs gs xs.length).gs.set o true) (by rw [List.length_set, dropTo_len]; exact hl) (by rw [raiseLow_len]; exact h3) hlf
      refine ⟨g0, a1, a2, a3, a4, fun r hr => ?_⟩
      rcases raiseLow_ge lo (xs.getD o Info.zero) r with h | h
      · exact Int.le_trans h (a5 r hr)
      · omega

theorem lowInit_len (keep : List Int) (now width : Int) (low : List Int) (k : Nat) : (lowInit keep now width low k).length = 3 := by simp [lowInit]
theorem lowInit_get (keep : List Int) (now width : Int) (low : List Int) {r : Nat} (hr : r < 3) : (lowInit keep now width low 3).getD r 0 = max (low.getD r 0) (boundOf (keep.getD r 0) now width) := by
  have : r = 0 ∨ r = 1 ∨ r = 2 := by omega
  rcases this with rfl | rfl | rfl <;> simp [lowInit, List.range_succ]
theorem list3_ext {a b : List Int} (ha : a.length = 3) (hb : b.length = 3) (h : ∀ r, r < 3 → a.getD r 0 = b.getD r 0) : a = b := by
  match a, ha, b, hb with
  | [a0, a1, a2], _, [b0, b1, b2], _ =>
    have h0 := h 0 (by omega)
    have h1 := h 1 (by omega)
    have h2 := h 2 (by omega)
    simp at h0 h1 h2
    rw [h0, h1, h2]

/-- Lows that are above their bounds are not raised at the start. -/
theorem lowInit_same {keep : List Int} {now width : Int} {lo : List Int} (h3 : lo.length = 3) (h : ∀ r, r < 3 → boundOf (keep.getD r 0) now width ≤ lo.getD r 0) : lowInit keep now width lo 3 = lo := by
  refine list3_ext (lowInit_len _ _ _ _ _) h3 fun r hr => ?_
  rw [lowInit_get _ _ _ _ hr]
  have := h r hr
  omega

/-- A pass over blocks none of which goes: all stay. -/
theorem dropTo_all (lo : List Int) (ys : List Info) (h : ∀ y ∈ ys, goesB lo y = false) (k : Nat) (hk : k ≤ ys.length) :
    (dropTo lo ys (List.replicate ys.length false) k).gs = List.replicate ys.length false ∧ (dropTo lo ys (List.replicate ys.length false) k).bytes = sumB (ys.take k) ∧ (dropTo lo ys (List.replicate ys.length false) k).count = k := by
  induction k with
  | zero => simp [dropTo, sumB]
  | succ k ih =>
    obtain ⟨i1, i2, i3⟩ := ih (by omega)
    have hy : ys[k]? = some (ys.getD k Info.zero) := by rw [List.getD, List.getElem?_eq_getElem (by omega)]; rfl
    have hg := h _ (List.mem_of_getElem? hy)
    have hw : (dropTo lo ys (List.replicate ys.length false) k).gs.getD k false = false := by
      rw [i1]
      by_cases hk : k < ys.length <;> simp [List.getD, hk]
    rw [dropTo_stays rfl hg hw]
    dsimp only
    refine ⟨i1, ?_, by rw [i3]; simp⟩
    rw [i2, List.take_add_one, hy]
    exact (sumB_snoc _ _).symm

/-- The whole answer: the final lows, who is gone, and why there is no more to do. -/
theorem decide_last (keep : List Int) (size now width : Int) (low : List Int) (xs : List Info) :
    ∃ lo gs g0, decideOf keep size now width low xs = (lo, idsTo xs gs xs.length) ∧ gs = (dropTo lo xs g0 xs.length).gs ∧ g0.length = xs.length ∧ stopB size (dropTo lo xs g0 xs.length) = true ∧ lo.length = 3 ∧
      ∀ r, r < 3 → max (low.getD r 0) (boundOf (keep.getD r 0) now width) ≤ lo.getD r 0 := by
  obtain ⟨g0, a1, a2, a3, a4, a5⟩ := sweepF_last size xs xs.length (lowInit keep now width low 3) (List.replicate xs.length false) (by simp) (lowInit_len _ _ _ _ _) (by rw [left_replicate]; exact Nat.le_refl _)
  refine ⟨_, _, g0, rfl, a1, a2, a3, a4, fun r hr => ?_⟩
  have := a5 r hr
  rw [lowInit_get _ _ _ _ hr] at this
  exact this

/-- Once decided, there is nothing more to decide. -/
theorem decide_again {keep : List Int} {size now width : Int} {xs : List Info} (hfit : FitTo xs xs.length) {lo : List Int} {gs g0 : List Bool} (hgs : gs = (dropTo lo xs g0 xs.length).gs) (hg0 : g0.length = xs.length)
    (hst : stopB size (dropTo lo xs g0 xs.length) = true) (h3 : lo.length = 3) (hb : ∀ r, r < 3 → boundOf (keep.getD r 0) now width ≤ lo.getD r 0) :
    decideOf keep size now width lo (keptTo xs gs xs.length) = (lo, []) := by
  obtain ⟨ys, hys⟩ : ∃ ys, keptTo xs gs xs.length = ys := ⟨_, rfl⟩
  have hkp := dropTo_kept lo xs g0 xs.length (by omega)
  rw [← hgs, hys] at hkp
  have hng : ∀ y ∈ ys, goesB lo y = false := by
    intro y hy
    rw [← hys] at hy
    obtain ⟨i, h1, h2, h4⟩ := keptTo_mem (Nat.le_refl _) hy
    rw [hgs, dropTo_gone lo xs g0 xs.length (by omega) i] at h4
    simp only [Bool.or_eq_false_iff, Bool.and_eq_false_iff, decide_eq_false_iff_not] at h4
    rcases h4.2 with h | h
    · omega
    · rw [List.getD, h2] at h; exact h
  obtain ⟨b1, b2, b3⟩ := dropTo_all lo ys hng ys.length (Nat.le_refl _)
  rw [List.take_of_length_le (Nat.le_refl _)] at b2
  have hst2 : stopB size (dropTo lo ys (List.replicate ys.length false) ys.length) = true := by
    simp only [stopB, Bool.or_eq_true, decide_eq_true_eq] at hst ⊢
    rw [b2, b3]
    rw [hkp.1, hkp.2] at hst
    rcases hst with ((h | h) | h) | h
    · exact .inl (.inl (.inl h))
    · exact .inl (.inl (.inr h))
    · exact .inl (.inr h)
    · have := dropTo_none (fun i x hx => hfit.known hx) xs.length (Nat.le_refl _) h
      rw [hkp.2] at this
      exact .inl (.inr (by omega))
  rw [hys]
  unfold decideOf
  rw [lowInit_same h3 hb, sweepF_stop hst2, b1]
  have hid : ∀ k, idsTo ys (List.replicate ys.length false) k = [] := by
    intro k
    induction k with
    | zero => rfl
    | succ k ih =>
      rw [idsTo, ih, if_neg]
      by_cases hk : k < ys.length <;> simp [List.getD, hk]
  simp only [hid]
end Go.Proofs.Ytfokjcoiehgbpaa
