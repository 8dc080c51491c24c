/- The plain law behind RetainBounds. No program in sight. -/
import Derived.Test.YtfokjcoiehgbpaaRetPlain2
namespace Go.Proofs.Ytfokjcoiehgbpaa
open Go.RowKit

/-- Every block that is gone lies below the lows. -/
def GoneLow (lo : List Int) (xs : List Info) (gs : List Bool) : Prop := ∀ (i : Nat) (x : Info), xs[i]? = some x → gs.getD i false = true → x.to_ ≤ lo.getD x.res.toNat 0

theorem GoneLow.pass {lo : List Int} {xs : List Info} {gs : List Bool} (h : GoneLow lo xs gs) (hl : gs.length = xs.length) : GoneLow lo xs (dropTo lo xs gs xs.length).gs := by
  intro i x hx hg
  rw [dropTo_gone lo xs gs xs.length (by omega) i] at hg
  simp only [Bool.or_eq_true, Bool.and_eq_true] at hg
  rcases hg with hg | ⟨_, hg⟩
  · exact h i x hx hg
  · rw [List.getD, hx] at hg
    simp only [Option.getD_some, goesB, Bool.and_eq_true, decide_eq_true_eq] at hg
    exact hg.2

theorem GoneLow.raise {lo : List Int} {xs : List Info} {gs : List Bool} (hk : ∀ (i : Nat) (x : Info), xs[i]? = some x → knownB x.res = true) (h3 : lo.length = 3) (h : GoneLow lo xs gs) {o : Nat} (ho : o < xs.length) :
    GoneLow (raiseLow lo (xs.getD o Info.zero)) xs (gs.set o true) := by
  intro i x hx hg
  have hkx := known_yes (hk i x hx)
  by_cases e : i = o
  · subst e
    have hxD : xs.getD i Info.zero = x := by simp [List.getD, hx]
    rw [hxD, raiseLow, List.getD, List.getElem?_set_self (by omega)]
    simp only [Option.getD_some]
    omega
  · rw [getD_set_of_ne e] at hg
    have h1 := h i x hx hg
    rcases raiseLow_ge lo (xs.getD o Info.zero) x.res.toNat with h2 | h2
    · omega
    · omega

theorem sweepF_gone (size : Int) (xs : List Info) (hk : ∀ (i : Nat) (x : Info), xs[i]? = some x → knownB x.res = true) : ∀ (f : Nat) (lo : List Int) (gs : List Bool), gs.length = xs.length → lo.length = 3 → left gs ≤ f → GoneLow lo xs gs →
    GoneLow (sweepF size xs f lo gs).1 xs (sweepF size xs f lo gs).2 := by
  intro f
  induction f with
  | zero =>
    intro lo gs hl h3 hf hg
    exact hg.pass hl
  | succ f ih =>
    intro lo gs hl h3 hf hg
    by_cases hst : stopB size (dropTo lo xs gs xs.length) = true
    · rw [sweepF_stop hst]
      exact hg.pass hl
    · obtain ⟨o, f', h0, _, ho, _, hlf, hs⟩ := sweep_goes (size := size) hl hf (by simpa using hst)
      obtain rfl : f' = f := by omega
      rw [hs]
      exact ih _ _ (by rw [List.length_set, dropTo_len]; exact hl) (by rw [raiseLow_len]; exact h3) hlf ((hg.pass hl).raise hk h3 ho)

/-- What RetainBounds asks. -/
theorem bounds_facts (keep : List Int) (size now width : Int) (low : List Int) {xs : List Info} (hfit : FitTo xs xs.length) :
    ∃ lo gs lo0 gs0, decideOf keep size now width low xs = (lo, idsTo xs gs xs.length) ∧ lo0 = lowInit keep now width low 3 ∧ lo.length = 3 ∧
      (∀ (i : Nat) (x : Info), xs[i]? = some x → gs.getD i false = decide (x.to_ ≤ lo.getD x.res.toNat 0)) ∧
      (∀ (i : Nat) (x : Info), xs[i]? = some x → gs0.getD i false = decide (x.to_ ≤ lo0.getD x.res.toNat 0)) ∧
      (∀ r, r < 3 → lo0.getD r 0 ≤ lo.getD r 0) ∧
      (size ≤ 0 ∨ sumB (keptTo xs gs0 xs.length) ≤ size → lo = lo0) ∧
      (size ≤ 0 ∨ sumB (keptTo xs gs xs.length) ≤ size ∨ (keptTo xs gs xs.length).length ≤ 1) := by
  have hk : ∀ (i : Nat) (x : Info), xs[i]? = some x → knownB x.res = true := fun i x hx => hfit.known hx
  obtain ⟨lo0, hlo0⟩ : ∃ l, l = lowInit keep now width low 3 := ⟨_, rfl⟩
  have h30 : lo0.length = 3 := by rw [hlo0]; exact lowInit_len _ _ _ _ _
  obtain ⟨g0, a1, a2, a3, a4, a5⟩ := sweepF_last size xs xs.length lo0 (List.replicate xs.length false) (by simp) h30 (by rw [left_replicate]; exact Nat.le_refl _)
  have hgl := sweepF_gone size xs hk xs.length lo0 (List.replicate xs.length false) (by simp) h30 (by rw [left_replicate]; exact Nat.le_refl _) (fun i x hx hg => by
    rw [List.getD, List.getElem?_replicate] at hg
    split at hg <;> simp at hg)
  have hstop0 : stopB size (dropTo lo0 xs (List.replicate xs.length false) xs.length) = true → (sweepF size xs xs.length lo0 (List.replicate xs.length false)).1 = lo0 := fun h => by rw [sweepF_stop h]
  have hdec : decideOf keep size now width low xs = ((sweepF size xs xs.length lo0 (List.replicate xs.length false)).1, idsTo xs (sweepF size xs xs.length lo0 (List.replicate xs.length false)).2 xs.length) := by
    rw [hlo0]; rfl
  obtain ⟨r, hr⟩ : ∃ r, sweepF size xs xs.length lo0 (List.replicate xs.length false) = r := ⟨_, rfl⟩
  rw [hr] at a1 a3 a4 a5 hgl hstop0 hdec
  obtain ⟨lo, gs⟩ := r
  dsimp only at a1 a3 a4 a5 hgl hstop0 hdec
  have hkp0 := dropTo_kept lo0 xs (List.replicate xs.length false) xs.length (by simp)
  have hkp := dropTo_kept lo xs g0 xs.length (by omega)
  rw [← a1] at hkp
  refine ⟨lo, gs, lo0, (dropTo lo0 xs (List.replicate xs.length false) xs.length).gs, hdec, hlo0, a4, ?_, ?_, a5, ?_, ?_⟩
  · intro i x hx
    have hil := (List.getElem?_eq_some_iff.1 hx).1
    by_cases hle : x.to_ ≤ lo.getD x.res.toNat 0
    · have hxD : xs.getD i Info.zero = x := by simp [List.getD, hx]
      rw [a1, dropTo_gone lo xs g0 xs.length (by omega) i, hxD]
      simp only [goesB, hk i x hx, hle, hil, decide_true, Bool.and_self, Bool.or_true]
    · rw [decide_eq_false hle]
      cases hg : gs.getD i false with
      | false => rfl
      | true => exact absurd (hgl i x hx hg) hle
  · intro i x hx
    have hil := (List.getElem?_eq_some_iff.1 hx).1
    have hxD : xs.getD i Info.zero = x := by simp [List.getD, hx]
    have hrep : (List.replicate xs.length false).getD i false = false := by simp [List.getD, hil]
    rw [dropTo_gone lo0 xs _ xs.length (by simp) i, hxD, hrep]
    simp only [goesB, hk i x hx, hil, decide_true, Bool.true_and, Bool.false_or]
  · intro h
    refine hstop0 ?_
    simp only [stopB, Bool.or_eq_true, decide_eq_true_eq]
    rw [hkp0.1]
    rcases h with h | h
    · exact .inl (.inl (.inl h))
    · exact .inl (.inl (.inr h))
  · simp only [stopB, Bool.or_eq_true, decide_eq_true_eq] at a3
    rcases a3 with ((h | h) | h) | h
    · exact .inl h
    · rw [hkp.1] at h; exact .inr (.inl h)
    · rw [hkp.2] at h; exact .inr (.inr (by omega))
    · have := dropTo_none hk xs.length (Nat.le_refl _) h
      rw [hkp.2] at this
      exact .inr (.inr (by omega))
end Go.Proofs.Ytfokjcoiehgbpaa
