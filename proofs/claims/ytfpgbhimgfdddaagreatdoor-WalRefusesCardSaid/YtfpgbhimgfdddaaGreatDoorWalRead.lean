/- The plain law of layer 16 (wal): what a segment's text reads as. No program in sight. -/
import Derived.Test.YtfpgbhimgfdddaaGreatDoorWalPlain3
set_option linter.unusedVariables false
set_option linter.unusedSimpArgs false
namespace Go.Proofs.YtfpgbhimgfdddaaGreatDoor

/-- The payloads from a place on, the place where they end, the error. -/
def readsT (s : Txt) : Nat → Nat → List Txt × Nat × Nat
  | 0, i => ([], i, 0)
  | f + 1, i => if i < s.length then (if (unframeT s i).2.2 ≠ 0 then ([], i, (unframeT s i).2.2) else
      ((unframeT s i).1 :: (readsT s f (unframeT s i).2.1).1, (readsT s f (unframeT s i).2.1).2)) else ([], i, 0)
def rdT (s : Txt) : List Txt × Nat × Nat := readsT s s.length 0
theorem unframe_next {s : Txt} {i : Nat} (h : (unframeT s i).2.2 = 0) : i < (unframeT s i).2.1 ∧ (unframeT s i).2.1 ≤ s.length ∧ (unframeT s i).1.length ≤ 1048576 := by
  unfold unframeT at h ⊢
  split at h
  · cases h
  · rename_i h1
    rw [if_neg h1]
    split at h
    · cases h
    · rename_i h2
      rw [if_neg h2]
      split at h
      · cases h
      · rename_i h3
        rw [if_neg h3]
        split at h
        · cases h
        · rename_i h4
          rw [if_neg h4]
          split at h
          · cases h
          · rename_i h5
            rw [if_neg h5]
            rw [List.length_drop] at h3
            refine ⟨by dsimp only; omega, by dsimp only; omega, ?_⟩
            dsimp only
            rw [List.length_take]
            omega
theorem unframe_code (s : Txt) (i : Nat) : (unframeT s i).2.2 = 0 ∨ (unframeT s i).2.2 = 20 ∨ (unframeT s i).2.2 = 21 ∨ (unframeT s i).2.2 = 22 := by
  unfold unframeT
  repeat' split
  all_goals simp
theorem readsT_end {s : Txt} {f i : Nat} (h : ¬ i < s.length) : readsT s f i = ([], i, 0) := by
  cases f with
  | zero => rfl
  | succ f => rw [readsT, if_neg h]
theorem readsT_bad {s : Txt} {f i : Nat} (h : i < s.length) (he : (unframeT s i).2.2 ≠ 0) : readsT s (f + 1) i = ([], i, (unframeT s i).2.2) := by
  rw [readsT, if_pos h, if_pos he]
theorem readsT_good {s : Txt} {f i : Nat} (h : i < s.length) (he : (unframeT s i).2.2 = 0) : readsT s (f + 1) i = ((unframeT s i).1 :: (readsT s f (unframeT s i).2.1).1, (readsT s f (unframeT s i).2.1).2) := by
  rw [readsT, if_pos h, if_neg (by simpa using he)]
/-- Frames, one behind the other. -/
theorem readsT_frames (ps : List Txt) (r : Txt) (hp : ∀ p ∈ ps, p ≠ [] ∧ p.length ≤ 1048576) : ∀ (m k f : Nat), k + m = ps.length → (framesT ps ++ r).length ≤ (framesT (ps.take k)).length + f →
    readsT (framesT ps ++ r) f (framesT (ps.take k)).length = (ps.drop k ++ (readsT (framesT ps ++ r) (f - m) (framesT ps).length).1, (readsT (framesT ps ++ r) (f - m) (framesT ps).length).2)
  | 0, k, f, hk, hf => by
    rw [Nat.sub_zero, List.drop_of_length_le (by omega), List.take_of_length_le (by omega)]
    rfl
  | m + 1, k, f, hk, hf => by
    have hk' : k < ps.length := by omega
    have hlt := framesT_lt hk'
    have hpk := hp _ (List.getElem_mem hk')
    have hu := unframe_nth (ps := ps) (k := k) (List.getElem?_eq_getElem hk') hpk.1 hpk.2 r
    have hll : (framesT (ps.take k)).length < (framesT ps ++ r).length := by rw [List.length_append]; omega
    obtain ⟨f', rfl⟩ : ∃ f', f = f' + 1 := ⟨f - 1, by omega⟩
    rw [readsT_good hll (by rw [hu]), hu]
    have hnx : (framesT (ps.take (k + 1))).length = (framesT (ps.take k)).length + 9 + (ps[k]).length := framesT_take (List.getElem?_eq_getElem hk')
    have ih := readsT_frames ps r hp m (k + 1) f' (by omega) (by omega)
    simp only
    rw [ih, List.drop_eq_getElem_cons hk', show f' + 1 - (m + 1) = f' - m by omega]
    rfl
theorem rdT_frames (ps : List Txt) (hp : ∀ p ∈ ps, p ≠ [] ∧ p.length ≤ 1048576) : rdT (framesT ps) = (ps, (framesT ps).length, 0) := by
  have h := readsT_frames ps [] hp ps.length 0 (framesT ps).length (by omega) (by simp)
  have e0 : (framesT (ps.take 0)).length = 0 := rfl
  rw [List.append_nil, e0] at h
  unfold rdT
  rw [h, readsT_end (Nat.lt_irrefl _)]
  simp
/-- A text whose first frame is spoilt. -/
theorem rdT_bad {s : Txt} (h0 : s ≠ []) {e : Nat} (he : (unframeT s 0).2.2 = e) (h : e ≠ 0) : rdT s = ([], 0, e) := by
  have hl : 0 < s.length := List.length_pos_iff.2 h0
  unfold rdT
  obtain ⟨f, hf⟩ : ∃ f, s.length = f + 1 := ⟨s.length - 1, by omega⟩
  rw [hf, readsT_bad hl (by rw [he]; exact h), he]
/-- What is read: how much it may be. -/
theorem readsT_le {s : Txt} : ∀ (f i : Nat), i ≤ s.length → i ≤ (readsT s f i).2.1 ∧ (readsT s f i).2.1 ≤ s.length ∧ (readsT s f i).1.length + i ≤ (readsT s f i).2.1
  | 0, i, h => ⟨Nat.le_refl _, h, by simp [readsT]⟩
  | f + 1, i, h => by
    by_cases hi : i < s.length
    · by_cases he : (unframeT s i).2.2 = 0
      · have hn := unframe_next he
        have ih := readsT_le f (unframeT s i).2.1 hn.2.1
        rw [readsT_good hi he]
        refine ⟨by dsimp only; omega, ih.2.1, ?_⟩
        dsimp only
        rw [List.length_cons]
        omega
      · rw [readsT_bad hi he]
        exact ⟨Nat.le_refl _, h, by simp⟩
    · rw [readsT_end hi]
      exact ⟨Nat.le_refl _, h, by simp⟩
theorem readsT_code {s : Txt} : ∀ (f i : Nat), (readsT s f i).2.2 = 0 ∨ (readsT s f i).2.2 = 20 ∨ (readsT s f i).2.2 = 21 ∨ (readsT s f i).2.2 = 22
  | 0, i => .inl rfl
  | f + 1, i => by
    by_cases hi : i < s.length
    · by_cases he : (unframeT s i).2.2 = 0
      · rw [readsT_good hi he]
        exact readsT_code f _
      · rw [readsT_bad hi he]
        exact unframe_code s i
    · rw [readsT_end hi]
      exact .inl rfl
end Go.Proofs.YtfpgbhimgfdddaaGreatDoor
