/- The plain law of StoreOne (layer 20): turns of a text, one by one. No program in sight. -/
import Derived.Test.YtfpgbhimgfdddaaGreatDoorStk35
import Derived.Test.YtfpgbhimgfdddaaGreatDoorStk02
import Derived.Test.YtfpgbhimgfdddaaGreatDoorStk28
import Derived.Test.YtfpgbhimgfdddaaGreatDoorStk30
set_option linter.unusedVariables false
set_option linter.unusedSimpArgs false
namespace Go.Proofs.YtfpgbhimgfdddaaGreatDoor
open Go.RowKit
/-- A turn's three cells. -/
def encTrn (y : Trn) : List Value := [.int .i64 y.at_, .int .i64 y.out, txtV y.t]
def Turns (w : World) (A : Option Addr) (n : Nat) (l : List Trn) : Prop := Elems w w.heap.size 3 encTrn A n l
theorem Turns.at_ {w : World} {A : Option Addr} {n : Nat} {l : List Trn} (h : Turns w A n l) {i : Nat} {y : Trn} (hy : l[i]? = some y) : ∃ b off, A = some ⟨b, off, none⟩ ∧ b < w.heap.size ∧ ∀ j u, (encTrn y)[j]? = some u → w.cell? ⟨b, off + i * 3 + j, none⟩ = some u := by
  obtain ⟨h1, h2⟩ := h
  have hi : i < n := by have := (List.getElem?_eq_some_iff.1 hy).1; omega
  obtain ⟨b, off, rfl, hb, hc⟩ := h2 (by omega)
  exact ⟨b, off, rfl, hb, fun j u hu => hc i y hy j u hu⟩
theorem Turns.below {w w' : World} {A : Option Addr} {n : Nat} {l : List Trn} (h : Turns w A n l) (hb : Below w.heap.size w w') : Turns w' A n l := (Elems.below h hb).more hb.size
theorem turnsT_app (s : Txt) (a b : List Trn) : turnsT s (a ++ b) = turnsT (turnsT s a) b := by
  induction a generalizing s with
  | nil => rfl
  | cons x a ih => simp only [List.cons_append, turnsT]; exact ih _
theorem turnsT_step (s : Txt) (l : List Trn) (k : Nat) (y : Trn) (h : l[k]? = some y) : turnsT s (l.take (k + 1)) = turnT (turnsT s (l.take k)) y.at_ y.out y.t := by
  have e : l.take (k + 1) = l.take k ++ [y] := by rw [List.take_add_one, h]; rfl
  rw [e, turnsT_app]
  rfl
theorem Trn.len_take (l : List Trn) (k : Nat) : Trn.len (l.take k) ≤ Trn.len l := by
  unfold Trn.len
  induction l generalizing k with
  | nil => simp
  | cons x l ih =>
    cases k with
    | zero => simp
    | succ k =>
      have := ih k
      simp only [List.take_succ_cons, List.map_cons, List.sum_cons]
      omega
theorem turnsT_len (s : Txt) (l : List Trn) : (turnsT s l).length ≤ s.length + Trn.len l := by
  induction l generalizing s with
  | nil => simp [turnsT, Trn.len]
  | cons x l ih =>
    have h1 := ih (turnT s x.at_ x.out x.t)
    have h2 := turnT_len s x.at_ x.out x.t
    unfold Trn.len at *
    simp only [turnsT, List.map_cons, List.sum_cons]
    omega
theorem Trn.mem_len {l : List Trn} {y : Trn} (h : y ∈ l) : y.t.length ≤ Trn.len l := by
  unfold Trn.len
  induction l with
  | nil => cases h
  | cons x l ih =>
    simp only [List.map_cons, List.sum_cons]
    rcases List.mem_cons.1 h with rfl | h
    · omega
    · have := ih h; omega
/-- A turn of a text's bytes. -/
theorem turn_bytes (S I : ByteArray) (at_ out : Int) (a e : Nat) (ha : turnA S.data.toList at_ = a) (he : turnE S.data.toList at_ out = e) :
    (S.extract 0 a ++ I ++ S.extract e S.size).data.toList = turnT S.data.toList at_ out I.data.toList := by
  have h1 : (S.extract 0 a).data.toList = S.data.toList.take a := take_bytes S a
  have h2 : (S.extract e S.size).data.toList = S.data.toList.drop e := drop_bytes S e
  unfold turnT
  rw [ha, he]
  simp only [ByteArray.data_append, Array.toList_append, h1, h2]
theorem blocksI_i64 (body : List UInt8) : ∀ (n : Nat) (s : Nat × Nat), ∀ x ∈ (blocksI body n s).1, ∀ v ∈ x.nums, i64 v
  | 0, s => by intro x h; rw [blocksI_zero] at h; cases h
  | n + 1, s => by
    intro x h v hv
    by_cases h0 : s.2 = 0
    · rw [blocksI_on h0] at h
      rcases List.mem_cons.1 h with rfl | h
      · exact info5_i64 _ _ v hv
      · exact blocksI_i64 body n _ x h v hv
    · rw [blocksI_off h0] at h
      cases h
theorem zero_small : Man.zero.small := by
  intro v hv
  simp [Man.zero, Man.nums, Man.tens] at hv
  subst hv
  decide
/-- What is read is a manifest of numbers of 64 bits. -/
theorem decM_small {s : List UInt8} (h : (decM s).2 = 0) : (decM s).1.small := by
  have hg := (decM_good h).1
  unfold decM at h hg ⊢
  cases hu : unsealT s with
  | error e =>
    simp only
    exact zero_small
  | ok body =>
    rw [hu] at hg
    simp only at hg ⊢
    split
    · rename_i hc
      rw [if_pos hc] at hg
      simp only at hg ⊢
      obtain ⟨t, s0, h10⟩ : ∃ t s0, takesI body 10 (0, 0) = (t, s0) := ⟨_, _, rfl⟩
      have hr := readM_steps h10 rfl rfl rfl
      rw [hr] at hg ⊢
      have ht : t = (takesI body 10 (0, 0)).1 := by rw [h10]
      refine small_of (by rw [ht]; exact takesI_len _ _ _) (by rw [ht]; exact takesI_i64 _ _ _) (takeI_i64 _ _) (takeI_i64 _ _) (blocksI_i64 _ _ _) ?_
      have := fit_len hg
      exact Nat.le_trans this (by decide)
    · exact zero_small
end Go.Proofs.YtfpgbhimgfdddaaGreatDoor
