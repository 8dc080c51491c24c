/- The walk of layer 20 (store): Decode; what it keeps in its hands. -/
import Derived.Test.YtfpgbhimgfdddaaGreatDoorStoWalksH
import Derived.Test.YtfpgbhimgfdddaaGreatDoorStoWalksI
set_option linter.unusedVariables false
set_option linter.unusedSimpArgs false
namespace Go.Proofs.YtfpgbhimgfdddaaGreatDoor
open Go.RowKit Go.Shelf Go.Sort

theorem takesI_snoc (body : List UInt8) : ∀ (n : Nat) (s : Nat × Nat), takesI body (n + 1) s = ((takesI body n s).1 ++ [(takeI body (takesI body n s).2).1], (takeI body (takesI body n s).2).2)
  | 0, s => rfl
  | n + 1, s => by
    have ih := takesI_snoc body n (takeI body s).2
    rw [takesI, ih, takesI]
    rfl
theorem takesI_len (body : List UInt8) : ∀ (n : Nat) (s : Nat × Nat), (takesI body n s).1.length = n
  | 0, _ => rfl
  | n + 1, s => by rw [takesI]; simp [takesI_len body n]
theorem unseal_len {s body : List UInt8} (h : unsealT s = .ok body) : body.length ≤ s.length := by
  unfold unsealT at h
  split at h
  · cases h
  · split at h
    · injection h with h
      subst h
      simp
    · cases h
/-- The ten numbers so far, with zeros behind. -/
def padT (t : List Int) : List Int := t ++ List.replicate (10 - t.length) 0
def tenMan (t : List Int) : Man := manOf (padT t) 0 0 []
theorem tenMan_set (t : List Int) (x : Int) (v : Value) (h : t.length < 10) : (manV (tenMan t) v).setIfInBounds (tenK t.length) (.int .i64 x) = manV (tenMan (t ++ [x])) v := by
  match t, h with
  | [], _ => rfl
  | [_], _ => rfl
  | [_, _], _ => rfl
  | [_, _, _], _ => rfl
  | [_, _, _, _], _ => rfl
  | [_, _, _, _, _], _ => rfl
  | [_, _, _, _, _, _], _ => rfl
  | [_, _, _, _, _, _, _], _ => rfl
  | [_, _, _, _, _, _, _, _], _ => rfl
  | [_, _, _, _, _, _, _, _, _], _ => rfl
  | _ :: _ :: _ :: _ :: _ :: _ :: _ :: _ :: _ :: _ :: t, h => exact absurd h (by simp)
theorem tenK_lt : ∀ i, tenK i < 13
  | 0 => by decide
  | 1 => by decide
  | 2 => by decide
  | 3 => by decide
  | 4 => by decide
  | 5 => by decide
  | 6 => by decide
  | 7 => by decide
  | 8 => by decide
  | 9 => by decide
  | i + 10 => by show (#[0, 7, 10, 1, 8, 11, 2, 9, 12, 6] : Array Nat).getD (i + 10) 0 < 13; simp
/-- What Decode keeps in its hands. -/
structure DecAt (w : World) (S g0 c0 : Nat) (body : ByteArray) (s : Nat × Nat) (m : Man) (v : Value) (wr : World) : Prop where
  below : Below w.heap.size w wr
  tk : TakeAt (S + 1) S (S + 2) body s wr
  box : Blk wr (S + 3) 25 (manV m v)
  res : Blk wr w.heap.size 25 (manV .zero (.slice none 0 0))
  o0 : wr.ownsRow (S + 4) 114 1 (.slice (some ⟨g0, 0, none⟩) 10 c0) 10 (tenP (S + 3))
  hS : w.heap.size < S
theorem DecAt.take {w : World} {S g0 c0 : Nat} {body : ByteArray} {s s' : Nat × Nat} {m : Man} {v : Value} {wr w' : World} (h : DecAt w S g0 c0 body s m v wr) (ht : TakeAt (S + 1) S (S + 2) body s' w') (hk : Kept wr.heap.size [S + 1, S + 2] wr w') : DecAt w S g0 c0 body s' m v w' := by
  have hS := h.hS
  refine ⟨h.below.trans ((hk.mono (Nat.le_refl _) (fun k _ hm => hm)).mono (B' := w.heap.size) (ex' := [S + 1, S + 2]) h.below.size (fun k _ hm => hm) |>.below (by simp; omega)), ht, ?_, ?_, ownsRow.same h.o0 fun k hk2 => ?_, hS⟩
  · exact h.box.kept hk h.box.lt (by simp)
  · exact h.res.kept hk h.res.lt (by simp; omega)
  · have := World.ownsRow.lt h.o0 k hk2
    exact hk.block k this.2 (by simp; omega)
theorem DecAt.set {w : World} {S g0 c0 : Nat} {body : ByteArray} {s : Nat × Nat} {m m' : Man} {v v' : Value} {wr : World} (h : DecAt w S g0 c0 body s m v wr) (k : Nat) (u : Value) (hm : (manV m v).setIfInBounds k u = manV m' v') : DecAt w S g0 c0 body s m' v' (wr.setCell ⟨S + 3, k, none⟩ u) := by
  have hS := h.hS
  refine ⟨h.below.setCell (by simp; omega) u, ⟨?_, ?_, ?_⟩, ?_, ?_, ownsRow.same h.o0 fun j hj => ?_, hS⟩
  · exact Blk.far h.tk.e (by simp) u
  · exact Blk.far h.tk.b (by simp) u
  · exact Blk.far h.tk.a (by simp) u
  · rw [← hm]; exact h.box.set_ k u
  · exact Blk.far h.res (by simp; omega) u
  · have := World.ownsRow.lt h.o0 j hj
    exact Below.heap_setCell _ _ _ j (by simp; omega)
theorem fill13 {W : World} {b : Nat} {m m' : Man} {v v' : Value} (h : Blk W b 25 (manV m v)) :
    Blk (((((((((((((W.setCell ⟨b, 0, none⟩ (.int .i64 m'.w0)).setCell ⟨b, 1, none⟩ (.int .i64 m'.w1)).setCell ⟨b, 2, none⟩ (.int .i64 m'.w2)).setCell ⟨b, 3, none⟩ (.int .i64 m'.next)).setCell ⟨b, 4, none⟩ (.int .i64 m'.log)).setCell ⟨b, 5, none⟩ v').setCell ⟨b, 6, none⟩ (.int .i64 m'.cut)).setCell ⟨b, 7, none⟩ (.int .i64 m'.r0)).setCell ⟨b, 8, none⟩ (.int .i64 m'.r1)).setCell ⟨b, 9, none⟩ (.int .i64 m'.r2)).setCell ⟨b, 10, none⟩ (.int .i64 m'.l0)).setCell ⟨b, 11, none⟩ (.int .i64 m'.l1)).setCell ⟨b, 12, none⟩ (.int .i64 m'.l2)) b 25 (manV m' v') ∧ Below b W (((((((((((((W.setCell ⟨b, 0, none⟩ (.int .i64 m'.w0)).setCell ⟨b, 1, none⟩ (.int .i64 m'.w1)).setCell ⟨b, 2, none⟩ (.int .i64 m'.w2)).setCell ⟨b, 3, none⟩ (.int .i64 m'.next)).setCell ⟨b, 4, none⟩ (.int .i64 m'.log)).setCell ⟨b, 5, none⟩ v').setCell ⟨b, 6, none⟩ (.int .i64 m'.cut)).setCell ⟨b, 7, none⟩ (.int .i64 m'.r0)).setCell ⟨b, 8, none⟩ (.int .i64 m'.r1)).setCell ⟨b, 9, none⟩ (.int .i64 m'.r2)).setCell ⟨b, 10, none⟩ (.int .i64 m'.l0)).setCell ⟨b, 11, none⟩ (.int .i64 m'.l1)).setCell ⟨b, 12, none⟩ (.int .i64 m'.l2)) :=
by
  have h0 : Blk (W.setCell ⟨b, 0, none⟩ (.int .i64 m'.w0)) b 25 (manV ⟨m'.w0, m.w1, m.w2, m.next, m.log, m'.blocks, m.cut, m.r0, m.r1, m.r2, m.l0, m.l1, m.l2⟩ v) := Blk.set_ h 0 (.int .i64 m'.w0)
  have h1 : Blk ((W.setCell ⟨b, 0, none⟩ (.int .i64 m'.w0)).setCell ⟨b, 1, none⟩ (.int .i64 m'.w1)) b 25 (manV ⟨m'.w0, m'.w1, m.w2, m.next, m.log, m'.blocks, m.cut, m.r0, m.r1, m.r2, m.l0, m.l1, m.l2⟩ v) := Blk.set_ h0 1 (.int .i64 m'.w1)
  have h2 : Blk (((W.setCell ⟨b, 0, none⟩ (.int .i64 m'.w0)).setCell ⟨b, 1, none⟩ (.int .i64 m'.w1)).setCell ⟨b, 2, none⟩ (.int .i64 m'.w2)) b 25 (manV ⟨m'.w0, m'.w1, m'.w2, m.next, m.log, m'.blocks, m.cut, m.r0, m.r1, m.r2, m.l0, m.l1, m.l2⟩ v) := Blk.set_ h1 2 (.int .i64 m'.w2)
  have h3 : Blk ((((W.setCell ⟨b, 0, none⟩ (.int .i64 m'.w0)).setCell ⟨b, 1, none⟩ (.int .i64 m'.w1)).setCell ⟨b, 2, none⟩ (.int .i64 m'.w2)).setCell ⟨b, 3, none⟩ (.int .i64 m'.next)) b 25 (manV ⟨m'.w0, m'.w1, m'.w2, m'.next, m.log, m'.blocks, m.cut, m.r0, m.r1, m.r2, m.l0, m.l1, m.l2⟩ v) := Blk.set_ h2 3 (.int .i64 m'.next)
  have h4 : Blk (((((W.setCell ⟨b, 0, none⟩ (.int .i64 m'.w0)).setCell ⟨b, 1, none⟩ (.int .i64 m'.w1)).setCell ⟨b, 2, none⟩ (.int .i64 m'.w2)).setCell ⟨b, 3, none⟩ (.int .i64 m'.next)).setCell ⟨b, 4, none⟩ (.int .i64 m'.log)) b 25 (manV ⟨m'.w0, m'.w1, m'.w2, m'.next, m'.log, m'.blocks, m.cut, m.r0, m.r1, m.r2, m.l0, m.l1, m.l2⟩ v) := Blk.set_ h3 4 (.int .i64 m'.log)
  have h5 : Blk ((((((W.setCell ⟨b, 0, none⟩ (.int .i64 m'.w0)).setCell ⟨b, 1, none⟩ (.int .i64 m'.w1)).setCell ⟨b, 2, none⟩ (.int .i64 m'.w2)).setCell ⟨b, 3, none⟩ (.int .i64 m'.next)).setCell ⟨b, 4, none⟩ (.int .i64 m'.log)).setCell ⟨b, 5, none⟩ v') b 25 (manV ⟨m'.w0, m'.w1, m'.w2, m'.next, m'.log, m'.blocks, m.cut, m.r0, m.r1, m.r2, m.l0, m.l1, m.l2⟩ v') := Blk.set_ h4 5 v'
  have h6 : Blk (((((((W.setCell ⟨b, 0, none⟩ (.int .i64 m'.w0)).setCell ⟨b, 1, none⟩ (.int .i64 m'.w1)).setCell ⟨b, 2, none⟩ (.int .i64 m'.w2)).setCell ⟨b, 3, none⟩ (.int .i64 m'.next)).setCell ⟨b, 4, none⟩ (.int .i64 m'.log)).setCell ⟨b, 5, none⟩ v').setCell ⟨b, 6, none⟩ (.int .i64 m'.cut)) b 25 (manV ⟨m'.w0, m'.w1, m'.w2, m'.next, m'.log, m'.blocks, m'.cut, m.r0, m.r1, m.r2, m.l0, m.l1, m.l2⟩ v') := Blk.set_ h5 6 (.int .i64 m'.cut)
  have h7 : Blk ((((((((W.setCell ⟨b, 0, none⟩ (.int .i64 m'.w0)).setCell ⟨b, 1, none⟩ (.int .i64 m'.w1)).setCell ⟨b, 2, none⟩ (.int .i64 m'.w2)).setCell ⟨b, 3, none⟩ (.int .i64 m'.next)).setCell ⟨b, 4, none⟩ (.int .i64 m'.log)).setCell ⟨b, 5, none⟩ v').setCell ⟨b, 6, none⟩ (.int .i64 m'.cut)).setCell ⟨b, 7, none⟩ (.int .i64 m'.r0)) b 25 (manV ⟨m'.w0, m'.w1, m'.w2, m'.next, m'.log, m'.blocks, m'.cut, m'.r0, m.r1, m.r2, m.l0, m.l1, m.l2⟩ v') := Blk.set_ h6 7 (.int .i64 m'.r0)
  have h8 : Blk (((((((((W.setCell ⟨b, 0, none⟩ (.int .i64 m'.w0)).setCell ⟨b, 1, none⟩ (.int .i64 m'.w1)).setCell ⟨b, 2, none⟩ (.int .i64 m'.w2)).setCell ⟨b, 3, none⟩ (.int .i64 m'.next)).setCell ⟨b, 4, none⟩ (.int .i64 m'.log)).setCell ⟨b, 5, none⟩ v').setCell ⟨b, 6, none⟩ (.int .i64 m'.cut)).setCell ⟨b, 7, none⟩ (.int .i64 m'.r0)).setCell ⟨b, 8, none⟩ (.int .i64 m'.r1)) b 25 (manV ⟨m'.w0, m'.w1, m'.w2, m'.next, m'.log, m'.blocks, m'.cut, m'.r0, m'.r1, m.r2, m.l0, m.l1, m.l2⟩ v') := Blk.set_ h7 8 (.int .i64 m'.r1)
  have h9 : Blk ((((((((((W.setCell ⟨b, 0, none⟩ (.int .i64 m'.w0)).setCell ⟨b, 1, none⟩ (.int .i64 m'.w1)).setCell ⟨b, 2, none⟩ (.int .i64 m'.w2)).setCell ⟨b, 3, none⟩ (.int .i64 m'.next)).setCell ⟨b, 4, none⟩ (.int .i64 m'.log)).setCell ⟨b, 5, none⟩ v').setCell ⟨b, 6, none⟩ (.int .i64 m'.cut)).setCell ⟨b, 7, none⟩ (.int .i64 m'.r0)).setCell ⟨b, 8, none⟩ (.int .i64 m'.r1)).setCell ⟨b, 9, none⟩ (.int .i64 m'.r2)) b 25 (manV ⟨m'.w0, m'.w1, m'.w2, m'.next, m'.log, m'.blocks, m'.cut, m'.r0, m'.r1, m'.r2, m.l0, m.l1, m.l2⟩ v') := Blk.set_ h8 9 (.int .i64 m'.r2)
  have h10 : Blk (((((((((((W.setCell ⟨b, 0, none⟩ (.int .i64 m'.w0)).setCell ⟨b, 1, none⟩ (.int .i64 m'.w1)).setCell ⟨b, 2, none⟩ (.int .i64 m'.w2)).setCell ⟨b, 3, none⟩ (.int .i64 m'.next)).setCell ⟨b, 4, none⟩ (.int .i64 m'.log)).setCell ⟨b, 5, none⟩ v').setCell ⟨b, 6, none⟩ (.int .i64 m'.cut)).setCell ⟨b, 7, none⟩ (.int .i64 m'.r0)).setCell ⟨b, 8, none⟩ (.int .i64 m'.r1)).setCell ⟨b, 9, none⟩ (.int .i64 m'.r2)).setCell ⟨b, 10, none⟩ (.int .i64 m'.l0)) b 25 (manV ⟨m'.w0, m'.w1, m'.w2, m'.next, m'.log, m'.blocks, m'.cut, m'.r0, m'.r1, m'.r2, m'.l0, m.l1, m.l2⟩ v') := Blk.set_ h9 10 (.int .i64 m'.l0)
  have h11 : Blk ((((((((((((W.setCell ⟨b, 0, none⟩ (.int .i64 m'.w0)).setCell ⟨b, 1, none⟩ (.int .i64 m'.w1)).setCell ⟨b, 2, none⟩ (.int .i64 m'.w2)).setCell ⟨b, 3, none⟩ (.int .i64 m'.next)).setCell ⟨b, 4, none⟩ (.int .i64 m'.log)).setCell ⟨b, 5, none⟩ v').setCell ⟨b, 6, none⟩ (.int .i64 m'.cut)).setCell ⟨b, 7, none⟩ (.int .i64 m'.r0)).setCell ⟨b, 8, none⟩ (.int .i64 m'.r1)).setCell ⟨b, 9, none⟩ (.int .i64 m'.r2)).setCell ⟨b, 10, none⟩ (.int .i64 m'.l0)).setCell ⟨b, 11, none⟩ (.int .i64 m'.l1)) b 25 (manV ⟨m'.w0, m'.w1, m'.w2, m'.next, m'.log, m'.blocks, m'.cut, m'.r0, m'.r1, m'.r2, m'.l0, m'.l1, m.l2⟩ v') := Blk.set_ h10 11 (.int .i64 m'.l1)
  have h12 : Blk (((((((((((((W.setCell ⟨b, 0, none⟩ (.int .i64 m'.w0)).setCell ⟨b, 1, none⟩ (.int .i64 m'.w1)).setCell ⟨b, 2, none⟩ (.int .i64 m'.w2)).setCell ⟨b, 3, none⟩ (.int .i64 m'.next)).setCell ⟨b, 4, none⟩ (.int .i64 m'.log)).setCell ⟨b, 5, none⟩ v').setCell ⟨b, 6, none⟩ (.int .i64 m'.cut)).setCell ⟨b, 7, none⟩ (.int .i64 m'.r0)).setCell ⟨b, 8, none⟩ (.int .i64 m'.r1)).setCell ⟨b, 9, none⟩ (.int .i64 m'.r2)).setCell ⟨b, 10, none⟩ (.int .i64 m'.l0)).setCell ⟨b, 11, none⟩ (.int .i64 m'.l1)).setCell ⟨b, 12, none⟩ (.int .i64 m'.l2)) b 25 (manV ⟨m'.w0, m'.w1, m'.w2, m'.next, m'.log, m'.blocks, m'.cut, m'.r0, m'.r1, m'.r2, m'.l0, m'.l1, m'.l2⟩ v') := Blk.set_ h11 12 (.int .i64 m'.l2)
  exact ⟨h12, (Below.setCell (Below.setCell (Below.setCell (Below.setCell (Below.setCell (Below.setCell (Below.setCell (Below.setCell (Below.setCell (Below.setCell (Below.setCell (Below.setCell (Below.setCell (Below.refl _ _) (p := ⟨b, 0, none⟩) (Nat.le_refl _) (.int .i64 m'.w0)) (p := ⟨b, 1, none⟩) (Nat.le_refl _) (.int .i64 m'.w1)) (p := ⟨b, 2, none⟩) (Nat.le_refl _) (.int .i64 m'.w2)) (p := ⟨b, 3, none⟩) (Nat.le_refl _) (.int .i64 m'.next)) (p := ⟨b, 4, none⟩) (Nat.le_refl _) (.int .i64 m'.log)) (p := ⟨b, 5, none⟩) (Nat.le_refl _) v') (p := ⟨b, 6, none⟩) (Nat.le_refl _) (.int .i64 m'.cut)) (p := ⟨b, 7, none⟩) (Nat.le_refl _) (.int .i64 m'.r0)) (p := ⟨b, 8, none⟩) (Nat.le_refl _) (.int .i64 m'.r1)) (p := ⟨b, 9, none⟩) (Nat.le_refl _) (.int .i64 m'.r2)) (p := ⟨b, 10, none⟩) (Nat.le_refl _) (.int .i64 m'.l0)) (p := ⟨b, 11, none⟩) (Nat.le_refl _) (.int .i64 m'.l1)) (p := ⟨b, 12, none⟩) (Nat.le_refl _) (.int .i64 m'.l2))⟩

theorem i64_zero : i64 0 := ⟨by decide, by decide⟩
theorem takeI_i64 (body : List UInt8) (s : Nat × Nat) : i64 (takeI body s).1 := by
  unfold takeI
  split
  · cases h : readI (body.drop s.1) with
    | error c => exact i64_zero
    | ok x =>
      obtain ⟨v, k⟩ := x
      simp only
      unfold readI at h
      cases hu : readU (body.drop s.1) with
      | error c => rw [hu] at h; cases h
      | ok y =>
        obtain ⟨u, k2⟩ := y
        rw [hu] at h
        injection h with h
        injection h with h1 h2
        subst h1
        exact unzig_range (readU_lt hu).1
  · exact i64_zero
theorem takeI_pos {body : List UInt8} {s : Nat × Nat} (h : (takeI body s).2.2 = 0) : s.2 = 0 ∧ s.1 + 1 ≤ (takeI body s).2.1 ∧ (takeI body s).2.1 ≤ body.length := by
  unfold takeI at h ⊢
  split at h
  · rename_i h0
    rw [if_pos h0]
    refine ⟨h0, ?_⟩
    cases hr : readI (body.drop s.1) with
    | error c =>
      rw [hr] at h
      simp only at h
      subst h
      unfold readI at hr
      cases hu : readU (body.drop s.1) with
      | error c =>
        rw [hu] at hr
        injection hr with hr
        exact absurd hr (readU_fault hu)
      | ok y => rw [hu] at hr; cases hr
    | ok x =>
      obtain ⟨v, k⟩ := x
      simp only
      unfold readI at hr
      cases hu : readU (body.drop s.1) with
      | error c => rw [hu] at hr; cases hr
      | ok y =>
        obtain ⟨u, k2⟩ := y
        rw [hu] at hr
        injection hr with hr
        injection hr with h1 h2
        subst h2
        have := readU_lt hu
        rw [List.length_drop] at this
        omega
  · rename_i h0
    exact absurd h h0
theorem takesI_i64 (body : List UInt8) : ∀ (n : Nat) (s : Nat × Nat), ∀ v ∈ (takesI body n s).1, i64 v
  | 0, _, v, h => by simp [takesI] at h
  | n + 1, s, v, h => by
    rw [takesI] at h
    rcases List.mem_cons.1 h with rfl | h
    · exact takeI_i64 _ _
    · exact takesI_i64 body n _ v h
theorem takes5_pos {body : List UInt8} {s : Nat × Nat} (h : (takesI body 5 s).2.2 = 0) : s.1 + 1 ≤ (takesI body 5 s).2.1 ∧ (takesI body 5 s).2.1 ≤ body.length := by
  simp only [takesI] at h ⊢
  have h5 := takeI_pos h
  have h4 := takeI_pos h5.1
  have h3 := takeI_pos h4.1
  have h2 := takeI_pos h3.1
  have h1 := takeI_pos h2.1
  omega
/-- The info that five takes read. -/
def info5 (body : List UInt8) (s : Nat × Nat) : Inf := infOf (takesI body 5 s).1
theorem info5_enc (body : List UInt8) (s : Nat × Nat) : (takesI body 5 s).1.map (Value.int .i64) = encInf (info5 body s) := rfl
theorem info5_i64 (body : List UInt8) (s : Nat × Nat) : ∀ v ∈ (info5 body s).nums, i64 v := fun v hv => takesI_i64 body 5 s v hv
theorem blocksI_zero (body : List UInt8) (s : Nat × Nat) : blocksI body 0 s = ([], s) := rfl
theorem blocksI_off {body : List UInt8} {s : Nat × Nat} (h : s.2 ≠ 0) : ∀ g, blocksI body g s = ([], s)
  | 0 => rfl
  | g + 1 => by rw [blocksI, if_neg h]
theorem blocksI_on {body : List UInt8} {s : Nat × Nat} (h : s.2 = 0) (g : Nat) : blocksI body (g + 1) s = (info5 body s :: (blocksI body g (takesI body 5 s).2).1, (blocksI body g (takesI body 5 s).2).2) := by
  rw [blocksI, if_pos h]
  rfl
theorem man_ten {t : List Int} (h : t.length = 10) (a b : Int) (bl : List Inf) : { tenMan t with next := a, log := b, blocks := bl } = manOf t a b bl := by
  match t, h with
  | [_, _, _, _, _, _, _, _, _, _], _ => rfl
/-- What is read of a body, step by step. -/
theorem readM_steps {body : List UInt8} {t : List Int} {s0 : Nat × Nat} (h : takesI body 10 (0, 0) = (t, s0)) {x1 x2 x3 : Int × (Nat × Nat)} (h1 : takeI body s0 = x1) (h2 : takeI body x1.2 = x2) (h3 : takeI body x2.2 = x3) :
    readM body = ({ tenMan t with next := x1.1, log := x2.1, blocks := (blocksI body x3.1.toNat x3.2).1 }, (blocksI body x3.1.toNat x3.2).2) := by
  have ht : t.length = 10 := by have := takesI_len body 10 (0, 0); rw [h] at this; exact this
  rw [man_ten ht]
  unfold readM
  rw [h]
  subst h1 h2 h3
  rfl
theorem small_of {t : List Int} (h : t.length = 10) (ht : ∀ v ∈ t, i64 v) {a b : Int} (ha : i64 a) (hb : i64 b) {bl : List Inf} (hbl : ∀ x ∈ bl, ∀ v ∈ x.nums, i64 v) (hn : bl.length ≤ 1099511627776) : ({ tenMan t with next := a, log := b, blocks := bl } : Man).small := by
  rw [man_ten h]
  match t, h, ht with
  | [c0, c1, c2, c3, c4, c5, c6, c7, c8, c9], _, ht =>
    intro v hv
    simp only [manOf, Man.nums, Man.tens, List.mem_append, List.mem_flatMap] at hv
    rcases hv with (hv | hv) | ⟨x, hx, hv⟩
    · refine ht v ?_
      simpa using hv
    · have h3 : v = a ∨ v = b ∨ v = (bl.length : Int) := by simpa using hv
      rcases h3 with rfl | rfl | rfl
      · exact ha
      · exact hb
      · unfold i64; omega
    · exact hbl x hx v hv
/-- What Decode keeps in its hands at the blocks' loop. -/
structure Dec2 (w : World) (S : Nat) (body : ByteArray) (s : Nat × Nat) (m : Man) (v : Value) (wr : World) : Prop where
  below : Below w.heap.size w wr
  tk : TakeAt (S + 1) S (S + 2) body s wr
  box : Blk wr (S + 3) 25 (manV m v)
  res : Blk wr w.heap.size 25 (manV .zero (.slice none 0 0))
  own : wr.ownsRow (S + 4) 116 5 v m.blocks.length (m.blocks.flatMap encInf)
  hS : w.heap.size < S
theorem DecAt.two {w : World} {S g0 c0 : Nat} {body : ByteArray} {s : Nat × Nat} {m : Man} {wr : World} (h : DecAt w S g0 c0 body s m (.slice none 0 0) wr) (hm : m.blocks = []) : Dec2 w S body s m (.slice none 0 0) wr :=
  ⟨h.below, h.tk, h.box, h.res, by rw [hm]; exact World.ownsRow_nil _ _ _ _, h.hS⟩
theorem Dec2.drew {w : World} {S : Nat} {body : ByteArray} {s : Nat × Nat} {m : Man} {v : Value} {wr : World} (h : Dec2 w S body s m v wr) : Dec2 w S body s m v wr.drew :=
  ⟨h.below.drew, ⟨h.tk.e.drew, h.tk.b.drew, h.tk.a.drew⟩, h.box.drew, h.res.drew, h.own.drew, h.hS⟩
theorem Dec2.take {w : World} {S : Nat} {body : ByteArray} {s s' : Nat × Nat} {m : Man} {v : Value} {wr w' : World} (h : Dec2 w S body s m v wr) (ht : TakeAt (S + 1) S (S + 2) body s' w') (hk : Kept wr.heap.size [S + 1, S + 2] wr w') : Dec2 w S body s' m v w' := by
  have hS := h.hS
  refine ⟨h.below.trans ((hk.mono (Nat.le_refl _) (fun k _ hm => hm)).mono (B' := w.heap.size) (ex' := [S + 1, S + 2]) h.below.size (fun k _ hm => hm) |>.below (by simp; omega)), ht, ?_, ?_, ownsRow.same h.own fun k hk2 => ?_, hS⟩
  · exact h.box.kept hk h.box.lt (by simp)
  · exact h.res.kept hk h.res.lt (by simp; omega)
  · have := World.ownsRow.lt h.own k hk2
    exact hk.block k this.2 (by simp; omega)
theorem Dec2.keep {w : World} {S : Nat} {body : ByteArray} {s : Nat × Nat} {m : Man} {v : Value} {wr w' : World} (h : Dec2 w S body s m v wr) (hb : Below wr.heap.size wr w') : Dec2 w S body s m v w' :=
  ⟨h.below.trans (hb.mono h.below.size), ⟨h.tk.e.below hb h.tk.e.lt, h.tk.b.below hb h.tk.b.lt, h.tk.a.below hb h.tk.a.lt⟩, h.box.below hb h.box.lt, h.res.below hb h.res.lt, ownsRow.same h.own fun k hk => hb.block k (World.ownsRow.lt h.own k hk).2, h.hS⟩
theorem Dec2.more {w : World} {S : Nat} {body : ByteArray} {s : Nat × Nat} {m m' : Man} {v v' : Value} {wr w' : World} (h : Dec2 w S body s m v wr) (hg : wr.grownBy w' v.ownBlock) (ho : w'.ownsRow (S + 4) 116 5 v' m'.blocks.length (m'.blocks.flatMap encInf)) (hm : (manV m v).setIfInBounds 5 v' = manV m' v') :
    Dec2 w S body s m' v' (w'.setCell ⟨S + 3, 5, none⟩ v') := by
  have hS := h.hS
  have hne : ∀ k, k < S + 4 → some k ≠ v.ownBlock := fun k hk e => by
    have := World.ownsRow.lt h.own k e.symm
    omega
  have hz : S + 4 ≤ wr.heap.size := h.box.lt
  refine ⟨?_, ⟨?_, ?_, ?_⟩, ?_, ?_, ownsRow.same ho fun k hk => ?_, hS⟩
  · refine Below.setCell ?_ (by simp; omega) _
    exact ⟨hg.os.trans h.below.os, hg.tape.trans h.below.tape, hg.output.trans h.below.output, Nat.le_trans h.below.size hg.size, fun k hk => (hg.block k (by omega) (hne k (by omega))).trans (h.below.block k hk)⟩
  · exact Blk.far (h.tk.e.grown hg (hne _ (by omega))) (by simp) _
  · exact Blk.far (h.tk.b.grown hg (hne _ (by omega))) (by simp) _
  · exact Blk.far (h.tk.a.grown hg (hne _ (by omega))) (by simp) _
  · rw [← hm]; exact (h.box.grown hg (hne _ (by omega))).set_ 5 v'
  · exact Blk.far (h.res.grown hg (hne _ (by omega))) (by simp; omega) _
  · have := World.ownsRow.lt ho k hk
    exact Below.heap_setCell _ _ _ k (by simp; omega)
/-- The loop's invariant: what is left to read. -/
structure LoopI (w : World) (S : Nat) (body : ByteArray) (M0 : Man) (N : Nat) (z : Nat × Nat) (g : Nat) (n : Int) (s : Nat × Nat) (bl : List Inf) (v : Value) (wr : World) : Prop where
  hn : n.toNat = g
  n1 : -9223372036854775808 ≤ n
  n2 : n ≤ 9223372036854775807
  at_ : Dec2 w S body s { M0 with blocks := bl } v wr
  left : blocksI body.data.toList N z = (bl ++ (blocksI body.data.toList g s).1, (blocksI body.data.toList g s).2)
  cnt : s.2 = 0 → bl.length ≤ s.1 ∧ s.1 ≤ body.size
  cnt2 : bl.length ≤ body.size + 1
  ok : ∀ x ∈ bl, ∀ v ∈ x.nums, i64 v
end Go.Proofs.YtfpgbhimgfdddaaGreatDoor
