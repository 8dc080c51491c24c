/- The walk of layer 20 (store): Decode$1, which takes a number. -/
import Derived.Test.YtfpgbhimgfdddaaGreatDoorStgC
import Derived.Test.YtfpgbhimgfdddaaGreatDoorStgA
set_option linter.unusedVariables false
set_option linter.unusedSimpArgs false
namespace Go.Proofs.YtfpgbhimgfdddaaGreatDoor
open Go.RowKit Go.Shelf Go.Sort
attribute [local go_sem ↓] Go.wp_at_zero Go.wp_at_succ
attribute [local go_sem] Later.cell Later.frozen

theorem takeI_read (body : List UInt8) (at_ : Nat) : ∃ v n e, readAt body (at_ : Int) = (v, n, e) ∧ takeI body (at_, 0) = ((if e = 0 then unzig v else 0), ((if e = 0 then n else 0), e)) := by
  rw [readAt_nat]
  unfold takeI readI outOf
  cases readU (body.drop at_) with
  | error c =>
    refine ⟨0, 0, c, rfl, ?_⟩
    by_cases hc : c = 0
    · subst hc; rfl
    · simp [hc]
  | ok x => exact ⟨x.1, at_ + x.2, 0, rfl, rfl⟩
theorem takeI_off (body : List UInt8) (at_ e : Nat) (h : e ≠ 0) : takeI body (at_, e) = (0, (at_, e)) := by
  unfold takeI
  rw [if_neg h]
/-- The three boxes of take: the error, the body, the place. -/
structure TakeAt (be bb ba : Nat) (body : ByteArray) (s : Nat × Nat) (w : World) : Prop where
  e : Blk w be 26 #[.int .i64 (s.2 : Int)]
  b : Blk w bb 9 #[.string body]
  a : Blk w ba 3 #[.int .i64 (s.1 : Int)]
def TakeOut (be bb ba : Nat) (body : ByteArray) (s : Nat × Nat) (w : World) (en : Ending) (w' : World) : Prop :=
  en = .returned (.int .i64 (takeI body.data.toList s).1) ∧ TakeAt be bb ba body (takeI body.data.toList s).2 w' ∧ Kept w.heap.size [be, ba] w w'
set_option maxRecDepth 100000 in
set_option maxHeartbeats 4000000 in
theorem take_calls (be bb ba : Nat) (body : ByteArray) (s : Nat × Nat) (w : World) (h : TakeAt be bb ba body s w) (hab : ba ≠ be) (hbb : bb ≠ be) (hba : bb ≠ ba) (hs : body.size ≤ 140737488351232) :
    Calls Tryz.prog 57 #[.pointer (some ⟨be, 0, none⟩), .pointer (some ⟨bb, 0, none⟩), .pointer (some ⟨ba, 0, none⟩)] w (TakeOut be bb ba body s w) := by
  obtain ⟨at_, e⟩ := s
  have H := Lib.hid h
  have m0 : w.cell? ⟨be, 0, none⟩ = some (.int .i64 (e : Int)) := h.e.cell 0
  have m1 : w.cell? ⟨bb, 0, none⟩ = some (.string body) := h.b.cell 0
  have m2 : w.cell? ⟨ba, 0, none⟩ = some (.int .i64 (at_ : Int)) := h.a.cell 0
  have z0 := h.e.frozen 0
  have z2 := h.a.frozen 0
  have HD := Lib.hid (⟨hab, hbb, hba⟩ : _ ∧ _ ∧ _)
  have hab2 : be ≠ ba := fun e => hab e.symm
  clear h hbb hba
  cases e with
  | succ e =>
    have d0 : decide (((e + 1 : Nat) : Int) = 0) = false := by simp; omega
    go_enter Tryz.func57, Tryz.ntmps57
    go_wp2_with fail
    go_ret
    refine ⟨?_, ?_, Kept.refl _ _ _⟩
    · rw [takeI_off _ _ _ (by omega)]; rfl
    · rw [takeI_off _ _ _ (by omega)]; exact H.out
  | zero =>
    obtain ⟨v, n, e, h1, h2⟩ := takeI_read body.data.toList at_
    have HC := Lib.hid (readint_calls body (at_ : Int) v n e h1 hs w)
    have H2 := Lib.hid h2
    clear h1 h2
    go_enter Tryz.func57, Tryz.ntmps57
    go_wp2_with fail
    refine HC.out.mono ?_
    rintro _ w1 ⟨rfl, rfl⟩
    obtain ⟨vv, hvv⟩ : ∃ x, (if e = 0 then unzig v else 0) = x := ⟨_, rfl⟩
    have hnn : (if e = 0 then (n : Int) else 0) = (((if e = 0 then n else 0 : Nat)) : Int) := by split <;> rfl
    rw [hvv] at H2
    rw [hvv, hnn]
    obtain ⟨nn, hnn2⟩ : ∃ x, (if e = 0 then n else 0) = x := ⟨_, rfl⟩
    rw [hnn2] at H2
    rw [hnn2]
    clear hvv hnn hnn2
    go_wp2_with fail
    go_ret
    unfold TakeOut
    rw [H2.out]
    have d := HD.out
    refine ⟨rfl, ⟨?_, ?_, ?_⟩, ((Kept.refl _ _ _).setCell (p := ⟨ba, 0, none⟩) (.inl (by simp)) _).setCell (p := ⟨be, 0, none⟩) (.inl (by simp)) _⟩
    · exact (Blk.far H.out.e (p := ⟨ba, 0, none⟩) (by simp; omega) _).set_ 0 _
    · exact (Blk.far (Blk.far H.out.b (p := ⟨ba, 0, none⟩) (by simp; omega) _) (p := ⟨be, 0, none⟩) (by simp; omega) _)
    · exact Blk.far (H.out.a.set_ 0 _) (p := ⟨be, 0, none⟩) (by simp; omega) _
end Go.Proofs.YtfpgbhimgfdddaaGreatDoor
