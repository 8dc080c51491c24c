/- The walks of the document's reader: next, fail, escaped, letter. -/
import Derived.Test.YtlmnincllndpnaaRefRow
namespace Go.Proofs.Ytlmnincllndpnaa
open Go.RowKit
attribute [local go_sem ↓] Go.wp_at_zero Go.wp_at_succ

/-- The document's tree at block t: its nodes v, at place i of the text s, d brackets deep, the fault f. -/
def Rf (w : World) (t : Nat) (v : Value) (s : ByteArray) (i d f : Nat) : Prop := Blk w t 41 (refCells v s i d f)
theorem Rf.lt {w : World} {t : Nat} {v : Value} {s : ByteArray} {i d f : Nat} (h : Rf w t v s i d f) : t < w.heap.size := Blk.lt h
theorem Rf.below {w w' : World} {t : Nat} {v : Value} {s : ByteArray} {i d f : Nat} (h : Rf w t v s i d f) (hb : Below w.heap.size w w') : Rf w' t v s i d f := Blk.below h hb h.lt
theorem Rf.step {w : World} {t : Nat} {v : Value} {s : ByteArray} {i d f : Nat} (h : Rf w t v s i d f) : Rf (w.setCell ⟨t, 2, none⟩ (.int .i64 ((i : Int) + 1))) t v s (i + 1) d f := by
  have := Blk.set_ h 2 (.int .i64 ((i : Int) + 1))
  simpa [Rf, refCells] using this
theorem Rf.failed {w : World} {t : Nat} {v : Value} {s : ByteArray} {i d f : Nat} (h : Rf w t v s i d f) (e : Nat) : Rf (w.setCell ⟨t, 4, none⟩ (.int .i64 e)) t v s i d e := by
  have := Blk.set_ h 4 (.int .i64 e)
  simpa [Rf, refCells] using this
/-- The next byte, or -1. -/
def nx (l : List UInt8) : Int := match l with | [] => -1 | b :: _ => b.toNat

set_option maxHeartbeats 400000 in
theorem next_bad (w : World) (t : Nat) (v : Value) (s : ByteArray) (i d f : Nat) (h : Rf w t v s i d f) (hf : f ≠ 0) :
    Calls Try.prog 41 #[.pointer (some ⟨t, 0, none⟩)] w fun e w' => e = .returned (.int .i64 (-1)) ∧ Below w.heap.size w w' := by
  have h1 : _ = some (Value.string s) := h.cell 1
  have h2 : _ = some (Value.int .i64 i) := h.cell 2
  have h4 : _ = some (Value.int .i64 f) := h.cell 4
  have hb : ((f : Int) == 0) = false := by simp; omega
  go_enter Try.func41, Try.ntmps41
  go_wp2
  go_quiet (fail)
  go_wp2
  go_ret
  exact ⟨rfl, below_drewN (Below.refl _ _) _⟩

set_option maxHeartbeats 400000 in
theorem next_ok (w : World) (t : Nat) (v : Value) (s : ByteArray) (i d : Nat) (l : List UInt8) (r : Int) (h : Rf w t v s i d 0) (hi : i ≤ s.size) (hl : s.data.toList.drop i = l) (hr : nx l = r) :
    Calls Try.prog 41 #[.pointer (some ⟨t, 0, none⟩)] w fun e w' => e = .returned (.int .i64 r) ∧ Below w.heap.size w w' := by
  have h1 : _ = some (Value.string s) := h.cell 1
  have h2 : _ = some (Value.int .i64 i) := h.cell 2
  have h4 : _ = some (Value.int .i64 ((0 : Nat) : Int)) := h.cell 4
  subst hr
  cases l with
  | nil =>
    have hs := drop_none hi hl
    subst hs
    go_enter Try.func41, Try.ntmps41
    go_wp2
    go_quiet (fail)
    go_wp2
    go_ret
    exact ⟨rfl, below_drewN (Below.refl _ _) _⟩
  | cons b l =>
    obtain ⟨hlt, rfl, _⟩ := drop_some hl
    have hb : decide ((s.size : Int) ≤ (i : Int)) = false := by simp; omega
    go_enter Try.func41, Try.ntmps41
    go_wp2
    go_quiet (fail)
    go_wp2
    go_quiet (fail)
    go_wp2
    go_ret
    refine ⟨?_, below_drewN (below_drewN (Below.refl _ _) _) _⟩
    have hu := UInt8.toNat_lt s[i]
    show Ending.returned (.int .i64 (wrap64 (s[i].toNat : Int))) = Ending.returned (.int .i64 (s[i].toNat : Int))
    rw [show wrap64 (s[i].toNat : Int) = (s[i].toNat : Int) by unfold wrap64; omega]

set_option maxHeartbeats 400000 in
theorem fail_new (w : World) (t : Nat) (v : Value) (s : ByteArray) (i d : Nat) (c : Nat) (h : Rf w t v s i d 0) :
    Calls Try.prog 50 #[.pointer (some ⟨t, 0, none⟩), .int .i64 c] w fun e w' => e = .returned (.tuple #[]) ∧ Kept w.heap.size [t] w w' ∧ Rf w' t v s i d c := by
  have h4 : _ = some (Value.int .i64 ((0 : Nat) : Int)) := h.cell 4
  have f4 := h.frozen 4
  go_enter Try.func50, Try.ntmps50
  go_wp2
  go_end0
  exact ⟨rfl, (Kept.refl _ _ _).setCell (.inl (by simp)) _, h.failed c⟩

set_option maxHeartbeats 400000 in
theorem fail_old (w : World) (t : Nat) (v : Value) (s : ByteArray) (i d f : Nat) (c : Nat) (h : Rf w t v s i d f) (hf : f ≠ 0) :
    Calls Try.prog 50 #[.pointer (some ⟨t, 0, none⟩), .int .i64 c] w fun e w' => e = .returned (.tuple #[]) ∧ w = w' := by
  have h4 : _ = some (Value.int .i64 (f : Int)) := h.cell 4
  have hb : ((f : Int) == 0) = false := by simp; omega
  go_enter Try.func50, Try.ntmps50
  go_wp2
  go_end0
  exact ⟨rfl, rfl⟩

set_option maxHeartbeats 400000 in
theorem rescaped_nil (w : World) (t : Nat) (v : Value) (s : ByteArray) (i d : Nat) (h : Rf w t v s i d 0) (hi : i ≤ s.size) (hl : s.data.toList.drop i = []) :
    Calls Try.prog 63 #[.pointer (some ⟨t, 0, none⟩)] w fun e w' => e = .returned (.int .i64 0) ∧ Kept w.heap.size [t] w w' ∧ Rf w' t v s i d 65 := by
  go_enter Try.func63, Try.ntmps63
  go_wp2_with fail
  refine (next_ok _ t v s i d [] (-1) h hi hl rfl).mono ?_
  rintro e w1 ⟨rfl, hb1⟩
  have h1 := h.below hb1
  go_wp2_with fail
  refine (fail_new _ t v s i d 65 h1).mono ?_
  rintro e w2 ⟨rfl, hk, h2⟩
  go_wp2
  go_ret
  exact ⟨rfl, (Kept.of_below hb1).trans (hk.mono hb1.size (fun _ _ h => h)), h2⟩

set_option maxHeartbeats 400000 in
theorem rescaped_cons (w : World) (t : Nat) (v : Value) (s : ByteArray) (i d : Nat) (c : UInt8) (l : List UInt8) (h : Rf w t v s i d 0) (hs : s.size ≤ 64) (hl : s.data.toList.drop i = c :: l) :
    Calls Try.prog 63 #[.pointer (some ⟨t, 0, none⟩)] w fun e w' => e = .returned (.int .i64 c.toNat) ∧ Kept w.heap.size [t] w w' ∧ Rf w' t v s (i + 1) d 0 := by
  have hi := (drop_some hl).1
  go_enter Try.func63, Try.ntmps63
  go_wp2_with fail
  refine (next_ok _ t v s i d (c :: l) c.toNat h (by omega) hl rfl).mono ?_
  rintro e w1 ⟨rfl, hb1⟩
  have h1 := h.below hb1
  have c1 : _ = some (Value.int .i64 i) := h1.cell 2
  have f1 := h1.frozen 2
  have hneg : decide ((c.toNat : Int) < 0) = false := by simp
  go_wp2
  go_ret
  exact ⟨rfl, (Kept.of_below hb1).setCell (.inl (by simp)) _, h1.step⟩

set_option maxHeartbeats 400000 in
theorem rletter_error (w : World) (t : Nat) (v : Value) (s : ByteArray) (i d : Nat) (c : Nat) (h : Rf w t v s i d 0) (hs : s.size ≤ 64) (hi : i ≤ s.size) (hl : letterOf (s.data.toList.drop i) = .error c) :
    Calls Try.prog 65 #[.pointer (some ⟨t, 0, none⟩)] w fun e w' => e = .returned (.int .i64 0) ∧ Kept w.heap.size [t] w w' ∧ ∃ j, Rf w' t v s j d c ∧ i ≤ j ∧ j ≤ s.size := by
  generalize hd : s.data.toList.drop i = l at hl
  match l, hl with
  | [], hl =>
    obtain rfl : 63 = c := by simpa [letterOf] using hl
    go_enter Try.func65, Try.ntmps65
    go_wp2_with fail
    refine (next_ok _ t v s i d [] (-1) h hi hd rfl).mono ?_
    rintro e w1 ⟨rfl, hb1⟩
    have h1 := h.below hb1
    go_wp2_with fail
    refine (fail_new _ t v s i d 63 h1).mono ?_
    rintro e w2 ⟨rfl, hk, h2⟩
    go_wp2
    go_ret
    exact ⟨rfl, (Kept.of_below hb1).trans (hk.mono hb1.size (fun _ _ h => h)), i, h2, Nat.le_refl _, hi⟩
  | b :: l, hl =>
    have hb : b = 92 := by
      by_cases e : b = 92
      · exact e
      · simp [letterOf, e] at hl
    subst hb
    match l, hl with
    | [], hl =>
      obtain rfl : 65 = c := by simpa [letterOf] using hl
      obtain ⟨hlt, _, hd'⟩ := drop_some hd
      have HD' := Lib.hid hd'
      clear hd'
      go_enter Try.func65, Try.ntmps65
      go_wp2_with fail
      refine (next_ok _ t v s i d [92] 92 h hi hd rfl).mono ?_
      rintro e w1 ⟨rfl, hb1⟩
      have h1 := h.below hb1
      have c1 : _ = some (Value.int .i64 i) := h1.cell 2
      have f1 := h1.frozen 2
      go_wp2_with fail
      refine (rescaped_nil _ t v s (i + 1) d h1.step (by omega) HD'.out).mono ?_
      rintro e w3 ⟨rfl, hk, h3⟩
      go_wp2
      go_ret
      exact ⟨rfl, ((Kept.of_below hb1).setCell (p := ⟨t, 2, none⟩) (.inl (by simp)) _).trans (hk.mono (by simpa [World.setCell] using hb1.size) (fun _ _ h => h)), i + 1, h3, by omega, by omega⟩
    | c' :: l', hl => simp [letterOf] at hl

set_option maxHeartbeats 400000 in
theorem rletter_ok (w : World) (t : Nat) (v : Value) (s : ByteArray) (i d : Nat) (b : UInt8) (l : List UInt8) (h : Rf w t v s i d 0) (hs : s.size ≤ 64) (hl : letterOf (s.data.toList.drop i) = .ok (b, l)) :
    Calls Try.prog 65 #[.pointer (some ⟨t, 0, none⟩)] w fun e w' => e = .returned (.int .i64 b.toNat) ∧ Kept w.heap.size [t] w w' ∧ ∃ j, Rf w' t v s j d 0 ∧ i < j ∧ j ≤ s.size ∧ s.data.toList.drop j = l := by
  generalize hd : s.data.toList.drop i = l0 at hl
  match l0, hl with
  | [], hl => simp [letterOf] at hl
  | c :: l0, hl =>
    obtain ⟨hlt, _, hd'⟩ := drop_some hd
    have HD' := Lib.hid hd'
    clear hd'
    by_cases e : c = 92
    · subst e
      match l0, hl with
      | [], hl => simp [letterOf] at hl
      | c' :: l0, hl =>
        obtain ⟨rfl, rfl⟩ : c' = b ∧ l0 = l := by simpa [letterOf] using hl
        go_enter Try.func65, Try.ntmps65
        go_wp2_with fail
        refine (next_ok _ t v s i d _ 92 h (by omega) hd rfl).mono ?_
        rintro e w1 ⟨rfl, hb1⟩
        have h1 := h.below hb1
        have c1 : _ = some (Value.int .i64 i) := h1.cell 2
        have f1 := h1.frozen 2
        go_wp2_with fail
        refine (rescaped_cons _ t v s (i + 1) d c' l0 h1.step hs HD'.out).mono ?_
        rintro e w3 ⟨rfl, hk, hr⟩
        go_wp2
        go_ret
        obtain ⟨hlt2, _, hd2⟩ := drop_some HD'.out
        exact ⟨rfl, ((Kept.of_below hb1).setCell (p := ⟨t, 2, none⟩) (.inl (by simp)) _).trans (hk.mono (by simpa [World.setCell] using hb1.size) (fun _ _ h => h)), i + 1 + 1, hr, by omega, by omega, hd2⟩
    · obtain ⟨rfl, rfl⟩ : c = b ∧ l0 = l := by simpa [letterOf, e] using hl
      have hne : ((c.toNat : Int) == 92) = false := by
        rw [beq_eq_false_iff_ne]
        intro h
        exact e (UInt8.toNat_inj.1 (by simpa using Int.ofNat.inj h))
      have hneg : decide ((c.toNat : Int) < 0) = false := by simp
      go_enter Try.func65, Try.ntmps65
      go_wp2_with fail
      refine (next_ok _ t v s i d _ c.toNat h (by omega) hd rfl).mono ?_
      rintro e w1 ⟨rfl, hb1⟩
      have h1 := h.below hb1
      have c1 : _ = some (Value.int .i64 i) := h1.cell 2
      have f1 := h1.frozen 2
      go_wp2
      go_ret
      exact ⟨rfl, (Kept.of_below hb1).setCell (.inl (by simp)) _, i + 1, h1.step, by omega, by omega, HD'.out⟩
end Go.Proofs.Ytlmnincllndpnaa
