/- The walks of layer 6 (regex): the small functions of the reader. -/
import Derived.Test.YtlmnincllndpnaaRexPlain
import Derived.Test.YtlmnincllndpnaaProg
import Derived.Test.YtlmnincllndpnaaRegion
import Derived.Laws.BitsAllLaws
namespace Go.Proofs.Ytlmnincllndpnaa
open Go.RowKit
attribute [local go_sem ↓] Go.wp_at_zero Go.wp_at_succ

/-- The cells of a node. -/
def nodeCells (k : Int) (s : Nat) (kids : Value) : Array Value :=
  #[.int .i64 k, .int .u64 (word s 0), .int .u64 (word s 1), .int .u64 (word s 2), .int .u64 (word s 3), kids]
/-- What leaves a function of the reader by a panic. -/
def fault (c : Nat) : Ending := .panicked [{ v := .iface 25 (.int .i64 c), recovered := false }]
/-- The reader at block r stands at place i of the text s, d brackets deep. -/
def Rd (w : World) (r : Nat) (s : ByteArray) (i d : Nat) : Prop := Blk w r 58 #[.string s, .int .i64 i, .int .i64 d]

theorem drop_none {s : ByteArray} {i : Nat} (hi : i ≤ s.size) (h : s.data.toList.drop i = []) : s.size = i := by
  have := congrArg List.length h
  simp at this
  have e : s.data.size = s.size := rfl
  omega
theorem drop_some {s : ByteArray} {i : Nat} {b : UInt8} {l : List UInt8} (h : s.data.toList.drop i = b :: l) : ∃ hi : i < s.size, s[i] = b ∧ s.data.toList.drop (i + 1) = l := by
  have hlt : i < s.data.toList.length := by
    have := congrArg List.length h
    simp at this
    simp
    omega
  rw [List.drop_eq_getElem_cons hlt] at h
  injection h with h1 h2
  exact ⟨by simpa using hlt, h1, h2⟩

theorem below_drewN {B : Nat} {a w : World} (h : Below B a w) (n : Nat) : Below B a (w.drewN n) := ⟨h.os, h.tape, h.output, h.size, h.block⟩
/-- A panic that goes on. -/
theorem leave_fault {P : Program} {fn : Func} {R : Ending → World → Prop} {ch : List PanicEntry} {a : Act} {w : World} (hd : a.defers = []) (h : R (.panicked ch) w) : bodyPost P fn R (.panic ch) a w := ⟨hd, h⟩

set_option maxHeartbeats 400000 in
theorem node_calls (k : Int) (A : Option Addr) (n c : Nat) (w : World) :
    Calls Try.prog 37 #[.int .i64 k, .slice A n c] w fun e w' =>
      e = .returned (.pointer (some ⟨w.heap.size, 0, none⟩)) ∧ w.alloc (.cells (nodeCells k 0 (.slice A n c)) 52) = w' := by
  go_enter Try.func37, Try.ntmps37
  go_wp2
  go_ret
  exact ⟨rfl, rfl⟩

set_option maxHeartbeats 400000 in
theorem must_ok (r : Value) (c : Nat) (w : World) :
    Calls Try.prog 47 #[r, .bool true, .int .i64 c] w fun e w' => e = .returned (.tuple #[]) ∧ w = w' := by
  go_enter Try.func47, Try.ntmps47
  go_wp2
  go_end0
  exact ⟨rfl, rfl⟩

set_option maxHeartbeats 400000 in
theorem must_no (r : Value) (c : Nat) (w : World) :
    Calls Try.prog 47 #[r, .bool false, .int .i64 c] w fun e w' => e = fault c ∧ w = w' := by
  go_enter Try.func47, Try.ntmps47
  go_wp2
  exact leave_fault rfl ⟨rfl, rfl⟩

set_option maxHeartbeats 400000 in
theorem peek_end (r : Nat) (s : ByteArray) (i d : Nat) (w : World) (h : Rd w r s i d) (hi : s.size = i) :
    Calls Try.prog 36 #[.pointer (some ⟨r, 0, none⟩)] w fun e w' => e = .returned (.tuple #[.int .u8 0, .bool false]) ∧ Below w.heap.size w w' := by
  have h0 : _ = some (Value.string s) := h.cell 0
  have h1 : _ = some (Value.int .i64 i) := h.cell 1
  subst hi
  have hb : ((s.size : Int) == (s.size : Int)) = true := by simp
  go_enter Try.func36, Try.ntmps36
  go_wp2
  go_quiet (fail)
  go_wp2
  go_ret2
  exact ⟨rfl, below_drewN (Below.refl _ _) _⟩

set_option maxHeartbeats 400000 in
theorem peek_some (r : Nat) (s : ByteArray) (i d : Nat) (w : World) (h : Rd w r s i d) (hi : i < s.size) :
    Calls Try.prog 36 #[.pointer (some ⟨r, 0, none⟩)] w fun e w' => e = .returned (.tuple #[.int .u8 s[i].toNat, .bool true]) ∧ Below w.heap.size w w' := by
  have h0 : _ = some (Value.string s) := h.cell 0
  have h1 : _ = some (Value.int .i64 i) := h.cell 1
  have hb : ((i : Int) == (s.size : Int)) = false := by simp; omega
  go_enter Try.func36, Try.ntmps36
  go_wp2
  go_quiet (fail)
  go_wp2
  go_quiet (fail)
  go_wp2
  go_ret2
  exact ⟨rfl, below_drewN (below_drewN (Below.refl _ _) _) _⟩

theorem peek_nil (r : Nat) (s : ByteArray) (i d : Nat) (w : World) (h : Rd w r s i d) (hi : i ≤ s.size) (hl : s.data.toList.drop i = []) :
    Calls Try.prog 36 #[.pointer (some ⟨r, 0, none⟩)] w fun e w' => e = .returned (.tuple #[.int .u8 0, .bool false]) ∧ Below w.heap.size w w' :=
  peek_end r s i d w h (drop_none hi hl)
theorem peek_cons (r : Nat) (s : ByteArray) (i d : Nat) (w : World) (b : UInt8) (l : List UInt8) (h : Rd w r s i d) (hl : s.data.toList.drop i = b :: l) :
    Calls Try.prog 36 #[.pointer (some ⟨r, 0, none⟩)] w fun e w' => e = .returned (.tuple #[.int .u8 b.toNat, .bool true]) ∧ Below w.heap.size w w' := by
  obtain ⟨hi, rfl, _⟩ := drop_some hl
  exact peek_some r s i d w h hi

/-- The next byte, 0 if there is none. -/
def pk (l : List UInt8) : Nat := match l with | [] => 0 | b :: _ => b.toNat
def more (l : List UInt8) : Bool := match l with | [] => false | _ :: _ => true
theorem peek_any (r : Nat) (s : ByteArray) (i d : Nat) (w : World) (l : List UInt8) (b : Nat) (o : Bool) (h : Rd w r s i d) (hi : i ≤ s.size) (hl : s.data.toList.drop i = l) (hb : pk l = b) (ho : more l = o) :
    Calls Try.prog 36 #[.pointer (some ⟨r, 0, none⟩)] w fun e w' => e = .returned (.tuple #[.int .u8 b, .bool o]) ∧ Below w.heap.size w w' := by
  subst hb ho
  cases l with
  | nil => exact peek_nil r s i d w h hi hl
  | cons c l => exact peek_cons r s i d w c l h hl
theorem pk_eq {l : List UInt8} {b : Nat} {c : UInt8} (hb : pk l = b) (hc : c.toNat ≠ 0) : ((b : Int) == (c.toNat : Int)) = decide (l.head? = some c) := by
  subst hb
  rw [Bool.eq_iff_iff]
  simp only [beq_iff_eq, decide_eq_true_eq, Int.natCast_inj]
  cases l with
  | nil => simp [pk, hc.symm]
  | cons x l => simp [pk, UInt8.toNat_inj]

/-- Only the reader's own block has turned. -/
theorem Rd.lt {w : World} {r : Nat} {s : ByteArray} {i d : Nat} (h : Rd w r s i d) : r < w.heap.size := Blk.lt h
theorem Rd.below {w w' : World} {r : Nat} {s : ByteArray} {i d : Nat} (h : Rd w r s i d) (hb : Below w.heap.size w w') : Rd w' r s i d := Blk.below h hb h.lt
theorem Rd.step {w : World} {r : Nat} {s : ByteArray} {i d : Nat} (h : Rd w r s i d) : Rd (w.setCell ⟨r, 1, none⟩ (.int .i64 ((i : Int) + 1))) r s (i + 1) d := by
  have := Blk.set_ h 1 (.int .i64 ((i : Int) + 1))
  simpa [Rd] using this

set_option maxHeartbeats 400000 in
theorem escaped_nil (r : Nat) (s : ByteArray) (i d : Nat) (w : World) (h : Rd w r s i d) (hi : i ≤ s.size) (hl : s.data.toList.drop i = []) :
    Calls Try.prog 61 #[.pointer (some ⟨r, 0, none⟩)] w fun e w' => e = fault 65 ∧ Kept w.heap.size [r] w w' := by
  go_enter Try.func61, Try.ntmps61
  go_wp2_with fail
  refine (peek_nil r s i d _ h hi hl).mono ?_
  rintro e w1 ⟨rfl, hb1⟩
  go_wp2_with fail
  refine (must_no _ 65 _).mono ?_
  rintro e w2 ⟨rfl, rfl⟩
  exact leave_fault rfl ⟨rfl, .of_below hb1⟩

set_option maxHeartbeats 400000 in
theorem escaped_cons (r : Nat) (s : ByteArray) (i d : Nat) (w : World) (c : UInt8) (l : List UInt8) (h : Rd w r s i d) (hs : s.size ≤ 64) (hl : s.data.toList.drop i = c :: l) :
    Calls Try.prog 61 #[.pointer (some ⟨r, 0, none⟩)] w fun e w' => e = .returned (.int .u8 c.toNat) ∧ Kept w.heap.size [r] w w' ∧ Rd w' r s (i + 1) d := by
  have hi := (drop_some hl).1
  go_enter Try.func61, Try.ntmps61
  go_wp2_with fail
  refine (peek_cons r s i d _ c l h hl).mono ?_
  rintro e w1 ⟨rfl, hb1⟩
  have h1 := h.below hb1
  have c1 : _ = some (Value.int .i64 i) := h1.cell 1
  have f1 := h1.frozen 1
  go_wp2_with fail
  refine (must_ok _ 65 _).mono ?_
  rintro e w2 ⟨rfl, rfl⟩
  go_wp2
  go_ret
  exact ⟨rfl, (Kept.of_below hb1).setCell (.inl (by simp)) _, h1.step⟩

set_option maxHeartbeats 400000 in
theorem letter_error (r : Nat) (s : ByteArray) (i d : Nat) (w : World) (c : Nat) (h : Rd w r s i d) (hs : s.size ≤ 64) (hi : i ≤ s.size) (hl : letterOf (s.data.toList.drop i) = .error c) :
    Calls Try.prog 64 #[.pointer (some ⟨r, 0, none⟩)] w fun e w' => e = fault c ∧ Kept w.heap.size [r] w w' := by
  generalize hd : s.data.toList.drop i = l at hl
  match l, hl with
  | [], hl =>
    obtain rfl : 63 = c := by simpa [letterOf] using hl
    go_enter Try.func64, Try.ntmps64
    go_wp2_with fail
    refine (peek_nil r s i d _ h hi hd).mono ?_
    rintro e w1 ⟨rfl, hb1⟩
    go_wp2_with fail
    refine (must_no _ 63 _).mono ?_
    rintro e w2 ⟨rfl, rfl⟩
    exact leave_fault rfl ⟨rfl, .of_below hb1⟩
  | b :: l, hl =>
    have hb : b = 92 := by
      by_cases e : b = 92
      · exact e
      · simp [letterOf, e] at hl
    subst hb
    match l, hl with
    | [], hl =>
      obtain rfl : 65 = c := by simpa [letterOf] using hl
      obtain ⟨hlt, _, hd'⟩ := drop_some hd
      have HD' := Lib.hid hd'
      clear hd'
      go_enter Try.func64, Try.ntmps64
      go_wp2_with fail
      refine (peek_cons r s i d _ 92 [] h hd).mono ?_
      rintro e w1 ⟨rfl, hb1⟩
      have h1 := h.below hb1
      have c1 : _ = some (Value.int .i64 i) := h1.cell 1
      have f1 := h1.frozen 1
      go_wp2_with fail
      refine (must_ok _ 63 _).mono ?_
      rintro e w2 ⟨rfl, rfl⟩
      go_wp2_with fail
      refine (escaped_nil r s (i + 1) d _ h1.step (by omega) HD'.out).mono ?_
      rintro e w3 ⟨rfl, hk⟩
      exact leave_fault rfl ⟨rfl, ((Kept.of_below hb1).setCell (p := ⟨r, 1, none⟩) (.inl (by simp)) _).trans (hk.mono (by simpa [World.setCell] using hb1.size) (fun _ _ h => h))⟩
    | c' :: l', hl => simp [letterOf] at hl

set_option maxHeartbeats 400000 in
theorem letter_ok (r : Nat) (s : ByteArray) (i d : Nat) (w : World) (b : UInt8) (l : List UInt8) (h : Rd w r s i d) (hs : s.size ≤ 64) (hl : letterOf (s.data.toList.drop i) = .ok (b, l)) :
    Calls Try.prog 64 #[.pointer (some ⟨r, 0, none⟩)] w fun e w' => e = .returned (.int .u8 b.toNat) ∧ Kept w.heap.size [r] w w' ∧ ∃ j, Rd w' r s j d ∧ i < j ∧ j ≤ s.size ∧ s.data.toList.drop j = l := by
  generalize hd : s.data.toList.drop i = l0 at hl
  match l0, hl with
  | [], hl => simp [letterOf] at hl
  | c :: l0, hl =>
    obtain ⟨hlt, _, hd'⟩ := drop_some hd
    have HD' := Lib.hid hd'
    clear hd'
    by_cases e : c = 92
    · subst e
      match l0, hl with
      | [], hl => simp [letterOf] at hl
      | c' :: l0, hl =>
        obtain ⟨rfl, rfl⟩ : c' = b ∧ l0 = l := by simpa [letterOf] using hl
        go_enter Try.func64, Try.ntmps64
        go_wp2_with fail
        refine (peek_cons r s i d _ 92 _ h hd).mono ?_
        rintro e w1 ⟨rfl, hb1⟩
        have h1 := h.below hb1
        have c1 : _ = some (Value.int .i64 i) := h1.cell 1
        have f1 := h1.frozen 1
        go_wp2_with fail
        refine (must_ok _ 63 _).mono ?_
        rintro e w2 ⟨rfl, rfl⟩
        go_wp2_with fail
        refine (escaped_cons r s (i + 1) d _ c' l0 h1.step hs HD'.out).mono ?_
        rintro e w3 ⟨rfl, hk, hr⟩
        go_wp2
        go_ret
        obtain ⟨hlt2, _, hd2⟩ := drop_some HD'.out
        exact ⟨rfl, ((Kept.of_below hb1).setCell (p := ⟨r, 1, none⟩) (.inl (by simp)) _).trans (hk.mono (by simpa [World.setCell] using hb1.size) (fun _ _ h => h)), i + 1 + 1, hr, by omega, by omega, hd2⟩
    · obtain ⟨rfl, rfl⟩ : c = b ∧ l0 = l := by simpa [letterOf, e] using hl
      have hne : ((c.toNat : Int) == 92) = false := by
        rw [beq_eq_false_iff_ne]
        intro h
        exact e (UInt8.toNat_inj.1 (by simpa using Int.ofNat.inj h))
      go_enter Try.func64, Try.ntmps64
      go_wp2_with fail
      refine (peek_cons r s i d _ c _ h hd).mono ?_
      rintro e w1 ⟨rfl, hb1⟩
      have h1 := h.below hb1
      have c1 : _ = some (Value.int .i64 i) := h1.cell 1
      have f1 := h1.frozen 1
      go_wp2_with fail
      refine (must_ok _ 63 _).mono ?_
      rintro e w2 ⟨rfl, rfl⟩
      go_wp2
      go_ret
      exact ⟨rfl, (Kept.of_below hb1).setCell (.inl (by simp)) _, i + 1, h1.step, by omega, by omega, HD'.out⟩

end Go.Proofs.Ytlmnincllndpnaa
