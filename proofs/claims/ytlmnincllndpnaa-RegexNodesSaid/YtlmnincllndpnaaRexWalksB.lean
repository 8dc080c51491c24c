/- The walks of layer 6 (regex): sets of bytes. -/
import Derived.Test.YtlmnincllndpnaaRexWalksA
import Derived.Deep.LoopGhost
import Derived.Deep.CutBlock
namespace Go.Proofs.Ytlmnincllndpnaa
open Go.RowKit
attribute [local go_sem ↓] Go.wp_at_zero Go.wp_at_succ
attribute [local go_sem] Later.cell Later.frozen

theorem shl_one (m : Nat) (hm : m < 64) : IntKind.u64.wrap (2 ^ m) = ((2 ^ m : Nat) : Int) := by
  have h : (2 : Nat) ^ m < 2 ^ 64 := Nat.pow_lt_pow_right (by omega) hm
  rw [show ((2 : Int) ^ m) = ((2 ^ m : Nat) : Int) by simp]
  rw [IntKind.wrap_u64]
  generalize 2 ^ m = x at *
  have : (2 : Nat) ^ 64 = 18446744073709551616 := by decide
  omega
theorem or_word (x m : Nat) (hx : x < 2 ^ 64) (hm : m < 64) : bits .or .u64 (x : Int) (IntKind.u64.wrap (2 ^ m)) = ((x ||| 2 ^ m : Nat) : Int) := by
  have h : (2 : Nat) ^ m < 2 ^ 64 := Nat.pow_lt_pow_right (by omega) hm
  have : (2 : Nat) ^ 64 = 18446744073709551616 := by decide
  rw [shl_one m hm]
  exact u64_or_nat x (2 ^ m) (by omega) (by omega)
theorem node_put (k : Int) (s b : Nat) (kids : Value) (hb : b < 256) :
    (nodeCells k s kids).setIfInBounds (1 + b / 64) (.int .u64 ((word s (b / 64) ||| 2 ^ (b % 64) : Nat) : Int)) = nodeCells k (s ||| 2 ^ b) kids := by
  have : b / 64 = 0 ∨ b / 64 = 1 ∨ b / 64 = 2 ∨ b / 64 = 3 := by omega
  unfold nodeCells
  rw [word_or, word_or, word_or, word_or]
  rcases this with e | e | e | e <;> simp [e]

set_option maxHeartbeats 400000 in
theorem put_calls (p : Nat) (k : Int) (kids : Value) (s0 a b : Nat) (w : World) (h : Blk w p 52 (nodeCells k s0 kids)) (ha : a < 256) (hb : b < 256) :
    Calls Try.prog 60 #[.pointer (some ⟨p, 1, none⟩), .int .u8 a, .int .u8 b] w fun e w' =>
      e = .returned (.tuple #[]) ∧ Kept w.heap.size [p] w w' ∧ Blk w' p 52 (nodeCells k (putR s0 a b) kids) := by
  go_enter Try.func60, Try.ntmps60
  go_wp2
  go_loopw [6] (fun i wr => ∃ m : Nat, a ≤ m ∧ m ≤ 256 ∧ m - a ≤ b + 1 - a ∧ i = .int .i64 (m : Int) ∧ Kept w.heap.size [p] w wr ∧ Blk wr p 52 (nodeCells k (putN s0 a (m - a)) kids)) (fun i _ => 256 - (intOf i).toNat)
  case atStart => exact ⟨a, by omega, by omega, by omega, rfl, Kept.refl _ _ _, by rw [Nat.sub_self]; exact h⟩
  case round =>
    obtain ⟨m, hm1, hm2, hm3, rfl, hk, hblk⟩ := hrel
    by_cases hlt : m ≤ b
    · obtain ⟨s1, hs1⟩ : ∃ s1, putN s0 a (m - a) = s1 := ⟨_, rfl⟩
      rw [hs1] at hblk
      have hc : wr.cell? ⟨p, 1 + m / 64, none⟩ = some (.int .u64 (word s1 (m / 64))) := by
        rw [hblk.cell]
        have : m / 64 = 0 ∨ m / 64 = 1 ∨ m / 64 = 2 ∨ m / 64 = 3 := by omega
        rcases this with e | e | e | e <;> rw [e] <;> rfl
      have hf := hblk.frozen (1 + m / 64)
      have HS := Lib.hid hs1
      have hb1 : (m : Int) % 64 < 64 := by omega
      have hb0 : 0 ≤ (m : Int) % 64 := by omega
      have hp := hblk.lt
      clear hs1
      go_wp2
      refine wp_region_later_tail 12 (by kernel_rfl) (by kernel_rfl) ?_
      simp only [List.take_succ_cons, List.take_zero, List.drop_succ_cons, List.drop_zero]
      repeat (go_big_quiet_step (fail))
      refine wpQuiet_nil ?_
      rintro w2 ⟨⟨_, hb2⟩, rfl⟩
      have hblk2 := hblk.below hb2 hp
      have hc2 := later hb2 hc
      have hf2 := hblk2.frozen (1 + m / 64)
      clear hc hf
      go_wp2
      go_roundw
      case rel =>
        refine ⟨m + 1, by omega, by omega, by omega, by go_num, (hk.trans (.of_below (hb2.mono hk.size))).setCell (.inl (by simp)) _, ?_⟩
        have := hblk2.set_ (1 + m / 64) (.int .u64 (bits .or .u64 (word s1 (m / 64)) (IntKind.u64.wrap (2 ^ (m % 64)))))
        rw [or_word _ _ (word_lt _ _) (by omega), node_put k s1 m kids (by omega)] at this
        rw [show m + 1 - a = (m - a) + 1 by omega, putN, HS.out, show a + (m - a) = m by omega, or_word _ _ (word_lt _ _) (by omega)]
        exact this
      case measure => simp [intOf]; omega
    · go_wp2
      go_end0
      refine ⟨rfl, hk, ?_⟩
      unfold putR
      rw [show b + 1 - a = m - a by omega]
      exact hblk
theorem bit_test (s b : Nat) (_hb : b < 256) : (bits .and .u64 ((word s (b / 64) : Int) / 2 ^ (b % 64)) 1 == 1) = s.testBit b := by
  have hx : word s (b / 64) / 2 ^ (b % 64) < 18446744073709551616 := Nat.lt_of_le_of_lt (Nat.div_le_self _ _) (by have := word_lt s (b / 64); rw [show (2 : Nat) ^ 64 = 18446744073709551616 by decide] at this; exact this)
  have e : ((word s (b / 64) : Int) / 2 ^ (b % 64)) = ((word s (b / 64) / 2 ^ (b % 64) : Nat) : Int) := by simp
  have hw := word_bit s b
  rw [Nat.shiftRight_eq_div_pow] at hw
  have := u64_and_nat (word s (b / 64) / 2 ^ (b % 64)) 1 hx (by omega)
  rw [e, show (1 : Int) = ((1 : Nat) : Int) from rfl, this, Nat.and_one_is_mod, hw]
  cases s.testBit b <;> rfl
def setVal (s : Nat) : Value := .agg #[.int .u64 (word s 0), .int .u64 (word s 1), .int .u64 (word s 2), .int .u64 (word s 3)]

set_option maxHeartbeats 400000 in
theorem has_calls (s b : Nat) (hb : b < 256) (w : World) :
    Calls Try.prog 22 #[setVal s, .int .u8 b] w fun e w' => e = .returned (.bool (s.testBit b)) ∧ Below w.heap.size w w' := by
  have hc : ∀ t, (w.alloc (.cells #[.int .u64 (word s 0), .int .u64 (word s 1), .int .u64 (word s 2), .int .u64 (word s 3)] t)).cell? ⟨w.heap.size, b / 64, none⟩ = some (.int .u64 (word s (b / 64))) := by
    intro t
    have : b / 64 = 0 ∨ b / 64 = 1 ∨ b / 64 = 2 ∨ b / 64 = 3 := by omega
    rcases this with e | e | e | e <;> rw [e] <;> simp [World.cell?_alloc_new]
  have hfin := Lib.hid (bit_test s b hb)
  unfold setVal
  go_enter Try.func22, Try.ntmps22
  go_wp2
  go_ret
  exact ⟨ret_bool hfin.out, by go_grown⟩
theorem info_u64 : (Try.prog.info? 43).map (fun i => (i.zero, i.size, i.bytes)) = some (some (.int .u64 0), 1, 8) := by kernel_rfl
theorem arr4_eq (a b c d e f g h : Int) (w : World) : (Op.equalIn 10000 45 (.agg #[.int .u64 a, .int .u64 b, .int .u64 c, .int .u64 d]) (.agg #[.int .u64 e, .int .u64 f, .int .u64 g, .int .u64 h])).run Try.prog w = .ok (a == e && (b == f && (c == g && d == h))) w := by
  obtain ⟨i0, hi0, hz0, hz1, hz2⟩ := info_parts info_u64
  rw [show (10000 : Nat) = 9998 + 1 + 1 from rfl, Op.equalIn]
  simp only [run_underlying Try.underlying45, Sem.run_bind, Result.andThen_ok, sizeOf, typeInfo]
  simp [Std.Legacy.Range.forIn_eq_forIn_range', List.range', hz1, go_sem, hi0]
  by_cases h1 : a = e <;> by_cases h2 : b = f <;> by_cases h3 : c = g <;> by_cases h4 : d = h <;> simp [h1, h2, h3, h4]

/-- What a walk through a class keeps. -/
structure ClsMem (w wr : World) (r p : Nat) (s : ByteArray) (d j v : Nat) (kids : Value) : Prop where
  kept : Kept w.heap.size [r, p] w wr
  rd : Rd wr r s j d
  node : Blk wr p 52 (nodeCells 1 v kids)
  le : j ≤ s.size
  lt : v < 2 ^ 256

theorem ClsMem.below {w wr w1 : World} {r p d j v : Nat} {s : ByteArray} {kids : Value} (h : ClsMem w wr r p s d j v kids) (hb : Below wr.heap.size wr w1) : ClsMem w w1 r p s d j v kids :=
  ⟨h.kept.then_ hb, h.rd.below hb, h.node.below hb h.node.lt, h.le, h.lt⟩
theorem ClsMem.step {w wr : World} {r p d j v : Nat} {s : ByteArray} {kids : Value} (h : ClsMem w wr r p s d j v kids) (hr : p ≠ r) (hj : j < s.size) : ClsMem w (wr.setCell ⟨r, 1, none⟩ (.int .i64 ((j : Int) + 1))) r p s d (j + 1) v kids :=
  ⟨h.kept.setCell (.inl (by simp)) _, h.rd.step, h.node.far (by simpa using hr) _, hj, h.lt⟩
theorem ClsMem.read {w wr w1 : World} {r p d j j' v : Nat} {s : ByteArray} {kids : Value} (h : ClsMem w wr r p s d j v kids) (hr : p ≠ r) (hk : Kept wr.heap.size [r] wr w1) (hrd : Rd w1 r s j' d) (hj : j' ≤ s.size) : ClsMem w w1 r p s d j' v kids :=
  ⟨h.kept.trans (hk.mono h.kept.size (fun k _ h => by simp at h; simp [h])), hrd, h.node.kept hk h.node.lt (by simpa using hr), hj, h.lt⟩

def ClassOut (w : World) (r p : Nat) (s : ByteArray) (d : Nat) (kids : Value) (res : Except Nat (Tr × List UInt8)) (e : Ending) (w' : World) : Prop :=
  match res with
  | .ok (t, l) => ∃ v j, t = .cls v ∧ s.data.toList.drop j = l ∧ e = .returned (.tuple #[]) ∧ ClsMem w w' r p s d j v kids
  | .error c => e = fault c ∧ Kept w.heap.size [r, p] w w'

theorem class_split {n : Nat} {l l1 : List UInt8} {turned : Bool} {res : Except Nat (Tr × List UInt8)} (h : classF n l = some res) (ht : decide (l.head? = some 94) = turned) (hl : (if turned = true then l.tail else l) = l1) :
    (∃ c, itemsF n l1 0 0 false = some (.error c) ∧ res = .error c) ∨ (∃ x, itemsF n l1 0 0 false = some (.ok x) ∧ res = if x.good turned then .ok (.cls (x.set turned), x.rest) else .error 63) := by
  unfold classF at h
  simp only [ht, hl] at h
  split at h
  · cases h
  · rename_i c hc
    exact .inl ⟨c, hc, by injection h with h; exact h.symm⟩
  · rename_i x hx
    refine .inr ⟨x, hx, ?_⟩
    by_cases g : x.good turned = true
    · rw [if_pos g] at h ⊢; injection h with h; exact h.symm
    · rw [if_neg g] at h ⊢; injection h with h; exact h.symm
/-- What the loop over a class's items comes to. -/
def ItemsOut (rr : Except Nat Items) (res : Except Nat (Tr × List UInt8)) (turned : Bool) : Prop :=
  match rr with
  | .error c => res = .error c
  | .ok x => res = if x.good turned then .ok (.cls (x.set turned), x.rest) else .error 63
theorem class_items {n : Nat} {l l1 : List UInt8} {turned : Bool} {res : Except Nat (Tr × List UInt8)} (h : classF n l = some res) (ht : decide (l.head? = some 94) = turned) (hl : (if turned = true then l.tail else l) = l1) :
    ∃ rr, itemsF n l1 0 0 false = some rr ∧ ItemsOut rr res turned := by
  rcases class_split h ht hl with ⟨c, h1, h2⟩ | ⟨x, h1, h2⟩
  · exact ⟨_, h1, h2⟩
  · exact ⟨_, h1, h2⟩
theorem ranges_iff (s : ByteArray) (j : Nat) : ranges (s.data.toList.drop j) = true ↔ ∃ h : j + 1 < s.size, s[j] = 45 ∧ s[j + 1] ≠ 93 := by
  generalize hd : s.data.toList.drop j = l
  match l, hd with
  | [], hd =>
    have : s.size ≤ j := by
      have := congrArg List.length hd
      simp at this
      omega
    simp [ranges]
    intro h; omega
  | [b], hd =>
    obtain ⟨h1, _, h2⟩ := drop_some hd
    have : s.size ≤ j + 1 := by
      have := congrArg List.length h2
      simp at this
      omega
    simp [ranges]
    intro h; omega
  | b :: c :: l, hd =>
    obtain ⟨h1, rfl, h2⟩ := drop_some hd
    obtain ⟨h3, rfl, _⟩ := drop_some h2
    simp [ranges, h3]

theorem itemsF_pos {m : Nat} {l : List UInt8} {v k : Nat} {f : Bool} {rr : Except Nat Items} (h : itemsF m l v k f = some rr) : ∃ m', m = m' + 1 := by
  cases m with
  | zero => simp [itemsF] at h
  | succ m => exact ⟨m, rfl⟩
theorem itemsF_end {m : Nat} {l : List UInt8} {v k : Nat} {f : Bool} {rr : Except Nat Items} (h : itemsF (m + 1) l v k f = some rr) (hl : l.head? = some 93) : rr = .ok ⟨v, k, f, l.tail⟩ := by
  rw [itemsF, if_pos hl] at h
  injection h with h
  exact h.symm
theorem itemsF_error {m : Nat} {l : List UInt8} {v k : Nat} {f : Bool} {rr : Except Nat Items} {c : Nat} (h : itemsF (m + 1) l v k f = some rr) (hl : ¬ l.head? = some 93) (hi : itemOf l = .error c) : rr = .error c := by
  rw [itemsF, if_neg hl, hi] at h
  injection h with h
  exact h.symm
theorem itemsF_step {m : Nat} {l l' : List UInt8} {v k : Nat} {f : Bool} {rr : Except Nat Items} {a b : UInt8} (h : itemsF (m + 1) l v k f = some rr) (hl : ¬ l.head? = some 93) (hi : itemOf l = .ok (a, b, l')) :
    itemsF m l' (putR v a.toNat b.toNat) (k + 1) (f || decide (b < a)) = some rr := by
  rw [itemsF, if_neg hl, hi] at h
  exact h
theorem head_cons {l : List UInt8} {b : UInt8} (h : l.head? = some b) : l = b :: l.tail := by
  cases l with
  | nil => simp at h
  | cons x l => simp at h; rw [h]; rfl
theorem u8_lt (a b : UInt8) : decide ((b.toNat : Int) < (a.toNat : Int)) = decide (b < a) := by
  rw [decide_eq_decide, UInt8.lt_iff_toNat_lt]; omega
theorem u8_ne {b c : UInt8} (h : ¬ b = c) : ((b.toNat : Int) == (c.toNat : Int)) = false := by
  rw [beq_eq_false_iff_ne]
  intro e
  exact h (UInt8.toNat_inj.1 (Int.ofNat.inj e))

theorem ones_xor (x : Nat) (hx : x < 2 ^ 64) : (2 ^ 64 - 1) ^^^ x = 2 ^ 64 - 1 - x := by
  apply Nat.eq_of_testBit_eq
  intro j
  rw [Nat.sub_sub (2 ^ 64) 1 x, Nat.add_comm 1 x, Nat.testBit_two_pow_sub_succ hx, Nat.testBit_xor, Nat.testBit_two_pow_sub_one]
  by_cases hj : j < 64
  · simp [hj]
  · have : x.testBit j = false := Nat.testBit_lt_two_pow (Nat.lt_of_lt_of_le hx (Nat.pow_le_pow_right (by omega) (by omega)))
    simp [hj, this]
theorem not_word (v i : Nat) (hv : v < 2 ^ 256) (hi : i < 4) : bits .xor .u64 IntKind.u64.max (word v i : Int) = ((word (compl v) i : Nat) : Int) := by
  have h1 : IntKind.u64.max = ((18446744073709551615 : Nat) : Int) := rfl
  have h2 := word_lt v i
  have e : (2 : Nat) ^ 64 = 18446744073709551616 := by decide
  rw [h1, u64_xor_nat _ _ (by omega) (by omega), word_compl hv i hi]
  congr 1
  exact ones_xor (word v i) h2

/-- A class whose first k words are turned. -/
def turnW (v k i : Nat) : Value := .int .u64 (if i < k then word (compl v) i else word v i : Nat)
def turnCells (v k : Nat) (kids : Value) : Array Value := #[.int .i64 1, turnW v k 0, turnW v k 1, turnW v k 2, turnW v k 3, kids]
theorem turn_start (v : Nat) (kids : Value) : nodeCells 1 v kids = turnCells v 0 kids := by simp [nodeCells, turnCells, turnW]
theorem turn_end (v : Nat) (kids : Value) : turnCells v 4 kids = nodeCells 1 (compl v) kids := by simp [nodeCells, turnCells, turnW]
theorem turn_cell (v k : Nat) (kids : Value) (hk : k < 4) : (turnCells v k kids)[1 + k]? = some (.int .u64 (word v k)) := by
  have : k = 0 ∨ k = 1 ∨ k = 2 ∨ k = 3 := by omega
  rcases this with e | e | e | e <;> subst e <;> simp [turnCells, turnW]
theorem turn_step (v k : Nat) (kids : Value) (hk : k < 4) : (turnCells v k kids).setIfInBounds (1 + k) (.int .u64 (word (compl v) k)) = turnCells v (k + 1) kids := by
  have : k = 0 ∨ k = 1 ∨ k = 2 ∨ k = 3 := by omega
  rcases this with e | e | e | e <;> subst e <;> simp [turnCells, turnW]

set_option maxRecDepth 100000 in
set_option maxHeartbeats 2000000 in
theorem class_calls (n : Nat) (r p : Nat) (s : ByteArray) (i d : Nat) (kids : Value) (w : World) (res) (hm : ClsMem w w r p s d i 0 kids) (hr : p ≠ r) (hs : s.size ≤ 64) (hc : classF n (s.data.toList.drop i) = some res) :
    Calls Try.prog 59 #[.pointer (some ⟨r, 0, none⟩), .pointer (some ⟨p, 1, none⟩)] w (ClassOut w r p s d kids res) := by
  obtain ⟨l, hl⟩ : ∃ l, s.data.toList.drop i = l := ⟨_, rfl⟩
  rw [hl] at hc
  obtain ⟨turned, ht⟩ : ∃ b, decide (l.head? = some 94) = b := ⟨_, rfl⟩
  obtain ⟨l1, hl1⟩ : ∃ l1, (if turned then l.tail else l) = l1 := ⟨_, rfl⟩
  have HC : Hid (_ = _) := hc
  have HL := Lib.hid hl
  have HT := Lib.hid ht
  have HL1 := Lib.hid hl1
  clear hc hl ht hl1
  go_enter Try.func59, Try.ntmps59
  obtain ⟨b0, hb0⟩ : ∃ b, pk l = b := ⟨_, rfl⟩
  obtain ⟨o0, ho0⟩ : ∃ b, more l = b := ⟨_, rfl⟩
  have ht : ((b0 : Int) == 94) = turned := (pk_eq (c := 94) hb0 (by decide)).trans HT.out
  have HB0 := Lib.hid hb0
  have HO0 := Lib.hid ho0
  clear hb0 ho0
  go_wp2_with fail
  refine (peek_any r s i d _ l b0 o0 hm.rd hm.le HL.out HB0.out HO0.out).mono ?_
  rintro e w1 ⟨rfl, hb1⟩
  have hm1 := hm.below hb1
  go_upto_if 21 with fail
  clear ht
  go_cut [] (fun wx => ∃ j, s.data.toList.drop j = l1 ∧ ClsMem w wx r p s d j 0 kids)
  case first =>
    cases turned with
    | true =>
      have hl := HL.out
      match l, hl, HT, HL1 with
      | [], _, HT, _ => exact absurd HT.out (by simp)
      | b :: l2, hl, _, HL1 =>
        obtain ⟨hlt, _, hd⟩ := drop_some hl
        have HD := Lib.hid hd
        have c1 : _ = some (Value.int .i64 i) := hm1.rd.cell 1
        have f1 := hm1.rd.frozen 1
        clear hd hl
        go_wp2
        go_meet
        exact ⟨i + 1, HD.out.trans HL1.out, hm1.step hr hlt⟩
    | false =>
      go_wp2
      go_meet
      exact ⟨i, HL.out.trans HL1.out, hm1⟩
  case rest =>
    obtain ⟨j0, hj0, hm0⟩ := hcut
    obtain ⟨rr, hrr, hout⟩ := class_items HC.out HT.out HL1.out
    obtain ⟨wx, rfl⟩ : ∃ wx, wx = wc := ⟨_, rfl⟩
    rw [← hj0] at hrr
    have HRR := Lib.hid hrr
    have HOUT := Lib.hid hout
    clear hrr hout hj0 hm1 hb1 HL1 HC HL HT hm
    go_upto_block 0 with fail
    go_cut [7, 8] (fun s7 s8 wz => ∃ x j, rr = .ok x ∧ s7 = .int .i64 x.k ∧ s8 = .bool x.falls ∧ s.data.toList.drop j = 93 :: x.rest ∧ ClsMem w wz r p s d j x.s kids)
    case first =>
      go_wp2_with fail
      go_loopg [7, 8] n (fun m s7 s8 wr => ∃ j v k f, s7 = .int .i64 (k : Nat) ∧ s8 = .bool f ∧ itemsF m (s.data.toList.drop j) v k f = some rr ∧ ClsMem w wr r p s d j v kids ∧ k ≤ j)
      case atStart => exact ⟨j0, 0, 0, false, rfl, rfl, HRR.out, hm0, by omega⟩
      case round =>
        obtain ⟨j, v, k, f, rfl, rfl, hit, hmr, hkj⟩ := hrel
        have hle := hmr.le
        obtain ⟨l, hl⟩ : ∃ l, s.data.toList.drop j = l := ⟨_, rfl⟩
        rw [hl] at hit
        obtain ⟨b1, hb1⟩ : ∃ b, pk l = b := ⟨_, rfl⟩
        obtain ⟨o1, ho1⟩ : ∃ b, more l = b := ⟨_, rfl⟩
        have h93 := pk_eq (c := 93) hb1 (by decide)
        have HB1 := Lib.hid hb1
        have HO1 := Lib.hid ho1
        have HIT := Lib.hid hit
        have H93 := Lib.hid h93
        have HL := Lib.hid hl
        clear hb1 ho1 hit h93 hl
        go_wp2_with fail
        refine (peek_any r s j d _ l b1 o1 hmr.rd hmr.le HL.out HB1.out HO1.out).mono ?_
        rintro e w1 ⟨rfl, hb1⟩
        have hm1 := hmr.below hb1
        obtain ⟨wy, rfl⟩ : ∃ wy, wy = w1 := ⟨_, rfl⟩
        obtain ⟨m, hgk⟩ := itemsF_pos HIT.out
        have HGK := Lib.hid hgk
        have HIT' : Hid (itemsF (m + 1) l v k f = some rr) := by rw [← hgk]; exact HIT
        clear hgk HIT hmr hb1
        by_cases h93 : l.head? = some 93
        · have e1 : ((b1 : Int) == 93) = true := by have := H93.out; simp only [h93, decide_true] at this; exact this
          have e2 : o1 = true := by rw [← HO1.out]; cases l with | nil => simp at h93 | cons => rfl
          subst e2
          have hfin := itemsF_end HIT'.out h93
          have HF := Lib.hid hfin
          have h94 := HL.out.trans (head_cons h93)
          have H94 := Lib.hid h94
          clear hfin h93 h94
          go_wp2
          go_meet
          exact ⟨⟨v, k, f, l.tail⟩, j, HF.out, rfl, rfl, H94.out, hm1⟩
        · have e1 : o1 = true → ((b1 : Int) == 93) = false := fun _ => by have := H93.out; simp only [h93, decide_false] at this; exact this
          have N93 := Lib.hid h93
          clear h93
          cases hlt : letterOf l with
          | error c =>
            have hio : itemOf l = .error c := by rw [itemOf, hlt]
            have hfin := itemsF_error HIT'.out N93.out hio
            have hle2 := HOUT.out
            rw [hfin] at hle2
            have hres : res = .error c := hle2
            rw [← HL.out] at hlt
            have HLT := Lib.hid hlt
            have HRES := Lib.hid hres
            clear hio hfin hle2 hlt hres
            cases o1
            all_goals
              (first | (have e2 := e1 rfl) | skip)
              clear e1
              go_wp2_with fail
              refine (letter_error r s j d _ c hm1.rd hs hm1.le HLT.out).mono ?_
              rintro e w2 ⟨rfl, hk⟩
              refine leave_fault rfl ?_
              rw [HRES.out]
              exact ⟨rfl, hm1.kept.trans (hk.mono hm1.kept.size (fun k _ h => by simp at h; simp [h]))⟩
          | ok al =>
            obtain ⟨a, l1'⟩ := al
            have e2 : o1 = true := by rw [← HO1.out]; cases l with | nil => simp [letterOf] at hlt | cons => rfl
            subst e2
            have e3 := e1 rfl
            rw [← HL.out] at hlt
            have HLT := Lib.hid hlt
            clear e1 hlt
            go_wp2_with fail
            refine (letter_ok r s j d _ a l1' hm1.rd hs HLT.out).mono ?_
            rintro e w2 ⟨rfl, hk, j1, hrd, hjl, hjs, hd1⟩
            have hm2 := hm1.read hr hk hrd hjs
            have HD1 := Lib.hid hd1
            have c0 : _ = some (Value.string s) := hm2.rd.cell 0
            have c1 : _ = some (Value.int .i64 j1) := hm2.rd.cell 1
            have hrl := hm2.rd.lt
            clear hd1 hk hrd hm1
            obtain ⟨wy, rfl⟩ : ∃ wy, wy = w2 := ⟨_, rfl⟩
            go_upto_region 10 with fail
            go_cut [79] (fun s79 wz => s79 = .bool (ranges l1') ∧ Below wy.heap.size wy wz)
            case first =>
              have hri := ranges_iff s j1
              rw [HD1.out] at hri
              by_cases g1 : j1 + 1 < s.size
              · have x1 : decide ((j1 : Int) + 1 < (s.size : Int)) = true := by simp; omega
                have y1 : j1 < s.size := by omega
                by_cases g2 : s[j1] = 45
                · have x2 : ((s[j1].toNat : Int) == 45) = true := by rw [g2]; rfl
                  by_cases g3 : s[j1 + 1] = 93
                  · have x3 : ((s[j1 + 1].toNat : Int) != 93) = false := by rw [g3]; rfl
                    have hfin : false = ranges l1' := by
                      symm; rw [← Bool.not_eq_true]; intro h; exact (hri.1 h).2.2 g3
                    have HF := Lib.hid hfin
                    clear hfin hri g2 g3
                    have z1 : IntKind.i64.wrap ((j1 : Int) + 1) = (j1 : Int) + 1 := IntWalk.i64_in _ (by omega)
                    have z2 : (0 : Int) ≤ (j1 : Int) + 1 := by omega
                    have z3 : ((j1 : Int) + 1).toNat = j1 + 1 := by omega
                    have z4 : (j1 : Int) + 1 < (s.size : Int) := by omega
                    refine wp_region_later (by kernel_rfl) (by kernel_rfl) ?_
                    repeat (go_big_quiet_step (fail))
                    refine wpQuiet_nil ?_
                    rintro w3 ⟨⟨_, hb3⟩, rfl⟩
                    go_wp2
                    go_meet
                    exact ⟨vb HF.out, hb3⟩
                  · have x3 : ((s[j1 + 1].toNat : Int) != 93) = true := by
                      rw [bne_iff_ne]; intro e; exact g3 (UInt8.toNat_inj.1 (by simpa using Int.ofNat.inj e))
                    have hfin : true = ranges l1' := (hri.2 ⟨g1, g2, g3⟩).symm
                    have HF := Lib.hid hfin
                    clear hfin hri g2 g3
                    have z1 : IntKind.i64.wrap ((j1 : Int) + 1) = (j1 : Int) + 1 := IntWalk.i64_in _ (by omega)
                    have z2 : (0 : Int) ≤ (j1 : Int) + 1 := by omega
                    have z3 : ((j1 : Int) + 1).toNat = j1 + 1 := by omega
                    have z4 : (j1 : Int) + 1 < (s.size : Int) := by omega
                    refine wp_region_later (by kernel_rfl) (by kernel_rfl) ?_
                    repeat (go_big_quiet_step (fail))
                    refine wpQuiet_nil ?_
                    rintro w3 ⟨⟨_, hb3⟩, rfl⟩
                    go_wp2
                    go_meet
                    exact ⟨vb HF.out, hb3⟩
                · have x2 : ((s[j1].toNat : Int) == 45) = false := u8_ne (c := 45) g2
                  have hfin : false = ranges l1' := by
                    symm; rw [← Bool.not_eq_true]; intro h; exact g2 (hri.1 h).2.1
                  have HF := Lib.hid hfin
                  clear hfin hri g2
                  refine wp_region_later (by kernel_rfl) (by kernel_rfl) ?_
                  repeat (go_big_quiet_step (fail))
                  refine wpQuiet_nil ?_
                  rintro w3 ⟨⟨_, hb3⟩, rfl⟩
                  go_wp2
                  go_meet
                  exact ⟨vb HF.out, hb3⟩
              · have x1 : decide ((j1 : Int) + 1 < (s.size : Int)) = false := by simp; omega
                have hfin : false = ranges l1' := by
                  symm; rw [← Bool.not_eq_true]; intro h; exact g1 (hri.1 h).1
                have HF := Lib.hid hfin
                clear hfin hri
                refine wp_region_later (by kernel_rfl) (by kernel_rfl) ?_
                repeat (go_big_quiet_step (fail))
                refine wpQuiet_nil ?_
                rintro w3 ⟨⟨_, hb3⟩, rfl⟩
                go_wp2
                go_meet
                exact ⟨vb HF.out, hb3⟩
            case rest =>
              obtain ⟨rfl, hb3⟩ := hcut
              have hm3 := hm2.below hb3
              obtain ⟨wv, rfl⟩ : ∃ wv, wv = wc := ⟨_, rfl⟩
              clear c0 c1 hrl hm2 hb3
              obtain ⟨rg, hrg⟩ : ∃ b, ranges l1' = b := ⟨_, rfl⟩
              rw [hrg]
              have HRG := Lib.hid hrg
              clear hrg
              go_upto_if 79 with fail
              go_cut [12] (fun s12 wz => ∃ (b' : UInt8) (l2 : List UInt8) (j2 : Nat), s12 = .int .u8 b'.toNat ∧ itemOf l = .ok (a, b', l2) ∧ s.data.toList.drop j2 = l2 ∧ ClsMem w wz r p s d j2 v kids ∧ j1 ≤ j2)
              case first =>
                cases rg with
                | false =>
                  go_wp2
                  go_meet
                  exact ⟨a, l1', j1, rfl, by rw [itemOf, ← HL.out, HLT.out]; simp [HRG.out], HD1.out, hm3, by omega⟩
                | true =>
                  have hr1 := HRG.out
                  rw [← HD1.out, ranges_iff] at hr1
                  obtain ⟨hlt1, _, _⟩ := hr1
                  have c1 : _ = some (Value.int .i64 j1) := hm3.rd.cell 1
                  have f1 := hm3.rd.frozen 1
                  have hm4 := hm3.step hr (by omega)
                  have htl : s.data.toList.drop (j1 + 1) = l1'.tail := by rw [← HD1.out, List.tail_drop]
                  have HTL := Lib.hid htl
                  clear htl
                  cases hlt2 : letterOf l1'.tail with
                  | error c =>
                    have hio : itemOf l = .error c := by rw [itemOf, ← HL.out, HLT.out]; simp [HRG.out, hlt2]
                    have hfin := itemsF_error HIT'.out N93.out hio
                    have hle2 := HOUT.out
                    rw [hfin] at hle2
                    have hres : res = .error c := hle2
                    rw [← HTL.out] at hlt2
                    have HLT2 := Lib.hid hlt2
                    have HRES := Lib.hid hres
                    clear hio hfin hle2 hlt2 hres
                    go_wp2_with fail
                    refine (letter_error r s (j1 + 1) d _ c hm4.rd hs hm4.le HLT2.out).mono ?_
                    rintro e w2 ⟨rfl, hk⟩
                    refine leave_fault rfl ?_
                    rw [HRES.out]
                    exact ⟨rfl, hm4.kept.trans (hk.mono hm4.kept.size (fun k _ h => by simp at h; simp [h]))⟩
                  | ok bl =>
                    obtain ⟨b', l2⟩ := bl
                    have hio : itemOf l = .ok (a, b', l2) := by rw [itemOf, ← HL.out, HLT.out]; simp [HRG.out, hlt2]
                    rw [← HTL.out] at hlt2
                    have HLT2 := Lib.hid hlt2
                    have HIO := Lib.hid hio
                    clear hio hlt2
                    go_wp2_with fail
                    refine (letter_ok r s (j1 + 1) d _ b' l2 hm4.rd hs HLT2.out).mono ?_
                    rintro e w2 ⟨rfl, hk, j2, hrd, hjl2, hjs2, hd2⟩
                    have hm5 := hm4.read hr hk hrd hjs2
                    have HD2 := Lib.hid hd2
                    clear hd2
                    go_wp2
                    go_meet
                    exact ⟨b', l2, j2, rfl, HIO.out, HD2.out, hm5, by omega⟩
              case rest =>
                obtain ⟨b', l2, j2, rfl, hio, hd2, hm5, hj12⟩ := hcut
                obtain ⟨wu, rfl⟩ : ∃ wu, wu = wc := ⟨_, rfl⟩
                have hstep := itemsF_step HIT'.out N93.out hio
                rw [← hd2] at hstep
                have HS := Lib.hid hstep
                have ulo := u8_lt a b'
                have ha := UInt8.toNat_lt a
                have hb' := UInt8.toNat_lt b'
                have hle5 := hm5.le
                clear hstep hio hd2
                have hput := put_calls p 1 kids v a.toNat b'.toNat wu hm5.node (by omega) (by omega)
                have HP := Lib.hid hput
                clear hput
                cases f
                all_goals
                  go_wp2_with fail
                  refine HP.out.mono ?_
                  rintro e w6 ⟨rfl, hk6, hn6⟩
                  have hm6 : ClsMem w w6 r p s d j2 (putR v a.toNat b'.toNat) kids := ⟨hm5.kept.trans (hk6.mono hm5.kept.size (fun k _ h => by simp at h; simp [h])), hm5.rd.kept hk6 hm5.rd.lt (by simpa using hr.symm), hn6, hm5.le, putR_lt hm5.lt (by omega)⟩
                  go_wp2
                  go_roundg m
                  case measure => rw [HGK.out]; omega
                  case rel => exact ⟨j2, _, k + 1, _, by go_num, rfl, HS.out, hm6, by omega⟩
    case rest =>
      obtain ⟨x, j, hrr, rfl, rfl, hd, hmj⟩ := hcut
      obtain ⟨hjlt, _, hd'⟩ := drop_some hd
      obtain ⟨wz, rfl⟩ : ∃ wz, wz = wc := ⟨_, rfl⟩
      have hout := HOUT.out
      rw [hrr] at hout
      have hres : res = if x.good turned then .ok (.cls (x.set turned), x.rest) else .error 63 := hout
      have HRES := Lib.hid hres
      have HD := Lib.hid hd'
      have c1 : _ = some (Value.int .i64 j) := hmj.rd.cell 1
      have f1 := hmj.rd.frozen 1
      have hms := hmj.step hr hjlt
      clear hres hout hrr hd' hd HOUT HRR hm0 hmj
      go_upto_if 106 with fail
      clear c1 f1
      obtain ⟨wq, hwq⟩ : ∃ wq, wz.setCell ⟨r, 1, none⟩ (.int .i64 ((j : Int) + 1)) = wq := ⟨_, rfl⟩
      rw [hwq] at hms ⊢
      clear hwq
      go_cut [] (fun wu => ClsMem w wu r p s d (j + 1) (x.set turned) kids)
      case first =>
        cases turned with
        | false =>
          go_wp2
          go_meet
          exact hms
        | true =>
          go_wp2
          go_loopg [107] 4 (fun m s107 wr => ∃ k : Nat, k + m = 4 ∧ s107 = .int .i64 k ∧ Kept w.heap.size [r, p] w wr ∧ Rd wr r s (j + 1) d ∧ Blk wr p 52 (turnCells x.s k kids))
          case atStart => exact ⟨0, rfl, rfl, hms.kept, hms.rd, by rw [← turn_start]; exact hms.node⟩
          case round =>
            obtain ⟨k, hk4, rfl, hkr, hrr, hnr⟩ := hrel
            have HK4 := Lib.hid hk4
            by_cases hlt : k < 4
            · have ck : wr.cell? ⟨p, 1 + k, none⟩ = some (.int .u64 (word x.s k)) := (hnr.cell _).trans (turn_cell _ _ _ hlt)
              have fk := hnr.frozen (1 + k)
              have hpl := hnr.lt
              clear hk4
              go_wp2
              refine wp_region_later_tail 10 (by kernel_rfl) (by kernel_rfl) ?_
              simp only [List.take_succ_cons, List.take_zero, List.drop_succ_cons, List.drop_zero]
              repeat (go_big_quiet_step (fail))
              refine wpQuiet_nil ?_
              rintro w2 ⟨⟨_, hb2⟩, rfl⟩
              have hn2 := hnr.below hb2 hpl
              have ck2 := later hb2 ck
              have fk2 := hn2.frozen (1 + k)
              clear ck fk
              go_wp2
              go_roundg (gk - 1)
              case measure => have := HK4.out; omega
              case rel =>
                refine ⟨k + 1, by have := HK4.out; omega, by go_num, (hkr.then_ hb2).setCell (.inl (by simp)) _, Blk.far (hrr.below hb2) (by simpa using hr.symm) _, ?_⟩
                have := hn2.set_ (1 + k) (.int .u64 (bits .xor .u64 IntKind.u64.max (word x.s k)))
                rw [not_word x.s k hms.lt hlt, turn_step _ _ _ hlt] at this
                rw [not_word x.s k hms.lt hlt]
                exact this
            · obtain rfl : k = 4 := by omega
              go_wp2
              go_meet
              exact ⟨hkr, hrr, by rw [Items.set, if_pos rfl, ← turn_end]; exact hnr, hms.le, by rw [Items.set, if_pos rfl]; exact compl_lt _⟩
      case rest =>
        have hset := hcut.lt
        obtain ⟨v, hv⟩ : ∃ v, x.set turned = v := ⟨_, rfl⟩
        rw [hv] at hcut
        have HV := Lib.hid hv
        clear hv hset hms
        have c0 : _ = some (Value.int .u64 (word v 0)) := hcut.node.cell 1
        have c1 : _ = some (Value.int .u64 (word v 1)) := hcut.node.cell 2
        have c2 : _ = some (Value.int .u64 (word v 2)) := hcut.node.cell 3
        have c3 : _ = some (Value.int .u64 (word v 3)) := hcut.node.cell 4
        have heq := arr4_eq
        have hzero : (!((word v 0 : Int) == 0) || (!((word v 1 : Int) == 0) || (!((word v 2 : Int) == 0) || !((word v 3 : Int) == 0)))) = decide (v ≠ 0) := by
          rw [Bool.eq_iff_iff]
          have := words_zero hcut.lt
          simp only [Bool.or_eq_true, Bool.not_eq_true', beq_eq_false_iff_ne, decide_eq_true_eq, Ne, ← this, Int.natCast_eq_zero]
          by_cases h0 : word v 0 = 0 <;> by_cases h1 : word v 1 = 0 <;> by_cases h2 : word v 2 = 0 <;> by_cases h3 : word v 3 = 0 <;> simp [h0, h1, h2, h3]
        have HZ := Lib.hid hzero
        clear hzero
        obtain ⟨k, hk⟩ : ∃ k, x.k = k := ⟨_, rfl⟩
        obtain ⟨f, hf⟩ : ∃ f, x.falls = f := ⟨_, rfl⟩
        have hbad : ¬ (0 < k ∧ f = false ∧ v ≠ 0) → res = .error 63 := by
          intro h
          rw [HRES.out, if_neg]
          unfold Items.good
          rw [hk, hf, HV.out]
          simp only [Bool.and_eq_true, decide_eq_true_eq, Bool.not_eq_true']
          rintro ⟨⟨h1, h2⟩, h3⟩
          exact h ⟨h1, h2, h3⟩
        have hgood : 0 < k → f = false → v ≠ 0 → res = .ok (.cls v, x.rest) := by
          intro h1 h2 h3
          rw [HRES.out, if_pos, HV.out]
          unfold Items.good
          rw [hk, hf, HV.out]
          simp [h1, h2, h3]
        have HBAD := Lib.hid hbad
        have HGOOD := Lib.hid hgood
        rw [hk, hf]
        clear hk hf hbad hgood HRES
        by_cases hk0 : 0 < k
        · cases f with
          | false =>
            go_wp2_with fail
            rw [HZ.out]
            by_cases hv0 : v = 0
            · have hres := HBAD.out (fun h => h.2.2 hv0)
              rw [decide_eq_false (by simp [hv0])]
              refine (must_no _ 63 _).mono ?_
              rintro e w2 ⟨rfl, rfl⟩
              refine leave_fault rfl ?_
              rw [hres]
              exact ⟨rfl, hcut.kept⟩
            · have hres := HGOOD.out hk0 (by trivial) hv0
              have HRES := Lib.hid hres
              clear hres
              rw [decide_eq_true (by exact hv0)]
              refine (must_ok _ 63 _).mono ?_
              rintro e w2 ⟨rfl, rfl⟩
              go_wp2
              go_end0
              rw [HRES.out]
              exact ⟨v, j + 1, rfl, HD.out, rfl, hcut⟩
          | true =>
            have hres := HBAD.out (fun h => by cases h.2.1)
            have HRES := Lib.hid hres
            clear hres
            go_wp2_with fail
            refine (must_no _ 63 _).mono ?_
            rintro e w2 ⟨rfl, rfl⟩
            refine leave_fault rfl ?_
            rw [HRES.out]
            exact ⟨rfl, hcut.kept⟩
        · have hres := HBAD.out (fun h => hk0 h.1)
          have HRES := Lib.hid hres
          clear hres
          go_wp2_with fail
          refine (must_no _ 63 _).mono ?_
          rintro e w2 ⟨rfl, rfl⟩
          refine leave_fault rfl ?_
          rw [HRES.out]
          exact ⟨rfl, hcut.kept⟩
end Go.Proofs.Ytlmnincllndpnaa
