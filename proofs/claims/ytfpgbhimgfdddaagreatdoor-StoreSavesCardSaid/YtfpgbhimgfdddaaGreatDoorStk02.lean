/- Merged (what the claim wants of): StgA. -/
import Derived.Test.YtfpgbhimgfdddaaGreatDoorStk01
set_option linter.unusedVariables false
set_option linter.unusedSimpArgs false
/- EncPlain, CrcPlain, StoPlain, StoPlain2, StoLawA, StoLawB, StoLawC, StoPlain3 together. -/
namespace Go.Proofs.YtfpgbhimgfdddaaGreatDoor
section
/-! ### numbers -/
def uintF : Nat → Nat → List UInt8
  | 0, v => [UInt8.ofNat v]
  | f + 1, v => if 127 < v then UInt8.ofNat (v % 128 + 128) :: uintF f (v / 128) else [UInt8.ofNat v]
/-- The one form of a number. -/
def uintT (v : Nat) : List UInt8 := uintF 10 v
theorem uintF_more : ∀ (f v : Nat), v < 128 ^ (f + 1) → uintF f v = uintF (f + 1) v
  | 0, v, h => by rw [uintF, uintF, if_neg (by omega)]
  | f + 1, v, h => by
    rw [uintF, uintF]
    split
    · rw [uintF_more f (v / 128) (by rw [Nat.pow_succ] at h; omega)]
    · rfl
theorem uintT_step {v : Nat} (h : v < 2 ^ 64) (h1 : 127 < v) : uintT v = UInt8.ofNat (v % 128 + 128) :: uintT (v / 128) := by
  unfold uintT
  conv => lhs; rw [uintF, if_pos h1]
  rw [uintF_more 9 (v / 128) (by
    have : (2 : Nat) ^ 64 ≤ 128 ^ (9 + 1) * 128 := by decide
    omega)]
theorem uintT_end {v : Nat} (h1 : v ≤ 127) : uintT v = [UInt8.ofNat v] := by
  rw [uintT, uintF, if_neg (by omega)]
theorem uintF_len : ∀ (f v : Nat), 1 ≤ (uintF f v).length ∧ (uintF f v).length ≤ f + 1
  | 0, v => by simp [uintF]
  | f + 1, v => by
    rw [uintF]
    split
    · have := uintF_len f (v / 128)
      simp only [List.length_cons]; omega
    · simp
theorem uintT_len (v : Nat) : 1 ≤ (uintT v).length ∧ (uintT v).length ≤ 11 := uintF_len 10 v

/-! ### reading numbers -/
/-- A number read byte by byte, from byte i on: its value and how many bytes it has; or the error. -/
def readG : Nat → Nat → List UInt8 → Except Nat (Nat × Nat)
  | _, _, [] => .error 20
  | i, acc, b :: l => if (i = 9 ∧ 1 < b.toNat) ∨ (0 < i ∧ b.toNat = 0) then .error 21 else if b.toNat < 128 then .ok (acc + b.toNat * 128 ^ i, i + 1) else readG (i + 1) (acc + (b.toNat - 128) * 128 ^ i) l
def readU (l : List UInt8) : Except Nat (Nat × Nat) := readG 0 0 l
theorem readG_lt : ∀ (l : List UInt8) (i acc v k : Nat), i ≤ 9 → acc < 128 ^ i → readG i acc l = .ok (v, k) → v < 2 ^ 64 ∧ i < k ∧ k ≤ i + l.length ∧ k ≤ 10
  | [], i, acc, v, k, _, _, h => by simp [readG] at h
  | b :: l, i, acc, v, k, hi, ha, h => by
    rw [readG] at h
    split at h
    · cases h
    · rename_i hn
      split at h
      · rename_i hb
        injection h with h
        injection h with h1 h2
        subst h1 h2
        refine ⟨?_, by omega, by simp, by omega⟩
        by_cases h9 : i = 9
        · subst h9
          have hb1 : b.toNat ≤ 1 := by omega
          have e : (128 : Nat) ^ 9 = 2 ^ 63 := by decide
          rw [e] at ha ⊢
          have e2 : (2 : Nat) ^ 64 = 2 * 2 ^ 63 := by decide
          rw [e2]
          have : b.toNat * 2 ^ 63 ≤ 1 * 2 ^ 63 := Nat.mul_le_mul_right _ hb1
          omega
        · have h1 : b.toNat * 128 ^ i ≤ 127 * 128 ^ i := Nat.mul_le_mul_right _ (by omega)
          have h2 : (128 : Nat) ^ (i + 1) ≤ 128 ^ 9 := Nat.pow_le_pow_right (by omega) (by omega)
          rw [Nat.pow_succ] at h2
          have e : (128 : Nat) ^ 9 < 2 ^ 64 := by decide
          omega
      · rename_i hb
        have h9 : i ≠ 9 := by
          intro e; apply hn; exact .inl ⟨e, by omega⟩
        have hbl := UInt8.toNat_lt b
        have h1 : (b.toNat - 128) * 128 ^ i ≤ 127 * 128 ^ i := Nat.mul_le_mul_right _ (by omega)
        have := readG_lt l (i + 1) _ v k (by omega) (by rw [Nat.pow_succ]; omega) h
        simp only [List.length_cons]
        omega
theorem readU_lt {l : List UInt8} {v k : Nat} (h : readU l = .ok (v, k)) : v < 2 ^ 64 ∧ 0 < k ∧ k ≤ l.length ∧ k ≤ 10 := by
  have := readG_lt l 0 0 v k (by omega) (by simp) h
  omega
theorem readG_fault : ∀ (l : List UInt8) (i acc c : Nat), readG i acc l = .error c → c ≠ 0
  | [], i, acc, c, h => by
    rw [readG] at h
    injection h with h
    omega
  | b :: l, i, acc, c, h => by
    rw [readG] at h
    split at h
    · injection h with h; omega
    · split at h
      · cases h
      · exact readG_fault l _ _ c h
theorem readU_fault {l : List UInt8} {c : Nat} (h : readU l = .error c) : c ≠ 0 := readG_fault l 0 0 c h
/-- What was written is read. -/
theorem readG_uint : ∀ (f i acc v : Nat) (l : List UInt8), i + f = 9 → v < 128 ^ f * 2 → (i = 0 ∨ 0 < v) → readG i acc (uintF f v ++ l) = .ok (acc + v * 128 ^ i, i + (uintF f v).length)
  | 0, i, acc, v, l, hi, hv, h0 => by
    have hv1 : v ≤ 1 := by simp at hv; omega
    have e : (UInt8.ofNat v).toNat = v := by simp [UInt8.toNat_ofNat']; omega
    simp only [uintF, List.singleton_append, readG, e, List.length_singleton]
    rw [if_neg (by omega), if_pos (by omega)]
  | f + 1, i, acc, v, l, hi, hv, h0 => by
    rw [uintF]
    split
    · rename_i hgt
      have e : (UInt8.ofNat (v % 128 + 128)).toNat = v % 128 + 128 := by simp [UInt8.toNat_ofNat']; omega
      simp only [List.cons_append, readG, e, List.length_cons]
      rw [if_neg (by omega), if_neg (by omega), readG_uint f (i + 1) _ (v / 128) l (by omega) (by rw [Nat.pow_succ] at hv; omega) (.inr (by omega))]
      congr 2
      · rw [Nat.add_sub_cancel, Nat.pow_succ, Nat.add_assoc]
        congr 1
        have := Nat.mod_add_div v 128
        conv => rhs; rw [← this]
        rw [Nat.add_mul]
        congr 1
        rw [Nat.mul_comm 128 (v / 128), Nat.mul_assoc]
        congr 1
        rw [Nat.mul_comm]
      · omega
    · have e : (UInt8.ofNat v).toNat = v := by simp [UInt8.toNat_ofNat']; omega
      simp only [List.singleton_append, readG, e, List.length_singleton]
      rw [if_neg (by omega), if_pos (by omega)]
theorem uintT_nine {v : Nat} (h : v < 2 ^ 64) : uintT v = uintF 9 v := (uintF_more 9 v (Nat.lt_of_lt_of_le h (by decide))).symm
theorem readU_uint {v : Nat} (h : v < 2 ^ 64) (l : List UInt8) : readU (uintT v ++ l) = .ok (v, (uintT v).length) := by
  rw [uintT_nine h, readU, readG_uint 9 0 0 v l (by omega) (by have : (128 : Nat) ^ 9 * 2 = 2 ^ 64 := by decide
                                                               omega) (.inl rfl)]
  simp

/-! ### texts -/
end

section
/-! ### numbers with a sign -/
def zig (v : Int) : Nat := if 0 ≤ v then (2 * v).toNat else (-2 * v - 1).toNat
def unzig (n : Nat) : Int := if n % 2 = 0 then ((n / 2 : Nat) : Int) else -((n / 2 : Nat) : Int) - 1
theorem unzig_zig (v : Int) : unzig (zig v) = v := by
  unfold unzig zig
  split <;> split <;> omega
theorem zig_lt {v : Int} (h1 : -9223372036854775808 ≤ v) (h2 : v ≤ 9223372036854775807) : zig v < 2 ^ 64 := by
  unfold zig
  split <;> omega
theorem unzig_range {n : Nat} (h : n < 2 ^ 64) : -9223372036854775808 ≤ unzig n ∧ unzig n ≤ 9223372036854775807 := by
  unfold unzig
  split <;> omega
def intT (v : Int) : List UInt8 := uintT (zig v)
def readI (l : List UInt8) : Except Nat (Int × Nat) := match readU l with | .error e => .error e | .ok (v, k) => .ok (unzig v, k)
theorem readI_int {v : Int} (h1 : -9223372036854775808 ≤ v) (h2 : v ≤ 9223372036854775807) (l : List UInt8) : readI (intT v ++ l) = .ok (v, (intT v).length) := by
  unfold readI intT
  rw [readU_uint (zig_lt h1 h2)]
  simp only [unzig_zig]

/-! ### sums -/
def nibs : List Nat := [0x00000000, 0x105ec76f, 0x20bd8ede, 0x30e349b1, 0x417b1dbc, 0x5125dad3, 0x61c69362, 0x7198540d, 0x82f63b78, 0x92a8fc17, 0xa24bb5a6, 0xb21572c9, 0xc38d26c4, 0xd3d3e1ab, 0xe330a81a, 0xf36e6f75]
def nibN (c : Nat) : Nat := nibs.getD (c % 16) 0 ^^^ (c / 16)
def crcB (c : Nat) (b : UInt8) : Nat := nibN (nibN (c ^^^ b.toNat))
def crcF (c : Nat) (l : List UInt8) : Nat := l.foldl crcB c
def crcL (l : List UInt8) : Nat := crcF 4294967295 l ^^^ 4294967295
theorem nibs_lt : ∀ i, nibs.getD i 0 < 4294967296 := by
  intro i
  by_cases h : i < 16
  · revert i
    decide
  · have : nibs.length ≤ i := by simp [nibs]; omega
    rw [List.getD_eq_getElem?_getD, List.getElem?_eq_none this]
    decide
theorem xor_lt32 {a b : Nat} (ha : a < 4294967296) (hb : b < 4294967296) : a ^^^ b < 4294967296 := Nat.xor_lt_two_pow (n := 32) ha hb
theorem nibN_lt {c : Nat} (h : c < 4294967296) : nibN c < 4294967296 := xor_lt32 (nibs_lt _) (by omega)
theorem crcB_lt {c : Nat} (h : c < 4294967296) (b : UInt8) : crcB c b < 4294967296 := nibN_lt (nibN_lt (xor_lt32 h (by have := UInt8.toNat_lt b; omega)))
theorem crcF_lt : ∀ (l : List UInt8) {c : Nat}, c < 4294967296 → crcF c l < 4294967296
  | [], _, h => h
  | b :: l, _, h => crcF_lt l (crcB_lt h b)
theorem crcL_lt (l : List UInt8) : crcL l < 4294967296 := xor_lt32 (crcF_lt l (by decide)) (by decide)
theorem crcF_append (c : Nat) (l m : List UInt8) : crcF c (l ++ m) = crcF (crcF c l) m := by unfold crcF; rw [List.foldl_append]
theorem crcF_snoc (c : Nat) (l : List UInt8) (b : UInt8) : crcF c (l ++ [b]) = crcB (crcF c l) b := by rw [crcF_append]; rfl

/-! ### four bytes -/
def fourT (v : Nat) : List UInt8 := [UInt8.ofNat v, UInt8.ofNat (v / 256), UInt8.ofNat (v / 65536), UInt8.ofNat (v / 16777216)]
def numT (l : List UInt8) : Nat := match l with | a :: b :: c :: d :: _ => a.toNat + 256 * b.toNat + 65536 * c.toNat + 16777216 * d.toNat | _ => 0
theorem fourT_len (v : Nat) : (fourT v).length = 4 := rfl
theorem numT_four {v : Nat} (h : v < 4294967296) (r : List UInt8) : numT (fourT v ++ r) = v := by
  simp only [fourT, List.cons_append, numT, UInt8.toNat_ofNat']
  omega

/-! ### sealed texts -/
def sealT (b : List UInt8) : List UInt8 := b ++ fourT (crcL b)
def unsealT (s : List UInt8) : Except Nat (List UInt8) := if s.length < 4 then .error 20 else if crcL (s.take (s.length - 4)) = numT (s.drop (s.length - 4)) then .ok (s.take (s.length - 4)) else .error 22
theorem sealT_len (b : List UInt8) : (sealT b).length = b.length + 4 := by simp [sealT, fourT]
theorem unseal_seal (b : List UInt8) : unsealT (sealT b) = .ok b := by
  unfold unsealT
  have h1 : (sealT b).length - 4 = b.length := by rw [sealT_len]; omega
  rw [h1, if_neg (by rw [sealT_len]; omega)]
  have h2 : (sealT b).take b.length = b := by simp [sealT]
  have h3 : (sealT b).drop b.length = fourT (crcL b) := by simp [sealT]
  rw [h2, h3]
  have h4 := numT_four (crcL_lt b) []
  rw [List.append_nil] at h4
  rw [if_pos h4.symm]
end

section
structure Inf where
  id : Int
  res : Int
  frm : Int
  to_ : Int
  bytes : Int
deriving DecidableEq
instance : Inhabited Inf := ⟨⟨0, 0, 0, 0, 0⟩⟩
def Inf.nums (x : Inf) : List Int := [x.id, x.res, x.frm, x.to_, x.bytes]
/-- A manifest. -/
structure Man where
  w0 : Int
  w1 : Int
  w2 : Int
  next : Int
  log : Int
  blocks : List Inf
  cut : Int
  r0 : Int
  r1 : Int
  r2 : Int
  l0 : Int
  l1 : Int
  l2 : Int
deriving DecidableEq
def Man.zero : Man := ⟨0, 0, 0, 0, 0, [], 0, 0, 0, 0, 0, 0, 0⟩
/-- All its numbers but its blocks', in the order of the bytes; without next and log. -/
def Man.tens (m : Man) : List Int := [m.w0, m.r0, m.l0, m.w1, m.r1, m.l1, m.w2, m.r2, m.l2, m.cut]
def Man.nums (m : Man) : List Int := m.tens ++ [m.next, m.log, (m.blocks.length : Int)] ++ m.blocks.flatMap Inf.nums
def i64 (v : Int) : Prop := -9223372036854775808 ≤ v ∧ v ≤ 9223372036854775807
instance (v : Int) : Decidable (i64 v) := by unfold i64; infer_instance
/-- All its numbers are numbers of 64 bits. -/
def Man.small (m : Man) : Prop := ∀ v ∈ m.nums, i64 v
def timeB (t : Int) : Bool := decide (0 ≤ t) && decide (t ≤ 1125899906842625)
def widthB (t : Int) : Bool := decide (1 ≤ t) && decide (t ≤ 1099511627776)
def infB (next : Int) (x : Inf) : Bool := decide (1 ≤ x.id) && decide (x.id < next) && decide (0 ≤ x.res) && decide (x.res ≤ 2) && decide (0 ≤ x.frm) && decide (x.frm < x.to_) && decide (x.to_ ≤ 1125899906842625) && decide (0 ≤ x.bytes)
def riseB : List Inf → Bool
  | x :: y :: l => decide (x.id < y.id) && riseB (y :: l)
  | _ => true
def Man.fit (m : Man) : Bool :=
  widthB m.w0 && widthB m.w1 && widthB m.w2 && timeB m.r0 && timeB m.r1 && timeB m.r2 && timeB m.l0 && timeB m.l1 && timeB m.l2 && timeB m.cut &&
  decide (1 ≤ m.next) && decide (m.next ≤ 99999999) && decide (1 ≤ m.log) && decide (m.log ≤ 99999999) && m.blocks.all (infB m.next) && riseB m.blocks
def Man.body (m : Man) : List UInt8 := m.nums.flatMap intT
def encM (m : Man) : List UInt8 := sealT m.body

/-! ### reading -/
/-- One number is taken: the place and the error so far, then the number and both. -/
def takeI (body : List UInt8) (s : Nat × Nat) : Int × (Nat × Nat) :=
  if s.2 = 0 then (match readI (body.drop s.1) with | .ok (v, k) => (v, (s.1 + k, 0)) | .error c => (0, (0, c))) else (0, s)
def takesI (body : List UInt8) : Nat → Nat × Nat → List Int × (Nat × Nat)
  | 0, s => ([], s)
  | n + 1, s => let x := takeI body s; let r := takesI body n x.2; (x.1 :: r.1, r.2)
def infOf : List Int → Inf
  | [a, b, c, d, e] => ⟨a, b, c, d, e⟩
  | _ => default
def blocksI (body : List UInt8) : Nat → Nat × Nat → List Inf × (Nat × Nat)
  | 0, s => ([], s)
  | n + 1, s => if s.2 = 0 then (let x := takesI body 5 s; let r := blocksI body n x.2; (infOf x.1 :: r.1, r.2)) else ([], s)
def manOf (ten : List Int) (next log : Int) (bs : List Inf) : Man :=
  match ten with
  | [w0, r0, l0, w1, r1, l1, w2, r2, l2, cut] => ⟨w0, w1, w2, next, log, bs, cut, r0, r1, r2, l0, l1, l2⟩
  | _ => .zero
theorem manOf_tens (m : Man) : manOf m.tens m.next m.log m.blocks = m := rfl
/-- What is taken of a body. -/
def readM (body : List UInt8) : Man × (Nat × Nat) :=
  let a := takesI body 10 (0, 0)
  let b := takesI body 3 a.2
  match b.1 with
  | [next, log, n] => let c := blocksI body n.toNat b.2; (manOf a.1 next log c.1, c.2)
  | _ => (.zero, b.2)
/-- The manifest with these bytes, or the error. -/
def decM (s : List UInt8) : Man × Nat :=
  match unsealT s with
  | .error e => (.zero, e)
  | .ok body => let r := readM body; if r.2.2 = 0 ∧ r.1.fit = true ∧ encM r.1 = s then (r.1, 0) else (.zero, 150)

theorem takesI_ints (pre : List UInt8) : ∀ (l : List Int) (post : List UInt8) (at_ : Nat), (∀ v ∈ l, i64 v) → at_ = pre.length →
    takesI (pre ++ (l.flatMap intT ++ post)) l.length (at_, 0) = (l, (at_ + (l.flatMap intT).length, 0))
  | [], post, at_, _, _ => by simp [takesI]
  | v :: l, post, at_, h, hp => by
    subst hp
    have hv := h v (List.mem_cons_self ..)
    have e : takeI (pre ++ ((v :: l).flatMap intT ++ post)) (pre.length, 0) = (v, (pre.length + (intT v).length, 0)) := by
      unfold takeI
      rw [if_pos rfl, List.drop_left]
      simp only [List.flatMap_cons, List.append_assoc]
      rw [readI_int hv.1 hv.2]
    have ih := takesI_ints (pre ++ intT v) l post (pre.length + (intT v).length) (fun x hx => h x (List.mem_cons_of_mem _ hx)) (by simp)
    have e2 : pre ++ ((v :: l).flatMap intT ++ post) = (pre ++ intT v) ++ (l.flatMap intT ++ post) := by simp
    rw [List.length_cons, takesI, e]
    simp only
    rw [e2, ih]
    simp only [List.flatMap_cons, List.length_append]
    rw [Nat.add_assoc]
theorem blocksI_ints (pre : List UInt8) : ∀ (l : List Inf) (post : List UInt8) (at_ : Nat), (∀ x ∈ l, ∀ v ∈ x.nums, i64 v) → at_ = pre.length →
    blocksI (pre ++ ((l.flatMap Inf.nums).flatMap intT ++ post)) l.length (at_, 0) = (l, (at_ + ((l.flatMap Inf.nums).flatMap intT).length, 0))
  | [], post, at_, _, _ => by simp [blocksI]
  | x :: l, post, at_, h, hp => by
    have e := takesI_ints pre x.nums ((l.flatMap Inf.nums).flatMap intT ++ post) at_ (h x (List.mem_cons_self ..)) hp
    have ih := blocksI_ints (pre ++ x.nums.flatMap intT) l post (at_ + (x.nums.flatMap intT).length) (fun y hy => h y (List.mem_cons_of_mem _ hy)) (by simp [hp])
    have e2 : pre ++ (((x :: l).flatMap Inf.nums).flatMap intT ++ post) = pre ++ (x.nums.flatMap intT ++ ((l.flatMap Inf.nums).flatMap intT ++ post)) := by simp
    have e3 : pre ++ (x.nums.flatMap intT ++ ((l.flatMap Inf.nums).flatMap intT ++ post)) = (pre ++ x.nums.flatMap intT) ++ ((l.flatMap Inf.nums).flatMap intT ++ post) := by simp
    have hl : x.nums.length = 5 := rfl
    rw [hl] at e
    rw [List.length_cons, blocksI, if_pos rfl, e2, e]
    simp only
    rw [e3, ih]
    have hx : infOf x.nums = x := rfl
    rw [hx]
    simp only [List.flatMap_cons, List.flatMap_append, List.length_append]
    rw [Nat.add_assoc]
/-- What was written is read. -/
theorem readM_body {m : Man} (h : m.small) : readM m.body = (m, (m.body.length, 0)) := by
  unfold Man.small at h
  have hb : m.body = [] ++ (m.tens.flatMap intT ++ ([m.next, m.log, (m.blocks.length : Int)].flatMap intT ++ ((m.blocks.flatMap Inf.nums).flatMap intT ++ []))) := by
    simp [Man.body, Man.nums]
  have e1 := takesI_ints [] m.tens ([m.next, m.log, (m.blocks.length : Int)].flatMap intT ++ ((m.blocks.flatMap Inf.nums).flatMap intT ++ [])) 0 (fun v hv => h v (by simp [Man.nums, hv])) rfl
  rw [← hb] at e1
  have hb2 : m.body = m.tens.flatMap intT ++ ([m.next, m.log, (m.blocks.length : Int)].flatMap intT ++ ((m.blocks.flatMap Inf.nums).flatMap intT ++ [])) := by rw [hb]; rfl
  have e2 := takesI_ints (m.tens.flatMap intT) [m.next, m.log, (m.blocks.length : Int)] ((m.blocks.flatMap Inf.nums).flatMap intT ++ []) (m.tens.flatMap intT).length (fun v hv => h v (by simp only [Man.nums, List.mem_append]; exact .inl (.inr hv))) rfl
  rw [← hb2] at e2
  have hb3 : m.body = (m.tens.flatMap intT ++ [m.next, m.log, (m.blocks.length : Int)].flatMap intT) ++ ((m.blocks.flatMap Inf.nums).flatMap intT ++ []) := by rw [hb2, List.append_assoc]
  have e3 := blocksI_ints (m.tens.flatMap intT ++ [m.next, m.log, (m.blocks.length : Int)].flatMap intT) m.blocks [] (m.tens.flatMap intT ++ [m.next, m.log, (m.blocks.length : Int)].flatMap intT).length (fun x hx v hv => h v (by simp only [Man.nums, List.mem_append, List.mem_flatMap]; exact .inr ⟨x, hx, hv⟩)) rfl
  rw [← hb3] at e3
  have hl : m.tens.length = 10 := rfl
  rw [hl, Nat.zero_add] at e1
  rw [List.length_append] at e3
  have hl3 : [m.next, m.log, (m.blocks.length : Int)].length = 3 := rfl
  rw [hl3] at e2
  unfold readM
  rw [e1]
  simp only
  rw [e2]
  simp only [Int.toNat_natCast]
  rw [e3]
  simp only [manOf_tens]
  congr 2
  conv => rhs; rw [hb3]
  simp [Nat.add_assoc]
theorem decM_enc {m : Man} (h : m.small) (hf : m.fit = true) : decM (encM m) = (m, 0) := by
  unfold decM
  have h1 : unsealT (encM m) = .ok m.body := unseal_seal _
  rw [h1]
  simp only
  rw [readM_body h]
  simp only
  rw [if_pos ⟨trivial, hf, trivial⟩]
theorem decM_bad {s : List UInt8} (h : (decM s).2 ≠ 0) : (decM s).1 = .zero ∧ ((decM s).2 = 20 ∨ (decM s).2 = 22 ∨ (decM s).2 = 150) := by
  unfold decM at h ⊢
  cases hu : unsealT s with
  | error e =>
    simp only
    refine ⟨trivial, ?_⟩
    unfold unsealT at hu
    split at hu
    · injection hu with hu; omega
    · split at hu
      · cases hu
      · injection hu with hu; omega
  | ok body =>
    rw [hu] at h
    simp only at h ⊢
    split
    · rename_i hc
      rw [if_pos hc] at h
      exact absurd rfl h
    · exact ⟨rfl, .inr (.inr rfl)⟩
theorem decM_good {s : List UInt8} (h : (decM s).2 = 0) : (decM s).1.fit = true ∧ encM (decM s).1 = s := by
  unfold decM at h ⊢
  cases hu : unsealT s with
  | error e =>
    rw [hu] at h
    simp only at h
    unfold unsealT at hu
    split at hu
    · injection hu with hu; omega
    · split at hu
      · cases hu
      · injection hu with hu; omega
  | ok body =>
    rw [hu] at h
    simp only at h ⊢
    split
    · rename_i hc
      exact ⟨hc.2.1, hc.2.2⟩
    · rename_i hc
      rw [if_neg hc] at h
      simp at h
end

section
def dotNew : Txt := [46, 110, 101, 119]
/-- One call behind the other, up to the first failure. -/
def seqD : List (Ds → Nat × Ds) → Nat × Ds → Nat × Ds
  | [], r => r
  | f :: l, r => if r.1 = 0 then seqD l (f r.2) else r
/-- The same; ahead of each call a failure sweeps what is there. -/
def putL (fresh : Txt) : List (Ds → Nat × Ds) → Nat × Ds → Nat × Ds
  | [], r => r
  | f :: l, r => if r.1 = 0 then putL fresh l (f r.2) else (r.1, (removeD r.2 fresh).2)
/-- What isn't there need not go. -/
def goneD (d : Ds) (s : Txt) : Nat × Ds := (if (removeD d s).1 = 4 then 0 else (removeD d s).1, (removeD d s).2)
def putD (d : Ds) (path text : Txt) : Nat × Ds :=
  putL (path ++ dotNew) [(createD · (path ++ dotNew)), (appendD · (path ++ dotNew) text), (syncD · (path ++ dotNew)), (renameD · (path ++ dotNew) path), syncNamesD] (goneD d (path ++ dotNew))
def fileD3 (s t : Txt) : List (Ds → Nat × Ds) := [(createD · s), (appendD · s t), (syncD · s)]
def sMeta : Txt := [47, 109, 101, 116, 97]
def sChunks : Txt := [47, 99, 104, 117, 110, 107, 115]
def sIndex : Txt := [47, 105, 110, 100, 101, 120]
/-- A block's three files. -/
structure Fs3 where
  a : Txt
  b : Txt
  c : Txt
deriving DecidableEq
def Fs3.none : Fs3 := ⟨[], [], []⟩
def Fs3.len (f : Fs3) : Nat := f.a.length + f.b.length + f.c.length
def writeD (d : Ds) (dir : Txt) (f : Fs3) : Nat × Ds :=
  seqD ((mkdirD · dir) :: (fileD3 (dir ++ sMeta) f.a ++ fileD3 (dir ++ sChunks) f.b ++ fileD3 (dir ++ sIndex) f.c)) (goneD d dir)
def sT : Txt := [116]
def sB : Txt := [98]
/-- Save of a number that may be. -/
def saveD (d : Ds) (t b : Txt) (f : Fs3) : Nat × Ds :=
  let r := seqD [(renameD · t b)] (writeD d t f)
  if r.1 = 0 then syncNamesD r.2 else (r.1, (removeD r.2 t).2)
def loadD (d : Ds) (b : Txt) : Fs3 × Nat :=
  if (allD d (b ++ sMeta)).2 ≠ 0 then (.none, (allD d (b ++ sMeta)).2) else
  if (allD d (b ++ sChunks)).2 ≠ 0 then (.none, (allD d (b ++ sChunks)).2) else
  if (allD d (b ++ sIndex)).2 ≠ 0 then (.none, (allD d (b ++ sIndex)).2) else
  (⟨(allD d (b ++ sMeta)).1, (allD d (b ++ sChunks)).1, (allD d (b ++ sIndex)).1⟩, 0)
end

section
/-! ### names and paths -/
theorem nameC_slash {b : UInt8} (h : nameC b = true) : b ≠ 47 := by
  rintro rfl
  exact absurd h (by decide)
theorem sslash_none : ∀ {s : Txt}, s.all nameC = true → slashAt s = none
  | [], _ => rfl
  | b :: s, h => by
    rw [List.all_cons, Bool.and_eq_true] at h
    rw [slashAt, if_neg (nameC_slash h.1), sslash_none h.2]
    rfl
theorem snameB_slash {s : Txt} (h : nameB s = true) : slashAt s = none := by
  unfold nameB at h
  simp only [Bool.and_eq_true] at h
  exact sslash_none h.1.1
theorem slash_at : ∀ {s : Txt} (r : Txt), slashAt s = none → slashAt (s ++ 47 :: r) = some s.length
  | [], r, _ => rfl
  | b :: s, r, h => by
    rw [slashAt] at h
    split at h
    · cases h
    · rename_i hb
      have h2 : slashAt s = none := by cases hs : slashAt s with | none => rfl | some k => rw [hs] at h; cases h
      rw [List.cons_append, slashAt, if_neg hb, slash_at r h2]
      rfl
/-- Two names of one length, and what stands behind a slash. -/
structure Two2 (t b : Txt) : Prop where
  tn : nameB t = true
  bn : nameB b = true
  ne : t ≠ b
  len : t.length = b.length
/-- A rest behind a name: a slash and a name. -/
structure Rest (m : Txt) : Prop where
  ex : ∃ r, m = 47 :: r ∧ nameB r = true
theorem rest_meta : Rest sMeta := ⟨_, rfl, by decide⟩
theorem rest_chunks : Rest sChunks := ⟨_, rfl, by decide⟩
theorem rest_index : Rest sIndex := ⟨_, rfl, by decide⟩
section
variable {t b m m2 : Txt}
theorem Rest.slash (h : Rest m) (ht : nameB t = true) : slashAt (t ++ m) = some t.length := by
  obtain ⟨r, rfl, _⟩ := h.ex
  exact slash_at r (snameB_slash ht)
theorem Rest.path (h : Rest m) (ht : nameB t = true) : pathB (t ++ m) = true := by
  unfold pathB
  rw [h.slash ht]
  obtain ⟨r, rfl, hr⟩ := h.ex
  simp only [List.take_left]
  have e : (t ++ 47 :: r).drop (t.length + 1) = r := by rw [← List.drop_drop, List.drop_left]; rfl
  rw [ht, e]
  rw [hr]
  rfl
end

/-! ### calls that go well, but for the power -/
def offD (d : Ds) : Ds := { d with await := 0, off := true }
/-- One step more is taken. -/
def tickD (d : Ds) : Ds := { d with await := d.await - 1 }
section
variable {d : Ds} {s s2 : Txt} {i : Nat}
theorem step_ite (d : Ds) : stepD d = if d.await = 1 then (1, offD d) else (0, tickD d) := by
  unfold stepD offD tickD
  by_cases h0 : d.await = 0
  · rw [if_pos h0, if_neg (by omega), h0]
    simp only [Nat.zero_sub]
    rw [← h0]
  · rw [if_neg h0]
theorem names_ite (st : St) : namesD d st = if d.await = 1 then (1, offD d) else (0, { tickD d with things := applyS d.things st, steps := d.steps ++ [st] }) := by
  unfold namesD
  rw [step_ite]
  by_cases h : d.await = 1
  · simp [h]
  · simp [h]
theorem mkdir_ok (ho : d.off = false) (hn : nameB s = true) (hi : isT d.things s = 0) : mkdirD d s = namesD d (.mkdir s) := by
  unfold mkdirD
  rw [if_neg (by rw [ho]; simp), if_neg (by rw [hn]; simp), if_neg (by rw [hi]; simp)]
theorem create_ok (ho : d.off = false) (hp : pathB s = true) (hpar : parentB d.things s = true) (hi : isT d.things s = 0) :
    createD d s = if d.await = 1 then (1, offD d) else (0, { tickD d with things := d.things ++ [⟨s, false, d.files.length⟩], steps := d.steps ++ [.create s d.files.length], files := d.files ++ [⟨[], [], []⟩] }) := by
  unfold createD
  rw [if_neg (by rw [ho]; simp), if_neg (by rw [hp]; simp), if_neg (by rw [hpar]; simp), if_neg (by rw [hi]; simp), names_ite, step_ite]
  by_cases h : d.await = 1
  · simp [h]
  · simp [h, applyS]
theorem file_ok (ho : d.off = false) (hp : pathB s = true) (hf : findT d.things s = some ⟨s, false, i⟩) : fileD d s = .ok i := by
  unfold fileD fileT
  rw [if_neg (by rw [ho]; simp), if_neg (by rw [hp]; simp), hf]
  simp
theorem append_ok (hf : fileD d s = .ok i) (x : Txt) (hc : usedD d + x.length ≤ d.cap) :
    appendD d s x = if d.await = 1 then (1, offD d) else (0, setF (tickD d) i { fAt d i with now := (fAt d i).now ++ x, steps := (fAt d i).steps ++ [⟨x, false, 0⟩] }) := by
  unfold appendD
  rw [hf]
  simp only
  rw [if_neg (by omega), step_ite]
  by_cases h : d.await = 1
  · simp [h]
  · simp [h]
theorem append_full (hf : fileD d s = .ok i) (x : Txt) (hc : d.cap < usedD d + x.length) : appendD d s x = (7, d) := by
  unfold appendD
  rw [hf]
  simp only
  rw [if_pos hc]
theorem sync_ok (hf : fileD d s = .ok i) : syncD d s = if d.await = 1 then (1, offD d) else (0, setF (tickD d) i ⟨(fAt d i).now, (fAt d i).now, []⟩) := by
  unfold syncD
  rw [hf]
  simp only
  rw [step_ite]
  by_cases h : d.await = 1
  · simp [h]
  · simp [h]
theorem syncNames_ok (ho : d.off = false) : syncNamesD d = if d.await = 1 then (1, offD d) else (0, { tickD d with safe := d.things, steps := [] }) := by
  unfold syncNamesD
  rw [if_neg (by rw [ho]; simp), step_ite]
  by_cases h : d.await = 1
  · simp [h]
  · simp [h]
theorem rename_ok (ho : d.off = false) (h1 : nameB s = true) (h2 : nameB s2 = true) (hi : isT d.things s = 2) (hi2 : isT d.things s2 = 0) : renameD d s s2 = namesD d (.rename s s2) := by
  have p1 : pathB s = true := by unfold pathB; rw [snameB_slash h1]; exact h1
  have p2 : pathB s2 = true := by unfold pathB; rw [snameB_slash h2]; exact h2
  have hp : parentB d.things s2 = true := by unfold parentB; rw [snameB_slash h2]
  unfold renameD
  rw [if_neg (by rw [ho]; simp), if_neg (by rw [p1, p2]; simp), if_neg (by rw [h2]; simp), if_neg (by rw [hi, hp]; simp), if_neg (by rw [hi, hi2]; simp)]
theorem rename_there (ho : d.off = false) (h1 : nameB s = true) (h2 : nameB s2 = true) (hi : isT d.things s = 2) (hi2 : isT d.things s2 = 2) : renameD d s s2 = (5, d) := by
  have p1 : pathB s = true := by unfold pathB; rw [snameB_slash h1]; exact h1
  have p2 : pathB s2 = true := by unfold pathB; rw [snameB_slash h2]; exact h2
  have hp : parentB d.things s2 = true := by unfold parentB; rw [snameB_slash h2]
  unfold renameD
  rw [if_neg (by rw [ho]; simp), if_neg (by rw [p1, p2]; simp), if_neg (by rw [h2]; simp), if_neg (by rw [hi, hp]; simp), if_pos (by rw [hi2]; exact .inl rfl)]
theorem remove_off (ho : d.off = true) : removeD d s = (1, d) := by unfold removeD; rw [if_pos ho]
theorem remove_none (ho : d.off = false) (h1 : nameB s = true) (hi : isT d.things s = 0) : removeD d s = (4, d) := by
  have p1 : pathB s = true := by unfold pathB; rw [snameB_slash h1]; exact h1
  unfold removeD
  rw [if_neg (by rw [ho]; simp), if_neg (by rw [p1]; simp), if_pos hi]
theorem remove_dir (ho : d.off = false) (h1 : nameB s = true) (hi : isT d.things s = 2) : removeD d s = namesD d (.remove s) := by
  have p1 : pathB s = true := by unfold pathB; rw [snameB_slash h1]; exact h1
  unfold removeD
  rw [if_neg (by rw [ho]; simp), if_neg (by rw [p1]; simp), if_neg (by rw [hi]; simp)]
end

/-! ### one call behind the other -/
theorem seqD_append (l m : List (Ds → Nat × Ds)) : ∀ r, seqD (l ++ m) r = seqD m (seqD l r) := by
  induction l with
  | nil => intro r; rfl
  | cons f l ih =>
    intro r
    rw [List.cons_append, seqD, seqD]
    by_cases h : r.1 = 0
    · rw [if_pos h, if_pos h, ih]
    · rw [if_neg h, if_neg h]
      cases m with
      | nil => rfl
      | cons g m => rw [seqD, if_neg h]
/-- Calls that go well unless the power goes off at one of them. -/
theorem seqD_run : ∀ (ops : List (Ds → Nat × Ds)) (σ : Nat → Ds) (n : Nat), (∀ i f, ops[i]? = some f → f (σ i) = if n - i = 1 then (1, offD (σ i)) else (0, σ (i + 1))) →
    seqD ops (0, σ 0) = if 1 ≤ n ∧ n ≤ ops.length then (1, offD (σ (n - 1))) else (0, σ ops.length)
  | [], σ, n, _ => by rw [seqD, if_neg (by simp; omega)]; rfl
  | f :: ops, σ, n, h => by
    have h0 := h 0 f rfl
    rw [seqD, if_pos rfl]
    simp only
    rw [h0]
    by_cases h1 : n = 1
    · subst h1
      rw [if_pos rfl, if_pos (by simp)]
      cases ops with
      | nil => rfl
      | cons g ops => rw [seqD, if_neg (by simp)]
    · rw [if_neg (by omega)]
      have ih := seqD_run ops (fun i => σ (i + 1)) (n - 1) (fun i g hg => by
        have := h (i + 1) g (by simpa using hg)
        rw [this]
        by_cases h2 : n - (i + 1) = 1
        · rw [if_pos h2, if_pos (by omega)]
        · rw [if_neg h2, if_neg (by omega)])
      simp only [Nat.zero_add] at ih
      rw [ih]
      by_cases h2 : 1 ≤ n ∧ n ≤ (f :: ops).length
      · rw [if_pos h2, if_pos (by simp at h2; omega)]
        congr 3
        omega
      · rw [if_neg h2, if_neg (by simp at h2; omega)]
        simp

/-! ### the things of a block -/
def thT (t : Txt) (q : Nat) : List Th := [⟨t, true, 0⟩, ⟨t ++ sMeta, false, q⟩, ⟨t ++ sChunks, false, q + 1⟩, ⟨t ++ sIndex, false, q + 2⟩]
def stT (t : Txt) (q : Nat) : List St := [.mkdir t, .create (t ++ sMeta) q, .create (t ++ sChunks) (q + 1), .create (t ++ sIndex) (q + 2)]
/-- No thing of these begins with t. -/
def NoT (t : Txt) (L : List Th) : Prop := ∀ x ∈ L, t.isPrefixOf x.path = false
theorem find_no {t : Txt} {L : List Th} (h : NoT t L) (m : Txt) : findT L (t ++ m) = none := by
  unfold findT
  rw [List.find?_eq_none]
  intro x hx hp
  have hp : x.path = t ++ m := by simpa using hp
  have := h x hx
  rw [hp] at this
  have h2 : t.isPrefixOf (t ++ m) = true := List.isPrefixOf_iff_prefix.2 (List.prefix_append _ _)
  rw [h2] at this
  cases this
theorem find_app {t : Txt} {L : List Th} (h : NoT t L) (R : List Th) (m : Txt) : findT (L ++ R) (t ++ m) = findT R (t ++ m) := by
  have h2 := find_no h m
  unfold findT at h2 ⊢
  rw [List.find?_append, h2]
  rfl
theorem find_app0 {t : Txt} {L : List Th} (h : NoT t L) (R : List Th) : findT (L ++ R) t = findT R t := by
  have := find_app h R []
  simpa using this

/-! ### the stages of a save -/
def byOk (x : Txt) : By := ⟨x, x, []⟩
def byApp (x : Txt) : By := ⟨x, [], [⟨x, false, 0⟩]⟩
def byNew : By := ⟨[], [], []⟩
/-- The files that a save has made behind so many steps. -/
def fsK (f : Fs3) : Nat → List By
  | 0 => [] | 1 => []
  | 2 => [byNew] | 3 => [byApp f.a] | 4 => [byOk f.a]
  | 5 => [byOk f.a, byNew] | 6 => [byOk f.a, byApp f.b] | 7 => [byOk f.a, byOk f.b]
  | 8 => [byOk f.a, byOk f.b, byNew] | 9 => [byOk f.a, byOk f.b, byApp f.c] | _ => [byOk f.a, byOk f.b, byOk f.c]
def kK : Nat → Nat
  | 0 => 0 | 1 => 1 | 2 => 2 | 3 => 2 | 4 => 2 | 5 => 3 | 6 => 3 | 7 => 3 | _ => 4
def sgD (d : Ds) (t : Txt) (f : Fs3) (i : Nat) : Ds :=
  { d with things := d.things ++ (thT t d.files.length).take (kK i), steps := d.steps ++ (stT t d.files.length).take (kK i), files := d.files ++ fsK f i, await := d.await - i }
/-- Behind the rename. -/
def sgR (d : Ds) (t b : Txt) (f : Fs3) : Ds :=
  { d with things := applyS (d.things ++ thT t d.files.length) (.rename t b), steps := d.steps ++ stT t d.files.length ++ [.rename t b], files := d.files ++ fsK f 10, await := d.await - 11 }
def sgS (d : Ds) (t b : Txt) (f : Fs3) (i : Nat) : Ds := if i = 11 then sgR d t b f else sgD d t f i
theorem sgD_zero (d : Ds) (t : Txt) (f : Fs3) : sgD d t f 0 = d := by
  unfold sgD kK fsK
  simp
theorem set_app (l m : List By) (j : Nat) (x : By) : (l ++ m).set (l.length + j) x = l ++ m.set j x := by
  rw [List.set_append, if_neg (by omega), Nat.add_sub_cancel_left]
/-- What a save wants. -/
structure Hy (d : Ds) (t b : Txt) (f : Fs3) : Prop where
  off : d.off = false
  two : Two2 t b
  no : NoT t d.things
  ats : ∀ x ∈ d.things, x.dir = false → x.at_ < d.files.length
section
variable {d : Ds} {t b m : Txt} {f : Fs3}
theorem Hy.find_t (h : Hy d t b f) {k : Nat} (hk : 1 ≤ k) : findT (d.things ++ (thT t d.files.length).take k) t = some ⟨t, true, 0⟩ := by
  rw [find_app0 h.no]
  obtain ⟨k, rfl⟩ : ∃ j, k = j + 1 := ⟨k - 1, by omega⟩
  simp [findT, thT]
theorem Hy.is_t (h : Hy d t b f) {k : Nat} (hk : 1 ≤ k) : isT (d.things ++ (thT t d.files.length).take k) t = 2 := by unfold isT; rw [h.find_t hk]; rfl
theorem Hy.parent (h : Hy d t b f) (hm : Rest m) {k : Nat} (hk : 1 ≤ k) : parentB (d.things ++ (thT t d.files.length).take k) (t ++ m) = true := by
  unfold parentB
  rw [hm.slash h.two.tn]
  simp only [List.take_left]
  rw [h.is_t hk]
  rfl
theorem Hy.used (h : Hy d t b f) (fs : List By) (L : List Th) (aw : Nat) (st : List St) : usedD { d with things := d.things ++ L, steps := st, files := d.files ++ fs, await := aw } = usedD d + usedL { d with files := d.files ++ fs } L := by
  have e0 : ∀ x : Ds, x.off = false → usedD x = usedL x x.things := fun x hx => by unfold usedD; rw [if_neg (by rw [hx]; simp)]
  rw [e0 { d with things := d.things ++ L, steps := st, files := d.files ++ fs, await := aw } h.off, e0 d h.off]
  have e : ∀ x ∈ d.things, (if x.dir then 0 else (nowAt { d with things := d.things ++ L, steps := st, files := d.files ++ fs, await := aw } x.at_).length) = (if x.dir then 0 else (nowAt d x.at_).length) := fun x hx => by
    cases hd : x.dir with
    | true => rfl
    | false =>
      simp only [Bool.false_eq_true, if_false]
      unfold nowAt
      simp only
      rw [List.getElem?_append_left (h.ats x hx hd)]
  unfold usedL
  rw [List.map_append, List.sum_append, List.map_congr_left e]
  rfl
theorem now_app (fs : List By) (j : Nat) : nowAt { d with files := d.files ++ fs } (d.files.length + j) = (fs[j]?.getD default).now := by
  unfold nowAt
  simp only
  rw [List.getElem?_append_right (by omega)]
  congr 3
  omega
theorem at_app {x : Ds} {fs : List By} (hx : x.files = d.files ++ fs) (j : Nat) : fAt x (d.files.length + j) = fs[j]?.getD default := by
  unfold fAt
  rw [hx, List.getElem?_append_right (by omega)]
  congr 2
  omega
theorem op_mkdir (h : Hy d t b f) : mkdirD (sgD d t f 0) t = if d.await - 0 = 1 then (1, offD (sgD d t f 0)) else (0, sgD d t f 1) := by
  have e := mkdir_ok (d := sgD d t f 0) (s := t) h.off h.two.tn (by unfold sgD isT; simp only [kK, List.take_zero, List.append_nil]; have := find_no h.no []; rw [List.append_nil] at this; rw [this])
  rw [e, names_ite]
  have e2 : (sgD d t f 0).await = d.await - 0 := rfl
  rw [e2]
  by_cases h1 : d.await - 0 = 1
  · rw [if_pos h1, if_pos h1]
  · rw [if_neg h1, if_neg h1]
    simp [sgD, tickD, kK, fsK, thT, stT, applyS]
end

section
variable {d : Ds} {t b : Txt} {f : Fs3}
theorem op_create0 (h : Hy d t b f) : createD (sgD d t f 1) (t ++ sMeta) = if d.await - 1 = 1 then (1, offD (sgD d t f 1)) else (0, sgD d t f 2) := by
  have e := create_ok (d := sgD d t f 1) (s := t ++ sMeta) h.off (rest_meta.path h.two.tn) (by unfold sgD; exact h.parent rest_meta (by decide)) (by
    unfold isT sgD
    simp only
    rw [find_app h.no]
    simp [findT, thT, kK, sMeta, sChunks, sIndex])
  rw [e]
  have e2 : (sgD d t f 1).await = d.await - 1 := rfl
  rw [e2]
  by_cases h1 : d.await - 1 = 1
  · rw [if_pos h1, if_pos h1]
  · rw [if_neg h1, if_neg h1]
    simp [sgD, tickD, kK, fsK, thT, stT, byNew]
    try omega
theorem file0 (h : Hy d t b f) (i : Nat) (hi : kK i = 2 ∨ kK i = 4) : fileD (sgD d t f i) (t ++ sMeta) = .ok (d.files.length + 0) := by
  refine file_ok (d := sgD d t f i) h.off (rest_meta.path h.two.tn) ?_
  unfold sgD
  simp only
  rw [find_app h.no]
  rcases hi with hi | hi <;> rw [hi] <;> simp [findT, thT, sMeta, sChunks, sIndex]
theorem used0 (h : Hy d t b f) : usedD (sgD d t f 2) = usedD d := by
  unfold sgD
  rw [h.used]
  have n0 := now_app (d := d) (fsK f 2) 0
  have n1 := now_app (d := d) (fsK f 2) 1
  have n2 := now_app (d := d) (fsK f 2) 2
  simp only [Nat.add_zero] at n0
  simp only [usedL, thT, kK, List.take_succ_cons, List.take_zero, List.map_cons, List.map_nil, List.sum_cons, List.sum_nil, n0, n1, n2, if_true, Bool.false_eq_true, if_false]
  simp [fsK, byNew, byOk, Nat.add_assoc]
theorem op_append0 (h : Hy d t b f) (hc : usedD d + f.a.length ≤ d.cap) : appendD (sgD d t f 2) (t ++ sMeta) f.a = if d.await - 2 = 1 then (1, offD (sgD d t f 2)) else (0, sgD d t f 3) := by
  have e := append_ok (file0 h 2 (by decide)) f.a (by rw [used0 h]; exact hc)
  rw [e]
  have e2 : (sgD d t f 2).await = d.await - 2 := rfl
  rw [e2]
  by_cases h1 : d.await - 2 = 1
  · rw [if_pos h1, if_pos h1]
  · rw [if_neg h1, if_neg h1]
    have e3 := at_app (d := d) (x := sgD d t f 2) (fs := fsK f 2) rfl 0
    rw [e3]
    unfold setF tickD sgD
    simp only
    rw [set_app]
    have e4 : d.await - 2 - 1 = d.await - 3 := by omega
    rw [e4]
    rfl
theorem op_full0 (h : Hy d t b f) (hc : d.cap < usedD d + f.a.length) : appendD (sgD d t f 2) (t ++ sMeta) f.a = (7, sgD d t f 2) :=
  append_full (file0 h 2 (by decide)) f.a (by rw [used0 h]; exact hc)
theorem op_sync0 (h : Hy d t b f) : syncD (sgD d t f 3) (t ++ sMeta) = if d.await - 3 = 1 then (1, offD (sgD d t f 3)) else (0, sgD d t f 4) := by
  rw [sync_ok (file0 h 3 (by decide))]
  have e2 : (sgD d t f 3).await = d.await - 3 := rfl
  rw [e2]
  by_cases h1 : d.await - 3 = 1
  · rw [if_pos h1, if_pos h1]
  · rw [if_neg h1, if_neg h1]
    have e3 := at_app (d := d) (x := sgD d t f 3) (fs := fsK f 3) rfl 0
    rw [e3]
    unfold setF tickD sgD
    simp only
    rw [set_app]
    have e4 : d.await - 3 - 1 = d.await - 4 := by omega
    rw [e4]
    rfl
end

section
variable {d : Ds} {t b : Txt} {f : Fs3}
theorem op_create1 (h : Hy d t b f) : createD (sgD d t f 4) (t ++ sChunks) = if d.await - 4 = 1 then (1, offD (sgD d t f 4)) else (0, sgD d t f 5) := by
  have e := create_ok (d := sgD d t f 4) (s := t ++ sChunks) h.off (rest_chunks.path h.two.tn) (by unfold sgD; exact h.parent rest_chunks (by decide)) (by
    unfold isT sgD
    simp only
    rw [find_app h.no]
    simp [findT, thT, kK, sMeta, sChunks, sIndex])
  rw [e]
  have e2 : (sgD d t f 4).await = d.await - 4 := rfl
  rw [e2]
  by_cases h1 : d.await - 4 = 1
  · rw [if_pos h1, if_pos h1]
  · rw [if_neg h1, if_neg h1]
    simp [sgD, tickD, kK, fsK, thT, stT, byNew]
    try omega
theorem file1 (h : Hy d t b f) (i : Nat) (hi : kK i = 3 ∨ kK i = 4) : fileD (sgD d t f i) (t ++ sChunks) = .ok (d.files.length + 1) := by
  refine file_ok (d := sgD d t f i) h.off (rest_chunks.path h.two.tn) ?_
  unfold sgD
  simp only
  rw [find_app h.no]
  rcases hi with hi | hi <;> rw [hi] <;> simp [findT, thT, sMeta, sChunks, sIndex]
theorem used1 (h : Hy d t b f) : usedD (sgD d t f 5) = usedD d + f.a.length := by
  unfold sgD
  rw [h.used]
  have n0 := now_app (d := d) (fsK f 5) 0
  have n1 := now_app (d := d) (fsK f 5) 1
  have n2 := now_app (d := d) (fsK f 5) 2
  simp only [Nat.add_zero] at n0
  simp only [usedL, thT, kK, List.take_succ_cons, List.take_zero, List.map_cons, List.map_nil, List.sum_cons, List.sum_nil, n0, n1, n2, if_true, Bool.false_eq_true, if_false]
  simp [fsK, byNew, byOk, Nat.add_assoc]
theorem op_append1 (h : Hy d t b f) (hc : usedD d + f.a.length + f.b.length ≤ d.cap) : appendD (sgD d t f 5) (t ++ sChunks) f.b = if d.await - 5 = 1 then (1, offD (sgD d t f 5)) else (0, sgD d t f 6) := by
  have e := append_ok (file1 h 5 (by decide)) f.b (by rw [used1 h]; exact hc)
  rw [e]
  have e2 : (sgD d t f 5).await = d.await - 5 := rfl
  rw [e2]
  by_cases h1 : d.await - 5 = 1
  · rw [if_pos h1, if_pos h1]
  · rw [if_neg h1, if_neg h1]
    have e3 := at_app (d := d) (x := sgD d t f 5) (fs := fsK f 5) rfl 1
    rw [e3]
    unfold setF tickD sgD
    simp only
    rw [set_app]
    have e4 : d.await - 5 - 1 = d.await - 6 := by omega
    rw [e4]
    rfl
theorem op_full1 (h : Hy d t b f) (hc : d.cap < usedD d + f.a.length + f.b.length) : appendD (sgD d t f 5) (t ++ sChunks) f.b = (7, sgD d t f 5) :=
  append_full (file1 h 5 (by decide)) f.b (by rw [used1 h]; exact hc)
theorem op_sync1 (h : Hy d t b f) : syncD (sgD d t f 6) (t ++ sChunks) = if d.await - 6 = 1 then (1, offD (sgD d t f 6)) else (0, sgD d t f 7) := by
  rw [sync_ok (file1 h 6 (by decide))]
  have e2 : (sgD d t f 6).await = d.await - 6 := rfl
  rw [e2]
  by_cases h1 : d.await - 6 = 1
  · rw [if_pos h1, if_pos h1]
  · rw [if_neg h1, if_neg h1]
    have e3 := at_app (d := d) (x := sgD d t f 6) (fs := fsK f 6) rfl 1
    rw [e3]
    unfold setF tickD sgD
    simp only
    rw [set_app]
    have e4 : d.await - 6 - 1 = d.await - 7 := by omega
    rw [e4]
    rfl
end

section
variable {d : Ds} {t b : Txt} {f : Fs3}
theorem op_create2 (h : Hy d t b f) : createD (sgD d t f 7) (t ++ sIndex) = if d.await - 7 = 1 then (1, offD (sgD d t f 7)) else (0, sgD d t f 8) := by
  have e := create_ok (d := sgD d t f 7) (s := t ++ sIndex) h.off (rest_index.path h.two.tn) (by unfold sgD; exact h.parent rest_index (by decide)) (by
    unfold isT sgD
    simp only
    rw [find_app h.no]
    simp [findT, thT, kK, sMeta, sChunks, sIndex])
  rw [e]
  have e2 : (sgD d t f 7).await = d.await - 7 := rfl
  rw [e2]
  by_cases h1 : d.await - 7 = 1
  · rw [if_pos h1, if_pos h1]
  · rw [if_neg h1, if_neg h1]
    simp [sgD, tickD, kK, fsK, thT, stT, byNew]
    try omega
theorem file2 (h : Hy d t b f) (i : Nat) (hi : kK i = 4 ∨ kK i = 4) : fileD (sgD d t f i) (t ++ sIndex) = .ok (d.files.length + 2) := by
  refine file_ok (d := sgD d t f i) h.off (rest_index.path h.two.tn) ?_
  unfold sgD
  simp only
  rw [find_app h.no]
  rcases hi with hi | hi <;> rw [hi] <;> simp [findT, thT, sMeta, sChunks, sIndex]
theorem used2 (h : Hy d t b f) : usedD (sgD d t f 8) = usedD d + f.a.length + f.b.length := by
  unfold sgD
  rw [h.used]
  have n0 := now_app (d := d) (fsK f 8) 0
  have n1 := now_app (d := d) (fsK f 8) 1
  have n2 := now_app (d := d) (fsK f 8) 2
  simp only [Nat.add_zero] at n0
  simp only [usedL, thT, kK, List.take_succ_cons, List.take_zero, List.map_cons, List.map_nil, List.sum_cons, List.sum_nil, n0, n1, n2, if_true, Bool.false_eq_true, if_false]
  simp [fsK, byNew, byOk, Nat.add_assoc]
theorem op_append2 (h : Hy d t b f) (hc : usedD d + f.a.length + f.b.length + f.c.length ≤ d.cap) : appendD (sgD d t f 8) (t ++ sIndex) f.c = if d.await - 8 = 1 then (1, offD (sgD d t f 8)) else (0, sgD d t f 9) := by
  have e := append_ok (file2 h 8 (by decide)) f.c (by rw [used2 h]; exact hc)
  rw [e]
  have e2 : (sgD d t f 8).await = d.await - 8 := rfl
  rw [e2]
  by_cases h1 : d.await - 8 = 1
  · rw [if_pos h1, if_pos h1]
  · rw [if_neg h1, if_neg h1]
    have e3 := at_app (d := d) (x := sgD d t f 8) (fs := fsK f 8) rfl 2
    rw [e3]
    unfold setF tickD sgD
    simp only
    rw [set_app]
    have e4 : d.await - 8 - 1 = d.await - 9 := by omega
    rw [e4]
    rfl
theorem op_full2 (h : Hy d t b f) (hc : d.cap < usedD d + f.a.length + f.b.length + f.c.length) : appendD (sgD d t f 8) (t ++ sIndex) f.c = (7, sgD d t f 8) :=
  append_full (file2 h 8 (by decide)) f.c (by rw [used2 h]; exact hc)
theorem op_sync2 (h : Hy d t b f) : syncD (sgD d t f 9) (t ++ sIndex) = if d.await - 9 = 1 then (1, offD (sgD d t f 9)) else (0, sgD d t f 10) := by
  rw [sync_ok (file2 h 9 (by decide))]
  have e2 : (sgD d t f 9).await = d.await - 9 := rfl
  rw [e2]
  by_cases h1 : d.await - 9 = 1
  · rw [if_pos h1, if_pos h1]
  · rw [if_neg h1, if_neg h1]
    have e3 := at_app (d := d) (x := sgD d t f 9) (fs := fsK f 9) rfl 2
    rw [e3]
    unfold setF tickD sgD
    simp only
    rw [set_app]
    have e4 : d.await - 9 - 1 = d.await - 10 := by omega
    rw [e4]
    rfl
end

section
variable {d : Ds} {t b : Txt} {f : Fs3}
theorem op_rename (h : Hy d t b f) (hb : isT (d.things ++ thT t d.files.length) b = 0) : renameD (sgD d t f 10) t b = if d.await - 10 = 1 then (1, offD (sgD d t f 10)) else (0, sgR d t b f) := by
  have e := rename_ok (d := sgD d t f 10) (s := t) (s2 := b) h.off h.two.tn h.two.bn (by unfold sgD; exact h.is_t (by decide)) hb
  rw [e, names_ite]
  have e2 : (sgD d t f 10).await = d.await - 10 := rfl
  rw [e2]
  by_cases h1 : d.await - 10 = 1
  · rw [if_pos h1, if_pos h1]
  · rw [if_neg h1, if_neg h1]
    have e4 : d.await - 10 - 1 = d.await - 11 := by omega
    unfold sgR tickD sgD
    simp only [e4]
    rfl
theorem op_there (h : Hy d t b f) (hb : isT (d.things ++ thT t d.files.length) b = 2) : renameD (sgD d t f 10) t b = (5, sgD d t f 10) :=
  rename_there (d := sgD d t f 10) (s := t) (s2 := b) h.off h.two.tn h.two.bn (by unfold sgD; exact h.is_t (by decide)) hb
def opsW (t : Txt) (f : Fs3) : List (Ds → Nat × Ds) := (mkdirD · t) :: (fileD3 (t ++ sMeta) f.a ++ fileD3 (t ++ sChunks) f.b ++ fileD3 (t ++ sIndex) f.c)
theorem ops_go (h : Hy d t b f) (hc : usedD d + f.len ≤ d.cap) (hb : isT (d.things ++ thT t d.files.length) b = 0) : ∀ i g, (opsW t f ++ [(renameD · t b)])[i]? = some g → g (sgS d t b f i) = if d.await - i = 1 then (1, offD (sgS d t b f i)) else (0, sgS d t b f (i + 1)) := by
  unfold Fs3.len at hc
  intro i g hg
  match i, hg with
  | 0, hg => obtain rfl := (Option.some.inj hg).symm; exact op_mkdir h
  | 1, hg => obtain rfl := (Option.some.inj hg).symm; exact op_create0 h
  | 2, hg => obtain rfl := (Option.some.inj hg).symm; exact op_append0 h (by omega)
  | 3, hg => obtain rfl := (Option.some.inj hg).symm; exact op_sync0 h
  | 4, hg => obtain rfl := (Option.some.inj hg).symm; exact op_create1 h
  | 5, hg => obtain rfl := (Option.some.inj hg).symm; exact op_append1 h (by omega)
  | 6, hg => obtain rfl := (Option.some.inj hg).symm; exact op_sync1 h
  | 7, hg => obtain rfl := (Option.some.inj hg).symm; exact op_create2 h
  | 8, hg => obtain rfl := (Option.some.inj hg).symm; exact op_append2 h (by omega)
  | 9, hg => obtain rfl := (Option.some.inj hg).symm; exact op_sync2 h
  | 10, hg => obtain rfl := (Option.some.inj hg).symm; exact op_rename h hb
  | i + 11, hg => simp [opsW, fileD3] at hg
/-- What a save leaves: all is well, or the power goes off at one of its twelve steps. -/
theorem save_runs {d0 : Ds} (h : Hy d t b f) (hg : goneD d0 t = (0, d)) (hc : usedD d + f.len ≤ d.cap) (hb : isT (d.things ++ thT t d.files.length) b = 0) :
    saveD d0 t b f = if 1 ≤ d.await ∧ d.await ≤ 11 then (1, offD (sgD d t f (d.await - 1))) else if d.await = 12 then (1, offD (sgR d t b f)) else (0, { sgR d t b f with safe := (sgR d t b f).things, steps := [], await := d.await - 12 }) := by
  have hrun := seqD_run _ (sgS d t b f) d.await (ops_go h hc hb)
  have h0 : sgS d t b f 0 = d := sgD_zero d t f
  rw [h0] at hrun
  have hl : (opsW t f ++ [(renameD · t b)]).length = 11 := rfl
  rw [hl] at hrun
  unfold saveD writeD
  rw [hg, ← seqD_append]
  have hw : ((mkdirD · t) :: (fileD3 (t ++ sMeta) f.a ++ fileD3 (t ++ sChunks) f.b ++ fileD3 (t ++ sIndex) f.c)) ++ [(renameD · t b)] = opsW t f ++ [(renameD · t b)] := rfl
  rw [hw, hrun]
  by_cases h1 : 1 ≤ d.await ∧ d.await ≤ 11
  · rw [if_pos h1, if_pos h1]
    simp only
    rw [if_neg (by decide), remove_off rfl]
    have h2 : sgS d t b f (d.await - 1) = sgD d t f (d.await - 1) := by unfold sgS; rw [if_neg (by omega)]
    rw [h2]
  · rw [if_neg h1, if_neg h1]
    simp only
    have h2 : sgS d t b f 11 = sgR d t b f := by unfold sgS; rw [if_pos rfl]
    rw [h2, if_pos trivial, syncNames_ok (d := sgR d t b f) h.off]
    have e2 : (sgR d t b f).await = d.await - 11 := rfl
    rw [e2]
    by_cases h3 : d.await = 12
    · rw [if_pos (by omega), if_pos h3]
    · rw [if_neg (by omega), if_neg h3]
      unfold tickD
      have e4 : (sgR d t b f).await - 1 = d.await - 12 := by rw [e2]; omega
      rw [e4]
end
end

section
section
variable {t b m : Txt} {L : List Th} {q k : Nat}
theorem no_take {t : Txt} {L : List Th} (h : NoT t L) (k : Nat) : NoT t (L.take k) := fun x hx => h x (List.mem_of_mem_take hx)
theorem no_nil (t : Txt) : NoT t [] := fun x hx => by cases hx
theorem Two2.swap (h : Two2 t b) : Two2 b t := ⟨h.bn, h.tn, h.ne.symm, h.len.symm⟩
theorem Two2.apart (h : Two2 t b) (m : Txt) : b.isPrefixOf (t ++ m) = false := by
  rw [Bool.eq_false_iff]
  intro hp
  have hp := List.isPrefixOf_iff_prefix.1 hp
  have h2 : b <+: t := List.prefix_of_prefix_length_le hp (List.prefix_append t m) (by rw [h.len]; exact Nat.le_refl _)
  exact h.ne (h2.eq_of_length h.len.symm).symm
theorem Two2.no (h : Two2 t b) (q : Nat) : NoT b (thT t q) := by
  intro x hx
  simp only [thT, List.mem_cons, List.not_mem_nil, or_false] at hx
  rcases hx with rfl | rfl | rfl | rfl
  · have := h.apart []
    simpa using this
  · exact h.apart _
  · exact h.apart _
  · exact h.apart _
theorem is_no {t : Txt} {L : List Th} (h : NoT t L) : isT L t = 0 := by
  have := find_no h []
  rw [List.append_nil] at this
  unfold isT
  rw [this]
theorem inside_pre {p d : Txt} (h : insideB p d = true) : d.isPrefixOf p = true := by
  unfold insideB at h
  exact List.isPrefixOf_iff_prefix.2 ((List.prefix_append d [47]).trans (List.isPrefixOf_iff_prefix.1 h))
theorem inside_rest (t : Txt) {m : Txt} (h : Rest m) : insideB (t ++ m) t = true := by
  obtain ⟨r, rfl, _⟩ := h.ex
  unfold insideB
  refine List.isPrefixOf_iff_prefix.2 ⟨r, by simp⟩
theorem remove_all (h : NoT t L) (q k : Nat) : applyS (L ++ (thT t q).take k) (.remove t) = L := by
  show List.filter (fun x => !(x.path == t || insideB x.path t)) (L ++ (thT t q).take k) = L
  rw [List.filter_append]
  have e1 : L.filter (fun x => !(x.path == t || insideB x.path t)) = L := by
    rw [List.filter_eq_self]
    intro x hx
    have h1 := h x hx
    have h2 : (x.path == t) = false := by
      rw [beq_eq_false_iff_ne]
      rintro rfl
      rw [List.isPrefixOf_iff_prefix.2 (List.prefix_refl _)] at h1
      cases h1
    have h3 : insideB x.path t = false := by
      rw [Bool.eq_false_iff]
      intro h3
      rw [inside_pre h3] at h1
      cases h1
    rw [h2, h3]
    rfl
  have e2 : ((thT t q).take k).filter (fun x => !(x.path == t || insideB x.path t)) = [] := by
    rw [List.filter_eq_nil_iff]
    intro x hx
    have hx := List.mem_of_mem_take hx
    simp only [thT, List.mem_cons, List.not_mem_nil, or_false] at hx
    rcases hx with rfl | rfl | rfl | rfl
    · simp
    · simp [inside_rest t rest_meta]
    · simp [inside_rest t rest_chunks]
    · simp [inside_rest t rest_index]
  rw [e1, e2, List.append_nil]
theorem rename_all (h : Two2 t b) (q : Nat) : applyS (thT t q) (.rename t b) = thT b q := by
  have hl : ∀ m : Txt, m ≠ [] → t ++ m ≠ b := fun m hm e => hm (by
    have := congrArg List.length e
    rw [List.length_append, h.len] at this
    exact List.eq_nil_of_length_eq_zero (by omega))
  have hm : ∀ m : Txt, m ≠ [] → t ++ m ≠ t := fun m hm e => hm (by simpa using e)
  have b0 : (t == b) = false := by rw [beq_eq_false_iff_ne]; exact h.ne
  have b1 : (t ++ sMeta == b) = false := by rw [beq_eq_false_iff_ne]; exact hl _ (by decide)
  have b2 : (t ++ sChunks == b) = false := by rw [beq_eq_false_iff_ne]; exact hl _ (by decide)
  have b3 : (t ++ sIndex == b) = false := by rw [beq_eq_false_iff_ne]; exact hl _ (by decide)
  have c1 : (t ++ sMeta == t) = false := by rw [beq_eq_false_iff_ne]; exact hm _ (by decide)
  have c2 : (t ++ sChunks == t) = false := by rw [beq_eq_false_iff_ne]; exact hm _ (by decide)
  have c3 : (t ++ sIndex == t) = false := by rw [beq_eq_false_iff_ne]; exact hm _ (by decide)
  unfold applyS thT
  simp [b0, b1, b2, b3, c1, c2, c3, inside_rest t rest_meta, inside_rest t rest_chunks, inside_rest t rest_index]
theorem steps_take (k : Nat) : ((stT t 0).take k).foldl applyS [] = (thT t 0).take k := by
  match k with
  | 0 => rfl
  | 1 => rfl
  | 2 => rfl
  | 3 => rfl
  | k + 4 =>
    have e1 : (stT t 0).take (k + 4) = stT t 0 := List.take_of_length_le (by simp [stT])
    have e2 : (thT t 0).take (k + 4) = thT t 0 := List.take_of_length_le (by simp [thT])
    rw [e1, e2]
    rfl
theorem steps_all (h : Two2 t b) : (stT t 0 ++ [St.rename t b]).foldl applyS [] = thT b 0 := by
  rw [List.foldl_append]
  have := steps_take (t := t) 4
  have e : (stT t 0).take 4 = stT t 0 := rfl
  rw [e] at this
  rw [this]
  exact rename_all h 0
end

/-! ### loads -/
section
variable {y : Ds} {t b : Txt} {f : Fs3} {q : Nat}
theorem all_none (ho : y.off = false) (hp : pathB t = true) (hf : findT y.things t = none) : allD y t = ([], 4) := by
  unfold allD fileD fileT
  rw [if_neg (by rw [ho]; simp), if_neg (by rw [hp]; simp), hf]
theorem all_some {i : Nat} (h : fileD y t = .ok i) : allD y t = ((fAt y i).now, 0) := by
  unfold allD
  rw [h]
theorem load_none (ho : y.off = false) (hb : nameB b = true) (hn : NoT b y.things) : loadD y b = (.none, 4) := by
  unfold loadD
  rw [all_none ho (rest_meta.path hb) (find_no hn _)]
  rfl
theorem load_all (ho : y.off = false) (hb : nameB b = true) (hy : y.things = thT b q) (h0 : (fAt y q).now = f.a) (h1 : (fAt y (q + 1)).now = f.b) (h2 : (fAt y (q + 2)).now = f.c) : loadD y b = (f, 0) := by
  have e0 := all_some (y := y) (file_ok ho (rest_meta.path hb) (show findT y.things (b ++ sMeta) = some ⟨b ++ sMeta, false, q⟩ by rw [hy]; simp [findT, thT, sMeta]))
  have e1 := all_some (y := y) (file_ok ho (rest_chunks.path hb) (show findT y.things (b ++ sChunks) = some ⟨b ++ sChunks, false, q + 1⟩ by rw [hy]; simp [findT, thT, sMeta, sChunks]))
  have e2 := all_some (y := y) (file_ok ho (rest_index.path hb) (show findT y.things (b ++ sIndex) = some ⟨b ++ sIndex, false, q + 2⟩ by rw [hy]; simp [findT, thT, sMeta, sChunks, sIndex]))
  unfold loadD
  rw [e0, e1, e2, h0, h1, h2]
  rfl
theorem used_all (ho : y.off = false) (hy : y.things = thT b q) (h0 : (fAt y q).now = f.a) (h1 : (fAt y (q + 1)).now = f.b) (h2 : (fAt y (q + 2)).now = f.c) : usedD y = f.len := by
  unfold usedD
  rw [if_neg (by rw [ho]; simp), hy]
  have k0 : nowAt y q = f.a := h0
  have k1 : nowAt y (q + 1) = f.b := h1
  have k2 : nowAt y (q + 2) = f.c := h2
  simp [usedL, thT, k0, k1, k2, Fs3.len]
  omega
end

/-! ### a save that nothing hinders -/
section
variable {d d0 : Ds} {t b : Txt} {f : Fs3}
theorem fin_files (h : Hy d t b f) : (fAt (sgR d t b f) d.files.length).now = f.a ∧ (fAt (sgR d t b f) (d.files.length + 1)).now = f.b ∧ (fAt (sgR d t b f) (d.files.length + 2)).now = f.c := by
  have e0 := at_app (d := d) (x := sgR d t b f) (fs := fsK f 10) rfl 0
  have e1 := at_app (d := d) (x := sgR d t b f) (fs := fsK f 10) rfl 1
  have e2 := at_app (d := d) (x := sgR d t b f) (fs := fsK f 10) rfl 2
  rw [Nat.add_zero] at e0
  rw [e0, e1, e2]
  exact ⟨rfl, rfl, rfl⟩
theorem fin_things (h : Hy d t b f) (hL : d.things = []) : (sgR d t b f).things = thT b d.files.length := by
  unfold sgR
  simp only
  rw [hL, List.nil_append]
  exact rename_all h.two _
theorem free_b (h : Two2 t b) (hL : d.things = []) : isT (d.things ++ thT t d.files.length) b = 0 := by
  rw [hL, List.nil_append]
  exact is_no (h.no _)
/-- The disk behind a save that went well. -/
def doneD (d : Ds) (t b : Txt) (f : Fs3) : Ds := { sgR d t b f with safe := (sgR d t b f).things, steps := [], await := d.await - 12 }
theorem done_load (h : Hy d t b f) (hL : d.things = []) : loadD (doneD d t b f) b = (f, 0) := by
  obtain ⟨e0, e1, e2⟩ := fin_files h
  exact load_all (y := doneD d t b f) (q := d.files.length) h.off h.two.bn (fin_things h hL) e0 e1 e2
theorem done_used (h : Hy d t b f) (hL : d.things = []) : usedD (doneD d t b f) = f.len := by
  obtain ⟨e0, e1, e2⟩ := fin_files h
  exact used_all (y := doneD d t b f) (q := d.files.length) h.off (fin_things h hL) e0 e1 e2
theorem sused_nil (ho : d.off = false) (hL : d.things = []) : usedD d = 0 := by
  unfold usedD
  rw [if_neg (by rw [ho]; simp), hL]
  rfl
theorem save_plain (h : Hy d t b f) (hg : goneD d0 t = (0, d)) (hL : d.things = []) (hc : f.len ≤ d.cap) (haw : d.await = 0 ∨ 12 < d.await) : saveD d0 t b f = (0, doneD d t b f) := by
  rw [save_runs h hg (by rw [sused_nil h.off hL]; omega) (free_b h.two hL), if_neg (by omega), if_neg (by omega)]
  rfl
/-- Behind a restart that left a part of what a save had made: the place is swept. -/
theorem gone_part {y : Ds} (h : Two2 t b) (ho : y.off = false) (haw : y.await = 0) {q k : Nat} (hy : y.things = (thT t q).take k) : ∃ d, goneD y t = (0, d) ∧ d.things = [] ∧ d.off = false ∧ d.await = 0 ∧ d.cap = y.cap := by
  unfold goneD
  rcases Nat.eq_zero_or_pos k with rfl | hk
  · rw [remove_none ho h.tn (by rw [hy]; rfl)]
    exact ⟨y, rfl, hy, ho, haw, rfl⟩
  · have ht : isT y.things t = 2 := by
      rw [hy]
      obtain ⟨k, rfl⟩ : ∃ j, k = j + 1 := ⟨k - 1, by omega⟩
      simp [isT, findT, thT]
    have e : removeD y t = (0, { tickD y with things := applyS y.things (.remove t), steps := y.steps ++ [.remove t] }) := by
      rw [remove_dir ho h.tn ht, names_ite, if_neg (by omega)]
    rw [e]
    refine ⟨_, rfl, ?_, ho, ?_, rfl⟩
    · simp only [hy]
      have := remove_all (no_nil t) q k
      rwa [List.nil_append] at this
    · simp [tickD, haw]
theorem save_again {y : Ds} (h : Two2 t b) (ho : y.off = false) (haw : y.await = 0) {q k : Nat} (hy : y.things = (thT t q).take k) (hc : f.len ≤ y.cap) : (saveD y t b f).1 = 0 ∧ loadD (saveD y t b f).2 b = (f, 0) := by
  obtain ⟨d, hg, hL, h1, h2, h3⟩ := gone_part h ho haw hy
  have hh : Hy d t b f := ⟨h1, h, by rw [hL]; exact no_nil t, by rw [hL]; intro x hx; cases hx⟩
  rw [save_plain hh hg hL (by omega) (.inl h2)]
  exact ⟨rfl, done_load hh hL⟩
end

/-! ### restarts -/
theorem keep_ok (x : Txt) (w : Int) (z : Bool) : keepF (byOk x) w z = byOk x := by
  unfold keepF byOk units
  simp [keepL]
theorem keepAll_same (data : List Int) (z : Bool) : ∀ (l : List En) (i : Nat) (fs : List By), (∀ g ∈ fs, ∀ w, keepF g w z = g) → keepAll data z l i fs = fs
  | [], _, _, _ => rfl
  | x :: r, i, fs, h => by
    have e : fs.set x.size (keepF (fs[x.size]?.getD default) (if data = [] then 0 else data[i % data.length]?.getD 0) z) = fs := by
      by_cases hx : x.size < fs.length
      · rw [List.getElem?_eq_getElem hx, Option.getD_some, h _ (List.getElem_mem hx)]
        exact List.set_getElem_self hx
      · exact List.set_eq_of_length_le (by omega)
    rw [keepAll, e]
    exact keepAll_same data z r _ fs h
section
variable {t b : Txt} {f : Fs3}
/-- The disk of StoreSaves ahead of the save. -/
def freshD (aw : Nat) : Ds := { newD 67108864 with await := aw }
theorem hy_fresh (h : Two2 t b) (aw : Nat) : Hy (freshD aw) t b f := ⟨rfl, h, no_nil t, fun x hx => by cases hx⟩
theorem gone_fresh (h : Two2 t b) (aw : Nat) : goneD (freshD aw) t = (0, freshD aw) := by
  unfold goneD
  rw [remove_none (d := freshD aw) rfl h.tn rfl]
  rfl
theorem share_le (w : Int) (n : Nat) : shareN w n ≤ n := by
  unfold shareN
  split
  · omega
  · have := Nat.mod_lt w.toNat (show 0 < n + 1 by omega)
    omega
theorem saves_plain (h : Two2 t b) (hf : f.len ≤ 67108864) (aw : Nat) (n : Int) (data : List Int) (z : Bool) :
    ((saveD (freshD aw) t b f).1 = 0 ∧ (saveD (freshD aw) t b f).2.off = false ∨ (saveD (freshD aw) t b f).1 = 1 ∧ (saveD (freshD aw) t b f).2.off = true) ∧
    (loadD (restartD (saveD (freshD aw) t b f).2 n data z) b = (f, 0) ∨ loadD (restartD (saveD (freshD aw) t b f).2 n data z) b = (.none, 4) ∧ (saveD (freshD aw) t b f).1 = 1 ∧
      (saveD (restartD (saveD (freshD aw) t b f).2 n data z) t b f).1 = 0 ∧ loadD (saveD (restartD (saveD (freshD aw) t b f).2 n data z) t b f).2 b = (f, 0)) := by
  have hh := hy_fresh (f := f) h aw
  have hc : (freshD aw).cap = 67108864 := by show (newD 67108864).cap = _; decide
  have hr := save_runs hh (gone_fresh h aw) (by rw [sused_nil rfl rfl, hc]; omega) (free_b h rfl)
  have haw : (freshD aw).await = aw := rfl
  rw [haw] at hr
  have part : ∀ x : Ds, x.cap = 67108864 → (∃ k, (x.steps.take (shareN n x.steps.length)).foldl applyS x.safe = (thT t 0).take k) → loadD (restartD x n data z) b = (.none, 4) ∧ (saveD (restartD x n data z) t b f).1 = 0 ∧ loadD (saveD (restartD x n data z) t b f).2 b = (f, 0) := by
    rintro x hx ⟨k, hk⟩
    have hy : (restartD x n data z).things = (thT t 0).take k := hk
    refine ⟨load_none (y := restartD x n data z) rfl h.bn (by rw [hy]; exact no_take (h.no 0) k), ?_⟩
    exact save_again (y := restartD x n data z) h rfl rfl hy (by show f.len ≤ x.cap; omega)
  have fin : ∀ x : Ds, x.files = fsK f 10 → (x.steps.take (shareN n x.steps.length)).foldl applyS x.safe = thT b 0 → loadD (restartD x n data z) b = (f, 0) := by
    intro x hx hs
    have hfs : (restartD x n data z).files = fsK f 10 := by
      unfold restartD
      simp only
      rw [hx]
      refine keepAll_same _ _ _ _ _ fun g hg w => ?_
      simp only [fsK, List.mem_cons, List.not_mem_nil, or_false] at hg
      rcases hg with rfl | rfl | rfl <;> exact keep_ok _ _ _
    refine load_all (y := restartD x n data z) (q := 0) rfl h.bn hs ?_ ?_ ?_
    · unfold fAt; rw [hfs]; rfl
    · unfold fAt; rw [hfs]; rfl
    · unfold fAt; rw [hfs]; rfl
  by_cases h1 : 1 ≤ aw ∧ aw ≤ 11
  · rw [if_pos h1] at hr
    rw [hr]
    refine ⟨.inr ⟨rfl, rfl⟩, .inr ?_⟩
    obtain ⟨k1, k2, k3⟩ := part (offD (sgD (freshD aw) t f (aw - 1))) hc ⟨min (shareN n ((stT t 0).take (kK (aw - 1))).length) (kK (aw - 1)), by
      show ((([] ++ (stT t 0).take (kK (aw - 1))).take (shareN n ([] ++ (stT t 0).take (kK (aw - 1))).length)).foldl applyS []) = _
      rw [List.nil_append, List.take_take]
      exact steps_take _⟩
    exact ⟨k1, rfl, k2, k3⟩
  · rw [if_neg h1] at hr
    by_cases h2 : aw = 12
    · rw [if_pos h2] at hr
      rw [hr]
      refine ⟨.inr ⟨rfl, rfl⟩, ?_⟩
      have hst : (offD (sgR (freshD aw) t b f)).steps = stT t 0 ++ [.rename t b] := rfl
      have hlen : (stT t 0 ++ [St.rename t b]).length = 5 := rfl
      by_cases h3 : shareN n 5 = 5
      · refine .inl (fin _ rfl ?_)
        rw [hst, hlen, h3]
        exact steps_all h
      · have h4 := share_le n 5
        obtain ⟨k1, k2, k3⟩ := part (offD (sgR (freshD aw) t b f)) hc ⟨shareN n 5, by
          rw [hst, hlen, List.take_append_of_le_length (by show shareN n 5 ≤ 4; omega)]
          exact steps_take _⟩
        exact .inr ⟨k1, rfl, k2, k3⟩
    · rw [if_neg h2] at hr
      rw [hr]
      refine ⟨.inl ⟨rfl, rfl⟩, .inl (fin _ rfl ?_)⟩
      show List.foldl applyS (sgR (freshD aw) t b f).things (List.take _ []) = thT b 0
      rw [List.take_nil]
      exact fin_things hh rfl
end

/-! ### StoreFull -/
section
variable {t b : Txt} {f : Fs3}
def roomD (cap : Nat) : Ds := ⟨[], [], [], [], cap, false, 0⟩
theorem hy_room (h : Two2 t b) (cap : Nat) : Hy (roomD cap) t b f := ⟨rfl, h, no_nil t, fun x hx => by cases hx⟩
theorem gone_room (h : Two2 t b) (cap : Nat) : goneD (roomD cap) t = (0, roomD cap) := by
  unfold goneD
  rw [remove_none (d := roomD cap) rfl h.tn rfl]
  rfl
theorem seqD_stop : ∀ (l : List (Ds → Nat × Ds)) (r : Nat × Ds), r.1 ≠ 0 → seqD l r = r
  | [], _, _ => rfl
  | f :: l, r, h => by rw [seqD, if_neg h]
theorem full_at (h : Two2 t b) (cap i : Nat) (g : Ds → Nat × Ds) (l : List (Ds → Nat × Ds)) (hl : opsW t f = (opsW t f).take i ++ g :: l) (hi : i ≤ 10) (hgo : ∀ j g', ((opsW t f).take i)[j]? = some g' → g' (sgD (roomD cap) t f j) = (0, sgD (roomD cap) t f (j + 1)))
    (hf : g (sgD (roomD cap) t f i) = (7, sgD (roomD cap) t f i)) (hk : 1 ≤ kK i) : (saveD (roomD cap) t b f).1 = 7 ∧ (saveD (roomD cap) t b f).2.things = [] ∧ (saveD (roomD cap) t b f).2.off = false := by
  have hrun := seqD_run ((opsW t f).take i) (sgD (roomD cap) t f) 0 (fun j g' hg' => by rw [hgo j g' hg', if_neg (by omega)])
  rw [sgD_zero, if_neg (by omega)] at hrun
  have hlen : ((opsW t f).take i).length = i := by rw [List.length_take]; show min i 10 = i; omega
  rw [hlen] at hrun
  have hw : seqD (opsW t f) (0, roomD cap) = (7, sgD (roomD cap) t f i) := by
    rw [hl, seqD_append, hrun, seqD, if_pos rfl]
    simp only
    rw [hf]
    exact seqD_stop _ _ (by simp)
  have hs : saveD (roomD cap) t b f = (7, (removeD (sgD (roomD cap) t f i) t).2) := by
    unfold saveD writeD
    rw [gone_room h]
    have e : ((mkdirD · t) :: (fileD3 (t ++ sMeta) f.a ++ fileD3 (t ++ sChunks) f.b ++ fileD3 (t ++ sIndex) f.c)) = opsW t f := rfl
    rw [e, hw, seqD, if_neg (by simp), if_neg (by simp)]
  rw [hs, remove_dir (d := sgD (roomD cap) t f i) rfl h.tn (by have := (hy_room (f := f) h cap).is_t hk; exact this), names_ite, if_neg (by show ¬ (0 - i = 1); omega)]
  refine ⟨rfl, ?_, rfl⟩
  have := remove_all (no_nil t) 0 (kK i)
  exact this
theorem full_bad (h : Two2 t b) (cap : Nat) (hc : cap < f.len) : (saveD (roomD cap) t b f).1 = 7 ∧ (saveD (roomD cap) t b f).2.things = [] ∧ (saveD (roomD cap) t b f).2.off = false := by
  have hh := hy_room (f := f) h cap
  have hu : usedD (roomD cap) = 0 := rfl
  have hcp : (roomD cap).cap = cap := rfl
  have aw : ∀ i, ¬ ((roomD cap).await - i = 1) := fun i => by show ¬ (0 - i = 1); omega
  unfold Fs3.len at hc
  have g0 := op_mkdir hh
  have g1 := op_create0 hh
  have g3 := op_sync0 hh
  have g4 := op_create1 hh
  have g6 := op_sync1 hh
  have g7 := op_create2 hh
  rw [if_neg (aw _)] at g0 g1 g3 g4 g6 g7
  by_cases h1 : cap < f.a.length
  · refine full_at h cap 2 _ _ rfl (by omega) (fun j g' hg' => ?_) (op_full0 hh (by rw [hu, hcp]; omega)) (by decide)
    match j, hg' with
    | 0, hg => obtain rfl := (Option.some.inj hg).symm; exact g0
    | 1, hg => obtain rfl := (Option.some.inj hg).symm; exact g1
    | j + 2, hg => exact absurd hg (by simp [opsW, fileD3])
  have g2 := op_append0 hh (by rw [hu, hcp]; omega)
  rw [if_neg (aw _)] at g2
  by_cases h2 : cap < f.a.length + f.b.length
  · refine full_at h cap 5 _ _ rfl (by omega) (fun j g' hg' => ?_) (op_full1 hh (by rw [hu, hcp]; omega)) (by decide)
    match j, hg' with
    | 0, hg => obtain rfl := (Option.some.inj hg).symm; exact g0
    | 1, hg => obtain rfl := (Option.some.inj hg).symm; exact g1
    | 2, hg => obtain rfl := (Option.some.inj hg).symm; exact g2
    | 3, hg => obtain rfl := (Option.some.inj hg).symm; exact g3
    | 4, hg => obtain rfl := (Option.some.inj hg).symm; exact g4
    | j + 5, hg => exact absurd hg (by simp [opsW, fileD3])
  have g5 := op_append1 hh (by rw [hu, hcp]; omega)
  rw [if_neg (aw _)] at g5
  refine full_at h cap 8 _ _ rfl (by omega) (fun j g' hg' => ?_) (op_full2 hh (by rw [hu, hcp]; omega)) (by decide)
  match j, hg' with
  | 0, hg => obtain rfl := (Option.some.inj hg).symm; exact g0
  | 1, hg => obtain rfl := (Option.some.inj hg).symm; exact g1
  | 2, hg => obtain rfl := (Option.some.inj hg).symm; exact g2
  | 3, hg => obtain rfl := (Option.some.inj hg).symm; exact g3
  | 4, hg => obtain rfl := (Option.some.inj hg).symm; exact g4
  | 5, hg => obtain rfl := (Option.some.inj hg).symm; exact g5
  | 6, hg => obtain rfl := (Option.some.inj hg).symm; exact g6
  | 7, hg => obtain rfl := (Option.some.inj hg).symm; exact g7
  | j + 8, hg => exact absurd hg (by simp [opsW, fileD3])
theorem list_nil {y : Ds} (ho : y.off = false) (hy : y.things = []) : listD y [] = ([], 0) := by
  unfold listD
  rw [if_neg (by rw [ho]; simp), if_neg (by simp), if_neg (by simp), if_neg (by simp)]
  unfold entD
  rw [hy]
  rfl
theorem list_one {y : Ds} {q : Nat} (ho : y.off = false) (hb : nameB b = true) (hy : y.things = thT b q) : (listD y []).1.length = 1 ∧ (listD y []).2 = 0 := by
  unfold listD
  rw [if_neg (by rw [ho]; simp), if_neg (by simp), if_neg (by simp), if_neg (by simp)]
  unfold entD
  rw [hy]
  simp [thT, snameB_slash hb, rest_meta.slash hb, rest_chunks.slash hb, rest_index.slash hb, sortE, insE]
theorem full_twice (h : Two2 t b) (cap : Nat) (hc : f.len ≤ cap) : saveD (roomD cap) t b f = (0, doneD (roomD cap) t b f) ∧ (saveD (doneD (roomD cap) t b f) t b .none).1 = 5 ∧
    (saveD (doneD (roomD cap) t b f) t b .none).2.off = false ∧ (saveD (doneD (roomD cap) t b f) t b .none).2.things = thT b 0 ∧ usedD (saveD (doneD (roomD cap) t b f) t b .none).2 = f.len := by
  have hh := hy_room (f := f) h cap
  refine ⟨save_plain hh (gone_room h cap) rfl hc (.inl rfl), ?_⟩
  obtain ⟨y, hy⟩ : ∃ y, doneD (roomD cap) t b f = y := ⟨_, rfl⟩
  have yt : y.things = thT b 0 := by rw [← hy]; exact fin_things hh rfl
  have yo : y.off = false := by rw [← hy]; rfl
  have ya : y.await = 0 := by rw [← hy]; rfl
  have yf : y.files = fsK f 10 := by rw [← hy]; rfl
  have yc : y.cap = cap := by rw [← hy]; rfl
  have yu : usedD y = f.len := by rw [← hy]; exact done_used hh rfl
  rw [hy]
  have no : NoT t y.things := by rw [yt]; exact h.swap.no 0
  have h2 : Hy y t b .none := ⟨yo, h, no, by
    rw [yt, yf]
    intro x hx hd
    simp only [thT, List.mem_cons, List.not_mem_nil, or_false] at hx
    rcases hx with rfl | rfl | rfl | rfl
    · cases hd
    · simp [fsK]
    · simp [fsK]
    · simp [fsK]⟩
  have hg : goneD y t = (0, y) := by
    unfold goneD
    rw [remove_none yo h.tn (is_no no)]
    rfl
  have aw : ∀ i, ¬ (y.await - i = 1) := fun i => by rw [ya]; omega
  have c0 : usedD y + 0 ≤ y.cap := by rw [yu, yc]; omega
  have hgo : ∀ j g', (opsW t Fs3.none)[j]? = some g' → g' (sgD y t .none j) = if 0 - j = 1 then (1, offD (sgD y t .none j)) else (0, sgD y t .none (j + 1)) := by
    intro j g' hg'
    rw [if_neg (by omega)]
    match j, hg' with
    | 0, hg => obtain rfl := (Option.some.inj hg).symm; have := op_mkdir h2; rwa [if_neg (aw _)] at this
    | 1, hg => obtain rfl := (Option.some.inj hg).symm; have := op_create0 h2; rwa [if_neg (aw _)] at this
    | 2, hg => obtain rfl := (Option.some.inj hg).symm; have := op_append0 h2 c0; rwa [if_neg (aw _)] at this
    | 3, hg => obtain rfl := (Option.some.inj hg).symm; have := op_sync0 h2; rwa [if_neg (aw _)] at this
    | 4, hg => obtain rfl := (Option.some.inj hg).symm; have := op_create1 h2; rwa [if_neg (aw _)] at this
    | 5, hg => obtain rfl := (Option.some.inj hg).symm; have := op_append1 h2 c0; rwa [if_neg (aw _)] at this
    | 6, hg => obtain rfl := (Option.some.inj hg).symm; have := op_sync1 h2; rwa [if_neg (aw _)] at this
    | 7, hg => obtain rfl := (Option.some.inj hg).symm; have := op_create2 h2; rwa [if_neg (aw _)] at this
    | 8, hg => obtain rfl := (Option.some.inj hg).symm; have := op_append2 h2 c0; rwa [if_neg (aw _)] at this
    | 9, hg => obtain rfl := (Option.some.inj hg).symm; have := op_sync2 h2; rwa [if_neg (aw _)] at this
    | j + 10, hg => exact absurd hg (by simp [opsW, fileD3])
  have hrun := seqD_run (opsW t .none) (sgD y t .none) 0 hgo
  rw [sgD_zero, if_neg (by omega)] at hrun
  have hl : (opsW t Fs3.none).length = 10 := rfl
  rw [hl] at hrun
  have hs : saveD y t b .none = (5, (removeD (sgD y t .none 10) t).2) := by
    unfold saveD writeD
    rw [hg]
    have e : ((mkdirD · t) :: (fileD3 (t ++ sMeta) Fs3.none.a ++ fileD3 (t ++ sChunks) Fs3.none.b ++ fileD3 (t ++ sIndex) Fs3.none.c)) = opsW t .none := rfl
    rw [e, hrun, seqD, if_pos rfl]
    simp only
    rw [op_there h2 (by
      rw [yt]
      unfold isT
      simp [findT, thT])]
    rw [seqD, if_neg (by simp)]
  have hrm : removeD (sgD y t .none 10) t = (0, { tickD (sgD y t .none 10) with things := applyS (sgD y t .none 10).things (.remove t), steps := (sgD y t .none 10).steps ++ [.remove t] }) := by
    rw [remove_dir (d := sgD y t .none 10) yo h.tn (h2.is_t (by decide)), names_ite, if_neg (by show ¬ (y.await - 10 = 1); omega)]
  have ht : applyS (sgD y t .none 10).things (.remove t) = thT b 0 := by
    have := remove_all no y.files.length 4
    rw [← yt]
    exact this
  rw [hs, hrm]
  refine ⟨rfl, yo, ht, ?_⟩
  refine used_all (q := 0) yo ht ?_ ?_ ?_
  · show (fAt (sgD y t .none 10) 0).now = f.a
    unfold fAt sgD
    rw [yf]
    rfl
  · show (fAt (sgD y t .none 10) 1).now = f.b
    unfold fAt sgD
    rw [yf]
    rfl
  · show (fAt (sgD y t .none 10) 2).now = f.c
    unfold fAt sgD
    rw [yf]
    rfl
end
end

section
/-- The disk behind Put on a new disk. -/
def putX (cap : Nat) (P s : Txt) : Ds := ⟨[⟨P, false, 0⟩], [⟨P, false, 0⟩], [], [byOk s], cap, false, 0⟩
theorem sname_path {s : Txt} (h : nameB s = true) : pathB s = true := by unfold pathB; rw [snameB_slash h]; exact h
theorem name_parent {s : Txt} (h : nameB s = true) (l : List Th) : parentB l s = true := by unfold parentB; rw [snameB_slash h]
theorem rename_file {d : Ds} {s s2 : Txt} (ho : d.off = false) (h1 : nameB s = true) (h2 : nameB s2 = true) (hi : isT d.things s = 1) (hi2 : isT d.things s2 = 0) : renameD d s s2 = namesD d (.rename s s2) := by
  unfold renameD
  rw [if_neg (by rw [ho]; simp), if_neg (by rw [sname_path h1, sname_path h2]; simp), if_neg (by rw [h2]; simp), if_neg (by rw [hi, name_parent h2]; simp), if_neg (by rw [hi, hi2]; simp)]
theorem putL_go {F : Txt} {f : Ds → Nat × Ds} {l : List (Ds → Nat × Ds)} {d d2 : Ds} (h : f d = (0, d2)) : putL F (f :: l) (0, d) = putL F l (0, d2) := by
  rw [putL, if_pos rfl]
  simp only
  rw [h]
theorem put_new (cap : Nat) (P s : Txt) (hP : nameB P = true) (hF : nameB (P ++ dotNew) = true) (hs : s.length ≤ cap) : putD (roomD cap) P s = (0, putX cap P s) := by
  have hne : (P ++ dotNew == P) = false := by rw [beq_eq_false_iff_ne]; intro e; have := congrArg List.length e; simp [dotNew] at this
  have hne2 : (P == P ++ dotNew) = false := by rw [beq_eq_false_iff_ne]; intro e; have := congrArg List.length e; simp [dotNew] at this
  obtain ⟨F, hFe⟩ : ∃ F, P ++ dotNew = F := ⟨_, rfl⟩
  unfold putD
  rw [hFe] at hF hne hne2 ⊢
  have g : goneD (roomD cap) F = (0, roomD cap) := by
    unfold goneD
    rw [remove_none (d := roomD cap) rfl hF rfl]
    rfl
  rw [g]
  let d1 : Ds := ⟨[⟨F, false, 0⟩], [], [.create F 0], [⟨[], [], []⟩], cap, false, 0⟩
  have e1 : createD (roomD cap) F = (0, d1) := by
    rw [create_ok (d := roomD cap) rfl (sname_path hF) (name_parent hF _) rfl]
    exact (if_neg (fun h : (0 : Nat) = 1 => by cases h)).trans rfl
  have f1 : ∀ (fs : List By) (st : List St), fileD ⟨[⟨F, false, 0⟩], [], st, fs, cap, false, 0⟩ F = .ok 0 := fun fs st => file_ok (d := ⟨[⟨F, false, 0⟩], [], st, fs, cap, false, 0⟩) rfl (sname_path hF) (by simp [findT])
  let d2 : Ds := ⟨[⟨F, false, 0⟩], [], [.create F 0], [byApp s], cap, false, 0⟩
  have e2 : appendD d1 F s = (0, d2) := by
    rw [append_ok (d := d1) (f1 _ _) s (by show 0 + s.length ≤ cap; omega)]
    exact (if_neg (fun h : (0 : Nat) = 1 => by cases h)).trans rfl
  let d3 : Ds := ⟨[⟨F, false, 0⟩], [], [.create F 0], [byOk s], cap, false, 0⟩
  have e3 : syncD d2 F = (0, d3) := by
    rw [sync_ok (d := d2) (f1 _ _)]
    exact (if_neg (fun h : (0 : Nat) = 1 => by cases h)).trans rfl
  let d4 : Ds := ⟨[⟨P, false, 0⟩], [], [.create F 0, .rename F P], [byOk s], cap, false, 0⟩
  have e4 : renameD d3 F P = (0, d4) := by
    rw [rename_file (d := d3) rfl hF hP (by show isT [⟨F, false, 0⟩] F = 1; simp [isT, findT]) (by show isT [⟨F, false, 0⟩] P = 0; simp [isT, findT, hne]), names_ite]
    refine (if_neg (fun h : (0 : Nat) = 1 => by cases h)).trans ?_
    show (0, (⟨applyS [⟨F, false, 0⟩] (.rename F P), [], _, _, _, _, _⟩ : Ds)) = (0, d4)
    have : applyS [⟨F, false, 0⟩] (.rename F P) = [⟨P, false, 0⟩] := by simp [applyS, hne]
    rw [this]
    rfl
  have e5 : syncNamesD d4 = (0, putX cap P s) := by
    rw [syncNames_ok (d := d4) rfl]
    exact (if_neg (fun h : (0 : Nat) = 1 => by cases h)).trans rfl
  rw [putL_go e1, putL_go e2, putL_go e3, putL_go e4, putL_go e5, putL]
theorem putX_all (cap : Nat) (P s : Txt) (hP : nameB P = true) : allD (putX cap P s) P = (s, 0) := by
  rw [all_some (y := putX cap P s) (file_ok rfl (sname_path hP) (show findT [⟨P, false, 0⟩] P = some ⟨P, false, 0⟩ by simp [findT]))]
  rfl
def sManifest : Txt := [109, 97, 110, 105, 102, 101, 115, 116]
theorem newD_room : newD 67108864 = roomD 67108864 := rfl

/-! ### wakes -/
def plainM : Man := ⟨10, 10, 10, 3, 1, [⟨2, 0, 0, 5, 7⟩], 5, 0, 0, 0, 0, 0, 0⟩
def plainF : Fs3 := ⟨[109], [99], [105]⟩
def t2 : Txt := [116, 48, 48, 48, 48, 48, 48, 48, 50]
def b2 : Txt := [98, 48, 48, 48, 48, 48, 48, 48, 50]
def wakeD1 : Nat × Ds := putD (newD 1000) sManifest (encM plainM)
def wakeD2 : Nat × Ds := saveD wakeD1.2 t2 b2 plainF
theorem wake1 : wakeD1.1 = 0 := by decide +kernel
theorem wake2 : wakeD2.1 = 0 := by decide +kernel
theorem wake3 : allD wakeD2.2 sManifest = (encM plainM, 0) := by decide +kernel
theorem wake4 : loadD wakeD2.2 b2 = (plainF, 0) := by decide +kernel
theorem wake5 : plainM.fit = true ∧ plainM.small := by
  refine ⟨by decide, ?_⟩
  intro v hv
  simp only [Man.nums, Man.tens, plainM, Inf.nums, List.mem_append, List.mem_cons, List.not_mem_nil, or_false, List.flatMap_cons, List.flatMap_nil, List.append_nil, List.length_cons, List.length_nil] at hv
  unfold i64
  omega
theorem wake6 : (encM plainM).length ≤ 1000 := by decide +kernel
end

section
/-- Where a turn begins. -/
def turnA (s : Txt) (at_ : Int) : Nat := (max 0 (min at_ (s.length : Int))).toNat
def turnE (s : Txt) (at_ out : Int) : Nat := turnA s at_ + (max 0 (min out ((s.length : Int) - turnA s at_))).toNat
def turnT (s : Txt) (at_ out : Int) (t : Txt) : Txt := s.take (turnA s at_) ++ t ++ s.drop (turnE s at_ out)
structure Trn where
  at_ : Int
  out : Int
  t : Txt
def turnsT (s : Txt) : List Trn → Txt
  | [] => s
  | x :: l => turnsT (turnT s x.at_ x.out x.t) l
def Trn.len (l : List Trn) : Nat := (l.map (·.t.length)).sum
theorem turnA_le (s : Txt) (at_ : Int) : turnA s at_ ≤ s.length := by unfold turnA; omega
theorem turnE_le (s : Txt) (at_ out : Int) : turnA s at_ ≤ turnE s at_ out ∧ turnE s at_ out ≤ s.length := by
  have := turnA_le s at_
  unfold turnE
  omega
theorem turnT_len (s : Txt) (at_ out : Int) (t : Txt) : (turnT s at_ out t).length ≤ s.length + t.length := by
  have h1 := turnA_le s at_
  have h2 := turnE_le s at_ out
  unfold turnT
  simp only [List.length_append, List.length_take, List.length_drop]
  omega
/-- The disk of StoreOne: the manifest's text stands in its file. -/
def oneD (s : Txt) : Ds := ⟨[⟨sManifest, false, 0⟩], [], [.create sManifest 0], [byApp s], 67108864, false, 0⟩
def oneD0 : Ds := ⟨[⟨sManifest, false, 0⟩], [], [.create sManifest 0], [⟨[], [], []⟩], 67108864, false, 0⟩
theorem sman_name : nameB sManifest = true := by decide
theorem one_create : createD (newD 67108864) sManifest = (0, oneD0) := by
  rw [create_ok (d := newD 67108864) rfl (sname_path sman_name) (name_parent sman_name _) rfl]
  exact (if_neg (fun h : (0 : Nat) = 1 => by cases h)).trans rfl
theorem one_append (s : Txt) (h : s.length ≤ 67108864) : appendD oneD0 sManifest s = (0, oneD s) := by
  have f1 : fileD oneD0 sManifest = .ok 0 := file_ok (d := oneD0) rfl (sname_path sman_name) (by show findT [⟨sManifest, false, 0⟩] sManifest = _; simp [findT])
  rw [append_ok (d := oneD0) f1 s (by show 0 + s.length ≤ 67108864; omega)]
  exact (if_neg (fun h : (0 : Nat) = 1 => by cases h)).trans rfl
theorem one_all (s : Txt) : allD (oneD s) sManifest = (s, 0) := by
  rw [all_some (y := oneD s) (file_ok rfl (sname_path sman_name) (show findT [⟨sManifest, false, 0⟩] sManifest = some ⟨sManifest, false, 0⟩ by simp [findT]))]
  rfl
theorem decM_zero {s : Txt} (h : (decM s).2 ≠ 0) : (decM s).1 = .zero := (decM_bad h).1
theorem back_all (m : Man) (h : (encM m).length ≤ 67108864) : putD (newD 67108864) sManifest (encM m) = (0, putX 67108864 sManifest (encM m)) ∧ allD (putX 67108864 sManifest (encM m)) sManifest = (encM m, 0) :=
  ⟨by rw [newD_room]; exact put_new _ _ _ sman_name (by decide) h, putX_all _ _ _ sman_name⟩
end
end Go.Proofs.YtfpgbhimgfdddaaGreatDoor
