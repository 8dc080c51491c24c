/- The plain law of layer 6 (regex): trees, sets of bytes as numbers, the machine that reads a pattern. No program in sight. -/
import Derived.Test.YtlmnincllndpnaaWords
namespace Go.Proofs.Ytlmnincllndpnaa

/-- A pattern's tree; a class is a number of 256 bits. -/
inductive Tr where
  | empty
  | cls (s : Nat)
  | cat (a b : Tr)
  | alt (a b : Tr)
  | star (a : Tr)
  | plus (a : Tr)
  | quest (a : Tr)

/-! ### sets -/
def putN (s a : Nat) : Nat → Nat
  | 0 => s
  | n + 1 => putN s a n ||| 2 ^ (a + n)
def putR (s a b : Nat) : Nat := putN s a (b + 1 - a)
def word (s i : Nat) : Nat := (s >>> (64 * i)) % 2 ^ 64
def compl (s : Nat) : Nat := 2 ^ 256 - 1 - s

theorem testBit_putN (s a k : Nat) : ∀ n, (putN s a n).testBit k = (s.testBit k || decide (a ≤ k ∧ k < a + n))
  | 0 => by simp [putN]; omega
  | n + 1 => by
    rw [putN, Nat.testBit_or, testBit_putN s a k n, Nat.testBit_two_pow]
    rw [Bool.eq_iff_iff]
    simp only [Bool.or_eq_true, decide_eq_true_eq]
    constructor
    · rintro ((h | h) | h)
      · exact .inl h
      · exact .inr ⟨h.1, by omega⟩
      · exact .inr ⟨by omega, by omega⟩
    · rintro (h | h)
      · exact .inl (.inl h)
      · by_cases e : k < a + n
        · exact .inl (.inr ⟨h.1, e⟩)
        · exact .inr (by omega)
theorem putN_lt {s a : Nat} (hs : s < 2 ^ 256) : ∀ n, a + n ≤ 256 → putN s a n < 2 ^ 256
  | 0, _ => hs
  | n + 1, h => by
    rw [putN]
    exact Nat.or_lt_two_pow (putN_lt hs n (by omega)) (Nat.pow_lt_pow_right (by omega) (by omega))
theorem putR_lt {s a b : Nat} (hs : s < 2 ^ 256) (hb : b < 256) : putR s a b < 2 ^ 256 := by
  by_cases h : b + 1 ≤ a
  · unfold putR
    rw [show b + 1 - a = 0 by omega]
    exact hs
  · exact putN_lt hs _ (by omega)
theorem testBit_putR (s a b k : Nat) : (putR s a b).testBit k = (s.testBit k || decide (a ≤ k ∧ k ≤ b)) := by
  unfold putR
  rw [testBit_putN]
  congr 1
  rw [decide_eq_decide]
  omega
theorem word_lt (s i : Nat) : word s i < 2 ^ 64 := Nat.mod_lt _ (by decide)
theorem testBit_word (s i j : Nat) : (word s i).testBit j = (decide (j < 64) && s.testBit (64 * i + j)) := by
  unfold word
  rw [Nat.testBit_mod_two_pow, Nat.testBit_shiftRight]
theorem compl_lt (s : Nat) : compl s < 2 ^ 256 := by unfold compl; omega
theorem testBit_compl {s : Nat} (hs : s < 2 ^ 256) (k : Nat) : (compl s).testBit k = (decide (k < 256) && !s.testBit k) := by
  unfold compl
  rw [Nat.sub_sub, Nat.add_comm 1 s]
  exact Nat.testBit_two_pow_sub_succ hs k
/-- A byte more: the word that holds it turns, the others stay. -/
theorem word_or (s b i : Nat) : word (s ||| 2 ^ b) i = if i = b / 64 then word s i ||| 2 ^ (b % 64) else word s i := by
  apply Nat.eq_of_testBit_eq
  intro j
  rw [testBit_word, Nat.testBit_or, Nat.testBit_two_pow]
  by_cases hj : j < 64
  · split
    · rename_i e
      subst e
      rw [Nat.testBit_or, testBit_word, Nat.testBit_two_pow]
      have : decide (b = 64 * (b / 64) + j) = decide (b % 64 = j) := by rw [decide_eq_decide]; omega
      rw [this]
      simp [hj]
    · rename_i e
      rw [testBit_word]
      have : decide (b = 64 * i + j) = false := by rw [decide_eq_false_iff_not]; omega
      rw [this]
      simp
  · split
    · rename_i e
      rw [Nat.testBit_or, testBit_word, Nat.testBit_two_pow]
      have : decide (b % 64 = j) = false := by rw [decide_eq_false_iff_not]; omega
      rw [this]
      simp [hj]
    · rw [testBit_word]
      simp [hj]
theorem word_compl {s : Nat} (hs : s < 2 ^ 256) (i : Nat) (hi : i < 4) : word (compl s) i = 2 ^ 64 - 1 - word s i := by
  apply Nat.eq_of_testBit_eq
  intro j
  rw [Nat.sub_sub, Nat.add_comm 1, Nat.testBit_two_pow_sub_succ (word_lt s i), testBit_word, testBit_word, testBit_compl hs]
  by_cases hj : j < 64
  · have : 64 * i + j < 256 := by omega
    simp [hj, this]
  · simp [hj]
theorem words_zero {s : Nat} (hs : s < 2 ^ 256) : (word s 0 = 0 ∧ word s 1 = 0 ∧ word s 2 = 0 ∧ word s 3 = 0) ↔ s = 0 := by
  constructor
  · rintro ⟨h0, h1, h2, h3⟩
    apply Nat.eq_of_testBit_eq
    intro k
    rw [Nat.zero_testBit]
    by_cases hk : k < 256
    · have key : ∀ i, word s i = 0 → i = k / 64 → s.testBit k = false := by
        intro i hi e
        have := testBit_word s i (k % 64)
        rw [hi, Nat.zero_testBit] at this
        rw [show 64 * i + k % 64 = k by omega] at this
        have hm : k % 64 < 64 := Nat.mod_lt _ (by omega)
        simpa [hm] using this.symm
      have : k / 64 = 0 ∨ k / 64 = 1 ∨ k / 64 = 2 ∨ k / 64 = 3 := by omega
      rcases this with e | e | e | e
      · exact key 0 h0 e.symm
      · exact key 1 h1 e.symm
      · exact key 2 h2 e.symm
      · exact key 3 h3 e.symm
    · exact Nat.testBit_lt_two_pow (Nat.lt_of_lt_of_le hs (Nat.pow_le_pow_right (by omega) (by omega)))
  · rintro rfl
    simp [word]
/-- 'Has': one bit of one word. -/
theorem word_bit (s b : Nat) : (word s (b / 64) >>> (b % 64)) % 2 = (s.testBit b).toNat := by
  have h := testBit_word s (b / 64) (b % 64)
  rw [show 64 * (b / 64) + b % 64 = b by omega] at h
  have hm : b % 64 < 64 := Nat.mod_lt _ (by omega)
  simp only [hm, decide_true, Bool.true_and] at h
  rw [← h, Nat.testBit_eq_decide_div_mod_eq, Nat.shiftRight_eq_div_pow]
  generalize word s (b / 64) / 2 ^ (b % 64) = x
  have : x % 2 = 0 ∨ x % 2 = 1 := by omega
  rcases this with e | e <;> simp [e]

/-! ### the machine -/
def letterOf : List UInt8 → Except Nat (UInt8 × List UInt8)
  | [] => .error 63
  | b :: l => if b = 92 then (match l with | [] => .error 65 | c :: l' => .ok (c, l')) else .ok (b, l)
/-- Does a range go on here: a '-' and a byte behind it that is no closing bracket? -/
def ranges : List UInt8 → Bool
  | b :: c :: _ => b == 45 && c != 93
  | _ => false
def itemOf (l : List UInt8) : Except Nat (UInt8 × UInt8 × List UInt8) :=
  match letterOf l with
  | .error e => .error e
  | .ok (a, l1) => if ranges l1 then (match letterOf l1.tail with | .error e => .error e | .ok (b, l2) => .ok (a, b, l2)) else .ok (a, a, l1)
structure Items where
  s : Nat
  k : Nat
  falls : Bool
  rest : List UInt8
def itemsF : Nat → List UInt8 → Nat → Nat → Bool → Option (Except Nat Items)
  | 0, _, _, _, _ => none
  | n + 1, l, s, k, f =>
    if l.head? = some 93 then some (.ok ⟨s, k, f, l.tail⟩)
    else match itemOf l with
      | .error e => some (.error e)
      | .ok (a, b, l') => itemsF n l' (putR s a.toNat b.toNat) (k + 1) (f || decide (b < a))
def Items.set (x : Items) (turned : Bool) : Nat := if turned then compl x.s else x.s
def Items.good (x : Items) (turned : Bool) : Bool := decide (0 < x.k) && !x.falls && decide (x.set turned ≠ 0)
def classF (n : Nat) (l : List UInt8) : Option (Except Nat (Tr × List UInt8)) :=
  let turned := decide (l.head? = some 94)
  match itemsF n (if turned then l.tail else l) 0 0 false with
  | none => none
  | some (.error e) => some (.error e)
  | some (.ok x) => if x.good turned then some (.ok (.cls (x.set turned), x.rest)) else some (.error 63)

/-- What is to be done: the loops of the reader among it. -/
inductive Tk where
  | branches
  | strokes (t : Tr)
  | pieces (t : Option Tr)
  | piece
  | signs (t : Tr)
  | atom

def catOf : Option Tr → Tr → Tr
  | none, u => u
  | some t, u => .cat t u
def emptyOf : Option Tr → Tr
  | none => .empty
  | some t => t
def signOf (b : UInt8) (t : Tr) : Option Tr := if b = 42 then some (.star t) else if b = 43 then some (.plus t) else if b = 63 then some (.quest t) else none

abbrev Res := Option (Except Nat (Tr × List UInt8))
/-- What was read, and then the next thing. -/
def Res.then_ (r : Res) (f : Tr → List UInt8 → Res) : Res :=
  match r with
  | some (.ok (t, l)) => f t l
  | some (.error e) => some (.error e)
  | none => none

def run : Nat → Tk → List UInt8 → Nat → Res
  | 0, _, _, _ => none
  | n + 1, .branches, l, d => (run n (.pieces none) l d).then_ fun t l' => run n (.strokes t) l' d
  | n + 1, .strokes t, l, d =>
    if l.head? = some 124 then (run n (.pieces none) l.tail d).then_ fun u l' => run n (.strokes (.alt t u)) l' d
    else some (.ok (t, l))
  | n + 1, .pieces t, l, d =>
    match l with
    | [] => some (.ok (emptyOf t, []))
    | b :: _ =>
      if b = 41 ∧ d = 0 then some (.error 62)
      else if b = 124 ∨ b = 41 then some (.ok (emptyOf t, l))
      else (run n .piece l d).then_ fun u l' => run n (.pieces (some (catOf t u))) l' d
  | n + 1, .piece, l, d => (run n .atom l d).then_ fun t l' => run n (.signs t) l' d
  | n + 1, .signs t, l, d =>
    match l with
    | [] => some (.ok (t, []))
    | b :: l' =>
      match signOf b t with
      | some u => run n (.signs u) l' d
      | none => some (.ok (t, l))
  | n + 1, .atom, l, d =>
    match l with
    | [] => some (.error 0)
    | b :: l' =>
      if b = 42 ∨ b = 43 ∨ b = 63 then some (.error 64)
      else if b = 40 then
        if d < 16 then (run n .branches l' (d + 1)).then_ fun t l'' => (match l'' with | [] => some (.error 61) | _ :: l3 => some (.ok (t, l3)))
        else some (.error 66)
      else if b = 91 then classF n l'
      else if b = 46 then some (.ok (.cls (putR 0 0 255), l'))
      else if b = 92 then (match l' with | [] => some (.error 65) | c :: l'' => some (.ok (.cls (putR 0 c.toNat c.toNat), l'')))
      else some (.ok (.cls (putR 0 b.toNat b.toNat), l'))

theorem run_atom (n : Nat) (b : UInt8) (l' : List UInt8) (d : Nat) : run (n + 1) .atom (b :: l') d =
      (if b = 42 ∨ b = 43 ∨ b = 63 then some (.error 64)
      else if b = 40 then
        if d < 16 then (run n .branches l' (d + 1)).then_ fun t l'' => (match l'' with | [] => some (.error 61) | _ :: l3 => some (.ok (t, l3)))
        else some (.error 66)
      else if b = 91 then classF n l'
      else if b = 46 then some (.ok (.cls (putR 0 0 255), l'))
      else if b = 92 then (match l' with | [] => some (.error 65) | c :: l'' => some (.ok (.cls (putR 0 c.toNat c.toNat), l'')))
      else some (.ok (.cls (putR 0 b.toNat b.toNat), l'))) := rfl

theorem Res.then_some {r : Res} {f : Tr → List UInt8 → Res} {x} (h : r.then_ f = some x) :
    (∃ t l, r = some (.ok (t, l)) ∧ f t l = some x) ∨ (∃ e, r = some (.error e) ∧ x = .error e) := by
  unfold Res.then_ at h
  split at h
  · exact .inl ⟨_, _, rfl, h⟩
  · exact .inr ⟨_, rfl, by injection h with h; exact h.symm⟩
  · cases h

end Go.Proofs.Ytlmnincllndpnaa
