/- The plain law of layer 4 (labels): names, values, lists of labels, their errors and their bytes. No program in sight. -/
import Derived.Test.YtpmahljbkgielaaEncPlain
import Derived.Test.YtpmahljbkgielaaSymPlain
import Derived.Lib.Bytealg
namespace Go.Proofs.Ytpmahljbkgielaa

def digitB (b : UInt8) : Bool := decide (48 ≤ b.toNat) && decide (b.toNat ≤ 57)
def letterB (b : UInt8) : Bool := (decide (97 ≤ b.toNat) && decide (b.toNat ≤ 122)) || (decide (65 ≤ b.toNat) && decide (b.toNat ≤ 90))
/-- May the byte stand in a name (d: behind its first byte)? -/
def okB (d : Bool) (b : UInt8) : Bool := (d && digitB b) || (b.toNat == 95) || letterB b
def allOk : Bool → List UInt8 → Bool
  | _, [] => true
  | d, b :: l => okB d b && allOk true l
def fitN (s : Txt) : Bool := allOk false s && decide (1 ≤ s.length) && decide (s.length ≤ 32)
def fitV (s : Txt) : Bool := decide (1 ≤ s.length) && decide (s.length ≤ 64)

/-- A label. -/
structure Lb where
  n : Txt
  v : Txt
instance : Inhabited Lb := ⟨⟨[], []⟩⟩
def names (l : List Lb) : List Txt := l.map Lb.n
def scanErr : List Lb → List Lb → Nat
  | _, [] => 0
  | pre, x :: r => if fitN x.n = false then 40 else if fitV x.v = false then 41 else if pre.any (fun y => y.n == x.n) then 42 else scanErr (pre ++ [x]) r
/-- The error of a list of labels. -/
def makeErr (l : List Lb) : Nat := if l.length = 0 then 43 else if 8 < l.length then 44 else scanErr [] l
/-- The error of a set's bytes. -/
def encErr (l : List Lb) : Nat := if makeErr l ≠ 0 then makeErr l else if (names l).Pairwise (· < ·) then 0 else 42
def labT (x : Lb) : List UInt8 := textT x.n ++ textT x.v
def encL (l : List Lb) : List UInt8 := uintT l.length ++ l.flatMap labT
def encOut (l : List Lb) : List UInt8 := if encErr l = 0 then encL l else []

theorem scanErr_ok : ∀ {pre l : List Lb}, scanErr pre l = 0 → (∀ x ∈ l, fitN x.n = true ∧ fitV x.v = true)
  | _, [], _ => by simp
  | pre, x :: r, h => by
    rw [scanErr] at h
    split at h
    · omega
    · split at h
      · omega
      · split at h
        · omega
        · rename_i h1 h2 _
          have ih := scanErr_ok h
          intro y hy
          rcases List.mem_cons.1 hy with rfl | hy
          · exact ⟨by simpa using h1, by simpa using h2⟩
          · exact ih y hy
theorem scanErr_apart : ∀ {pre l : List Lb}, scanErr pre l = 0 → (names l).Nodup ∧ ∀ x ∈ l, ∀ y ∈ pre, y.n ≠ x.n
  | _, [], _ => by simp [names]
  | pre, x :: r, h => by
    rw [scanErr] at h
    split at h
    · omega
    · split at h
      · omega
      · split at h
        · omega
        · rename_i hany
          obtain ⟨h1, h2⟩ := scanErr_apart h
          have hx : ∀ y ∈ pre, y.n ≠ x.n := by
            intro y hy e
            apply hany
            rw [List.any_eq_true]
            exact ⟨y, hy, by simp [e]⟩
          refine ⟨?_, ?_⟩
          · rw [names, List.map_cons, List.nodup_cons]
            refine ⟨?_, h1⟩
            intro hm
            obtain ⟨z, hz, e⟩ := List.mem_map.1 hm
            exact h2 z hz x (by simp) e.symm
          · intro z hz y hy
            rcases List.mem_cons.1 hz with rfl | hz
            · exact hx y hy
            · exact h2 z hz y (by simp [hy])
theorem makeErr_ok {l : List Lb} (h : makeErr l = 0) : l.length ≠ 0 ∧ l.length ≤ 8 ∧ (∀ x ∈ l, fitN x.n = true ∧ fitV x.v = true) ∧ (names l).Nodup := by
  unfold makeErr at h
  split at h
  · omega
  · split at h
    · omega
    · exact ⟨by omega, by omega, scanErr_ok h, (scanErr_apart h).1⟩
theorem cmp_lt (a b : Txt) : Lib.compareBytes a b < 0 ↔ a < b := by
  induction a generalizing b with
  | nil =>
    cases b with
    | nil => simp [Lib.compareBytes]
    | cons y b => simp [Lib.compareBytes]
  | cons x a ih =>
    cases b with
    | nil => simp [Lib.compareBytes]
    | cons y b =>
      rw [Lib.compareBytes, List.cons_lt_cons_iff]
      by_cases h1 : x < y
      · simp [h1]
      · by_cases h2 : y < x
        · simp only [h1, h2, if_true, if_false, false_or]
          constructor
          · intro h; omega
          · rintro ⟨rfl, _⟩
            exact absurd h2 h1
        · have e : x = y := by
            apply UInt8.le_antisymm
            · exact UInt8.not_lt.1 h2
            · exact UInt8.not_lt.1 h1
          simp only [h1, h2, if_false, false_or]
          rw [ih]
          simp [e]
theorem cmp_eq (a b : Txt) : Lib.compareBytes a b = 0 ↔ a = b := by
  induction a generalizing b with
  | nil => cases b <;> simp [Lib.compareBytes]
  | cons x a ih =>
    cases b with
    | nil => simp [Lib.compareBytes]
    | cons y b =>
      rw [Lib.compareBytes]
      by_cases h1 : x < y
      · simp only [h1, if_true]
        constructor
        · intro h; omega
        · intro h; injection h with h; subst h; exact absurd h1 (UInt8.lt_irrefl _)
      · by_cases h2 : y < x
        · simp only [h1, h2, if_true, if_false]
          constructor
          · intro h; omega
          · intro h; injection h with h; subst h; exact absurd h2 (UInt8.lt_irrefl _)
        · have e : x = y := UInt8.le_antisymm (UInt8.not_lt.1 h2) (UInt8.not_lt.1 h1)
          simp only [h1, h2, if_false]
          rw [ih]
          simp [e]
end Go.Proofs.Ytpmahljbkgielaa
