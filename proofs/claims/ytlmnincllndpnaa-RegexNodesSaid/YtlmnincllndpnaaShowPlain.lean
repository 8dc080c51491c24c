/- The plain law of layer 6 (regex): a tree's text. No program in sight. -/
import Derived.Test.YtlmnincllndpnaaRexPlain
import Derived.Lib.Join
namespace Go.Proofs.Ytlmnincllndpnaa

def digit (n : Nat) : UInt8 := if n < 10 then UInt8.ofNat (48 + n) else UInt8.ofNat (87 + n)
def hexT (b : Nat) : List UInt8 := [digit (b / 16), digit (b % 16)]
/-- The end of the stretch that holds b. -/
def upTo (v : Nat) : Nat → Nat → Nat
  | 0, b => b
  | n + 1, b => if b < 255 ∧ v.testBit (b + 1) = true then upTo v n (b + 1) else b
def partT (a b : Nat) : List UInt8 := hexT a ++ 45 :: hexT b
/-- The stretches from b on. -/
def scan (v : Nat) : Nat → Nat → List (List UInt8)
  | 0, _ => []
  | n + 1, b => if b < 256 then (if v.testBit b then partT b (upTo v (255 - b) b) :: scan v n (upTo v (255 - b) b + 1) else scan v n (b + 1)) else []
def strT (v : Nat) : List UInt8 := 91 :: (Lib.join (scan v 257 0) [44] ++ [93])
def showT : Tr → List UInt8
  | .empty => [101]
  | .cls v => strT v
  | .cat a b => 40 :: (showT a ++ showT b ++ [41])
  | .alt a b => 40 :: (showT a ++ 124 :: showT b ++ [41])
  | .star a => showT a ++ [42]
  | .plus a => showT a ++ [43]
  | .quest a => showT a ++ [63]

theorem upTo_le (v : Nat) : ∀ n b, b ≤ upTo v n b ∧ (b ≤ 255 → upTo v n b ≤ 255)
  | 0, b => ⟨Nat.le_refl _, fun h => h⟩
  | n + 1, b => by
    rw [upTo]
    split
    · rename_i h
      have := upTo_le v n (b + 1)
      exact ⟨by omega, fun _ => this.2 (by omega)⟩
    · exact ⟨Nat.le_refl _, fun h => h⟩
/-- More fuel changes nothing. -/
theorem scan_more (v : Nat) : ∀ (n m b : Nat), 256 - b < n → 256 - b < m → scan v n b = scan v m b
  | 0, _, _, h, _ => by omega
  | _ + 1, 0, _, _, h => by omega
  | n + 1, m + 1, b, h1, h2 => by
    rw [scan, scan]
    split
    · have := upTo_le v (255 - b) b
      split
      · congr 1
        by_cases hb : upTo v (255 - b) b + 1 ≤ 255
        · exact scan_more v n m _ (by omega) (by omega)
        · exact scan_more v n m _ (by omega) (by omega)
      · exact scan_more v n m _ (by omega) (by omega)
    · rfl
def scanAll (v b : Nat) : List (List UInt8) := scan v 257 b
theorem scan_end (v b : Nat) (h : 256 ≤ b) : scanAll v b = [] := by
  unfold scanAll
  rw [scan, if_neg (by omega)]
theorem scan_no (v b : Nat) (h : b < 256) (hv : v.testBit b = false) : scanAll v b = scanAll v (b + 1) := by
  unfold scanAll
  conv => lhs; rw [scan]
  rw [if_pos h, hv]
  exact scan_more v 256 257 _ (by omega) (by omega)
theorem scan_yes (v b : Nat) (h : b < 256) (hv : v.testBit b = true) : scanAll v b = partT b (upTo v (255 - b) b) :: scanAll v (upTo v (255 - b) b + 1) := by
  unfold scanAll
  conv => lhs; rw [scan]
  rw [if_pos h, hv, if_pos rfl]
  have := upTo_le v (255 - b) b
  rw [scan_more v 256 257 (upTo v (255 - b) b + 1) (by omega) (by omega)]
theorem part_len (a b : Nat) : (partT a b).length = 5 := rfl
theorem scan_parts (v : Nat) : ∀ (n b : Nat), (∀ x ∈ scan v n b, x.length = 5) ∧ (scan v n b).length ≤ n
  | 0, b => by simp [scan]
  | n + 1, b => by
    rw [scan]
    split
    · split
      · have := scan_parts v n (upTo v (255 - b) b + 1)
        refine ⟨fun x hx => ?_, by simp; omega⟩
        rcases List.mem_cons.1 hx with rfl | hx
        · exact part_len _ _
        · exact this.1 x hx
      · have := scan_parts v n (b + 1)
        exact ⟨this.1, by omega⟩
    · simp
theorem join_len (xs : List (List UInt8)) (sep : List UInt8) (k : Nat) (h : ∀ x ∈ xs, x.length = k) : (Lib.join xs sep).length ≤ xs.length * (k + sep.length) := by
  match xs, h with
  | [], _ => simp [Lib.join_nil]
  | [x], h => rw [Lib.join_one, h x (by simp)]; simp
  | x :: y :: r, h =>
    have ih := join_len (y :: r) sep k (fun z hz => h z (by simp [hz]))
    have e : Lib.join (x :: y :: r) sep = x ++ sep ++ Lib.join (y :: r) sep := by
      unfold Lib.join
      simp [List.intercalate]
    rw [e]
    simp only [List.length_append, List.length_cons] at ih ⊢
    rw [h x (by simp)]
    rw [Nat.add_mul (r.length + 1) 1]
    omega
theorem strT_len (v : Nat) : (strT v).length ≤ 2000 := by
  have h := scan_parts v 257 0
  have := join_len (scan v 257 0) [44] 5 h.1
  unfold strT
  simp only [List.length_cons, List.length_append, List.length_nil] at *
  omega
end Go.Proofs.Ytlmnincllndpnaa
