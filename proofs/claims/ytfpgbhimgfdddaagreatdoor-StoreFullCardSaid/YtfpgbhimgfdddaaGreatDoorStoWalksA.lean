/- The walks of layer 20 (store): names. -/
import Derived.Test.YtfpgbhimgfdddaaGreatDoorStgC
import Derived.Test.YtfpgbhimgfdddaaGreatDoorStgA
import Derived.Test.YtfpgbhimgfdddaaGreatDoorShelf
import Derived.Lib.LaidTab
set_option linter.unusedVariables false
set_option linter.unusedSimpArgs false
namespace Go.Proofs.YtfpgbhimgfdddaaGreatDoor
open Go.RowKit Go.Shelf Go.Sort
attribute [local go_sem ↓] Go.wp_at_zero Go.wp_at_succ
attribute [local go_sem] Later.cell Later.frozen

/-! ### names, plain -/
/-- The last k digits of n. -/
def padN : Nat → Nat → Txt
  | 0, _ => []
  | k + 1, n => padN k (n / 10) ++ [UInt8.ofNat (48 + n % 10)]
def nameT (letter : Txt) (n : Int) : Txt := if n < 1 ∨ 99999999 < n then [] else letter ++ padN 8 n.toNat
theorem padN_len : ∀ k n, (padN k n).length = k
  | 0, _ => rfl
  | k + 1, n => by rw [padN, List.length_append, padN_len k]; rfl
theorem padN_zero : ∀ k, padN k 0 = List.replicate k 48
  | 0 => rfl
  | k + 1 => by rw [padN, Nat.zero_div, padN_zero k, List.replicate_succ']; rfl
theorem pad_dec : ∀ (k n : Nat), n < 10 ^ (k + 1) → (Lib.decDigits n).length ≤ k + 1 ∧ List.replicate (k + 1 - (Lib.decDigits n).length) 48 ++ Lib.decDigits n = padN (k + 1) n
  | 0, n, h => by
    rw [Lib.decDigits_one (by omega)]
    have : n % 10 = n := by omega
    simp [padN, this]
  | k + 1, n, h => by
    by_cases h10 : n < 10
    · rw [Lib.decDigits_one h10, padN, show n / 10 = 0 by omega, padN_zero, show n % 10 = n by omega]
      simp
    · have ih := pad_dec k (n / 10) (by rw [Nat.pow_succ] at h; omega)
      have e : Lib.decDigits n = Lib.decDigits (n / 10) ++ [UInt8.ofNat (48 + n % 10)] := by rw [Lib.decDigits, dif_neg h10]
      rw [e, List.length_append, padN, ← ih.2, ← List.append_assoc]
      have h1 := ih.1
      constructor
      · simp; omega
      · simp only [List.length_singleton]
        rw [show k + 1 + 1 - ((Lib.decDigits (n / 10)).length + 1) = k + 1 - (Lib.decDigits (n / 10)).length by omega]
theorem repeat_one (b : UInt8) : ∀ c, Lib.repeatL [b] c = List.replicate c b
  | 0 => rfl
  | c + 1 => by rw [Lib.repeatL, repeat_one b c, List.replicate_succ]; rfl

/-! ### the table of powers -/
def PowTab (w : World) : Prop := Lib.TabIs Tryz.prog w "internal/strconv.uint64pow10" .u64 Lib.pow10Tab
theorem var_below {P : Program} {B g : Nat} {W W' : World} {n : String} {cs : Array Value} (h : Below B W W') (hg : P.globalNamed n = some g) (hgB : g < B) (hv : W.var? P n = some cs) : W'.var? P n = some cs := by
  unfold World.var? at hv ⊢
  simp only [hg, Option.bind_some] at hv ⊢
  rw [h.block g hgB]
  exact hv
theorem PowTab.below {B : Nat} {w w' : World} (h : PowTab w) (hB : 9 < B) (hb : Below B w w') : PowTab w' := var_below hb (by kernel_rfl) hB h
theorem below_drewN (w : World) : ∀ k, Below w.heap.size w (w.drewN k)
  | 0 => Below.refl _ _
  | k + 1 => (below_drewN w k).drew
theorem below_grow {B : Nat} {w w' : World} (h : Below B w w') (hB : B ≤ w.heap.size) (os : Array Obj) : Below B w (grow w' os) :=
  ⟨h.os, h.tape, h.output, by have := h.size; simp [grow]; omega, fun k hk => by
    rw [← h.block k hk]
    simp only [grow]
    exact Array.getElem?_append_left (by have := h.size; omega)⟩
set_option maxRecDepth 100000 in
set_option maxHeartbeats 1000000 in
theorem sname_calls (L : ByteArray) (n : Int) (h1 : -9223372036854775808 ≤ n) (h2 : n ≤ 9223372036854775807) (hL : L.size ≤ 1000) (w : World) (hT : PowTab w) :
    Calls Tryz.prog 71 #[.string L, .int .i64 n] w fun e w' => e = .returned (.string ⟨(nameT L.data.toList n).toArray⟩) ∧ Below w.heap.size w w' := by
  by_cases hlo : n < 1
  · have d1 : decide (n < 1) = true := by simpa using hlo
    have hf : nameT L.data.toList n = [] := by unfold nameT; rw [if_pos (.inl hlo)]
    rw [hf]
    clear hf
    go_enter Tryz.func71, Tryz.ntmps71
    go_wp2_with fail
    go_ret
    exact ⟨rfl, Below.refl _ _⟩
  · have d1 : decide (n < 1) = false := by simpa using hlo
    by_cases hhi : 99999999 < n
    · have d2 : decide (99999999 < n) = true := by simpa using hhi
      have hf : nameT L.data.toList n = [] := by unfold nameT; rw [if_pos (.inr hhi)]
      rw [hf]
      clear hf
      go_enter Tryz.func71, Tryz.ntmps71
      go_wp2_with fail
      go_ret
      exact ⟨rfl, Below.refl _ _⟩
    · have d2 : decide (99999999 < n) = false := by simpa using hhi
      have hf : nameT L.data.toList n = L.data.toList ++ padN 8 n.toNat := by unfold nameT; rw [if_neg (by omega)]
      obtain ⟨hd1, hd2⟩ := pad_dec 7 n.toNat (by omega)
      have hit : Lib.itoa n = Lib.decDigits n.toNat := by unfold Lib.itoa; rw [if_neg (by omega)]
      obtain ⟨D, hD⟩ : ∃ D : ByteArray, (⟨(Lib.itoa n).toArray⟩ : ByteArray) = D := ⟨_, rfl⟩
      have hDl : D.data.toList = Lib.decDigits n.toNat := by rw [← hD, hit]
      have hDs : D.size ≤ 8 := by rw [← text_size3, hDl]; exact hd1
      obtain ⟨c, hc⟩ : ∃ c : Nat, (8 : Int) - (D.size : Int) = (c : Int) := ⟨8 - D.size, by omega⟩
      obtain ⟨Z, hZ⟩ : ∃ Z : ByteArray, (⟨(Lib.repeatL (⟨#[48]⟩ : ByteArray).data.toList c).toArray⟩ : ByteArray) = Z := ⟨_, rfl⟩
      have hZl : Z.data.toList = List.replicate c 48 := by rw [← hZ]; exact repeat_one 48 c
      have hZs : Z.size ≤ 8 := by rw [← text_size3, hZl, List.length_replicate]; omega
      have HIT := Lib.hid (Tryz.strconv_Itoa n h1 h2 w hT)
      have HRP := Lib.hid (fun w => Tryz.strings_Repeat ⟨#[48]⟩ c w (by omega) (by show 1 * c ≤ _; omega))
      rw [hD] at HIT
      rw [hZ] at HRP
      have hfin : L ++ Z ++ D = (⟨(nameT L.data.toList n).toArray⟩ : ByteArray) := by
        refine bytes_eq ?_
        have e : 7 + 1 - (Lib.decDigits n.toNat).length = c := by rw [← hDl, text_size3]; omega
        rw [e] at hd2
        rw [hf, ← hd2]
        simp [ByteArray.data_append, hZl, hDl]
      have HFIN := Lib.hid hfin
      clear hf hd1 hd2 hit hD hDl hZ hZl hfin
      go_enter Tryz.func71, Tryz.ntmps71
      go_wp2_with fail
      refine HIT.out.mono ?_
      rintro _ w1 ⟨rfl, k, os, rfl⟩
      have hb1 : Below w.heap.size w (grow (w.drewN k) os) := below_grow (below_drewN w k) (Nat.le_refl _) os
      obtain ⟨w1, hw1⟩ : ∃ x, grow (w.drewN k) os = x := ⟨_, rfl⟩
      rw [hw1] at hb1 ⊢
      clear hw1
      go_wp2_with fail
      refine (HRP.out w1).mono ?_
      rintro _ w2 ⟨rfl, hb2⟩
      have HB := Lib.hid (then_ hb1 hb2)
      clear hb1 hb2
      go_wp2_with fail
      rw [HFIN.out]
      go_ret
      exact ⟨rfl, HB.out⟩
end Go.Proofs.YtfpgbhimgfdddaaGreatDoor
