/- The walks of the statements' 'is' and 'wakes' (layer 5). -/
import Derived.Test.YtpmahljbkgielaaSymWalksC
namespace Go.Proofs.Ytpmahljbkgielaa
open Go.RowKit Go.Sort
attribute [local go_sem ↓] Go.wp_at_zero Go.wp_at_succ
attribute [local go_sem] Later.cell Later.frozen

set_option maxRecDepth 100000 in
set_option maxHeartbeats 1000000 in
theorem is_calls (v : Value) (t : List Txt) (A : Option Addr) (n c : Nat) (w : World) (h : TabAt w v t) (hs : Strs w A n t) (hasc : Asc t) (hn : n * 16 ≤ 140737488351232) :
    Calls Try.prog 15 #[v, .slice A n c] w fun e w' => e = .returned (.bool true) ∧ Below w.heap.size w w' := by
  have hl := hs.len
  have hlen := len_calls v t w h
  rw [hl] at hlen
  have HLEN := Lib.hid hlen
  have HL := Lib.hid hl
  clear hl hlen
  go_enter Try.func15, Try.ntmps15
  go_wp2_with fail
  refine HLEN.out.mono ?_
  rintro e w1 ⟨rfl, rfl⟩
  go_wp2_with fail
  go_loopg [18] n (fun g s18 wr => ∃ i : Nat, i + g = n ∧ s18 = .int .i64 (i : Int) ∧ Below w.heap.size w wr)
  case atStart => exact ⟨0, by omega, rfl, Below.refl _ _⟩
  case round =>
    obtain ⟨i, hig, rfl, hB⟩ := hrel
    have HIG := Lib.hid hig
    clear hig
    by_cases hi : i < n
    · have hil : i < t.length := by have := HL.out; omega
      have el : decide ((i : Int) < (n : Int)) = true := by simp; omega
      have el' : decide (i < n) = true := by simp; omega
      obtain ⟨b, off, rfl, hbl, hcell⟩ := hs.at_ hi
      have hc1 : wr.cell? ⟨b, off + i, none⟩ = some (txtV t[i]!) := (hB.cell (p := ⟨b, off + i, none⟩) hbl).trans hcell
      obtain ⟨x, hx⟩ : ∃ x, t[i]! = x := ⟨_, rfl⟩
      have hget : t[i]? = some x := by rw [← hx, getElem!_pos t i hil, List.getElem?_eq_getElem hil]
      rw [hx] at hc1
      have htr : textR t (i : Int) = (x, 0) := by
        have : ¬ ((i : Int) < 0 ∨ (t.length : Int) ≤ (i : Int)) := by omega
        rw [textR, if_neg this, Int.toNat_natCast, hx]
      have htx := symtext_calls v t i wr x 0 htr (h.below hB)
      unfold txtV at hc1 htx
      obtain ⟨X, hX⟩ : ∃ X : ByteArray, (⟨x.toArray⟩ : ByteArray) = X := ⟨_, rfl⟩
      rw [hX] at hc1 htx
      have hXx : X.data.toList = x := by rw [← hX]
      have hnr : numR t X.data.toList = (i, 0) := by rw [hXx]; exact numR_in hasc hget
      have HTX := Lib.hid htx
      have HNR := Lib.hid hnr
      clear htx hnr htr hget hx hX hXx hcell
      go_wp2_with fail
      refine HTX.out.mono ?_
      rintro e w2 ⟨rfl, rfl⟩
      go_wp2_with fail
      refine (number_calls v t X _ i 0 HNR.out (h.below hB) hasc (by have := HL.out; omega)).mono ?_
      rintro e w3 ⟨rfl, hb3⟩
      have hB3 := then_ hB hb3
      have ex : (X.toList != X.toList) = false := by simp
      have ei : ((i : Int) != (i : Int)) = false := by simp
      go_wp2_with fail
      go_roundg (gk - 1)
      case measure => have := HIG.out; omega
      case rel => exact ⟨i + 1, by have := HIG.out; omega, by go_num, hB3⟩
    · have el : decide ((i : Int) < (n : Int)) = false := by simp; omega
      have el' : decide (i < n) = false := by simp; omega
      go_wp2_with fail
      go_ret
      exact ⟨rfl, hB⟩

theorem strs_blk {w : World} {g : Nat} {l : List Txt} (h : Blk w g 9 (l.map txtV).toArray) : Strs w (some ⟨g, 0, none⟩) l.length l := by
  refine ⟨rfl, fun _ => ⟨g, 0, rfl, h.lt, fun i x hx j v hv => ?_⟩⟩
  have hj : j = 0 := by have := (List.getElem?_eq_some_iff.1 hv).1; simpa [enc1] using this
  subst hj
  simp [enc1] at hv
  subst hv
  rw [Nat.zero_add, Nat.mul_one, Nat.add_zero, h.cell]
  simp [hx]
theorem wake5_tab {t : List Txt} (h : IsTab [[98], [97], [98]] t) : t = [[97], [98]] := by
  refine IsTab.one h ⟨?_, ?_⟩
  · exact List.pairwise_cons.2 ⟨by decide, List.pairwise_singleton _ _⟩
  · intro x
    simp only [List.mem_cons, List.not_mem_nil, or_false]
    constructor
    · rintro (h | h) <;> simp [h]
    · rintro (h | h | h) <;> simp [h]

set_option maxRecDepth 100000 in
set_option maxHeartbeats 1000000 in
theorem wakes05_calls (w : World) : Calls Try.prog 14 #[] w fun e w' => e = .returned (.bool true) ∧ Below w.heap.size w w' := by
  go_enter Try.func14, Try.ntmps14
  go_wp2_with fail
  have hs0 : Strs (w.alloc (.cells #[.string ⟨#[98]⟩, .string ⟨#[97]⟩, .string ⟨#[98]⟩] 9)) (some ⟨w.heap.size, 0, none⟩) 3 [[98], [97], [98]] := strs_blk (l := [[98], [97], [98]]) (Blk.new _ _ _)
  have hB0 : Below w.heap.size w (w.alloc (.cells #[.string ⟨#[98]⟩, .string ⟨#[97]⟩, .string ⟨#[98]⟩] 9)) := (Below.refl _ _).alloc (Nat.le_refl _) _
  refine (of_calls [[98], [97], [98]] _ 3 3 _ hs0 (by omega)).mono ?_
  rintro e w1 ⟨p, t, rfl, htab, hist, _, hb1, _⟩
  have htt := wake5_tab hist
  subst htt
  have hB1 := then_ hB0 hb1
  have hasc : Asc [[97], [98]] := hist.1
  clear hist hs0 hB0 hb1
  obtain ⟨w1, rfl⟩ : ∃ x, x = w1 := ⟨_, rfl⟩
  go_wp2_with fail
  have hE : Elems (w1.alloc (.cells #[.string ⟨#[97]⟩, .string ⟨#[98]⟩] 69)) (w1.alloc (.cells #[.string ⟨#[97]⟩, .string ⟨#[98]⟩] 69)).heap.size 2 encLb (some ⟨w1.heap.size, 0, none⟩) 1 [⟨[97], [98]⟩] := by
    have hq : Blk (w1.alloc (.cells #[.string ⟨#[97]⟩, .string ⟨#[98]⟩] 69)) w1.heap.size 69 #[.string ⟨#[97]⟩, .string ⟨#[98]⟩] := Blk.new _ _ _
    refine ⟨rfl, fun _ => ⟨w1.heap.size, 0, rfl, hq.lt, fun i x hx j v hv => ?_⟩⟩
    have hi : i = 0 := by have := (List.getElem?_eq_some_iff.1 hx).1; simpa using this
    subst hi
    simp at hx
    subst hx
    rw [hq.cell]
    match j, hv with
    | 0, hv => simpa [encLb] using hv
    | 1, hv => simpa [encLb] using hv
    | j + 2, hv => simp [encLb] at hv
  have hB2 : Below w1.heap.size w1 (w1.alloc (.cells #[.string ⟨#[97]⟩, .string ⟨#[98]⟩] 69)) := (Below.refl _ _).alloc (Nat.le_refl _) _
  have htab2 := htab.below hB2
  obtain ⟨w2, hw2⟩ : ∃ x, w1.alloc (.cells #[.string ⟨#[97]⟩, .string ⟨#[98]⟩] 69) = x := ⟨_, rfl⟩
  obtain ⟨g, hg⟩ : ∃ g, w1.heap.size = g := ⟨_, rfl⟩
  have hBw2 := then_ hB1 hB2
  rw [hw2] at hE hBw2 htab2 ⊢
  rw [hg] at hE ⊢
  clear hw2 hg hB1 hB2 htab
  refine (pack_calls _ [[97], [98]] [⟨[97], [98]⟩] _ 1 1 w2 [1, 0, 1] 0 (by decide +kernel) htab2 hasc (by decide) hE (by omega) (by omega) (by simp)).mono ?_
  rintro e w3 ⟨rfl, hb3⟩
  have htab3 := htab2.below hb3
  have hB3 := then_ hBw2 hb3
  clear hE htab2 hBw2 hb3
  obtain ⟨w3, rfl⟩ : ∃ x, x = w3 := ⟨_, rfl⟩
  go_wp2_with fail
  have hs4 : Strs (w3.alloc (.cells #[.string ⟨#[97]⟩, .string ⟨#[98]⟩] 9)) (some ⟨w3.heap.size, 0, none⟩) 2 [[97], [98]] := strs_blk (l := [[97], [98]]) (Blk.new _ _ _)
  have hB4 : Below w3.heap.size w3 (w3.alloc (.cells #[.string ⟨#[97]⟩, .string ⟨#[98]⟩] 9)) := (Below.refl _ _).alloc (Nat.le_refl _) _
  have htab4 := htab3.below hB4
  have hBw4 := then_ hB3 hB4
  obtain ⟨w4, hw4⟩ : ∃ x, w3.alloc (.cells #[.string ⟨#[97]⟩, .string ⟨#[98]⟩] 9) = x := ⟨_, rfl⟩
  obtain ⟨g4, hg4⟩ : ∃ g, w3.heap.size = g := ⟨_, rfl⟩
  rw [hw4] at hs4 hBw4 htab4 ⊢
  rw [hg4] at hs4 ⊢
  clear hw4 hg4 hB3 hB4 htab3
  refine (is_calls _ [[97], [98]] _ 2 2 w4 htab4 hs4 hasc (by omega)).mono ?_
  rintro e w5 ⟨rfl, hb5⟩
  have henc := symencode_calls _ [[97], [98]] w5 (htab4.below hb5) (by decide) (by decide +kernel)
  rw [show tabT [[97], [98]] = [2, 1, 97, 1, 98] by decide +kernel] at henc
  have HE := Lib.hid henc
  clear henc
  go_wp2_with fail
  refine HE.out.mono ?_
  rintro e w6 ⟨rfl, hb6⟩
  go_wp2_with fail
  go_ret
  exact ⟨rfl, then_ (then_ hBw4 hb5) hb6⟩
end Go.Proofs.Ytpmahljbkgielaa
