/- The walks of the document's symbols: Of. -/
import Derived.Test.YtpmahljbkgielaaSymWalksE
namespace Go.Proofs.Ytpmahljbkgielaa
open Go.RowKit Go.Sort
attribute [local go_sem ↓] Go.wp_at_zero Go.wp_at_succ
attribute [local go_sem] Later.cell Later.frozen

theorem merge_len : ∀ (n : Nat) (a b : List Txt), (mergeT n a b).length ≤ a.length + b.length
  | 0, _, _ => by simp [mergeT]
  | _ + 1, [], [] => by simp [mergeT]
  | n + 1, x :: a, [] => by have := merge_len n a []; simp [mergeT] at this ⊢; omega
  | n + 1, [], y :: b => by have := merge_len n [] b; simp [mergeT] at this ⊢; omega
  | n + 1, x :: a, y :: b => by
    have h1 := merge_len n a (y :: b)
    have h2 := merge_len n a b
    have h3 := merge_len n (x :: a) b
    rw [mergeT]
    split
    · simp at h1 ⊢; omega
    · split
      · simp at h2 ⊢; omega
      · simp at h3 ⊢; omega

def ROfOut (w : World) (l : List Txt) (e : Ending) (w' : World) : Prop :=
  ∃ A c t, e = .returned (.slice A t.length c) ∧ Strs w' A t.length t ∧ IsTab l t ∧ t.length ≤ l.length ∧ t.length ≤ c ∧ Below w.heap.size w w'

theorem Strs.front {w : World} {A : Option Addr} {n : Nat} {l : List Txt} (h : Strs w A n l) {k : Nat} (hk : k ≤ n) : Strs w A k (l.take k) := by
  have hl := h.len
  refine ⟨by rw [List.length_take]; omega, fun h0 => ?_⟩
  obtain ⟨b, off, e, hb, hc⟩ := h.2 (by omega)
  refine ⟨b, off, e, hb, fun i x hx j v hv => hc i x ?_ j v hv⟩
  rw [List.getElem?_take] at hx
  split at hx
  · exact hx
  · cases hx

set_option maxRecDepth 100000 in
set_option maxHeartbeats 1000000 in
theorem rof_calls : ∀ (n : Nat) (l : List Txt) (A : Option Addr) (c : Nat) (w : World) (h : Strs w A n l) (hc : n ≤ c) (hn : n * 16 ≤ 140737488351232),
    Calls Try.prog 10 #[.slice A n c] w (ROfOut w l) := by
  intro n
  induction n using Nat.strongRecOn with
  | _ n ih =>
  intro l A c w h hc hn
  have hl := h.len
  have IH := Lib.hid ih
  clear ih
  by_cases h0 : n = 0
  · subst h0
    obtain rfl : l = [] := List.eq_nil_of_length_eq_zero hl
    go_enter Try.func10, Try.ntmps10
    go_wp2_with fail
    go_ret
    exact ⟨none, 0, [], rfl, Strs.nil, IsTab.nil, Nat.le_refl _, Nat.le_refl _, Below.refl _ _⟩
  · have e0 : decide ((n : Int) = 0) = false := by simp; omega
    have e0' : decide (n = 0) = false := by simp; omega
    by_cases h1 : n = 1
    · subst h1
      obtain ⟨x, rfl⟩ : ∃ x, l = [x] := List.length_eq_one_iff.1 hl
      obtain ⟨b, off, rfl, hb, hcell⟩ := h.at_ (i := 0) (by omega)
      unfold txtV at hcell
      have hcell : w.cell? ⟨b, off, none⟩ = some (.string ⟨x.toArray⟩) := by simpa using hcell
      obtain ⟨X, hX⟩ : ∃ X : ByteArray, (⟨x.toArray⟩ : ByteArray) = X := ⟨_, rfl⟩
      rw [hX] at hcell
      have HX := Lib.hid hX
      clear hX hl
      go_enter Try.func10, Try.ntmps10
      go_wp2_with fail
      go_ret
      refine ⟨_, 1, [x], rfl, strs_blk (l := [x]) ?_, IsTab.single x, Nat.le_refl _, Nat.le_refl _, (Below.refl _ _).alloc (Nat.le_refl _) _⟩
      have := Blk.new w 9 #[.string X]
      simpa [txtV, HX.out] using this
    · have e1 : decide ((n : Int) = 1) = false := by simp; omega
      have e1' : decide (n = 1) = false := by simp; omega
      obtain ⟨m, hm⟩ : ∃ m, n / 2 = m := ⟨_, rfl⟩
      have hm1 : (n : Int) / 2 = (m : Int) := by omega
      have hm2 : 1 ≤ m := by omega
      have hm3 : m < n := by omega
      have HL := Lib.hid hl
      clear hl h0 h1
      go_enter Try.func10, Try.ntmps10
      go_wp2_with fail
      refine (IH.out m hm3 (l.take m) A c w (h.front (by omega)) (by omega) (by omega)).mono ?_
      rintro e w1 ⟨A1, c1, ta, rfl, hs1, ht1, hl1, hc1, hb1⟩
      have hl1' : ta.length ≤ m := by rw [List.length_take] at hl1; omega
      obtain ⟨na, hna⟩ : ∃ k, ta.length = k := ⟨_, rfl⟩
      rw [hna] at hs1 hc1 hl1' ⊢
      have hcut : Strs w (if c = m then A else A.map (·.add m)) (n - m) (l.drop m) := by
        have := Elems.cut h (k := m) (cap := c) (by omega) hc
        rw [Nat.mul_one] at this
        exact this
      have hcut1 := hcut.below hb1
      obtain ⟨b, off, rfl, hbl, _⟩ := h.2 (by omega)
      have HI := IH.out (n - m) (by omega) (l.drop m) (if c = m then some ⟨b, off, none⟩ else (some ⟨b, off, none⟩ : Option Addr).map (·.add m)) (c - m) w1 hcut1 (by omega) (by omega)
      rw [if_neg (by omega), Option.map_some, Addr.add_lit] at HI
      have HI2 := Lib.hid HI
      have HNA := Lib.hid hna
      clear HI hcut hcut1 hl1 hna
      go_wp2_with fail
      refine HI2.out.mono ?_
      rintro e w2 ⟨A2, c2, tb, rfl, hs2, ht2, hl2, hc2, hb2⟩
      have hl2' : tb.length ≤ n - m := by rw [List.length_drop, HL.out] at hl2; exact hl2
      obtain ⟨nb, hnb⟩ : ∃ k, tb.length = k := ⟨_, rfl⟩
      rw [hnb] at hs2 hc2 hl2' ⊢
      have hs1' := hs1.below hb2
      have HNB := Lib.hid hnb
      clear hl2 hnb HI2
      go_wp2_with fail
      refine (rmerge_calls ta tb A1 A2 na nb c1 c2 w2 hs1' hs2 (by omega)).mono ?_
      rintro e w3 ⟨v, rfl, hown, hb3⟩
      obtain ⟨A3, c3, rfl, hs3, _, hc3⟩ := Strs.of_own hown rfl
      have hist := IsTab.merge ht1 ht2
      rw [List.take_append_drop, HNA.out, HNB.out] at hist
      have hml := merge_len (na + nb) ta tb
      rw [HNA.out, HNB.out] at hml
      obtain ⟨M, hM⟩ : ∃ M, mergeT (na + nb) ta tb = M := ⟨_, rfl⟩
      rw [hM] at hs3 hc3 hist hml ⊢
      have HML := Lib.hid hml
      clear hown hM hml
      go_wp2_with fail
      go_ret
      refine ⟨A3, c3, M, rfl, hs3, hist, ?_, hc3, then_ (then_ hb1 hb2) hb3⟩
      have := HML.out
      have := HL.out
      omega
end Go.Proofs.Ytpmahljbkgielaa
