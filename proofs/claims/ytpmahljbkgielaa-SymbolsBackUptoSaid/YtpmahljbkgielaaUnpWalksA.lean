/- The walks of layer 5: a text by its number in bytes, the code's and the document's. -/
import Derived.Test.YtpmahljbkgielaaUnpPlain
import Derived.Test.YtpmahljbkgielaaRLabWalksC
namespace Go.Proofs.Ytpmahljbkgielaa
open Go.RowKit Go.Sort
attribute [local go_sem ↓] Go.wp_at_zero Go.wp_at_succ
attribute [local go_sem] Later.cell Later.frozen

set_option maxRecDepth 100000 in
set_option maxHeartbeats 1000000 in
theorem rsymbol_calls (t : List Txt) (A : Option Addr) (m c : Nat) (s : ByteArray) (k : Int) (w : World) (x : Txt) (n e : Nat) (hr : symR t s.data.toList k = (x, n, e)) (h : Strs w A m t) (hm : m * 16 ≤ 140737488351232) (hs : s.size ≤ 140737488351232) :
    Calls Try.prog 49 #[.slice A m c, .string s, .int .i64 k] w fun en w' => en = .returned (.tuple #[txtV x, .int .i64 n, .int .i64 e]) ∧ w = w' := by
  obtain ⟨v1, n1, e1, h1⟩ : ∃ v n e, readAt s.data.toList k = (v, n, e) := ⟨_, _, _, rfl⟩
  have hl := h.len
  have H1 := Lib.hid h1
  rw [symR, h1] at hr
  dsimp only at hr
  rw [hl] at hr
  by_cases he : e1 = 0
  · subst he
    rw [if_neg (by simp)] at hr
    by_cases hv : m ≤ v1
    · rw [if_pos hv] at hr
      obtain ⟨rfl, rfl, rfl⟩ : [] = x ∧ 0 = n ∧ 50 = e := by simpa using hr
      have ev : decide ((m : Int) ≤ (v1 : Int)) = true := by simp; omega
      clear hr h1 hl
      unfold txtV
      go_enter Try.func49, Try.ntmps49
      go_wp2_with fail
      refine (rreaduint_calls s k v1 n1 0 H1.out hs w).mono ?_
      rintro _ w1 ⟨rfl, rfl⟩
      go_wp2_with fail
      go_ret3
      exact ⟨rfl, rfl⟩
    · rw [if_neg hv] at hr
      obtain ⟨hx, rfl, rfl⟩ : t[v1]! = x ∧ n1 = n ∧ 0 = e := by simpa using hr
      obtain ⟨b, off, rfl, hbl, hcell⟩ := h.at_ (i := v1) (by omega)
      rw [hx] at hcell
      unfold txtV at hcell ⊢
      obtain ⟨X, hX⟩ : ∃ X : ByteArray, (⟨x.toArray⟩ : ByteArray) = X := ⟨_, rfl⟩
      rw [hX] at hcell ⊢
      have ev : decide ((m : Int) ≤ (v1 : Int)) = false := by simp; omega
      clear hr h1 hl hx hX
      go_enter Try.func49, Try.ntmps49
      go_wp2_with fail
      refine (rreaduint_calls s k v1 n1 0 H1.out hs w).mono ?_
      rintro _ w1 ⟨rfl, rfl⟩
      go_wp2_with fail
      go_ret3
      exact ⟨rfl, rfl⟩
  · rw [if_pos he] at hr
    obtain ⟨rfl, rfl, rfl⟩ : [] = x ∧ 0 = n ∧ e1 = e := by simpa using hr
    have ee : ((e1 : Int) != 0) = true := by simp; omega
    clear hr h1 hl
    unfold txtV
    go_enter Try.func49, Try.ntmps49
    go_wp2_with fail
    refine (rreaduint_calls s k v1 n1 e1 H1.out hs w).mono ?_
    rintro _ w1 ⟨rfl, rfl⟩
    go_wp2_with fail
    go_ret3
    exact ⟨rfl, rfl⟩

set_option maxRecDepth 100000 in
set_option maxHeartbeats 1000000 in
theorem symbol_calls (v : Value) (t : List Txt) (s : ByteArray) (k : Int) (w : World) (x : Txt) (n e : Nat) (hr : symR t s.data.toList k = (x, n, e)) (h : TabAt w v t) (hm : t.length * 16 ≤ 140737488351232) (hs : s.size ≤ 140737488351232) :
    Calls Try.prog 46 #[v, .string s, .int .i64 k] w fun en w' => en = .returned (.tuple #[txtV x, .int .i64 n, .int .i64 e]) ∧ w = w' := by
  obtain ⟨v1, n1, e1, h1⟩ : ∃ v n e, readAt s.data.toList k = (v, n, e) := ⟨_, _, _, rfl⟩
  have H1 := Lib.hid h1
  have hlen := len_calls v t w h
  obtain ⟨A, c, hs', hc, _, htab⟩ := all_calls v t w h
  obtain ⟨m, hm'⟩ : ∃ m, t.length = m := ⟨_, rfl⟩
  rw [symR, h1] at hr
  dsimp only at hr
  rw [hm'] at hr hlen hs' hc htab hm
  have HLEN := Lib.hid hlen
  clear hlen h hm'
  by_cases he : e1 = 0
  · subst he
    rw [if_neg (by simp)] at hr
    by_cases hv : m ≤ v1
    · rw [if_pos hv] at hr
      obtain ⟨rfl, rfl, rfl⟩ : [] = x ∧ 0 = n ∧ 50 = e := by simpa using hr
      have ev : decide ((m : Int) ≤ (v1 : Int)) = true := by simp; omega
      clear hr h1 htab
      unfold txtV
      go_enter Try.func46, Try.ntmps46
      go_wp2_with fail
      refine (readuint_calls s k v1 n1 0 H1.out hs w).mono ?_
      rintro _ w1 ⟨rfl, rfl⟩
      go_wp2_with fail
      refine HLEN.out.mono ?_
      rintro _ w1 ⟨rfl, rfl⟩
      go_wp2_with fail
      go_ret3
      exact ⟨rfl, rfl⟩
    · rw [if_neg hv] at hr
      obtain ⟨hx, rfl, rfl⟩ : t[v1]! = x ∧ n1 = n ∧ 0 = e := by simpa using hr
      obtain ⟨p, rfl, hp⟩ := htab (by omega)
      obtain ⟨b, off, rfl, hbl, hcell⟩ := hs'.at_ (i := v1) (by omega)
      have hp0 : _ = some (Value.slice (some ⟨b, off, none⟩) m c) := hp.cell 0
      rw [hx] at hcell
      unfold txtV at hcell ⊢
      obtain ⟨X, hX⟩ : ∃ X : ByteArray, (⟨x.toArray⟩ : ByteArray) = X := ⟨_, rfl⟩
      rw [hX] at hcell ⊢
      have ev : decide ((m : Int) ≤ (v1 : Int)) = false := by simp; omega
      clear hr h1 hx hX htab hp
      go_enter Try.func46, Try.ntmps46
      go_wp2_with fail
      refine (readuint_calls s k v1 n1 0 H1.out hs w).mono ?_
      rintro _ w1 ⟨rfl, rfl⟩
      go_wp2_with fail
      refine HLEN.out.mono ?_
      rintro _ w1 ⟨rfl, rfl⟩
      go_wp2_with fail
      go_ret3
      exact ⟨rfl, rfl⟩
  · rw [if_pos he] at hr
    obtain ⟨rfl, rfl, rfl⟩ : [] = x ∧ 0 = n ∧ e1 = e := by simpa using hr
    have ee : ((e1 : Int) != 0) = true := by simp; omega
    clear hr h1 htab
    unfold txtV
    go_enter Try.func46, Try.ntmps46
    go_wp2_with fail
    refine (readuint_calls s k v1 n1 e1 H1.out hs w).mono ?_
    rintro _ w1 ⟨rfl, rfl⟩
    go_wp2_with fail
    go_ret3
    exact ⟨rfl, rfl⟩
end Go.Proofs.Ytpmahljbkgielaa
