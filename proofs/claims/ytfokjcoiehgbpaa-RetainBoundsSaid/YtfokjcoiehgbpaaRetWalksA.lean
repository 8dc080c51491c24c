/- The walks of layer 25 (retain): the small functions. -/
import Derived.Test.YtfokjcoiehgbpaaRetPlain
import Derived.Test.YtfokjcoiehgbpaaProg
import Derived.Test.YtfokjcoiehgbpaaRegion
namespace Go.Proofs.Ytfokjcoiehgbpaa
open Go.RowKit
attribute [local go_sem ↓] Go.wp_at_zero Go.wp_at_succ

set_option maxHeartbeats 400000 in
theorem isNaN64_calls (a : Int) (w : World) :
    Calls Try.prog 23 #[.int .i64 a] w fun e w' => e = .returned (.bool false) ∧ w = w' := by
  go_enter Try.func23, Try.ntmps23
  go_wp2
  go_ret
  exact ⟨by simp, rfl⟩

set_option maxHeartbeats 400000 in
theorem isNaN_calls (a : Int) (w : World) :
    Calls Try.prog 24 #[.int .i64 a] w fun e w' => e = .returned (.bool false) ∧ w = w' := by
  go_enter Try.func24, Try.ntmps24
  go_wp2
  go_ret
  exact ⟨by simp, rfl⟩

set_option maxHeartbeats 400000 in
theorem compare64_calls (a b : Int) (w : World) :
    Calls Try.prog 21 #[.int .i64 a, .int .i64 b] w fun e w' => e = .returned (.int .i64 (sgn a b)) ∧ w = w' := by
  go_enter Try.func21, Try.ntmps21
  go_wp2_with (go_at_call 23; refine (isNaN64_calls _ _).mono ?_; rintro e w' ⟨rfl, rfl⟩)
  all_goals go_ret
  all_goals exact ⟨ret_int (by unfold sgn; (first | rw [if_pos (by omega)] | rw [if_neg (by omega), if_pos (by omega)] | rw [if_neg (by omega), if_neg (by omega)])), rfl⟩

set_option maxHeartbeats 400000 in
theorem compare_calls (a b : Int) (w : World) :
    Calls Try.prog 22 #[.int .i64 a, .int .i64 b] w fun e w' => e = .returned (.int .i64 (sgn a b)) ∧ w = w' := by
  go_enter Try.func22, Try.ntmps22
  go_wp2_with (go_at_call 24; refine (isNaN_calls _ _).mono ?_; rintro e w' ⟨rfl, rfl⟩)
  all_goals go_ret
  all_goals exact ⟨ret_int (by unfold sgn; (first | rw [if_pos (by omega)] | rw [if_neg (by omega), if_pos (by omega)] | rw [if_neg (by omega), if_neg (by omega)])), rfl⟩

set_option maxHeartbeats 400000 in
theorem or_calls (g : Nat) (a b c : Int) (w : World) (h0 : w.cell? ⟨g, 0, none⟩ = some (.int .i64 a)) (h1 : w.cell? ⟨g, 1, none⟩ = some (.int .i64 b)) (h2 : w.cell? ⟨g, 2, none⟩ = some (.int .i64 c)) :
    Calls Try.prog 20 #[.slice (some ⟨g, 0, none⟩) 3 3] w fun e w' => e = .returned (.int .i64 (or3 a b c)) ∧ w = w' := by
  by_cases e0 : a = 0
  · by_cases e1 : b = 0
    · by_cases e2 : c = 0
      all_goals
        go_enter Try.func20, Try.ntmps20
        go_wp2
        go_rounds 4
        all_goals go_ret
        all_goals exact ⟨by simp [or3, *], rfl⟩
    · go_enter Try.func20, Try.ntmps20
      go_wp2
      go_rounds 3
      go_ret
      exact ⟨by simp [or3, e0, e1], rfl⟩
  · go_enter Try.func20, Try.ntmps20
    go_wp2
    go_rounds 2
    go_ret
    exact ⟨by simp [or3, e0], rfl⟩

set_option maxHeartbeats 400000 in
theorem known_calls (x : Info) (r : Bool) (hr : knownB x.res = r) (w : World) :
    Calls Try.prog 18 #[x.val] w fun e w' => e = .returned (.bool r) ∧ Below w.heap.size w w' := by
  subst hr
  go_enter Try.func18, Try.ntmps18
  go_wp2
  all_goals go_ret
  all_goals exact ⟨by simp [knownB]; (try omega), ((Below.refl _ _).alloc (Nat.le_refl _) _)⟩

set_option maxHeartbeats 1000000 in
theorem older_calls (x y : Info) (r : Bool) (hr : olderB x y = r) (w : World) :
    Calls Try.prog 19 #[x.val, y.val] w fun e w' => e = .returned (.bool r) ∧ Below w.heap.size w w' := by
  subst hr
  have hfin := Lib.hid (older_or3 x y)
  go_enter Try.func19, Try.ntmps19
  go_wp2
  go_region_held3 (fun w' => w'.cell? ⟨w.heap.size, 0, none⟩ = some (.int .i64 x.id) ∧ w'.cell? ⟨w.heap.size, 1, none⟩ = some (.int .i64 x.res) ∧ w'.cell? ⟨w.heap.size, 3, none⟩ = some (.int .i64 x.to_) ∧ w'.cell? ⟨w.heap.size + 1, 0, none⟩ = some (.int .i64 y.id) ∧ w'.cell? ⟨w.heap.size + 1, 1, none⟩ = some (.int .i64 y.res) ∧ w'.cell? ⟨w.heap.size + 1, 3, none⟩ = some (.int .i64 y.to_)) (go_keep)
    (first | (go_at_call 21; refine (compare64_calls _ _ _).mono ?_; rintro e w1 ⟨rfl, rfl⟩) | (go_at_call 22; refine (compare_calls _ _ _).mono ?_; rintro e w1 ⟨rfl, rfl⟩) | (go_at_call 20; refine (or_calls (w.heap.size + 2) (sgn x.to_ y.to_) (sgn x.res y.res) (sgn x.id y.id) _ ?_ ?_ ?_).mono ?_; (go_simp); (go_simp); (go_simp); rintro e w1 ⟨rfl, rfl⟩))
  go_wp2
  go_ret
  exact ⟨ret_bool hfin.out, by go_grown⟩

theorem emod_mid (t width : Int) (h : 0 ≤ t) (h' : 1 ≤ width) : 0 ≤ t % width ∧ t % width ≤ t := by
  refine ⟨Int.emod_nonneg _ (by omega), ?_⟩
  have h1 := Int.emod_add_mul_ediv t width
  have h2 : 0 ≤ width * (t / width) := Int.mul_nonneg (by omega) (Int.ediv_nonneg h (by omega))
  omega

set_option maxHeartbeats 400000 in
theorem foldStart_calls (t width : Int) (w : World) :
    Calls Try.prog 17 #[.int .i64 t, .int .i64 width] w fun e w' => (∃ c, e = .returned (.tuple #[.int .i64 (startOf t width), .int .i64 c])) ∧ w = w' := by
  by_cases h1 : width < 1
  · go_enter Try.func17, Try.ntmps17
    go_wp2
    go_ret2
    exact ⟨⟨_, ret2 (vi (by rw [startOf, if_pos (by omega)])) rfl⟩, rfl⟩
  by_cases h2 : 1099511627776 < width
  · go_enter Try.func17, Try.ntmps17
    go_wp2
    go_ret2
    exact ⟨⟨_, ret2 (vi (by rw [startOf, if_pos (by omega)])) rfl⟩, rfl⟩
  by_cases h3 : t < 0
  · go_enter Try.func17, Try.ntmps17
    go_wp2
    go_ret2
    exact ⟨⟨_, ret2 (vi (by rw [startOf, if_pos (by omega)])) rfl⟩, rfl⟩
  by_cases h4 : 1125899906842624 < t
  · go_enter Try.func17, Try.ntmps17
    go_wp2
    go_ret2
    exact ⟨⟨_, ret2 (vi (by rw [startOf, if_pos (by omega)])) rfl⟩, rfl⟩
  · have hm : 0 ≤ t % width ∧ t % width ≤ t := emod_mid t width (by omega) (by omega)
    obtain ⟨hm1, hm2⟩ := hm
    go_enter Try.func17, Try.ntmps17
    go_wp2
    go_ret2
    exact ⟨⟨_, ret2 (vi (by rw [startOf, if_neg (by omega)])) rfl⟩, rfl⟩

theorem mul_div_start (t width : Int) : t / width * width = t - t % width := by
  have := Int.emod_add_mul_ediv t width
  rw [Int.mul_comm width] at this
  omega

set_option maxHeartbeats 400000 in
theorem refStart_calls (t width : Int) (w : World) :
    Calls Try.prog 16 #[.int .i64 t, .int .i64 width] w fun e w' => (∃ c, e = .returned (.tuple #[.int .i64 (startOf t width), .int .i64 c]) ∧ (c ≠ 0 → startOf t width = 0)) ∧ w = w' := by
  by_cases h1 : width < 1
  · go_enter Try.func16, Try.ntmps16
    go_wp2
    go_ret2
    exact ⟨⟨_, ret2 (vi (by rw [startOf, if_pos (by omega)])) rfl, fun _ => by rw [startOf, if_pos (by omega)]⟩, rfl⟩
  by_cases h2 : 1099511627776 < width
  · go_enter Try.func16, Try.ntmps16
    go_wp2
    go_ret2
    exact ⟨⟨_, ret2 (vi (by rw [startOf, if_pos (by omega)])) rfl, fun _ => by rw [startOf, if_pos (by omega)]⟩, rfl⟩
  by_cases h3 : t < 0
  · go_enter Try.func16, Try.ntmps16
    go_wp2
    go_ret2
    exact ⟨⟨_, ret2 (vi (by rw [startOf, if_pos (by omega)])) rfl, fun _ => by rw [startOf, if_pos (by omega)]⟩, rfl⟩
  by_cases h4 : 1125899906842624 < t
  · go_enter Try.func16, Try.ntmps16
    go_wp2
    go_ret2
    exact ⟨⟨_, ret2 (vi (by rw [startOf, if_pos (by omega)])) rfl, fun _ => by rw [startOf, if_pos (by omega)]⟩, rfl⟩
  · have hm : 0 ≤ t % width ∧ t % width ≤ t := emod_mid t width (by omega) (by omega)
    obtain ⟨hm1, hm2⟩ := hm
    have hb : 0 ≤ t / width * width ∧ t / width * width ≤ t := by rw [mul_div_start]; omega
    obtain ⟨hb1, hb2⟩ := hb
    go_enter Try.func16, Try.ntmps16
    go_wp2
    go_ret2
    exact ⟨⟨_, ret2 (vi (by rw [startOf, if_neg (by omega), ← mul_div_start])) rfl, fun h => absurd rfl h⟩, rfl⟩

set_option maxHeartbeats 400000 in
theorem refOlder_calls (x y : Info) (r : Bool) (hr : olderB x y = r) (w : World) :
    Calls Try.prog 14 #[x.val, y.val] w fun e w' => e = .returned (.bool r) ∧ Below w.heap.size w w' := by
  subst hr
  have hf : ∀ b : Bool, (x.to_ = y.to_ → x.res = y.res → b = decide (x.id < y.id)) → (x.to_ = y.to_ → ¬ x.res = y.res → b = decide (x.res < y.res)) → (¬ x.to_ = y.to_ → b = decide (x.to_ < y.to_)) → b = olderB x y := by
    intro b k1 k2 k3
    unfold olderB
    by_cases e1 : x.to_ = y.to_
    · by_cases e2 : x.res = y.res
      · rw [if_pos e1, if_pos e2]; exact k1 e1 e2
      · rw [if_pos e1, if_neg e2]; exact k2 e1 e2
    · rw [if_neg e1]; exact k3 e1
  have HF := Lib.hid hf
  clear hf
  go_enter Try.func14, Try.ntmps14
  go_wp2
  all_goals go_ret
  all_goals refine ⟨ret_bool (HF.out _ ?_ ?_ ?_), by go_grown⟩
  all_goals (intros; first | rfl | (exfalso; simp_all; done))

theorem min_now (now : Int) : min now 1125899906842624 = if 1125899906842624 < now then 1125899906842624 else now := by split <;> omega

set_option maxHeartbeats 400000 in
theorem refBound_calls (keep now width : Int) (w : World) (h1 : -9223372036854775808 ≤ keep) (h2 : -9223372036854775808 ≤ now) :
    Calls Try.prog 11 #[.int .i64 keep, .int .i64 now, .int .i64 width] w fun e w' => e = .returned (.int .i64 (boundOf keep now width)) ∧ w = w' := by
  by_cases h3 : keep ≤ 0
  · have hf : Hid (boundOf keep now width = 0) := by show boundOf _ _ _ = _; rw [boundOf, if_pos (by omega)]
    go_enter Try.func11, Try.ntmps11
    go_wp2
    all_goals go_ret
    all_goals exact ⟨ret_int hf.out.symm, rfl⟩
  by_cases h4 : 1125899906842624 < now
  · by_cases h5 : 1125899906842624 ≤ keep
    · have hf : Hid (boundOf keep now width = 0) := by show boundOf _ _ _ = _; rw [boundOf, if_pos (by omega)]
      go_enter Try.func11, Try.ntmps11
      go_wp2
      all_goals go_ret
      all_goals exact ⟨ret_int hf.out.symm, rfl⟩
    · have hf : Hid (boundOf keep now width = startOf (1125899906842624 - keep) width) := by
        show boundOf _ _ _ = _; rw [boundOf, if_neg (by omega), min_now, if_pos h4]
      go_enter Try.func11, Try.ntmps11
      go_wp2_with fail
      refine (refStart_calls _ _ _).mono ?_
      rintro e w' ⟨⟨c, rfl, hc⟩, rfl⟩
      have HC := Lib.hid hc
      clear hc
      go_wp2
      all_goals go_ret
      all_goals exact ⟨ret_int (by first | exact hf.out.symm | (rw [hf.out]; exact (HC.out (by simp_all)).symm)), rfl⟩
  · by_cases h5 : now ≤ keep
    · have hf : Hid (boundOf keep now width = 0) := by show boundOf _ _ _ = _; rw [boundOf, if_pos (by omega)]
      go_enter Try.func11, Try.ntmps11
      go_wp2
      all_goals go_ret
      all_goals exact ⟨ret_int hf.out.symm, rfl⟩
    · have hf : Hid (boundOf keep now width = startOf (now - keep) width) := by
        show boundOf _ _ _ = _; rw [boundOf, if_neg (by omega), min_now, if_neg h4]
      go_enter Try.func11, Try.ntmps11
      go_wp2_with fail
      refine (refStart_calls _ _ _).mono ?_
      rintro e w' ⟨⟨c, rfl, hc⟩, rfl⟩
      have HC := Lib.hid hc
      clear hc
      go_wp2
      all_goals go_ret
      all_goals exact ⟨ret_int (by first | exact hf.out.symm | (rw [hf.out]; exact (HC.out (by simp_all)).symm)), rfl⟩

theorem refBound_calls_eq (keep now width r : Int) (hr : boundOf keep now width = r) (w : World) (h1 : -9223372036854775808 ≤ keep) (h2 : -9223372036854775808 ≤ now) :
    Calls Try.prog 11 #[.int .i64 keep, .int .i64 now, .int .i64 width] w fun e w' => e = .returned (.int .i64 r) ∧ w = w' := hr ▸ refBound_calls keep now width w h1 h2

set_option maxHeartbeats 400000 in
theorem bound_calls (p : Pol) (r : Nat) (now width : Int) (w : World) (hr : r < 3) (h1 : -9223372036854775808 ≤ p.keep r) (h2 : -9223372036854775808 ≤ now) :
    Calls Try.prog 12 #[p.val, .int .i64 r, .int .i64 now, .int .i64 width] w fun e w' => e = .returned (.int .i64 (boundOf (p.keep r) now width)) ∧ Below w.heap.size w w' := by
  have hc : ∀ o, (w.alloc (.cells #[.int .i64 p.k0, .int .i64 p.k1, .int .i64 p.k2, .int .i64 p.size] o)).cell? ⟨w.heap.size, r, none⟩ = some (.int .i64 (p.keep r)) := by
    intro o
    have : r = 0 ∨ r = 1 ∨ r = 2 := by omega
    rcases this with rfl | rfl | rfl <;> simp [World.cell?_alloc_new, Pol.keep, Pol.keeps]
  generalize p.keep r = keep at *
  by_cases h3 : keep ≤ 0
  · have hf : Hid (boundOf keep now width = 0) := by show boundOf _ _ _ = _; rw [boundOf, if_pos (by omega)]
    go_enter Try.func12, Try.ntmps12
    go_wp2
    all_goals go_ret
    all_goals exact ⟨ret_int hf.out.symm, by go_grown⟩
  by_cases h5 : min now 1125899906842624 ≤ keep
  · have hf : Hid (boundOf keep now width = 0) := by show boundOf _ _ _ = _; rw [boundOf, if_pos (by omega)]
    go_enter Try.func12, Try.ntmps12
    go_wp2
    all_goals go_ret
    all_goals exact ⟨ret_int hf.out.symm, by go_grown⟩
  by_cases h4 : 1125899906842624 < now
  · have hf : Hid (boundOf keep now width = startOf (1125899906842624 - keep) width) := by
      show boundOf _ _ _ = _; rw [boundOf, if_neg (by omega), min_now, if_pos h4]
    go_enter Try.func12, Try.ntmps12
    go_wp2_with (go_at_call 17; refine (foldStart_calls _ _ _).mono ?_; rintro e w' ⟨⟨c, rfl⟩, rfl⟩)
    all_goals go_ret
    all_goals exact ⟨ret_int hf.out.symm, by go_grown⟩
  · have hf : Hid (boundOf keep now width = startOf (now - keep) width) := by
      show boundOf _ _ _ = _; rw [boundOf, if_neg (by omega), min_now, if_neg h4]
    go_enter Try.func12, Try.ntmps12
    go_wp2_with (go_at_call 17; refine (foldStart_calls _ _ _).mono ?_; rintro e w' ⟨⟨c, rfl⟩, rfl⟩)
    all_goals go_ret
    all_goals exact ⟨ret_int hf.out.symm, by go_grown⟩

end Go.Proofs.Ytfokjcoiehgbpaa
