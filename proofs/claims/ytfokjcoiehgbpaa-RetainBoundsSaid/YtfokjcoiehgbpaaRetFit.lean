/- The walk of almanacref20.Fit: where it answers true, the blocks are as the section Words asks. -/
import Derived.Test.YtfokjcoiehgbpaaRetLawB
import Derived.Test.YtfokjcoiehgbpaaRetPlain2
import Derived.BigGuardPart
namespace Go.Proofs.Ytfokjcoiehgbpaa
open Go.RowKit
attribute [local go_sem ↓] Go.wp_at_zero Go.wp_at_succ
attribute [local go_sem] Later.cell Later.frozen

/-- What Fit answers. -/
def FitPost (w : World) (xs : List Info) (e : Ending) (w' : World) : Prop := ∃ r, e = .returned (.bool r) ∧ (r = true → FitTo xs xs.length) ∧ Below w.heap.size w w'

set_option maxHeartbeats 400000 in
theorem time_calls (t : Int) (w : World) : Calls Try.prog 15 #[.int .i64 t] w fun e w' => e = .returned (.bool (decide (0 ≤ t) && decide (t ≤ 1125899906842625))) ∧ w = w' := by
  go_enter Try.func15, Try.ntmps15
  go_wp2
  all_goals go_ret
  all_goals exact ⟨ret_bool (by simp; (try omega)), rfl⟩

set_option maxHeartbeats 2000000 in
set_option maxRecDepth 100000 in
theorem fit_calls (M : Man) (A : Option Addr) (n c : Nat) (xs : List Info) (w : World) (hn : n * 40 ≤ 140737488355328) (hX : Elems w w.heap.size 5 Info.enc A n xs) :
    Calls Try.prog 10 #[M.val (.slice A n c)] w (FitPost w xs) := by
  have hxl := Lib.hid hX.1
  go_enter Try.func10, Try.ntmps10
  go_upto_region 0 with fail
  go_cut [1, 2] (fun s1 s2 wx => ∃ B, B = w.heap.size ∧ s1 = .pointer (some ⟨B, 0, none⟩) ∧ s2 = .bool false ∧ Below B w wx ∧ Blk wx B 35 (M.cells (.slice A n c)))
  case first =>
    go_wp2_with fail
    go_meet
    exact ⟨_, rfl, rfl, rfl, by go_grown, Blk.newAt rfl⟩
  case rest =>
    obtain ⟨B, hB, rfl, rfl, hbl, hman⟩ := hcut
    obtain ⟨wx, rfl⟩ : ∃ wx, wx = wc := ⟨_, rfl⟩
    have HB := Lib.hid hB
    have hXB : Elems w B 5 Info.enc A n xs := by rw [hB]; exact hX
    clear hB
    have mc := hman.cell
    simp only [Man.cells] at mc
    go_wp2_with (go_at_call 15; refine (time_calls _ _).mono ?_; rintro e w' ⟨rfl, rfl⟩)
    all_goals try (go_ret; exact ⟨false, rfl, fun h => (by cases h), HB.out ▸ hbl⟩)
    go_loopg [4] 3 (fun gk i wr => ∃ k : Nat, k + gk = 3 ∧ i = .int .i64 k ∧ Below B w wr ∧ Blk wr B 35 (M.cells (.slice A n c)))
    case atStart => exact ⟨0, rfl, rfl, hbl, hman⟩
    case round =>
      obtain ⟨k, hk, rfl, hb, hm⟩ := hrel
      have HK := Lib.hid hk
      clear mc
      by_cases hlt : k < 3
      · have c3 : k = 0 ∨ k = 1 ∨ k = 2 := by omega
        have e0 : ∃ v : Int, wr.cell? ⟨B, k, none⟩ = some (.int .i64 v) := by rcases c3 with rfl | rfl | rfl <;> exact ⟨_, hm.cell _⟩
        have e7 : ∃ v : Int, wr.cell? ⟨B, 7 + k, none⟩ = some (.int .i64 v) := by rcases c3 with rfl | rfl | rfl <;> exact ⟨_, hm.cell _⟩
        have e10 : ∃ v : Int, wr.cell? ⟨B, 10 + k, none⟩ = some (.int .i64 v) := by rcases c3 with rfl | rfl | rfl <;> exact ⟨_, hm.cell _⟩
        obtain ⟨v0, e0⟩ := e0
        obtain ⟨v7, e7⟩ := e7
        obtain ⟨v10, e10⟩ := e10
        have hki : (0 : Int) ≤ (k : Int) := by omega
        have hkj : (k : Int) < 3 := by omega
        clear hk c3
        go_wp2_with (go_at_call 15; refine (time_calls _ _).mono ?_; rintro e w' ⟨rfl, rfl⟩)
        all_goals try (go_ret; exact ⟨false, rfl, fun h => (by cases h), HB.out ▸ hb⟩)
        go_roundg (gk - 1)
        case measure => have := HK.out; omega
        case rel => exact ⟨k + 1, by have := HK.out; omega, by go_num, hb, hm⟩
      · obtain rfl : k = 3 := by omega
        clear hk
        have hxn := hxl.out
        go_wp2_with fail
        go_loopg [7] n (fun gk i wr => ∃ k : Nat, k + gk = n ∧ i = .int .i64 k ∧ Below B w wr ∧ Blk wr B 35 (M.cells (.slice A n c)) ∧ FitTo xs k)
        case atStart => exact ⟨0, by omega, rfl, hb, hm, FitTo.zero xs⟩
        case round =>
          obtain ⟨j, hk, rfl, hbr, hmr, hfit⟩ := hrel
          have HJ := Lib.hid hk
          have HF := Lib.hid hfit
          have hjn : j ≤ n := by omega
          clear hk hfit
          have q5 : wr.cell? ⟨B, 5, none⟩ = some (.slice A n c) := hmr.cell 5
          have q3 : wr.cell? ⟨B, 3, none⟩ = some (.int .i64 M.next) := hmr.cell 3
          have hzb := hmr.lt
          by_cases hlt : j < n
          · obtain ⟨b, off, rfl, hbB, hcell⟩ := hXB.2 (by omega)
            obtain ⟨x, hx⟩ : ∃ x, xs[j]? = some x := ⟨_, List.getElem?_eq_getElem (by omega)⟩
            have rd : ∀ i y, xs[i]? = some y → ∀ j v, (Info.enc y)[j]? = some v → wr.cell? ⟨b, off + i * 5 + j, none⟩ = some v := fun i y hy j v hv =>
              (hbr.cell (p := ⟨b, _, none⟩) hbB).trans (hcell i y hy j v hv)
            have q0 := rd j x hx 0 _ rfl
            have q1 := rd j x hx 1 _ rfl
            have q2 := rd j x hx 2 _ rfl
            have q3' := rd j x hx 3 _ rfl
            have q4 := rd j x hx 4 _ rfl
            simp only [Nat.add_zero] at q0
            have zbb : b < wr.heap.size := lt_of_cell q0
            by_cases hok : ¬ x.id < 1 ∧ ¬ M.next ≤ x.id ∧ ¬ x.res < 0 ∧ ¬ 2 < x.res ∧ ¬ x.frm < 0 ∧ ¬ x.to_ ≤ x.frm ∧ ¬ 1125899906842625 < x.to_ ∧ ¬ x.bytes < 0
            · obtain ⟨o1, o2, o3, o4, o5, o6, o7, o8⟩ := hok
              have HOK : Hid (okInfo x) := (show okInfo x from ⟨by omega, by omega, by omega, by omega⟩)
              by_cases hj0 : j = 0
              · have HX := Lib.hid hx
                have HJ0 := Lib.hid hj0
                have hd0 : decide ((0 : Int) < (j : Int)) = false := by simp [hj0]
                have hd1 : decide (0 < j) = false := by simp [hj0]
                clear hx rd hcell hxn hj0
                go_wp2_with fail
                refine wp_region_later (by kernel_rfl) (by kernel_rfl) ?_
                repeat (go_big_quiet_step (fail))
                refine wpQuiet_nil ?_
                rintro w2 ⟨⟨_, hb2⟩, rfl⟩
                have bW : Below wr.heap.size wr w2 := then_ (by go_grown) hb2
                go_wp2
                go_roundg (gk - 1)
                case measure => have := HJ.out; omega
                case rel => exact ⟨j + 1, by have := HJ.out; omega, by go_num, hbr.trans (bW.mono (by omega)), hmr.below bW hzb, HF.out.succ HX.out HOK.out (fun i y e => by have := HJ0.out; omega)⟩
              · obtain ⟨i, rfl⟩ : ∃ i, j = i + 1 := ⟨j - 1, by omega⟩
                obtain ⟨y, hy⟩ : ∃ y, xs[i]? = some y := ⟨_, List.getElem?_eq_getElem (by omega)⟩
                have y0 := rd i y hy 0 _ rfl
                simp only [Nat.add_zero] at y0
                have HX := Lib.hid hx
                have HY := Lib.hid hy
                clear hx hy rd hcell hxn hj0
                have hd0 : (0 : Int) < ((i + 1 : Nat) : Int) := by omega
                have hin : (i : Int) < (n : Int) := by omega
                have hi0 : (0 : Int) ≤ (i : Int) := by omega
                by_cases hle : x.id ≤ y.id
                · go_wp2_with fail
                  refine wp_region_later (by kernel_rfl) (by kernel_rfl) ?_
                  repeat (go_big_quiet_step (fail))
                  refine wpQuiet_nil ?_
                  rintro w2 ⟨⟨_, hb2⟩, rfl⟩
                  have bW : Below wr.heap.size wr w2 := then_ (by go_grown) hb2
                  go_wp2
                  go_ret
                  exact ⟨false, rfl, fun h => (by cases h), HB.out ▸ hbr.trans (bW.mono (by omega))⟩
                · go_wp2_with fail
                  refine wp_region_later (by kernel_rfl) (by kernel_rfl) ?_
                  repeat (go_big_quiet_step (fail))
                  refine wpQuiet_nil ?_
                  rintro w2 ⟨⟨_, hb2⟩, rfl⟩
                  have bW : Below wr.heap.size wr w2 := then_ (by go_grown) hb2
                  go_wp2
                  go_roundg (gk - 1)
                  case measure => have := HJ.out; omega
                  case rel =>
                    refine ⟨i + 1 + 1, by have := HJ.out; omega, by go_num, hbr.trans (bW.mono (by omega)), hmr.below bW hzb, HF.out.succ HX.out HOK.out (fun i' y' e hy' => ?_)⟩
                    obtain rfl : i' = i := by omega
                    have := HY.out
                    rw [this] at hy'
                    injection hy' with hy'
                    subst hy'
                    omega
            · have HOK := Lib.hid hok
              clear hok hx rd hcell hxn
              go_wp2_with fail
              all_goals try (go_ret; exact ⟨false, rfl, fun h => (by cases h), HB.out ▸ hbr.trans (Below.alloc (Below.refl _ _) (by omega) _)⟩)
              exfalso
              exact HOK.out (by omega)
          · obtain rfl : j = n := by omega
            have HXN := Lib.hid hxn
            clear hxn
            go_wp2
            go_ret
            exact ⟨true, rfl, fun _ => HXN.out.symm ▸ HF.out, HB.out ▸ hbr⟩
end Go.Proofs.Ytfokjcoiehgbpaa
