/- Merged (what the claim wants of): StoWalksF, StoWalksG. -/
import Derived.Test.YtfpgbhimgfdddaaGreatDoorStk28
import Derived.Test.YtfpgbhimgfdddaaGreatDoorStk21
import Derived.Test.YtfpgbhimgfdddaaGreatDoorStk20
set_option linter.unusedVariables false
set_option linter.unusedSimpArgs false
/- The walk of layer 20 (store): fit. -/
namespace Go.Proofs.YtfpgbhimgfdddaaGreatDoor
open Go.RowKit Go.Shelf Go.Sort
attribute [local go_sem ↓] Go.wp_at_zero Go.wp_at_succ
attribute [local go_sem] Later.cell Later.frozen

def FitOut (m : Man) (w : World) (e : Ending) (w' : World) : Prop := e = .returned (.bool m.fit) ∧ Below w.heap.size w w'
theorem fit_false {m : Man} (h : ¬ m.fit = true) : m.fit = false := by simpa using h
set_option maxRecDepth 100000 in
set_option maxHeartbeats 8000000 in
theorem fit_calls (m : Man) (A : Option Addr) (c : Nat) (w : World) (hinf : Infs w A m.blocks.length m.blocks) (hlen : m.blocks.length ≤ 140737488355328) :
    Calls Tryz.prog 45 #[.agg (manV m (.slice A m.blocks.length c))] w (FitOut m w) := by
  go_enter Tryz.func45, Tryz.ntmps45
  go_wp2_with fail
  refine (numbers_calls w.heap.size _).mono ?_
  rintro e w1 ⟨g0, c0, g1, c1, g2, c2, rfl, o0, o1, o2, hb1⟩
  have hsz : (w.alloc (.cells (manV m (.slice A m.blocks.length c)) 25)).heap.size = w.heap.size + 1 := by simp
  rw [hsz] at o0 o1 o2 hb1
  have HF := Lib.hid (⟨((Below.refl w.heap.size w).alloc (Nat.le_refl _) _).trans (Below.low hb1 (by omega)), Blk.low (Blk.new w _ _) hb1 (by omega), o0, o1, o2⟩ : FitAt w m A c g0 c0 g1 c1 g2 c2 w1)
  have HI := Lib.hid hinf
  clear o0 o1 o2 hb1 hsz hinf
  go_upto_block 0 with fail
  go_cut [] (fun wz => FitAt w m A c g0 c0 g1 c1 g2 c2 wz ∧ ∀ j, j < 10 → TenOk m j)
  case first =>
    go_wp2_with fail
    go_loopg [17] 10 (fun g s17 wr => ∃ i : Nat, i + g = 10 ∧ s17 = .int .i64 (i : Int) ∧ FitAt w m A c g0 c0 g1 c1 g2 c2 wr ∧ ∀ j, j < i → TenOk m j)
    case atStart => exact ⟨0, rfl, rfl, HF.out, fun j hj => absurd hj (by omega)⟩
    case round =>
      obtain ⟨i, hig, rfl, hf, ht⟩ := hrel
      have HIG := Lib.hid hig
      have HF2 := Lib.hid hf
      have HT := Lib.hid ht
      clear hig hf ht
      by_cases hi : i < 10
      · have el : decide ((i : Int) < 10) = true := by simp; omega
        have e0 : (i : Int) < 10 := by omega
        have e1 : (0 : Int) ≤ (i : Int) := by omega
        obtain ⟨f0, f1, f2, f3⟩ := ten_facts m (.slice A m.blocks.length c) w.heap.size i hi
        have m0 : wr.cell? ⟨g0, i, none⟩ = some (.pointer (some ⟨w.heap.size, tenK i, none⟩)) := by rw [World.ownsRow.cellAt HF2.out.o0 i (by omega)]; exact f0
        have m1 : wr.cell? ⟨w.heap.size, tenK i, none⟩ = some (.int .i64 (tenI m i)) := (HF2.out.blk.cell (tenK i)).trans f1
        have m2 : wr.cell? ⟨g1, i, none⟩ = some (.int .i64 (loI i)) := by rw [World.ownsRow.cellAt HF2.out.o1 i (by omega)]; exact f2
        have m3 : wr.cell? ⟨g2, i, none⟩ = some (.int .i64 (hiI i)) := by rw [World.ownsRow.cellAt HF2.out.o2 i (by omega)]; exact f3
        have hgood : TenOk m i ↔ loI i ≤ tenI m i ∧ tenI m i ≤ hiI i := Iff.rfl
        have HG := Lib.hid hgood
        obtain ⟨t, ht⟩ : ∃ t, tenI m i = t := ⟨_, rfl⟩
        obtain ⟨lo, hlo⟩ : ∃ t, loI i = t := ⟨_, rfl⟩
        obtain ⟨hj, hhj⟩ : ∃ t, hiI i = t := ⟨_, rfl⟩
        obtain ⟨k, hk⟩ : ∃ k, tenK i = k := ⟨_, rfl⟩
        obtain ⟨W0, hW0⟩ : ∃ W0, w.heap.size = W0 := ⟨_, rfl⟩
        rw [ht] at m1
        rw [hlo] at m2
        rw [hhj] at m3
        rw [hk] at m0 m1
        rw [hW0] at m0 m1
        have HE := Lib.hid (⟨ht, hlo, hhj⟩ : _ ∧ _ ∧ _)
        clear f0 f1 f2 f3 hgood ht hlo hhj hk hW0
        go_upto_region 5 with fail
        by_cases q1 : t < lo
        · have d1 : decide (t < lo) = true := by simp [q1]
          go_region
          go_wp2_with fail
          go_ret
          refine ⟨?_, HF2.out.below.drew⟩
          rw [fit_false (fun hfit => by
            have := HG.out.mp (((fit_iff m).mp hfit).1 i hi)
            rw [HE.out.1, HE.out.2.1] at this
            omega)]
          rfl
        · have d1 : decide (t < lo) = false := by simp [q1]
          by_cases q2 : hj < t
          · have d2 : decide (hj < t) = true := by simp [q2]
            go_region
            go_wp2_with fail
            go_ret
            refine ⟨?_, HF2.out.below.drew⟩
            rw [fit_false (fun hfit => by
              have := HG.out.mp (((fit_iff m).mp hfit).1 i hi)
              rw [HE.out.1, HE.out.2.2] at this
              omega)]
            rfl
          · have d2 : decide (hj < t) = false := by simp [q2]
            go_region
            go_wp2_with fail
            go_roundg (gk - 1)
            case measure => have := HIG.out; omega
            case rel =>
              refine ⟨i + 1, by have := HIG.out; omega, by go_num, HF2.out.drew, fun j hj => ?_⟩
              rcases Nat.lt_or_ge j i with h | h
              · exact HT.out j h
              · obtain rfl : j = i := by omega
                refine HG.out.mpr ?_
                rw [HE.out.1, HE.out.2.1, HE.out.2.2]
                omega
      · have el : decide ((i : Int) < 10) = false := by simp; omega
        have hi3 : i = 10 := by have := HIG.out; omega
        subst hi3
        go_wp2_with fail
        go_meet
        exact ⟨HF2.out, HT.out⟩
  case rest =>
    obtain ⟨hf, ht⟩ := hcut
    obtain ⟨w3, rfl⟩ : ∃ x, x = wc := ⟨_, rfl⟩
    have HF3 := Lib.hid hf
    have HT := Lib.hid ht
    clear hf ht
    have mb := HF3.out.blk.cell 5
    have mb' : w3.cell? ⟨w.heap.size, 5, none⟩ = some (.slice A m.blocks.length c) := mb
    clear mb
    obtain ⟨n, hn⟩ : ∃ n, m.blocks.length = n := ⟨_, rfl⟩
    have HN := Lib.hid hn
    rw [hn] at mb' hlen
    clear hn
    go_upto_block 2 with fail
    go_cut [] (fun wz => FitAt w m A c g0 c0 g1 c1 g2 c2 wz ∧ ∀ j, j < n → Good m.next m.blocks j)
    case first =>
      go_wp2_with fail
      go_loopg [44] n (fun g s44 wr => ∃ i : Nat, i + g = n ∧ s44 = .int .i64 (i : Int) ∧ FitAt w m A c g0 c0 g1 c1 g2 c2 wr ∧ ∀ j, j < i → Good m.next m.blocks j)
      case atStart => exact ⟨0, by omega, rfl, HF3.out, fun j hj => absurd hj (by omega)⟩
      case round =>
        obtain ⟨i, hig, rfl, hf, hg⟩ := hrel
        have HIG := Lib.hid hig
        have HF2 := Lib.hid hf
        have HGD := Lib.hid hg
        clear hig hf hg mb'
        by_cases hi : i < n
        · have el : decide ((i : Int) < (n : Int)) = true := by simp; omega
          have e0 : (i : Int) < (n : Int) := by omega
          have e1 : (0 : Int) ≤ (i : Int) := by omega
          have hI2 : Infs wr A m.blocks.length m.blocks := HI.out.below HF2.out.below
          obtain ⟨bb, off, rfl, hbl, kc⟩ := hI2.at_ (i := i) (by rw [HN.out]; exact hi)
          have m0 : wr.cell? ⟨bb, off + i * 5, none⟩ = _ := kc 0 _ rfl
          have m1 := kc 1 _ rfl
          have m2 := kc 2 _ rfl
          have m3 := kc 3 _ rfl
          have m4 := kc 4 _ rfl
          have hgood : Good m.next m.blocks i ↔ infB m.next m.blocks[i]! = true ∧ (0 < i → m.blocks[i - 1]!.id < m.blocks[i]!.id) := Iff.rfl
          have mb : wr.cell? ⟨w.heap.size, 5, none⟩ = some (.slice (some ⟨bb, off, none⟩) n c) := by rw [← HN.out]; exact HF2.out.blk.cell 5
          have hpre : 0 < i → ∃ k, i = k + 1 ∧ wr.cell? ⟨bb, off + k * 5, none⟩ = some (.int .i64 m.blocks[i - 1]!.id) := fun hp => by
            obtain ⟨k, rfl⟩ : ∃ k, i = k + 1 := ⟨i - 1, by omega⟩
            obtain ⟨bb2, off2, he, _, kc2⟩ := hI2.at_ (i := k) (by rw [HN.out]; omega)
            injection he with he
            injection he with he1 he2
            subst he1 he2
            exact ⟨k, rfl, kc2 0 _ rfl⟩
          have HPRE := Lib.hid hpre
          have HGOOD := Lib.hid hgood
          obtain ⟨x, hx⟩ : ∃ x, m.blocks[i]! = x := ⟨_, rfl⟩
          have HX := Lib.hid hx
          simp only [hx] at m0 m1 m2 m3 m4
          clear hI2 kc hgood hpre hx
          go_upto_region 11 with fail
          obtain ⟨W2, hW2⟩ : ∃ X, wr.alloc (.cells #[.int .i64 x.id, .int .i64 x.res, .int .i64 x.frm, .int .i64 x.to_, .int .i64 x.bytes] 116) = X := ⟨_, rfl⟩
          have HF5 : Hid (FitAt w m (some ⟨bb, off, none⟩) c g0 c0 g1 c1 g2 c2 W2) := Lib.hid (by rw [← hW2]; exact HF2.out.alloc _)
          have kx : Blk W2 wr.heap.size 116 #[.int .i64 x.id, .int .i64 x.res, .int .i64 x.frm, .int .i64 x.to_, .int .i64 x.bytes] := by rw [← hW2]; exact Blk.new wr _ _
          have HPRE2 : Hid (0 < i → ∃ k, i = k + 1 ∧ W2.cell? ⟨bb, off + k * 5, none⟩ = some (.int .i64 m.blocks[i - 1]!.id)) := Lib.hid (fun hp => by
            obtain ⟨k, h1, h2⟩ := HPRE.out hp
            refine ⟨k, h1, ?_⟩
            rw [← hW2, World.cell?_of_block (Below.heap_alloc _ _ _ hbl)]
            exact h2)
          rw [hW2]
          clear hW2 m0 m1 m2 m3 m4 mb HPRE
          obtain ⟨Q, hQ⟩ : ∃ Q, wr.heap.size = Q := ⟨_, rfl⟩
          rw [hQ] at kx ⊢
          have m0 := kx.cell 0
          have m1 := kx.cell 1
          have m2 := kx.cell 2
          have m3 := kx.cell 3
          have m4 := kx.cell 4
          have mn : W2.cell? ⟨w.heap.size, 3, none⟩ = some (.int .i64 m.next) := HF5.out.blk.cell 3
          have mb : W2.cell? ⟨w.heap.size, 5, none⟩ = some (.slice (some ⟨bb, off, none⟩) n c) := by rw [← HN.out]; exact HF5.out.blk.cell 5
          obtain ⟨nx, hnx⟩ : ∃ v, m.next = v := ⟨_, rfl⟩
          have HNX := Lib.hid hnx
          rw [hnx] at mn
          clear kx hbl hQ hnx
          by_cases q1 : x.id < 1
          · have d1 : decide (x.id < 1) = true := by simp [q1]
            go_region
            go_wp2_with fail
            go_ret
            refine ⟨?_, HF5.out.below.drew⟩
            rw [fit_false (fun hfit => by
              have hh := HGOOD.out.mp (((fit_iff m).mp hfit).2.1 i (by rw [HN.out]; exact hi))
              rw [HX.out, HNX.out] at hh
              unfold infB at hh
              simp only [Bool.and_eq_true, decide_eq_true_eq] at hh
              try have hyy := HY.out
              omega)]
            rfl
          have d1 : decide (x.id < 1) = false := by simp [q1]
          by_cases q2 : nx ≤ x.id
          · have d2 : decide (nx ≤ x.id) = true := by simp [q2]
            go_region
            go_wp2_with fail
            go_ret
            refine ⟨?_, HF5.out.below.drew⟩
            rw [fit_false (fun hfit => by
              have hh := HGOOD.out.mp (((fit_iff m).mp hfit).2.1 i (by rw [HN.out]; exact hi))
              rw [HX.out, HNX.out] at hh
              unfold infB at hh
              simp only [Bool.and_eq_true, decide_eq_true_eq] at hh
              try have hyy := HY.out
              omega)]
            rfl
          have d2 : decide (nx ≤ x.id) = false := by simp [q2]
          by_cases q3 : 0 < i
          · have d3 : decide ((0 : Int) < (i : Int)) = true := by simp; omega
            obtain ⟨k, hk, mp⟩ := HPRE2.out q3
            obtain ⟨y, hy⟩ : ∃ y, m.blocks[i - 1]!.id = y := ⟨_, rfl⟩
            rw [hy] at mp
            have HY := Lib.hid hy
            have ik : (i : Int) - 1 = (k : Int) := by omega
            have k0 : (0 : Int) ≤ (k : Int) := by omega
            have k1 : (k : Int) < (n : Int) := by omega
            have k2 : k < n := by omega
            clear hy
            by_cases q4 : x.id ≤ y
            · have d4 : decide (x.id ≤ y) = true := by simp [q4]
              go_region
              go_wp2_with fail
              go_ret
              refine ⟨?_, HF5.out.below.drew⟩
              rw [fit_false (fun hfit => by
                have hh := HGOOD.out.mp (((fit_iff m).mp hfit).2.1 i (by rw [HN.out]; exact hi))
                rw [HX.out, HNX.out] at hh
                unfold infB at hh
                simp only [Bool.and_eq_true, decide_eq_true_eq] at hh
                try have hyy := HY.out
                omega)]
              rfl
            have d4 : decide (x.id ≤ y) = false := by simp [q4]
            by_cases q5 : x.res < 0
            · have d5 : decide (x.res < 0) = true := by simp [q5]
              go_region
              go_wp2_with fail
              go_ret
              refine ⟨?_, HF5.out.below.drew⟩
              rw [fit_false (fun hfit => by
                have hh := HGOOD.out.mp (((fit_iff m).mp hfit).2.1 i (by rw [HN.out]; exact hi))
                rw [HX.out, HNX.out] at hh
                unfold infB at hh
                simp only [Bool.and_eq_true, decide_eq_true_eq] at hh
                try have hyy := HY.out
                omega)]
              rfl
            have d5 : decide (x.res < 0) = false := by simp [q5]
            by_cases q6 : 3 ≤ x.res
            · have d6 : decide (3 ≤ x.res) = true := by simp [q6]
              go_region
              go_wp2_with fail
              go_ret
              refine ⟨?_, HF5.out.below.drew⟩
              rw [fit_false (fun hfit => by
                have hh := HGOOD.out.mp (((fit_iff m).mp hfit).2.1 i (by rw [HN.out]; exact hi))
                rw [HX.out, HNX.out] at hh
                unfold infB at hh
                simp only [Bool.and_eq_true, decide_eq_true_eq] at hh
                try have hyy := HY.out
                omega)]
              rfl
            have d6 : decide (3 ≤ x.res) = false := by simp [q6]
            by_cases q7 : x.frm < 0
            · have d7 : decide (x.frm < 0) = true := by simp [q7]
              go_region
              go_wp2_with fail
              go_ret
              refine ⟨?_, HF5.out.below.drew⟩
              rw [fit_false (fun hfit => by
                have hh := HGOOD.out.mp (((fit_iff m).mp hfit).2.1 i (by rw [HN.out]; exact hi))
                rw [HX.out, HNX.out] at hh
                unfold infB at hh
                simp only [Bool.and_eq_true, decide_eq_true_eq] at hh
                try have hyy := HY.out
                omega)]
              rfl
            have d7 : decide (x.frm < 0) = false := by simp [q7]
            by_cases q8 : x.to_ ≤ x.frm
            · have d8 : decide (x.to_ ≤ x.frm) = true := by simp [q8]
              go_region
              go_wp2_with fail
              go_ret
              refine ⟨?_, HF5.out.below.drew⟩
              rw [fit_false (fun hfit => by
                have hh := HGOOD.out.mp (((fit_iff m).mp hfit).2.1 i (by rw [HN.out]; exact hi))
                rw [HX.out, HNX.out] at hh
                unfold infB at hh
                simp only [Bool.and_eq_true, decide_eq_true_eq] at hh
                try have hyy := HY.out
                omega)]
              rfl
            have d8 : decide (x.to_ ≤ x.frm) = false := by simp [q8]
            by_cases q9 : 1125899906842625 < x.to_
            · have d9 : decide (1125899906842625 < x.to_) = true := by simp [q9]
              go_region
              go_wp2_with fail
              go_ret
              refine ⟨?_, HF5.out.below.drew⟩
              rw [fit_false (fun hfit => by
                have hh := HGOOD.out.mp (((fit_iff m).mp hfit).2.1 i (by rw [HN.out]; exact hi))
                rw [HX.out, HNX.out] at hh
                unfold infB at hh
                simp only [Bool.and_eq_true, decide_eq_true_eq] at hh
                try have hyy := HY.out
                omega)]
              rfl
            have d9 : decide (1125899906842625 < x.to_) = false := by simp [q9]
            by_cases q10 : x.bytes < 0
            · have d10 : decide (x.bytes < 0) = true := by simp [q10]
              go_region
              go_wp2_with fail
              go_ret
              refine ⟨?_, HF5.out.below.drew⟩
              rw [fit_false (fun hfit => by
                have hh := HGOOD.out.mp (((fit_iff m).mp hfit).2.1 i (by rw [HN.out]; exact hi))
                rw [HX.out, HNX.out] at hh
                unfold infB at hh
                simp only [Bool.and_eq_true, decide_eq_true_eq] at hh
                try have hyy := HY.out
                omega)]
              rfl
            have d10 : decide (x.bytes < 0) = false := by simp [q10]
            go_region
            go_wp2_with fail
            go_roundg (gk - 1)
            case measure => have := HIG.out; omega
            case rel =>
              refine ⟨i + 1, by have := HIG.out; omega, by go_num, HF5.out.drew, fun j hj => ?_⟩
              rcases Nat.lt_or_ge j i with h | h
              · exact HGD.out j h
              · obtain rfl : j = i := by omega
                refine HGOOD.out.mpr ?_
                rw [HX.out, HNX.out]
                unfold infB
                simp only [Bool.and_eq_true, decide_eq_true_eq]
                try have hyy := HY.out
                omega
          · have d3 : decide ((0 : Int) < (i : Int)) = false := by simp; omega
            by_cases q5 : x.res < 0
            · have d5 : decide (x.res < 0) = true := by simp [q5]
              go_region
              go_wp2_with fail
              go_ret
              refine ⟨?_, HF5.out.below.drew⟩
              rw [fit_false (fun hfit => by
                have hh := HGOOD.out.mp (((fit_iff m).mp hfit).2.1 i (by rw [HN.out]; exact hi))
                rw [HX.out, HNX.out] at hh
                unfold infB at hh
                simp only [Bool.and_eq_true, decide_eq_true_eq] at hh
                try have hyy := HY.out
                omega)]
              rfl
            have d5 : decide (x.res < 0) = false := by simp [q5]
            by_cases q6 : 3 ≤ x.res
            · have d6 : decide (3 ≤ x.res) = true := by simp [q6]
              go_region
              go_wp2_with fail
              go_ret
              refine ⟨?_, HF5.out.below.drew⟩
              rw [fit_false (fun hfit => by
                have hh := HGOOD.out.mp (((fit_iff m).mp hfit).2.1 i (by rw [HN.out]; exact hi))
                rw [HX.out, HNX.out] at hh
                unfold infB at hh
                simp only [Bool.and_eq_true, decide_eq_true_eq] at hh
                try have hyy := HY.out
                omega)]
              rfl
            have d6 : decide (3 ≤ x.res) = false := by simp [q6]
            by_cases q7 : x.frm < 0
            · have d7 : decide (x.frm < 0) = true := by simp [q7]
              go_region
              go_wp2_with fail
              go_ret
              refine ⟨?_, HF5.out.below.drew⟩
              rw [fit_false (fun hfit => by
                have hh := HGOOD.out.mp (((fit_iff m).mp hfit).2.1 i (by rw [HN.out]; exact hi))
                rw [HX.out, HNX.out] at hh
                unfold infB at hh
                simp only [Bool.and_eq_true, decide_eq_true_eq] at hh
                try have hyy := HY.out
                omega)]
              rfl
            have d7 : decide (x.frm < 0) = false := by simp [q7]
            by_cases q8 : x.to_ ≤ x.frm
            · have d8 : decide (x.to_ ≤ x.frm) = true := by simp [q8]
              go_region
              go_wp2_with fail
              go_ret
              refine ⟨?_, HF5.out.below.drew⟩
              rw [fit_false (fun hfit => by
                have hh := HGOOD.out.mp (((fit_iff m).mp hfit).2.1 i (by rw [HN.out]; exact hi))
                rw [HX.out, HNX.out] at hh
                unfold infB at hh
                simp only [Bool.and_eq_true, decide_eq_true_eq] at hh
                try have hyy := HY.out
                omega)]
              rfl
            have d8 : decide (x.to_ ≤ x.frm) = false := by simp [q8]
            by_cases q9 : 1125899906842625 < x.to_
            · have d9 : decide (1125899906842625 < x.to_) = true := by simp [q9]
              go_region
              go_wp2_with fail
              go_ret
              refine ⟨?_, HF5.out.below.drew⟩
              rw [fit_false (fun hfit => by
                have hh := HGOOD.out.mp (((fit_iff m).mp hfit).2.1 i (by rw [HN.out]; exact hi))
                rw [HX.out, HNX.out] at hh
                unfold infB at hh
                simp only [Bool.and_eq_true, decide_eq_true_eq] at hh
                try have hyy := HY.out
                omega)]
              rfl
            have d9 : decide (1125899906842625 < x.to_) = false := by simp [q9]
            by_cases q10 : x.bytes < 0
            · have d10 : decide (x.bytes < 0) = true := by simp [q10]
              go_region
              go_wp2_with fail
              go_ret
              refine ⟨?_, HF5.out.below.drew⟩
              rw [fit_false (fun hfit => by
                have hh := HGOOD.out.mp (((fit_iff m).mp hfit).2.1 i (by rw [HN.out]; exact hi))
                rw [HX.out, HNX.out] at hh
                unfold infB at hh
                simp only [Bool.and_eq_true, decide_eq_true_eq] at hh
                try have hyy := HY.out
                omega)]
              rfl
            have d10 : decide (x.bytes < 0) = false := by simp [q10]
            go_region
            go_wp2_with fail
            go_roundg (gk - 1)
            case measure => have := HIG.out; omega
            case rel =>
              refine ⟨i + 1, by have := HIG.out; omega, by go_num, HF5.out.drew, fun j hj => ?_⟩
              rcases Nat.lt_or_ge j i with h | h
              · exact HGD.out j h
              · obtain rfl : j = i := by omega
                refine HGOOD.out.mpr ?_
                rw [HX.out, HNX.out]
                unfold infB
                simp only [Bool.and_eq_true, decide_eq_true_eq]
                try have hyy := HY.out
                omega
        · have el : decide ((i : Int) < (n : Int)) = false := by simp; omega
          have hi3 : i = n := by have := HIG.out; omega
          subst hi3
          go_wp2_with fail
          go_meet
          exact ⟨HF2.out, HGD.out⟩
    case rest =>
      obtain ⟨hf, hg⟩ := hcut
      obtain ⟨w4, rfl⟩ : ∃ x, x = wc := ⟨_, rfl⟩
      have HF4 := Lib.hid hf
      have HGD := Lib.hid hg
      clear hf hg mb'
      have m3 : w4.cell? ⟨w.heap.size, 3, none⟩ = some (.int .i64 m.next) := HF4.out.blk.cell 3
      have m4 : w4.cell? ⟨w.heap.size, 4, none⟩ = some (.int .i64 m.log) := HF4.out.blk.cell 4
      obtain ⟨nx, hnx⟩ : ∃ v, m.next = v := ⟨_, rfl⟩
      obtain ⟨lg, hlg⟩ : ∃ v, m.log = v := ⟨_, rfl⟩
      have HNX := Lib.hid hnx
      have HLG := Lib.hid hlg
      rw [hnx] at m3
      rw [hlg] at m4
      clear hnx hlg
      go_upto_region 14 with fail
      by_cases q1 : 1 ≤ min nx lg
      · have d1 : decide (1 ≤ min nx lg) = true := by simp only [decide_eq_true_eq]; exact q1
        go_wp2_with fail
        go_ret
        refine ⟨?_, HF4.out.below⟩
        have hb : m.fit = decide (max nx lg ≤ 99999999) := by
          rw [Bool.eq_iff_iff, fit_iff, HNX.out, HLG.out, HN.out, decide_eq_true_eq]
          exact ⟨fun h => by omega, fun h => ⟨HT.out, by have := HGD.out; rwa [HNX.out] at this, by omega⟩⟩
        rw [hb]
        rfl
      · have d1 : decide (1 ≤ min nx lg) = false := by simp only [decide_eq_false_iff_not]; exact q1
        go_wp2_with fail
        go_ret
        refine ⟨?_, HF4.out.below⟩
        rw [fit_false (fun hfit => by
          have := ((fit_iff m).mp hfit).2.2
          rw [HNX.out, HLG.out] at this
          omega)]
        rfl
end Go.Proofs.YtfpgbhimgfdddaaGreatDoor

/- The walk of layer 20 (store): Encode$1, which puts numbers. -/
namespace Go.Proofs.YtfpgbhimgfdddaaGreatDoor
open Go.RowKit Go.Shelf Go.Sort
attribute [local go_sem ↓] Go.wp_at_zero Go.wp_at_succ
attribute [local go_sem] Later.cell Later.frozen

theorem i64_len (v : Int) : (intT v).length ≤ 11 := (uintT_len _).2
theorem i64s_len : ∀ l : List Int, (l.flatMap intT).length ≤ 11 * l.length
  | [] => by simp
  | v :: l => by
    have h1 := i64_len v
    have h2 := i64s_len l
    simp only [List.flatMap_cons, List.length_append, List.length_cons]
    omega
def intsV (vs : List Int) : Array Value := (vs.map (Value.int .i64)).toArray
theorem take_ints {vs : List Int} {i : Nat} (hi : i < vs.length) : (vs.take (i + 1)).flatMap intT = (vs.take i).flatMap intT ++ intT vs[i]! := by
  rw [List.take_succ_eq_append_getElem hi, List.flatMap_append, getElem!_pos vs i hi]
  simp
theorem Others.trans {b : Nat} {w w1 w2 : World} (h : Others b w w1) (h2 : Others b w1 w2) : Others b w w2 := fun g o hg hn hr => h2 g o (h g o hg hn hr) hn hr
theorem Others.of_below {b : Nat} {w w1 : World} (h : Below w.heap.size w w1) : Others b w w1 := fun g o hg _ _ => (h.block g (Array.getElem?_eq_some_iff.1 hg).1).trans hg
set_option maxRecDepth 100000 in
set_option maxHeartbeats 4000000 in
theorem put_calls (B b g : Nat) (l : List UInt8) (vs : List Int) (w : World) (hbld : Bld B b l w) (hg : Blk w g 2 (intsV vs)) (hgb : g ≠ b) (hvs : ∀ v ∈ vs, -9223372036854775808 ≤ v ∧ v ≤ 9223372036854775807)
    (hlen : l.length + 11 * vs.length ≤ 140737488355328) (hBw : B ≤ w.heap.size) :
    Calls Tryz.prog 46 #[.slice (some ⟨g, 0, none⟩) vs.length vs.length, .pointer (some ⟨b, 0, none⟩)] w fun e w' =>
      e = .returned (.tuple #[]) ∧ Bld B b (l ++ vs.flatMap intT) w' ∧ Below B w w' ∧ Others b w w' := by
  obtain ⟨n, hn⟩ : ∃ n, vs.length = n := ⟨_, rfl⟩
  have HN := Lib.hid hn
  rw [hn] at hlen ⊢
  have HG := Lib.hid hg
  have HV := Lib.hid hvs
  have HB := Lib.hid hbld
  have HGB := Lib.hid hgb
  clear hn hg hvs hbld hgb
  go_enter Tryz.func46, Tryz.ntmps46
  go_wp2_with fail
  go_loopg [7] n (fun k s7 wr => ∃ i : Nat, i + k = n ∧ s7 = .int .i64 (i : Int) ∧ Bld B b (l ++ (vs.take i).flatMap intT) wr ∧ Below B w wr ∧ Others b w wr)
  case atStart => exact ⟨0, by omega, rfl, by simpa using HB.out, Below.refl _ _, Others.of_below (Below.refl _ _)⟩
  case round =>
    obtain ⟨i, hig, rfl, hb, hbe, ho⟩ := hrel
    have HIG := Lib.hid hig
    have HBL := Lib.hid hb
    have HBE := Lib.hid hbe
    have HO := Lib.hid ho
    clear hig hb hbe ho
    by_cases hi : i < n
    · have el : decide ((i : Int) < (n : Int)) = true := by simp; omega
      have e0 : (i : Int) < (n : Int) := by omega
      have e1 : (0 : Int) ≤ (i : Int) := by omega
      have hil : i < vs.length := by rw [HN.out]; exact hi
      have hgr : Blk wr g 2 (intsV vs) := HO.out.blk HG.out HGB.out (by decide)
      have m0 : wr.cell? ⟨g, i, none⟩ = some (.int .i64 vs[i]!) := by
        rw [hgr.cell i]
        simp [intsV, hil]
      have hv := HV.out vs[i]! (by rw [getElem!_pos vs i hil]; exact List.getElem_mem hil)
      have HT := Lib.hid (take_ints hil)
      have hl1 := i64_len vs[i]!
      have hl2 := i64s_len (vs.take i)
      rw [List.length_take, HN.out] at hl2
      obtain ⟨v, hve⟩ : ∃ v, vs[i]! = v := ⟨_, rfl⟩
      rw [hve] at m0 hv hl1 HT
      clear hgr hve hil
      go_wp2_with fail
      refine (int_calls v hv.1 hv.2 wr).mono ?_
      rintro e w1 ⟨rfl, hb1⟩
      have HB1 := Lib.hid (HBL.out.below hb1)
      have HE1 := Lib.hid (HBE.out.trans (hb1.mono (by have := HBE.out.size; omega)))
      have HO1 := Lib.hid (HO.out.trans (Others.of_below hb1))
      clear hb1
      go_wp2_with fail
      refine (wstring_calls B b _ ⟨(intT v).toArray⟩ w1 HB1.out (by simp only [List.length_append]; show _ + (intT v).toArray.size ≤ _; simp only [List.size_toArray]; omega) (by have := HE1.out.size; omega)).mono ?_
      rintro e w2 ⟨rfl, hb2, hbe2, ho2⟩
      have HB2 := Lib.hid hb2
      have HE2 := Lib.hid (HE1.out.trans hbe2)
      have HO2 := Lib.hid (HO1.out.trans ho2)
      clear hb2 hbe2 ho2
      go_wp2_with fail
      go_roundg (gk - 1)
      case measure => have := HIG.out; omega
      case rel => exact ⟨i + 1, by have := HIG.out; omega, by go_num, by rw [HT.out, ← List.append_assoc]; exact HB2.out, HE2.out, HO2.out⟩
    · have el : decide ((i : Int) < (n : Int)) = false := by simp; omega
      have hi3 : i = n := by have := HIG.out; omega
      subst hi3
      go_wp2_with fail
      go_end0
      refine ⟨rfl, ?_, HBE.out, HO.out⟩
      have := HBL.out
      rwa [← HN.out, List.take_length] at this
end Go.Proofs.YtfpgbhimgfdddaaGreatDoor
