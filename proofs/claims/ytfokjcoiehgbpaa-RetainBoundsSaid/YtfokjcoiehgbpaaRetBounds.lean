/- The walk of RetainBounds: it answers true. -/
import Derived.Test.YtfokjcoiehgbpaaRetAgain
import Derived.Test.YtfokjcoiehgbpaaRetPlain3
namespace Go.Proofs.Ytfokjcoiehgbpaa
open Go.RowKit
attribute [local go_sem ↓] Go.wp_at_zero Go.wp_at_succ
attribute [local go_sem] Later.cell Later.frozen

set_option maxHeartbeats 4000000 in
set_option maxRecDepth 100000 in
theorem retainBounds_calls (p : Pol) (now : Int) (M : Man) (A : Option Addr) (n c : Nat) (xs : List Info) (w : World) (hn : n * 40 ≤ 140737488351232)
    (hk0 : -9223372036854775808 ≤ p.k0) (hk1 : -9223372036854775808 ≤ p.k1) (hk2 : -9223372036854775808 ≤ p.k2) (hnow : -9223372036854775808 ≤ now)
    (hX : Elems w w.heap.size 5 Info.enc A n xs) :
    Calls Try.prog 4 #[p.val, .int .i64 now, M.val (.slice A n c)] w fun e w' => e = .returned (.bool true) ∧ Below w.heap.size w w' := by
  have hxl := Lib.hid hX.1
  have heq := arr3_eq
  obtain ⟨i0, hi0, hz0, hz1, hz2⟩ := info_parts info_info
  go_enter Try.func4, Try.ntmps4
  go_upto_region 0 with fail
  go_cut [3, 5, 6] (fun s3 s5 s6 wx => ∃ B, B = w.heap.size ∧ s3 = .pointer (some ⟨B, 0, none⟩) ∧ s5 = .pointer (some ⟨B + 1, 0, none⟩) ∧ s6 = .bool false ∧ TwoMem w wx B p M A n c xs)
  case first =>
    go_wp2_with fail
    go_meet
    exact ⟨_, rfl, rfl, rfl, rfl, { below := by go_grown, size := by simp, pol := (Blk.newAt rfl).alloc _, man := Blk.newAt (by simp), arg := hX.below (by go_grown) }⟩
  case rest =>
    obtain ⟨B, hB, rfl, rfl, rfl, hL⟩ := hcut
    obtain ⟨wx, rfl⟩ : ∃ wx, wx = wc := ⟨_, rfl⟩
    have HB := Lib.hid hB
    clear hB
    have hz := hL.size
    go_wp2_with fail
    refine (wakes_calls _).mono ?_
    rintro e w1 ⟨rfl, hb1⟩
    have hL1 := hL.later hb1
    have mc := hL1.man.cell
    simp only [Man.cells] at mc
    have hz1' := hL1.size
    go_wp2_with fail
    refine (ref_calls M A n c xs _ (by omega) (hL1.arg.more (by omega))).mono ?_
    rintro e w2 ⟨A8, c8, rfl, hE8, hb2⟩
    go_wp2_with fail
    refine (fit_calls M A8 n c8 xs _ (by omega) hE8).mono ?_
    rintro e w3 ⟨r, rfl, hr, hb3⟩
    have hL3 := (hL1.later hb2).later hb3
    clear hL hL1 hb1 hb2 hb3 hE8 mc hz hz1'
    cases r with
    | false =>
      clear hr
      go_wp2_with fail
      refine (wakes_calls _).mono ?_
      rintro e w4 ⟨rfl, hb4⟩
      go_wp2
      go_ret
      exact ⟨rfl, HB.out ▸ (hL3.later hb4).below⟩
    | true =>
      have hfit := hr rfl
      have HFIT := Lib.hid hfit
      clear hr hfit
      have hxn := hxl.out
      obtain ⟨lo, gs, lo0, gs0, hdec, hlo0, h3, hgone, hgone0, hge, hsame, hend⟩ := bounds_facts p.keeps p.size now M.w0 M.low HFIT.out
      obtain ⟨l0, l1, l2, rfl⟩ : ∃ l0 l1 l2, lo = [l0, l1, l2] := by
        match lo, h3 with
        | [a, b, c], _ => exact ⟨a, b, c, rfl⟩
      have hil := idsTo_le xs gs n
      rw [hxn] at hdec hsame hend
      have HDEC := Lib.hid hdec
      have HXN := Lib.hid hxn
      have HG := Lib.hid hgone
      have HG0 := Lib.hid hgone0
      have HGE := Lib.hid hge
      have HSAME := Lib.hid hsame
      have HEND := Lib.hid hend
      have HLO := Lib.hid hlo0
      clear hdec hxn hgone hgone0 hge hsame hend h3 hlo0
      have pc := hL3.pol.cell
      have mc := hL3.man.cell
      have hz := hL3.size
      simp only [Man.cells] at mc
      go_upto_region 3 with fail
      go_cut [7, 8] (fun s7 s8 wy => ∃ L1 A9 c9, s7 = .pointer (some ⟨L1, 0, none⟩) ∧ s8 = .slice A9 (idsTo xs gs n).length c9 ∧ TwoMem w wy B p M A n c xs ∧ Blk wy L1 22 #[.int .i64 l0, .int .i64 l1, .int .i64 l2] ∧ Elems wy wy.heap.size 1 I1 A9 (idsTo xs gs n).length (idsTo xs gs n))
      case first =>
        go_wp2_with fail
        refine (decide_calls_eq _ p now M A n c xs _ HDEC.out (by omega) hk0 hk1 hk2 hnow (hL3.arg.more (by omega))).mono ?_
        rintro e w4 ⟨A9, c9, rfl, hE9, hb9, _, _⟩
        dsimp only [List.getD_cons_zero, List.getD_cons_succ] at hE9 ⊢
        clear pc mc
        go_wp2_with fail
        go_meet
        exact ⟨_, A9, c9, rfl, rfl, (hL3.later hb9).later (by go_grown), Blk.newAt rfl, (hE9.below (by go_grown)).more (by simp)⟩
      case rest =>
        obtain ⟨L1, A9, c9, rfl, rfl, hL4, hlow4, hE9⟩ := hcut
        obtain ⟨wy, rfl⟩ : ∃ wy, wy = wc := ⟨_, rfl⟩
        clear pc mc hz hL3
        have m5 : wy.cell? ⟨B + 1, 5, none⟩ = some (.slice A n c) := hL4.man.cell 5
        have z0 : ((0 : Nat) : Int) = 0 := rfl
        go_wp2_with fail
        go_loopg [9, 10, 11, 12, 37] n (fun gk s9 s10 s11 s12 i wr => ∃ k : Nat, k + gk = n ∧ i = .int .i64 k ∧ s9 = .int .i64 (idsTo xs gs k).length ∧ s10 = .int .i64 (sumB (keptTo xs gs k)) ∧ s11 = .int .i64 (keptTo xs gs k).length ∧ s12 = .int .i64 (sumB (keptTo xs gs0 k)) ∧
          TwoMem w wr B p M A n c xs ∧ Blk wr L1 22 #[.int .i64 l0, .int .i64 l1, .int .i64 l2] ∧ Elems wr wr.heap.size 1 I1 A9 (idsTo xs gs n).length (idsTo xs gs n))
        case atStart => exact ⟨0, by omega, rfl, rfl, rfl, rfl, rfl, hL4, hlow4, hE9⟩
        case round =>
          obtain ⟨k, hk, rfl, rfl, rfl, rfl, rfl, hR, hlowr, hEr⟩ := hrel
          have HK := Lib.hid hk
          have hkn : k ≤ n := by omega
          have hzr := hR.size
          clear m5
          by_cases hlt : k < n
          · obtain ⟨m, rfl⟩ : ∃ m, gk = m + 1 := ⟨gk - 1, by omega⟩
            obtain ⟨b, off, rfl, hbB, hcell⟩ := hR.arg.2 (by omega)
            have hxn := HXN.out
            obtain ⟨x, hx⟩ : ∃ x, xs[k]? = some x := ⟨_, List.getElem?_eq_getElem (by omega)⟩
            have hxD : xs.getD k Info.zero = x := by simp [List.getD, hx]
            have q0 := hcell k x hx 0 _ rfl
            have q1 := hcell k x hx 1 _ rfl
            have q2 := hcell k x hx 2 _ rfl
            have q3 := hcell k x hx 3 _ rfl
            have q4 := hcell k x hx 4 _ rfl
            simp only [Nat.add_zero] at q0
            have zb : b < wr.heap.size := lt_of_cell q0
            have q5 : wr.cell? ⟨B + 1, 5, none⟩ = some (.slice (some ⟨b, off, none⟩) n c) := hR.man.cell 5
            have z1 : B + 1 < wr.heap.size := by omega
            by_cases hbig : 1099511627776 < x.bytes
            · clear hcell hx hxD hxn hk
              go_wp2
              go_ret
              exact ⟨rfl, HB.out ▸ hR.below.alloc (by omega) _⟩
            by_cases hmany : 65536 < n
            · clear hcell hx hxD hxn hk
              have hmi : (65536 : Int) < (n : Int) := by omega
              go_wp2
              go_ret
              exact ⟨rfl, HB.out ▸ hR.below.alloc (by omega) _⟩
            · have hok := HFIT.out.1 k x (by omega) hx
              obtain ⟨_, hr0, hr2, _⟩ := hok
              have hr3 : x.res < 3 := by omega
              obtain ⟨rr, hrr⟩ : ∃ rr, x.res.toNat = rr := ⟨_, rfl⟩
              have c3 : rr = 0 ∨ rr = 1 ∨ rr = 2 := by omega
              obtain ⟨ml, hml⟩ : ∃ v, M.low.getD rr 0 = v := ⟨_, rfl⟩
              obtain ⟨kp, hkp⟩ : ∃ v, p.keeps.getD rr 0 = v := ⟨_, rfl⟩
              obtain ⟨lv, hlv⟩ : ∃ v, ([l0, l1, l2] : List Int).getD rr 0 = v := ⟨_, rfl⟩
              obtain ⟨bd, hbd⟩ : ∃ v, boundOf kp now M.w0 = v := ⟨_, rfl⟩
              have hbv : lo0.getD rr 0 = max ml bd := by rw [HLO.out, lowInit_get _ _ _ _ (by omega), hml, hkp, hbd]
              have e1 : wr.cell? ⟨B + 1, 10 + rr, none⟩ = some (.int .i64 ml) := by
                rw [hR.man.cell, ← hml]
                rcases c3 with rfl | rfl | rfl <;> rfl
              have e2 : wr.cell? ⟨B, rr, none⟩ = some (.int .i64 kp) := by
                rw [hR.pol.cell, ← hkp]
                rcases c3 with rfl | rfl | rfl <;> rfl
              have e3 : wr.cell? ⟨L1, rr, none⟩ = some (.int .i64 lv) := by
                rw [hlowr.cell, ← hlv]
                rcases c3 with rfl | rfl | rfl <;> rfl
              have e4 : wr.cell? ⟨B + 1, 0, none⟩ = some (.int .i64 M.w0) := hR.man.cell 0
              have hkb : -9223372036854775808 ≤ kp := by
                rw [← hkp]
                rcases c3 with rfl | rfl | rfl <;> assumption
              rw [← hrr] at e1 e2 e3
              have hg := HG.out k x hx
              have hg0 := HG0.out k x hx
              rw [hrr, hlv] at hg
              rw [hrr, hbv] at hg0
              have zL := hlowr.lt
              have zB : B < wr.heap.size := by omega
              have hids := idsTo_from xs gs (m + 1) k
              rw [show k + (m + 1) = n by omega] at hids
              have hids1 : idsTo xs gs (k + 1) = if gs.getD k false then idsTo xs gs k ++ [x.id] else idsTo xs gs k := by rw [idsTo, hxD]
              have hfr : idsFrom xs gs k (m + 1) = if gs.getD k false then x.id :: idsFrom xs gs (k + 1) m else idsFrom xs gs (k + 1) m := by rw [idsFrom, hxD]
              have hkp1 : keptTo xs gs (k + 1) = if gs.getD k false then keptTo xs gs k else keptTo xs gs k ++ [x] := by rw [keptTo, hxD]
              have hkp0 : keptTo xs gs0 (k + 1) = if gs0.getD k false then keptTo xs gs0 k else keptTo xs gs0 k ++ [x] := by rw [keptTo, hxD]
              have hgt := idsFrom_gt HFIT.out gs hx m (k + 1) (by omega) (by omega)
              have hkl := keptTo_le xs gs k
              have hik := idsTo_le xs gs k
              rw [hg] at hids1 hfr hkp1
              rw [hg0] at hkp0
              have HIDS := Lib.hid hids
              have HIDS1 := Lib.hid hids1
              have HFR := Lib.hid hfr
              have HKP1 := Lib.hid hkp1
              have HKP0 := Lib.hid hkp0
              have HGT := Lib.hid hgt
              have HBD := Lib.hid hbd
              have HX := Lib.hid hx
              have HRR := Lib.hid hrr
              have hmn : (n : Int) ≤ 65536 := by omega
              clear hids hids1 hfr hkp1 hkp0 hgt hbd hbv hg hg0 hml hkp hlv hrr c3 hcell hx hxD hxn hk
              generalize keptTo xs gs k = ks at *
              generalize keptTo xs gs0 k = ks0 at *
              generalize idsTo xs gs k = is at *
              generalize idsTo xs gs n = ids at *
              go_upto_region 10 with fail
              go_cut [15] (fun s15 wq => s15 = .int .i64 (max ml bd) ∧ Below wr.heap.size wr wq ∧ wr.heap.size < wq.heap.size ∧ Blk wq wr.heap.size 39 #[.int .i64 x.id, .int .i64 x.res, .int .i64 x.frm, .int .i64 x.to_, .int .i64 x.bytes])
              case first =>
                by_cases hmx : ml < bd
                all_goals
                  refine wp_region_later (by kernel_rfl) (by kernel_rfl) ?_
                  repeat (go_big_quiet_step (((first | (go_at_call 11; exact quiet_same _ (refBound_calls_eq _ _ _ _ HBD.out _ hkb hnow))))))
                  refine wpQuiet_nil ?_
                  rintro w2 ⟨⟨_, hb2⟩, rfl⟩
                  go_wp2_with fail
                  go_meet
                  refine ⟨vi (by omega), then_ (by go_grown) hb2, by have := hb2.size; simp at this; omega, (Blk.newAt rfl : Blk (wr.alloc _) _ _ _).below hb2 (by simp)⟩
              case rest =>
                obtain ⟨rfl, hbq, hzq, hbx⟩ := hcut
                obtain ⟨wq, rfl⟩ : ∃ wq, wq = wc := ⟨_, rfl⟩
                generalize max ml bd = bv at *
                have x0q : wq.cell? ⟨wr.heap.size, 0, none⟩ = some (.int .i64 x.id) := hbx.cell 0
                have x1q : wq.cell? ⟨wr.heap.size, 1, none⟩ = some (.int .i64 x.res) := hbx.cell 1
                have x3q : wq.cell? ⟨wr.heap.size, 3, none⟩ = some (.int .i64 x.to_) := hbx.cell 3
                have x4q : wq.cell? ⟨wr.heap.size, 4, none⟩ = some (.int .i64 x.bytes) := hbx.cell 4
                have e3q := later hbq e3
                have zLq := lt_of_cell e3q
                dsimp only at zLq
                clear q0 q1 q2 q3 q4 q5 e1 e2 e3 e4
                go_upto_if 69 with fail
                go_cut [12] (fun s12 w6 => s12 = .int .i64 (sumB (keptTo xs gs0 (k + 1))) ∧ w6 = wq)
                case first =>
                  by_cases hb0 : x.to_ ≤ bv
                  · go_wp2_with fail
                    go_meet
                    exact ⟨vi (by rw [HKP0.out]; simp [hb0]), rfl⟩
                  · go_wp2_with fail
                    go_meet
                    exact ⟨vi (by rw [HKP0.out, if_neg (by simp; omega), sumB_snoc]), rfl⟩
                case rest =>
                  obtain ⟨rfl, rfl⟩ := hcut
                  obtain ⟨sall, hsall⟩ : ∃ v, sumB (keptTo xs gs0 (k + 1)) = v := ⟨_, rfl⟩
                  rw [hsall]
                  have HSALL := Lib.hid hsall
                  clear hsall
                  by_cases hgl : x.to_ ≤ lv
                  · have hfr := HFR.out
                    rw [decide_eq_true hgl] at hfr
                    simp only [if_true] at hfr
                    have hids := HIDS.out
                    rw [hfr] at hids
                    have hget : ids[is.length]? = some x.id := by rw [hids]; simp
                    have hil2 : is.length < ids.length := by rw [hids]; simp
                    obtain ⟨b9, o9, rfl, hb9, hc9⟩ := hEr.2 (by omega)
                    have r9 : wc.cell? ⟨b9, o9 + is.length, none⟩ = some (.int .i64 x.id) := later hbq (by simpa using hc9 is.length x.id hget 0 _ rfl)
                    have z9 := lt_of_cell r9
                    dsimp only at z9
                    clear hfr hids hget hc9
                    have hil3 : (is.length : Int) < (ids.length : Int) := by omega
                    have hil4 : (0 : Int) ≤ (is.length : Int) := by omega
                    go_wp2_with fail
                    refine wp_region_later (by kernel_rfl) (by kernel_rfl) ?_
                    repeat (go_big_quiet_step (fail))
                    refine wpQuiet_nil ?_
                    rintro w7 ⟨⟨_, h7⟩, rfl⟩
                    have bW7 := then_ hbq h7
                    have y1 := later h7 x1q
                    have y3 := later h7 x3q
                    have e37 := later h7 e3q
                    have z7 := lt_of_cell y1
                    have zL7 := lt_of_cell e37
                    dsimp only at z7 zL7
                    go_wp2_with fail
                    refine wp_region_later (by kernel_rfl) (by kernel_rfl) ?_
                    repeat (go_big_quiet_step (fail))
                    refine wpQuiet_nil ?_
                    rintro w8 ⟨⟨_, h8⟩, rfl⟩
                    have bW8 := then_ bW7 h8
                    go_wp2
                    go_roundg m
                    case measure => omega
                    case rel =>
                      refine ⟨k + 1, by have := HK.out; omega, by go_num, ?_, ?_, ?_, vi HSALL.out.symm, hR.later bW8, hlowr.below bW8 zL, (hEr.below bW8).more bW8.size⟩
                      · rw [HIDS1.out]; simp [hgl]
                      · rw [HKP1.out]; simp [hgl]
                      · rw [HKP1.out]; simp [hgl]
                  · have hfr := HFR.out
                    rw [decide_eq_false hgl] at hfr
                    simp only [Bool.false_eq_true, if_false] at hfr
                    have hids := HIDS.out
                    rw [hfr] at hids
                    have hgt := HGT.out
                    generalize idsFrom xs gs (k + 1) m = T at hids hgt
                    clear hfr
                    cases T with
                    | nil =>
                      have hil2 : is.length = ids.length := by rw [hids]; simp
                      have hil3 : decide (is.length < ids.length) = false := by simp; omega
                      have hil4 : ¬ ((is.length : Int) < (ids.length : Int)) := by omega
                      have HI2 := Lib.hid hil2
                      clear hids hgt hil2
                      go_wp2_with fail
                      refine wp_region_later (by kernel_rfl) (by kernel_rfl) ?_
                      repeat (go_big_quiet_step (fail))
                      refine wpQuiet_nil ?_
                      rintro w7 ⟨⟨_, h7⟩, rfl⟩
                      have bW7 := then_ hbq h7
                      have y1 := later h7 x1q
                      have y3 := later h7 x3q
                      have y4 := later h7 x4q
                      have e37 := later h7 e3q
                      have z7 := lt_of_cell y1
                      have zL7 := lt_of_cell e37
                      dsimp only at z7 zL7
                      go_wp2_with fail
                      refine wp_region_later (by kernel_rfl) (by kernel_rfl) ?_
                      repeat (go_big_quiet_step (fail))
                      refine wpQuiet_nil ?_
                      rintro w8 ⟨⟨_, h8⟩, rfl⟩
                      have bW8 := then_ bW7 h8
                      have y48 := later h8 y4
                      go_wp2
                      go_roundg m
                      case measure => omega
                      case rel =>
                        refine ⟨k + 1, by have := HK.out; omega, by go_num, ?_, ?_, ?_, vi HSALL.out.symm, hR.later bW8, hlowr.below bW8 zL, (hEr.below bW8).more bW8.size⟩
                        · rw [HIDS1.out, if_neg (by simp; omega)]
                        · rw [HKP1.out]; rw [if_neg (by simp; omega), sumB_snoc]
                        · rw [HKP1.out, if_neg (by simp; omega)]; simp
                    | cons h T =>
                      have hget : ids[is.length]? = some h := by rw [hids]; simp
                      have hil2 : is.length < ids.length := by rw [hids]; simp
                      have hne : (h == x.id) = false := by
                        have := hgt h (by simp)
                        rw [beq_eq_false_iff_ne]; omega
                      obtain ⟨b9, o9, rfl, hb9, hc9⟩ := hEr.2 (by omega)
                      have r9 : wc.cell? ⟨b9, o9 + is.length, none⟩ = some (.int .i64 h) := later hbq (by simpa using hc9 is.length h hget 0 _ rfl)
                      have z9 := lt_of_cell r9
                      dsimp only at z9
                      clear hids hget hc9 hgt
                      have hil3 : (is.length : Int) < (ids.length : Int) := by omega
                      have hil4 : (0 : Int) ≤ (is.length : Int) := by omega
                      go_wp2_with fail
                      refine wp_region_later (by kernel_rfl) (by kernel_rfl) ?_
                      repeat (go_big_quiet_step (fail))
                      refine wpQuiet_nil ?_
                      rintro w7 ⟨⟨_, h7⟩, rfl⟩
                      have bW7 := then_ hbq h7
                      have y1 := later h7 x1q
                      have y3 := later h7 x3q
                      have y4 := later h7 x4q
                      have e37 := later h7 e3q
                      have z7 := lt_of_cell y1
                      have zL7 := lt_of_cell e37
                      dsimp only at z7 zL7
                      go_wp2_with fail
                      refine wp_region_later (by kernel_rfl) (by kernel_rfl) ?_
                      repeat (go_big_quiet_step (fail))
                      refine wpQuiet_nil ?_
                      rintro w8 ⟨⟨_, h8⟩, rfl⟩
                      have bW8 := then_ bW7 h8
                      have y48 := later h8 y4
                      go_wp2
                      go_roundg m
                      case measure => omega
                      case rel =>
                        refine ⟨k + 1, by have := HK.out; omega, by go_num, ?_, ?_, ?_, vi HSALL.out.symm, hR.later bW8, hlowr.below bW8 zL, (hEr.below bW8).more bW8.size⟩
                        · rw [HIDS1.out, if_neg (by simp; omega)]
                        · rw [HKP1.out]; rw [if_neg (by simp; omega), sumB_snoc]
                        · rw [HKP1.out, if_neg (by simp; omega)]; simp
          · obtain rfl : k = n := by omega
            clear hk
            have hend := HEND.out
            have hsame := HSAME.out
            have hkl := keptTo_le xs gs k
            generalize sumB (keptTo xs gs k) = sby at *
            generalize sumB (keptTo xs gs0 k) = sal at *
            generalize (keptTo xs gs k).length = cnt at *
            have HEND' := Lib.hid hend
            have HSAME' := Lib.hid hsame
            clear hend hsame HEND HSAME
            go_wp2_with fail
            go_loopg [110] 3 (fun gk i wr => ∃ j : Nat, j + gk = 3 ∧ i = .int .i64 j ∧ TwoMem w wr B p M A k c xs ∧ Blk wr L1 22 #[.int .i64 l0, .int .i64 l1, .int .i64 l2])
            case atStart => exact ⟨0, rfl, rfl, hR, hlowr⟩
            case round =>
              obtain ⟨rr, hk, rfl, hS, hlows⟩ := hrel
              have HJ := Lib.hid hk
              have zs := hS.size
              have zB : B < wr.heap.size := by omega
              have z1 : B + 1 < wr.heap.size := by omega
              have zL := hlows.lt
              have p3 : wr.cell? ⟨B, 3, none⟩ = some (.int .i64 p.size) := hS.pol.cell 3
              by_cases hlt : rr < 3
              · have c3 : rr = 0 ∨ rr = 1 ∨ rr = 2 := by omega
                obtain ⟨ml, hml⟩ : ∃ v, M.low.getD rr 0 = v := ⟨_, rfl⟩
                obtain ⟨kp, hkp⟩ : ∃ v, p.keeps.getD rr 0 = v := ⟨_, rfl⟩
                obtain ⟨lv, hlv⟩ : ∃ v, ([l0, l1, l2] : List Int).getD rr 0 = v := ⟨_, rfl⟩
                obtain ⟨bd, hbd⟩ : ∃ v, boundOf kp now M.w0 = v := ⟨_, rfl⟩
                have hbv : lo0.getD rr 0 = max ml bd := by rw [HLO.out, lowInit_get _ _ _ _ (by omega), hml, hkp, hbd]
                have hge := HGE.out rr hlt
                rw [hbv, hlv] at hge
                have hsm : p.size ≤ 0 ∨ sal ≤ p.size → lv = max ml bd := fun h => by rw [← hlv, HSAME'.out h, hbv]
                have e1 : wr.cell? ⟨B + 1, 10 + rr, none⟩ = some (.int .i64 ml) := by
                  rw [hS.man.cell, ← hml]
                  rcases c3 with rfl | rfl | rfl <;> rfl
                have e2 : wr.cell? ⟨B, rr, none⟩ = some (.int .i64 kp) := by
                  rw [hS.pol.cell, ← hkp]
                  rcases c3 with rfl | rfl | rfl <;> rfl
                have e3 : wr.cell? ⟨L1, rr, none⟩ = some (.int .i64 lv) := by
                  rw [hlows.cell, ← hlv]
                  rcases c3 with rfl | rfl | rfl <;> rfl
                have e4 : wr.cell? ⟨B + 1, 0, none⟩ = some (.int .i64 M.w0) := hS.man.cell 0
                have hkb : -9223372036854775808 ≤ kp := by
                  rw [← hkp]
                  rcases c3 with rfl | rfl | rfl <;> assumption
                have hri : (0 : Int) ≤ (rr : Int) := by omega
                have hrj : (rr : Int) < 3 := by omega
                have HBD := Lib.hid hbd
                have HSM := Lib.hid hsm
                clear hbd hbv hsm hml hkp hlv c3 hk
                go_upto_region 25 with fail
                go_cut [17] (fun s17 wq => s17 = .int .i64 (max ml bd) ∧ Below wr.heap.size wr wq)
                case first =>
                  by_cases hmx : ml < bd
                  all_goals
                    refine wp_region_later (by kernel_rfl) (by kernel_rfl) ?_
                    repeat (go_big_quiet_step ((first | (go_at_call 11; exact quiet_same _ (refBound_calls_eq _ _ _ _ HBD.out _ hkb hnow)))))
                    refine wpQuiet_nil ?_
                    rintro w2 ⟨⟨_, hb2⟩, rfl⟩
                    go_wp2_with fail
                    go_meet
                    exact ⟨vi (by omega), hb2⟩
                case rest =>
                  obtain ⟨rfl, hbq⟩ := hcut
                  obtain ⟨wq, rfl⟩ : ∃ wq, wq = wc := ⟨_, rfl⟩
                  generalize max ml bd = bv at *
                  have e3q := later hbq e3
                  have p3q := later hbq p3
                  clear e1 e2 e3 e4 p3
                  by_cases s1 : p.size ≤ 0 ∨ sal ≤ p.size
                  · obtain rfl : lv = bv := HSM.out s1
                    by_cases s2 : p.size ≤ 0
                    · clear s1
                      go_wp2
                      go_roundg (gk - 1)
                      case measure => have := HJ.out; omega
                      case rel => exact ⟨rr + 1, by have := HJ.out; omega, by go_num, hS.later hbq, hlows.below hbq zL⟩
                    · have s3 : sal ≤ p.size := by omega
                      clear s1
                      go_wp2
                      go_roundg (gk - 1)
                      case measure => have := HJ.out; omega
                      case rel => exact ⟨rr + 1, by have := HJ.out; omega, by go_num, hS.later hbq, hlows.below hbq zL⟩
                  · have s2 : ¬ p.size ≤ 0 := by omega
                    have s3 : ¬ sal ≤ p.size := by omega
                    clear s1
                    go_wp2
                    go_roundg (gk - 1)
                    case measure => have := HJ.out; omega
                    case rel => exact ⟨rr + 1, by have := HJ.out; omega, by go_num, hS.later hbq, hlows.below hbq zL⟩
              · obtain rfl : rr = 3 := by omega
                clear hk
                have hend := HEND'.out
                by_cases s1 : p.size ≤ 0
                · clear hend
                  go_wp2
                  go_ret
                  exact ⟨rfl, HB.out ▸ hS.below⟩
                by_cases s2 : sby ≤ p.size
                · clear hend
                  go_wp2
                  go_ret
                  exact ⟨rfl, HB.out ▸ hS.below⟩
                · have s3 : cnt ≤ 1 := by omega
                  have s4 : (cnt : Int) ≤ 1 := by omega
                  clear hend
                  go_wp2
                  go_ret
                  exact ⟨rfl, HB.out ▸ hS.below⟩
end Go.Proofs.Ytfokjcoiehgbpaa
