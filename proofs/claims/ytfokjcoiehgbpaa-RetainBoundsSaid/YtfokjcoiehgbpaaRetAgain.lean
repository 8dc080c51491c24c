/- The walk of RetainAgain: it answers true. -/
import Derived.Test.YtfokjcoiehgbpaaRetFit
namespace Go.Proofs.Ytfokjcoiehgbpaa
open Go.RowKit
attribute [local go_sem ↓] Go.wp_at_zero Go.wp_at_succ
attribute [local go_sem] Later.cell Later.frozen

/-- What stands in memory all along in RetainAgain and RetainBounds: the policy and the manifest. -/
structure TwoMem (w wr : World) (B : Nat) (p : Pol) (M : Man) (A : Option Addr) (n c : Nat) (xs : List Info) : Prop where
  below : Below B w wr
  size : B + 2 ≤ wr.heap.size
  pol : Blk wr B 24 #[.int .i64 p.k0, .int .i64 p.k1, .int .i64 p.k2, .int .i64 p.size]
  man : Blk wr (B + 1) 27 (M.cells (.slice A n c))
  arg : Elems wr B 5 Info.enc A n xs

section
variable {w wr w2 : World} {B n c : Nat} {p : Pol} {M : Man} {A : Option Addr} {xs : List Info}
theorem TwoMem.later (h : TwoMem w wr B p M A n c xs) (hb : Below wr.heap.size wr w2) : TwoMem w w2 B p M A n c xs := by
  have hz := h.size
  have hs := hb.size
  exact { below := h.below.trans (hb.mono (by omega)), size := by omega, pol := h.pol.below hb (by omega), man := h.man.below hb (by omega), arg := h.arg.below (hb.mono (by omega)) }
theorem TwoMem.kept (h : TwoMem w wr B p M A n c xs) {ex : List Nat} {C : Nat} (hb : Kept C ex wr w2) (hC : B + 2 ≤ C) (hx : ∀ k ∈ ex, B + 2 ≤ k) : TwoMem w w2 B p M A n c xs := by
  have hz := h.size
  have hs := hb.size
  have hb' : Below (B + 2) wr w2 := (hb.mono (B' := B + 2) (ex' := ex) (by omega) (fun k _ hk => hk)).below hx
  exact { below := h.below.trans (hb'.mono (by omega)), size := by omega, pol := h.pol.below hb' (by omega), man := h.man.below hb' (by omega), arg := h.arg.below (hb'.mono (by omega)) }
end

set_option maxHeartbeats 4000000 in
set_option maxRecDepth 100000 in
theorem retainAgain_calls (p : Pol) (now : Int) (M : Man) (A : Option Addr) (n c : Nat) (xs : List Info) (w : World) (hn : n * 40 ≤ 140737488351232)
    (hk0 : -9223372036854775808 ≤ p.k0) (hk1 : -9223372036854775808 ≤ p.k1) (hk2 : -9223372036854775808 ≤ p.k2) (hnow : -9223372036854775808 ≤ now)
    (hX : Elems w w.heap.size 5 Info.enc A n xs) :
    Calls Try.prog 5 #[p.val, .int .i64 now, M.val (.slice A n c)] w fun e w' => e = .returned (.bool true) ∧ Below w.heap.size w w' := by
  have hxl := Lib.hid hX.1
  have heq := arr3_eq
  obtain ⟨i0, hi0, hz0, hz1, hz2⟩ := info_parts info_info
  go_enter Try.func5, Try.ntmps5
  go_upto_region 0 with fail
  go_cut [3, 5, 6] (fun s3 s5 s6 wx => ∃ B, B = w.heap.size ∧ s3 = .pointer (some ⟨B, 0, none⟩) ∧ s5 = .pointer (some ⟨B + 1, 0, none⟩) ∧ s6 = .bool false ∧ TwoMem w wx B p M A n c xs)
  case first =>
    go_wp2_with fail
    go_meet
    exact ⟨_, rfl, rfl, rfl, rfl, { below := by go_grown, size := by simp, pol := (Blk.newAt rfl).alloc _, man := Blk.newAt (by simp), arg := hX.below (by go_grown) }⟩
  case rest =>
    obtain ⟨B, hB, rfl, rfl, rfl, hL⟩ := hcut
    obtain ⟨wx, rfl⟩ : ∃ wx, wx = wc := ⟨_, rfl⟩
    have HB := Lib.hid hB
    clear hB
    have hz := hL.size
    go_wp2_with fail
    refine (wakes_calls _).mono ?_
    rintro e w1 ⟨rfl, hb1⟩
    have hL1 := hL.later hb1
    have mc := hL1.man.cell
    simp only [Man.cells] at mc
    have hz1' := hL1.size
    go_wp2_with fail
    refine (ref_calls M A n c xs _ (by omega) (hL1.arg.more (by omega))).mono ?_
    rintro e w2 ⟨A8, c8, rfl, hE8, hb2⟩
    go_wp2_with fail
    refine (fit_calls M A8 n c8 xs _ (by omega) hE8).mono ?_
    rintro e w3 ⟨r, rfl, hr, hb3⟩
    have hL3 := (hL1.later hb2).later hb3
    clear hL hL1 hb1 hb2 hb3 hE8 mc hz hz1'
    cases r with
    | false =>
      clear hr
      go_wp2_with fail
      refine (wakes_calls _).mono ?_
      rintro e w4 ⟨rfl, hb4⟩
      go_wp2
      go_ret
      exact ⟨rfl, HB.out ▸ (hL3.later hb4).below⟩
    | true =>
      have hfit := hr rfl
      have HFIT := Lib.hid hfit
      clear hr hfit
      have hxn := hxl.out
      obtain ⟨lo, gs, g0, hdec, hgs, hg0, hst, h3, hlow⟩ := decide_last p.keeps p.size now M.w0 M.low xs
      have hag := decide_again (keep := p.keeps) (size := p.size) (now := now) (width := M.w0) HFIT.out hgs hg0 hst h3 (fun r hr => by have := hlow r hr; omega)
      obtain ⟨l0, l1, l2, rfl⟩ : ∃ l0 l1 l2, lo = [l0, l1, l2] := by
        match lo, h3 with
        | [a, b, c], _ => exact ⟨a, b, c, rfl⟩
      have hids : idsTo xs gs xs.length = idsFrom xs gs 0 xs.length := by
        have := idsTo_from xs gs xs.length 0
        simpa [idsTo] using this
      rw [hids] at hdec
      rw [hxn] at hdec hag
      have HDEC := Lib.hid hdec
      have HAG := Lib.hid hag
      have HXN := Lib.hid hxn
      clear hdec hag hgs hg0 hst h3 hlow hids hxn
      have pc := hL3.pol.cell
      have mc := hL3.man.cell
      have hz := hL3.size
      simp only [Man.cells] at mc
      go_upto_region 3 with fail
      go_cut [7, 8] (fun s7 s8 wy => ∃ L1 A9 c9, s7 = .pointer (some ⟨L1, 0, none⟩) ∧ s8 = .slice A9 (idsFrom xs gs 0 n).length c9 ∧ TwoMem w wy B p M A n c xs ∧ Blk wy L1 22 #[.int .i64 l0, .int .i64 l1, .int .i64 l2] ∧ Elems wy wy.heap.size 1 I1 A9 (idsFrom xs gs 0 n).length (idsFrom xs gs 0 n) ∧ (idsFrom xs gs 0 n).length ≤ c9 ∧ B + 2 ≤ L1)
      case first =>
        go_wp2_with fail
        refine (decide_calls_eq _ p now M A n c xs _ HDEC.out (by omega) hk0 hk1 hk2 hnow (hL3.arg.more (by omega))).mono ?_
        rintro e w4 ⟨A9, c9, rfl, hE9, hb9, _, hcap⟩
        dsimp only [List.getD_cons_zero, List.getD_cons_succ] at hE9 hcap ⊢
        have hs9 := hb9.size
        clear pc mc
        go_wp2_with fail
        go_meet
        exact ⟨_, A9, c9, rfl, rfl, (hL3.later hb9).later (by go_grown), Blk.newAt rfl, (hE9.below (by go_grown)).more (by simp), hcap, by omega⟩
      case rest =>
        obtain ⟨L1, A9, c9, rfl, rfl, hL4, hlow4, hE9, hcap, hL1b⟩ := hcut
        obtain ⟨wy, rfl⟩ : ∃ wy, wy = wc := ⟨_, rfl⟩
        clear pc mc hz hL3
        have lc := hlow4.cell
        have mc := hL4.man.cell
        simp only [Man.cells] at mc
        have hz := hL4.size
        have hL1s := hlow4.lt
        obtain ⟨M', hM'⟩ : ∃ M' : Man, M' = { M with l0 := l0, l1 := l1, l2 := l2 } := ⟨_, rfl⟩
        have HM' := Lib.hid hM'
        clear hM'
        go_upto_region 5 with fail
        go_cut [] (fun wz => TwoMem w wz B p M A n c xs ∧ Below wy.heap.size wy wz ∧ wy.heap.size < wz.heap.size ∧ Blk wz wy.heap.size 27 (M'.cells (.slice none 0 0)))
        case first =>
          go_wp2_with fail
          go_meet
          rw [HM'.out]
          exact ⟨hL4.later (by go_grown), by go_grown, by simp, Blk.newAt rfl⟩
        case rest =>
          obtain ⟨hL5, hb5, hN, hnb⟩ := hcut
          obtain ⟨wz, rfl⟩ : ∃ wz, wz = wc := ⟨_, rfl⟩
          have hlow5 := hlow4.below hb5 hL1s
          have hE5 : Elems wz wy.heap.size 1 I1 A9 (idsFrom xs gs 0 n).length (idsFrom xs gs 0 n) := hE9.below hb5
          clear lc mc hL4 hlow4 hE9 hb5
          generalize wy.heap.size = N at *
          have m5 : wz.cell? ⟨B + 1, 5, none⟩ = some (.slice A n c) := hL5.man.cell 5
          go_wp2_with fail
          go_loopg [8, 37] n (fun gk s8 i wr => ∃ (k : Nat) (A8 : Option Addr) (c8 : Nat) (v : Value), k + gk = n ∧ i = .int .i64 k ∧ s8 = .slice A8 (idsFrom xs gs k gk).length c8 ∧ (idsFrom xs gs k gk).length ≤ c8 ∧ Elems wr N 1 I1 A8 (idsFrom xs gs k gk).length (idsFrom xs gs k gk) ∧
            TwoMem w wr B p M A n c xs ∧ Blk wr L1 22 #[.int .i64 l0, .int .i64 l1, .int .i64 l2] ∧ N < wr.heap.size ∧ Blk wr N 27 (M'.cells v) ∧ wr.ownsRow (N + 1) 39 5 v (keptTo xs gs k).length ((keptTo xs gs k).flatMap Info.enc))
          case atStart => exact ⟨0, A9, c9, _, by omega, rfl, rfl, hcap, hE5, hL5, hlow5, hN, hnb, World.ownsRow_nil _ _ _ _⟩
          case round =>
            obtain ⟨k, A8, c8, v, hk, rfl, rfl, hc8, hE8, hR, hlowr, hNr, hnr, hown⟩ := hrel
            have HK := Lib.hid hk
            have hkn : k ≤ n := by omega
            have hzr := hR.size
            by_cases hlt : k < n
            · obtain ⟨m, rfl⟩ : ∃ m, gk = m + 1 := ⟨gk - 1, by omega⟩
              obtain ⟨b, off, rfl, hbB, hcell⟩ := hR.arg.2 (by omega)
              have hxn := HXN.out
              obtain ⟨x, hx⟩ : ∃ x, xs[k]? = some x := ⟨_, List.getElem?_eq_getElem (by omega)⟩
              have hxD : xs.getD k Info.zero = x := by simp [List.getD, hx]
              have q0 := hcell k x hx 0 _ rfl
              have q1 := hcell k x hx 1 _ rfl
              have q2 := hcell k x hx 2 _ rfl
              have q3 := hcell k x hx 3 _ rfl
              have q4 := hcell k x hx 4 _ rfl
              simp only [Nat.add_zero] at q0
              obtain ⟨gb, hgb⟩ : ∃ gb, gs.getD k false = gb := ⟨_, rfl⟩
              have hgt := idsFrom_gt HFIT.out gs hx m (k + 1) (by omega) (by omega)
              have hfr : idsFrom xs gs k (m + 1) = if gb then x.id :: idsFrom xs gs (k + 1) m else idsFrom xs gs (k + 1) m := by rw [idsFrom, hgb, hxD]
              have hkp : keptTo xs gs (k + 1) = if gb then keptTo xs gs k else keptTo xs gs k ++ [x] := by rw [keptTo, hgb, hxD]
              have hkl := keptTo_le xs gs k
              have zb : b < wr.heap.size := lt_of_cell q0
              generalize keptTo xs gs k = ks at *
              generalize hTd : idsFrom xs gs (k + 1) m = T at *
              have HTD := Lib.hid hTd
              have HKP := Lib.hid hkp
              clear hTd hkp hgb hxD hcell hxn hk
              have n5 : wr.cell? ⟨N, 5, none⟩ = some v := hnr.cell 5
              have nf := hnr.frozen 5
              cases gb with
              | true =>
                simp only [if_true] at hfr
                rw [hfr] at hE8 hc8 ⊢
                obtain ⟨b8, o8, rfl, hb8, hcell8⟩ := hE8.2 (by simp)
                have r0 : wr.cell? ⟨b8, o8, none⟩ = some (.int .i64 x.id) := by simpa using hcell8 0 x.id rfl 0 _ rfl
                have z8 : b8 < wr.heap.size := lt_of_cell r0
                have hcut8 := hE8.cut (k := 1) (cap := c8) (by simp) hc8
                have hc8' : T.length + 1 ≤ c8 := by simpa using hc8
                have HC8 := Lib.hid hcut8
                have HX := Lib.hid hx
                clear hcut8 hcell8 hx hfr hc8 n5 nf hgt
                go_wp2_with fail
                refine wp_region_later (by kernel_rfl) (by kernel_rfl) ?_
                repeat (go_big_quiet_step (fail))
                refine wpQuiet_nil ?_
                rintro w2 ⟨⟨_, hb2⟩, rfl⟩
                have bW : Below wr.heap.size wr w2 := then_ (by go_grown) hb2
                go_wp2
                all_goals
                  go_roundg m
                  case measure => omega
                  case rel =>
                    have h8 := HC8.out
                    have hE' : ∃ A', Elems wr N 1 I1 A' T.length T ∧ (c8 = 1 → A' = some ⟨b8, o8, none⟩) ∧ (¬ c8 = 1 → A' = some ⟨b8, o8 + 1, none⟩) := by
                      refine ⟨_, by simpa using h8, fun h => by rw [if_pos h], fun h => by rw [if_neg h]; rfl⟩
                    obtain ⟨A', hE1, hA1, hA2⟩ := hE'
                    refine ⟨k + 1, A', c8 - 1, v, by have := HK.out; omega, by go_num, ?_, by rw [HTD.out]; omega, by rw [HTD.out]; exact hE1.below (bW.mono (by omega)), hR.later bW, hlowr.below bW hlowr.lt, by have := bW.size; omega, hnr.below bW hNr, ?_⟩
                    · rw [HTD.out]
                      first | (have hc1 : c8 = 1 := by assumption
                               rw [hA1 hc1, hc1]) | rw [hA2 (by assumption)]
                    · rw [HKP.out]
                      have := (hown.kept ⟨bW.os, bW.tape, bW.output, bW.size, fun j hj _ => bW.block j hj⟩ (row := none) (by cases hv : v.ownBlock <;> simp))
                      simpa using this
              | false =>
                simp only [Bool.false_eq_true, if_false] at hfr
                rw [hfr] at hE8 hc8 ⊢
                have HX := Lib.hid hx
                have HC8 := Lib.hid hc8
                clear hx hfr hc8
                cases T with
                | nil =>
                  clear hgt
                  go_wp2_with fail
                  refine wp_region_later (by kernel_rfl) (by kernel_rfl) ?_
                  repeat (go_big_quiet_step (fail))
                  refine wpQuiet_nil ?_
                  rintro w2 ⟨⟨_, hb2⟩, rfl⟩
                  have bW : Below wr.heap.size wr w2 := then_ (by go_grown) hb2
                  have x0 : w2.cell? ⟨wr.heap.size, 0, none⟩ = some (.int .i64 x.id) := (hb2.cell (by simp)).trans (by simp)
                  have x1 : w2.cell? ⟨wr.heap.size, 1, none⟩ = some (.int .i64 x.res) := (hb2.cell (by simp)).trans (by simp)
                  have x2 : w2.cell? ⟨wr.heap.size, 2, none⟩ = some (.int .i64 x.frm) := (hb2.cell (by simp)).trans (by simp)
                  have x3 : w2.cell? ⟨wr.heap.size, 3, none⟩ = some (.int .i64 x.to_) := (hb2.cell (by simp)).trans (by simp)
                  have x4 : w2.cell? ⟨wr.heap.size, 4, none⟩ = some (.int .i64 x.bytes) := (hb2.cell (by simp)).trans (by simp)
                  have m5 := later bW n5
                  have hown1 : w2.ownsRow (N + 1) 39 5 v ks.length (ks.flatMap Info.enc) := hown.kept ⟨bW.os, bW.tape, bW.output, bW.size, fun j hj _ => bW.block j hj⟩ (row := none) (by cases hv : v.ownBlock <;> simp)
                  have hn2 := hnr.below bW hNr
                  have hs2 := bW.size
                  go_wp2_with (at_builtin; refine wpList_append_own_at _ rfl _ _ 25 rfl (N + 1) 39 i0 _ 5 40 Try.underlying25 hi0 hz0 hz1 hz2 rfl (by decide) _ _ _ rfl (hown1.alloc _) ⟨w2.heap.size, 0, none⟩ 1 1 (Info.enc x) rfl rfl ?c1 ?c2 ?c3 ?c4 ?c5 ?_)
                  case c1 => exact news_of_blk (l := Info.enc x) (Blk.newAt rfl)
                  case c2 => exact enc_one x
                  case c3 => unfold maxLen; omega
                  case c4 => omega
                  case c5 => simp; omega
                  rintro v' w3 hown3 hg3 _ hat
                  obtain ⟨g', cap', hv', _, _⟩ := hown3.form (by omega)
                  rw [hv'] at hown3 ⊢
                  clear hv' hat
                  have hne2 : some N ≠ v.ownBlock := fun e => by have := (hown1.lt _ e.symm).1; omega
                  have hn3 := (hn2.alloc (.cells #[.int .i64 x.id, .int .i64 x.res, .int .i64 x.frm, .int .i64 x.to_, .int .i64 x.bytes] 39)).grown hg3 hne2
                  have t5 : w3.cell? ⟨N, 5, none⟩ = some v := hn3.cell 5
                  have tf := hn3.frozen 5
                  go_wp2
                  go_roundg m
                  case measure => omega
                  case rel =>
                    have hs3 := hg3.size
                    simp at hs3
                    have hK : Kept (N + 1) [N] wr (w3.setCell ⟨N, 5, none⟩ (.slice (some ⟨g', 0, none⟩) (ks.length + 1) cap')) :=
                      (((Kept.of_below (bW.mono (by omega)) : Kept (N + 1) [N] wr w2).alloc (by omega) _).grown hg3 (by simp; omega) (fun j hj => .inr (hown1.lt _ hj).1)).setCell (.inl (by simp)) _
                    refine ⟨k + 1, _, c8, _, by have := HK.out; omega, by go_num, by rw [HTD.out]; rfl, by rw [HTD.out]; exact HC8.out, by rw [HTD.out]; exact hE8.keep (fun q hq => hK.cell (by omega) (by simp; omega)), hR.kept hK (by omega) (by simp; omega), hlowr.kept hK (by omega) (by simp; omega), by simp; omega, hn3.set_ 5 _, ?_⟩
                    rw [HKP.out]
                    have := ownsRow_setCell_below hown3 (a := ⟨N, 5, none⟩) (by simp) (.slice (some ⟨g', 0, none⟩) (ks.length + 1) cap')
                    simpa [List.flatMap_append] using this
                | cons h T =>
                  have hne : (h == x.id) = false := by
                    have := hgt h (by simp)
                    rw [beq_eq_false_iff_ne]; omega
                  obtain ⟨b8, o8, rfl, hb8, hcell8⟩ := hE8.2 (by simp)
                  have r0 : wr.cell? ⟨b8, o8, none⟩ = some (.int .i64 h) := by simpa using hcell8 0 h rfl 0 _ rfl
                  have z8 : b8 < wr.heap.size := lt_of_cell r0
                  clear hgt hcell8
                  go_wp2_with fail
                  refine wp_region_later (by kernel_rfl) (by kernel_rfl) ?_
                  repeat (go_big_quiet_step (fail))
                  refine wpQuiet_nil ?_
                  rintro w2 ⟨⟨_, hb2⟩, rfl⟩
                  have bW : Below wr.heap.size wr w2 := then_ (by go_grown) hb2
                  have x0 : w2.cell? ⟨wr.heap.size, 0, none⟩ = some (.int .i64 x.id) := (hb2.cell (by simp)).trans (by simp)
                  have x1 : w2.cell? ⟨wr.heap.size, 1, none⟩ = some (.int .i64 x.res) := (hb2.cell (by simp)).trans (by simp)
                  have x2 : w2.cell? ⟨wr.heap.size, 2, none⟩ = some (.int .i64 x.frm) := (hb2.cell (by simp)).trans (by simp)
                  have x3 : w2.cell? ⟨wr.heap.size, 3, none⟩ = some (.int .i64 x.to_) := (hb2.cell (by simp)).trans (by simp)
                  have x4 : w2.cell? ⟨wr.heap.size, 4, none⟩ = some (.int .i64 x.bytes) := (hb2.cell (by simp)).trans (by simp)
                  have m5 := later bW n5
                  have hown1 : w2.ownsRow (N + 1) 39 5 v ks.length (ks.flatMap Info.enc) := hown.kept ⟨bW.os, bW.tape, bW.output, bW.size, fun j hj _ => bW.block j hj⟩ (row := none) (by cases hv : v.ownBlock <;> simp)
                  have hn2 := hnr.below bW hNr
                  have hs2 := bW.size
                  go_wp2_with (at_builtin; refine wpList_append_own_at _ rfl _ _ 25 rfl (N + 1) 39 i0 _ 5 40 Try.underlying25 hi0 hz0 hz1 hz2 rfl (by decide) _ _ _ rfl (hown1.alloc _) ⟨w2.heap.size, 0, none⟩ 1 1 (Info.enc x) rfl rfl ?c1 ?c2 ?c3 ?c4 ?c5 ?_)
                  case c1 => exact news_of_blk (l := Info.enc x) (Blk.newAt rfl)
                  case c2 => exact enc_one x
                  case c3 => unfold maxLen; omega
                  case c4 => omega
                  case c5 => simp; omega
                  rintro v' w3 hown3 hg3 _ hat
                  obtain ⟨g', cap', hv', _, _⟩ := hown3.form (by omega)
                  rw [hv'] at hown3 ⊢
                  clear hv' hat
                  have hne2 : some N ≠ v.ownBlock := fun e => by have := (hown1.lt _ e.symm).1; omega
                  have hn3 := (hn2.alloc (.cells #[.int .i64 x.id, .int .i64 x.res, .int .i64 x.frm, .int .i64 x.to_, .int .i64 x.bytes] 39)).grown hg3 hne2
                  have t5 : w3.cell? ⟨N, 5, none⟩ = some v := hn3.cell 5
                  have tf := hn3.frozen 5
                  go_wp2
                  go_roundg m
                  case measure => omega
                  case rel =>
                    have hs3 := hg3.size
                    simp at hs3
                    have hK : Kept (N + 1) [N] wr (w3.setCell ⟨N, 5, none⟩ (.slice (some ⟨g', 0, none⟩) (ks.length + 1) cap')) :=
                      (((Kept.of_below (bW.mono (by omega)) : Kept (N + 1) [N] wr w2).alloc (by omega) _).grown hg3 (by simp; omega) (fun j hj => .inr (hown1.lt _ hj).1)).setCell (.inl (by simp)) _
                    refine ⟨k + 1, _, c8, _, by have := HK.out; omega, by go_num, by rw [HTD.out]; rfl, by rw [HTD.out]; exact HC8.out, by rw [HTD.out]; exact hE8.keep (fun q hq => hK.cell (by omega) (by simp; omega)), hR.kept hK (by omega) (by simp; omega), hlowr.kept hK (by omega) (by simp; omega), by simp; omega, hn3.set_ 5 _, ?_⟩
                    rw [HKP.out]
                    have := ownsRow_setCell_below hown3 (a := ⟨N, 5, none⟩) (by simp) (.slice (some ⟨g', 0, none⟩) (ks.length + 1) cap')
                    simpa [List.flatMap_append] using this
            · obtain rfl : k = n := by omega
              obtain rfl : gk = 0 := by omega
              clear hk
              rw [show idsFrom xs gs k 0 = [] from rfl] at hE8 hc8 ⊢
              have hkl := keptTo_le xs gs k
              obtain ⟨Av, cv, rfl, hEv, _, _⟩ := Elems.of_own (enc := Info.enc) (by intro x _; rfl) rfl hown rfl
              have pc := hR.pol.cell
              have nc := hnr.cell
              simp only [Man.cells] at nc
              have hdc : decideOf p.keeps p.size now M'.w0 M'.low (keptTo xs gs k) = ([l0, l1, l2], []) := by
                rw [HM'.out]; exact HAG.out
              have HDC := Lib.hid hdc
              clear hdc hE8 hc8
              generalize hksd : keptTo xs gs k = ks at *
              clear hksd
              go_wp2_with fail
              refine (decide_calls_eq _ p now M' Av ks.length cv ks _ HDC.out (by omega) hk0 hk1 hk2 hnow hEv).mono ?_
              rintro e w5 ⟨A12, c12, rfl, hE12, hb12, _, _⟩
              dsimp only [List.getD_cons_zero, List.getD_cons_succ, List.length_nil]
              have hlow6 := hlowr.below hb12 hlowr.lt
              have a0 : w5.cell? ⟨L1, 0, none⟩ = some (.int .i64 l0) := hlow6.cell 0
              have a1 : w5.cell? ⟨L1, 1, none⟩ = some (.int .i64 l1) := hlow6.cell 1
              have a2 : w5.cell? ⟨L1, 2, none⟩ = some (.int .i64 l2) := hlow6.cell 2
              have za := hlow6.lt
              clear pc nc
              go_wp2
              go_ret
              have hR5 := (hR.later hb12).below
              exact ⟨rfl, HB.out ▸ hR5.alloc (by have := (hR.later hb12).size; omega) _⟩
end Go.Proofs.Ytfokjcoiehgbpaa
