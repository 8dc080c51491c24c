/- Layer 3's laws: DiskKeeps (printed by gen_lawkeeps.py). -/
import Derived.Test.YtdaidbnbfjgjeaaGreatDoorDsa32
set_option linter.unusedVariables false
set_option linter.unusedSimpArgs false
namespace Go.Proofs.YtdaidbnbfjgjeaaGreatDoor
open Go.RowKit Go.Shelf Go.Maps Go.Sort
attribute [local go_sem ↓] Go.wp_at_zero Go.wp_at_succ
attribute [local go_sem] Later.cell Later.frozen

section
variable {B0 M : Nat} {a : Nat → Addr} {R S : Nat → Nat} {A : Adr} {B : RAdr} {d : Ds} {w w' : World}
theorem root_list (h : Two B0 w R S A B d) (he : Env B0 a w) (hB : B0 ≤ w.heap.size) (hw : WF M d) (hM : M ≤ 536870912) :
    Calls Tryz.prog 18 #[.pointer (some ⟨A.p, 0, none⟩), .string ⟨#[]⟩] w fun e w' => ∃ v u, e = .returned (.tuple #[v, u]) ∧ EntRow w' w.heap.size v (listD d []).1 ∧ Below w.heap.size w w' :=
  (list_root w h.c (hw.fit hM) hB he.f (hw.nl hM)).mono fun e w2 ⟨v, u, h0, _, h2, h3⟩ => ⟨v, u, h0, h2, h3⟩
theorem root_rlist (h : Two B0 w R S A B d) (hw : WF M d) (hM : M ≤ 536870912) :
    Calls Tryz.prog 25 #[.pointer (some ⟨B.q, 0, none⟩), .string ⟨#[]⟩] w fun e w' => ∃ v u, e = .returned (.tuple #[v, u]) ∧ EnRow w' w.heap.size v (listD d []).1 ∧ Below w.heap.size w w' :=
  (rlist_root w h.r (hw.fit hM) (hw.nl hM)).mono fun e w2 ⟨v, h0, h2, h3⟩ => ⟨v, _, h0, h2, h3⟩
/-- The row at g may be turned, nothing else is. -/
structure Mark (Q : Nat → Nat) (g n c B1 : Nat) (w w' : World) : Prop where
  own : Own Q Q w w'
  row : ∃ xs, w'.ownsRow B1 59 3 (.slice (some ⟨g, 0, none⟩) n c) n xs
theorem Mark.put {Q : Nat → Nat} {g n c B1 i : Nat} (h : Mark Q g n c B1 w w') (hg : Q g ≠ 0) (hi : i < n) (x y z : Value) :
    (∃ u, w'.cell? ⟨g, i * 3, none⟩ = some u) ∧ (∃ u, w'.cell? ⟨g, i * 3 + 1, none⟩ = some u) ∧ (∃ u, w'.cell? ⟨g, i * 3 + 2, none⟩ = some u) ∧ w'.frozen? ⟨g, i * 3, none⟩ = false ∧ w'.frozen? ⟨g, i * 3 + 1, none⟩ = false ∧ w'.frozen? ⟨g, i * 3 + 2, none⟩ = false ∧
    Mark Q g n c B1 w (((w'.setCell ⟨g, i * 3, none⟩ x).setCell ⟨g, i * 3 + 1, none⟩ y).setCell ⟨g, i * 3 + 2, none⟩ z) := by
  obtain ⟨xs, hx⟩ := h.row
  have hl := hx.1
  have key : ∀ k, k < n * 3 → ∃ u, w'.cell? ⟨g, k, none⟩ = some u := fun k hk => by
    rw [World.ownsRow.cellAt hx _ hk, List.getElem?_eq_getElem (by omega)]
    exact ⟨_, rfl⟩
  have s1 := World.ownsRow.stored hx (i * 3) x
  have s2 := World.ownsRow.stored s1.1 (i * 3 + 1) y
  have s3 := World.ownsRow.stored s2.1 (i * 3 + 2) z
  exact ⟨key _ (by omega), key _ (by omega), key _ (by omega), World.ownsRow.frozenAt hx _, World.ownsRow.frozenAt hx _, World.ownsRow.frozenAt hx _, h.own.trans (Own.of_grown ((s1.2.trans s2.2).trans s3.2) hg), _, s3.1⟩
/-- Where the first list lies. -/
theorem list_lies {B1 : Nat} {v : Value} {l : List En} {n : Nat} (h : EntRow w B1 v l) (hB : B1 ≤ w.heap.size) (hn : l.length = n) :
    ∃ g A1 c1, v = .slice A1 n c1 ∧ B1 ≤ g ∧ (0 < n → A1 = some ⟨g, 0, none⟩ ∧ g < w.heap.size ∧ ∃ xs, w.ownsRow B1 59 3 (.slice (some ⟨g, 0, none⟩) n c1) n xs) := by
  rcases EntRow.slice h with ⟨e1, e2⟩ | ⟨g, c, e2⟩
  · subst e1
    subst hn
    exact ⟨B1, none, 0, e2, Nat.le_refl _, fun h0 => absurd h0 (by simp)⟩
  · have hx := h
    unfold EntRow at hx
    rw [hn] at hx e2
    rw [e2] at hx
    have hl := World.ownsRow.lt hx g rfl
    exact ⟨g, _, c, e2, hl.1, fun _ => ⟨rfl, hl.2, _, hx⟩⟩
set_option maxRecDepth 100000 in
set_option maxHeartbeats 8000000 in
theorem keeps_calls {a : Nat → Addr} (X : Option Addr) (n c : Nat) (l : List OpE) (W : World) (hst : Start a W) (hs : ScriptM W X n l) (hL : costs l ≤ 536870912) :
    Calls Tryz.prog 8 #[.slice X n c] W fun e w' => e = .returned (.bool true) ∧ Below W.heap.size W w' := by
  have hll : l.length = n := Elems.len hs.row
  have hn := hs.n
  have HN := Lib.hid hll
  have HS := Lib.hid hs
  have HL := Lib.hid hL
  clear hs hll hL
  go_enter Tryz.func8, Tryz.ntmps8
  go_wp2_with fail
  refine (run_new 1000 (by decide) (by decide) W (Below.refl _ _)).mono ?_
  rintro e w1 ⟨p, rfl, hr⟩
  have HR := Lib.hid hr
  clear hr
  go_wp2_with fail
  refine HR.out.mono ?_
  clear HR
  rintro e w2 ⟨q, rfl, hrun⟩
  go_wp2_with fail
  refine (wakes_calls (B0 := W.heap.size) (a := a) w2 hrun.below.size (hst.env.below hrun.below).f).mono ?_
  rintro e w3 ⟨rfl, hb3⟩
  have hrun := hrun.later hb3
  clear hb3
  go_wp2_with fail
  go_loopg [25] n (fun g s25 wr => ∃ i : Nat, i + g = n ∧ s25 = .int .i64 (i : Int) ∧ ∃ d, Run (costs (l.take i)) W wr p q d)
  case atStart => exact ⟨0, by omega, rfl, _, hrun⟩
  case round =>
    obtain ⟨i, hig, rfl, d, hr⟩ := hrel
    have HIG := Lib.hid hig
    clear hig
    by_cases hi : i < n
    · have el : decide ((i : Int) < (n : Int)) = true := by simp; omega
      have el' : decide (i < n) = true := by simp; omega
      have hiin : (i : Int) < (n : Int) := by omega
      have hil : i < l.length := by rw [HN.out]; exact hi
      have hct := costs_take hil
      have hcl := costs_le (l := l) (i + 1)
      have HCT := Lib.hid hct
      have HCL := Lib.hid (Nat.le_trans hcl HL.out)
      clear hct hcl
      have hmem : l[i]! ∈ l := by rw [getElem!_pos l i hil]; exact List.getElem_mem _
      have hop := HS.out.ops _ hmem
      obtain ⟨b, off, hXe, hbl, x0, x1, x2, x3, x4, x5, x6, x7⟩ := ops_at HS.out.row hi
      obtain ⟨e, he⟩ : ∃ e, l[i]! = e := ⟨_, rfl⟩
      rw [he] at x0 x1 x2 x3 x4 x5 x6 x7 hop HCT
      have hB := hr.below
      have x0 := (hB.cell (p := ⟨b, off + i * 8, none⟩) hbl).trans x0
      have x1 := (hB.cell (p := ⟨b, off + i * 8 + 1, none⟩) hbl).trans x1
      have x2 := (hB.cell (p := ⟨b, off + i * 8 + 2, none⟩) hbl).trans x2
      have x3 := (hB.cell (p := ⟨b, off + i * 8 + 3, none⟩) hbl).trans x3
      have x4 := (hB.cell (p := ⟨b, off + i * 8 + 4, none⟩) hbl).trans x4
      have x5 := (hB.cell (p := ⟨b, off + i * 8 + 5, none⟩) hbl).trans x5
      have x6 := (hB.cell (p := ⟨b, off + i * 8 + 6, none⟩) hbl).trans x6
      have x7 := (hB.cell (p := ⟨b, off + i * 8 + 7, none⟩) hbl).trans x7
      subst hXe
      have hbr : b < wr.heap.size := lt_of_cell x0
      have HOP := Lib.hid hop
      have HST := Lib.hid (fun w' M d (h : Run M W w' p q d) (hM : M + costO e ≤ 536870912) => h.step hst e hop hM)
      clear hmem hop he hB
      obtain ⟨⟨K, A, B, N, M', pa, pn, pc, da, dn, dc, yes⟩, parts, data⟩ := e
      dsimp only at x0 x1 x2 x3 x4 x5 x6 x7 HST
      go_upto_region 7 with fail
      obtain ⟨w4, hw4⟩ : ∃ x, wr.alloc (.cells #[.int .i64 K, .string A, .string B, .int .i64 N, .int .i64 M', .slice pa pn pc, .slice da dn dc, .bool yes] 44) = x := ⟨_, rfl⟩
      have hb4 : Below wr.heap.size wr w4 := by rw [← hw4]; exact (Below.refl _ _).alloc (Nat.le_refl _) _
      have hk4 : OpBox w4 wr.heap.size ⟨K, A, B, N, M', pa, pn, pc, da, dn, dc, yes⟩ := by rw [← hw4]; exact Blk.new _ _ _
      have hall := hk4.all
      rw [hw4]
      obtain ⟨r, hrr⟩ : ∃ r, wr.heap.size = r := ⟨_, rfl⟩
      rw [hrr] at hall ⊢
      have b0 := hall.c0
      have b1 := hall.c1
      have b2 := hall.c2
      have b3 := hall.c3
      have b4 := hall.c4
      have b5 := hall.c5
      have b6 := hall.c6
      have b7 := hall.c7
      have HR4 := Lib.hid (hr.later hb4)
      clear x0 x1 x2 x3 x4 x5 x6 x7 hall hk4 hb4 hw4 hrr hr hbl hbr
      go_wp2_with fail
      refine (HST.out _ _ _ HR4.out (by rw [← HCT.out]; exact HCL.out)).mono ?_
      rintro x w5 ⟨rfl, hr5⟩
      have HR6 := Lib.hid hr5
      clear b0 b1 b2 b3 b4 b5 b6 b7 hr5
      go_wp2_with fail
      go_roundg (gk - 1)
      case measure => have := HIG.out; omega
      case rel => exact ⟨i + 1, by have := HIG.out; omega, by go_num, _, by rw [HCT.out]; exact HR6.out⟩
    · have el : decide ((i : Int) < (n : Int)) = false := by simp; omega
      have el' : decide (i < n) = false := by simp; omega
      have hM : costs (l.take i) ≤ 536870912 := Nat.le_trans (costs_le i) HL.out
      obtain ⟨M, hMM⟩ : ∃ M, costs (l.take i) = M := ⟨_, rfl⟩
      rw [hMM] at hr hM
      clear hMM
      obtain ⟨wo, rfl⟩ : ∃ x, x = wr := ⟨_, rfl⟩
      obtain ⟨R, S, A, B, h1, rfl, rfl⟩ := hr.ex
      have hB0 := hr.below
      have hwf := hr.wf
      have hle := hB0.size
      obtain ⟨el0, hel0⟩ : ∃ x, (listD d []).1 = x := ⟨_, rfl⟩
      have hlen : el0.length ≤ 1073741824 := by have := sortE_len d []; have := hwf.tl; rw [← hel0]; omega
      have HEL0 := Lib.hid hel0
      have HL1 := Lib.hid (root_list h1 (hst.env.below hB0) hB0.size hwf hM)
      have HR1 := Lib.hid (fun w' (hb : Below wo.heap.size wo w') => root_list (h1.below hb) (hst.env.below (hB0.trans (hb.mono hB0.size))) (Nat.le_trans hB0.size hb.size) hwf hM)
      have HT := Lib.hid (⟨h1, hB0, hwf⟩ : Two W.heap.size wo R S A B d ∧ Below W.heap.size W wo ∧ WF M d)
      clear hr h1 hB0 hwf
      go_wp2_with fail
      refine HL1.out.mono ?_
      rintro e w4 ⟨v, u, rfl, hv, hb4⟩
      rw [hel0] at hv
      obtain ⟨n1, hn1⟩ : ∃ n1, el0.length = n1 := ⟨_, rfl⟩
      obtain ⟨g, A1, c1, hvs, hg0, hA1⟩ := list_lies hv hb4.size hn1
      subst hvs
      have HV := Lib.hid hv
      have HG0 := Lib.hid hg0
      have HA1 := Lib.hid hA1
      clear HL1 hv hg0 hA1
      go_wp2_with fail
      refine (HR1.out w4 hb4).mono ?_
      rintro e w5 ⟨v2, u2, rfl, hv2, hb5⟩
      rw [hel0] at hv2
      obtain ⟨Y, c2, hY, _⟩ := EntRow.out hv2
      rw [hn1] at hY
      subst hY
      obtain ⟨Q, hQ⟩ : ∃ Q : Nat → Nat, Q = fun k => if k = g ∧ 0 < n1 then 1 else 0 := ⟨_, rfl⟩
      have hQg : 0 < n1 → Q g ≠ 0 := fun h0 => by rw [hQ]; simp [h0]
      have hQ0 : ∀ k, Q k ≠ 0 → k = g ∧ 0 < n1 := fun k hk => by
        rw [hQ] at hk
        have hk : k = g ∧ ¬ n1 = 0 := by simpa using hk
        exact ⟨hk.1, by omega⟩
      have hmk : 0 < n1 → Mark Q g n1 c1 wo.heap.size w5 w5 := fun h0 => by
        obtain ⟨_, _, xs, hx⟩ := HA1.out h0
        exact ⟨Own.refl _ _, xs, own_below2 hx hb5⟩
      have HY := Lib.hid hv2
      have HB45 := Lib.hid (then_ hb4 hb5)
      have HS4 := Lib.hid hb5.size
      have HMK := Lib.hid hmk
      have HQ0 := Lib.hid hQ0
      have HQG := Lib.hid hQg
      rw [hn1] at hlen
      have HN1 := Lib.hid hn1
      have HLEN := Lib.hid hlen
      clear hQ hQg hQ0 hmk HR1 hb4 hb5 hv2 hn1 hel0
      go_wp2_with fail
      go_loopg [47] n1 (fun g' s47 wm => ∃ k : Nat, k + g' = n1 ∧ s47 = .int .i64 (k : Int) ∧ Own Q Q w5 wm ∧ (0 < n1 → Mark Q g n1 c1 wo.heap.size w5 wm))
      case atStart => exact ⟨0, by omega, rfl, Own.refl _ _, HMK.out⟩
      case round =>
        obtain ⟨k, hkg, rfl, hown, hmk⟩ := hrel
        have HKG := Lib.hid hkg
        clear hkg
        by_cases hk : k < n1
        · have el1 : decide ((k : Int) < (n1 : Int)) = true := by simp; omega
          have el1' : decide (k < n1) = true := by simp; omega
          have hkin : (k : Int) < (n1 : Int) := by omega
          obtain ⟨rfl, _, _⟩ := HA1.out (by omega)
          obtain ⟨⟨u0, m0⟩, ⟨u1, m1⟩, ⟨u3, m2⟩, z0, z1, z2, hput⟩ := (hmk (by omega)).put (HQG.out (by omega)) hk (.string ⟨#[109, 97, 114, 107]⟩) (.bool false) (.int .i64 (-1))
          have HPUT := Lib.hid hput
          clear hput hmk hown
          go_wp2_with fail
          go_roundg (gk - 1)
          case measure => have := HKG.out; omega
          case rel => exact ⟨k + 1, by have := HKG.out; omega, by go_num, HPUT.out.own, fun _ => HPUT.out⟩
        · have el1 : decide ((k : Int) < (n1 : Int)) = false := by simp; omega
          have el1' : decide (k < n1) = false := by simp; omega
          obtain ⟨wm, rfl⟩ : ∃ x, x = wr := ⟨_, rfl⟩
          have hT : Two W.heap.size wm R S A B d := (HT.out.1.below HB45.out).apart hown fun k hk => by
            apply Classical.byContradiction
            intro h0
            have h3 := HT.out.1.new HG0.out
            rw [(HQ0.out k h0).1] at hk
            exact hk h3
          have hBm : Below W.heap.size W wm := (HT.out.2.1.trans (HB45.out.mono HT.out.2.1.size)).trans (hown.below (Nat.le_trans HT.out.2.1.size HB45.out.size) fun k hk => by
            apply Classical.byContradiction
            intro h0
            have h3 := (HQ0.out k h0).1
            have := HG0.out
            have := HT.out.2.1.size
            omega)
          have hYm : EntRow wm w4.heap.size (.slice Y n1 c2) el0 := ownsRow.same HY.out fun gy hgy => by
            have hl := World.ownsRow.lt HY.out gy hgy
            refine hown.block gy hl.2 ?_
            apply Classical.byContradiction
            intro h0
            obtain ⟨h3, h4⟩ := HQ0.out gy h0
            obtain ⟨_, h5, _⟩ := HA1.out h4
            omega
          have HYM := Lib.hid hYm
          have HTM := Lib.hid hT
          have HBM := Lib.hid hBm
          have HRL := Lib.hid (root_rlist hT HT.out.2.2 hM)
          clear hT hBm hYm hown hmk
          go_wp2_with fail
          refine HRL.out.mono ?_
          rintro e w6 ⟨v3, u3, rfl, hv3, hb6⟩
          rw [HEL0.out] at hv3
          obtain ⟨Z, c3, hZ, hz, _⟩ := EnRow.out hv3
          obtain ⟨Y', c2', hY', hy, _⟩ := EntRow.out (show EntRow w6 w4.heap.size (.slice Y n1 c2) el0 from own_below2 HYM.out hb6)
          rw [HN1.out] at hZ hz hY' hy
          injection hY' with e1 e2 e3
          subst e1 hZ
          have HX := Lib.hid hy
          have HY := Lib.hid hz
          have HB6 := Lib.hid hb6
          clear hy hz hv3 hb6 HRL e2 e3
          go_wp2_with fail
          go_loopg [67] n1 (fun g' s67 wn => ∃ j : Nat, j + g' = n1 ∧ s67 = .int .i64 (j : Int) ∧ Below w6.heap.size w6 wn)
          case atStart => exact ⟨0, by omega, rfl, Below.refl _ _⟩
          case round =>
            obtain ⟨j, hjg, rfl, hB⟩ := hrel
            have HJG := Lib.hid hjg
            have HB := Lib.hid hB
            clear hjg
            by_cases hj : j < n1
            · have el2 : decide ((j : Int) < (n1 : Int)) = true := by simp; omega
              have el2' : decide (j < n1) = true := by simp; omega
              have hjin : (j : Int) < (n1 : Int) := by omega
              obtain ⟨b, off, hXe, hbl, x0, x1, x2⟩ := ents_at HX.out hj
              obtain ⟨b', off', hYe, hbl', y0, y1, y2⟩ := ents_at HY.out hj
              have x0 := (hB.cell (p := ⟨b, off + j * 3, none⟩) hbl).trans x0
              have x1 := (hB.cell (p := ⟨b, off + j * 3 + 1, none⟩) hbl).trans x1
              have x2 := (hB.cell (p := ⟨b, off + j * 3 + 2, none⟩) hbl).trans x2
              have y0 := (hB.cell (p := ⟨b', off' + j * 3, none⟩) hbl').trans y0
              have y1 := (hB.cell (p := ⟨b', off' + j * 3 + 1, none⟩) hbl').trans y1
              have y2 := (hB.cell (p := ⟨b', off' + j * 3 + 2, none⟩) hbl').trans y2
              obtain ⟨T, hT⟩ : ∃ T : ByteArray, (⟨el0[j]!.name.toArray⟩ : ByteArray) = T := ⟨_, rfl⟩
              obtain ⟨D, hD⟩ : ∃ D, el0[j]!.dir = D := ⟨_, rfl⟩
              obtain ⟨Z2, hZ2⟩ : ∃ Z2 : Int, (el0[j]!.size : Int) = Z2 := ⟨_, rfl⟩
              unfold txtV at x0 y0
              rw [hT] at x0 y0
              rw [hD] at x1 y1
              rw [hZ2] at x2 y2
              obtain ⟨q1, q2⟩ := eq_facts T
              clear hT hD hZ2 hB
              subst hXe hYe
              have hbr : b < wr.heap.size := lt_of_cell x0
              have hbr' : b' < wr.heap.size := lt_of_cell y0
              go_upto_region 23 with fail
              refine wp_region_later (by kernel_rfl) (by kernel_rfl) ?_
              repeat (go_big_quiet_step (fail))
              refine wpQuiet_nil ?_
              rintro w7 ⟨⟨_, hb7⟩, rfl⟩
              have hB7 := then_ HB.out hb7
              have HB7 := Lib.hid hB7
              clear hb7 hB7
              go_wp2_with fail
              go_roundg (gk - 1)
              case measure => have := HJG.out; omega
              case rel => exact ⟨j + 1, by have := HJG.out; omega, by go_num, HB7.out⟩
            · have el2 : decide ((j : Int) < (n1 : Int)) = false := by simp; omega
              have el2' : decide (j < n1) = false := by simp; omega
              have hb8 := then_ HB6.out hB
              have HLS := Lib.hid (listed_two ⟨#[]⟩ wr (HTM.out.below hb8) (hst.env.below (HBM.out.trans (hb8.mono HBM.out.size))) hst.ap (Nat.le_trans HBM.out.size hb8.size) HT.out.2.2 hM (by decide))
              have HB8 := Lib.hid (HBM.out.trans (hb8.mono HBM.out.size))
              clear hb8 hB
              go_wp2_with fail
              refine HLS.out.mono ?_
              rintro e w9 ⟨rfl, hb9⟩
              have HB9 := Lib.hid (HB8.out.trans (hb9.mono HB8.out.size))
              clear hb9
              go_wp2_with fail
              go_ret
              exact ⟨rfl, HB9.out⟩
end
end Go.Proofs.YtdaidbnbfjgjeaaGreatDoor
