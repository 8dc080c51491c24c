/- Layer 3's laws: DiskTwins (printed by gen_lawtwins.py). -/
import Derived.Test.YtdaidbnbfjgjeaaGreatDoorDskAgain
set_option linter.unusedVariables false
set_option linter.unusedSimpArgs false
namespace Go.Proofs.YtdaidbnbfjgjeaaGreatDoor
open Go.RowKit Go.Shelf Go.Maps Go.Sort
attribute [local go_sem ↓] Go.wp_at_zero Go.wp_at_succ
attribute [local go_sem] Later.cell Later.frozen

/-- Two pairs of disks, each with memory of its own. -/
structure Pair (M M' : Nat) (W w : World) (p q : Nat) (d : Ds) (p' q' : Nat) (d' : Ds) : Prop where
  ex : ∃ R S A B R' S' A' B', Two W.heap.size w R S A B d ∧ Two W.heap.size w R' S' A' B' d' ∧ (∀ k, mix R S k ≠ 0 → mix R' S' k = 0) ∧ A.p = p ∧ B.q = q ∧ A'.p = p' ∧ B'.q = q'
  wf : WF M d
  wf' : WF M' d'
  below : Below W.heap.size W w
section
variable {a : Nat → Addr} {M M' : Nat} {W w w' : World} {p q p' q' : Nat} {d d' : Ds}
theorem Pair.swap (h : Pair M M' W w p q d p' q' d') : Pair M' M W w p' q' d' p q d := by
  obtain ⟨R, S, A, B, R', S', A', B', h1, h2, h3, h4, h5, h6, h7⟩ := h.ex
  refine ⟨⟨R', S', A', B', R, S, A, B, h2, h1, fun k hk => ?_, h6, h7, h4, h5⟩, h.wf', h.wf, h.below⟩
  apply Classical.byContradiction
  intro h0
  exact hk (h3 k h0)
theorem Pair.later (h : Pair M M' W w p q d p' q' d') (hb : Below w.heap.size w w') : Pair M M' W w' p q d p' q' d' := by
  obtain ⟨R, S, A, B, R', S', A', B', h1, h2, h3, h4, h5, h6, h7⟩ := h.ex
  exact ⟨⟨R, S, A, B, R', S', A', B', h1.below hb, h2.below hb, h3, h4, h5, h6, h7⟩, h.wf, h.wf', h.below.trans (hb.mono h.below.size)⟩
theorem Pair.one (h : Pair M M' W w p q d p' q' d') : Run M W w p q d := by
  obtain ⟨R, S, A, B, R', S', A', B', h1, h2, h3, h4, h5, h6, h7⟩ := h.ex
  exact ⟨⟨R, S, A, B, h1, h4, h5⟩, h.wf, h.below⟩
theorem Pair.step (hst : Start a W) (h : Pair M M' W w p q d p' q' d') (e : OpE) (he : OpM W (fun _ => 0) e.o e.parts e.data e.parts.flatten.length) (hM : M + costO e ≤ 536870912) :
    Calls Tryz.prog 21 #[.pointer (some ⟨p, 0, none⟩), .pointer (some ⟨q, 0, none⟩), .agg #[.int .i64 e.o.kind, .string e.o.a, .string e.o.b, .int .i64 e.o.n, .int .i64 e.o.m, .slice e.o.pa e.o.pn e.o.pc, .slice e.o.da e.o.dn e.o.dc, .bool e.o.yes]] w fun x w' => x = .returned (.bool true) ∧ Pair (M + costO e) M' W w' p q (opD d e.o e.parts e.data) p' q' d' := by
  obtain ⟨R, S, A, B, R', S', A', B', h1, h2, h3, rfl, rfl, h6, h7⟩ := h.ex
  unfold costO at hM ⊢
  refine (step_two e.o e.parts e.data (L := e.parts.flatten.length) h1 (hst.env.below h.below) hst.ap h.below.size h.wf (by omega) (he.later rfl h.below h1.low)).mono ?_
  rintro x w2 ⟨rfl, hh⟩
  obtain ⟨R2, S2, A2, B2, k1, k2, k3, k4⟩ := hh.ex
  refine ⟨rfl, ⟨R2, S2, A2, B2, R', S', A', B', k1, h2.apart k2 (fun k hk => ?_), fun k hk => ?_, k3, k4, h6, h7⟩, (h.wf.op e.o e.parts e.data he.n2 (Nat.le_refl _)).more (by omega), h.wf', h.below.trans (k2.below h.below.size h1.low)⟩
  · apply Classical.byContradiction
    intro h0
    exact hk (h3 k h0)
  · rcases Nat.lt_or_ge k w.heap.size with hlt | hge
    · rw [k2.old k hlt] at hk; exact h3 k hk
    · exact h2.new hge
theorem Pair.alike (hst : Start a W) (h : Pair M M' W w p q d p' q' d') (hM : M ≤ 536870912) :
    Calls Tryz.prog 22 #[.pointer (some ⟨p, 0, none⟩), .pointer (some ⟨q, 0, none⟩)] w fun x w' => x = .returned (.bool true) ∧ Pair M M' W w' p q d p' q' d' := by
  obtain ⟨R, S, A, B, h1, rfl, rfl⟩ := h.one.ex
  refine (alike_two w h1 (hst.env.below h.below) hst.ap h.below.size h.wf hM (fun x hx => by have := pathB_len (h.wf.tw.paths x hx); omega)).mono ?_
  rintro x w2 ⟨rfl, hh⟩
  exact ⟨rfl, h.later hh⟩
/-- All four disks are made. -/
structure Made (W w : World) (n : Int) (p : Nat) (R : Nat → Nat) (A : Adr) : Prop where
  c : CD W.heap.size w R A (newD n)
  p : A.p = p
theorem pair_new (n m : Int) (hn : n ≤ 9223372036854775807) (hn' : -9223372036854775808 ≤ n) (hm : m ≤ 9223372036854775807) (hm' : -9223372036854775808 ≤ m) (w : World) (hb : Below W.heap.size W w) :
    Calls Tryz.prog 10 #[.int .i64 n] w fun x w1 => ∃ p, x = .returned (.pointer (some ⟨p, 0, none⟩)) ∧ Calls Tryz.prog 10 #[.int .i64 m] w1 fun y w2 => ∃ p', y = .returned (.pointer (some ⟨p', 0, none⟩)) ∧
      Calls Tryz.prog 20 #[.int .i64 n] w2 fun y w3 => ∃ q, y = .returned (.pointer (some ⟨q, 0, none⟩)) ∧ Calls Tryz.prog 20 #[.int .i64 m] w3 fun y w4 => ∃ q', y = .returned (.pointer (some ⟨q', 0, none⟩)) ∧ Pair 0 0 W w4 p q (newD n) p' q' (newD m) := by
  refine (new_calls W.heap.size n w hb.size hn hn').mono ?_
  rintro x w1 ⟨R, A, rfl, h1, h2, h3⟩
  have hb1 := hb.trans (h2.mono hb.size)
  refine ⟨A.p, rfl, (new_calls W.heap.size m w1 hb1.size hm hm').mono ?_⟩
  rintro x w2 ⟨R', A', rfl, j1, j2, j3⟩
  have hb2 := hb1.trans (j2.mono hb1.size)
  refine ⟨A'.p, rfl, (rnew_calls W.heap.size n w2 hb2.size hn hn').mono ?_⟩
  rintro x w3 ⟨S, B, rfl, k1, k2, k3⟩
  have hb3 := hb2.trans (k2.mono hb2.size)
  refine ⟨B.q, rfl, (rnew_calls W.heap.size m w3 hb3.size hm hm').mono ?_⟩
  rintro x w4 ⟨S', B', rfl, l1, l2, l3⟩
  have hb4 := hb3.trans (l2.mono hb3.size)
  have g1 : ∀ k, R k ≠ 0 → k < w1.heap.size := h1.inw
  have g2 : ∀ k, R' k ≠ 0 → k < w2.heap.size := j1.inw
  have g3 : ∀ k, S k ≠ 0 → k < w3.heap.size := k1.inw
  have s1 := h2.size
  have s2 := j2.size
  have s3 := k2.size
  have z : ∀ {x : Nat}, ¬(x ≠ 0) → x = 0 := fun h => Classical.byContradiction h
  refine ⟨B'.q, rfl, ⟨R, S, A, B, R', S', A', B', ⟨((h1.below j2).below k2).below l2, k1.below l2, fun k hk => z fun h0 => ?_⟩, ⟨(j1.below k2).below l2, l1, fun k hk => z fun h0 => ?_⟩, fun k hk => ?_, rfl, rfl, rfl, rfl⟩, WF.new n, WF.new m, hb4⟩
  · have := g1 k hk; have := k3 k h0; omega
  · have := g2 k hk; have := l3 k h0; omega
  · unfold mix at hk ⊢
    have a1 : R' k = 0 := z fun h0 => by
      have := j3 k h0
      have := g2 k h0
      rcases Nat.eq_zero_or_pos (R k) with e | e
      · have : S k ≠ 0 := by omega
        have := k3 k this
        omega
      · have := g1 k (by omega); omega
    have a2 : S' k = 0 := z fun h0 => by
      have := l3 k h0
      rcases Nat.eq_zero_or_pos (R k) with e | e
      · have : S k ≠ 0 := by omega
        have := g3 k this
        omega
      · have := g1 k (by omega); omega
    omega
end
set_option maxRecDepth 100000 in
set_option maxHeartbeats 8000000 in
theorem twins_calls {a : Nat → Addr} (X1 X2 : Option Addr) (n1 c1 n2 c2 : Nat) (l1 l2 : List OpE) (W : World) (hst : Start a W) (hs1 : ScriptM W X1 n1 l1) (hs2 : ScriptM W X2 n2 l2) (hL1 : costs l1 ≤ 536870912) (hL2 : costs l2 ≤ 536870912) :
    Calls Tryz.prog 5 #[.slice X1 n1 c1, .slice X2 n2 c2] W fun e w' => e = .returned (.bool true) ∧ Below W.heap.size W w' := by
  have hll1 : l1.length = n1 := Elems.len hs1.row
  have hll2 : l2.length = n2 := Elems.len hs2.row
  have hn1 := hs1.n
  have hn2 := hs2.n
  have HN1 := Lib.hid hll1
  have HN2 := Lib.hid hll2
  have HS1 := Lib.hid hs1
  have HS2 := Lib.hid hs2
  have HL1 := Lib.hid hL1
  have HL2 := Lib.hid hL2
  clear hs1 hs2 hll1 hll2 hL1 hL2
  go_enter Tryz.func5, Tryz.ntmps5
  go_wp2_with fail
  refine (pair_new 1000 20 (by decide) (by decide) (by decide) (by decide) W (Below.refl _ _)).mono ?_
  rintro e w1 ⟨p, rfl, hr⟩
  have HR := Lib.hid hr
  clear hr
  go_wp2_with fail
  refine HR.out.mono ?_
  clear HR
  rintro e w2 ⟨p', rfl, hr⟩
  have HR := Lib.hid hr
  clear hr
  go_wp2_with fail
  refine HR.out.mono ?_
  clear HR
  rintro e w3 ⟨q, rfl, hr⟩
  have HR := Lib.hid hr
  clear hr
  go_wp2_with fail
  refine HR.out.mono ?_
  clear HR
  rintro e w4 ⟨q', rfl, hrun⟩
  go_wp2_with fail
  refine (wakes_calls (B0 := W.heap.size) (a := a) w4 hrun.below.size (hst.env.below hrun.below).f).mono ?_
  rintro e w5 ⟨rfl, hb5⟩
  have hrun := hrun.later hb5
  clear hb5
  go_wp2_with fail
  go_loopg [9] (n1 + n2) (fun g s9 wr => ∃ i : Nat, i + g = n1 + n2 ∧ s9 = .int .i64 (i : Int) ∧ ∃ d d', Pair (costs (l1.take i)) (costs (l2.take i)) W wr p q d p' q' d')
  case atStart => exact ⟨0, by omega, rfl, _, _, hrun⟩
  case round =>
    obtain ⟨i, hig, rfl, d, d', hr⟩ := hrel
    have HIG := Lib.hid hig
    clear hig
    have hB := hr.below
    rcases Nat.lt_or_ge i n1 with hi1 | hi1 <;> rcases Nat.lt_or_ge i n2 with hi2 | hi2
    · have el1 : decide ((i : Int) < (n1 : Int)) = true := by simp; omega
      have el1' : decide (i < n1) = true := by simp; omega
      have el2 : decide ((i : Int) < (n2 : Int)) = true := by simp; omega
      have el2' : decide (i < n2) = true := by simp; omega
      have hil1 : i < l1.length := by rw [HN1.out]; exact hi1
      have HCT1 := Lib.hid (costs_take hil1)
      have HCL1 := Lib.hid (Nat.le_trans (costs_le (l := l1) (i + 1)) HL1.out)
      have hmem1 : l1[i]! ∈ l1 := by rw [getElem!_pos l1 i hil1]; exact List.getElem_mem _
      have hop1 := HS1.out.ops _ hmem1
      obtain ⟨b1, off1, hXe1, hbl1, x10, x11, x12, x13, x14, x15, x16, x17⟩ := ops_at HS1.out.row hi1
      obtain ⟨e1, he1⟩ : ∃ e, l1[i]! = e := ⟨_, rfl⟩
      rw [he1] at x10 x11 x12 x13 x14 x15 x16 x17 hop1 HCT1
      have x10 := (hB.cell (p := ⟨b1, off1 + i * 8, none⟩) hbl1).trans x10
      have x11 := (hB.cell (p := ⟨b1, off1 + i * 8 + 1, none⟩) hbl1).trans x11
      have x12 := (hB.cell (p := ⟨b1, off1 + i * 8 + 2, none⟩) hbl1).trans x12
      have x13 := (hB.cell (p := ⟨b1, off1 + i * 8 + 3, none⟩) hbl1).trans x13
      have x14 := (hB.cell (p := ⟨b1, off1 + i * 8 + 4, none⟩) hbl1).trans x14
      have x15 := (hB.cell (p := ⟨b1, off1 + i * 8 + 5, none⟩) hbl1).trans x15
      have x16 := (hB.cell (p := ⟨b1, off1 + i * 8 + 6, none⟩) hbl1).trans x16
      have x17 := (hB.cell (p := ⟨b1, off1 + i * 8 + 7, none⟩) hbl1).trans x17
      subst hXe1
      have hbr1 : b1 < wr.heap.size := lt_of_cell x10
      have hiin1 : (i : Int) < (n1 : Int) := by omega
      have HOP1 := Lib.hid hop1
      have hF1 : ∀ w', Below W.heap.size W w' → True := fun _ _ => trivial
      clear hmem1 hop1 he1 hF1
      obtain ⟨⟨K1, A1, B1, N1, M1', pa1, pn1, pc1, da1, dn1, dc1, yes1⟩, parts1, data1⟩ := e1
      dsimp only at x10 x11 x12 x13 x14 x15 x16 x17
      have hil2 : i < l2.length := by rw [HN2.out]; exact hi2
      have HCT2 := Lib.hid (costs_take hil2)
      have HCL2 := Lib.hid (Nat.le_trans (costs_le (l := l2) (i + 1)) HL2.out)
      have hmem2 : l2[i]! ∈ l2 := by rw [getElem!_pos l2 i hil2]; exact List.getElem_mem _
      have hop2 := HS2.out.ops _ hmem2
      obtain ⟨b2, off2, hXe2, hbl2, x20, x21, x22, x23, x24, x25, x26, x27⟩ := ops_at HS2.out.row hi2
      obtain ⟨e2, he2⟩ : ∃ e, l2[i]! = e := ⟨_, rfl⟩
      have HE2 := Lib.hid he2
      rw [he2] at x20 x21 x22 x23 x24 x25 x26 x27 hop2 HCT2
      have x20 := (hB.cell (p := ⟨b2, off2 + i * 8, none⟩) hbl2).trans x20
      have x21 := (hB.cell (p := ⟨b2, off2 + i * 8 + 1, none⟩) hbl2).trans x21
      have x22 := (hB.cell (p := ⟨b2, off2 + i * 8 + 2, none⟩) hbl2).trans x22
      have x23 := (hB.cell (p := ⟨b2, off2 + i * 8 + 3, none⟩) hbl2).trans x23
      have x24 := (hB.cell (p := ⟨b2, off2 + i * 8 + 4, none⟩) hbl2).trans x24
      have x25 := (hB.cell (p := ⟨b2, off2 + i * 8 + 5, none⟩) hbl2).trans x25
      have x26 := (hB.cell (p := ⟨b2, off2 + i * 8 + 6, none⟩) hbl2).trans x26
      have x27 := (hB.cell (p := ⟨b2, off2 + i * 8 + 7, none⟩) hbl2).trans x27
      subst hXe2
      have hbr2 : b2 < wr.heap.size := lt_of_cell x20
      have hiin2 : (i : Int) < (n2 : Int) := by omega
      have HOP2 := Lib.hid hop2
      have hF2 : ∀ w', Below W.heap.size W w' → True := fun _ _ => trivial
      clear hmem2 hop2 he2 hF2
      obtain ⟨⟨K2, A2, B2, N2, M2', pa2, pn2, pc2, da2, dn2, dc2, yes2⟩, parts2, data2⟩ := e2
      dsimp only at x20 x21 x22 x23 x24 x25 x26 x27
      have HR0 := Lib.hid hr
      clear hr hB
      go_wp2_with fail
      refine ((HR0.out).step hst ⟨⟨K1, A1, B1, N1, M1', pa1, pn1, pc1, da1, dn1, dc1, yes1⟩, parts1, data1⟩ HOP1.out (by rw [← HCT1.out]; exact HCL1.out)).mono ?_
      rintro x w6 ⟨rfl, hr6⟩
      have hlow := HS2.out.row
      obtain ⟨b2', off2', hXe2', hbl2', y0, y1, y2, y3, y4, y5, y6, y7⟩ := ops_at hlow hi2
      injection hXe2' with hXe2'
      injection hXe2' with hXb hXo _
      subst hXb hXo
      rw [HE2.out] at y0 y1 y2 y3 y4 y5 y6 y7
      dsimp only at y0 y1 y2 y3 y4 y5 y6 y7
      have y0 := (hr6.below.cell (p := ⟨b2, off2 + i * 8, none⟩) hbl2).trans y0
      have y1 := (hr6.below.cell (p := ⟨b2, off2 + i * 8 + 1, none⟩) hbl2).trans y1
      have y2 := (hr6.below.cell (p := ⟨b2, off2 + i * 8 + 2, none⟩) hbl2).trans y2
      have y3 := (hr6.below.cell (p := ⟨b2, off2 + i * 8 + 3, none⟩) hbl2).trans y3
      have y4 := (hr6.below.cell (p := ⟨b2, off2 + i * 8 + 4, none⟩) hbl2).trans y4
      have y5 := (hr6.below.cell (p := ⟨b2, off2 + i * 8 + 5, none⟩) hbl2).trans y5
      have y6 := (hr6.below.cell (p := ⟨b2, off2 + i * 8 + 6, none⟩) hbl2).trans y6
      have y7 := (hr6.below.cell (p := ⟨b2, off2 + i * 8 + 7, none⟩) hbl2).trans y7
      have hbr6 : b2 < w6.heap.size := lt_of_cell y0
      have HR6 := Lib.hid hr6.swap
      clear hr6 x10 x11 x12 x13 x14 x15 x16 x17 hlow x20 x21 x22 x23 x24 x25 x26 x27 hbr2
      go_wp2_with fail
      refine ((HR6.out).step hst ⟨⟨K2, A2, B2, N2, M2', pa2, pn2, pc2, da2, dn2, dc2, yes2⟩, parts2, data2⟩ HOP2.out (by rw [← HCT2.out]; exact HCL2.out)).mono ?_
      rintro x w7 ⟨rfl, hr7⟩
      have HR7 := Lib.hid hr7.swap
      clear hr7 y0 y1 y2 y3 y4 y5 y6 y7
      go_wp2_with fail
      go_roundg (gk - 1)
      case measure => have := HIG.out; omega
      case rel =>
        have q1 : costs (l1.take (i + 1)) = costs (l1.take i) + costO _ := HCT1.out
        have q2 : costs (l2.take (i + 1)) = costs (l2.take i) + costO _ := HCT2.out
        exact ⟨i + 1, by have := HIG.out; omega, by go_num, _, _, by rw [q1, q2]; exact HR7.out⟩
    · have el1 : decide ((i : Int) < (n1 : Int)) = true := by simp; omega
      have el1' : decide (i < n1) = true := by simp; omega
      have el2 : decide ((i : Int) < (n2 : Int)) = false := by simp; omega
      have el2' : decide (i < n2) = false := by simp; omega
      have hil1 : i < l1.length := by rw [HN1.out]; exact hi1
      have HCT1 := Lib.hid (costs_take hil1)
      have HCL1 := Lib.hid (Nat.le_trans (costs_le (l := l1) (i + 1)) HL1.out)
      have hmem1 : l1[i]! ∈ l1 := by rw [getElem!_pos l1 i hil1]; exact List.getElem_mem _
      have hop1 := HS1.out.ops _ hmem1
      obtain ⟨b1, off1, hXe1, hbl1, x10, x11, x12, x13, x14, x15, x16, x17⟩ := ops_at HS1.out.row hi1
      obtain ⟨e1, he1⟩ : ∃ e, l1[i]! = e := ⟨_, rfl⟩
      rw [he1] at x10 x11 x12 x13 x14 x15 x16 x17 hop1 HCT1
      have x10 := (hB.cell (p := ⟨b1, off1 + i * 8, none⟩) hbl1).trans x10
      have x11 := (hB.cell (p := ⟨b1, off1 + i * 8 + 1, none⟩) hbl1).trans x11
      have x12 := (hB.cell (p := ⟨b1, off1 + i * 8 + 2, none⟩) hbl1).trans x12
      have x13 := (hB.cell (p := ⟨b1, off1 + i * 8 + 3, none⟩) hbl1).trans x13
      have x14 := (hB.cell (p := ⟨b1, off1 + i * 8 + 4, none⟩) hbl1).trans x14
      have x15 := (hB.cell (p := ⟨b1, off1 + i * 8 + 5, none⟩) hbl1).trans x15
      have x16 := (hB.cell (p := ⟨b1, off1 + i * 8 + 6, none⟩) hbl1).trans x16
      have x17 := (hB.cell (p := ⟨b1, off1 + i * 8 + 7, none⟩) hbl1).trans x17
      subst hXe1
      have hbr1 : b1 < wr.heap.size := lt_of_cell x10
      have hiin1 : (i : Int) < (n1 : Int) := by omega
      have HOP1 := Lib.hid hop1
      have hF1 : ∀ w', Below W.heap.size W w' → True := fun _ _ => trivial
      clear hmem1 hop1 he1 hF1
      obtain ⟨⟨K1, A1, B1, N1, M1', pa1, pn1, pc1, da1, dn1, dc1, yes1⟩, parts1, data1⟩ := e1
      dsimp only at x10 x11 x12 x13 x14 x15 x16 x17
      have HR0 := Lib.hid hr
      clear hr hB
      go_wp2_with fail
      refine ((HR0.out).step hst ⟨⟨K1, A1, B1, N1, M1', pa1, pn1, pc1, da1, dn1, dc1, yes1⟩, parts1, data1⟩ HOP1.out (by rw [← HCT1.out]; exact HCL1.out)).mono ?_
      rintro x w6 ⟨rfl, hr6⟩
      have HR6 := Lib.hid hr6
      clear hr6 x10 x11 x12 x13 x14 x15 x16 x17
      go_wp2_with fail
      go_roundg (gk - 1)
      case measure => have := HIG.out; omega
      case rel =>
        have q1 : costs (l1.take (i + 1)) = costs (l1.take i) + costO _ := HCT1.out
        have q2 : costs (l2.take (i + 1)) = costs (l2.take i) := by rw [List.take_of_length_le (by rw [HN2.out]; omega), List.take_of_length_le (by rw [HN2.out]; omega)]
        exact ⟨i + 1, by have := HIG.out; omega, by go_num, _, _, by rw [q1, q2]; exact HR6.out⟩
    · have el1 : decide ((i : Int) < (n1 : Int)) = false := by simp; omega
      have el1' : decide (i < n1) = false := by simp; omega
      have el2 : decide ((i : Int) < (n2 : Int)) = true := by simp; omega
      have el2' : decide (i < n2) = true := by simp; omega
      have hil2 : i < l2.length := by rw [HN2.out]; exact hi2
      have HCT2 := Lib.hid (costs_take hil2)
      have HCL2 := Lib.hid (Nat.le_trans (costs_le (l := l2) (i + 1)) HL2.out)
      have hmem2 : l2[i]! ∈ l2 := by rw [getElem!_pos l2 i hil2]; exact List.getElem_mem _
      have hop2 := HS2.out.ops _ hmem2
      obtain ⟨b2, off2, hXe2, hbl2, x20, x21, x22, x23, x24, x25, x26, x27⟩ := ops_at HS2.out.row hi2
      obtain ⟨e2, he2⟩ : ∃ e, l2[i]! = e := ⟨_, rfl⟩
      rw [he2] at x20 x21 x22 x23 x24 x25 x26 x27 hop2 HCT2
      have x20 := (hB.cell (p := ⟨b2, off2 + i * 8, none⟩) hbl2).trans x20
      have x21 := (hB.cell (p := ⟨b2, off2 + i * 8 + 1, none⟩) hbl2).trans x21
      have x22 := (hB.cell (p := ⟨b2, off2 + i * 8 + 2, none⟩) hbl2).trans x22
      have x23 := (hB.cell (p := ⟨b2, off2 + i * 8 + 3, none⟩) hbl2).trans x23
      have x24 := (hB.cell (p := ⟨b2, off2 + i * 8 + 4, none⟩) hbl2).trans x24
      have x25 := (hB.cell (p := ⟨b2, off2 + i * 8 + 5, none⟩) hbl2).trans x25
      have x26 := (hB.cell (p := ⟨b2, off2 + i * 8 + 6, none⟩) hbl2).trans x26
      have x27 := (hB.cell (p := ⟨b2, off2 + i * 8 + 7, none⟩) hbl2).trans x27
      subst hXe2
      have hbr2 : b2 < wr.heap.size := lt_of_cell x20
      have hiin2 : (i : Int) < (n2 : Int) := by omega
      have HOP2 := Lib.hid hop2
      have hF2 : ∀ w', Below W.heap.size W w' → True := fun _ _ => trivial
      clear hmem2 hop2 he2 hF2
      obtain ⟨⟨K2, A2, B2, N2, M2', pa2, pn2, pc2, da2, dn2, dc2, yes2⟩, parts2, data2⟩ := e2
      dsimp only at x20 x21 x22 x23 x24 x25 x26 x27
      have HR0 := Lib.hid hr
      clear hr hB
      go_wp2_with fail
      refine ((HR0.out.swap).step hst ⟨⟨K2, A2, B2, N2, M2', pa2, pn2, pc2, da2, dn2, dc2, yes2⟩, parts2, data2⟩ HOP2.out (by rw [← HCT2.out]; exact HCL2.out)).mono ?_
      rintro x w6 ⟨rfl, hr6⟩
      have HR6 := Lib.hid hr6.swap
      clear hr6 x20 x21 x22 x23 x24 x25 x26 x27
      go_wp2_with fail
      go_roundg (gk - 1)
      case measure => have := HIG.out; omega
      case rel =>
        have q1 : costs (l1.take (i + 1)) = costs (l1.take i) := by rw [List.take_of_length_le (by rw [HN1.out]; omega), List.take_of_length_le (by rw [HN1.out]; omega)]
        have q2 : costs (l2.take (i + 1)) = costs (l2.take i) + costO _ := HCT2.out
        exact ⟨i + 1, by have := HIG.out; omega, by go_num, _, _, by rw [q1, q2]; exact HR6.out⟩
    · have el1 : decide ((i : Int) < (n1 : Int)) = false := by simp; omega
      have el1' : decide (i < n1) = false := by simp; omega
      have el2 : decide ((i : Int) < (n2 : Int)) = false := by simp; omega
      have el2' : decide (i < n2) = false := by simp; omega
      have HR0 := Lib.hid hr
      have HC1 := Lib.hid (Nat.le_trans (costs_le (l := l1) i) HL1.out)
      have HC2 := Lib.hid (Nat.le_trans (costs_le (l := l2) i) HL2.out)
      clear hr hB
      go_wp2_with fail
      refine (HR0.out.alike hst HC1.out).mono ?_
      rintro x w6 ⟨rfl, hr6⟩
      have HR6 := Lib.hid hr6.swap
      clear hr6
      go_wp2_with fail
      refine (HR6.out.alike hst HC2.out).mono ?_
      rintro x w7 ⟨rfl, hr7⟩
      have HB7 := Lib.hid hr7.below
      clear hr7
      go_wp2_with fail
      go_ret
      exact ⟨rfl, HB7.out⟩
end Go.Proofs.YtdaidbnbfjgjeaaGreatDoor
