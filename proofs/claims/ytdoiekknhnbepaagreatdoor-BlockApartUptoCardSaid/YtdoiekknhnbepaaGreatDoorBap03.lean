/- Merged (what the claim wants of): LabWalksC, Texts, SymWalksA, SymWalksB, SymWalksC, SymWalksE, RLabWalksA, Iter, ColWalks, AggPlain, LabCmp, BlkPlain, BlkMem, ChkWalksD, ChkWalksE, ChkRdA. -/
import Derived.Test.YtdoiekknhnbepaaGreatDoorBap02
import Derived.Test.YtdoiekknhnbepaaGreatDoorProg
import Derived.Test.YtdoiekknhnbepaaGreatDoorBap01
import Derived.Laws.AppendOwnNone
import Derived.Sort.OwnSorted
import Derived.Deep.LoopGhost
import Derived.Deep.CutBlock
import Derived.IntWalk
import Derived.Lib.RowBridge
import Derived.Laws.OwnMore
import Derived.Shelf.SlIter.Nil
import Derived.Shelf.SortM.Plain
import Derived.Shelf.SortM.SortNone
import Derived.StringKeys
import Derived.Maps.OwnOps
import Derived.Maps.Views
import Derived.Laws.BytesArg
set_option linter.unusedVariables false
set_option linter.unusedSimpArgs false
set_option maxRecDepth 100000
set_option maxHeartbeats 8000000
namespace Go.Proofs.YtdoiekknhnbepaaGreatDoor
section
open Go.RowKit Go.Sort
open Lib renaming hid → Jh
open List renaming length_append → Jd
attribute [local go_sem ↓] Go.wp_at_zero Go.wp_at_succ
attribute [local go_sem] Later.cell
theorem Kki (x y : Lb) (W : World) :
  Calls Tryz.prog 130 #[.agg #[.string ⟨x.n.toArray⟩, .string ⟨x.v.toArray⟩], .agg #[.string ⟨y.n.toArray⟩, .string ⟨y.v.toArray⟩]] W fun e w' => e = .returned (.int .i64 (Lib.compareBytes x.n y.n)) ∧ Below W.heap.size W w' := by
 refine (Kgn x y W).mono ?_; rintro e w' ⟨he, q, os, rfl⟩; exact ⟨he, below_grown W q os⟩
def Khn (l : List Lb) : Prop := ∀ i, i + 1 < l.length → ¬ l[i + 1]!.n < l[i]!.n
theorem Kca {w wr : World} {b off n : Nat} {l : List Lb} (hE : Elems w w.heap.size 2 encLb (some ⟨b, off, none⟩) n l) (hn : 0 < n) (hB : Below w.heap.size w wr) (i : Nat) (hi : i < l.length) :
  b < w.heap.size ∧ wr.cell? ⟨b, off + i * 2, none⟩ = some (.string ⟨l[i]!.n.toArray⟩) ∧ wr.cell? ⟨b, off + i * 2 + 1, none⟩ = some (.string ⟨l[i]!.v.toArray⟩) := by
 have hbl : b < w.heap.size := by
  obtain ⟨b', off', e, hb, _⟩ := hE.2 hn; injection e with e; injection e with e _; rw [e]; exact hb
 have hc := Khu hE hn; refine ⟨hbl, ?_, ?_⟩
 ·rw [hB.cell (p := ⟨b, off + i * 2, none⟩) hbl, hc (i * 2) (by omega), Kde l _ (by omega), show i * 2 / 2 = i by omega, show i * 2 % 2 = 0 by omega]; rfl
 ·rw [hB.cell (p := ⟨b, off + i * 2 + 1, none⟩) hbl]; have := hc (i * 2 + 1) (by omega); rw [← Nat.add_assoc] at this; rw [this, Kde l _ (by omega), show (i * 2 + 1) / 2 = i by omega, show (i * 2 + 1) % 2 = 1 by omega]; rfl
theorem Kpg (l : List Lb) (A : Option Addr) (n c : Nat) (w : World) (r : Bool) (hr : r = true ↔ Khn l) (hE : Elems w w.heap.size 2 encLb A n l) (hn8 : n ≤ 8) :
  Calls Tryz.prog 161 #[.slice A n c, .func (.func 130) #[] #[]] w fun e w' => e = .returned (.bool r) ∧ Below w.heap.size w w' := by
 have hl := hE.len; have HL := Jh hl; have HR := Jh hr; clear hl hr; go_enter Tryz.func161, Tryz.ntmps161
 go_wp2_with fail
 go_loopg [5] n (fun g s5 wr => ∃ m : Int, s5 = .int .i64 m ∧ m + 1 ≤ (g : Int) ∧ -1 ≤ m ∧ m < (n : Int) ∧ Below w.heap.size w wr ∧ ∀ j : Nat, m ≤ (j : Int) → j + 1 < l.length → ¬ l[j + 1]!.n < l[j]!.n)
 case atStart => exact ⟨(n : Int) - 1, rfl, by omega, by omega, by omega, Below.refl _ _, fun j hj hj2 => by have := HL.out; omega⟩
 case round =>
  obtain ⟨m, rfl, hmg, hm1, hmn, hB, hall⟩ := hrel; have HALL := Jh hall; clear hall
  by_cases hm : 0 < m
  ·obtain ⟨j, rfl⟩ : ∃ j : Nat, m = (j : Int) + 1 := ⟨(m - 1).toNat, by omega⟩; have hjl : j + 1 < l.length := by have := HL.out; omega
   obtain ⟨b, off, rfl, _, _⟩ := hE.2 (by omega); obtain ⟨hbl, a0, a1⟩ := Kca hE (by omega) hB (j + 1) hjl; obtain ⟨_, b0, b1⟩ := Kca hE (by omega) hB j (by omega); obtain ⟨x, hx⟩ : ∃ x, l[j + 1]! = x := ⟨_, rfl⟩; obtain ⟨y, hy⟩ : ∃ x, l[j]! = x := ⟨_, rfl⟩; rw [hx] at a0 a1; rw [hy] at b0 b1; obtain ⟨q, hq⟩ : ∃ q, Lib.compareBytes x.n y.n = q := ⟨_, rfl⟩; have hcall : ∀ X : Later wr, Calls Tryz.prog 130 #[.agg #[.string ⟨x.n.toArray⟩, .string ⟨x.v.toArray⟩], .agg #[.string ⟨y.n.toArray⟩, .string ⟨y.v.toArray⟩]] X.w fun e w' => e = .returned (.int .i64 q) ∧ Below X.w.heap.size X.w w' := fun X => by rw [← hq]; exact Kki x y X.w
   have hlt : (q < 0) ↔ x.n < y.n := by rw [← hq]; exact Qgm _ _
   have HLT := Jh hlt; have HX := Jh hx; have HY := Jh hy; have HC := Jh hcall; have hbr : b < wr.heap.size := by have := hB.size; omega
   have em : decide ((0 : Int) < (j : Int) + 1) = true := by rw [decide_eq_true_eq]; omega
   clear hx hy hq hlt hcall hm; obtain ⟨X0, hX0⟩ : ∃ N : ByteArray, (⟨x.n.toArray⟩ : ByteArray) = N := ⟨_, rfl⟩; obtain ⟨X1, hX1⟩ : ∃ N : ByteArray, (⟨x.v.toArray⟩ : ByteArray) = N := ⟨_, rfl⟩; obtain ⟨Y0, hY0⟩ : ∃ N : ByteArray, (⟨y.n.toArray⟩ : ByteArray) = N := ⟨_, rfl⟩; obtain ⟨Y1, hY1⟩ : ∃ N : ByteArray, (⟨y.v.toArray⟩ : ByteArray) = N := ⟨_, rfl⟩; rw [hX0] at a0; rw [hX1] at a1; rw [hY0] at b0; rw [hY1] at b1; rw [hX0, hX1, hY0, hY1] at HC; clear hX0 hX1 hY0 hY1; go_upto_region 4 with fail
   have z1 : IntKind.i64.wrap ((j : Int) + 1 - 1) = (j : Int) := by rw [show (j : Int) + 1 - 1 = (j : Int) by omega]; exact IntWalk.i64_in _ (by omega)
   have z2 : (0 : Int) ≤ (j : Int) + 1 := by omega
   have z3 : ((j : Int) + 1).toNat = j + 1 := by omega
   have z4 : (j : Int) + 1 < (n : Int) := by have := HL.out; omega
   have z5 : (j : Int) < (n : Int) := by omega
   refine Kai (by kernel_rfl) (by kernel_rfl) ?_
   repeat (go_big_quiet_step (first | (go_at_call 130; exact Kal _ (HC.out _))))
   refine wpQuiet_nil ?_; rintro w3 ⟨⟨_, hb3⟩, rfl⟩; clear z1 z2 z3 z4 z5; have hB3 : Below w.heap.size w w3 := then_ hB hb3
   by_cases hq0 : q < 0
   ·have hrf : r = false := by
     rw [← Bool.not_eq_true]; intro h; have := (HR.out.1 h) j (by omega); rw [HX.out, HY.out] at this; exact this (HLT.out.1 hq0)
    subst hrf; go_wp2_with fail
    go_ret
    exact ⟨rfl, hB3⟩
   ·have eq0 : decide (q < 0) = false := by simpa using hq0
    go_wp2_with fail
    go_roundg (gk - 1)
    case measure => omega
    case rel =>
     refine ⟨(j : Int), by go_num, by omega, by omega, by omega, hB3, fun j' h1 h2 => ?_⟩
     by_cases e : j' = j
     ·subst e; rw [HX.out, HY.out]; intro h; exact absurd (HLT.out.2 h) (by omega)
     ·exact HALL.out j' (by omega) h2
  ·have em : decide ((0 : Int) < m) = false := by simpa using hm
   have hrt : r = true := HR.out.2 (fun i hi => HALL.out i (by omega) hi); subst hrt; go_wp2_with fail
   go_ret
   exact ⟨rfl, hB⟩
def Kcw (l : List Lb) : Bool := decide (Kbj l = 0) && decide ((names l).Pairwise (· < ·))
theorem Kqm {l : List Lb} (h : (names l).Nodup) : Khn l ↔ (names l).Pairwise (· < ·) := by
 constructor
 ·intro hr
  have key : ∀ l : List Lb, Khn l → (names l).Nodup → (names l).Pairwise (· < ·) := by
   intro l
   induction l with
   | nil => intro _ _; exact List.Pairwise.nil
   | cons x l ih =>
    intro hr hn; have hn' := List.nodup_cons.1 hn; have hrl : Khn l := fun i hi => by have := hr (i + 1) (by simpa using hi); simpa using this
    have ihl := ih hrl hn'.2; refine List.pairwise_cons.2 ⟨?_, ihl⟩
    cases l with
    | nil => intro z hz; simp at hz
    | cons y l =>
     have h0 := hr 0 (by simp)
     have hxy : x.n < y.n := by
      have h1 : ¬ y.n < x.n := by simpa using h0
      apply Classical.byContradiction; intro h2; have := Kwu h2 h1; exact hn'.1 (by simp [this, names])
     intro z hz; rcases List.mem_cons.1 hz with rfl | hz
     ·exact hxy
     ·exact List.lt_trans hxy ((List.pairwise_cons.1 ihl).1 z hz)
  exact key l hr h
 ·intro hp i hi hlt; have h1 : i + 1 < (names l).length := by simpa [names] using hi
  have := List.pairwise_iff_getElem.1 hp i (i + 1) (by omega) h1 (by omega); simp only [names, List.getElem_map] at this; rw [getElem!_pos l (i + 1) hi, getElem!_pos l i (by omega)] at hlt; exact List.lt_asymm this hlt
theorem Kns (l : List Lb) : Kcw l = true ↔ Kbj l = 0 ∧ Khn l := by
 unfold Kcw; rw [Bool.and_eq_true, decide_eq_true_eq, decide_eq_true_eq]; constructor
 ·rintro ⟨h1, h2⟩; exact ⟨h1, (Kqm (Kei h1).2.2.2).2 h2⟩
 ·rintro ⟨h1, h2⟩; exact ⟨h1, (Kqm (Kei h1).2.2.2).1 h2⟩
set_option maxHeartbeats 400000 in
theorem Khf (l : List Lb) (A : Option Addr) (n c : Nat) (w : World) (r : Bool) (hr : Kcw l = r) (hE : Elems w w.heap.size 2 encLb A n l) (hnc : n ≤ c) (hnm : n ≤ 140737488351232) (hz : ∀ x ∈ l, x.n.length ≤ 140737488351232 ∧ x.v.length ≤ 140737488351232) :
  Calls Tryz.prog 105 #[.slice A n c] w fun e w' => e = .returned (.bool r) ∧ Below w.heap.size w w' := by
 obtain ⟨m, hm⟩ : ∃ m, Kbj l = m := ⟨_, rfl⟩; have hmk := Khy l A n c w hE hnc hnm hz; rw [hm] at hmk; have HMK := Jh hmk; have HR := Jh hr; have HM := Jh hm; clear hmk hr hm hz
 by_cases h0 : m = 0
 ·subst h0; have hok := Kei HM.out; have hn8 : n ≤ 8 := by have := hE.len; omega
  have hri : r = true ↔ Khn l := by
   rw [← HR.out, Kns]; exact ⟨fun h => h.2, fun h => ⟨HM.out, h⟩⟩
  have HRI := Jh hri; clear hri hok; go_enter Tryz.func105, Tryz.ntmps105
  go_wp2_with fail
  refine HMK.out.mono ?_; rintro e w1 ⟨⟨v, rfl⟩, hb1⟩; have hE1 : Elems w1 w1.heap.size 2 encLb A n l := (hE.below hb1).more hb1.size; go_wp2_with fail
  refine (Kpg l A n c w1 r HRI.out hE1 hn8).mono ?_; rintro e w2 ⟨rfl, hb2⟩; go_wp2_with fail
  go_ret
  exact ⟨rfl, then_ hb1 hb2⟩
 ·have hrf : r = false := by
   rw [← HR.out, ← Bool.not_eq_true, Kns]; rintro ⟨h, _⟩; exact h0 (by rw [← HM.out]; exact h)
  subst hrf; have em : ((m : Int) == 0) = false := by rw [beq_eq_false_iff_ne]; omega
  go_enter Tryz.func105, Tryz.ntmps105
  go_wp2_with fail
  refine HMK.out.mono ?_; rintro e w1 ⟨⟨v, rfl⟩, hb1⟩; go_wp2_with fail
  go_ret
  exact ⟨rfl, hb1⟩
theorem Ksj {x : Lb} (h1 : fitN x.n = true) (h2 : fitV x.v = true) : (labT x).length ≤ 118 := by
 have h3 := Kab x.n.length; have h4 := Kab x.v.length; simp only [fitN, fitV, Bool.and_eq_true, decide_eq_true_eq] at h1 h2; simp only [labT, textT, Jd]; omega
theorem Kto {l : List Lb} (h : ∀ x ∈ l, fitN x.n = true ∧ fitV x.v = true) : (l.flatMap labT).length ≤ 118 * l.length := by
 induction l with
 | nil => simp
 | cons x l ih =>
  have h1 := Ksj (h x (by simp)).1 (h x (by simp)).2; have h2 := ih (fun y hy => h y (by simp [hy])); rw [List.flatMap_cons, Jd, List.length_cons]; omega
theorem Kgt (l : List Lb) : (Kbj l ≠ 0 ∧ Kci l = Kbj l) ∨ (Kbj l = 0 ∧ Kcw l = false ∧ Kci l = 42) ∨ (Kbj l = 0 ∧ Kcw l = true ∧ Kci l = 0) := by
 unfold Kci Kcw
 by_cases h : Kbj l = 0
 ·by_cases h2 : (names l).Pairwise (· < ·)
  ·exact .inr (.inr ⟨h, by simp [h, h2], by simp [h, h2]⟩)
  ·exact .inr (.inl ⟨h, by simp [h2], by simp [h, h2]⟩)
 ·exact .inl ⟨h, by simp [h]⟩
theorem Ktp (l : List Lb) (A : Option Addr) (n c : Nat) (w : World) (hE : Elems w w.heap.size 2 encLb A n l) (hnc : n ≤ c) (hnm : n ≤ 140737488351232) (hz : ∀ x ∈ l, x.n.length ≤ 140737488351232 ∧ x.v.length ≤ 140737488351232) :
  Calls Tryz.prog 114 #[.slice A n c] w fun e w' => e = .returned (.tuple #[.string ⟨(Kfv l).toArray⟩, .int .i64 (Kci l)]) ∧ Below w.heap.size w w' := by
 obtain ⟨m, hm⟩ : ∃ m, Kbj l = m := ⟨_, rfl⟩; have hmk := Khy l A n c w hE hnc hnm hz; rw [hm] at hmk; have HMK := Jh hmk; have HM := Jh hm; have HZ := Jh hz; clear hmk hz; rcases Kgt l with ⟨h1, h2⟩ | ⟨h1, h2, h3⟩ | ⟨h1, h2, h3⟩
 ·rw [hm] at h1 h2; have ho : Kfv l = [] := by rw [Kfv, h2, if_neg h1]
  rw [ho, h2]; have em : ((m : Int) != 0) = true := by simp; omega
  clear hm h2 ho; go_enter Tryz.func114, Tryz.ntmps114
  go_wp2_with fail
  refine HMK.out.mono ?_; rintro e w1 ⟨⟨v, rfl⟩, hb1⟩; go_wp2_with fail
  go_ret2
  exact ⟨rfl, hb1⟩
 ·have hm0 : m = 0 := by rw [← hm]; exact h1
  have ho : Kfv l = [] := by rw [Kfv, h3, if_neg (by omega)]
  rw [ho, h3]; have HV := Jh h2; clear hm h1 h2 h3 ho; subst hm0; go_enter Tryz.func114, Tryz.ntmps114
  go_wp2_with fail
  refine HMK.out.mono ?_; rintro e w1 ⟨⟨v, rfl⟩, hb1⟩; have hE1 : Elems w1 w1.heap.size 2 encLb A n l := (hE.below hb1).more hb1.size; go_wp2_with fail
  refine (Khf l A n c w1 false HV.out hE1 hnc hnm HZ.out).mono ?_; rintro e w2 ⟨rfl, hb2⟩; go_wp2_with fail
  go_ret2
  exact ⟨rfl, then_ hb1 hb2⟩
 ·have hm0 : m = 0 := by rw [← hm]; exact h1
  have ho : Kfv l = encL l := by rw [Kfv, h3, if_pos rfl]
  obtain ⟨hn0, hn8, hfit, _⟩ := Kei h1; have hl := hE.len; rw [ho, h3]; have HV := Jh h2; have HL := Jh hl; have HFIT := Jh hfit; have hn8' : n ≤ 8 := by omega
  have hnp : 0 < n := by omega
  clear hm h1 h2 h3 ho hfit; subst hm0
  have htot : (encL l).length ≤ 1000 := by
   have h1 := Kab l.length; have h2 := Kto HFIT.out; rw [encL, Jd]; omega
  obtain ⟨b, off, rfl, _, _⟩ := hE.2 hnp; clear hl hn0 hn8; go_enter Tryz.func114, Tryz.ntmps114
  go_wp2_with fail
  refine HMK.out.mono ?_; rintro e w1 ⟨⟨v, rfl⟩, hb1⟩; have hE1 : Elems w1 w1.heap.size 2 encLb (some ⟨b, off, none⟩) n l := (hE.below hb1).more hb1.size; go_wp2_with fail
  refine (Khf l _ n c w1 true HV.out hE1 hnc hnm HZ.out).mono ?_; rintro e w2 ⟨rfl, hb2⟩; have hB2 := then_ hb1 hb2; go_upto_region 7 with fail
  have hbd : Bld w.heap.size w2.heap.size [] (w2.alloc (.cells #[.pointer none, .slice none 0 0] 109)) := Bld.new w2 hB2.size; have hB3 : Below w.heap.size w (w2.alloc (.cells #[.pointer none, .slice none 0 0] 109)) := hB2.alloc hB2.size _; obtain ⟨w3, hw3⟩ : ∃ x, w2.alloc (.cells #[.pointer none, .slice none 0 0] 109) = x := ⟨_, rfl⟩; obtain ⟨p, hp⟩ : ∃ p, w2.heap.size = p := ⟨_, rfl⟩; rw [hw3] at hbd hB3 ⊢; rw [hp] at hbd ⊢; clear hw3 hp hE1 hb1 hb2; have hlu := Kab n; have hu := Kau n (by omega) w3; obtain ⟨U, hU⟩ : ∃ U : ByteArray, (⟨(uintT n).toArray⟩ : ByteArray) = U := ⟨_, rfl⟩; have hUU : U.data.toList = uintT n := by rw [← hU]
  have hUz : U.size ≤ 11 := by rw [← Kah, hUU]; exact hlu.2
  rw [hU] at hu; have HU := Jh hu; have HUU := Jh hUU; clear hu hU hUU hlu; go_wp2_with fail
  refine HU.out.mono ?_; rintro e w4 ⟨rfl, hb4⟩; have hbd4 := hbd.below hb4; have hB4 := then_ hB3 hb4; clear hbd HU; go_wp2_with fail
  refine (Kax _ p [] U w4 hbd4 (by simp; omega) hB4.size).mono ?_; rintro e w5 ⟨rfl, hbd5, hw5, _⟩; rw [List.nil_append, HUU.out] at hbd5; have hB5 := hB4.trans hw5; clear hbd4 hw5 hb4; go_upto_block 1 with fail
  go_cut [] (fun wz => Bld w.heap.size p (encL l) wz ∧ Below w.heap.size w wz)
  case first =>
   go_wp2_with fail
   go_loopg [29] n (fun g s29 wr => ∃ i : Nat, i + g = n ∧ s29 = .int .i64 (i : Int) ∧ Bld w.heap.size p (uintT n ++ (l.take i).flatMap labT) wr ∧ Below w.heap.size w wr)
   case atStart => exact ⟨0, by omega, rfl, by simpa using hbd5, hB5⟩
   case round =>
    obtain ⟨i, hig, rfl, hbd, hB⟩ := hrel; have HIG := Jh hig; clear hig
    by_cases hi : i < n
    ·have hil : i < l.length := by have := HL.out; omega
     have el : decide ((i : Int) < (n : Int)) = true := by simp; omega
     have el' : decide (i < n) = true := by simp; omega
     obtain ⟨hbl, c0, c1⟩ := Kca hE hnp hB i hil; obtain ⟨x, hx⟩ : ∃ x, l[i]! = x := ⟨_, rfl⟩; have hxm : x ∈ l := by rw [← hx, getElem!_pos l i hil]; exact List.getElem_mem hil
     have hxf := HFIT.out x hxm; have hlx := Ksj hxf.1 hxf.2; rw [hx] at c0 c1; obtain ⟨N, hN⟩ : ∃ N : ByteArray, (⟨x.n.toArray⟩ : ByteArray) = N := ⟨_, rfl⟩; obtain ⟨V, hV⟩ : ∃ N : ByteArray, (⟨x.v.toArray⟩ : ByteArray) = N := ⟨_, rfl⟩; rw [hN] at c0; rw [hV] at c1; have hNn : N.data.toList = x.n := by rw [← hN]
     have hVv : V.data.toList = x.v := by rw [← hV]
     have hNz : N.size ≤ 1000 := by rw [← Kah, hNn]; have := hxf.1; simp only [fitN, Bool.and_eq_true, decide_eq_true_eq] at this; omega
     have hVz : V.size ≤ 1000 := by rw [← Kah, hVv]; have := hxf.2; simp only [fitV, Bool.and_eq_true, decide_eq_true_eq] at this; omega
     have hsofar : (uintT n ++ (l.take i).flatMap labT).length + (labT x).length ≤ 1000 := by
      have e1 : l.take (i + 1) = l.take i ++ [x] := by rw [List.take_succ_eq_append_getElem hil, ← hx, getElem!_pos l i hil]
      have h1 := Kab n; have h2 : ((l.take (i + 1)).flatMap labT).length ≤ 118 * (l.take (i + 1)).length := Kto (fun y hy => HFIT.out y (List.mem_of_mem_take hy)); have h3 : (l.take (i + 1)).length ≤ 8 := by rw [List.length_take]; omega
      rw [e1, List.flatMap_append, Jd] at h2; simp only [List.flatMap_cons, List.flatMap_nil, List.append_nil, ← e1] at h2; rw [Jd]; omega
     have hnext : (uintT n ++ (l.take i).flatMap labT) ++ textT x.n ++ textT x.v = uintT n ++ (l.take (i + 1)).flatMap labT := by
      rw [List.take_succ_eq_append_getElem hil, ← getElem!_pos l i hil, hx, List.flatMap_append]; simp [labT]
     obtain ⟨P0, hP0⟩ : ∃ P, uintT n ++ (l.take i).flatMap labT = P := ⟨_, rfl⟩; rw [hP0] at hbd hsofar hnext; have hlab : (labT x).length = (textT x.n).length + (textT x.v).length := by simp [labT]
     have HNEXT := Jh hnext; have HNn := Jh hNn; have HVv := Jh hVv; clear hx hN hV hNn hVv hnext hP0 hxm hxf; go_upto_region 11 with fail
     have hq : Blk (wr.alloc (.cells #[.string N, .string V] 99)) wr.heap.size 99 #[.string N, .string V] := Blk.new _ _ _; have hbq : Below wr.heap.size wr (wr.alloc (.cells #[.string N, .string V] 99)) := (Below.refl _ _).alloc (Nat.le_refl _) _; obtain ⟨v1, hv1⟩ : ∃ w1, wr.alloc (.cells #[.string N, .string V] 99) = w1 := ⟨_, rfl⟩; obtain ⟨q, hqq⟩ : ∃ p, wr.heap.size = p := ⟨_, rfl⟩; rw [hv1] at hq hbq ⊢; have hpl := hbd.lt; have hbd1 := hbd.below hbq; have hB1 := then_ hB hbq; have hqw : w.heap.size ≤ q := by rw [← hqq]; exact hB.size
     have hqp : p < q := by rw [← hqq]; exact hpl
     rw [hqq] at hq ⊢; clear hv1 hqq c0 c1 hB hbd hbq hpl; have q0 : _ = some (Value.string N) := hq.cell 0; have hq1l := hq.lt; have htn := Kfe N (by omega) v1; have htv := fun W => Kfe V (by omega) W
     rw [HNn.out] at htn; simp only [HVv.out] at htv; obtain ⟨TN, hTN⟩ : ∃ T : ByteArray, (⟨(textT x.n).toArray⟩ : ByteArray) = T := ⟨_, rfl⟩; obtain ⟨TV, hTV⟩ : ∃ T : ByteArray, (⟨(textT x.v).toArray⟩ : ByteArray) = T := ⟨_, rfl⟩; rw [hTN] at htn; simp only [hTV] at htv; have hTNn : TN.data.toList = textT x.n := by rw [← hTN]
     have hTVv : TV.data.toList = textT x.v := by rw [← hTV]
     have hTNz : TN.size = (textT x.n).length := by rw [← Kah, hTNn]
     have hTVz : TV.size = (textT x.v).length := by rw [← Kah, hTVv]
     have hTNz2 : TN.size ≤ 1000 := by omega
     have hTVz2 : TV.size ≤ 1000 := by omega
     have HTN := Jh htn; have HTV := Jh htv; have HTNn := Jh hTNn; have HTVv := Jh hTVv; have HTNz := Jh hTNz; have HTVz := Jh hTVz; have HLAB := Jh hlab; clear htn htv hTN hTV hTNn hTVv hTNz hTVz hlab; go_wp2_with fail
     refine HTN.out.mono ?_; rintro e v2 ⟨rfl, hb2⟩; have hbd2 := hbd1.below hb2; have hB2 := then_ hB1 hb2; have hq2 := hq.below hb2 hq1l; clear hbd1 hq q0; go_wp2_with fail
     refine (Kax _ p P0 TN v2 hbd2 (by have := HTNz.out; have := HLAB.out; omega) hB2.size).mono ?_; rintro e v3 ⟨rfl, hbd3, hw3, ho3⟩; rw [HTNn.out] at hbd3; have hB3' := hB2.trans hw3; have hq3 : Blk v3 q 99 #[.string N, .string V] := ho3.blk hq2 (by omega) (by decide); clear hbd2 hq2; have q1 : _ = some (Value.string V) := hq3.cell 1; go_wp2_with fail
     refine (HTV.out v3).mono ?_; rintro e v4 ⟨rfl, hb4⟩; have hbd4 := hbd3.below hb4; have hB4' := then_ hB3' hb4; go_wp2_with fail
     refine (Kax _ p (P0 ++ textT x.n) TV v4 hbd4 (by have := HTVz.out; have := HLAB.out; rw [Jd]; omega) hB4'.size).mono ?_; rintro e v5 ⟨rfl, hbd5', hw5, _⟩; rw [HTVv.out, HNEXT.out] at hbd5'; go_wp2_with fail
     go_roundg (gk - 1)
     case measure => have := HIG.out; omega
     case rel => exact ⟨i + 1, by have := HIG.out; omega, by go_num, hbd5', hB4'.trans hw5⟩
    ·have el : decide ((i : Int) < (n : Int)) = false := by simp; omega
     have el' : decide (i < n) = false := by simp; omega
     have hfin : uintT n ++ (l.take i).flatMap labT = encL l := by
      have := HL.out; rw [List.take_of_length_le (by omega), encL, this]
     rw [hfin] at hbd; clear hfin; go_wp2_with fail
     go_meet
     exact ⟨hbd, hB⟩
  case rest =>
   obtain ⟨hbd, hB⟩ := hcut; obtain ⟨w6, rfl⟩ : ∃ x, x = wc := ⟨_, rfl⟩; go_wp2_with fail
   refine (Kdp _ p _ w6 hbd hB.size).mono ?_; rintro e w7 ⟨rfl, hw7⟩; go_wp2_with fail
   go_ret2
   exact ⟨rfl, hB.trans hw7⟩
end
section
open Go.RowKit Go.Sort
attribute [local go_sem ↓] Go.wp_at_zero Go.wp_at_succ
attribute [local go_sem] Later.cell
def txtV (s : Txt) : Value := .string ⟨s.toArray⟩
def enc1 (s : Txt) : List Value := [txtV s]
def Strs (w : World) (A : Option Addr) (n : Nat) (l : List Txt) : Prop := Elems w w.heap.size 1 enc1 A n l
section
variable {w w' : World} {A : Option Addr} {n : Nat} {l : List Txt}
theorem Strs.below (h : Strs w A n l) (hb : Below w.heap.size w w') : Strs w' A n l := (Elems.below h hb).more hb.size
theorem Strs.len (h : Strs w A n l) : l.length = n := Elems.len h
theorem Strs.at_ (h : Strs w A n l) {i : Nat} (hi : i < n) : ∃ b off, A = some ⟨b, off, none⟩ ∧ b < w.heap.size ∧ w.cell? ⟨b, off + i, none⟩ = some (txtV l[i]!) := by
 obtain ⟨b, off, e, hb, hc⟩ := h.2 (by omega); have hl : i < l.length := by have := h.len; omega
 refine ⟨b, off, e, hb, ?_⟩; have := hc i l[i]! (by rw [getElem!_pos l i hl, List.getElem?_eq_getElem hl]) 0 _ rfl; simpa using this
end
theorem Strs.of_own {w : World} {base : Nat} {v : Value} {n : Nat} {l : List Txt} (h : w.ownsRow base 9 1 v n (l.map txtV)) (hn : l.length = n) : ∃ A c, v = .slice A n c ∧ Strs w A n l ∧ (∀ a, A = some a → base ≤ a.block) ∧ n ≤ c := by
 obtain ⟨A, c, h1, h2, h3, h4⟩ := Elems.of_own (enc := enc1) (xs := l) (fun _ _ => rfl) (by
  clear h hn
  induction l with
  | nil => rfl
  | cons x l ih => simp [enc1, ih]) h hn
 exact ⟨A, c, h1, h2, h3, h4⟩
theorem Kvi : (Tryz.prog.info? 9).map (fun i => (i.zero, i.size, i.bytes)) = some (some (.string ⟨#[]⟩), 1, 16) := by kernel_rfl
def TabAt (w : World) (v : Value) (t : List Txt) : Prop :=
 ∃ A n c, ((v = .pointer none ∧ A = none ∧ n = 0 ∧ c = 0) ∨ ∃ p, v = .pointer (some ⟨p, 0, none⟩) ∧ Blk w p 197 #[.slice A n c]) ∧ Strs w A n t ∧ n ≤ c
theorem TabAt.below {w w' : World} {v : Value} {t : List Txt} (h : TabAt w v t) (hb : Below w.heap.size w w') : TabAt w' v t := by
 obtain ⟨A, n, c, h1, h2, h3⟩ := h; refine ⟨A, n, c, ?_, h2.below hb, h3⟩; rcases h1 with h1 | ⟨p, h4, h5⟩
 ·exact .inl h1
 ·exact .inr ⟨p, h4, h5.below hb h5.lt⟩
def OfOut (w : World) (l : List Txt) (e : Ending) (w' : World) : Prop :=
 ∃ p t, e = .returned (.pointer (some ⟨p, 0, none⟩)) ∧ TabAt w' (.pointer (some ⟨p, 0, none⟩)) t ∧ IsTab l t ∧ t.length ≤ l.length ∧ Below w.heap.size w w' ∧ w.heap.size ≤ p
end
section
open Go.RowKit Go.Sort
open Lib renaming hid → Jh
attribute [local go_sem ↓] Go.wp_at_zero Go.wp_at_succ
attribute [local go_sem] Later.cell
set_option maxHeartbeats 400000 in
theorem Kgz (v : Value) (t : List Txt) (w : World) (h : TabAt w v t) :
  ∃ A c, Strs w A t.length t ∧ t.length ≤ c ∧ (∀ w', Below w.heap.size w w' → Calls Tryz.prog 111 #[v] w' fun e w'' => e = .returned (.slice A t.length c) ∧ w' = w'') ∧ (0 < t.length → ∃ p, v = .pointer (some ⟨p, 0, none⟩) ∧ Blk w p 197 #[.slice A t.length c]) := by
 obtain ⟨A, n, c, h1, h2, h3⟩ := h; have hl := h2.len; subst hl; refine ⟨A, c, h2, h3, fun w' hb => ?_, fun h0 => ?_⟩
 ·rcases h1 with ⟨rfl, rfl, hn, rfl⟩ | ⟨p, rfl, hp⟩
  ·rw [hn]; clear h2 h3 hn; go_enter Tryz.func111, Tryz.ntmps111
   go_wp2_with fail
   go_ret
   exact ⟨rfl, rfl⟩
  ·have hc : _ = some (Value.slice A t.length c) := (hp.below hb hp.lt).cell 0; obtain ⟨n, hn⟩ : ∃ n, t.length = n := ⟨_, rfl⟩; rw [hn] at hc ⊢; clear h2 h3 hn hp; go_enter Tryz.func111, Tryz.ntmps111
   go_wp2_with fail
   go_ret
   exact ⟨rfl, rfl⟩
 ·rcases h1 with ⟨_, _, hn, _⟩ | ⟨p, hp, hb⟩
  ·omega
  ·exact ⟨p, hp, hb⟩
set_option maxHeartbeats 400000 in
theorem Kqn (v : Value) (t : List Txt) (w : World) (h : TabAt w v t) :
  Calls Tryz.prog 110 #[v] w fun e w' => e = .returned (.int .i64 t.length) ∧ w = w' := by
 obtain ⟨A, c, _, _, hall, _⟩ := Kgz v t w h; have HA := Jh (hall w (Below.refl _ _)); obtain ⟨n, hn⟩ : ∃ n, t.length = n := ⟨_, rfl⟩; rw [hn] at HA ⊢; clear hall hn h; go_enter Tryz.func110, Tryz.ntmps110
 go_wp2_with fail
 refine HA.out.mono ?_; rintro e w' ⟨rfl, rfl⟩; go_wp2_with fail
 go_ret
 exact ⟨rfl, rfl⟩
theorem Krq (t : List Txt) (A : Option Addr) (c : Nat) (s : ByteArray) (w : World) (hs : Strs w A t.length t) (hasc : Asc t) (hn : t.length * 16 ≤ 140737488351232) :
  Calls Tryz.prog 169 #[.slice A t.length c, .string s] w fun e w' => e = .returned (.tuple #[.int .i64 (below t s.data.toList : Nat), .bool (decide (t[below t s.data.toList]? = some s.data.toList))]) ∧ Below w.heap.size w w' := by
 by_cases h0 : t.length = 0
 ·obtain rfl : t = [] := List.eq_nil_of_length_eq_zero h0; refine (Any2.slices_BinarySearch_string_empty Tryz.laysBS A c s w).mono ?_; rintro e w' ⟨rfl, rfl⟩; exact ⟨rfl, Below.refl _ _⟩
 ·obtain ⟨b, off, rfl, _, _⟩ := hs.2 (by omega)
  have hcon := Any2.slices_BinarySearch_string Tryz.laysBS b off t.length c (fun j => (⟨t[j]!.toArray⟩ : ByteArray)) s w (by omega) (fun j hj => by
   obtain ⟨b', off', e, _, hc⟩ := hs.at_ hj; injection e with e; injection e with e1 e2; subst e1 e2
   exact hc)
  have hlt : ∀ i, i < t.length → Op.bytesLess (⟨t[i]!.toArray⟩ : ByteArray).toList s.toList = decide (t[i]! < s.data.toList) := by
   intro i _; rw [bytesLess_eq, ByteArray.toList_eq, ByteArray.toList_eq]
  have key : Lib.bsGo (fun i => Op.bytesLess (⟨t[i]!.toArray⟩ : ByteArray).toList s.toList) t.length 0 t.length = below t s.data.toList := by
   have h1 := Qda hasc s.data.toList (fun i => decide (i < t.length) && Op.bytesLess (⟨t[i]!.toArray⟩ : ByteArray).toList s.toList) (fun i hi => by rw [hlt i hi, getElem!_pos t i hi]; simp [hi]) (fun i hi => by simp; omega); rw [← h1]
   have key2 : ∀ f lo hi, hi ≤ t.length → Lib.bsGo (fun i => Op.bytesLess (⟨t[i]!.toArray⟩ : ByteArray).toList s.toList) f lo hi = Lib.bsGo (fun i => decide (i < t.length) && Op.bytesLess (⟨t[i]!.toArray⟩ : ByteArray).toList s.toList) f lo hi := by
    intro f
    induction f with
    | zero => intro lo hi _; rfl
    | succ f ih =>
     intro lo hi hh; unfold Lib.bsGo
     split
     ·rename_i hlh
      have hm : (lo + hi) / 2 < t.length := by omega
      simp only [hm, decide_true, Bool.true_and]
      split
      ·exact ih _ _ hh
      ·exact ih _ _ (by omega)
     ·rfl
   exact key2 _ _ _ (Nat.le_refl _)
  rw [key] at hcon; refine hcon.mono ?_; rintro e w' ⟨rfl, q, rfl⟩; refine ⟨?_, ⟨rfl, rfl, rfl, Nat.le_refl _, fun _ _ => rfl⟩⟩
  have hd : decide (below t s.data.toList < t.length ∧ (⟨t[below t s.data.toList]!.toArray⟩ : ByteArray) = s) = decide (t[below t s.data.toList]? = some s.data.toList) := by
   rw [decide_eq_decide]; constructor
   ·rintro ⟨h1, h2⟩; rw [getElem!_pos t _ h1] at h2; rw [List.getElem?_eq_getElem h1]; have h3 := congrArg (fun x : ByteArray => x.data.toList) h2; exact congrArg some h3
   ·intro h; obtain ⟨h1, h2⟩ := List.getElem?_eq_some_iff.1 h; refine ⟨h1, ?_⟩; rw [getElem!_pos t _ h1, h2]
  rw [hd]
set_option maxHeartbeats 400000 in
theorem Kkc (v : Value) (t : List Txt) (s : ByteArray) (w : World) (n e : Nat) (hr : numR t s.data.toList = (n, e)) (h : TabAt w v t) (hasc : Asc t) (hn : t.length * 16 ≤ 140737488351232) :
  Calls Tryz.prog 115 #[v, .string s] w fun en w' => en = .returned (.tuple #[.int .i64 n, .int .i64 e]) ∧ Below w.heap.size w w' := by
 obtain ⟨A, c, hs, _, hall, _⟩ := Kgz v t w h; have hb := Krq t A c s w hs hasc hn; have HA := Jh (hall w (Below.refl _ _)); obtain ⟨m, hm⟩ : ∃ m, t.length = m := ⟨_, rfl⟩; obtain ⟨q, hq⟩ : ∃ q, below t s.data.toList = q := ⟨_, rfl⟩; rw [numR, hq] at hr; rw [hq] at hb
 by_cases hin : t[q]? = some s.data.toList
 ·rw [if_pos hin] at hr; obtain ⟨rfl, rfl⟩ : q = n ∧ 0 = e := by simpa using hr
  rw [decide_eq_true hin, hm] at hb; rw [hm] at HA; have HB := Jh hb; clear hall hb hr hs hm hin hq h; go_enter Tryz.func115, Tryz.ntmps115
  go_wp2_with fail
  refine HA.out.mono ?_; rintro en w' ⟨rfl, rfl⟩; go_wp2_with fail
  refine HB.out.mono ?_; rintro en w1 ⟨rfl, hb1⟩; go_wp2_with fail
  go_ret2
  exact ⟨rfl, hb1⟩
 ·rw [if_neg hin] at hr; obtain ⟨rfl, rfl⟩ : 0 = n ∧ 50 = e := by simpa using hr
  rw [decide_eq_false hin, hm] at hb; rw [hm] at HA; have HB := Jh hb; clear hall hb hr hs hm hin hq h; go_enter Tryz.func115, Tryz.ntmps115
  go_wp2_with fail
  refine HA.out.mono ?_; rintro en w' ⟨rfl, rfl⟩; go_wp2_with fail
  refine HB.out.mono ?_; rintro en w1 ⟨rfl, hb1⟩; go_wp2_with fail
  go_ret2
  exact ⟨rfl, hb1⟩
def tabT (t : List Txt) : List UInt8 := uintT t.length ++ t.flatMap textT
theorem Knx (v : Value) (t : List Txt) (w : World) (h : TabAt w v t) (hn : t.length * 16 ≤ 140737488351232) (hz : (tabT t).length ≤ 140737488351232) :
  Calls Tryz.prog 41 #[v] w fun e w' => e = .returned (.string ⟨(tabT t).toArray⟩) ∧ Below w.heap.size w w' := by
 obtain ⟨A, c, hs, hc, hall, _⟩ := Kgz v t w h; have HALL := Jh hall; have HZ := Jh hz; clear hall hz; go_enter Tryz.func41, Tryz.ntmps41
 go_upto_region 2 with fail
 have hbd : Bld w.heap.size w.heap.size [] (w.alloc (.cells #[.pointer none, .slice none 0 0] 109)) := Bld.new w (Nat.le_refl _); have hB0 : Below w.heap.size w (w.alloc (.cells #[.pointer none, .slice none 0 0] 109)) := (Below.refl _ _).alloc (Nat.le_refl _) _; obtain ⟨w0, hw0⟩ : ∃ x, w.alloc (.cells #[.pointer none, .slice none 0 0] 109) = x := ⟨_, rfl⟩; obtain ⟨p, hp⟩ : ∃ p, w.heap.size = p := ⟨_, rfl⟩; rw [hw0] at hbd hB0 ⊢; have hlen := Kqn v t w0 (h.below hB0); have HLEN := Jh hlen; rw [hp] at hbd ⊢; have HP := Jh hp; clear hw0 hlen hp; have hl := hs.len; obtain ⟨n, hn'⟩ : ∃ n, t.length = n := ⟨_, rfl⟩; rw [hn'] at HLEN hs hc hn; have hu := Kau n (by omega) w0; have hlu := Kab n; obtain ⟨U, hU⟩ : ∃ U : ByteArray, (⟨(uintT n).toArray⟩ : ByteArray) = U := ⟨_, rfl⟩; have hUU : U.data.toList = uintT n := by rw [← hU]
 have hUz : U.size ≤ 11 := by rw [← Kah, hUU]; exact hlu.2
 rw [hU] at hu; have HU := Jh hu; have HUU := Jh hUU; have HN := Jh hn'; clear hu hU hUU hlu hn' hl; go_wp2_with fail
 refine HLEN.out.mono ?_; rintro e w1 ⟨rfl, rfl⟩; go_wp2_with fail
 refine HU.out.mono ?_; rintro e w1 ⟨rfl, hb1⟩; have hbd1 := hbd.below hb1; have hB1 := then_ hB0 hb1; have hps : p ≤ w1.heap.size := by have := hbd1.lt; omega
 go_wp2_with fail
 refine (Kax p p [] U w1 hbd1 (by simp; omega) hps).mono ?_; rintro e w2 ⟨rfl, hbd2, hw2, _⟩; rw [List.nil_append, HUU.out] at hbd2; have hB2 : Below w.heap.size w w2 := by rw [HP.out] at hB1 ⊢; exact hB1.trans hw2
 have hall2 := HALL.out w2 hB2; rw [HN.out] at hall2; have HA2 := Jh hall2; clear hall2 hbd hbd1 hw2 hb1 HALL; go_wp2_with fail
 refine HA2.out.mono ?_; rintro e w3 ⟨rfl, rfl⟩; go_upto_block 0 with fail
 go_cut [] (fun wz => Bld p p (tabT t) wz ∧ Below w.heap.size w wz)
 case first =>
  go_wp2_with fail
  go_loopg [14] n (fun g s14 wr => ∃ i : Nat, i + g = n ∧ s14 = .int .i64 (i : Int) ∧ Bld p p (uintT n ++ (t.take i).flatMap textT) wr ∧ Below w.heap.size w wr)
  case atStart => exact ⟨0, by omega, rfl, by simpa using hbd2, hB2⟩
  case round =>
   obtain ⟨i, hig, rfl, hbd, hB⟩ := hrel; have HIG := Jh hig; clear hig
   by_cases hi : i < n
   ·have hil : i < t.length := by have := HN.out; omega
    have el : decide ((i : Int) < (n : Int)) = true := by simp; omega
    have el' : decide (i < n) = true := by simp; omega
    obtain ⟨b, off, rfl, hbl, hcell⟩ := hs.at_ hi; have hc1 : wr.cell? ⟨b, off + i, none⟩ = some (txtV t[i]!) := (hB.cell (p := ⟨b, off + i, none⟩) hbl).trans hcell; obtain ⟨x, hx⟩ : ∃ x, t[i]! = x := ⟨_, rfl⟩; rw [hx] at hc1; unfold txtV at hc1; obtain ⟨X, hX⟩ : ∃ X : ByteArray, (⟨x.toArray⟩ : ByteArray) = X := ⟨_, rfl⟩; rw [hX] at hc1; have hXx : X.data.toList = x := by rw [← hX]
    have hnext : (uintT n ++ (t.take i).flatMap textT) ++ textT x = uintT n ++ (t.take (i + 1)).flatMap textT := by
     rw [List.take_succ_eq_append_getElem hil, ← getElem!_pos t i hil, hx, List.flatMap_append]; simp
    have hpre : (uintT n ++ (t.take (i + 1)).flatMap textT).length ≤ 140737488351232 := by
     have h1 := HZ.out; have h2 : t.flatMap textT = (t.take (i + 1)).flatMap textT ++ (t.drop (i + 1)).flatMap textT := by rw [← List.flatMap_append, List.take_append_drop]
     rw [tabT, HN.out, h2] at h1; simp only [List.length_append] at h1 ⊢; omega
    rw [← hnext, List.length_append] at hpre; have hxl : x.length ≤ (textT x).length := by simp [textT]
    have hXz : X.size ≤ 140737488351232 := by rw [← Kah, hXx]; omega
    have htx := Kfe X hXz wr; rw [hXx] at htx; obtain ⟨T, hT⟩ : ∃ T : ByteArray, (⟨(textT x).toArray⟩ : ByteArray) = T := ⟨_, rfl⟩; have hTt : T.data.toList = textT x := by rw [← hT]
    have hTz : T.size = (textT x).length := by rw [← Kah, hTt]
    rw [hT] at htx; obtain ⟨P0, hP0⟩ : ∃ P, uintT n ++ (t.take i).flatMap textT = P := ⟨_, rfl⟩; rw [hP0] at hbd hnext hpre; have HTX := Jh htx; have HTT := Jh hTt; have HTZ := Jh hTz; have HNX := Jh hnext; clear htx hTt hTz hT hnext hP0 hx hX hXx hcell; go_wp2_with fail
    refine HTX.out.mono ?_; rintro e v1 ⟨rfl, hb1⟩; have hbd1 := hbd.below hb1; have hB1 := then_ hB hb1; go_wp2_with fail
    refine (Kax p p P0 T v1 hbd1 (by have := HTZ.out; omega) (by have := hbd1.lt; omega)).mono ?_; rintro e v2 ⟨rfl, hbd2', hw2, _⟩; rw [HTT.out, HNX.out] at hbd2'; go_wp2_with fail
    go_roundg (gk - 1)
    case measure => have := HIG.out; omega
    case rel => exact ⟨i + 1, by have := HIG.out; omega, by go_num, hbd2', by rw [HP.out] at hB1 ⊢; exact hB1.trans hw2⟩
   ·have el : decide ((i : Int) < (n : Int)) = false := by simp; omega
    have el' : decide (i < n) = false := by simp; omega
    have hfin : uintT n ++ (t.take i).flatMap textT = tabT t := by
     have := HN.out; rw [List.take_of_length_le (by omega), tabT, this]
    rw [hfin] at hbd; clear hfin; go_wp2_with fail
    go_meet
    exact ⟨hbd, hB⟩
 case rest =>
  obtain ⟨hbd, hB⟩ := hcut; obtain ⟨w6, rfl⟩ : ∃ x, x = wc := ⟨_, rfl⟩; go_wp2_with fail
  refine (Kdp p p _ w6 hbd (by have := hbd.lt; omega)).mono ?_; rintro e w7 ⟨rfl, hw7⟩; go_wp2_with fail
  go_ret
  refine ⟨rfl, ?_⟩; rw [HP.out] at hB ⊢; exact hB.trans hw7
def packS (t : List Txt) : List Txt → Option (List UInt8)
 | [] => some []
 | x :: r => if (numR t x).2 ≠ 0 then none else (packS t r).map (uintT (numR t x).1 ++ ·)
def texts (l : List Lb) : List Txt := l.flatMap fun x => [x.n, x.v]
def packR (t : List Txt) (l : List Lb) : List UInt8 × Nat :=
 if Kci l ≠ 0 then ([], Kci l) else match packS t (texts l) with | none => ([], 50) | some b => (uintT l.length ++ b, 0)
theorem Kie {t : List Txt} {x : Txt} {r : List Txt} {R : Option (List UInt8)} {D : List UInt8} {k : Nat} (h : R = (packS t (x :: r)).map (D ++ ·)) (hk : numR t x = (k, 0)) : R = (packS t r).map ((D ++ uintT k) ++ ·) := by
 rw [h, packS, if_neg (by rw [hk]; simp), hk, Option.map_map]; congr 1; funext b; simp
theorem Kpw {t : List Txt} {x : Txt} {r : List Txt} {R : Option (List UInt8)} {D : List UInt8} {k e : Nat} (h : R = (packS t (x :: r)).map (D ++ ·)) (hk : numR t x = (k, e)) (he : e ≠ 0) : R = none := by
 rw [h, packS, if_pos (by rw [hk]; exact he)]; rfl
theorem Kua {t : List Txt} {x : Txt} {k e : Nat} (h : numR t x = (k, e)) (he : e ≠ 0) : e = 50 := by
 unfold numR at h
 split at h
 ·injection h with _ h; omega
 ·injection h with _ h; exact h.symm
theorem Kmp {t : List Txt} {x : Txt} {k e : Nat} (h : numR t x = (k, e)) : k ≤ t.length := by
 have := Kmj t x; unfold numR at h
 split at h <;> injection h with h1 h2 <;> omega
theorem Kgh (x : Lb) (l : List Lb) : texts (x :: l) = x.n :: x.v :: texts l := rfl
theorem Qgi (a b : Value) (w : World) : (Instr.index 202 (.agg #[a, b]) (.int .i64 0)).run Tryz.prog w = .ok a w := by kernel_rfl
theorem Qgj (a b : Value) (w : World) : (Instr.index 202 (.agg #[a, b]) (.int .i64 1)).run Tryz.prog w = .ok b w := by kernel_rfl
theorem Kxw (v : Value) (t : List Txt) (l : List Lb) (A : Option Addr) (n c : Nat) (w : World) (s : Txt) (er : Nat) (hr : packR t l = (s, er)) (h : TabAt w v t) (hasc : Asc t) (ht : t.length * 16 ≤ 140737488351232) (hE : Elems w w.heap.size 2 encLb A n l) (hnc : n ≤ c) (hnm : n ≤ 140737488351232) (hz : ∀ x ∈ l, x.n.length ≤ 140737488351232 ∧ x.v.length ≤ 140737488351232) :
  Calls Tryz.prog 43 #[v, .slice A n c] w fun e w' => e = .returned (.tuple #[.string ⟨s.toArray⟩, .int .i64 er]) ∧ Below w.heap.size w w' := by
 have henc := Ktp l A n c w hE hnc hnm hz; obtain ⟨ee, hee⟩ : ∃ e, Kci l = e := ⟨_, rfl⟩; rw [hee] at henc; rw [packR, hee] at hr; obtain ⟨EO, hEO⟩ : ∃ S : ByteArray, (⟨(Kfv l).toArray⟩ : ByteArray) = S := ⟨_, rfl⟩; rw [hEO] at henc; have HENC := Jh henc; clear henc hEO hz
 by_cases h0 : ee = 0
 ·subst h0
  have hmk : Kbj l = 0 := by
   rcases Kgt l with ⟨h1, h2⟩ | ⟨h1, _⟩ | ⟨h1, _⟩
   ·rw [h2] at hee; exact hee
   ·exact h1
   ·exact h1
  obtain ⟨hn0, hn8, hfit, _⟩ := Kei hmk; have hl := hE.len; obtain ⟨b, off, rfl, _, _⟩ := hE.2 (by omega); obtain ⟨R, hR⟩ : ∃ R, packS t (texts l) = R := ⟨_, rfl⟩; rw [if_neg (by simp), hR, hl] at hr; have HR := Jh hr; have HRR := Jh hR; have HL := Jh hl; have HFIT := Jh hfit; have hn8' : n ≤ 8 := by omega
  have hnp : 0 < n := by omega
  have hu := Kau n (by omega); have hlu := Kab n; obtain ⟨U, hU⟩ : ∃ U : ByteArray, (⟨(uintT n).toArray⟩ : ByteArray) = U := ⟨_, rfl⟩; have hUU : U.data.toList = uintT n := by rw [← hU]
  have hUz : U.size ≤ 11 := by rw [← Kah, hUU]; exact hlu.2
  rw [hU] at hu; have HU := Jh hu; have HUU := Jh hUU; clear hr hR hl hfit hmk hee hu hU hUU hlu hn0 hn8; go_enter Tryz.func43, Tryz.ntmps43
  go_wp2_with fail
  refine HENC.out.mono ?_; rintro e w1 ⟨rfl, hb1⟩; go_wp2_with fail
  refine (HU.out w1).mono ?_; rintro e w2 ⟨rfl, hb2⟩; have hB2 := then_ hb1 hb2; clear HENC HU hb1 hb2; go_upto_block 0 with fail
  go_cut [8] (fun s8 wz => ∃ S : ByteArray, s8 = .string S ∧ R = some (S.data.toList.drop (uintT n).length) ∧ S.data.toList = uintT n ++ S.data.toList.drop (uintT n).length ∧ Below w.heap.size w wz)
  case first =>
   go_wp2_with fail
   go_loopg [8, 29] n (fun g s8 s29 wr => ∃ (i : Nat) (S : ByteArray) (D : List UInt8), i + g = n ∧ s29 = .int .i64 (i : Int) ∧ s8 = .string S ∧ S.data.toList = uintT n ++ D ∧ S.size ≤ 11 + 22 * i ∧ R = (packS t (texts (l.drop i))).map (D ++ ·) ∧ Below w.heap.size w wr)
   case atStart => exact ⟨0, U, [], by omega, rfl, rfl, by rw [HUU.out]; simp, by omega, by rw [List.drop_zero, HRR.out]; simp, hB2⟩
   case round =>
    obtain ⟨i, S, D, hig, rfl, rfl, hSD, hSz, hRd, hB⟩ := hrel; have HIG := Jh hig; have HSD := Jh hSD; have HRD := Jh hRd; clear hig hSD hRd
    by_cases hi : i < n
    ·have hil : i < l.length := by have := HL.out; omega
     have el : decide ((i : Int) < (n : Int)) = true := by simp; omega
     have el' : decide (i < n) = true := by simp; omega
     obtain ⟨hbl, c0, c1⟩ := Kca hE hnp hB i hil; obtain ⟨x, hx⟩ : ∃ x, l[i]! = x := ⟨_, rfl⟩; rw [hx] at c0 c1; obtain ⟨N, hN⟩ : ∃ N : ByteArray, (⟨x.n.toArray⟩ : ByteArray) = N := ⟨_, rfl⟩; obtain ⟨V, hV⟩ : ∃ N : ByteArray, (⟨x.v.toArray⟩ : ByteArray) = N := ⟨_, rfl⟩; rw [hN] at c0; rw [hV] at c1; have hNn : N.data.toList = x.n := by rw [← hN]
     have hVv : V.data.toList = x.v := by rw [← hV]
     have hdr : l.drop i = x :: l.drop (i + 1) := by rw [List.drop_eq_getElem_cons hil, ← hx, getElem!_pos l i hil]
     have hrd := HRD.out; rw [hdr, Kgh] at hrd; obtain ⟨k1, e1, hk1⟩ : ∃ k e, numR t x.n = (k, e) := ⟨_, _, rfl⟩; obtain ⟨k2, e2, hk2⟩ : ∃ k e, numR t x.v = (k, e) := ⟨_, _, rfl⟩; have hs1 := Kmp hk1; have hs2 := Kmp hk2; have HK1 := Jh (show numR t N.data.toList = (k1, e1) by rw [hNn, hk1]); have HK2 := Jh (show numR t V.data.toList = (k2, e2) by rw [hVv, hk2]); have HKK1 := Jh hk1; have HKK2 := Jh hk2; have HRD2 := Jh hrd; clear hx hN hV hNn hVv hdr hrd hk1 hk2 HRD; have hix : ∀ (a b : Value) (w : World), (Instr.index 202 (.agg #[a, b]) (.int .i64 0)).run Tryz.prog w = .ok a w := Qgi; have hiy : ∀ (a b : Value) (w : World), (Instr.index 202 (.agg #[a, b]) (.int .i64 1)).run Tryz.prog w = .ok b w := Qgj; go_upto_region 8 with fail
     have hB1 : Below w.heap.size w (wr.alloc (.cells #[.string N, .string V] 99)) := hB.alloc hB.size _; have hq : Blk (wr.alloc (.cells #[.string N, .string V] 99)) wr.heap.size 99 #[.string N, .string V] := Blk.new _ _ _; obtain ⟨v1, hv1⟩ : ∃ w1, wr.alloc (.cells #[.string N, .string V] 99) = w1 := ⟨_, rfl⟩; obtain ⟨q, hqq⟩ : ∃ p, wr.heap.size = p := ⟨_, rfl⟩; rw [hv1] at hB1 hq ⊢; rw [hqq] at hq ⊢; clear hv1 hqq c0 c1 hB; have q0 : _ = some (Value.string N) := hq.cell 0; have q1 : _ = some (Value.string V) := hq.cell 1; go_wp2_with fail
     refine wp_loop_rounds 3 ?_; rw [rounds_succ]; go_wp2_with fail
     refine (Kkc v t N v1 k1 e1 HK1.out (h.below hB1) hasc ht).mono ?_; rintro e v2 ⟨rfl, hb2⟩; have hB2' := then_ hB1 hb2
     by_cases he1 : e1 = 0
     ·subst he1; have hu1 := Kau k1 (by omega) v2; have hlu1 := Kab k1; obtain ⟨U1, hU1⟩ : ∃ U : ByteArray, (⟨(uintT k1).toArray⟩ : ByteArray) = U := ⟨_, rfl⟩; have hUU1 : U1.data.toList = uintT k1 := by rw [← hU1]
      have hUz1 : U1.size ≤ 11 := by rw [← Kah, hUU1]; exact hlu1.2
      rw [hU1] at hu1; have HU1 := Jh hu1; have HUU1 := Jh hUU1; clear hu1 hU1 hUU1 hlu1 q0 q1 hq; go_wp2_with fail
      refine HU1.out.mono ?_; rintro e v3 ⟨rfl, hb3⟩; have hB3' := then_ hB2' hb3; go_wp2_with fail
      rw [rounds_succ]; go_wp2_with fail
      refine (Kkc v t V v3 k2 e2 HK2.out (h.below hB3') hasc ht).mono ?_; rintro e v4 ⟨rfl, hb4⟩; have hB4' := then_ hB3' hb4
      by_cases he2 : e2 = 0
      ·subst he2; have hu2 := Kau k2 (by omega) v4; have hlu2 := Kab k2; obtain ⟨U2, hU2⟩ : ∃ U : ByteArray, (⟨(uintT k2).toArray⟩ : ByteArray) = U := ⟨_, rfl⟩; have hUU2 : U2.data.toList = uintT k2 := by rw [← hU2]
       have hUz2 : U2.size ≤ 11 := by rw [← Kah, hUU2]; exact hlu2.2
       rw [hU2] at hu2; have HU2 := Jh hu2; have HUU2 := Jh hUU2; clear hu2 hU2 hUU2 hlu2; go_wp2_with fail
       refine HU2.out.mono ?_; rintro e v5 ⟨rfl, hb5⟩; have hB5' := then_ hB4' hb5; go_wp2_with fail
       rw [rounds_succ]; go_wp2_with fail
       go_roundg (gk - 1)
       case measure => have := HIG.out; omega
       case rel =>
        refine ⟨i + 1, _, (D ++ uintT k1) ++ uintT k2, by have := HIG.out; omega, by go_num, rfl, ?_, ?_, Kie (Kie HRD2.out HKK1.out) HKK2.out, hB5'⟩
        ·simp only [ByteArray.data_append, Array.toList_append, HSD.out, HUU1.out, HUU2.out, List.append_assoc]
        ·simp only [ByteArray.size_append]; omega
      ·have ee2 : ((e2 : Int) != 0) = true := by simp; omega
       have hRn := Kpw (Kie HRD2.out HKK1.out) HKK2.out he2; have he50 := Kua HKK2.out he2; obtain ⟨hs', he'⟩ : [] = s ∧ 50 = er := by have := HR.out; rw [hRn] at this; simpa using this
       have HE := Jh (he50.trans he'); subst hs'; clear hRn he50 he'; go_wp2_with fail
       go_ret2
       exact ⟨ret2 rfl (vi (by rw [HE.out])), hB4'⟩
     ·have ee1 : ((e1 : Int) != 0) = true := by simp; omega
      have hRn := Kpw HRD2.out HKK1.out he1; have he50 := Kua HKK1.out he1; obtain ⟨hs', he'⟩ : [] = s ∧ 50 = er := by have := HR.out; rw [hRn] at this; simpa using this
      have HE := Jh (he50.trans he'); subst hs'; clear hRn he50 he' q0 q1 hq; go_wp2_with fail
      go_ret2
      exact ⟨ret2 rfl (vi (by rw [HE.out])), hB2'⟩
    ·have el : decide ((i : Int) < (n : Int)) = false := by simp; omega
     have el' : decide (i < n) = false := by simp; omega
     have hfin : R = some D := by
      rw [HRD.out, List.drop_of_length_le (by have := HL.out; omega)]; simp [texts, packS]
     have HF := Jh hfin; clear hfin; go_wp2_with fail
     go_meet
     refine ⟨S, rfl, ?_, ?_, hB⟩
     ·rw [HSD.out, HF.out]; simp
     ·rw [HSD.out]; simp
  case rest =>
   obtain ⟨S, rfl, hRS, hSS, hB⟩ := hcut; have hr := HR.out; rw [hRS] at hr; obtain ⟨hs', he'⟩ : uintT n ++ S.data.toList.drop (uintT n).length = s ∧ 0 = er := by simpa using hr
   have hS2 : S.data.toList = s := by rw [← hs']; exact hSS
   have HS := Jh hS2; have HE := Jh he'; clear hr hRS hSS hs' he' hS2; go_wp2_with fail
   go_ret2
   exact ⟨ret2 (congrArg Value.string (Ktm (by rw [HS.out]))) (vi (by rw [← HE.out]; rfl)), hB⟩
 ·rw [if_pos h0] at hr; obtain ⟨rfl, rfl⟩ : [] = s ∧ ee = er := by simpa using hr
  have ee0 : ((ee : Int) != 0) = true := by simp; omega
  clear hr hee; go_enter Tryz.func43, Tryz.ntmps43
  go_wp2_with fail
  refine HENC.out.mono ?_; rintro e w1 ⟨rfl, hb1⟩; go_wp2_with fail
  go_ret2
  exact ⟨rfl, hb1⟩
end
section
open Go.RowKit Go.Sort
attribute [local go_sem ↓] Go.wp_at_zero Go.wp_at_succ
attribute [local go_sem] Later.cell
theorem Kir (x : Txt) (s : ByteArray) : Op.bytesLess (⟨x.toArray⟩ : ByteArray).toList s.toList = decide (x < s.data.toList) := by
 rw [bytesLess_eq, ByteArray.toList_eq, ByteArray.toList_eq]
theorem Kof {w w1 : World} {base : Nat} {e : TypeId} {size : Nat} {v : Value} {n : Nat} {xs : List Value} (h : w.ownsRow base e size v n xs) (hb : Below w.heap.size w w1) : w1.ownsRow base e size v n xs :=
 h.kept (row := none) ⟨hb.os, hb.tape, hb.output, hb.size, fun k hk _ => hb.block k hk⟩ (by cases v.ownBlock <;> simp)
theorem Qci : (Tryz.prog.info? 180).map (fun i => (i.zero, i.size, i.bytes)) = some (some (.agg #[.string ⟨#[]⟩, .string ⟨#[]⟩]), 2, 32) := by kernel_rfl
def RLabs (B : Nat) (w : World) (v : Value) (ys : List Lb) : Prop := w.ownsRow B 180 2 v ys.length (ys.flatMap encLb)
end
end Go.Proofs.YtdoiekknhnbepaaGreatDoor
namespace Go.Proofs
open Go.Shelf
def Tryz.keys108_ren : Go.Shelf.Ren := ⟨fun | 7 => 108 | 10 => 167 | n => n, fun | 23 => 191 | 26 => 9 | 3 => 3 | 28 => 194 | 0 => 0 | 27 => 193 | 33 => 262 | 4 => 4 | n => n, fun | n => n⟩
theorem Tryz.keys108 : Go.Proofs.SlLaysZ.n7 Tryz.prog Tryz.keys108_ren := {
 mixed := by kernel_rfl
 f7 := ⟨Tryz.f108.name, by decide, Tryz.func108.trans (congrArg some (by kernel_rfl))⟩
 f10 := ⟨Tryz.f167.name, by decide, Tryz.func167.trans (congrArg some (by kernel_rfl))⟩
 t0 := Tryz.underlying0
 a0 := Tryz.isAgg0
 z0 := Tryz.sizeOf0
 v0 := Tryz.zeroValue0
 t4 := Tryz.underlying4
 a4 := Tryz.isAgg4
 z4 := Tryz.sizeOf4
 v4 := Tryz.zeroValue4
 t23 := Tryz.underlying191
 a23 := Tryz.isAgg191
 z23 := Tryz.sizeOf191
 v23 := Tryz.zeroValue191
 t26 := Tryz.underlying9
 a26 := Tryz.isAgg9
 z26 := Tryz.sizeOf9
 v26 := Tryz.zeroValue9
 t27 := Tryz.underlying193
 a27 := Tryz.isAgg193
 z27 := Tryz.sizeOf193
 v27 := Tryz.zeroValue193
 t28 := Tryz.underlying194
 a28 := Tryz.isAgg194
 z28 := Tryz.sizeOf194
 v28 := Tryz.zeroValue194
 t33 := Tryz.underlying262
 a33 := Tryz.isAgg262
 z33 := Tryz.sizeOf262
 v33 := Tryz.zeroValue262 }
def Tryz.sorted107_ren : Go.Shelf.Ren := ⟨fun | 6 => 107 | 8 => 165 | 9 => 166 | 11 => 195 | 13 => 174 | 12 => 196 | 23 => 211 | 24 => 212 | 14 => 233 | 15 => 234 | 16 => 235 | 17 => 236 | 18 => 237 | 19 => 238 | 20 => 197 | 21 => 239 | 22 => 240 | 25 => 258 | 26 => 247 | 27 => 248 | 28 => 259 | 29 => 260 | 30 => 241 | 31 => 266 | n => n, fun | 26 => 9 | 28 => 194 | 24 => 118 | 0 => 0 | 3 => 3 | 37 => 200 | 48 => 74 | 50 => 100 | 4 => 4 | 40 => 303 | 39 => 302 | 45 => 265 | 5 => 5 | 9 => 9 | 51 => 337 | 55 => 340 | 57 => 349 | 58 => 350 | 33 => 262 | n => n, fun | n => n⟩
theorem Tryz.sorted107 : Go.Proofs.SlLaysZ.n6 Tryz.prog Tryz.sorted107_ren := {
 mixed := by kernel_rfl
 f6 := ⟨Tryz.f107.name, by decide, Tryz.func107.trans (congrArg some (by kernel_rfl))⟩
 f8 := ⟨Tryz.f165.name, by decide, Tryz.func165.trans (congrArg some (by kernel_rfl))⟩
 f11 := ⟨Tryz.f195.name, by decide, Tryz.func195.trans (congrArg some (by kernel_rfl))⟩
 t0 := Tryz.underlying0
 a0 := Tryz.isAgg0
 z0 := Tryz.sizeOf0
 v0 := Tryz.zeroValue0
 t24 := Tryz.underlying118
 a24 := Tryz.isAgg118
 z24 := Tryz.sizeOf118
 v24 := Tryz.zeroValue118
 t26 := Tryz.underlying9
 a26 := Tryz.isAgg9
 z26 := Tryz.sizeOf9
 v26 := Tryz.zeroValue9
 t28 := Tryz.underlying194
 a28 := Tryz.isAgg194
 z28 := Tryz.sizeOf194
 v28 := Tryz.zeroValue194
 i26 := by kernel_rfl }
def Tryz.sort166_ren : Go.Shelf.Ren := ⟨fun | 6 => 166 | 8 => 174 | 9 => 196 | 19 => 211 | 20 => 212 | 21 => 233 | 22 => 234 | 23 => 235 | 24 => 236 | 25 => 237 | 26 => 238 | 27 => 197 | 28 => 239 | 29 => 240 | 36 => 258 | 31 => 247 | 32 => 248 | 37 => 259 | 38 => 260 | 39 => 241 | 41 => 266 | n => n, fun | 27 => 118 | 29 => 9 | 3 => 3 | 32 => 200 | 26 => 118 | 0 => 0 | 44 => 74 | 46 => 100 | 4 => 4 | 36 => 303 | 35 => 302 | 41 => 265 | 5 => 5 | 9 => 9 | 53 => 337 | 57 => 340 | 63 => 349 | 64 => 350 | n => n, fun | n => n⟩
theorem Tryz.sort166 : Go.Proofs.SlLaysM.n6 Tryz.prog Tryz.sort166_ren := {
 mixed := by kernel_rfl
 f6 := ⟨Tryz.f166.name, by decide, Tryz.func166.trans (congrArg some (by kernel_rfl))⟩
 f8 := Tryz.func174.trans (congrArg some (by kernel_rfl))
 f9 := ⟨Tryz.f196.name, by decide, Tryz.func196.trans (congrArg some (by kernel_rfl))⟩
 f19 := Tryz.func211.trans (congrArg some (by kernel_rfl))
 f20 := Tryz.func212.trans (congrArg some (by kernel_rfl))
 f21 := ⟨Tryz.f233.name, by decide, Tryz.func233.trans (congrArg some (by kernel_rfl))⟩
 f22 := ⟨Tryz.f234.name, by decide, Tryz.func234.trans (congrArg some (by kernel_rfl))⟩
 f23 := ⟨Tryz.f235.name, by decide, Tryz.func235.trans (congrArg some (by kernel_rfl))⟩
 f24 := ⟨Tryz.f236.name, by decide, Tryz.func236.trans (congrArg some (by kernel_rfl))⟩
 f25 := ⟨Tryz.f237.name, by decide, Tryz.func237.trans (congrArg some (by kernel_rfl))⟩
 f26 := ⟨Tryz.f238.name, by decide, Tryz.func238.trans (congrArg some (by kernel_rfl))⟩
 f27 := ⟨Tryz.f197.name, by decide, Tryz.func197.trans (congrArg some (by kernel_rfl))⟩
 f28 := ⟨Tryz.f239.name, by decide, Tryz.func239.trans (congrArg some (by kernel_rfl))⟩
 f29 := ⟨Tryz.f240.name, by decide, Tryz.func240.trans (congrArg some (by kernel_rfl))⟩
 f31 := Tryz.func247.trans (congrArg some (by kernel_rfl))
 f32 := Tryz.func248.trans (congrArg some (by kernel_rfl))
 f36 := ⟨Tryz.f258.name, by decide, Tryz.func258.trans (congrArg some (by kernel_rfl))⟩
 f37 := ⟨Tryz.f259.name, by decide, Tryz.func259.trans (congrArg some (by kernel_rfl))⟩
 f38 := ⟨Tryz.f260.name, by decide, Tryz.func260.trans (congrArg some (by kernel_rfl))⟩
 f39 := ⟨Tryz.f241.name, by decide, Tryz.func241.trans (congrArg some (by kernel_rfl))⟩
 f41 := ⟨Tryz.f266.name, by decide, Tryz.func266.trans (congrArg some (by kernel_rfl))⟩
 t0 := Tryz.underlying0
 a0 := Tryz.isAgg0
 z0 := Tryz.sizeOf0
 v0 := Tryz.zeroValue0
 t3 := Tryz.underlying3
 a3 := Tryz.isAgg3
 z3 := Tryz.sizeOf3
 v3 := Tryz.zeroValue3
 t4 := Tryz.underlying4
 a4 := Tryz.isAgg4
 z4 := Tryz.sizeOf4
 v4 := Tryz.zeroValue4
 t5 := Tryz.underlying5
 a5 := Tryz.isAgg5
 z5 := Tryz.sizeOf5
 v5 := Tryz.zeroValue5
 t9 := Tryz.underlying9
 a9 := Tryz.isAgg9
 z9 := Tryz.sizeOf9
 v9 := Tryz.zeroValue9
 t26 := Tryz.underlying118
 a26 := Tryz.isAgg118
 z26 := Tryz.sizeOf118
 v26 := Tryz.zeroValue118
 t27 := Tryz.underlying118
 a27 := Tryz.isAgg118
 z27 := Tryz.sizeOf118
 v27 := Tryz.zeroValue118
 t29 := Tryz.underlying9
 a29 := Tryz.isAgg9
 z29 := Tryz.sizeOf9
 v29 := Tryz.zeroValue9
 t32 := Tryz.underlying200
 a32 := Tryz.isAgg200
 z32 := Tryz.sizeOf200
 v32 := Tryz.zeroValue200
 t35 := Tryz.underlying302
 a35 := Tryz.isAgg302
 z35 := Tryz.sizeOf302
 v35 := Tryz.zeroValue302
 t36 := Tryz.underlying303
 a36 := Tryz.isAgg303
 z36 := Tryz.sizeOf303
 v36 := Tryz.zeroValue303
 t41 := Tryz.underlying265
 a41 := Tryz.isAgg265
 z41 := Tryz.sizeOf265
 v41 := Tryz.zeroValue265
 t44 := Tryz.underlying74
 a44 := Tryz.isAgg74
 z44 := Tryz.sizeOf74
 v44 := Tryz.zeroValue74
 t46 := Tryz.underlying100
 a46 := Tryz.isAgg100
 z46 := Tryz.sizeOf100
 v46 := Tryz.zeroValue100
 t53 := Tryz.underlying337
 a53 := Tryz.isAgg337
 z53 := Tryz.sizeOf337
 v53 := Tryz.zeroValue337
 t57 := Tryz.underlying340
 a57 := Tryz.isAgg340
 z57 := Tryz.sizeOf340
 v57 := Tryz.zeroValue340
 t63 := Tryz.underlying349
 a63 := Tryz.isAgg349
 z63 := Tryz.sizeOf349
 v63 := Tryz.zeroValue349
 t64 := Tryz.underlying350
 a64 := Tryz.isAgg350
 z64 := Tryz.sizeOf350
 v64 := Tryz.zeroValue350 }
open Go.RowKit Go.Maps Go.Sort Go.Shelf
theorem Tryz.sorts107 (m : Nat) : AnyZ.SortsIn Tryz.prog Tryz.sorted107_ren Fence.wide m :=
 ⟨fun blk off cap ss W hH hblk hsz => callsIn_wide.2 (AnyM.slices_Sort_string Tryz.sort166 blk off cap ss W hH hblk hsz),
  fun p cap W => callsIn_wide.2 (AnyM.slices_Sort_string_none Tryz.sort166 p cap W)⟩
theorem Tryz.maps_Keys_108 (mb : Option Nat) (W : World) : CallsIn Fence.wide 5 Tryz.prog 108 #[.map mb] W fun e w' => e = .returned (.func (.func 167) #[] #[.pointer (some ⟨W.heap.size, 0, none⟩)]) ∧ w' = W.alloc (.cells #[.map mb] 191) :=
 AnyZ.keys_in Tryz.keys108 Fence.wide 5 trivial rfl mb W
theorem Tryz.slices_Sorted_keys_107_108 {H : Type} (b nn : Nat) (D0 : DataW H) (R : Value → Option (DataW H × List MemPlace)) (w : World) (hown : w.ownsMap Tryz.prog 9 R b nn D0) (hmax : Maps.size D0 ≤ maxLen) (hbytes : Maps.size D0 * 16 ≤ 140737488355328) :
  CallsIn Fence.wide 5 Tryz.prog 107 #[.func (.func 167) #[] #[.pointer (some ⟨w.heap.size, 0, none⟩)]] (w.alloc (.cells #[.map (some b)] 191)) fun e w' => ∃ (v : Value) (ss : List (List UInt8)), e = .returned v ∧ ss.Perm (strKeys D0) ∧
   w'.ownsRow (w.alloc (.cells #[.map (some b)] 191)).heap.size 9 1 v ss.length ((ss.mergeSort (fun x y => decide (x ≤ y))).map encStr) ∧ (v = .slice none 0 0 ↔ ss = []) ∧ Below (w.alloc (.cells #[.map (some b)] 191)).heap.size (w.alloc (.cells #[.map (some b)] 191)) w' := by
 have hbl := hown.lt
 have hseq : SeqGives Fence.wide 2 Tryz.prog 167 #[.pointer (some ⟨w.heap.size, 0, none⟩)] encStr (fun ss => ss.Perm (strKeys D0)) (Maps.size D0) (w.alloc (.cells #[.map (some b)] 191)) :=
  AnyZ.keys_gives (ρ := Tryz.keys108_ren) { Tryz.keys108 with } Fence.wide _ trivial rfl (by omega) w.heap.size b nn D0 _ (by simp) (by simp) (by
   obtain ⟨es, clock, hb, Ft, hs, hD⟩ := hown
   exact ⟨es, clock, (Below.heap_alloc _ _ b hbl).trans hb, Ft, hs, hD⟩)
 exact AnyZ.sorted_in Tryz.sorted107 Fence.wide 5 trivial trivial trivial trivial rfl (by omega) (Tryz.sorts107 _) (enters_of Tryz.func166 (by kernel_rfl) rfl) 167 #[.pointer (some ⟨w.heap.size, 0, none⟩)] trivial (enters_of Tryz.func167 (by kernel_rfl) rfl) _ _ hmax hbytes _ hseq
end Go.Proofs
namespace Go.Proofs.YtdoiekknhnbepaaGreatDoor
section
open Go.RowKit Go.Sort Go.Maps
open Lib renaming hid → Jh
open List renaming length_append → Jd
attribute [local go_sem ↓] Go.wp_at_zero Go.wp_at_succ
attribute [local go_sem] Later.cell
structure Hd where
 A : Option Addr
 n : Nat
 c : Nat
instance : Inhabited Hd := ⟨⟨none, 0, 0⟩⟩
def encH (h : Hd) : List Value := [.slice h.A h.n h.c]
def Sets (w : World) (A : Option Addr) (n : Nat) (L : List (List Lb)) : Prop :=
 ∃ hs : List Hd, Elems w w.heap.size 1 encH A n hs ∧ L.length = n ∧ ∀ (i : Nat) (h : Hd), hs[i]? = some h → Elems w w.heap.size 2 encLb h.A h.n L[i]! ∧ h.n ≤ h.c
section
variable {w w' : World} {A : Option Addr} {n : Nat} {L : List (List Lb)}
theorem Sets.len (h : Sets w A n L) : L.length = n := by obtain ⟨_, _, h2, _⟩ := h; exact h2
theorem Sets.at_ (h : Sets w A n L) {i : Nat} (hi : i < n) : ∃ b off B m c, A = some ⟨b, off, none⟩ ∧ b < w.heap.size ∧ w.cell? ⟨b, off + i, none⟩ = some (.slice B m c) ∧ Elems w w.heap.size 2 encLb B m L[i]! ∧ m ≤ c := by
 obtain ⟨hs, h1, h2, h3⟩ := h; obtain ⟨b, off, e, hb, hc⟩ := h1.2 (by omega); have hl : i < hs.length := by have := h1.len; omega
 obtain ⟨a1, a2⟩ := h3 i hs[i] (List.getElem?_eq_getElem hl); have := hc i hs[i] (List.getElem?_eq_getElem hl) 0 _ rfl; exact ⟨b, off, _, _, _, e, hb, by simpa using this, a1, a2⟩
end
def allT (L : List (List Lb)) : List Txt := L.flatMap texts
theorem Kqo (l : List Lb) (L : List (List Lb)) : allT (l :: L) = texts l ++ allT L := rfl
theorem Klz (L M : List (List Lb)) : allT (L ++ M) = allT L ++ allT M := by simp [allT]
theorem Kfs (l : List Lb) : (texts l).length = 2 * l.length := by
 induction l with
 | nil => rfl
 | cons x l ih => rw [Kgh, List.length_cons, List.length_cons, ih, List.length_cons]; omega
theorem Qak (l m : List Lb) : texts (l ++ m) = texts l ++ texts m := by simp [texts]
theorem Qbw {L : List (List Lb)} {i : Nat} (h : i < L.length) : (texts L[i]!).length ≤ (allT L).length := by
 rw [getElem!_pos L i h]; have hL : L = L.take i ++ L[i] :: L.drop (i + 1) := by rw [← List.drop_eq_getElem_cons h, List.take_append_drop]
 have e : allT L = allT (L.take i) ++ (texts L[i] ++ allT (L.drop (i + 1))) := by
  conv => lhs; rw [hL]
  rw [Klz, Kqo]
 rw [e, Jd, Jd]; omega
theorem Qbf {L : List (List Lb)} {i : Nat} (h : i < L.length) : allT (L.take (i + 1)) = allT (L.take i) ++ texts L[i]! := by
 rw [List.take_succ_eq_append_getElem h, Klz, getElem!_pos L i h]; simp [allT]
theorem Kja {L : List (List Lb)} (i : Nat) : (allT (L.take i)).length ≤ (allT L).length := by
 have : allT L = allT (L.take i) ++ allT (L.drop i) := by rw [← Klz, List.take_append_drop]
 rw [this]; simp
theorem Qel {L : List (List Lb)} {i k : Nat} (h : i < L.length) (hk : k < L[i]!.length) : L[i]![k]!.n ∈ allT L ∧ L[i]![k]!.v ∈ allT L := by
 rw [getElem!_pos L i h] at hk ⊢; rw [getElem!_pos _ k hk]; constructor
 ·refine List.mem_flatMap.2 ⟨L[i], List.getElem_mem h, List.mem_flatMap.2 ⟨L[i][k], List.getElem_mem hk, by simp⟩⟩
 ·refine List.mem_flatMap.2 ⟨L[i], List.getElem_mem h, List.mem_flatMap.2 ⟨L[i][k], List.getElem_mem hk, by simp⟩⟩
theorem Kzb {l : List Lb} {k : Nat} (h : k < l.length) : texts (l.take (k + 1)) = texts (l.take k) ++ [l[k]!.n] ++ [l[k]!.v] := by
 rw [List.take_succ_eq_append_getElem h, Qak, getElem!_pos l k h]; simp [texts]
theorem law5 : Keyed Tryz.prog 9 := string_keyed Tryz.underlying9
theorem zero5 (w : World) : (zeroValue 3).run Tryz.prog w = .ok (.int .i64 0) w := by kernel_rfl
def Kef (w : World) (b : Nat) (D : DataW Unit) (l : List Txt) : Prop := w.ownsMap Tryz.prog 9 (plainElem Tryz.prog 3) b l.length D ∧ ∀ x : Txt, Maps.has D (.string x) = true ↔ x ∈ l
theorem Kef.put {w w' : World} {b : Nat} {D : DataW Unit} {l : List Txt} {x : Txt} {d : DataW Unit} (h : Kef w b D l) (hown : w'.ownsMap Tryz.prog 9 (plainElem Tryz.prog 3) b (l.length + 1) (D.put (.string x) d)) : Kef w' b (D.put (.string x) d) (l ++ [x]) := by
 refine ⟨by rw [Jd]; exact hown, fun y => ?_⟩
 by_cases e : y = x
 ·subst e; rw [has_put_same (k := .string y) (h.1.tidy law5).isMap trivial]; simp
 ·rw [has_put_other (by intro h; injection h with h; exact e h), h.2 y]; simp [e]
theorem Qeu {D : DataW Unit} {w : World} {b n : Nat} {l ss : List Txt} (hown : w.ownsMap Tryz.prog 9 (plainElem Tryz.prog 3) b n D) (hk : ∀ x : Txt, Maps.has D (.string x) = true ↔ x ∈ l) (hp : ss.Perm (strKeys D)) : IsTab l (ss.mergeSort fun x y => decide (x ≤ y)) := by
 obtain ⟨es, rfl, hpw⟩ := hown.tidy law5; obtain ⟨es', e', hko⟩ := hown.keysOf; injection e' with e'; subst e'
 have hstr : ∀ p ∈ es, ∃ x, p.1 = .string x := fun p hp => by
  obtain ⟨v, hv⟩ := hko p hp; obtain ⟨x, _, hx, _⟩ := Maps.keyOf_str Tryz.underlying9 hv; exact ⟨x, hx⟩
 have hnd : (strKeys (.map es)).Nodup := by
  show (es.map fun p => strOf p.1).Nodup
  refine List.pairwise_map.2 (hpw.imp_of_mem fun {p q} hp' hq' hne e => hne ?_); obtain ⟨a, ha⟩ := hstr p hp'; obtain ⟨b, hb⟩ := hstr q hq'; rw [ha, hb] at e ⊢; exact congrArg _ e
 have hmem : ∀ x, x ∈ strKeys (.map es) ↔ x ∈ l := by
  intro x; rw [← hk x, has_eq, List.any_eq_true]; show x ∈ es.map (fun p => strOf p.1) ↔ _
  rw [List.mem_map]; constructor
  ·rintro ⟨p, hp, rfl⟩; obtain ⟨a, ha⟩ := hstr p hp; exact ⟨p, hp, by rw [ha]; simp [strOf, Lit.sameKey]⟩
  ·rintro ⟨p, hp, e⟩; obtain ⟨a, ha⟩ := hstr p hp; rw [ha] at e; exact ⟨p, hp, by rw [ha]; simpa [strOf, Lit.sameKey] using e⟩
 have hsorted : (ss.mergeSort fun x y => decide (x ≤ y)).Pairwise (fun a b => a ≤ b) := by
  have := List.pairwise_mergeSort (le := fun x y : Txt => decide (x ≤ y)) (by intro a b c; simp; exact List.le_trans) (by intro a b; simp; exact List.le_total a b) ss; simpa using this
 have hperm := (List.mergeSort_perm ss fun x y => decide (x ≤ y)).trans hp; have hnd' := (hperm.nodup_iff).2 hnd; refine ⟨?_, fun x => ?_⟩
 ·unfold Asc; refine (hsorted.and hnd').imp ?_; rintro a b ⟨h1, h2⟩; exact Kqy h1 (Ne.symm h2)
 ·rw [← hmem x]; exact hperm.mem_iff
theorem Kef.below {w w' : World} {b : Nat} {D : DataW Unit} {l : List Txt} (h : Kef w b D l) (hb : Below w.heap.size w w') : Kef w' b D l :=
 ⟨h.1.kept (row := none) ⟨hb.os, hb.tape, hb.output, hb.size, fun k hk _ => hb.block k hk⟩ (by simp), h.2⟩
theorem Krb {w w0 w' : World} {B b : Nat} (h : Below B w w0) (hg : w0.grownBy w' (some b)) (hb : B ≤ b) (hB : B ≤ w0.heap.size) : Below B w w' :=
 h.trans ⟨hg.os, hg.tape, hg.output, hg.size, fun k hk => hg.block k (by omega) (fun e => by injection e with e; omega)⟩
theorem Krk (L : List (List Lb)) (A : Option Addr) (n c : Nat) (w : World) (hS : Sets w A n L) (hn : n ≤ 1099511627776) (hall : (allT L).length ≤ 1099511627776) (hz : ∀ x ∈ allT L, x.length ≤ 1099511627776) :
  Calls Tryz.prog 39 #[.slice A n c] w (OfOut w (allT L)) := by
 have hmm := @run_makeMap Tryz.prog; have hL := hS.len; have HL := Jh hL; have HZ := Jh hz; clear hL hz; go_enter Tryz.func39, Tryz.ntmps39
 go_upto_block 0 with fail
 go_cut [3] (fun s3 wz => ∃ D, s3 = .map (some w.heap.size) ∧ Kef wz w.heap.size D (allT L) ∧ Below w.heap.size w wz)
 case first =>
  go_wp2_with fail
  go_loopg [11] n (fun g s11 wr => ∃ (i : Nat) (D : DataW Unit), i + g = n ∧ s11 = .int .i64 (i : Int) ∧ Kef wr w.heap.size D (allT (L.take i)) ∧ Below w.heap.size w wr)
  case atStart => exact ⟨0, _, by omega, rfl, ⟨World.ownsMap_made _ _ _ _, fun x => by simp [allT, Maps.has]⟩, (Below.refl _ _).alloc (Nat.le_refl _) _⟩
  case round =>
   obtain ⟨i, D, hig, rfl, hkm, hB⟩ := hrel; have HIG := Jh hig; clear hig
   by_cases hi : i < n
   ·have el : decide ((i : Int) < (n : Int)) = true := by simp; omega
    have el' : decide (i < n) = true := by simp; omega
    have hiL : i < L.length := by have := HL.out; omega
    obtain ⟨b, off, C, m, d, rfl, hbl, hcell, hE, hmd⟩ := hS.at_ hi; have hcr := (hB.cell (p := ⟨b, off + i, none⟩) hbl).trans hcell; have htl := Kja (L := L) i; have htk := Qbf hiL; have hpart := Qbw hiL; have hmem := fun k hk => Qel (L := L) (i := i) (k := k) hiL hk
    obtain ⟨l, hl⟩ : ∃ l, L[i]! = l := ⟨_, rfl⟩; rw [hl] at hE htk hpart hmem; have hll := hE.len; rw [Kfs, hll] at hpart
    have hsum : (allT (L.take i)).length + 2 * m ≤ 1099511627776 := by
     have h1 := Kja (L := L) (i + 1); rw [htk, Jd, Kfs, hll] at h1; omega
    obtain ⟨T, hT⟩ : ∃ T, allT (L.take i) = T := ⟨_, rfl⟩; rw [hT] at hkm htk hsum; have HTK := Jh htk; have HLL := Jh hll; have HMEM := Jh hmem; clear hcell htl htk hmem hl hll hT hiL; go_upto_block 1 with fail
    go_cut [] (fun wz => ∃ D, Kef wz w.heap.size D (T ++ texts l) ∧ Below w.heap.size w wz)
    case first =>
     go_wp2_with fail
     go_loopg [17] m (fun g s17 wz => ∃ (k : Nat) (D : DataW Unit), k + g = m ∧ s17 = .int .i64 (k : Int) ∧ Kef wz w.heap.size D (T ++ texts (l.take k)) ∧ Below w.heap.size w wz)
     case atStart => exact ⟨0, D, by omega, rfl, by simpa [texts] using hkm, hB⟩
     case round =>
      obtain ⟨k, D, hkg, rfl, hkm, hB⟩ := hrel; have HKG := Jh hkg; clear hkg
      by_cases hk : k < m
      ·have ek : decide ((k : Int) < (m : Int)) = true := by simp; omega
       have ek' : decide (k < m) = true := by simp; omega
       have hkl : k < l.length := by have := HLL.out; omega
       obtain ⟨bb, oo, rfl, _, _⟩ := hE.2 (by omega); obtain ⟨hbl2, c0, c1⟩ := Kca hE (by omega) hB k hkl; obtain ⟨hm1, hm2⟩ := HMEM.out k hkl; have z1 := HZ.out _ hm1; have z2 := HZ.out _ hm2; have htk := Kzb hkl; obtain ⟨x, hx⟩ : ∃ x, l[k]! = x := ⟨_, rfl⟩; rw [hx] at c0 c1 z1 z2 htk; obtain ⟨N, hN⟩ : ∃ N : ByteArray, (⟨x.n.toArray⟩ : ByteArray) = N := ⟨_, rfl⟩; obtain ⟨V, hV⟩ : ∃ N : ByteArray, (⟨x.v.toArray⟩ : ByteArray) = N := ⟨_, rfl⟩; rw [hN] at c0; rw [hV] at c1; have hNn : N.data.toList = x.n := by rw [← hN]
       have hVv : V.data.toList = x.v := by rw [← hV]
       have hNz : N.size ≤ maxLen := by rw [← Kah, hNn]; unfold maxLen; omega
       have hVz : V.size ≤ maxLen := by rw [← Kah, hVv]; unfold maxLen; omega
       have kN := Go.WideMaps.keyOf_string_mk (P := Tryz.prog) Tryz.underlying9 hNz; have kV := Go.WideMaps.keyOf_string_mk (P := Tryz.prog) Tryz.underlying9 hVz; rw [hNn] at kN; rw [hVv] at kV
       have hUl : (T ++ texts (l.take k)).length + 2 ≤ 1099511627776 := by
        rw [Jd, Kfs, List.length_take]; omega
       obtain ⟨U, hU⟩ : ∃ U, T ++ texts (l.take k) = U := ⟨_, rfl⟩; have hnext : T ++ texts (l.take (k + 1)) = U ++ [x.n] ++ [x.v] := by rw [htk, ← hU]; simp
       rw [hU] at hkm hUl; have HNEXT := Jh hnext; have KN := Jh kN; have KV := Jh kV; clear hx hN hV hNn hVv hNz hVz kN kV hU hnext htk hm1 hm2 z1 z2; go_upto_region 8 with fail
       have hB1 : Below w.heap.size w (wr.alloc (.cells #[.string N, .string V] 99)) := hB.alloc hB.size _; have hq : Blk (wr.alloc (.cells #[.string N, .string V] 99)) wr.heap.size 99 #[.string N, .string V] := Blk.new _ _ _; have hkm1 : Kef (wr.alloc (.cells #[.string N, .string V] 99)) w.heap.size D U := hkm.below ((Below.refl _ _).alloc (Nat.le_refl _) _); have hqne : w.heap.size ≠ wr.heap.size := by have := hkm.1.lt; omega
       obtain ⟨v1, hv1⟩ : ∃ w1, wr.alloc (.cells #[.string N, .string V] 99) = w1 := ⟨_, rfl⟩; obtain ⟨q, hqq⟩ : ∃ p, wr.heap.size = p := ⟨_, rfl⟩; rw [hv1] at hB1 hq hkm1 ⊢; rw [hqq] at hq hqne ⊢; clear hv1 hqq c0 c1 hB hkm; have q0 : _ = some (Value.string N) := hq.cell 0; have q1 : _ = some (Value.string V) := hq.cell 1; go_wp2_with (at_lookup; refine wpList_lookup_own_int _ rfl _ _ 191 rfl 9 3 .i64 law5 Tryz.underlying191 Tryz.underlying3 (zero5 _) w.heap.size U.length D rfl hkm1.1 _ _ rfl KN.out ?_)
       intro cn _ hwc; go_wp2_with (at_mapUpdate; refine wpList_mapUpdate_own _ rfl _ _ _ 191 rfl 9 3 law5 Tryz.underlying191 _ w.heap.size U.length D rfl hkm1.1 (by unfold maxLen; omega) _ _ _ rfl rfl KN.out _ [] (plainElem_int Tryz.underlying3 (wrap64_wf _)) ?_)
       intro v2 hown2 hgrow2; have hkm2 := hkm1.put hown2; have hq2 := hq.grown hgrow2 (by simpa using Ne.symm hqne); have hB2 := Krb hB1 hgrow2 (Nat.le_refl _) hB1.size; have q1' : _ = some (Value.string V) := hq2.cell 1; clear hown2 hgrow2 hkm1 q0 q1 hq hB1; go_wp2_with (at_lookup; refine wpList_lookup_own_int _ rfl _ _ 191 rfl 9 3 .i64 law5 Tryz.underlying191 Tryz.underlying3 (zero5 _) w.heap.size (U ++ [x.n]).length _ rfl hkm2.1 _ _ rfl KV.out ?_)
       intro cv _ hwv; go_wp2_with (at_mapUpdate; refine wpList_mapUpdate_own _ rfl _ _ _ 191 rfl 9 3 law5 Tryz.underlying191 _ w.heap.size (U ++ [x.n]).length _ rfl hkm2.1 (by unfold maxLen; simp; omega) _ _ _ rfl rfl KV.out _ [] (plainElem_int Tryz.underlying3 (wrap64_wf _)) ?_)
       intro v3 hown3 hgrow3; have hkm3 := hkm2.put (by rw [Jd]; exact hown3); have hB3 := Krb hB2 hgrow3 (Nat.le_refl _) hB2.size; clear hown3 hgrow3 hkm2 q1' hq2 hB2; go_wp2_with fail
       go_roundg (gk - 1)
       case measure => have := HKG.out; omega
       case rel => exact ⟨k + 1, _, by have := HKG.out; omega, by go_num, by rw [HNEXT.out]; exact hkm3, hB3⟩
      ·have ek : decide ((k : Int) < (m : Int)) = false := by simp; omega
       have ek' : decide (k < m) = false := by simp; omega
       have htk : l.take k = l := List.take_of_length_le (by have := HLL.out; omega); rw [htk] at hkm; clear htk; go_wp2_with fail
       go_meet
       exact ⟨D, hkm, hB⟩
    case rest =>
     obtain ⟨D', hkm', hB'⟩ := hcut; obtain ⟨wx, rfl⟩ : ∃ x, x = wc := ⟨_, rfl⟩; go_wp2_with fail
     go_roundg (gk - 1)
     case measure => have := HIG.out; omega
     case rel => exact ⟨i + 1, D', by have := HIG.out; omega, by go_num, by rw [HTK.out]; exact hkm', hB'⟩
   ·have el : decide ((i : Int) < (n : Int)) = false := by simp; omega
    have el' : decide (i < n) = false := by simp; omega
    have htk : L.take i = L := List.take_of_length_le (by have := HL.out; omega); rw [htk] at hkm; clear htk; go_wp2_with fail
    go_meet
    exact ⟨D, rfl, hkm, hB⟩
 case rest =>
  obtain ⟨D, rfl, hkm, hB⟩ := hcut; obtain ⟨w1, rfl⟩ : ∃ x, x = wc := ⟨_, rfl⟩; have hkeys := callsIn_wide.1 (Tryz.maps_Keys_108 (some w.heap.size) w1)
  have hsz : Maps.size D ≤ 1099511627776 := by
   obtain ⟨es, clock, _, _, hs, hD⟩ := hkm.1; rw [hD, size_eq, length_sorted, List.length_map, Array.length_toList]; omega
  have hsorted := callsIn_wide.1 (Tryz.slices_Sorted_keys_107_108 w.heap.size (allT L).length D _ w1 hkm.1 (by unfold maxLen; omega) (by omega)); have HK := Jh hkeys; have HSO := Jh hsorted; clear hkeys hsorted; go_wp2_with fail
  refine HK.out.mono ?_; rintro e w2 ⟨rfl, rfl⟩; go_wp2_with fail
  refine HSO.out.mono ?_; rintro e w3 ⟨v, ss, rfl, hP, hrow, _, hb3⟩; have htab := Qeu hkm.1 hkm.2 hP; have hB2 : Below w.heap.size w (w1.alloc (.cells #[.map (some w.heap.size)] 191)) := hB.alloc hB.size _; have hB3 := then_ hB2 hb3
  have hlen : (ss.mergeSort fun x y => decide (x ≤ y)).length ≤ (allT L).length := by
   rw [List.length_mergeSort, hP.length_eq]; obtain ⟨es, clock, _, _, hs, hD⟩ := hkm.1; rw [hD]; show (List.map _ _).length ≤ _
   rw [List.length_map, length_sorted, List.length_map, Array.length_toList]; exact hs
  have hml : (ss.mergeSort fun x y => decide (x ≤ y)).length = ss.length := List.length_mergeSort _; obtain ⟨z, hz⟩ : ∃ z, ss.mergeSort (fun x y => decide (x ≤ y)) = z := ⟨_, rfl⟩; rw [hz] at htab hlen hml hrow; rw [← hml] at hrow; obtain ⟨A', c', rfl, hs3, _, hc3⟩ := Strs.of_own hrow rfl; obtain ⟨q, hq⟩ : ∃ m, z.length = m := ⟨_, rfl⟩; rw [hq] at hs3 hc3 ⊢; have HLEN := Jh hlen; clear hz hml hrow hkm hB hb3 hB2 hP hsz hq hlen; go_wp2_with fail
  go_ret
  exact ⟨_, z, rfl, ⟨_, q, c', .inr ⟨_, rfl, Blk.new _ _ _⟩, hs3.below ((Below.refl _ _).alloc (Nat.le_refl _) _), hc3⟩, htab, HLEN.out, hB3.alloc hB3.size _, hB3.size⟩
end
section
structure Wnd where
 start : Int
 count : Int
 sum : Nat
 min : Nat
 max : Nat
 last : Nat
def wnd0 : Wnd := ⟨0, 0, 0, 0, 0, 0⟩
def Kdm (w a : Wnd) (first : Bool) : Nat :=
 if w.start < 0 ∨ 1125899906842624 < w.start then 1 else if first = false ∧ w.start ≤ a.start then 2 else if w.count < 1 ∨ 4611686018427387904 < w.count then 3 else 0
def WndOk (w : Wnd) : Prop := 0 ≤ w.start ∧ w.start ≤ 1125899906842624 ∧ 1 ≤ w.count ∧ w.count ≤ 4611686018427387904
def Kay (w : Wnd) : Prop := w.sum < 2 ^ 64 ∧ w.min < 2 ^ 64 ∧ w.max < 2 ^ 64 ∧ w.last < 2 ^ 64
theorem Kfn (w a : Wnd) (first : Bool) : Kdm w a first = 0 ↔ WndOk w ∧ (first = true ∨ a.start < w.start) := by
 unfold Kdm WndOk; cases first <;> simp <;> split <;> (try split) <;> (try split) <;> simp <;> omega
def wndT (a w : Wnd) : List UInt8 := uintT (w.start - a.start).toNat ++ uintT w.count.toNat ++ uintT (w.sum ^^^ a.sum) ++ uintT (w.min ^^^ a.min) ++ uintT (w.max ^^^ a.max) ++ uintT (w.last ^^^ a.last)
def wndsT : Wnd → List Wnd → List UInt8
 | _, [] => []
 | a, w :: l => wndT a w ++ wndsT w l
def aggT (l : List Wnd) : List UInt8 := uintT l.length ++ wndsT wnd0 l
def Kdw : Wnd → Bool → List Wnd → Bool
 | _, _, [] => true
 | a, first, w :: l => decide (Kdm w a first = 0) && Kdw w false l
def ruAt (s : List UInt8) (i : Nat) : Option (Nat × Nat) := match readU (s.drop i) with
 | .ok (v, k) => some (v, i + k)
 | .error _ => none
theorem ru_of {s r : List UInt8} {i v : Nat} (hv : v < 2 ^ 64) (h : s.drop i = uintT v ++ r) : ruAt s i = some (v, i + (uintT v).length) ∧ s.drop (i + (uintT v).length) = r := by
 refine ⟨?_, ?_⟩
 ·unfold ruAt; rw [h, Kej hv]
 ·rw [← List.drop_drop, h, List.drop_left]
def wndR (a : Wnd) (first : Bool) (s : List UInt8) (i : Nat) : Option (Wnd × Nat) :=
 match ruAt s i with
 | none => none
 | some (st, i1) => match ruAt s i1 with
  | none => none
  | some (ct, i2) => match ruAt s i2 with
   | none => none
   | some (a1, i3) => match ruAt s i3 with
    | none => none
    | some (a2, i4) => match ruAt s i4 with
     | none => none
     | some (a3, i5) => match ruAt s i5 with
      | none => none
      | some (a4, i6) =>
       if st ≤ 1125899906842624 ∧ Kdm ⟨a.start + st, (Nat.min ct 4611686018427387905 : Nat), a.sum ^^^ a1, a.min ^^^ a2, a.max ^^^ a3, a.last ^^^ a4⟩ a first = 0 then
        some (⟨a.start + st, (Nat.min ct 4611686018427387905 : Nat), a.sum ^^^ a1, a.min ^^^ a2, a.max ^^^ a3, a.last ^^^ a4⟩, i6) else none
def wndsR (s : List UInt8) : Nat → Wnd → Bool → Nat → Option (List Wnd × Nat)
 | 0, _, _, i => some ([], i)
 | n + 1, a, first, i => match wndR a first s i with
  | none => none
  | some (w, i') => match wndsR s n w false i' with
   | none => none
   | some (l, i2) => some (w :: l, i2)
def aggR (s : List UInt8) : Option (List Wnd) := match ruAt s 0 with
 | none => none
 | some (n, i) => match wndsR s n wnd0 true i with
  | none => none
  | some (l, j) => if j = s.length then some l else none
theorem Qcy {s r : List UInt8} {i : Nat} {a w : Wnd} {first : Bool} (ha : 0 ≤ a.start) (hb : Kay a) (hw : Kay w) (hf : Kdm w a first = 0) (hz : first = true → a.start = 0) (h : s.drop i = wndT a w ++ r) :
  wndR a first s i = some (w, i + (wndT a w).length) ∧ s.drop (i + (wndT a w).length) = r := by
 obtain ⟨⟨w1, w2, w3, w4⟩, wf⟩ := (Kfn w a first).1 hf
 have hle : a.start ≤ w.start := by
  rcases wf with e | e
  ·rw [hz e]; exact w1
  ·omega
 have hst : (w.start - a.start).toNat < 2 ^ 64 := by omega
 have hct : w.count.toNat < 2 ^ 64 := by omega
 have hx : ∀ {x y : Nat}, x < 2 ^ 64 → y < 2 ^ 64 → x ^^^ y < 2 ^ 64 := fun h1 h2 => Nat.xor_lt_two_pow h1 h2
 have hxx : ∀ x y : Nat, y ^^^ (x ^^^ y) = x := fun x y => by rw [Nat.xor_comm x, ← Nat.xor_assoc, Nat.xor_self, Nat.zero_xor]
 unfold wndT at h ⊢; simp only [List.append_assoc] at h; obtain ⟨e1, k1⟩ := ru_of hst h; obtain ⟨e2, k2⟩ := ru_of hct k1; obtain ⟨e3, k3⟩ := ru_of (hx hw.1 hb.1) k2; obtain ⟨e4, k4⟩ := ru_of (hx hw.2.1 hb.2.1) k3; obtain ⟨e5, k5⟩ := ru_of (hx hw.2.2.1 hb.2.2.1) k4; obtain ⟨e6, k6⟩ := ru_of (hx hw.2.2.2 hb.2.2.2) k5; have hs : a.start + ((w.start - a.start).toNat : Int) = w.start := by omega
 have hm : ((Nat.min w.count.toNat 4611686018427387905 : Nat) : Int) = w.count := by
  rw [show Nat.min w.count.toNat 4611686018427387905 = w.count.toNat from Nat.min_eq_left (by omega)]; omega
 have hcond : (w.start - a.start).toNat ≤ 1125899906842624 := by omega
 refine ⟨?_, ?_⟩
 ·unfold wndR; simp only [e1, e2, e3, e4, e5, e6, hxx, hs, hm]; rw [if_pos ⟨hcond, hf⟩]; simp [Nat.add_assoc]
 ·simpa [Nat.add_assoc] using k6
theorem Kqi {s : List UInt8} : ∀ (l : List Wnd) {i : Nat} {a : Wnd} {first : Bool}, 0 ≤ a.start → Kay a → (∀ w ∈ l, Kay w) → Kdw a first l = true → (first = true → a.start = 0) → s.drop i = wndsT a l → wndsR s l.length a first i = some (l, i + (wndsT a l).length)
 | [], _, _, _, _, _, _, _, _, _ => rfl
 | w :: l, i, a, first, ha, hb, hw, hf, hz, h => by
  rw [Kdw, Bool.and_eq_true, decide_eq_true_eq] at hf; rw [wndsT] at h; obtain ⟨e1, k1⟩ := Qcy ha hb (hw w (List.mem_cons_self ..)) hf.1 hz h; have hw0 := ((Kfn w a first).1 hf.1).1.1; have ih := Kqi l hw0 (hw w (List.mem_cons_self ..)) (fun x hx => hw x (List.mem_cons_of_mem _ hx)) hf.2 (fun h => by cases h) k1; rw [List.length_cons, wndsR, e1]; dsimp only; rw [ih]; simp [wndsT, Nat.add_assoc]
theorem Qeb {l : List Wnd} (hw : ∀ w ∈ l, Kay w) (hf : Kdw wnd0 true l = true) (hn : l.length < 2 ^ 64) : aggR (aggT l) = some l := by
 have h0 : (aggT l).drop 0 = uintT l.length ++ wndsT wnd0 l := rfl; obtain ⟨e1, k1⟩ := ru_of hn h0; have e2 := Kqi l (a := wnd0) (first := true) (Int.le_refl _) ⟨by decide, by decide, by decide, by decide⟩ hw hf (fun _ => rfl) k1; unfold aggR; rw [e1]; dsimp only; rw [e2]; dsimp only; rw [if_pos]; simp [aggT]
def cmpL : List Lb → List Lb → Int
 | [], [] => 0
 | [], _ :: _ => -1
 | _ :: _, [] => 1
 | x :: a, y :: b => if x.n < y.n then -1 else if y.n < x.n then 1 else if x.v < y.v then -1 else if y.v < x.v then 1 else cmpL a b
theorem Kea {a b : Txt} (h1 : ¬ a < b) (h2 : ¬ b < a) : a = b := List.le_antisymm (List.not_lt.1 h2) (List.not_lt.1 h1)
theorem Kpy : ∀ a : List Lb, cmpL a a = 0
 | [] => rfl
 | x :: a => by
  have h1 : ¬ x.n < x.n := List.lt_irrefl _; have h2 : ¬ x.v < x.v := List.lt_irrefl _; rw [cmpL, if_neg h1, if_neg h1, if_neg h2, if_neg h2, Kpy a]
theorem Kpq : ∀ {a b : List Lb}, cmpL a b = 0 → a = b
 | [], [], _ => rfl
 | [], _ :: _, h => by simp [cmpL] at h
 | _ :: _, [], h => by simp [cmpL] at h
 | x :: a, y :: b, h => by
  rw [cmpL] at h
  split at h
  ·simp at h
  ·rename_i h1
   split at h
   ·simp at h
   ·rename_i h2
    split at h
    ·simp at h
    ·rename_i h3
     split at h
     ·simp at h
     ·rename_i h4
      have e1 := Kea h1 h2; have e2 := Kea h3 h4; rw [Kpq h]; cases x; cases y
      simp_all
def ltB (x y : Lb) : Prop := x.n < y.n ∨ (x.n = y.n ∧ x.v < y.v)
theorem Kfy {x y z : Lb} (h1 : ltB x y) (h2 : ltB y z) : ltB x z := by
 rcases h1 with h1 | ⟨e1, h1⟩
 ·rcases h2 with h2 | ⟨e2, _⟩
  ·exact .inl (List.lt_trans h1 h2)
  ·exact .inl (e2 ▸ h1)
 ·rcases h2 with h2 | ⟨e2, h2⟩
  ·exact .inl (e1 ▸ h2)
  ·exact .inr ⟨e1.trans e2, List.lt_trans h1 h2⟩
theorem Qeh {x y : Lb} {a b : List Lb} : cmpL (x :: a) (y :: b) < 0 ↔ ltB x y ∨ (x = y ∧ cmpL a b < 0) := by
 rw [cmpL]; unfold ltB
 by_cases h1 : x.n < y.n
 ·rw [if_pos h1]; exact ⟨fun _ => .inl (.inl h1), fun _ => by decide⟩
 ·rw [if_neg h1]
  by_cases h2 : y.n < x.n
  ·rw [if_pos h2]; refine ⟨fun h => by simp at h, ?_⟩; rintro ((h | ⟨e, _⟩) | ⟨e, _⟩)
   ·exact absurd h h1
   ·rw [e] at h2; exact absurd h2 (List.lt_irrefl _)
   ·rw [e] at h2; exact absurd h2 (List.lt_irrefl _)
  ·rw [if_neg h2]; have en := Kea h1 h2
   by_cases h3 : x.v < y.v
   ·rw [if_pos h3]; exact ⟨fun _ => .inl (.inr ⟨en, h3⟩), fun _ => by decide⟩
   ·rw [if_neg h3]
    by_cases h4 : y.v < x.v
    ·rw [if_pos h4]; refine ⟨fun h => by simp at h, ?_⟩; rintro ((h | ⟨_, h⟩) | ⟨e, _⟩)
     ·exact absurd h h1
     ·exact absurd h h3
     ·rw [e] at h4; exact absurd h4 (List.lt_irrefl _)
    ·rw [if_neg h4]; have ev := Kea h3 h4; have exy : x = y := by cases x; cases y; simp_all
     constructor
     ·exact fun h => .inr ⟨exy, h⟩
     ·rintro ((h | ⟨_, h⟩) | ⟨_, h⟩)
      ·exact absurd h h1
      ·exact absurd h h3
      ·exact h
structure Ser where
 labels : List Lb
 samples : List Smp
 windows : List Wnd
structure Cont where
 res : Int
 frm : Int
 to_ : Int
 series : List Ser
def riseI : List Int → Bool
 | [] => true
 | [_] => true
 | a :: b :: l => decide (a < b) && riseI (b :: l)
def Kdl (f t : Int) (l : List Int) : Bool := decide (l ≠ []) && l.all (fun x => decide (f ≤ x) && decide (x < t)) && riseI l
def Kdk (c : Cont) (s : Ser) : Bool :=
 if c.res = 0 then decide (s.windows.length = 0) && Kdl c.frm c.to_ (s.samples.map Smp.t)
 else Kdw wnd0 true s.windows && decide (s.samples.length = 0) && Kdl c.frm c.to_ (s.windows.map Wnd.start)
end
section
open Go.RowKit
def Kbf (x : Smp) : List Value := [.int .i64 x.t, .int .u64 (x.v : Int)]
def Kaw (x : Wnd) : List Value := [.int .i64 x.start, .int .i64 x.count, .int .u64 (x.sum : Int), .int .u64 (x.min : Int), .int .u64 (x.max : Int), .int .u64 (x.last : Int)]
instance smpIn : Inhabited Smp := ⟨⟨0, 0⟩⟩
instance wndIn : Inhabited Wnd := ⟨wnd0⟩
instance serIn : Inhabited Ser := ⟨⟨[], [], []⟩⟩
structure Hd3 where
 l : Hd
 s : Hd
 w : Hd
instance hd3In : Inhabited Hd3 := ⟨⟨default, default, default⟩⟩
def encH3 (h : Hd3) : List Value := [.slice h.l.A h.l.n h.l.c, .slice h.s.A h.s.n h.s.c, .slice h.w.A h.w.n h.w.c]
structure SerAt (w : World) (h : Hd3) (x : Ser) : Prop where
 l : Elems w w.heap.size 2 encLb h.l.A h.l.n x.labels
 lc : h.l.n ≤ h.l.c
 s : Elems w w.heap.size 2 Kbf h.s.A h.s.n x.samples
 sc : h.s.n ≤ h.s.c
 w : Elems w w.heap.size 6 Kaw h.w.A h.w.n x.windows
 wc : h.w.n ≤ h.w.c
theorem SerAt.below {w w' : World} {h : Hd3} {x : Ser} (hs : SerAt w h x) (hb : Below w.heap.size w w') : SerAt w' h x :=
 ⟨(hs.l.below hb).more hb.size, hs.lc, (hs.s.below hb).more hb.size, hs.sc, (hs.w.below hb).more hb.size, hs.wc⟩
def Sers (w : World) (A : Option Addr) (n : Nat) (L : List Ser) : Prop :=
 ∃ hs : List Hd3, Elems w w.heap.size 3 encH3 A n hs ∧ L.length = n ∧ ∀ (i : Nat) (h : Hd3), hs[i]? = some h → SerAt w h L[i]!
section
variable {w w' : World} {A : Option Addr} {n : Nat} {L : List Ser}
theorem Sers.below (h : Sers w A n L) (hb : Below w.heap.size w w') : Sers w' A n L := by
 obtain ⟨hs, h1, h2, h3⟩ := h; exact ⟨hs, (h1.below hb).more hb.size, h2, fun i x hx => (h3 i x hx).below hb⟩
theorem Sers.len (h : Sers w A n L) : L.length = n := by obtain ⟨_, _, h2, _⟩ := h; exact h2
theorem Sers.at_ (h : Sers w A n L) {i : Nat} (hi : i < n) : ∃ b off x, A = some ⟨b, off, none⟩ ∧ b < w.heap.size ∧
  w.cell? ⟨b, off + i * 3, none⟩ = some (.slice x.l.A x.l.n x.l.c) ∧ w.cell? ⟨b, off + i * 3 + 1, none⟩ = some (.slice x.s.A x.s.n x.s.c) ∧ w.cell? ⟨b, off + i * 3 + 2, none⟩ = some (.slice x.w.A x.w.n x.w.c) ∧ SerAt w x L[i]! := by
 obtain ⟨hs, h1, h2, h3⟩ := h; obtain ⟨b, off, e, hb, hc⟩ := h1.2 (by omega); have hl : i < hs.length := by have := h1.len; omega
 have a1 := h3 i hs[i] (List.getElem?_eq_getElem hl); have c0 := hc i hs[i] (List.getElem?_eq_getElem hl) 0 _ rfl; have c1 := hc i hs[i] (List.getElem?_eq_getElem hl) 1 _ rfl; have c2 := hc i hs[i] (List.getElem?_eq_getElem hl) 2 _ rfl; exact ⟨b, off, hs[i], e, hb, by simpa using c0, c1, c2, a1⟩
end
end
section
open Go.RowKit
attribute [local go_sem ↓] Go.wp_at_zero Go.wp_at_succ
attribute [local go_sem] Later.cell
theorem Qdi {w : World} {B n : Nat} {v : Value} {s : List UInt8} (h : w.ownsRow B 5 1 v n (Lib.byteCells s)) (hn : s.length = n) : (convert 76 9 v).run Tryz.prog w = .ok (.string ⟨s.toArray⟩) w := by
 subst hn
 by_cases h0 : s = []
 ·subst h0; rcases h.2 with ⟨rfl, _⟩ | ⟨g', cap, cur, rfl, _⟩
  ·kernel_rfl
  ·kernel_rfl
 ·obtain ⟨a, cap, rfl, hc⟩ := Klw.text (l := s) h h0; exact hc
theorem Kst (B b : Nat) (T : TypeId) (rest : List Value) (l : List Bool) (w : World) (h : WrAt B b T rest l w) :
  Calls Tryz.prog 202 #[.pointer (some ⟨b, 0, none⟩)] w fun e w' => e = .returned (.string ⟨(packB l).toArray⟩) ∧ w = w' := by
 obtain ⟨h0, v, h1, h2, h3⟩ := h; have hc := Qdi h2 (Keu l).len; have c0 : w.cell? ⟨b, 0, none⟩ = some v := h1.cell 0; obtain ⟨S, hS⟩ : ∃ S : ByteArray, (⟨(packB l).toArray⟩ : ByteArray) = S := ⟨_, rfl⟩; rw [hS] at hc ⊢; clear h1 h2 h3 hS; go_enter Tryz.func202, Tryz.ntmps202
 go_wp2_with fail
 go_ret
 exact ⟨rfl, rfl⟩
theorem Kwg (B b : Nat) (c : Cst) (l : List Bool) (w : World) (h : ChAt B b c l w) (hn : c.n ≤ 120) (hlen : l.length ≤ 2000000) (hB : B ≤ w.heap.size) :
  Calls Tryz.prog 172 #[.pointer (some ⟨b, 0, none⟩)] w fun e w' => e = .returned (.string ⟨(uintT c.n ++ packB l).toArray⟩) ∧ Below w.heap.size w w' := by
 have c2 := h.cells.1; have hbl := h.lt; have H := Lib.hid h; obtain ⟨n, hn2⟩ : ∃ n, c.n = n := ⟨_, rfl⟩; rw [hn2] at c2 hn ⊢; clear h hn2; have hu := fun w => Kau n (by omega) w
 obtain ⟨U, hU⟩ : ∃ U : ByteArray, (⟨(uintT n).toArray⟩ : ByteArray) = U := ⟨_, rfl⟩; obtain ⟨V, hV⟩ : ∃ V : ByteArray, (⟨(packB l).toArray⟩ : ByteArray) = V := ⟨_, rfl⟩; have hUz : U.size ≤ 11 := by rw [← hU]; simp only [ByteArray.size, List.size_toArray]; exact (Kab n).2
 have hVz : V.size ≤ 2000000 := by rw [← hV]; simp only [ByteArray.size, List.size_toArray]; rw [(Keu l).len]; omega
 have hUV : U ++ V = (⟨(uintT n ++ packB l).toArray⟩ : ByteArray) := by rw [← hU, ← hV]; apply ByteArray.ext; simp [ByteArray.data_append]
 have HW := Lib.hid (fun (w' : World) (hb : Below w.heap.size w w') => Kst B b _ _ l w' (H.out.far hb)); simp only [hU] at hu; rw [hV] at HW; have HU := Lib.hid hu; have HUV := Lib.hid hUV; clear hu hU hV hUV; go_enter Tryz.func172, Tryz.ntmps172
 go_upto_region 3 with fail
 refine Kai (by kernel_rfl) (by kernel_rfl) ?_
 repeat (go_big_quiet_step ((first | (go_at_call 42; exact Kal _ (HU.out _)) | (go_at_call 202; exact Kmy _ (HW.out _ (Later.h _))))))
 refine wpQuiet_nil ?_; rintro w2 ⟨⟨_, hb2⟩, rfl⟩; go_wp2_with fail
 go_ret
 rw [HUV.out]; exact ⟨rfl, hb2⟩
end
section
open Go.RowKit
open Lib renaming hid → Jh
attribute [local go_sem ↓] Go.wp_at_zero Go.wp_at_succ
attribute [local go_sem] Later.cell
def stW : Cst → List Smp → Cst
 | c, [] => c
 | c, s :: l => stW (Kbg c s).2 l
def encE : Cst → List Smp → Nat
 | _, [] => 0
 | c, s :: l => if stepE c s ≠ 0 then stepE c s else encE (Kbg c s).2 l
theorem Khw : ∀ (l : List Smp) (c : Cst) (s : Smp), stW c (l ++ [s]) = (Kbg (stW c l) s).2
 | [], _, _ => rfl
 | x :: l, c, s => Khw l (Kbg c x).2 s
theorem Kgb : ∀ (l : List Smp) (c : Cst) (s : Smp), Kbl c (l ++ [s]) = Kbl c l ++ (Kbg (stW c l) s).1
 | [], c, s => by simp [Kbl, stW]
 | x :: l, c, s => by rw [List.cons_append, Kbl, Kbl, Kgb l, stW, List.append_assoc]
theorem stW_n : ∀ (l : List Smp) (c : Cst), (stW c l).n = c.n + l.length
 | [], c => rfl
 | x :: l, c => by rw [stW, stW_n l, (Kfq c x).1, List.length_cons]; omega
theorem Kzi (c : Cst) (h : c.Ok) (x : Nat) : (Kbh c x).1.length ≤ 80 := by
 have := h.2; unfold Kbh
 repeat' split
 all_goals simp [Kar]
 all_goals omega
theorem Kxt (c : Cst) (h : c.Ok) (s : Smp) : (Kbg c s).1.length ≤ 150 := by
 unfold Kbg
 split
 ·simp [Kar]
 ·have h1 := Kmr (s.t - c.last.t - c.step); have h2 := Kzi { c with step := s.t - c.last.t } h (s.v ^^^ c.last.v); simp only [List.length_append]; omega
theorem Ksi {c : Cst} {s : Smp} (h : stepE c s = 0) : 0 ≤ s.t ∧ s.t ≤ 1125899906842624 ∧ (c.n = 0 ∨ c.last.t < s.t) ∧ c.n ≠ 120 := by
 unfold stepE at h
 split at h
 ·omega
 ·split at h
  ·omega
  ·split at h
   ·omega
   ·exact ⟨by omega, by omega, by omega, by omega⟩
def prevB (prev : Option Smp) (x : Smp) : Bool := match prev with | none => true | some y => decide (y.t < x.t)
theorem Krc (prev : Option Smp) (n : Nat) (x : Smp) (l : List Smp) : fitC prev n (x :: l) = (decide (0 ≤ x.t) && decide (x.t ≤ 1125899906842624) && prevB prev x && decide (n < 120) && fitC (some x) (n + 1) l) := by cases prev <;> rfl
theorem Kub : ∀ (l : List Smp) (c : Cst) (prev : Option Smp), c.n ≤ 120 → (∀ p, prev = some p → c.n ≠ 0 ∧ c.last = p) → (prev = none → c.n = 0) → (encE c l = 0 ↔ fitC prev c.n l = true)
 | [], c, prev, _, _, _ => by cases prev <;> simp [encE, fitC]
 | x :: l, c, prev, hn, h1, h2 => by
  have ih := fun h => Kub l (Kbg c x).2 (some x) h (fun p hp => by injection hp with hp; subst hp; exact ⟨by rw [(Kfq c x).1]; omega, (Kfq c x).2⟩) (fun h => by cases h)
  rw [(Kfq c x).1] at ih; rw [encE]
  by_cases h0 : stepE c x = 0
  ·rw [if_neg (by simp [h0])]; obtain ⟨a1, a2, a3, a4⟩ := Ksi h0; rw [ih (by omega)]
   have hp : prevB prev x = true := by
    cases prev with
    | none => rfl
    | some p => obtain ⟨q1, q2⟩ := h1 p rfl; subst q2; exact decide_eq_true (by omega)
   rw [Krc, hp, decide_eq_true a1, decide_eq_true a2, decide_eq_true (show c.n < 120 by omega)]; simp
  ·rw [if_pos h0]; constructor
   ·intro h; exact absurd h h0
   ·intro h; exfalso; apply h0; rw [Krc] at h; simp only [Bool.and_eq_true, decide_eq_true_eq] at h; obtain ⟨⟨⟨⟨a1, a2⟩, a3⟩, a4⟩, _⟩ := h; unfold stepE; rw [if_neg (by omega), if_neg, if_neg (by omega)]; rintro ⟨q1, q2⟩
    cases prev with
    | none => have := h2 rfl; omega
    | some p =>
     rw [(h1 p rfl).2] at q2; have a3' : p.t < x.t := of_decide_eq_true a3; omega
theorem Kke (l : List Smp) : encE cst0 l = 0 ↔ fitC none 0 l = true := Kub l cst0 none (by decide) (fun p h => by cases h) (fun _ => rfl)
def Kdb (l : List Smp) : List UInt8 × Nat := if encE cst0 l = 0 then (Kcd l, 0) else ([], encE cst0 l)
theorem Kiu (l : List Smp) (A : Option Addr) (n cap : Nat) (w : World) (hE : Elems w w.heap.size 2 Kbf A n l) (hn : n ≤ 140737488351232) (hv : ∀ x ∈ l, x.v < 2 ^ 64) (hT : DbTab w) :
  Calls Tryz.prog 117 #[.slice A n cap] w fun e w' => e = .returned (.tuple #[.string ⟨(Kdb l).1.toArray⟩, .int .i64 ((Kdb l).2 : Nat)]) ∧ Below w.heap.size w w' := by
 have hlen := hE.len; have HE := Jh hE; have HV := Jh hv; have hTB : DbAt w.heap.size w := ⟨hT, Kek (hT 0 (by decide))⟩; have HTB := Jh hTB; obtain ⟨E, hEE⟩ : ∃ E, encE cst0 l = E := ⟨_, rfl⟩; have HEE := Jh hEE; have HLEN := Jh hlen
 have h0 : ChAt w.heap.size w.heap.size cst0 [] (w.alloc (.cells #[.slice none 0 0, .int .i64 0, .int .i64 0, .int .i64 0, .int .u64 0, .int .i64 0, .int .i64 0, .int .i64 0, .bool false] 271)) :=
  ⟨Nat.le_refl _, .slice none 0 0, Blk.new _ _ _, World.ownsRow_nil _ _ _ _, by simp [Value.ownBlock]⟩
 have hb0 : Below w.heap.size w (w.alloc (.cells #[.slice none 0 0, .int .i64 0, .int .i64 0, .int .i64 0, .int .u64 0, .int .i64 0, .int .i64 0, .int .i64 0, .bool false] 271)) := (Below.refl _ _).alloc (Nat.le_refl _) _; clear hE hv hTB hT hEE hlen; go_enter Tryz.func117, Tryz.ntmps117
 go_upto_region 2 with fail
 obtain ⟨w1, hw1⟩ : ∃ w1, w.alloc (.cells #[.slice none 0 0, .int .i64 0, .int .i64 0, .int .i64 0, .int .u64 0, .int .i64 0, .int .i64 0, .int .i64 0, .bool false] 271) = w1 := ⟨_, rfl⟩; rw [hw1] at h0 hb0; rw [hw1]; obtain ⟨B, hB⟩ : ∃ B, w.heap.size = B := ⟨_, rfl⟩; rw [hB] at h0 hb0 HE HTB ⊢; have HB := Jh hB; have H1 := Jh h0; have HB1 := Jh hb0; clear hw1 h0 hb0 hB; go_wp2_with fail
 go_loopg [10] n (fun g s10 wr => ∃ i : Nat, i + g = n ∧ s10 = .int .i64 (i : Int) ∧ i ≤ 120 ∧ encE (stW cst0 (l.take i)) (l.drop i) = E ∧ (stW cst0 (l.take i)).Good ∧ (Kbl cst0 (l.take i)).length ≤ 150 * i ∧ ChAt B B (stW cst0 (l.take i)) (Kbl cst0 (l.take i)) wr ∧ Below B w wr)
 case atStart => exact ⟨0, by omega, rfl, by omega, HEE.out, Cst.good0, by simp [Kbl], H1.out, HB1.out⟩
 case round =>
  obtain ⟨i, hi, rfl, h120, he, hg, hsl, hch, hb⟩ := hrel; have HI := Jh hi; have HEI := Jh he; have HG := Jh hg; have HSL := Jh hsl; have HCH := Jh hch; have HBR := Jh hb; have hBr : B ≤ wr.heap.size := Nat.le_trans (by rw [HB.out]; exact Nat.le_refl _) hb.size; clear he hg hsl hch hb
  by_cases hin : i < n
  ·have hil : i < l.length := by have := HLEN.out; omega
   obtain ⟨bk, off, rfl, hbk, hcell⟩ := HE.out.2 (by omega); have m0 : wr.cell? ⟨bk, off + i * 2, none⟩ = some (.int .i64 l[i].t) := (HBR.out.cell (p := ⟨bk, off + i * 2, none⟩) hbk).trans (by simpa using hcell i l[i] (List.getElem?_eq_getElem hil) 0 _ rfl); have m1 : wr.cell? ⟨bk, off + i * 2 + 1, none⟩ = some (.int .u64 (l[i].v : Int)) := (HBR.out.cell (p := ⟨bk, off + i * 2 + 1, none⟩) hbk).trans (by simpa using hcell i l[i] (List.getElem?_eq_getElem hil) 1 _ rfl); have hvi := HV.out l[i] (List.getElem_mem hil); have hdr : l.drop i = l[i] :: l.drop (i + 1) := List.drop_eq_getElem_cons hil; have htk : l.take (i + 1) = l.take i ++ [l[i]] := List.take_succ_eq_append_getElem hil; obtain ⟨x, hx⟩ : ∃ x, l[i] = x := ⟨_, rfl⟩; rw [hx] at m0 m1 hvi hdr htk; have HDR := Jh hdr; have HTK := Jh htk
   have hnn : (stW cst0 (l.take i)).n = i := by
    rw [stW_n, List.length_take]; show 0 + _ = i
    omega
   obtain ⟨C, hC⟩ : ∃ C, stW cst0 (l.take i) = C := ⟨_, rfl⟩; obtain ⟨L, hL⟩ : ∃ L, Kbl cst0 (l.take i) = L := ⟨_, rfl⟩; rw [hC] at HEI HG HCH hnn; rw [hL] at HSL HCH; have HCC := Jh hC; have HLL := Jh hL; have HX := Jh hx; have el : decide ((i : Int) < (n : Int)) = true := by simp; omega
   have el2 : (i : Int) < (n : Int) := by omega
   clear hi hdr htk hC hL hx hcell; go_upto_region 5 with fail
   have ha : Below wr.heap.size wr (wr.alloc (.cells #[.int .i64 x.t, .int .u64 (x.v : Int)] 102)) := (Below.refl _ _).alloc (Nat.le_refl _) _; have hq : Blk (wr.alloc (.cells #[.int .i64 x.t, .int .u64 (x.v : Int)] 102)) wr.heap.size 102 #[.int .i64 x.t, .int .u64 (x.v : Int)] := Blk.new _ _ _; obtain ⟨w2, hw2⟩ : ∃ w2, wr.alloc (.cells #[.int .i64 x.t, .int .u64 (x.v : Int)] 102) = w2 := ⟨_, rfl⟩; obtain ⟨q, hqq⟩ : ∃ q, wr.heap.size = q := ⟨_, rfl⟩; rw [hw2] at ha hq; rw [hw2]; rw [hqq] at hq; rw [hqq]; have q0 : w2.cell? ⟨q, 0, none⟩ = _ := hq.cell 0; have q1 : w2.cell? ⟨q, 1, none⟩ = _ := hq.cell 1; have HCH2 := Jh (HCH.out.far ha); have HB2 := Jh (HBR.out.trans (ha.mono hBr)); have hB2 : B ≤ w2.heap.size := Nat.le_trans hBr ha.size; have HAP := Jh (Kum B B C L x w2 HCH2.out HG.out (by omega) hvi (by have := HSL.out; omega) hB2 (HTB.out.below HB2.out)); obtain ⟨se, hse⟩ : ∃ se, stepE C x = se := ⟨_, rfl⟩; rw [hse] at HAP; have HSE := Jh hse; have hei := HEI.out; rw [HDR.out, encE, hse] at hei; have hse92 : se ≤ 92 := by (rw [← hse]; unfold stepE; repeat' split); all_goals omega
   clear ha hq hw2 hqq hse; go_wp2_with fail
   refine HAP.out.mono ?_; rintro _ w3 ⟨rfl, h5, h6, _⟩; have H5 := Jh h5; have HB3 := Jh (HB2.out.trans h6); have hB3 : B ≤ w3.heap.size := Nat.le_trans hB2 h6.size; clear h5 h6 q0 q1
   by_cases hs0 : se = 0
   ·subst hs0; rw [if_neg (by simp)] at hei; have HEN := Jh hei; clear hei; have hok := Ksi HSE.out; go_wp2_with fail
    go_roundg (gk - 1)
    case measure => have := HI.out; omega
    case rel =>
     refine ⟨i + 1, by have := HI.out; omega, by go_num, by have := hok.2.2.2; omega, ?_, ?_, ?_, ?_, HB3.out⟩
     ·rw [HTK.out, Khw, HCC.out]; exact HEN.out
     ·rw [HTK.out, Khw, HCC.out]; exact Klo HG.out ⟨hok.1, hok.2.1, hvi⟩
     ·rw [HTK.out, Kgb, HCC.out, HLL.out, List.length_append]; have := Kxt C HG.out.ok x; have := HSL.out; omega
     ·rw [HTK.out, Khw, Kgb, HCC.out, HLL.out]; exact H5.out trivial
   ·rw [if_pos hs0] at hei; have e0 : ((se : Int) != 0) = true := by simp; omega
    have HEN := Jh hei; have HS0 := Jh hs0; clear hei; go_wp2_with fail
    go_ret2
    unfold Kdb; rw [if_neg (by rw [HEE.out, ← HEN.out]; exact HS0.out), HEE.out, ← HEN.out]; exact ⟨rfl, by rw [HB.out]; exact HB3.out⟩
  ·have el : decide ((i : Int) < (n : Int)) = false := by simp; omega
   have hi3 : i = n := by have := HI.out; omega
   subst hi3; have htk : l.take i = l := List.take_of_length_le (by have := HLEN.out; omega); have hdr : l.drop i = [] := List.drop_eq_nil_of_le (by have := HLEN.out; omega)
   have hE0 : E = 0 := by
    have := HEI.out; rw [hdr] at this; exact this.symm
   rw [htk] at HCH HSL HG
   have hnn : (stW cst0 l).n = i := by
    rw [stW_n, HLEN.out]; show 0 + _ = i
    omega
   have HBY := Jh (Kwg B B _ _ wr HCH.out (by omega) (by have := HSL.out; omega) hBr)
   have ho : Kdb l = (uintT i ++ packB (Kbl cst0 l), 0) := by
    unfold Kdb; rw [if_pos (by rw [HEE.out, hE0]), Kcd, HLEN.out]
   rw [hnn] at HBY; have HO := Jh ho; obtain ⟨S, hS⟩ : ∃ S : ByteArray, (⟨(uintT i ++ packB (Kbl cst0 l)).toArray⟩ : ByteArray) = S := ⟨_, rfl⟩; rw [hS] at HBY; have HS := Jh hS; clear hnn ho hS htk hdr hE0; go_wp2_with fail
   refine HBY.out.mono ?_; rintro _ w3 ⟨rfl, h6⟩; go_wp2_with fail
   go_ret2
   rw [HO.out, ← HS.out]; exact ⟨rfl, by rw [HB.out]; exact HBR.out.trans (h6.mono hBr)⟩
end
section
open Go.RowKit
attribute [local go_sem ↓] Go.wp_at_zero Go.wp_at_succ
attribute [local go_sem] Later.cell
def Kaq (c : Nat) : Ending := .panicked [{ v := .iface 29 (.int .i64 (c : Int)), recovered := false }]
theorem Kae {P : Program} {fn : Func} {R : Ending → World → Prop} {ch : List PanicEntry} {a : Act} {w : World} (hd : a.defers = []) (h : R (.panicked ch) w) : bodyPost P fn R (.panic ch) a w := ⟨hd, h⟩
theorem Kev (r : Value) (c : Nat) (w : World) :
  Calls Tryz.prog 230 #[r, .bool true, .int .i64 (c : Int)] w fun e w' => e = .returned (.tuple #[]) ∧ w = w' := by
 go_enter Tryz.func230, Tryz.ntmps230
 go_wp2
 go_end0
 exact ⟨rfl, rfl⟩
theorem Keh (r : Value) (c : Nat) (w : World) :
  Calls Tryz.prog 230 #[r, .bool false, .int .i64 (c : Int)] w fun e w' => e = Kaq c ∧ w = w' := by
 go_enter Tryz.func230, Tryz.ntmps230
 go_wp2
 exact Kae rfl ⟨rfl, rfl⟩
structure RdrAt (rd rb : Nat) (S : ByteArray) (i : Nat) (c : Cst) (w : World) : Prop where
 r : Blk w rd 290 (.pointer (some ⟨rb, 0, none⟩) :: .slice none 0 0 :: .int .i64 0 :: restC c).toArray
 b : Blk w rb 321 #[.string S, .int .i64 (i : Int)]
theorem RdrAt.ne {rd rb : Nat} {S : ByteArray} {i : Nat} {c : Cst} {w : World} (h : RdrAt rd rb S i c w) : rd ≠ rb := h.r.ne_ h.b (by decide)
theorem RdrAt.below {rd rb : Nat} {S : ByteArray} {i : Nat} {c : Cst} {w w' : World} (h : RdrAt rd rb S i c w) (hb : Below w.heap.size w w') : RdrAt rd rb S i c w' := ⟨h.r.below hb h.r.lt, h.b.below hb h.b.lt⟩
def RdO {α : Type} (rd rb : Nat) (S : ByteArray) (val : α → Value) (w : World) (r : Option (α × Cst × Nat)) (e : Ending) (w' : World) : Prop := match r with
 | some (x, c, j) => e = .returned (val x) ∧ RdrAt rd rb S j c w' ∧ j ≤ 8 * S.size ∧ Kept w.heap.size [rd, rb] w w'
 | none => (∃ f, f ≠ 0 ∧ e = Kaq f) ∧ Kept w.heap.size [rd, rb] w w'
def u64V (v : Nat) : Value := .int .u64 (v : Int)
def bitsR (S : List UInt8) (n : Nat) (c : Cst) (i : Nat) : Option (Nat × Cst × Nat) := match readN S i n with
 | none => none
 | some (v, j) => some (v, c, j)
theorem Kept.one {w w' : World} {a b : Nat} (h : Kept w.heap.size [b] w w') : Kept w.heap.size [a, b] w w' := h.mono (Nat.le_refl _) (fun k _ hk => by simp at hk ⊢; exact .inr hk)
theorem Qdt {S : ByteArray} {i n v j : Nat} (h : readN S.data.toList i n = some (v, j)) : j ≤ 8 * S.size ∧ j = i + n := by
 unfold readN at h
 split at h
 ·rename_i h1
  injection h with h; injection h with _ h; have : S.data.toList.length = S.size := rfl; omega
 ·cases h
theorem Kbs (rd rb i n : Nat) (S : ByteArray) (c : Cst) (w : World) (h : RdrAt rd rb S i c w) (hn : n ≤ 64) (hS : S.size ≤ 140737488351232) (hi : i ≤ 8 * S.size) :
  Calls Tryz.prog 228 #[.pointer (some ⟨rd, 0, none⟩), .int .i64 (n : Int)] w (RdO rd rb S u64V w (bitsR S.data.toList n c i)) := by
 have H := Lib.hid h; have c0 : w.cell? ⟨rd, 0, none⟩ = some (.pointer (some ⟨rb, 0, none⟩)) := h.r.cell 0; obtain ⟨r, hr⟩ : ∃ r, readN S.data.toList i n = r := ⟨_, rfl⟩; have HT := Lib.hid (Kyw rb i n S r hr w h.b hn hS hi); have HR := Lib.hid hr; clear h hr; go_enter Tryz.func228, Tryz.ntmps228
 go_wp2_with fail
 refine HT.out.mono ?_; intro e w2 ho
 cases r with
 | none =>
  obtain ⟨rfl, hb⟩ := ho; go_wp2_with fail
  refine (Keh _ 20 w2).mono ?_; rintro _ _ ⟨rfl, rfl⟩; unfold Kaq; go_wp2_with fail
  refine Kae rfl ?_; unfold bitsR; rw [HR.out]; exact ⟨⟨20, by decide, rfl⟩, Kept.of_below hb⟩
 | some vj =>
  obtain ⟨v, j⟩ := vj; obtain ⟨rfl, hb, hk⟩ := ho; have HB := Lib.hid hb; have HK := Lib.hid hk; clear hb hk; go_wp2_with fail
  refine (Kev _ 20 w2).mono ?_; rintro _ _ ⟨rfl, rfl⟩; go_wp2_with fail
  go_ret
  unfold bitsR; rw [HR.out]; exact ⟨rfl, ⟨H.out.r.kept HK.out H.out.r.lt (by simpa using H.out.ne), HB.out⟩, (Qdt HR.out).1, HK.out.one⟩
end
end Go.Proofs.YtdoiekknhnbepaaGreatDoor
