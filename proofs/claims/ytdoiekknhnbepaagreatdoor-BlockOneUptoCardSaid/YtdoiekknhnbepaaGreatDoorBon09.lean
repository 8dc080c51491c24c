/- Merged (what the claim wants of): ChkRdD, ChkRdE, RowTwo, BlkFitB, BlkFitC, ChunkIter, BlkPartsW. -/
import Derived.Test.YtdoiekknhnbepaaGreatDoorBon08
import Derived.Test.YtdoiekknhnbepaaGreatDoorBon01
import Derived.Maps.AppendAt
import Derived.Deep.Onto
import Derived.Test.YtdoiekknhnbepaaGreatDoorBon07
import Derived.Test.YtdoiekknhnbepaaGreatDoorBon04
import Derived.Test.YtdoiekknhnbepaaGreatDoorBon03
import Derived.RangeFuncLeaves
import Derived.RangeFuncBox
import Derived.Shelf.Abstract
import Derived.WalkKit
import Derived.OwnWalkIn
import Derived.TacticsInMore
import Derived.LoopNIn
import Derived.LoopIn
import Derived.RegionIn
import Derived.BigRegionIn
import Derived.Shelf.RegionOpen
import Derived.Test.YtdoiekknhnbepaaGreatDoorBon05
import Derived.RangeFuncCalls
import Derived.RangeFuncBound
import Derived.RangeFuncNested
set_option linter.unusedVariables false
set_option linter.unusedSimpArgs false
set_option maxRecDepth 100000
set_option maxHeartbeats 8000000
namespace Go.Proofs.YtdoiekknhnbepaaGreatDoor
section
open Go.RowKit
open Lib renaming hid → Jh
open List renaming setIfInBounds_toArray → Ja, set_cons_zero → Jb, set_cons_succ → Jc
attribute [local go_sem ↓] Go.wp_at_zero Go.wp_at_succ
attribute [local go_sem] Later.cell
def smpV (s : Smp) : Value := .agg #[.int .i64 s.t, .int .u64 (s.v : Int)]
theorem Kwq (z : Int) : IntKind.i64.wrap z = wrap64 z := by rw [IntKind.wrap_i64]; unfold wrap64; omega
theorem Qic (v : Nat) (hv : v < 2 ^ 64) : wrap64 (v : Int) = signW 64 v := by
 unfold wrap64 signW; simp
 split <;> omega
structure SmpAt (q : Nat) (x : Smp) (w : World) : Prop where
 r : ∃ cs, Blk w q 102 cs ∧ cs.size = 2
 x : Blk w (q + 1) 102 #[.int .i64 x.t, .int .u64 (x.v : Int)]
theorem SmpAt.keep {q rd rb : Nat} {x : Smp} {w w' : World} (h : SmpAt q x w) (hk : Kept w.heap.size [rd, rb] w w') (h1 : rd < q) (h2 : rb < q) : SmpAt q x w' := by
 obtain ⟨⟨cs, h3, h4⟩, h5⟩ := h; exact ⟨⟨cs, h3.kept hk h3.lt (by simp; omega), h4⟩, h5.kept hk h5.lt (by simp; omega)⟩
theorem SmpAt.setT {q : Nat} {x : Smp} {w : World} (h : SmpAt q x w) (t : Int) : SmpAt q ⟨t, x.v⟩ (w.setCell ⟨q + 1, 0, none⟩ (.int .i64 t)) := by
 obtain ⟨⟨cs, h3, h4⟩, h5⟩ := h; exact ⟨⟨cs, h3.far (p := ⟨q + 1, 0, none⟩) (by simp) _, h4⟩, h5.set_ 0 _⟩
theorem SmpAt.setV {q : Nat} {x : Smp} {w : World} (h : SmpAt q x w) (v : Nat) : SmpAt q ⟨x.t, v⟩ (w.setCell ⟨q + 1, 1, none⟩ (.int .u64 (v : Int))) := by
 obtain ⟨⟨cs, h3, h4⟩, h5⟩ := h; exact ⟨⟨cs, h3.far (p := ⟨q + 1, 1, none⟩) (by simp) _, h4⟩, h5.set_ 1 _⟩
theorem SmpAt.below {q : Nat} {x : Smp} {w w' : World} (h : SmpAt q x w) (hb : Below w.heap.size w w') : SmpAt q x w' := by
 obtain ⟨⟨cs, h3, h4⟩, h5⟩ := h; exact ⟨⟨cs, h3.below hb h3.lt, h4⟩, h5.below hb h5.lt⟩
theorem SmpAt.farR {q : Nat} {x : Smp} {w : World} (h : SmpAt q x w) {p : Addr} (hp : p.block < q) (u : Value) : SmpAt q x (w.setCell p u) := by
 obtain ⟨⟨cs, h3, h4⟩, h5⟩ := h; exact ⟨⟨cs, h3.far (by omega) u, h4⟩, h5.far (by omega) u⟩
theorem Qbt {c : Cst} {s : List UInt8} {i x : Nat} {d : Cst} {j : Nat} (h : Kbd c s i = some (x, d, j)) : d.n = c.n := by
 unfold Kbd at h
 repeat' split at h
 all_goals first | (cases h; done) | (injection h with h; injection h with _ h; injection h with h _; subst h; rfl)
theorem Kxv {cs : Array Value} {a b : Value} (h : cs.size = 2) : (cs.setIfInBounds 0 a).setIfInBounds 1 b = #[a, b] := by
 match cs, h with
 | ⟨[x, y]⟩, _ => rfl
theorem RdrAt.far {rd rb : Nat} {S : ByteArray} {i : Nat} {c : Cst} {w : World} (h : RdrAt rd rb S i c w) {p : Addr} (h1 : rd ≠ p.block) (h2 : rb ≠ p.block) (u : Value) : RdrAt rd rb S i c (w.setCell p u) := ⟨h.r.far h1 u, h.b.far h2 u⟩
theorem Kuo (rd rb i : Nat) (S : ByteArray) (c : Cst) (w : World) (h : RdrAt rd rb S i c w) (hc : c.Ok) (hn : c.n ≤ 120) (hv : c.last.v < 2 ^ 64) (hS_ : S.size ≤ 140737488351232) (hi : i ≤ 8 * S.size) :
  Calls Tryz.prog 189 #[.pointer (some ⟨rd, 0, none⟩)] w (RdO rd rb S smpV w (Kbe c S.data.toList i)) := by
 have hcc := h.cells; have c3 := hcc.1; have c4 := hcc.2.1; have c5 := hcc.2.2.1; have H := Jh h; obtain ⟨w1, hw1⟩ : ∃ w1, (w.alloc (.cells #[.int .i64 0, .int .u64 0] 102)).alloc (.cells #[.int .i64 c.last.t, .int .u64 (c.last.v : Int)] 102) = w1 := ⟨_, rfl⟩; have hb1 : Below w.heap.size w w1 := by rw [← hw1]; exact ((Below.refl _ _).alloc (Nat.le_refl _) _).alloc (by simp) _
 have hs1 : SmpAt w.heap.size c.last w1 := by
  rw [← hw1]; exact ⟨⟨_, (Blk.new _ _ _).alloc _, rfl⟩, Blk.newAt (by simp)⟩
 have HR1 := Jh (h.below hb1); have HB1 := Jh hb1; have HS1 := Jh hs1; have hrl := h.r.lt; have hrne : rd ≠ w.heap.size := by omega
 clear h hcc; go_enter Tryz.func189, Tryz.ntmps189
 go_upto_region 3 with fail
 clear hw1 c3 c4 c5; have HRL := Jh hrl; have HRL2 := Jh H.out.b.lt; obtain ⟨q, hq⟩ : ∃ q, w.heap.size = q := ⟨_, rfl⟩; have HQ := Jh hq; have HK1 := Jh (Kept.of_below (ex := [rd, rb]) HB1.out); rw [hq] at HS1 hrne; rw [hq]; have c3 := HR1.out.cells.1; clear hrl hq
 cases hn0 : c.n with
 | zero =>
  rw [hn0] at c3; obtain ⟨r1, hr1⟩ : ∃ r1, readN S.data.toList i 64 = r1 := ⟨_, rfl⟩; have HB2 := Jh (Kbt rd rb i 64 S c w1 HR1.out (by decide) hS_ hi); unfold bitsR at HB2; rw [hr1] at HB2; have HRA := Jh hr1; clear hr1
  cases r1 with
  | none =>
   go_wp2_with fail
   refine HB2.out.mono ?_; rintro _ w2 ⟨⟨f, hf, rfl⟩, hk2⟩; unfold Kaq; go_wp2_with fail
   refine Kag rfl ?_
   have hd : Kbe c S.data.toList i = none := by
    unfold Kbe; rw [if_pos hn0, HRA.out]
   rw [hd]; exact ⟨⟨f, hf, rfl⟩, HK1.out.two hk2⟩
  | some vj =>
   obtain ⟨tv, i1⟩ := vj; dsimp only at HB2; have htv : tv < 2 ^ 64 := Kcy HRA.out; go_wp2_with fail
   refine HB2.out.mono ?_; rintro _ w2 ⟨rfl, hq2, hi1, hk2⟩; have hs2 := HS1.out.keep hk2 (by have := HRL.out; have := HQ.out; omega) (by have := HRL2.out; have := HQ.out; omega); have HR2 := Jh hq2; have HS2 := Jh hs2; have HK2 := Jh (HK1.out.two hk2); obtain ⟨T, hT⟩ : ∃ T, signW 64 tv = T := ⟨_, rfl⟩; have hTw : wrap64 (tv : Int) = T := by rw [Qic tv htv, hT]
   have HT := Jh hT; have x0 : w2.cell? ⟨q + 1, 0, none⟩ = _ := hs2.x.cell 0; have y0 := hs2.x.frozen 0; have hrd : rd < q := by have := HRL.out; have := HQ.out; omega
   have hrb : rb < q := by have := HRL2.out; have := HQ.out; omega
   have HS3 := Jh (hs2.setT T); have HR3 := Jh (hq2.far (p := ⟨q + 1, 0, none⟩) (by simp; omega) (by simp; omega) (.int .i64 T)); have HK3 := Jh (HK2.out.setCell (p := ⟨q + 1, 0, none⟩) (.inr (by have := HQ.out; simp; omega)) (.int .i64 T)); clear hs2 hq2 hk2 hT; unfold u64V; go_upto_region 7 with fail
   obtain ⟨w3, hw3⟩ : ∃ w3, w2.setCell ⟨q + 1, 0, none⟩ (.int .i64 T) = w3 := ⟨_, rfl⟩; rw [hw3] at HS3 HR3 HK3; rw [hw3]; clear hw3 x0 y0 c3 hrne hTw; have x0 : w3.cell? ⟨q + 1, 0, none⟩ = _ := HS3.out.x.cell 0
   by_cases ht : 0 ≤ T ∧ T ≤ 1125899906842624
   ·have t1 : decide (0 ≤ T) = true := decide_eq_true ht.1; have t2 : decide (T ≤ 1125899906842624) = true := decide_eq_true ht.2; go_wp2_with fail
    refine (Kfb _ 91 w3).mono ?_; rintro _ _ ⟨rfl, rfl⟩; go_upto_region 8 with fail
    have c3 : w3.cell? ⟨rd, 3, none⟩ = some (.int .i64 0) := by
     have := HR3.out.cells.1; rw [hn0] at this; exact this
    have sl := HR3.out.r.lt; refine Kah 16 (by kernel_rfl) (by kernel_rfl) ?_; simp only [List.take_succ_cons, List.take_zero, List.drop_succ_cons, List.drop_zero]
    repeat (go_big_quiet_step (fail))
    refine wpQuiet_nil ?_; rintro w4 ⟨⟨_, hb4⟩, rfl⟩; have HS4 := Jh (SmpAt.below HS3.out hb4); have HR4 := Jh (HR3.out.below hb4); have HK4 := Jh (HK3.out.then_' hb4); clear x0 c3 sl hb4
    have c3 : w4.cell? ⟨rd, 3, none⟩ = some (.int .i64 0) := by
     have := HR4.out.cells.1; rw [hn0] at this; exact this
    obtain ⟨r2, hr2⟩ : ∃ r2, readN S.data.toList i1 64 = r2 := ⟨_, rfl⟩; have HB5 := Jh (Kbt rd rb i1 64 S c w4 HR4.out (by decide) hS_ hi1); unfold bitsR at HB5; rw [hr2] at HB5; have HRC := Jh hr2; clear hr2; go_wp2_with fail
    refine (Kfb _ 90 w4).mono ?_; rintro _ _ ⟨rfl, rfl⟩
    cases r2 with
    | none =>
     go_wp2_with fail
     refine HB5.out.mono ?_; rintro _ w5 ⟨⟨f, hf, rfl⟩, hk5⟩; unfold Kaq; go_wp2_with fail
     refine Kag rfl ?_
     have hd : Kbe c S.data.toList i = none := by
      unfold Kbe; rw [if_pos hn0, HRA.out]; dsimp only; rw [HT.out, if_pos ht, HRC.out]
     rw [hd]; exact ⟨⟨f, hf, rfl⟩, HK4.out.two hk5⟩
    | some vj =>
     obtain ⟨V, J⟩ := vj; dsimp only at HB5; have hVl : V < 2 ^ 64 := Kcy HRC.out; go_wp2_with fail
     refine HB5.out.mono ?_; rintro _ w5 ⟨rfl, hq5, hi5, hk5⟩; have hs5 := HS4.out.keep hk5 hrd hrb; have HS9 := Jh (hs5.setV V); have HR9 := Jh (hq5.far (p := ⟨q + 1, 1, none⟩) (by simp; omega) (by simp; omega) (.int .u64 (V : Int))); have HK9 := Jh ((HK4.out.two hk5).setCell (p := ⟨q + 1, 1, none⟩) (.inr (by have := HQ.out; simp; omega)) (.int .u64 (V : Int))); have x1 : w5.cell? ⟨q + 1, 1, none⟩ = _ := hs5.x.cell 1; have z1 := hs5.x.frozen 1; clear hs5 hq5 hk5; unfold u64V; go_upto_region 12 with fail
     obtain ⟨w6, hw6⟩ : ∃ w6, w5.setCell ⟨q + 1, 1, none⟩ (.int .u64 (V : Int)) = w6 := ⟨_, rfl⟩; rw [hw6] at HS9 HR9 HK9; rw [hw6]; clear hw6 x1 z1 c3; have HN9 := Jh hn0; have hcc := HR9.out.cells; have c3 := hcc.1; have c4 := hcc.2.1; have c5 := hcc.2.2.1; have z3 := hcc.2.2.2.2.2.2.2 3; have z4 := hcc.2.2.2.2.2.2.2 4; have z5 := hcc.2.2.2.2.2.2.2 5; clear hcc; rw [HN9.out] at c3; have x0 : w6.cell? ⟨q + 1, 0, none⟩ = some (.int .i64 T) := HS9.out.x.cell 0; have x1 : w6.cell? ⟨q + 1, 1, none⟩ = some (.int .u64 (V : Int)) := HS9.out.x.cell 1; obtain ⟨cs, hrb9, hcs⟩ := HS9.out.r; have r0 : w6.cell? ⟨q, 0, none⟩ = some cs[0] := (hrb9.cell 0).trans (Array.getElem?_eq_getElem (by omega)); have r1 : w6.cell? ⟨q, 1, none⟩ = some cs[1] := (hrb9.cell 1).trans (Array.getElem?_eq_getElem (by omega)); have y0 := hrb9.frozen 0; have y1 := hrb9.frozen 1; obtain ⟨u0, hu0⟩ : ∃ u, cs[0] = u := ⟨_, rfl⟩; obtain ⟨u1, hu1⟩ : ∃ u, cs[1] = u := ⟨_, rfl⟩; rw [hu0] at r0; rw [hu1] at r1; have HRB := Jh hrb9; have HCS := Jh hcs; have qr : rd ≠ q := by omega
     have qr2 : rd ≠ q + 1 := by omega
     have qr3 : q ≠ rd := by omega
     have qr4 : q + 1 ≠ rd := by omega
     have qb : rb ≠ q := by omega
     clear hrb9 hcs hu0 hu1; go_wp2_with fail
     have hR9 : RdrAt rd rb S J { c with n := 1, last := ⟨T, V⟩ } ((((w6.setCell ⟨rd, 4, none⟩ (.int .i64 T)).setCell ⟨rd, 5, none⟩ (.int .u64 (V : Int))).setCell ⟨rd, 3, none⟩ (.int .i64 1)).setCell ⟨q, 0, none⟩ (.int .i64 T) |>.setCell ⟨q, 1, none⟩ (.int .u64 (V : Int))) :=
      ((((HR9.out.put 1 (.int .i64 T) { c with last := ⟨T, c.last.v⟩ } rfl).put 2 (.int .u64 (V : Int)) { c with last := ⟨T, V⟩ } rfl).put 0 (.int .i64 1) { c with n := 1, last := ⟨T, V⟩ } rfl).far (p := ⟨q, 0, none⟩) qr qb _).far (p := ⟨q, 1, none⟩) qr qb _
     have hK9 : Kept w.heap.size [rd, rb] w ((((w6.setCell ⟨rd, 4, none⟩ (.int .i64 T)).setCell ⟨rd, 5, none⟩ (.int .u64 (V : Int))).setCell ⟨rd, 3, none⟩ (.int .i64 1)).setCell ⟨q, 0, none⟩ (.int .i64 T) |>.setCell ⟨q, 1, none⟩ (.int .u64 (V : Int))) :=
      ((((HK9.out.setCell (p := ⟨rd, 4, none⟩) (.inl (by simp)) _).setCell (p := ⟨rd, 5, none⟩) (.inl (by simp)) _).setCell (p := ⟨rd, 3, none⟩) (.inl (by simp)) _).setCell (p := ⟨q, 0, none⟩) (.inr (by rw [HQ.out]; exact Nat.le_refl _)) _).setCell (p := ⟨q, 1, none⟩) (.inr (by rw [HQ.out]; exact Nat.le_refl _)) _
     have hb9 : Blk ((((w6.setCell ⟨rd, 4, none⟩ (.int .i64 T)).setCell ⟨rd, 5, none⟩ (.int .u64 (V : Int))).setCell ⟨rd, 3, none⟩ (.int .i64 1)).setCell ⟨q, 0, none⟩ (.int .i64 T) |>.setCell ⟨q, 1, none⟩ (.int .u64 (V : Int))) q 102 #[.int .i64 T, .int .u64 (V : Int)] := by
      have := ((((HRB.out.far (p := ⟨rd, 4, none⟩) qr3 (.int .i64 T)).far (p := ⟨rd, 5, none⟩) qr3 (.int .u64 (V : Int))).far (p := ⟨rd, 3, none⟩) qr3 (.int .i64 1)).set_ 0 (.int .i64 T)).set_ 1 (.int .u64 (V : Int)); rwa [Kxv HCS.out] at this
     refine bodyPost_ret (Kdg rfl _ _ ⟨q, 0, none⟩ _ rfl (run_loadVar_row _ q 102 102 _ (0, 0) _ hb9 Tryz.underlying102 rfl (by kernel_rfl))) rfl ?_
     have hd : Kbe c S.data.toList i = some (⟨T, V⟩, { c with n := 1, last := ⟨T, V⟩ }, J) := by
      unfold Kbe; rw [if_pos hn0, HRA.out]; dsimp only; rw [HT.out, if_pos ht, HRC.out]
     rw [hd]; exact ⟨rfl, hR9, hi5, hK9⟩
   ·have HTN : Hid (¬ (0 ≤ T ∧ T ≤ 1125899906842624)) := Jh ht
    have hd : Kbe c S.data.toList i = none := by
     unfold Kbe; rw [if_pos hn0, HRA.out]; dsimp only; rw [HT.out, if_neg ht]
    have HD := Jh hd; clear hd
    by_cases t1 : 0 ≤ T
    ·have t1' : decide (0 ≤ T) = true := decide_eq_true t1; have t2' : decide (T ≤ 1125899906842624) = false := by rw [decide_eq_false_iff_not]; omega
     go_wp2_with fail
     refine (Keg _ 91 w3).mono ?_; rintro _ _ ⟨rfl, rfl⟩; unfold Kaq; go_wp2_with fail
     refine Kag rfl ?_; rw [HD.out]; exact ⟨⟨91, by decide, rfl⟩, HK3.out⟩
    ·have t1' : decide (0 ≤ T) = false := decide_eq_false t1; go_wp2_with fail
     refine (Keg _ 91 w3).mono ?_; rintro _ _ ⟨rfl, rfl⟩; unfold Kaq; go_wp2_with fail
     refine Kag rfl ?_; rw [HD.out]; exact ⟨⟨91, by decide, rfl⟩, HK3.out⟩
 | succ n =>
  rw [hn0] at c3 hn; have c6 : w1.cell? ⟨rd, 6, none⟩ = some (.int .i64 c.step) := HR1.out.cells.2.2.2.1; have e3 : (((n : Int) + 1) == 0) = false := by simp; omega
  have hrd : rd < q := by have := HRL.out; have := HQ.out; omega
  have hrb : rb < q := by have := HRL2.out; have := HQ.out; omega
  obtain ⟨r1, hr1⟩ : ∃ r1, Kbr S.data.toList i = r1 := ⟨_, rfl⟩; have HB2 := Jh (Kte rd rb i S c w1.drew ⟨HR1.out.r, HR1.out.b⟩ hS_ hi); unfold Kdf at HB2; rw [hr1] at HB2; have HRA := Jh hr1; clear hr1; go_upto_region 5 with fail
  have hS : w1.drew.cell? ⟨rd, 6, none⟩ = some (.int .i64 c.step) ∧ True := ⟨c6, trivial⟩; refine Kat (fun w' => w'.cell? ⟨rd, 6, none⟩ = some (.int .i64 c.step) ∧ True) 7 10 (by kernel_rfl) rfl ?_; rw [show Array.replicate 10 false = #[false, false, false, false, false, false, false, false, false, false] from rfl]; refine Kaa (i := 0) (d := some 21) rfl rfl (by kernel_rfl) (by kernel_rfl) (by kernel_rfl) rfl (fun _ _ _ h => h) (by rfl) (fun w => by go_simp; try rfl) (fun _ => hS) ?_; simp only [Act.put, Ja, Jb, Jc]; refine Kaa (i := 1) (d := some 22) rfl rfl (by kernel_rfl) (by kernel_rfl) (by kernel_rfl) rfl (fun _ _ _ h => h) (by rfl) (fun w => by go_simp; try rfl) (fun _ => hS) ?_; simp only [Act.put, Ja, Jb, Jc]; refine Kaa (i := 2) (d := some 23) rfl rfl (by kernel_rfl) (by kernel_rfl) (by kernel_rfl) rfl (fun _ _ _ h => h) (by rfl) (fun w => by go_simp; try rfl) (fun _ => hS) ?_; simp only [Act.put, Ja, Jb, Jc]; refine Kai (i := 3) (d := some 24) rfl rfl (by kernel_rfl) (by kernel_rfl) (by kernel_rfl) (by kernel_rfl) rfl (fun _ _ _ h => h) (.inl ⟨by rfl, fun w hw => by (obtain ⟨ha, hb⟩ := hw; go_simp; try rfl)⟩) hS ?_; simp only [Act.put, Ja, Jb, Jc]; refine Kaa (i := 4) (d := some 25) rfl rfl (by kernel_rfl) (by kernel_rfl) (by kernel_rfl) rfl (fun _ _ _ h => h) (by rfl) (fun w => by go_simp; try rfl) (fun _ => hS) ?_; simp only [Act.put, Ja, Jb, Jc]; refine Kac (i := 5) (by kernel_rfl) rfl rfl ?_
  cases r1 with
  | none =>
   refine Oper.wp_faults (w1 := w1.drew) (g := 229) (args := #[.pointer (some ⟨rd, 0, none⟩)]) (by go_simp; try rfl) (N := fun u w' => (∃ f, f ≠ 0 ∧ Ending.panicked u = Kaq f) ∧ Kept w1.heap.size [rd, rb] w1 w') (HB2.out.mono ?_) ?_
   ·rintro _ w6 ⟨⟨f, hf, rfl⟩, hk6⟩; exact ⟨_, rfl, ⟨f, hf, rfl⟩, hk6.of_drew⟩
   ·rintro u w6 ⟨hfu, hk6⟩; simp only [Exit.then]; refine Kag rfl ?_
    have hd : Kbe c S.data.toList i = none := by
     unfold Kbe; rw [if_neg (by omega), HRA.out]
    rw [hd]; exact ⟨hfu, HK1.out.two hk6⟩
  | some vj =>
   obtain ⟨ch, i1⟩ := vj; refine Oper.wp_called (d := some 26) (w1 := w1.drew) (g := 229) (args := #[.pointer (some ⟨rd, 0, none⟩)]) rfl (by go_simp; try rfl) (N := fun u w' => u = .int .i64 ch ∧ RdrAt rd rb S i1 c w' ∧ i1 ≤ 8 * S.size ∧ Kept w1.heap.size [rd, rb] w1 w') (HB2.out.mono ?_) ?_
   ·rintro _ w6 ⟨rfl, hq6, hi6, hk6⟩; exact ⟨_, rfl, rfl, hq6, hi6, hk6.of_drew⟩
   ·rintro _ w2 ⟨rfl, hq2, hi1, hk2⟩; have hs2 := HS1.out.keep hk2 hrd hrb; have d6 : w2.cell? ⟨rd, 6, none⟩ = some (.int .i64 c.step) := hq2.cells.2.2.2.1; have z6 := hq2.cells.2.2.2.2.2.2.2 6; obtain ⟨ns, hns⟩ : ∃ ns, wrap64 (c.step + ch) = ns := ⟨_, rfl⟩; have hnw : IntKind.i64.wrap (c.step + ch) = ns := by rw [Kwq, hns]
    have HNS := Jh hns; have HS3 := Jh hs2; have HR3 : Hid (RdrAt rd rb S i1 { c with step := ns } (w2.setCell ⟨rd, 6, none⟩ (.int .i64 ns))) := Jh (hq2.put 3 (.int .i64 ns) { c with step := ns } rfl); have HK3 := Jh ((HK1.out.two hk2).setCell (p := ⟨rd, 6, none⟩) (.inl (by simp)) (.int .i64 ns)); have HS4 : Hid (SmpAt q c.last (w2.setCell ⟨rd, 6, none⟩ (.int .i64 ns))) := Jh (hs2.farR (p := ⟨rd, 6, none⟩) hrd _); clear hs2 hq2 hk2 hns; refine ⟨fun _ => ⟨d6, trivial⟩, ?_⟩; simp only [Act.put, Ja, Jb, Jc]; refine Kac (i := 6) (by kernel_rfl) rfl rfl ?_; refine Oper.wp_ran (d := some 27) (w' := w2) (v := .int .i64 ns) rfl (by go_simp; try rfl) ⟨fun _ => ⟨d6, trivial⟩, ?_⟩; simp only [Act.put, Ja, Jb, Jc]; refine Kay (i := 7) (by kernel_rfl) rfl rfl (by kernel_rfl) ?_; refine Oper.wp_ran (d := some 28) (w' := w2) (v := .pointer (some ⟨rd, 1, none⟩)) rfl (by go_simp; try rfl) ?_; simp only [Act.put, Ja, Jb, Jc]; refine Kay (i := 8) (by kernel_rfl) rfl rfl (by kernel_rfl) ?_; refine Oper.wp_ran (d := some 29) (w' := w2) (v := .pointer (some ⟨rd, 6, none⟩)) rfl (by go_simp; try rfl) ?_; simp only [Act.put, Ja, Jb, Jc]; refine Kay (i := 9) (by kernel_rfl) rfl rfl (by kernel_rfl) ?_; refine Oper.wp_skipped (w' := w2.setCell ⟨rd, 6, none⟩ (.int .i64 ns)) rfl (by go_simp; try rfl) ?_; simp only [Act.put, Ja, Jb, Jc]; refine Kao (by kernel_rfl) ?_ _; clear d6 z6 hnw c6 c3 hS; obtain ⟨w3, hw3⟩ : ∃ w3, w2.setCell ⟨rd, 6, none⟩ (.int .i64 ns) = w3 := ⟨_, rfl⟩; rw [hw3] at HS4 HR3 HK3; rw [hw3]; clear hw3; have x0 : w3.cell? ⟨q + 1, 0, none⟩ = some (.int .i64 c.last.t) := HS4.out.x.cell 0; have y0 := HS4.out.x.frozen 0; have c6 : w3.cell? ⟨rd, 6, none⟩ = some (.int .i64 ns) := HR3.out.cells.2.2.2.1; have sl := HR3.out.r.lt; have sx := HS4.out.x.lt; obtain ⟨T, hT⟩ : ∃ T, wrap64 (c.last.t + ns) = T := ⟨_, rfl⟩; have HT := Jh hT; go_upto_region 6 with fail
    refine Kah 7 (by kernel_rfl) (by kernel_rfl) ?_; simp only [List.take_succ_cons, List.take_zero, List.drop_succ_cons, List.drop_zero]
    repeat (go_big_quiet_step (fail))
    refine wpQuiet_nil ?_; rintro w4 ⟨⟨_, hb4⟩, rfl⟩; have HS4b := Jh (HS4.out.below hb4); have HR4 := Jh (HR3.out.below hb4); have HK4 := Jh (HK3.out.then_' hb4); clear x0 y0 c6 sl sx hb4; have x0 : w4.cell? ⟨q + 1, 0, none⟩ = some (.int .i64 c.last.t) := HS4b.out.x.cell 0; have y0 := HS4b.out.x.frozen 0; have HS5 := Jh (HS4b.out.setT T); have HR5 := Jh (HR4.out.far (p := ⟨q + 1, 0, none⟩) (by simp; omega) (by simp; omega) (.int .i64 T)); have HK5 := Jh (HK4.out.setCell (p := ⟨q + 1, 0, none⟩) (.inr (by have := HQ.out; simp; omega)) (.int .i64 T)); go_upto_region 7 with fail
    obtain ⟨w5, hw5⟩ : ∃ w5, w4.setCell ⟨q + 1, 0, none⟩ (.int .i64 T) = w5 := ⟨_, rfl⟩; rw [hw5] at HS5 HR5 HK5; rw [hw5]; clear hw5 x0 y0 hrne hT; have x0 : w5.cell? ⟨q + 1, 0, none⟩ = some (.int .i64 T) := HS5.out.x.cell 0
    by_cases t1 : 0 ≤ T
    rotate_left
    ·have t1' : decide (0 ≤ T) = false := decide_eq_false t1
     have hd : Kbe c S.data.toList i = none := by
      unfold Kbe; rw [if_neg (by omega), HRA.out]; dsimp only; rw [HNS.out, HT.out, if_neg (by omega)]
     have HD := Jh hd; clear hd; go_wp2_with fail
     refine (Keg _ 91 w5).mono ?_; rintro _ _ ⟨rfl, rfl⟩; unfold Kaq; go_wp2_with fail
     refine Kag rfl ?_; rw [HD.out]; exact ⟨⟨91, by decide, rfl⟩, HK5.out⟩
    have t1' : decide (0 ≤ T) = true := decide_eq_true t1
    by_cases t2 : T ≤ 1125899906842624
    rotate_left
    ·have t2' : decide (T ≤ 1125899906842624) = false := decide_eq_false t2
     have hd : Kbe c S.data.toList i = none := by
      unfold Kbe; rw [if_neg (by omega), HRA.out]; dsimp only; rw [HNS.out, HT.out, if_neg (by omega)]
     have HD := Jh hd; clear hd; go_wp2_with fail
     refine (Keg _ 91 w5).mono ?_; rintro _ _ ⟨rfl, rfl⟩; unfold Kaq; go_wp2_with fail
     refine Kag rfl ?_; rw [HD.out]; exact ⟨⟨91, by decide, rfl⟩, HK5.out⟩
    have t2' : decide (T ≤ 1125899906842624) = true := decide_eq_true t2; go_wp2_with fail
    refine (Kfb _ 91 w5).mono ?_; rintro _ _ ⟨rfl, rfl⟩; go_upto_region 8 with fail
    have c3 : w5.cell? ⟨rd, 3, none⟩ = some (.int .i64 ((n : Int) + 1)) := by
     have := HR5.out.cells.1; rw [hn0] at this; exact this
    have c4 : w5.cell? ⟨rd, 4, none⟩ = some (.int .i64 c.last.t) := HR5.out.cells.2.1; have sl := HR5.out.r.lt; have sx := HS5.out.x.lt; obtain ⟨g, hg⟩ : ∃ g, decide (c.last.t < T) = g := ⟨_, rfl⟩; refine Kah 16 (by kernel_rfl) (by kernel_rfl) ?_; simp only [List.take_succ_cons, List.take_zero, List.drop_succ_cons, List.drop_zero]
    repeat (go_big_quiet_step (fail))
    refine wpQuiet_nil ?_; rintro w6 ⟨⟨_, hb6⟩, rfl⟩; have HS6 := Jh (HS5.out.below hb6); have HR6 := Jh (HR5.out.below hb6); have HK6 := Jh (HK5.out.then_' hb6); clear x0 c3 c4 sl sx hb6
    by_cases t3 : c.last.t < T
    rotate_left
    ·have hgf : g = false := by rw [← hg]; exact decide_eq_false t3
     subst hgf
     have hd : Kbe c S.data.toList i = none := by
      unfold Kbe; rw [if_neg (by omega), HRA.out]; dsimp only; rw [HNS.out, HT.out, if_neg (by omega)]
     have HD := Jh hd; clear hd; go_wp2_with fail
     refine (Keg _ 90 w6).mono ?_; rintro _ _ ⟨rfl, rfl⟩; unfold Kaq; go_wp2_with fail
     refine Kag rfl ?_; rw [HD.out]; exact ⟨⟨90, by decide, rfl⟩, HK6.out⟩
    have hgt : g = true := by rw [← hg]; exact decide_eq_true t3
    subst hgt; have hall : 0 ≤ T ∧ T ≤ 1125899906842624 ∧ c.last.t < T := ⟨t1, t2, t3⟩; have HALL := Jh hall; clear hall hg; go_wp2_with fail
    refine (Kfb _ 90 w6).mono ?_; rintro _ _ ⟨rfl, rfl⟩
    have c3 : w6.cell? ⟨rd, 3, none⟩ = some (.int .i64 ((n : Int) + 1)) := by
     have := HR6.out.cells.1; rw [hn0] at this; exact this
    obtain ⟨r2, hr2⟩ : ∃ r2, Kbd { c with step := ns } S.data.toList i1 = r2 := ⟨_, rfl⟩; have HB7 := Jh (Kuz rd rb i1 S { c with step := ns } w6.drew ⟨HR6.out.r, HR6.out.b⟩ (hc.step ns) hS_ hi1); rw [hr2] at HB7; have HRC := Jh hr2; clear hr2; go_upto_region 11 with fail
    have x1 : w6.cell? ⟨q + 1, 1, none⟩ = some (.int .u64 (c.last.v : Int)) := HS6.out.x.cell 1; have hS : w6.drew.cell? ⟨q + 1, 1, none⟩ = some (.int .u64 (c.last.v : Int)) ∧ True := ⟨x1, trivial⟩; refine Kat (fun w' => w'.cell? ⟨q + 1, 1, none⟩ = some (.int .u64 (c.last.v : Int)) ∧ True) 5 7 (by kernel_rfl) rfl ?_; rw [show Array.replicate 7 false = #[false, false, false, false, false, false, false] from rfl]; refine Kaa (i := 0) (d := some 73) rfl rfl (by kernel_rfl) (by kernel_rfl) (by kernel_rfl) rfl (fun _ _ _ h => h) (by rfl) (fun w => by go_simp; try rfl) (fun _ => hS) ?_; simp only [Act.put, Ja, Jb, Jc]; refine Kai (i := 1) (d := some 74) rfl rfl (by kernel_rfl) (by kernel_rfl) (by kernel_rfl) (by kernel_rfl) rfl (fun _ _ _ h => h) (.inl ⟨by rfl, fun w hw => by (obtain ⟨ha, hb⟩ := hw; go_simp; try rfl)⟩) hS ?_; simp only [Act.put, Ja, Jb, Jc]; refine Kaa (i := 2) (d := some 75) rfl rfl (by kernel_rfl) (by kernel_rfl) (by kernel_rfl) rfl (fun _ _ _ h => h) (by rfl) (fun w => by go_simp; try rfl) (fun _ => hS) ?_; simp only [Act.put, Ja, Jb, Jc]; refine Kac (i := 3) (by kernel_rfl) rfl rfl ?_
    cases r2 with
    | none =>
     refine Oper.wp_faults (w1 := w6.drew) (g := 231) (args := #[.pointer (some ⟨rd, 0, none⟩)]) (by go_simp; try rfl) (N := fun u w' => (∃ f, f ≠ 0 ∧ Ending.panicked u = Kaq f) ∧ Kept w6.heap.size [rd, rb] w6 w') (HB7.out.mono ?_) ?_
     ·rintro _ w7 ⟨⟨f, hf, rfl⟩, hk7⟩; exact ⟨_, rfl, ⟨f, hf, rfl⟩, hk7.of_drew⟩
     ·rintro u w7 ⟨hfu, hk7⟩; simp only [Exit.then]; refine Kag rfl ?_
      have hd : Kbe c S.data.toList i = none := by
       unfold Kbe; rw [if_neg (by omega), HRA.out]; dsimp only; rw [HNS.out, HT.out, if_pos HALL.out, HRC.out]
      rw [hd]; exact ⟨hfu, HK6.out.two hk7⟩
    | some vj =>
     obtain ⟨xd, d, J⟩ := vj; refine Oper.wp_called (d := some 76) (w1 := w6.drew) (g := 231) (args := #[.pointer (some ⟨rd, 0, none⟩)]) rfl (by go_simp; try rfl) (N := fun u w' => u = .int .u64 (xd : Int) ∧ RdrAt rd rb S J d w' ∧ J ≤ 8 * S.size ∧ Kept w6.heap.size [rd, rb] w6 w') (HB7.out.mono ?_) ?_
     ·rintro _ w7 ⟨rfl, hq7, hi7, hk7⟩; exact ⟨_, rfl, rfl, hq7, hi7, hk7.of_drew⟩
     ·rintro _ w7 ⟨rfl, hq7, hi7, hk7⟩; have hs7 := HS6.out.keep hk7 hrd hrb
      have hdn : d.n = n + 1 := by
       have := Qbt HRC.out; rw [this]; exact hn0
      have hxd := (Kgp (hc.step ns) HRC.out).1; have x1 : w7.cell? ⟨q + 1, 1, none⟩ = some (.int .u64 (c.last.v : Int)) := hs7.x.cell 1; have z1 := hs7.x.frozen 1; obtain ⟨V, hV⟩ : ∃ V, c.last.v ^^^ xd = V := ⟨_, rfl⟩; have hxor : bits .xor .u64 (c.last.v : Int) (xd : Int) = (V : Int) := by rw [bits_xor_u64_nat _ _ (by omega) (by omega), hV]
      have HV := Jh hV; have HS9 := Jh (hs7.setV V); have HR9 := Jh (hq7.far (p := ⟨q + 1, 1, none⟩) (by simp; omega) (by simp; omega) (.int .u64 (V : Int))); have HK9 := Jh ((HK6.out.two hk7).setCell (p := ⟨q + 1, 1, none⟩) (.inr (by have := HQ.out; simp; omega)) (.int .u64 (V : Int))); clear hs7 hq7 hk7 hV; refine ⟨fun _ => ⟨x1, trivial⟩, ?_⟩; simp only [Act.put, Ja, Jb, Jc]; refine Kac (i := 4) (by kernel_rfl) rfl rfl ?_; refine Oper.wp_ran (d := some 77) (w' := w7) (v := .int .u64 (V : Int)) rfl (by go_simp; try rfl) ⟨fun _ => ⟨x1, trivial⟩, ?_⟩; simp only [Act.put, Ja, Jb, Jc]; refine Kay (i := 5) (by kernel_rfl) rfl rfl (by kernel_rfl) ?_; refine Oper.wp_ran (d := some 78) (w' := w7) (v := .pointer (some ⟨q + 1, 1, none⟩)) rfl (by go_simp; try rfl) ?_; simp only [Act.put, Ja, Jb, Jc]; refine Kay (i := 6) (by kernel_rfl) rfl rfl (by kernel_rfl) ?_; refine Oper.wp_skipped (w' := w7.setCell ⟨q + 1, 1, none⟩ (.int .u64 (V : Int))) rfl (by go_simp; try rfl) ?_; simp only [Act.put, Ja, Jb, Jc]; refine Kao (by kernel_rfl) ?_ _; obtain ⟨w8, hw8⟩ : ∃ w8, w7.setCell ⟨q + 1, 1, none⟩ (.int .u64 (V : Int)) = w8 := ⟨_, rfl⟩; rw [hw8] at HS9 HR9 HK9; rw [hw8]; clear hw8 x1 z1 c3 hxor hS; have HN9 := Jh hdn; have hcc := HR9.out.cells; have c3 := hcc.1; have c4 := hcc.2.1; have c5 := hcc.2.2.1; have z3 := hcc.2.2.2.2.2.2.2 3; have z4 := hcc.2.2.2.2.2.2.2 4; have z5 := hcc.2.2.2.2.2.2.2 5; clear hcc; rw [HN9.out] at c3; have x0 : w8.cell? ⟨q + 1, 0, none⟩ = some (.int .i64 T) := HS9.out.x.cell 0; have x1 : w8.cell? ⟨q + 1, 1, none⟩ = some (.int .u64 (V : Int)) := HS9.out.x.cell 1; obtain ⟨cs, hrb9, hcs⟩ := HS9.out.r; have r0 : w8.cell? ⟨q, 0, none⟩ = some cs[0] := (hrb9.cell 0).trans (Array.getElem?_eq_getElem (by omega)); have r1 : w8.cell? ⟨q, 1, none⟩ = some cs[1] := (hrb9.cell 1).trans (Array.getElem?_eq_getElem (by omega)); have y0 := hrb9.frozen 0; have y1 := hrb9.frozen 1; obtain ⟨u0, hu0⟩ : ∃ u, cs[0] = u := ⟨_, rfl⟩; obtain ⟨u1, hu1⟩ : ∃ u, cs[1] = u := ⟨_, rfl⟩; rw [hu0] at r0; rw [hu1] at r1; have HRB := Jh hrb9; have HCS := Jh hcs; have qr : rd ≠ q := by omega
      have qr2 : rd ≠ q + 1 := by omega
      have qr3 : q ≠ rd := by omega
      have qr4 : q + 1 ≠ rd := by omega
      have qb : rb ≠ q := by omega
      clear hrb9 hcs hu0 hu1; go_wp2_with fail
      have hR9 : RdrAt rd rb S J { d with n := n + 1 + 1, last := ⟨T, V⟩ } ((((w8.setCell ⟨rd, 4, none⟩ (.int .i64 T)).setCell ⟨rd, 5, none⟩ (.int .u64 (V : Int))).setCell ⟨rd, 3, none⟩ (.int .i64 ((n : Int) + 1 + 1))).setCell ⟨q, 0, none⟩ (.int .i64 T) |>.setCell ⟨q, 1, none⟩ (.int .u64 (V : Int))) :=
       ((((HR9.out.put 1 (.int .i64 T) { d with last := ⟨T, d.last.v⟩ } rfl).put 2 (.int .u64 (V : Int)) { d with last := ⟨T, V⟩ } rfl).put 0 (.int .i64 ((n : Int) + 1 + 1)) { d with n := n + 1 + 1, last := ⟨T, V⟩ } rfl).far (p := ⟨q, 0, none⟩) qr qb _).far (p := ⟨q, 1, none⟩) qr qb _
      have hK9 : Kept w.heap.size [rd, rb] w ((((w8.setCell ⟨rd, 4, none⟩ (.int .i64 T)).setCell ⟨rd, 5, none⟩ (.int .u64 (V : Int))).setCell ⟨rd, 3, none⟩ (.int .i64 ((n : Int) + 1 + 1))).setCell ⟨q, 0, none⟩ (.int .i64 T) |>.setCell ⟨q, 1, none⟩ (.int .u64 (V : Int))) :=
       ((((HK9.out.setCell (p := ⟨rd, 4, none⟩) (.inl (by simp)) _).setCell (p := ⟨rd, 5, none⟩) (.inl (by simp)) _).setCell (p := ⟨rd, 3, none⟩) (.inl (by simp)) _).setCell (p := ⟨q, 0, none⟩) (.inr (by rw [HQ.out]; exact Nat.le_refl _)) _).setCell (p := ⟨q, 1, none⟩) (.inr (by rw [HQ.out]; exact Nat.le_refl _)) _
      have hb9 : Blk ((((w8.setCell ⟨rd, 4, none⟩ (.int .i64 T)).setCell ⟨rd, 5, none⟩ (.int .u64 (V : Int))).setCell ⟨rd, 3, none⟩ (.int .i64 ((n : Int) + 1 + 1))).setCell ⟨q, 0, none⟩ (.int .i64 T) |>.setCell ⟨q, 1, none⟩ (.int .u64 (V : Int))) q 102 #[.int .i64 T, .int .u64 (V : Int)] := by
       have := ((((HRB.out.far (p := ⟨rd, 4, none⟩) qr3 (.int .i64 T)).far (p := ⟨rd, 5, none⟩) qr3 (.int .u64 (V : Int))).far (p := ⟨rd, 3, none⟩) qr3 (.int .i64 ((n : Int) + 1 + 1))).set_ 0 (.int .i64 T)).set_ 1 (.int .u64 (V : Int)); rwa [Kxv HCS.out] at this
      refine bodyPost_ret (Kdg rfl _ _ ⟨q, 0, none⟩ _ rfl (run_loadVar_row _ q 102 102 _ (0, 0) _ hb9 Tryz.underlying102 rfl (by kernel_rfl))) rfl ?_
      have hd : Kbe c S.data.toList i = some (⟨T, V⟩, { d with n := n + 1 + 1, last := ⟨T, V⟩ }, J) := by
       unfold Kbe; rw [if_neg (by omega), HRA.out]; dsimp only; rw [HNS.out, HT.out, if_pos HALL.out, HRC.out]; dsimp only; rw [HV.out, hn0]
      rw [hd]; exact ⟨rfl, hR9, hi7, hK9⟩
end
section
open Go.RowKit
open Lib renaming hid → Jh
attribute [local go_sem ↓] Go.wp_at_zero Go.wp_at_succ
attribute [local go_sem] Later.cell
theorem Ksg (c : Int) (w : World) : (Instr.typeAssert (.iface 29 (.int .i64 c)) 20 29 true).run Tryz.prog w = .ok (.tuple #[.int .i64 c, .bool true]) w := by kernel_rfl
theorem Kxh (w : World) : (Instr.typeAssert .nilIface 20 29 true).run Tryz.prog w = .ok (.tuple #[.int .i64 0, .bool false]) w := by kernel_rfl
theorem Kth (a : Addr) (x : Value) (c : Nat) (w : World) (ha : w.cell? a = some x) (fa : w.frozen? a = false) :
  CallsD Tryz.prog 187 #[.pointer (some a)] (.panicking [{ v := .iface 29 (.int .i64 (c : Int)), recovered := false }]) w fun e u' w' =>
   e = .returned (.tuple #[]) ∧ u' = .panicking [{ v := .iface 29 (.int .i64 (c : Int)), recovered := true }] ∧ w' = w.setCell a (.int .i64 (c : Int)) := by
 refine callsD_of_wpS Tryz.func187 rfl fun c₀ cs hu => ?_
 apply wpS_seq; apply wpS_region; simp [wpOpsS, go_sem, recoverD, hu, Tryz.ntmps187, Exit.thenS, Ksg]; apply wpS_seq; apply wpS_region; simp [wpOpsS, go_sem, Exit.thenS]; refine wpS_cond (t := true) (by simp [Act.eval, Array.replicate]) ?_; simp only [if_true]; apply wpS_region; simp [wpOpsS, go_sem, ha, fa, bodyPostS, results, Tryz.results187]
theorem Kxd (a : Addr) (w : World) :
  CallsD Tryz.prog 187 #[.pointer (some a)] .returning w fun e u' w' => e = .returned (.tuple #[]) ∧ u' = .returning ∧ w' = w := by
 refine callsD_of_wpS Tryz.func187 rfl fun c₀ cs hu => ?_
 apply wpS_seq; apply wpS_region; simp [wpOpsS, go_sem, recoverD, hu, Tryz.ntmps187, Exit.thenS, Kxh]; apply wpS_seq; apply wpS_region; simp [wpOpsS, go_sem, Exit.thenS]; refine wpS_cond (t := false) (by simp [Act.eval, Array.replicate]) ?_; simp only [Bool.false_eq_true, if_false]; refine wpS_of_wp (wp_skip ?_); cases c₀
 simp_all [bodyPostS, results, Tryz.results187]
theorem Kxg (S : ByteArray) (w : World) : Calls Tryz.prog 188 #[.string S] w fun e w' => e = .returned (.pointer (some ⟨w.heap.size, 0, none⟩)) ∧ w.alloc (.cells #[.string S, .int .i64 0] 321) = w' := by
 go_enter Tryz.func188, Tryz.ntmps188
 go_wp2_with fail
 go_ret
 exact ⟨rfl, rfl⟩
theorem Qfw {s : List UInt8} {v n e : Nat} (h : Kan s 0 = (v, n, e)) : (e ≠ 0 → (readC s).2 = false) ∧ (e = 0 → n ≤ s.length ∧ (120 < v → (readC s).2 = false) ∧ (v ≤ 120 → readC s = Kcb (s.drop n) v cst0 0)) := by
 unfold Kan at h; rw [if_neg (by omega)] at h; unfold readC; simp only [Int.toNat_zero, List.drop_zero] at h
 cases hr : readU s with
 | error c =>
  rw [hr] at h; simp only [Prod.mk.injEq] at h; obtain ⟨_, _, rfl⟩ := h; exact ⟨fun _ => rfl, fun h0 => absurd h0 (Kdm hr)⟩
 | ok x =>
  obtain ⟨a, b⟩ := x; rw [hr] at h; simp only [Prod.mk.injEq, Nat.zero_add] at h; obtain ⟨rfl, rfl, rfl⟩ := h; refine ⟨fun h0 => absurd rfl h0, fun _ => ⟨(Kdo hr).2.2.1, fun hv => ?_, fun hv => ?_⟩⟩
  ·dsimp only; rw [if_neg (by omega)]
  ·dsimp only; rw [if_pos hv]
theorem Ksr : (Tryz.prog.info? 102).map (fun i => (i.zero, i.size, i.bytes)) = some (some (.agg #[.int .i64 0, .int .u64 0]), 2, 16) := by kernel_rfl
def ReadO (w : World) (R : List Smp × Bool) (en : Ending) (w' : World) : Prop :=
 if R.2 = true then ∃ v, en = .returned (.tuple #[v, .int .i64 0]) ∧ w'.ownsRow w.heap.size 102 2 v R.1.length (R.1.flatMap Kbg) ∧ Below w.heap.size w w'
 else ∃ v f, f ≠ 0 ∧ en = .returned (.tuple #[v, .int .i64 ((f : Nat) : Int)]) ∧ Below w.heap.size w w'
theorem ReadO.bad {w w' : World} {R : List Smp × Bool} {v : Value} {f : Nat} (hR : R.2 = false) (hf : f ≠ 0) (hb : Below w.heap.size w w') : ReadO w R (.returned (.tuple #[v, .int .i64 (f : Int)])) w' := by
 unfold ReadO; rw [if_neg (by rw [hR]; decide)]; exact ⟨v, f, hf, rfl, hb⟩
theorem Kbf {w : World} {B n sz : Nat} {T : TypeId} {v : Value} {xs : List Value} (h : w.ownsRow B T sz v n xs) {p : Addr} (hp : v.ownBlock ≠ some p.block) (u : Value) : (w.setCell p u).ownsRow B T sz v n xs :=
 h.kept (row := some p.block) ⟨rfl, rfl, rfl, by simp [World.setCell], fun k _ hk => Below.heap_setCell _ _ _ _ (fun e => hk (by rw [e]))⟩ (.inr hp)
theorem Kcu {w : World} {B n sz k : Nat} {T : TypeId} {v : Value} {xs : List Value} (h : w.ownsRow B T sz v n xs) (hk : k < B) : v.ownBlock ≠ some k := fun e => by
 have := (h.lt k e).1; omega
theorem Kuc {w w' : World} {base : Nat} {T : TypeId} {sz n : Nat} {v : Value} {xs : List Value} (h : w.ownsRow base T sz v n xs) (hb : ∀ g, v.ownBlock = some g → w'.heap[g]? = w.heap[g]?) : w'.ownsRow base T sz v n xs := by
 refine ⟨h.1, ?_⟩; rcases h.2 with h2 | ⟨g, cap, cur, rfl, h3, h4, h5⟩
 ·exact .inl h2
 ·exact .inr ⟨g, cap, cur, rfl, h3, (hb g rfl).trans h4, h5⟩
theorem Kfa {w w' : World} {B n sz : Nat} {ex : List Nat} {T : TypeId} {v : Value} {xs : List Value} (h : w.ownsRow B T sz v n xs) (hk : Kept w.heap.size ex w w') (hx : ∀ k ∈ ex, k < B) : w'.ownsRow B T sz v n xs :=
 Kuc h fun g hg => hk.block g (h.lt g hg).2 (fun hm => by have := hx g hm; have := (h.lt g hg).1; omega)
theorem Kol {c : Cst} {s : List UInt8} {i : Nat} {x : Smp} {c' : Cst} {j : Nat} (hc : c.Ok) (hv : c.last.v < 2 ^ 64) (h : Kbe c s i = some (x, c', j)) : c'.Ok ∧ c'.n = c.n + 1 ∧ c'.last = x ∧ x.v < 2 ^ 64 := by
 unfold Kbe at h
 split at h
 ·rename_i h0
  repeat' split at h
  all_goals first | (cases h; done) | skip
  rename_i hr
  injection h with h; injection h with h1 h2; injection h2 with h2 h3; subst h1 h2; exact ⟨hc, by rw [h0], rfl, Kcy hr⟩
 ·repeat' split at h
  all_goals first | (cases h; done) | skip
  rename_i hr
  injection h with h; injection h with h1 h2; injection h2 with h2 h3; subst h1 h2; obtain ⟨a, b⟩ := Kgp (hc.step _) hr; exact ⟨b, rfl, rfl, Nat.xor_lt_two_pow hv a⟩
structure Kuq (w : World) (q : Nat) (S : ByteArray) (N : Nat) (i : Nat) (c : Cst) (j : Nat) (L : List Smp) (v : Value) (wr : World) : Prop where
 he : Blk wr q 29 #[.int .i64 0]
 hr : RdrAt (q + 2) (q + 1) S j c wr
 hj : j ≤ 8 * S.size
 ok : c.Ok
 hn : c.n = i
 hv : c.last.v < 2 ^ 64
 hl : L.length = i
 row : wr.ownsRow (q + 3) 102 2 v i (L.flatMap Kbg)
 hb : Below q w wr
 hs : Kcb S.data.toList N cst0 0 = (L ++ (Kcb S.data.toList (N - i) c j).1, (Kcb S.data.toList (N - i) c j).2)
theorem Kzj (s : ByteArray) (w : World) (hs : s.size ≤ 140737488351232) :
  Calls Tryz.prog 151 #[.string s] w (ReadO w (readC s.data.toList)) := by
 have hmf : ∀ (fn : Fn) (first cap : Array Value) (w : World), (Instr.makeFunc fn first cap).run Tryz.prog w = .ok (.func fn first cap) w := fun _ _ _ _ => rfl
 obtain ⟨v, n, e, hr⟩ : ∃ v n e, Kan s.data.toList 0 = (v, n, e) := ⟨_, _, _, rfl⟩; have HRU := Jh (fun w => Kam s 0 v n e hr hs w); have HR := Jh hr; have hb0 : Below w.heap.size w (w.alloc (.cells #[.int .i64 0] 29)) := (Below.refl _ _).alloc (Nat.le_refl _) _; have he0 : Blk (w.alloc (.cells #[.int .i64 0] 29)) w.heap.size 29 #[.int .i64 0] := Blk.new _ _ _; obtain ⟨q, hq⟩ : ∃ q, w.heap.size = q := ⟨_, rfl⟩; have HQ := Jh hq; have hq1 : (w.alloc (.cells #[.int .i64 0] 29)).heap.size = q + 1 := by simp [hq]
 clear hr; go_enter_defers Tryz.func151, Tryz.ntmps151
 go_upto_region 1 with fail
 obtain ⟨w1, hw1⟩ : ∃ w1, w.alloc (.cells #[.int .i64 0] 29) = w1 := ⟨_, rfl⟩; rw [hw1] at hb0 he0 hq1; rw [hw1]; rw [hq] at hb0 he0; clear hw1 hq; have e0 : w1.cell? ⟨q, 0, none⟩ = _ := he0.cell 0; have f0 := he0.frozen 0; go_wp2_with fail
 refine (HRU.out w1).mono ?_; rintro _ _ ⟨rfl, rfl⟩; have hbq : Below q w (w1.setCell ⟨q, 0, none⟩ (.int .i64 (e : Int))) := hb0.setCell (p := ⟨q, 0, none⟩) (Nat.le_refl _) _; have heq : Blk (w1.setCell ⟨q, 0, none⟩ (.int .i64 (e : Int))) q 29 #[.int .i64 (e : Int)] := he0.set_ 0 _; have hsz : (w1.setCell ⟨q, 0, none⟩ (.int .i64 (e : Int))).heap.size = q + 1 := by simpa [World.setCell] using hq1
 go_upto_region 2 with fail
 obtain ⟨w2, hw2⟩ : ∃ w2, w1.setCell ⟨q, 0, none⟩ (.int .i64 (e : Int)) = w2 := ⟨_, rfl⟩; rw [hw2] at hbq heq hsz; rw [hw2]; have HC := Jh (Qfw HR.out); have HBQ := Jh hbq; clear hw2 hb0 he0 e0 f0 hq1; have e0 : w2.cell? ⟨q, 0, none⟩ = _ := heq.cell 0; have f0 := heq.frozen 0; have hql := heq.lt
 by_cases h0 : e = 0
 ·subst h0
  by_cases hv : 120 < v
  ·go_wp2_with fail
   have e1 : (w2.setCell ⟨q, 0, none⟩ (.int .i64 92)).cell? ⟨q, 0, none⟩ = some (.int .i64 92) := (heq.set_ 0 (.int .i64 92)).cell 0; refine ⟨.tuple #[.slice none 0 0, .int .i64 92], by simp [results, Tryz.results151, go_sem, e1], ?_⟩; have hrc := (HC.out.2 (by simp)).2.1 hv; exact ReadO.bad hrc (by decide) (by rw [HQ.out]; exact HBQ.out.setCell (p := ⟨q, 0, none⟩) (Nat.le_refl _) _)
  ·have hv120 : v ≤ 120 := by omega
   have hvf : decide ((120 : Int) < (v : Int)) = false := by rw [decide_eq_false_iff_not]; omega
   obtain ⟨hns, _, hrc⟩ := HC.out.2 (by simp); have hrc := hrc hv120; have hnz : n ≤ s.size := hns; have HRC := Jh hrc; clear hrc hns hv; obtain ⟨S, hSS⟩ : ∃ S, s.extract n s.size = S := ⟨_, rfl⟩
   have hSd : S.data.toList = s.data.toList.drop n := by
    rw [← hSS]; simp only [ByteArray.data_extract, Array.toList_extract]; rw [← Kaf, List.extract_eq_take_drop, List.take_of_length_le]; simp
   have hSz : S.size ≤ 140737488351232 := by
    have h1 : S.size = S.data.toList.length := rfl; rw [h1, hSd, List.length_drop]; have h2 : s.data.toList.length = s.size := rfl; omega
   have HSD := Jh hSd; clear hSd; go_upto_region 8 with fail
   refine (Kxg S w2).mono ?_; rintro _ w3 ⟨rfl, hw3⟩; go_upto_region 8 with fail
   have hb3 : Below w2.heap.size w2 w3 := by rw [← hw3]; exact (Below.refl _ _).alloc (Nat.le_refl _) _
   have hr3 : Blk w3 (q + 1) 321 #[.string S, .int .i64 0] := by rw [← hw3, ← hsz]; exact Blk.new _ _ _
   have hs3 : w3.heap.size = q + 2 := by rw [← hw3]; simp [hsz]
   have hb4 : Below w2.heap.size w2 (w3.alloc (.cells (.pointer (some ⟨q + 1, 0, none⟩) :: .slice none 0 0 :: .int .i64 0 :: restC cst0).toArray 290)) := hb3.alloc hb3.size _
   have hL0 : Kuq w q S v 0 cst0 0 [] (.slice none 0 0) (w3.alloc (.cells (.pointer (some ⟨q + 1, 0, none⟩) :: .slice none 0 0 :: .int .i64 0 :: restC cst0).toArray 290)) :=
    ⟨heq.below hb4 heq.lt, ⟨by rw [← hs3]; exact Blk.new _ _ _, hr3.alloc _⟩, Nat.zero_le _, Cst.ok0, rfl, by decide, rfl, World.ownsRow_nil _ _ _ _, HBQ.out.trans (hb4.mono (by omega)), by simp⟩
   obtain ⟨w4, hw4⟩ : ∃ w4, w3.alloc (.cells (.pointer (some ⟨q + 1, 0, none⟩) :: .slice none 0 0 :: .int .i64 0 :: restC cst0).toArray 290) = w4 := ⟨_, rfl⟩; have hw4' : w3.alloc (.cells #[.pointer (some ⟨q + 1, 0, none⟩), .slice none 0 0, .int .i64 0, .int .i64 0, .int .i64 0, .int .u64 0, .int .i64 0, .int .i64 0, .int .i64 0, .bool false] 290) = w4 := hw4; rw [hw4] at hL0; rw [hw4', hs3]; have HL0 := Jh hL0; clear hw4 hw4' hL0 hb4 hs3 hr3 hb3 hw3 e0 f0 heq hbq hsz hql; go_wp2_with fail
   go_loopg [2, 28] v (fun g s2 s28 wr => ∃ (i : Nat) (c : Cst) (j : Nat) (L : List Smp), i + g = v ∧ s28 = .int .u64 (i : Int) ∧ Kuq w q S v i c j L s2 wr)
   case atStart => exact ⟨0, cst0, 0, [], by omega, rfl, HL0.out⟩
   case round =>
    obtain ⟨i, c, j, L, hi, rfl, hl⟩ := hrel; have HI := Jh hi; have HL := Jh hl
    cases gk with
    | zero =>
     obtain rfl : i = v := by omega
     clear hl hi; have c0 : wr.cell? ⟨q, 0, none⟩ = some (.int .i64 0) := HL.out.he.cell 0; have z0 := HL.out.he.frozen 0; go_wp2_with fail
     refine leaves_cons (f := 187) (args := #[.pointer (some ⟨q, 0, none⟩)]) (by simp) (by simp [go_sem]) ?_; refine (Kxd _ _).mono ?_; rintro e u' w'' ⟨rfl, rfl, rfl⟩; have he5 := HL.out.he.set_ 0 (.int .i64 0); have e5 : (wr.setCell ⟨q, 0, none⟩ (.int .i64 0)).cell? ⟨q, 0, none⟩ = some (.int .i64 0) := he5.cell 0; refine ⟨.tuple #[u2, .int .i64 0], by simp [results, Tryz.results151, go_sem, e5], ?_⟩; have hss := HL.out.hs; rw [Nat.sub_self, Kcb, List.append_nil] at hss; have hrr : readC s.data.toList = (L, true) := by rw [HRC.out, ← HSD.out]; exact hss
     unfold ReadO; rw [hrr, if_pos rfl, HQ.out]; refine ⟨_, rfl, ?_, HL.out.hb.setCell (p := ⟨q, 0, none⟩) (Nat.le_refl _) _⟩; have hrow := Kbf HL.out.row (p := ⟨q, 0, none⟩) (Kcu (k := q) HL.out.row (by omega)) (.int .i64 0); rw [← HL.out.hl] at hrow; exact World.ownsRow.mono hrow (by omega)
    | succ g =>
     have hsr := hl.hs; rw [show v - i = g + 1 by omega, Kcb] at hsr; obtain ⟨r, hr⟩ : ∃ r, Kbe c S.data.toList j = r := ⟨_, rfl⟩; have HB := Jh (Kuo (q + 2) (q + 1) j S c wr hl.hr hl.ok (by rw [hl.hn]; omega) hl.hv hSz hl.hj); rw [hr] at HB hsr; have HRR := Jh hr; have HSR := Jh hsr; have hiv : i < v := by omega
     have el : decide (i < v) = true := decide_eq_true hiv; clear hl hi hr hsr
     cases r with
     | none =>
      go_wp2_with fail
      refine HB.out.mono ?_; rintro _ w5 ⟨⟨f, hf, rfl⟩, hk5⟩; have he5 := HL.out.he.kept hk5 HL.out.he.lt (by simp); unfold Kaq; go_wp2_with fail
      refine leaves_cons (f := 187) (args := #[.pointer (some ⟨q, 0, none⟩)]) (by simp) (by simp [go_sem]) ?_; refine (Kth ⟨q, 0, none⟩ _ f w5 (he5.cell 0) (he5.frozen 0)).mono ?_; rintro e u' w'' ⟨rfl, rfl, rfl⟩; have e5 : (w5.setCell ⟨q, 0, none⟩ (.int .i64 (f : Int))).cell? ⟨q, 0, none⟩ = some (.int .i64 (f : Int)) := (he5.set_ 0 _).cell 0; refine ⟨.tuple #[u2, .int .i64 (f : Int)], by simp [results, Tryz.results151, go_sem, e5], ?_⟩; have hrr : (readC s.data.toList).2 = false := by rw [HRC.out, ← HSD.out, HSR.out]
      have hb5 : Below q w w5 := HL.out.hb.trans ((hk5.mono (B' := q) (by have := HL.out.he.lt; omega) (fun _ _ h => h)).below (by simp))
      try rw [← HRC.out]
      exact ReadO.bad hrr hf (by rw [HQ.out]; exact hb5.setCell (p := ⟨q, 0, none⟩) (Nat.le_refl _) _)
     | some x =>
      obtain ⟨x, c', j'⟩ := x; go_wp2_with fail
      refine HB.out.mono ?_; rintro _ w5 ⟨rfl, hr5, hj5, hk5⟩; have he5 := HL.out.he.kept hk5 HL.out.he.lt (by simp); have hrow5 := Kfa HL.out.row hk5 (by simp); have hb5 : Below q w w5 := HL.out.hb.trans ((hk5.mono (B' := q) (by have := HL.out.he.lt; omega) (fun _ _ h => h)).below (by simp)); unfold smpV; obtain ⟨i0, hi0, hz0, hz1, hz2⟩ := info_parts Ksr; have hB5 : q + 3 ≤ w5.heap.size := by have := hr5.r.lt; omega
      have HR5 := Jh hr5; have HE5 := Jh he5; have HB5 := Jh hb5; clear hr5 he5 hb5 hk5; go_wp2_with (at_builtin; refine wpList_append_own_at _ rfl _ _ 55 rfl (q + 3) 102 i0 (.agg #[.int .i64 0, .int .u64 0]) 2 16 Tryz.underlying55 hi0 hz0 hz1 hz2 rfl (by decide) _ _ _ rfl (World.ownsRow.alloc hrow5 _) ⟨w5.heap.size, 0, none⟩ 1 1 [.int .i64 x.t, .int .u64 (x.v : Int)] rfl rfl ?c1 ?c2 ?c3 ?c4 ?c5 ?_)
      case c1 => exact Kaw (l := [.int .i64 x.t, .int .u64 (x.v : Int)]) (Blk.new w5 _ _)
      case c2 => intro u hu; simp at hu; rcases hu with rfl | rfl <;> rfl
      case c3 => unfold maxLen; omega
      case c4 => omega
      case c5 => simp; omega
      intro v' w6 hown' hgrow hx1 hat; have hq0 : v'.ownBlock = v'.ownBlock := rfl; have hne : ∀ k, k < q + 3 → some k ≠ u2.ownBlock := fun k hk e => Kcu hrow5 hk e.symm
      have hE6 : Blk w6 q 29 #[.int .i64 0] := (HE5.out.alloc _).grown hgrow (hne q (by omega)); have hR6 : RdrAt (q + 2) (q + 1) S j' c' w6 := ⟨(HR5.out.r.alloc _).grown hgrow (hne (q + 2) (by omega)), (HR5.out.b.alloc _).grown hgrow (hne (q + 1) (by omega))⟩; have hb6 : Below q w w6 := HB5.out.trans ⟨hgrow.os, hgrow.tape, hgrow.output, by have := hgrow.size; simp at this; omega, fun k hk => (hgrow.block k (by simp; omega) (hne k (by omega))).trans (Below.heap_alloc _ _ _ (by omega))⟩; have hfl : (L ++ [x]).flatMap Kbg = L.flatMap Kbg ++ [.int .i64 x.t, .int .u64 (x.v : Int)] := by rw [List.flatMap_append]; rfl
      obtain ⟨k1, k2, k3, k4⟩ := Kol HL.out.ok HL.out.hv HRR.out
      have hnew : Kuq w q S v (i + 1) c' j' (L ++ [x]) v' w6 := by
       refine ⟨hE6, hR6, hj5, k1, by rw [k2, HL.out.hn], by rw [k3]; exact k4, by rw [List.length_append, HL.out.hl]; rfl, by rw [hfl]; exact hown', hb6, ?_⟩; rw [HSR.out, List.append_assoc, show v - (i + 1) = g by have := HI.out; omega]; rfl
      have HNEW := Jh hnew; clear hnew hE6 hR6 hb6 hown' hgrow hx1 hat hne hq0; go_wp2_with fail
      go_roundg g
      case measure => omega
      case rel => exact ⟨i + 1, c', j', L ++ [x], by have := HI.out; omega, by go_num, HNEW.out⟩
 ·have h0' : ((e : Int) != 0) = true := by simp; omega
  go_upto_region 3 with fail
  go_region
  go_wp2_with fail
  have e1 : (w2.setCell ⟨q, 0, none⟩ (.int .i64 (e : Int))).cell? ⟨q, 0, none⟩ = some (.int .i64 (e : Int)) := (heq.set_ 0 (.int .i64 (e : Int))).cell 0; refine ⟨.tuple #[.slice none 0 0, .int .i64 (e : Int)], by simp [results, Tryz.results151, go_sem, e1], ?_⟩; exact ReadO.bad (HC.out.1 h0) h0 (by rw [HQ.out]; exact HBQ.out.drew.setCell (p := ⟨q, 0, none⟩) (Nat.le_refl _) _)
end
section
open Go.RowKit
theorem Kda {w : World} {B n sz B' n' sz' : Nat} {T T' : TypeId} {v v' : Value} {xs xs' : List Value} (h : w.ownsRow B T sz v n xs) (h' : w.ownsRow B' T' sz' v' n' xs') (hT : T ≠ T') : v.ownBlock = none ∨ v.ownBlock ≠ v'.ownBlock := by
 cases hv : v.ownBlock with
 | none => exact .inl rfl
 | some r =>
  refine .inr fun e => ?_
  obtain ⟨cur, hc⟩ := Kcg h hv; obtain ⟨cur', hc'⟩ := Kcg h' e.symm; rw [hc] at hc'; injection hc' with hc'; injection hc' with _ hc'; exact hT hc'
theorem Kbz {w : World} {g : Nat} {t T : TypeId} {cs : Array Value} {B n sz : Nat} {v : Value} {xs : List Value} (h : Blk w g t cs) (hv : w.ownsRow B T sz v n xs) (ht : t ≠ T) : some g ≠ v.ownBlock := fun e => by
 obtain ⟨cur, hc⟩ := Kcg hv e.symm; exact h.ne_ (show Blk w g T cur from hc) ht rfl
theorem Kcj {w : World} {B n sz p i : Nat} {t T : TypeId} {cs : Array Value} {v u : Value} {xs : List Value} (hv : w.ownsRow B T sz v n xs) (h : Blk w p t cs) (ht : t ≠ T) : (w.setCell ⟨p, i, none⟩ u).ownsRow B T sz v n xs :=
 hv.kept (row := some p) ⟨rfl, rfl, rfl, by simp [World.setCell], fun k _ hk => Below.heap_setCell _ _ _ _ (fun e => hk (by rw [e]))⟩ (.inr fun e => Kbz h hv ht e.symm)
end
section
open Go.RowKit
open Lib renaming hid → Jh
attribute [local go_sem ↓] Go.wp_at_zero Go.wp_at_succ
attribute [local go_sem] Later.cell
theorem Kif.below {w w' : World} {b : Nat} {h : Hd3} {x : Ser} (hs : Kif w b h x) (hb : Below w.heap.size w w') : Kif w' b h x := ⟨hs.1.below hb hs.1.lt, hs.2.below hb⟩
theorem Kum (c : Cont) (hd : Hd) (s : Ser) (h : Hd3) (w : World) (hS : SerAt w h s) (hn : s.samples.length ≤ 1099511627776) (hm : s.windows.length ≤ 1099511627776) (hb : ∀ x ∈ s.windows, Kaz x) :
  Calls Tryz.prog 106 #[contV c.res c.frm c.to_ hd, .agg #[.slice h.l.A h.l.n h.l.c, .slice h.s.A h.s.n h.s.c, .slice h.w.A h.w.n h.w.c]] w fun e w' => e = .returned (.bool (Kdd c s)) ∧ Below w.heap.size w w' := by
 have hmf : ∀ (fn : Fn) (first cap : Array Value) (w : World), (Instr.makeFunc fn first cap).run Tryz.prog w = .ok (.func fn first cap) w := fun _ _ _ _ => rfl
 have hsn : s.samples.length = h.s.n := hS.s.len; have hwn : s.windows.length = h.w.n := hS.w.len; obtain ⟨r, hr⟩ : ∃ r, c.res = r := ⟨_, rfl⟩; obtain ⟨f, hf⟩ : ∃ f, c.frm = f := ⟨_, rfl⟩; obtain ⟨t, ht⟩ : ∃ t, c.to_ = t := ⟨_, rfl⟩; obtain ⟨R, hR⟩ : ∃ R, Kdd c s = R := ⟨_, rfl⟩; rw [hR, hr, hf, ht]; rw [Kdd, hr, hf, ht] at hR; have HR := Jh hR; obtain ⟨q, hq⟩ : ∃ q, w.heap.size = q := ⟨_, rfl⟩; have hb1 : Below q w ((w.alloc (.cells #[.int .i64 r, .int .i64 f, .int .i64 t, .slice hd.A hd.n hd.c] 28)).alloc (.cells #[.slice h.l.A h.l.n h.l.c, .slice h.s.A h.s.n h.s.c, .slice h.w.A h.w.n h.w.c] 58)) := ((Below.refl _ _).alloc (by omega) _).alloc (by simp; omega) _; have hk1 : Blk ((w.alloc (.cells #[.int .i64 r, .int .i64 f, .int .i64 t, .slice hd.A hd.n hd.c] 28)).alloc (.cells #[.slice h.l.A h.l.n h.l.c, .slice h.s.A h.s.n h.s.c, .slice h.w.A h.w.n h.w.c] 58)) q 28 #[.int .i64 r, .int .i64 f, .int .i64 t, .slice hd.A hd.n hd.c] := (Blk.newAt hq.symm).alloc _; have hs1 : Blk ((w.alloc (.cells #[.int .i64 r, .int .i64 f, .int .i64 t, .slice hd.A hd.n hd.c] 28)).alloc (.cells #[.slice h.l.A h.l.n h.l.c, .slice h.s.A h.s.n h.s.c, .slice h.w.A h.w.n h.w.c] 58)) (q + 1) 58 #[.slice h.l.A h.l.n h.l.c, .slice h.s.A h.s.n h.s.c, .slice h.w.A h.w.n h.w.c] := Blk.newAt (by simp; omega); unfold contV; clear hr hf ht hR; go_enter Tryz.func106, Tryz.ntmps106
 go_upto_region 1 with fail
 obtain ⟨w1, hw1⟩ : ∃ w1, (w.alloc (.cells #[.int .i64 r, .int .i64 f, .int .i64 t, .slice hd.A hd.n hd.c] 28)).alloc (.cells #[.slice h.l.A h.l.n h.l.c, .slice h.s.A h.s.n h.s.c, .slice h.w.A h.w.n h.w.c] 58) = w1 := ⟨_, rfl⟩; rw [hw1] at hb1 hk1 hs1; rw [hw1]
 try rw [hq]
 have hsb : Kif w1 (q + 1) h s := ⟨hs1, hS.below (hq.symm ▸ hb1)⟩; have HSB := Jh hsb; have HQ := Jh hq; have HB := Jh hb1; have hqw : q + 1 < w1.heap.size := hs1.lt; clear hw1 hq hb1 hS hsb; have hlen1 : (s.samples.map Smp.t).length = h.s.n := by rw [List.length_map]; exact hsn
 have hlen2 : (s.windows.map Wnd.start).length = h.w.n := by rw [List.length_map]; exact hwn
 have HT1 := Jh (fun (w2 : World) (hb : Below w1.heap.size w1 w2) (i : Nat) (hi : i < (s.samples.map Smp.t).length) (W : World) (hW : Below w2.heap.size w2 W) => (show Calls Tryz.prog 163 #[.int .i64 (i : Int), .pointer (some ⟨q + 1, 0, none⟩)] W fun e w' => e = .returned (.int .i64 (s.samples.map Smp.t)[i]!) ∧ W = w' by
  have := Qcc W (q + 1) h s ((HSB.out.below hb).below hW) (by omega) i (by omega)
  rwa [show (s.samples.map Smp.t)[i]! = (s.samples[i]!).t by rw [getElem!_pos _ i hi, List.getElem_map, getElem!_pos _ i (by omega)]]))
 have HT2 := Jh (fun (w2 : World) (hb : Below w1.heap.size w1 w2) (i : Nat) (hi : i < (s.windows.map Wnd.start).length) (W : World) (hW : Below w2.heap.size w2 W) => (show Calls Tryz.prog 164 #[.int .i64 (i : Int), .pointer (some ⟨q + 1, 0, none⟩)] W fun e w' => e = .returned (.int .i64 (s.windows.map Wnd.start)[i]!) ∧ W = w' by
  have := Qay W (q + 1) h s ((HSB.out.below hb).below hW) (by omega) i (by omega)
  rwa [show (s.windows.map Wnd.start)[i]! = (s.windows[i]!).start by rw [getElem!_pos _ i hi, List.getElem_map, getElem!_pos _ i (by omega)]]))
 have HW1 := Jh (fun (w2 : World) (hb : Below w1.heap.size w1 w2) => Kle r f t hd (s.samples.map Smp.t) 163 (q + 1) w2 (by omega) (enters_of Tryz.func163 (by kernel_rfl) rfl) (HT1.out w2 hb)); have HW2 := Jh (fun (w2 : World) (hb : Below w1.heap.size w1 w2) => Kle r f t hd (s.windows.map Wnd.start) 164 (q + 1) w2 (by omega) (enters_of Tryz.func164 (by kernel_rfl) rfl) (HT2.out w2 hb)); rw [hlen1] at HW1; rw [hlen2] at HW2; unfold contV at HW1 HW2; obtain ⟨b1, hb1⟩ : ∃ b, Kcm f t (s.samples.map Smp.t) = b := ⟨_, rfl⟩; obtain ⟨b2, hb2⟩ : ∃ b, Kcm f t (s.windows.map Wnd.start) = b := ⟨_, rfl⟩; rw [hb1] at HW1 HR; rw [hb2] at HW2 HR; rw [hwn, hsn] at HR; have k0 : w1.cell? ⟨q, 0, none⟩ = some (.int .i64 r) := hk1.cell 0; have k1 : w1.cell? ⟨q, 1, none⟩ = some (.int .i64 f) := hk1.cell 1; have k2 : w1.cell? ⟨q, 2, none⟩ = some (.int .i64 t) := hk1.cell 2; have k3 : w1.cell? ⟨q, 3, none⟩ = some (.slice hd.A hd.n hd.c) := hk1.cell 3; have s1 : w1.cell? ⟨q + 1, 1, none⟩ = some (.slice h.s.A h.s.n h.s.c) := hs1.cell 1; have s2 : w1.cell? ⟨q + 1, 2, none⟩ = some (.slice h.w.A h.w.n h.w.c) := hs1.cell 2; have HEA := Jh (HSB.out.2.w); have HA := Jh (Kjo s.windows h.w.A h.w.n h.w.c w1 HSB.out.2.w (by omega) hb); clear hlen1 hlen2 hb1 hb2
 by_cases h0 : r = 0
 ·subst h0; have hRR := HR.out; rw [if_pos rfl] at hRR
  by_cases hw0 : h.w.n = 0
  ·have e0 : decide ((h.w.n : Int) = 0) = true := by rw [decide_eq_true_eq]; omega
   rw [hw0] at hRR; have hre : R = b1 := by rw [← hRR]; simp
   have HRE := Jh hre; have HC := Jh (HW1.out w1 (Below.refl _ _)); rw [hw0] at s2; clear hRR hre; go_wp2_with fail
   refine HC.out.mono ?_; rintro _ w3 ⟨rfl, h3⟩; go_wp2_with fail
   go_ret
   rw [HRE.out]; exact ⟨rfl, by rw [HQ.out]; exact HB.out.trans (h3.mono (by omega))⟩
  ·have e0 : decide ((h.w.n : Int) = 0) = false := by rw [decide_eq_false_iff_not]; omega
   have e1 : ((h.w.n : Int) == 0) = false := by simp; omega
   have hre : R = false := by rw [← hRR, decide_eq_false hw0]; rfl
   clear hRR; go_wp2_with fail
   go_ret
   try rw [hre]
   exact ⟨rfl, by rw [HQ.out]; exact HB.out⟩
 ·have e0 : decide (r = 0) = false := decide_eq_false h0; have e1 : (r == 0) = false := by simp; omega
  have hRR := HR.out; rw [if_neg h0] at hRR; obtain ⟨T, k, hco⟩ : ∃ T k, aggO s.windows = (T, k) := ⟨_, _, rfl⟩; rw [hco] at HA
  have hk : k = 0 ↔ Kbx wnd0 true s.windows = true := by
   rw [← Kkm]; unfold aggO at hco
   split at hco
   ·rename_i hz
    injection hco with _ h2; rw [← h2, hz]
   ·injection hco with _ h2; rw [← h2]
  dsimp only at HA; obtain ⟨X, hX⟩ : ∃ X : ByteArray, (⟨T.toArray⟩ : ByteArray) = X := ⟨_, rfl⟩; rw [hX] at HA; have HRR := Jh hRR; have HK := Jh hk; clear hco hX hRR hk; have HK1 := Jh hk1; have HS1 := Jh hs1; go_wp2_with fail
  refine HA.out.mono ?_; rintro _ w2 ⟨rfl, h2⟩; have HC := Jh (HW2.out w2 h2); have g2 := HS1.out.below h2 HS1.out.lt; have f2 := HK1.out.below h2 HK1.out.lt; have k0 : w2.cell? ⟨q, 0, none⟩ = some (.int .i64 r) := f2.cell 0; have k1 : w2.cell? ⟨q, 1, none⟩ = some (.int .i64 f) := f2.cell 1; have k2 : w2.cell? ⟨q, 2, none⟩ = some (.int .i64 t) := f2.cell 2; have k3 : w2.cell? ⟨q, 3, none⟩ = some (.slice hd.A hd.n hd.c) := f2.cell 3; have s1 : w2.cell? ⟨q + 1, 1, none⟩ = some (.slice h.s.A h.s.n h.s.c) := g2.cell 1; have s2 : w2.cell? ⟨q + 1, 2, none⟩ = some (.slice h.w.A h.w.n h.w.c) := g2.cell 2; have HB2 := Jh (HB.out.trans (h2.mono (by omega))); clear f2 g2 h2
  by_cases hk0 : k = 0
  ·subst hk0
   by_cases hs0 : h.s.n = 0
   ·have hre : R = b2 := by rw [← HRR.out, HK.out.1 rfl, hs0]; simp
    have HRE := Jh hre; rw [hs0] at s1; clear hre; go_wp2_with fail
    refine HC.out.mono ?_; rintro _ w3 ⟨rfl, h3⟩; go_wp2_with fail
    go_ret
    rw [HRE.out]; exact ⟨rfl, by rw [HQ.out]; exact HB2.out.trans (h3.mono (by have := HB2.out.size; have := HQ.out; omega))⟩
   ·have e2 : decide ((h.s.n : Int) = 0) = false := by rw [decide_eq_false_iff_not]; omega
    have e3 : ((h.s.n : Int) == 0) = false := by simp; omega
    have hre : R = false := by rw [← HRR.out, decide_eq_false hs0]; simp
    go_wp2_with fail
    go_ret
    try rw [hre]
    exact ⟨rfl, by rw [HQ.out]; exact HB2.out⟩
  ·have e2 : ((k : Int) == 0) = false := by simp; omega
   have e3 : decide ((k : Int) = 0) = false := by rw [decide_eq_false_iff_not]; omega
   have hf : Kbx wnd0 true s.windows = false := by
    rw [Bool.eq_false_iff]; exact fun h => hk0 (HK.out.2 h)
   have hre : R = false := by rw [← HRR.out, hf]; rfl
   clear hf; go_wp2_with fail
   go_ret
   try rw [hre]
   exact ⟨rfl, by rw [HQ.out]; exact HB2.out⟩
structure SerSz (s : Ser) : Prop where
 n : s.samples.length ≤ 1099511627776
 m : s.windows.length ≤ 1099511627776
 l : s.labels.length ≤ 1099511627776
 v : ∀ x ∈ s.samples, x.v < 2 ^ 64
 b : ∀ x ∈ s.windows, Kaz x
 z : ∀ x ∈ s.labels, x.n.length ≤ 1099511627776 ∧ x.v.length ≤ 1099511627776
def okAt (c : Cont) (i : Nat) : Bool := Kcl (c.series[i]!).labels && ((decide (i = 0) || decide (cmpL (c.series[i - 1]!).labels (c.series[i]!).labels < 0)) && Kdd c (c.series[i]!))
theorem Kxz : ∀ l : List Ser, ordS l = true ↔ ∀ i, i + 1 < l.length → cmpL (l[i]!).labels (l[i + 1]!).labels < 0
 | [] => by simp [ordS]
 | [_] => by simp [ordS]
 | a :: b :: l => by
  rw [ordS, Bool.and_eq_true, decide_eq_true_eq, Kxz (b :: l)]; constructor
  ·rintro ⟨h1, h2⟩ i hi
   cases i with
   | zero => simpa using h1
   | succ i => simpa using h2 i (by simpa using hi)
  ·intro h; refine ⟨by simpa using h 0 (by simp), fun i hi => ?_⟩; simpa using h (i + 1) (by simpa using hi)
theorem Kpt (c : Cont) : fitB c = true ↔ (0 ≤ c.res ∧ c.res < 3 ∧ 0 ≤ c.frm ∧ c.frm < c.to_ ∧ c.to_ ≤ 1125899906842625) ∧ ∀ i, i < c.series.length → okAt c i = true := by
 rw [Kez, Kxz]; constructor
 ·rintro ⟨h1, h2, h3, h4, h5, h6, h7⟩; refine ⟨⟨h1, h2, h3, h4, h5⟩, fun i hi => ?_⟩; have hm := h6 c.series[i]! (by rw [getElem!_pos _ i hi]; exact List.getElem_mem hi); unfold okAt; rw [hm.1, hm.2, Bool.true_and, Bool.and_true, Bool.or_eq_true, decide_eq_true_eq, decide_eq_true_eq]
  cases i with
  | zero => exact .inl rfl
  | succ i => exact .inr (h7 i hi)
 ·rintro ⟨⟨h1, h2, h3, h4, h5⟩, h6⟩; refine ⟨h1, h2, h3, h4, h5, fun s hs => ?_, fun i hi => ?_⟩
  ·obtain ⟨i, hi, rfl⟩ := List.getElem_of_mem hs; have := h6 i hi; unfold okAt at this; rw [Bool.and_eq_true, Bool.and_eq_true, getElem!_pos _ i hi] at this; exact ⟨this.1, this.2.2⟩
  ·have := h6 (i + 1) hi; unfold okAt at this; rw [Bool.and_eq_true, Bool.and_eq_true, Bool.or_eq_true, decide_eq_true_eq, decide_eq_true_eq] at this; rcases this.2.1 with h | h
   ·omega
   ·exact h
theorem Qdq (c : Cont) (hd : Hd) (w : World) (hS : Sers w hd.A hd.n c.series) (hz : ∀ s ∈ c.series, SerSz s) (hn : hd.n ≤ 1099511627776) :
  Calls Tryz.prog 38 #[contV c.res c.frm c.to_ hd] w fun e w' => e = .returned (.bool (fitB c)) ∧ Below w.heap.size w w' := by
 have hlen : c.series.length = hd.n := hS.len; obtain ⟨r, hr⟩ : ∃ r, c.res = r := ⟨_, rfl⟩; obtain ⟨f, hf⟩ : ∃ f, c.frm = f := ⟨_, rfl⟩; obtain ⟨t, ht⟩ : ∃ t, c.to_ = t := ⟨_, rfl⟩; obtain ⟨R, hR⟩ : ∃ R, fitB c = R := ⟨_, rfl⟩; have hat := Kpt c; have hfs := fun (s : Ser) (h : Hd3) (w : World) (hs : SerAt w h s) (hz : SerSz s) => Kum c hd s h w hs hz.n hz.m hz.b
 unfold contV at hfs; rw [hR, hr, hf, ht, hlen] at hat; rw [hR, hr, hf, ht]; rw [hr, hf, ht] at hfs; obtain ⟨A, hA⟩ : ∃ A, hd.A = A := ⟨_, rfl⟩; obtain ⟨n, hn'⟩ : ∃ n, hd.n = n := ⟨_, rfl⟩; obtain ⟨cc, hcc⟩ : ∃ cc, hd.c = cc := ⟨_, rfl⟩; unfold contV; rw [hA, hn', hcc] at hfs; rw [hA, hn'] at hS; rw [hn'] at hat hn hlen; rw [hA, hn', hcc]; have HFS := Jh hfs; have HAT := Jh hat; have HS := Jh hS; have HZ := Jh hz; obtain ⟨q, hq⟩ : ∃ q, w.heap.size = q := ⟨_, rfl⟩; have hb1 : Below q w (w.alloc (.cells #[.int .i64 r, .int .i64 f, .int .i64 t, .slice A n cc] 28)) := (Below.refl _ _).alloc (by omega) _; have hk1 : Blk (w.alloc (.cells #[.int .i64 r, .int .i64 f, .int .i64 t, .slice A n cc] 28)) q 28 #[.int .i64 r, .int .i64 f, .int .i64 t, .slice A n cc] := Blk.newAt hq.symm; clear hfs hat hS hz hA hn' hcc hr hf ht hR; go_enter Tryz.func38, Tryz.ntmps38
 go_upto_region 1 with fail
 obtain ⟨w1, hw1⟩ : ∃ w1, w.alloc (.cells #[.int .i64 r, .int .i64 f, .int .i64 t, .slice A n cc] 28) = w1 := ⟨_, rfl⟩; rw [hw1] at hb1 hk1; rw [hw1]
 try rw [hq]
 have HQ := Jh hq; have HB := Jh hb1; have HK := Jh hk1; have hqw : q < w1.heap.size := hk1.lt; have k0 : w1.cell? ⟨q, 0, none⟩ = some (.int .i64 r) := hk1.cell 0; have k1 : w1.cell? ⟨q, 1, none⟩ = some (.int .i64 f) := hk1.cell 1; have k2 : w1.cell? ⟨q, 2, none⟩ = some (.int .i64 t) := hk1.cell 2; have k3 : w1.cell? ⟨q, 3, none⟩ = some (.slice A n cc) := hk1.cell 3; clear hw1 hq hb1 hk1
 have no : ∀ (h : ¬ (0 ≤ r ∧ r < 3 ∧ 0 ≤ f ∧ f < t ∧ t ≤ 1125899906842625)), R = false := fun h => by
  rw [Bool.eq_false_iff]; exact fun hR => h (HAT.out.1 hR).1
 have NO := Jh no; clear no
 by_cases h1 : r < 0
 ·have hre := NO.out (by omega); have e1 : decide (r < 0) = true := decide_eq_true h1; go_wp2_with fail
  go_ret
  try rw [hre]
  exact ⟨rfl, by rw [HQ.out]; exact HB.out⟩
 have e1 : decide (r < 0) = false := decide_eq_false h1
 by_cases h2 : 3 ≤ r
 ·have hre := NO.out (by omega); have e2 : decide (3 ≤ r) = true := decide_eq_true h2; go_wp2_with fail
  go_ret
  try rw [hre]
  exact ⟨rfl, by rw [HQ.out]; exact HB.out⟩
 have e2 : decide (3 ≤ r) = false := decide_eq_false h2
 by_cases h3 : f < 0
 ·have hre := NO.out (by omega); have e3 : decide (f < 0) = true := decide_eq_true h3; go_wp2_with fail
  go_ret
  try rw [hre]
  exact ⟨rfl, by rw [HQ.out]; exact HB.out⟩
 have e3 : decide (f < 0) = false := decide_eq_false h3
 by_cases h4 : t ≤ f
 ·have hre := NO.out (by omega); have e4 : decide (t ≤ f) = true := decide_eq_true h4; go_wp2_with fail
  go_ret
  try rw [hre]
  exact ⟨rfl, by rw [HQ.out]; exact HB.out⟩
 have e4 : decide (t ≤ f) = false := decide_eq_false h4
 by_cases h5 : 1125899906842625 < t
 ·have hre := NO.out (by omega); have e5 : decide (1125899906842625 < t) = true := decide_eq_true h5; go_wp2_with fail
  go_ret
  try rw [hre]
  exact ⟨rfl, by rw [HQ.out]; exact HB.out⟩
 have e5 : decide (1125899906842625 < t) = false := decide_eq_false h5
 have hat2 : R = true ↔ ∀ i, i < n → okAt c i = true := by
  rw [HAT.out]; exact ⟨fun h => h.2, fun h => ⟨by omega, h⟩⟩
 have HA2 := Jh hat2; clear hat2; go_wp2_with fail
 go_loopg [33] n (fun g s33 wr => ∃ i : Nat, i + g = n ∧ s33 = .int .i64 (i : Int) ∧ Below (q + 1) w1 wr ∧ ∀ j, j < i → okAt c j = true)
 case atStart => exact ⟨0, by omega, rfl, Below.refl _ _, fun j hj => by omega⟩
 case round =>
  obtain ⟨i, hi, rfl, hbr, hall⟩ := hrel; have HALL := Jh hall; have HBR := Jh hbr; clear hall; have kb := HK.out.below hbr (by omega); have k0 : wr.cell? ⟨q, 0, none⟩ = some (.int .i64 r) := kb.cell 0; have k1 : wr.cell? ⟨q, 1, none⟩ = some (.int .i64 f) := kb.cell 1; have k2 : wr.cell? ⟨q, 2, none⟩ = some (.int .i64 t) := kb.cell 2; have k3 : wr.cell? ⟨q, 3, none⟩ = some (.slice A n cc) := kb.cell 3; have hqr := kb.lt; have HBW : Hid (Below q w wr) := Jh (HB.out.trans (hbr.mono (by omega)))
  cases gk with
  | zero =>
   have el : decide (i < n) = false := by rw [decide_eq_false_iff_not]; omega
   have hre : R = true := HA2.out.2 (fun j hj => HALL.out j (by omega)); go_wp2_with fail
   go_ret
   try rw [hre]
   exact ⟨rfl, by rw [HQ.out]; exact HBW.out⟩
  | succ gk =>
   have el : decide (i < n) = true := by rw [decide_eq_true_eq]; omega
   have hSr := HS.out.below (HQ.out.symm ▸ HBW.out); obtain ⟨bb, off, x, rfl, hbb, c0, c1, c2, hx⟩ := hSr.at_ (i := i) (by omega); have hil : i < c.series.length := by omega
   have hzi := HZ.out (c.series[i]!) (by rw [getElem!_pos _ i hil]; exact List.getElem_mem hil); go_upto_region 6 with fail
   have hr4 : Blk (wr.alloc (.cells #[.slice x.l.A x.l.n x.l.c, .slice x.s.A x.s.n x.s.c, .slice x.w.A x.w.n x.w.c] 58)) wr.heap.size 58 #[.slice x.l.A x.l.n x.l.c, .slice x.s.A x.s.n x.s.c, .slice x.w.A x.w.n x.w.c] := Blk.new _ _ _; have hb4 : Below wr.heap.size wr (wr.alloc (.cells #[.slice x.l.A x.l.n x.l.c, .slice x.s.A x.s.n x.s.c, .slice x.w.A x.w.n x.w.c] 58)) := (Below.refl _ _).alloc (Nat.le_refl _) _; obtain ⟨w4, hw4⟩ : ∃ w4, wr.alloc (.cells #[.slice x.l.A x.l.n x.l.c, .slice x.s.A x.s.n x.s.c, .slice x.w.A x.w.n x.w.c] 58) = w4 := ⟨_, rfl⟩; obtain ⟨p, hp⟩ : ∃ p, wr.heap.size = p := ⟨_, rfl⟩; rw [hw4] at hr4 hb4; rw [hw4]; rw [hp] at hr4
   try rw [hp]
   have HX4 := Jh (hx.below hb4); have kb4 := kb.below hb4 kb.lt; have k0 : w4.cell? ⟨q, 0, none⟩ = some (.int .i64 r) := kb4.cell 0; have k1 : w4.cell? ⟨q, 1, none⟩ = some (.int .i64 f) := kb4.cell 1; have k2 : w4.cell? ⟨q, 2, none⟩ = some (.int .i64 t) := kb4.cell 2; have k3 : w4.cell? ⟨q, 3, none⟩ = some (.slice (some ⟨bb, off, none⟩) n cc) := kb4.cell 3; have r0 : w4.cell? ⟨p, 0, none⟩ = some (.slice x.l.A x.l.n x.l.c) := hr4.cell 0; have r1 : w4.cell? ⟨p, 1, none⟩ = some (.slice x.s.A x.s.n x.s.c) := hr4.cell 1; have r2 : w4.cell? ⟨p, 2, none⟩ = some (.slice x.w.A x.w.n x.w.c) := hr4.cell 2; have hq4 := kb4.lt; have hp4 := hr4.lt; have hbb4 : bb < w4.heap.size := by have := hb4.size; omega
   have HSr4 := Jh (hSr.below hb4); have HBR4 : Hid (Below (q + 1) w1 w4) := Jh (HBR.out.trans (hb4.mono (by omega))); have HBW4 : Hid (Below q w w4) := Jh (HBW.out.trans (hb4.mono (by omega))); have ha := HA2.out
   have bad : okAt c i = false → R = false := fun h => by
    rw [Bool.eq_false_iff]; intro hR; have := ha.1 hR i (by omega); rw [h] at this; cases this
   have BAD := Jh bad; have hxl : (c.series[i]!).labels.length = x.l.n := hx.l.len; have hzl := hzi.l; obtain ⟨sr, hsr⟩ : ∃ sr, c.series[i]! = sr := ⟨_, rfl⟩; have hoki : okAt c i = (Kcl sr.labels && ((decide (i = 0) || decide (cmpL (c.series[i - 1]!).labels sr.labels < 0)) && Kdd c sr)) := by unfold okAt; rw [hsr]
   rw [hsr] at HX4 hzi hxl hzl; obtain ⟨vl, hvl⟩ : ∃ b, Kcl sr.labels = b := ⟨_, rfl⟩; obtain ⟨fs, hfs⟩ : ∃ b, Kdd c sr = b := ⟨_, rfl⟩; rw [hvl, hfs] at hoki; have HOK := Jh hoki; have HV := Jh (fun y : Later w4 => Khr sr.labels x.l.A x.l.n x.l.c y.w vl hvl (HX4.out.below y.h).l HX4.out.lc (by omega) (fun z hz => by have := hzi.z z hz; omega)); have HF := Jh (fun y : Later w4 => HFS.out sr x y.w (HX4.out.below y.h) hzi); rw [hfs] at HF
   have HLA : Hid (∀ j, i = j + 1 → ∃ y : Hd3, w4.cell? ⟨bb, off + j * 3, none⟩ = some (.slice y.l.A y.l.n y.l.c) ∧ SerAt w4 y (c.series[j]!)) := Jh (fun j hj => by
    obtain ⟨b2, off2, y, e, _, d0, _, _, hy⟩ := HSr4.out.at_ (i := j) (by omega); injection e with e; injection e with e1 e2; subst e1 e2
    exact ⟨y, d0, hy⟩)
   have HBR9 : Hid (∀ w5, Below w4.heap.size w4 w5 → Below (q + 1) w1 w5 ∧ Below q w w5) := Jh (fun w5 hb5 => ⟨HBR4.out.trans (hb5.mono (by omega)), HBW4.out.trans (hb5.mono (by omega))⟩); clear hr4 hb4 hw4 hp hx kb4 kb ha bad hvl hfs hoki hSr c0 c1 c2 hsr
   cases vl with
   | false =>
    have hre : R = false := BAD.out (by rw [HOK.out]; rfl); have HRE := Jh hre; clear hre; refine Kad (by kernel_rfl) (by kernel_rfl) ?_
    repeat (go_big_quiet_step ((first | (go_at_call 105; exact Kal _ (HV.out _)) | (go_at_call 60; exact Kal _ (HC.out _)) | (go_at_call 106; exact Kal _ (HF.out _)))))
    refine wpQuiet_nil ?_; rintro w5 ⟨⟨_, hb5⟩, rfl⟩; go_wp2_with fail
    go_ret
    try rw [HRE.out]
    exact ⟨rfl, by rw [HQ.out]; exact (HBR9.out _ hb5).2⟩
   | true =>
    by_cases hi0 : i = 0
    ·subst hi0
     cases fs with
     | false =>
      have hre : R = false := BAD.out (by rw [HOK.out]; rfl); have HRE := Jh hre; clear hre; refine Kad (by kernel_rfl) (by kernel_rfl) ?_
      repeat (go_big_quiet_step ((first | (go_at_call 105; exact Kal _ (HV.out _)) | (go_at_call 60; exact Kal _ (HC.out _)) | (go_at_call 106; exact Kal _ (HF.out _)))))
      refine wpQuiet_nil ?_; rintro w5 ⟨⟨_, hb5⟩, rfl⟩; go_wp2_with fail
      go_ret
      try rw [HRE.out]
      exact ⟨rfl, by rw [HQ.out]; exact (HBR9.out _ hb5).2⟩
     | true =>
      have hoi : okAt c 0 = true := by rw [HOK.out]; rfl
      have HOI := Jh hoi; clear hoi; refine Kad (by kernel_rfl) (by kernel_rfl) ?_
      repeat (go_big_quiet_step ((first | (go_at_call 105; exact Kal _ (HV.out _)) | (go_at_call 60; exact Kal _ (HC.out _)) | (go_at_call 106; exact Kal _ (HF.out _)))))
      refine wpQuiet_nil ?_; rintro w5 ⟨⟨_, hb5⟩, rfl⟩; go_wp2_with fail
      go_roundg gk
      case measure => omega
      case rel =>
       refine ⟨0 + 1, by omega, by go_num, (HBR9.out _ hb5).1, fun k hk => ?_⟩
       by_cases e : k = 0
       ·rw [e]; exact HOI.out
       ·exact HALL.out k (by omega)
    ·obtain ⟨j, rfl⟩ : ∃ j, i = j + 1 := ⟨i - 1, by omega⟩; obtain ⟨y, d0, hy⟩ := HLA.out j rfl; have hj1 : ((j + 1 : Nat) : Int) - 1 = (j : Int) := by omega
     have hj2 : ((j : Int) + 1) - 1 = (j : Int) := by omega
     obtain ⟨cm, hcm⟩ : ∃ b, cmpL (c.series[j]!).labels sr.labels = b := ⟨_, rfl⟩; have hok2 := HOK.out; rw [show j + 1 - 1 = j from rfl, hcm, show decide (j + 1 = 0) = false from rfl] at hok2; have HOK2 := Jh hok2; have hyl : (c.series[j]!).labels.length = y.l.n := hy.l.len; have hzj := (HZ.out (c.series[j]!) (by rw [getElem!_pos _ j (by omega)]; exact List.getElem_mem _)).l; have HC := Jh (fun z : Later w4 => Kpm (c.series[j]!).labels sr.labels y.l.A x.l.A y.l.n x.l.n y.l.c x.l.c z.w cm hcm (hy.below z.h).l (HX4.out.below z.h).l (by omega) (by omega)); clear hok2 hcm hy
     by_cases hc0 : 0 ≤ cm
     ·have e6 : decide (0 ≤ cm) = true := decide_eq_true hc0; have hre : R = false := BAD.out (by rw [HOK2.out, decide_eq_false (by omega)]; rfl); have HRE := Jh hre; clear hre; refine Kad (by kernel_rfl) (by kernel_rfl) ?_
      repeat (go_big_quiet_step ((first | (go_at_call 105; exact Kal _ (HV.out _)) | (go_at_call 60; exact Kal _ (HC.out _)) | (go_at_call 106; exact Kal _ (HF.out _)))))
      refine wpQuiet_nil ?_; rintro w5 ⟨⟨_, hb5⟩, rfl⟩; go_wp2_with fail
      go_ret
      try rw [HRE.out]
      exact ⟨rfl, by rw [HQ.out]; exact (HBR9.out _ hb5).2⟩
     ·have e6 : decide (0 ≤ cm) = false := decide_eq_false hc0; have hc1 : decide (cm < 0) = true := decide_eq_true (by omega); have HC1 := Jh hc1; clear hc1
      cases fs with
      | false =>
       have hre : R = false := BAD.out (by rw [HOK2.out, HC1.out]; rfl); have HRE := Jh hre; clear hre; refine Kad (by kernel_rfl) (by kernel_rfl) ?_
       repeat (go_big_quiet_step ((first | (go_at_call 105; exact Kal _ (HV.out _)) | (go_at_call 60; exact Kal _ (HC.out _)) | (go_at_call 106; exact Kal _ (HF.out _)))))
       refine wpQuiet_nil ?_; rintro w5 ⟨⟨_, hb5⟩, rfl⟩; go_wp2_with fail
       go_ret
       try rw [HRE.out]
       exact ⟨rfl, by rw [HQ.out]; exact (HBR9.out _ hb5).2⟩
      | true =>
       have hoi : okAt c (j + 1) = true := by rw [HOK2.out, HC1.out]; rfl
       have HOI := Jh hoi; clear hoi; refine Kad (by kernel_rfl) (by kernel_rfl) ?_
       repeat (go_big_quiet_step ((first | (go_at_call 105; exact Kal _ (HV.out _)) | (go_at_call 60; exact Kal _ (HC.out _)) | (go_at_call 106; exact Kal _ (HF.out _)))))
       refine wpQuiet_nil ?_; rintro w5 ⟨⟨_, hb5⟩, rfl⟩; go_wp2_with fail
       go_roundg gk
       case measure => omega
       case rel =>
        refine ⟨(j + 1) + 1, by omega, by go_num, (HBR9.out _ hb5).1, fun k hk => ?_⟩
        by_cases e : k = (j + 1)
        ·rw [e]; exact HOI.out
        ·exact HALL.out k (by omega)
end
section
open Go.RowKit Go.Shelf
attribute [local go_sem] Oper.semAt_some
abbrev Pc (len : Nat) := { k : Nat // k * 120 < len }
def pcV (A : Option Addr) (len : Nat) (k : Nat) : Value := .slice (A.map (·.add (k * 120 * 2))) (Nat.min 120 (len - k * 120)) (Nat.min 120 (len - k * 120))
def KpC (Bs Bn : Nat) (W W' : World) : Prop := W'.heap[Bs]? = W.heap[Bs]? ∧ W'.heap[Bn]? = W.heap[Bn]?
theorem KpC.trans {Bs Bn : Nat} {A B C : World} (h : KpC Bs Bn A B) (k : KpC Bs Bn B C) : KpC Bs Bn A C := ⟨k.1.trans h.1, k.2.trans h.2⟩
theorem KpC.put {Bs Bn B : Nat} (hs : Bs < B) (hn : Bn < B) (W : World) (l : Nat) (o' : Obj) (hl : B ≤ l) : KpC Bs Bn W (W.putObj l o') := ⟨World.putObj_heap_other (by omega), World.putObj_heap_other (by omega)⟩
theorem Kvv {α : Type} {w : World} {B sz n : Nat} {enc : α → List Value} {A : Option Addr} {xs : List α} (h : Elems w B sz enc A n xs) {k : Nat} (hk : k < n) (m : Nat) (hm : m ≤ n - k) :
  Elems w B sz enc (A.map (·.add (k * sz))) m ((xs.drop k).take m) := by
 have h2 := h.cut (k := k) (cap := n) (by omega) (Nat.le_refl _); rw [if_neg (by omega)] at h2; refine ⟨by rw [List.length_take, List.length_drop, h.len]; omega, fun hn => ?_⟩; obtain ⟨b, off, e, hb, hc⟩ := h2.2 (by omega); refine ⟨b, off, e, hb, fun i x hx j v hv => hc i x ?_ j v hv⟩; rw [List.getElem?_take] at hx
 split at hx
 ·exact hx
 ·cases hx
theorem Qby (F : Fence) (n : Nat) (h7 : F.fn 170) (hro : F.round = none) (hn : 1 ≤ n) (l Bs Bn : Nat) (A : Option Addr) (len cap : Nat) (hcap : len ≤ cap) (hreach : len ≤ 140737488351232) (hA : 0 < len → ∃ b off, A = some ⟨b, off, none⟩) (J Jx : List (Pc len) → World → Prop) (hJd : ∀ pre W, J pre W → J pre W.drew)
  (hY : ∀ pre x W, J pre W → pre.length < (len + 119) / 120 → YieldAt F (n - 1) Tryz.prog l #[pcV A len x.1] W fun e W' =>
   (e = .returned (.bool true) ∧ J (pre ++ [x]) W' ∧ KpC Bs Bn W W') ∨ (e = .returned (.bool false) ∧ Jx (pre ++ [x]) W'))
  (W : World) (hBs : W.cell? ⟨Bs, 0, none⟩ = some (.slice A len cap)) (hBn : W.cell? ⟨Bn, 0, none⟩ = some (.int .i64 120)) (h0 : J [] W) :
  CallsIn F n Tryz.prog 170 #[.func (.yield l) #[] #[], .pointer (some ⟨Bs, 0, none⟩), .pointer (some ⟨Bn, 0, none⟩)] W fun e W' => (∃ v, e = .returned v) ∧
   ((∃ ys : List (Pc len), ys.map (·.1) = List.range ((len + 119) / 120) ∧ J ys W') ∨ (∃ pre : List (Pc len), True ∧ Jx pre W')) := by
 refine callsIn_of_wp Tryz.func170 rfl h7 ?_ hro; simp only [Tryz.ntmps170, List.size_toArray, List.length_cons, List.length_nil, Nat.reduceAdd, Nat.reduceSub, Array.replicate_succ, Array.replicate_zero, List.push_toArray, List.append_toArray, List.nil_append, List.cons_append]
 gi_wp2
 gi_loopw [4] (fun i wr => ∃ (k : Nat) (pre : List (Pc len)), i = .int .i64 ((k * 120 : Nat) : Int) ∧ k ≤ (len + 119) / 120 ∧ pre.map (·.1) = List.range k ∧ J pre wr ∧ KpC Bs Bn W wr)
  (fun i _ => len + 120 - (intOf i).toNat)
 case atStart => exact ⟨0, [], rfl, Nat.zero_le _, rfl, h0, rfl, rfl⟩
 case round =>
  obtain ⟨k, pre, rfl, hk, hpre, hJs, hnx⟩ := hrel; have hlen : pre.length = k := by rw [← List.length_map (f := fun x : Pc len => x.1), hpre, List.length_range]
  have cs : wr.cell? ⟨Bs, 0, none⟩ = some (.slice A len cap) := (World.cell?_of_block (a := ⟨Bs, 0, none⟩) hnx.1).trans hBs; have cn : wr.cell? ⟨Bn, 0, none⟩ = some (.int .i64 120) := (World.cell?_of_block (a := ⟨Bn, 0, none⟩) hnx.2).trans hBn
  by_cases hlt : k * 120 < len
  ·obtain ⟨b, off, rfl⟩ := hA (by omega); obtain ⟨fn, tmps, assign, body, hy, hR⟩ := hY pre ⟨k, hlt⟩ wr.drew (hJd _ _ hJs) (by omega); obtain ⟨i, hi⟩ : ∃ i, k * 120 = i := ⟨_, rfl⟩; obtain ⟨m, hm⟩ : ∃ m, Nat.min 120 (len - i) = m := ⟨_, rfl⟩
   have hpv : pcV (some ⟨b, off, none⟩) len k = .slice (some ⟨b, off + i * 2, none⟩) m m := by
    unfold pcV; rw [hi, hm]; simp [Addr.add]
   dsimp only at hy; rw [hpv] at hy; rw [hi] at hlt ⊢; have hmm : Nat.min 120 (len - i) = min 120 (len - i) := rfl; have hm1 : m ≤ 120 ∧ m ≤ len - i ∧ 0 < m := by omega
   have hmi : min (120 : Int) ((len - i : Nat) : Int) = (m : Int) := by omega
   have hmi2 : min (120 : Int) ((len : Int) - (i : Int)) = (m : Int) := by omega
   have hci : cap ≠ i := by omega
   have el : decide ((i : Int) < (len : Int)) = true := by rw [decide_eq_true_eq]; omega
   clear hmm hm hpv
   gi_wp2
   gi_region
   all_goals (
    gi_wp2
    refine hR.mono ?_; rintro e W3 (⟨rfl, hJ3, hk3⟩ | ⟨rfl, hJx3⟩)
    ·have cn3 : W3.cell? ⟨Bn, 0, none⟩ = some (.int .i64 120) := (World.cell?_of_block (a := ⟨Bn, 0, none⟩) hk3.2).trans cn
     gi_wp2
     go_roundw
     case rel => exact ⟨k + 1, pre ++ [⟨k, by omega⟩], by rw [← hi]; simp; omega, by omega, by rw [List.map_append, hpre, List.range_succ]; rfl, hJ3, KpC.trans (B := wr.drew) hnx hk3⟩
     case measure => simp [intOf]; omega
    ·gi_wp2
     refine bodyPost_ret (results_none rfl _ _ _) rfl ?_
     exact ⟨⟨_, rfl⟩, .inr ⟨_, trivial, hJx3⟩⟩)
  ·have el : decide (((k * 120 : Nat) : Int) < (len : Int)) = false := by rw [decide_eq_false_iff_not]; omega
   obtain rfl : k = (len + 119) / 120 := by omega
   gi_wp2
   go_end0
   exact ⟨⟨_, rfl⟩, .inl ⟨pre, hpre, hJs⟩⟩
theorem Qey (F : Fence) (n : Nat) (h5 : F.fn 116) (hro : F.round = none) (A : Option Addr) (len cap : Nat) (w : World) :
  CallsIn F n Tryz.prog 116 #[.slice A len cap, .int .i64 120] w fun e w' => e = .returned (.func (.func 170) #[] #[.pointer (some ⟨w.heap.size, 0, none⟩), .pointer (some ⟨w.heap.size + 1, 0, none⟩)]) ∧ w' = (w.alloc (.cells #[.slice A len cap] 55)).alloc (.cells #[.int .i64 120] 3) := by
 have hmf : ∀ (fn : Fn) (first cap : Array Value) (w : World), (Instr.makeFunc fn first cap).run Tryz.prog w = .ok (.func fn first cap) w := fun _ _ _ _ => rfl
 refine callsIn_of_wp Tryz.func116 rfl h5 ?_ hro; simp only [Tryz.ntmps116, List.size_toArray, List.length_cons, List.length_nil, Nat.reduceAdd, Nat.reduceSub, Array.replicate_succ, Array.replicate_zero, List.push_toArray, List.append_toArray, List.nil_append, List.cons_append]
 gi_wp2
 go_ret
 exact ⟨rfl, rfl⟩
theorem Kzn (w : World) (r : Option Nat) : w.grownBy w.drew r := ⟨rfl, rfl, rfl, Nat.le_refl _, fun _ _ _ => rfl⟩
theorem Kwy (F : Fence) (n : Nat) (h7 : F.fn 170) (hro : F.round = none) (hn : 1 ≤ n) (Bs Bn : Nat) (A : Option Addr) (len cap : Nat) (hcap : len ≤ cap) (hreach : len ≤ 140737488351232) (hA : 0 < len → ∃ b off, A = some ⟨b, off, none⟩) (w : World) (hbs : Bs < w.heap.size) (hbn : Bn < w.heap.size)
  (hc : w.cell? ⟨Bs, 0, none⟩ = some (.slice A len cap)) (hc2 : w.cell? ⟨Bn, 0, none⟩ = some (.int .i64 120)) :
  SeqStopsK F n Tryz.prog 170 #[.pointer (some ⟨Bs, 0, none⟩), .pointer (some ⟨Bn, 0, none⟩)] (fun x : Pc len => #[pcV A len x.1]) (KpC Bs Bn) (fun ys => ys.map (·.1) = List.range ((len + 119) / 120)) (fun _ => True) ((len + 119) / 120) w := fun l J Jx W hW hJ _ hY h0 =>
 Qby F n h7 hro hn l Bs Bn A len cap hcap hreach hA J Jx (fun pre W h => hJ pre W W.drew none h (Kzn W none) (fun r e => by cases e)) hY W ((hW.cell (p := ⟨Bs, 0, none⟩) (by simp; omega)).trans hc) ((hW.cell (p := ⟨Bn, 0, none⟩) (by simp; omega)).trans hc2) h0
end
section
open Go.RowKit Go.Shelf
open Lib renaming hid → Jh
attribute [local go_sem] Oper.semAt_some
def pcL (l : List Smp) (k : Nat) : List Smp := (l.drop (k * 120)).take 120
theorem Kgk : ∀ (f : Nat) (l : List Smp), l.length ≤ f → Kbs f l = (List.range ((l.length + 119) / 120)).map (pcL l)
 | 0, l, h => by
  have h0 : l = [] := List.eq_nil_of_length_eq_zero (by omega); subst h0; rfl
 | _ + 1, [], _ => rfl
 | f + 1, x :: l, h => by
  have hl : ((x :: l).drop 120).length = (x :: l).length - 120 := List.length_drop; have e : ((x :: l).length + 119) / 120 = (((x :: l).drop 120).length + 119) / 120 + 1 := by rw [hl, List.length_cons]; omega
  rw [Kbs, Kgk f _ (by rw [hl]; rw [List.length_cons] at h ⊢; omega), e, List.range_succ_eq_map, List.map_cons, List.map_map]; congr 1; apply List.map_congr_left; intro k _; show pcL _ k = pcL _ (k + 1)
  unfold pcL; rw [List.drop_drop]; congr 2; omega
def serV (h : Hd3) : Value := .agg #[.slice h.l.A h.l.n h.l.c, .slice h.s.A h.s.n h.s.c, .slice h.w.A h.w.n h.w.c]
theorem Qcz : (Tryz.prog.info? 9).map (fun i => (i.zero, i.size, i.bytes)) = some (some (.string ⟨#[]⟩), 1, 16) := by kernel_rfl
theorem Qdu {w : World} {B C n sz : Nat} {T : TypeId} {v : Value} {xs : List Value} (h : w.ownsRow C T sz v n xs) (hB : B ≤ C) : w.ownsRow B T sz v n xs := by
 obtain ⟨h1, h2⟩ := h; refine ⟨h1, ?_⟩; rcases h2 with h2 | ⟨g, cap, cur, a, b, c⟩
 ·exact .inl h2
 ·exact .inr ⟨g, cap, cur, a, by omega, c⟩
theorem Kxa (s : Ser) (h : Hd3) (w : World) (hS : SerAt w h s) (hn : s.samples.length ≤ 1099511627776) (hm : s.windows.length ≤ 1099511627776) (hv : ∀ x ∈ s.samples, x.v < 2 ^ 64) (hb : ∀ x ∈ s.windows, Kaz x) (hT : DbTab w)
  (hf : ∀ p ∈ Kbs s.samples.length s.samples, (Kdj p).1 = Kcf p) (hg : (aggO s.windows).1 = aggT s.windows) :
  Calls Tryz.prog 44 #[serV h] w fun e w' => ∃ v, e = .returned v ∧ w'.ownsRow w.heap.size 9 1 v (Kak s).length ((Kak s).map txtV) ∧ Below w.heap.size w w' := by
 refine (callsIn_wide (n := 3)).1 ?_; unfold serV; obtain ⟨ib, hi, hz0, hz1, hz2⟩ := info_parts Qcz; refine callsIn_of_wp_marks Tryz.func44 rfl trivial ?_ rfl; simp only [Tryz.ntmps44, List.size_toArray, List.length_cons, List.length_nil, Nat.reduceAdd, Nat.reduceSub, Array.replicate_succ, Array.replicate_zero, List.push_toArray, List.append_toArray, List.nil_append, List.cons_append]
 gi_wp2_with (refine ⟨trivial, ?_⟩; gi_at_call 116; refine (Qey Fence.wide 2 trivial rfl _ _ _ _).mono ?_; rintro e w' ⟨rfl, rfl⟩)
 obtain ⟨q, hq⟩ : ∃ q, w.heap.size = q := ⟨_, rfl⟩; rw [hq]; have hB0 : Below q w (((w.alloc (.cells #[.slice h.l.A h.l.n h.l.c, .slice h.s.A h.s.n h.s.c, .slice h.w.A h.w.n h.w.c] 58)).alloc (.cells #[.slice none 0 0] 118)).alloc (.cells #[.slice h.s.A h.s.n h.s.c] 55)) := (((Below.refl _ _).alloc (by omega) _).alloc (by simp; omega) _).alloc (by simp; omega) _; have hB1 := hB0.alloc (by simp; omega) (.cells #[.int .i64 120] 3); have bS : Blk ((((w.alloc (.cells #[.slice h.l.A h.l.n h.l.c, .slice h.s.A h.s.n h.s.c, .slice h.w.A h.w.n h.w.c] 58)).alloc (.cells #[.slice none 0 0] 118)).alloc (.cells #[.slice h.s.A h.s.n h.s.c] 55)).alloc (.cells #[.int .i64 120] 3)) q 58 #[.slice h.l.A h.l.n h.l.c, .slice h.s.A h.s.n h.s.c, .slice h.w.A h.w.n h.w.c] := (((Blk.newAt hq.symm).alloc _).alloc _).alloc _
 have bO : Boxed ((((w.alloc (.cells #[.slice h.l.A h.l.n h.l.c, .slice h.s.A h.s.n h.s.c, .slice h.w.A h.w.n h.w.c] 58)).alloc (.cells #[.slice none 0 0] 118)).alloc (.cells #[.slice h.s.A h.s.n h.s.c] 55)).alloc (.cells #[.int .i64 120] 3)) (q + 1) 118 (.slice none 0 0) := by
  have := Boxed.new (w.alloc (.cells #[.slice h.l.A h.l.n h.l.c, .slice h.s.A h.s.n h.s.c, .slice h.w.A h.w.n h.w.c] 58)) 118 (.slice none 0 0); rw [World.size_alloc, hq] at this; exact (this.alloc _).alloc _
 have bA : Boxed ((((w.alloc (.cells #[.slice h.l.A h.l.n h.l.c, .slice h.s.A h.s.n h.s.c, .slice h.w.A h.w.n h.w.c] 58)).alloc (.cells #[.slice none 0 0] 118)).alloc (.cells #[.slice h.s.A h.s.n h.s.c] 55)).alloc (.cells #[.int .i64 120] 3)) (q + 2) 55 (.slice h.s.A h.s.n h.s.c) := by
  have := Boxed.new ((w.alloc (.cells #[.slice h.l.A h.l.n h.l.c, .slice h.s.A h.s.n h.s.c, .slice h.w.A h.w.n h.w.c] 58)).alloc (.cells #[.slice none 0 0] 118)) 55 (.slice h.s.A h.s.n h.s.c); rw [World.size_alloc, World.size_alloc, hq] at this; exact this.alloc _
 have bN : Boxed ((((w.alloc (.cells #[.slice h.l.A h.l.n h.l.c, .slice h.s.A h.s.n h.s.c, .slice h.w.A h.w.n h.w.c] 58)).alloc (.cells #[.slice none 0 0] 118)).alloc (.cells #[.slice h.s.A h.s.n h.s.c] 55)).alloc (.cells #[.int .i64 120] 3)) (q + 3) 3 (.int .i64 120) := by
  have := Boxed.new (((w.alloc (.cells #[.slice h.l.A h.l.n h.l.c, .slice h.s.A h.s.n h.s.c, .slice h.w.A h.w.n h.w.c] 58)).alloc (.cells #[.slice none 0 0] 118)).alloc (.cells #[.slice h.s.A h.s.n h.s.c] 55)) 3 (.int .i64 120); rw [World.size_alloc, World.size_alloc, World.size_alloc, hq] at this; exact this
 obtain ⟨W0, hW0⟩ : ∃ W0, (((w.alloc (.cells #[.slice h.l.A h.l.n h.l.c, .slice h.s.A h.s.n h.s.c, .slice h.w.A h.w.n h.w.c] 58)).alloc (.cells #[.slice none 0 0] 118)).alloc (.cells #[.slice h.s.A h.s.n h.s.c] 55)).alloc (.cells #[.int .i64 120] 3) = W0 := ⟨_, rfl⟩; have hsz : W0.heap.size = q + 4 := by rw [← hW0]; simp; omega
 rw [hW0] at hB1 bS bO bA bN ⊢; clear hW0 hB0; have hsn : s.samples.length = h.s.n := hS.s.len; obtain ⟨N, hN⟩ : ∃ N, (h.s.n + 119) / 120 = N := ⟨_, rfl⟩; rw [Kgk _ _ (Nat.le_refl _), hsn, hN] at hf; have hf2 : ∀ k, k < N → (Kdj (pcL s.samples k)).1 = Kcf (pcL s.samples k) := fun k hk => hf _ (List.mem_map.2 ⟨k, List.mem_range.2 hk, rfl⟩)
 have hst : ∀ W, Below q w W → ∀ x : Pc h.s.n, ∃ A n, pcV h.s.A h.s.n x.1 = .slice A n n ∧ Elems W W.heap.size 2 Kbg A n (pcL s.samples x.1) ∧ n ≤ 120 := fun W hW x => by
  have hx := x.2; have e := ((hS.s.below (hq.symm ▸ hW)).more (hq ▸ hW).size); refine ⟨_, _, rfl, ?_, Nat.min_le_left _ _⟩; have := Kvv e (k := x.1 * 120) (by omega) (Nat.min 120 (h.s.n - x.1 * 120)) (Nat.min_le_right _ _); unfold pcL
  have e2 : (s.samples.drop (x.1 * 120)).take 120 = (s.samples.drop (x.1 * 120)).take (Nat.min 120 (h.s.n - x.1 * 120)) := by
   rw [List.take_eq_take_iff, List.length_drop, hsn]; show min 120 _ = min (min 120 _) _
   omega
  rw [e2]; exact this
 have hvv : ∀ k, ∀ x ∈ pcL s.samples k, x.v < 2 ^ 64 := fun k x hx => hv x (List.mem_of_mem_drop (List.mem_of_mem_take hx))
 have st := Kwy Fence.wide 2 trivial rfl (by omega) (q + 2) (q + 3) h.s.A h.s.n h.s.c hS.sc (by omega) (fun hp => by obtain ⟨b, off, e, _⟩ := hS.s.2 hp; exact ⟨b, off, e⟩) W0 (by omega) (by omega) bA.cell bN.cell; obtain ⟨I, hI⟩ : ∃ I : List (Pc h.s.n) → World → Prop, I = fun pre W => (∃ v, Boxed W (q + 1) 118 v ∧ W.ownsRow (q + 1) 9 1 v pre.length (pre.map fun x => txtV (Kcf (pcL s.samples x.1))) ∧ True) ∧ ((Boxed W (q + 2) 55 (.slice h.s.A h.s.n h.s.c) ∧ Boxed W (q + 3) 3 (.int .i64 120)) ∧ Below (q + 1) W0 W) := ⟨_, rfl⟩
 have own1 := OwnFrom.and (Own.from (holdsRow_own (q + 1) (q + 1) 118 9 1 (fun (pre : List (Pc h.s.n)) => pre.length) (fun (pre : List (Pc h.s.n)) => pre.map fun x => txtV (Kcf (pcL s.samples x.1))) (fun _ _ => True)) W0.heap.size) (OwnFrom.and (OwnFrom.and (Own.from (boxed_own (β := List (Pc h.s.n)) (q + 2) 55 (fun _ => .slice h.s.A h.s.n h.s.c)) W0.heap.size) (Own.from (boxed_own (β := List (Pc h.s.n)) (q + 3) 3 (fun _ => .int .i64 120)) W0.heap.size)) (ownFrom_below (β := List (Pc h.s.n)) (B := W0.heap.size) (n₀ := q + 1) (w₀ := W0) (by omega) (by omega)))
 have own : OwnFrom W0.heap.size I := by
  rw [hI]; exact own1
 have h0 : I [] W0 := by
  rw [hI]; exact ⟨⟨_, bO, World.ownsRow_nil _ _ _ _, trivial⟩, ⟨bA, bN⟩, Below.refl _ _⟩
 refine wpIn_rangeFunc_ownG rfl (by omega) (gf := 170) (lb := #[.pointer (some ⟨q + 2, 0, none⟩), .pointer (some ⟨q + 3, 0, none⟩)]) rfl trivial (enters_of Tryz.func170 (by kernel_rfl) rfl)
  st (fun h k => KpC.trans h k) (fun W l o o2 hl _ _ _ => KpC.put (B := W0.heap.size) (by omega) (by omega) W l o2 hl) (Below.refl _ _) (fun _ => rfl) I
  (fun _ _ _ => False) own (fun _ _ _ _ _ hs _ _ => hs) h0
  (fun x => { tmps := #[.agg #[.slice h.l.A h.l.n h.l.c, .slice h.s.A h.s.n h.s.c, .slice h.w.A h.w.n h.w.c], .pointer (some ⟨q, 0, none⟩), .slice none 0 0, .pointer (some ⟨q + 1, 0, none⟩), pcV h.s.A h.s.n x.1, undef, undef, undef, undef, .pointer (some ⟨q, 1, none⟩), .slice h.s.A h.s.n h.s.c, .func (.func 170) #[] #[.pointer (some ⟨q + 1 + 1, 0, none⟩), .pointer (some ⟨q + 1 + 1 + 1, 0, none⟩)], pcV h.s.A h.s.n x.1, undef, undef, undef, undef, undef, undef, undef, undef, undef, undef, undef, undef, undef, undef, undef, undef, undef, undef, undef, undef, undef, undef, undef, undef], defers := [] }) ?assign ?body ?done ?stop
 case assign =>
  intro l x W K hK
  gi_wp2
  exact hK
 case body =>
  intro l pre x W hIW hlt; rw [hI] at hIW; obtain ⟨⟨v, hv9, hrow, _⟩, ⟨hba, hbn⟩, hBW0⟩ := hIW; have hBW : Below q w W := hB1.trans (hBW0.mono (by omega)); obtain ⟨A, n, hpv, hE, hn9⟩ := hst W hBW x; rw [hpv]; have hxN : x.1 < N := by have := x.2; omega
  obtain ⟨T, e9, hco⟩ : ∃ T e9, Kdj (pcL s.samples x.1) = (T, e9) := ⟨_, _, rfl⟩; have hTT := hf2 x.1 hxN; have HC := Kjj (pcL s.samples x.1) A n n W hE (by omega) (hvv _) (hT.below (hq.symm ▸ hBW)); rw [hco] at HC hTT; dsimp only at HC hTT; obtain ⟨X, hX⟩ : ∃ X : ByteArray, (⟨T.toArray⟩ : ByteArray) = X := ⟨_, rfl⟩; rw [hX] at HC; have HC := Jh HC; have HX := Jh hX; have HTT := Jh hTT; have hqW := hBW0.size; have hBs := hBW0; clear hE hco hX hTT hpv
  gi_wp2_with (first
   | (refine ⟨trivial, ?_⟩; gi_at_call 117; refine (CallsIn.inRound l (callsIn_wide.2 HC.out)).mono ?_; rintro e w5 ⟨rfl, hb5⟩; have g5 : W.grownBy w5 none := ⟨hb5.os, hb5.tape, hb5.output, hb5.size, fun k hk _ => hb5.block k hk⟩; have hv5 := hv9.kept g5 (by simp); have hc5 := hv5.cell; have hf5 := hv5.frozen; have hrow5 := Kdl hrow hb5; have hs5 := hb5.size)
   | (gi_at_builtin; refine wpListIn_append_own _ rfl _ _ 118 rfl (q + 1) 9 ib (.string ⟨#[]⟩) 1 16 Tryz.underlying118 hi hz0 hz1 hz2 rfl (by decide) _ _ _ rfl (hrow5.alloc _) ⟨w5.heap.size, 0, none⟩ 1 1 [.string X] rfl rfl (cell_one_new _ _ _) (by simp [Value.oneCell']) (by unfold maxLen; omega) (by omega) (by simp; omega) ?_; intro v' w1 hown' hgrow _; obtain ⟨g', cap', rfl⟩ := ownsRow_succ hown'; obtain ⟨hv1, hv2, hr2, hk2, hb2⟩ := hv5.appended (by decide) hrow5 (by omega) (by omega) hown' hgrow; have hc1 := hv1.cell; have hf1 := hv1.frozen))
  have ha5 := hba.kept g5 (by simp); have hn5 := hbn.kept g5 (by simp); have ga : w5.grownBy _ v.ownBlock := (World.grownBy_alloc w5 _ _).trans hgrow; have ha9 := (ha5.kept ga (ha5.not_row (by decide) hrow5)).other (B' := q + 1) (by omega) (.slice (some ⟨g', 0, none⟩) (pre.length + 1) cap'); have hn9 := (hn5.kept ga (hn5.not_row (by decide) hrow5)).other (B' := q + 1) (by omega) (.slice (some ⟨g', 0, none⟩) (pre.length + 1) cap'); refine ⟨((KeepsOthers.of_grownBy g5 (fun j o ej _ => by cases ej)).trans hk2).from _, ⟨(show _ = _ from ha9).trans (show _ = _ from hba).symm, (show _ = _ from hn9).trans (show _ = _ from hbn).symm⟩, ?_⟩; rw [hI]; refine ⟨⟨_, hv2, ?_, trivial⟩, ⟨ha9, hn9⟩, (hBW0.trans (hb5.mono (by omega))).trans hb2⟩; rw [List.map_append, List.length_append]; have hXX : Value.string X = txtV (Kcf (pcL s.samples x.1)) := by rw [← HX.out, HTT.out]; rfl
  rw [hXX] at hr2; exact hr2
 case done =>
  intro D ys W hD hys hIW hK; rw [hI] at hIW; obtain ⟨⟨v, hv9, hrow, _⟩, _, hBW0⟩ := hIW; have hBW : Below q w W := hB1.trans (hBW0.mono (by omega))
  have hyl : ys.map (fun x => txtV (Kcf (pcL s.samples x.1))) = (List.range N).map (fun k => txtV (Kcf (pcL s.samples k))) := by
   rw [← hN, ← hys, List.map_map]; rfl
  have hyn : ys.length = N := by rw [← List.length_map (f := fun x : Pc h.s.n => x.1), hys, List.length_range, hN]
  rw [hyl, hyn] at hrow; have bS9 := bS.below hBW0 (by omega); have hwn : s.windows.length = h.w.n := hS.w.len; have hEw := (hS.w.below (hq.symm ▸ hBW)).more (hq ▸ hBW).size; have hc := hv9.cell; have c2 : W.cell? ⟨q, 2, none⟩ = some (.slice h.w.A h.w.n h.w.c) := bS9.cell 2
  have hpt : (Kak s).map txtV = (List.range N).map (fun k => txtV (Kcf (pcL s.samples k))) ++ (aggsT s.windows).map txtV := by
   unfold Kak; rw [Kgk _ _ (Nat.le_refl _), hsn, hN, List.map_append, List.map_map, List.map_map]; rfl
  have hpl : (Kak s).length = N + (aggsT s.windows).length := by
   unfold Kak; rw [Kgk _ _ (Nat.le_refl _), hsn, hN, List.length_append, List.length_map, List.length_map, List.length_range]
  have hDq : q + 4 ≤ D := by omega
  by_cases hw0 : h.w.n = 0
  ·have hwe : s.windows = [] := List.eq_nil_of_length_eq_zero (by omega); rw [hwe] at hpt hpl; have e0 : decide ((0 : Int) < (h.w.n : Int)) = false := by rw [decide_eq_false_iff_not]; omega
   have hrow9 : W.ownsRow q 9 1 v (Kak s).length ((Kak s).map txtV) := by
    rw [hpt, hpl]; simpa [aggsT] using Qdu hrow (by omega)
   clear hrow hpt hpl
   gi_wp2
   refine ⟨by simp, .inl ⟨_, _, rfl, run_takeDeferred hK, ?_⟩⟩; exact ⟨_, results_tmp rfl _ _ _, v, rfl, by rw [hq]; exact ownsRow_putObj hrow9 _ hK rfl, by rw [hq]; exact hBW.trans (belowK_b (w := W0) (n₀ := q) (by omega) W D _ _ hD hK rfl rfl)⟩
  ·have e0 : decide ((0 : Int) < (h.w.n : Int)) = true := by rw [decide_eq_true_eq]; omega
   have hwl : aggsT s.windows = [aggT s.windows] := by
    cases hx : s.windows with
    | nil => rw [hx] at hwn; simp at hwn; omega
    | cons y l => rfl
   rw [hwl] at hpt hpl; obtain ⟨T, e9, hco⟩ : ∃ T e9, aggO s.windows = (T, e9) := ⟨_, _, rfl⟩; have HC := Kjo s.windows h.w.A h.w.n h.w.c W hEw (by omega) hb; rw [hco] at HC hg; dsimp only at HC hg; obtain ⟨X, hX⟩ : ∃ X : ByteArray, (⟨T.toArray⟩ : ByteArray) = X := ⟨_, rfl⟩; rw [hX] at HC; have HC := Jh HC; have HX := Jh hX; have HG := Jh hg; have HPT := Jh hpt; have HPL := Jh hpl; have HK := Jh hK; have HBW := Jh hBW; have hqW := hBW0.size; clear hco hX hg hpt hpl hEw hwl hyl hyn
   gi_wp2_with (first
    | (refine ⟨trivial, ?_⟩; gi_at_call 118; refine (callsIn_wide.2 HC.out).mono ?_; rintro e w5 ⟨rfl, hb5⟩; have g5 : W.grownBy w5 none := ⟨hb5.os, hb5.tape, hb5.output, hb5.size, fun k hk _ => hb5.block k hk⟩; have hv5 := hv9.kept g5 (by simp); have hc5 := hv5.cell; have hf5 := hv5.frozen; have hrow5 := Kdl hrow hb5; have hs5 := hb5.size)
    | (gi_at_builtin; refine wpListIn_append_own _ rfl _ _ 118 rfl (q + 1) 9 ib (.string ⟨#[]⟩) 1 16 Tryz.underlying118 hi hz0 hz1 hz2 rfl (by decide) _ _ _ rfl (hrow5.alloc _) ⟨w5.heap.size, 0, none⟩ 1 1 [.string X] rfl rfl (cell_one_new _ _ _) (by simp [Value.oneCell']) (by unfold maxLen; omega) (by omega) (by simp; omega) ?_; intro v' w1 hown' hgrow _; obtain ⟨g', cap', rfl⟩ := ownsRow_succ hown'; obtain ⟨hv1, hv2, hr2, hk2, hb2⟩ := hv5.appended (by decide) hrow5 (by omega) (by omega) hown' hgrow; have hc1 := hv1.cell; have hf1 := hv1.frozen; have hc2 := hv2.cell))
   have hK5 := ((KeepsOthers.of_grownBy g5 (fun j o ej _ => by cases ej)).trans hk2).same D _ HK.out rfl; have hXX : Value.string X = txtV (aggT s.windows) := by rw [← HX.out, HG.out]; rfl
   have hrow9 : (w1.setCell ⟨q + 1, 0, none⟩ (.slice (some ⟨g', 0, none⟩) (N + 1) cap')).ownsRow q 9 1 (.slice (some ⟨g', 0, none⟩) (N + 1) cap') (Kak s).length ((Kak s).map txtV) := by
    rw [HPT.out, HPL.out]; rw [hXX] at hr2; exact Qdu hr2 (by omega)
   have hB9 : Below q w (w1.setCell ⟨q + 1, 0, none⟩ (.slice (some ⟨g', 0, none⟩) (N + 1) cap')) := HBW.out.trans ((hb5.mono (by omega)).trans (hb2.mono (by omega))); refine ⟨by simp, .inl ⟨_, _, rfl, run_takeDeferred hK5, ?_⟩⟩; exact ⟨_, results_tmp rfl _ _ _, _, rfl, by rw [hq]; exact ownsRow_putObj hrow9 _ hK5 rfl, by rw [hq]; exact hB9.trans (belowK_b (w := W0) (n₀ := q) (by omega) _ D _ _ hD hK5 rfl rfl)⟩
 case stop =>
  rintro D c pre W _ _ h _; exact h.elim
end
end Go.Proofs.YtdoiekknhnbepaaGreatDoor
