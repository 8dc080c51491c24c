/- Merged (what the claim wants of): BlkTake, EncSealE, EncSealF, BlkOpen, BlkPlain4, BlkPlain5, BlkPlain6, UnpWalksA, UnpWalksB. -/
import Derived.Test.YtdoiekknhnbepaaGreatDoorBon05
import Derived.Test.YtdoiekknhnbepaaGreatDoorBon03
import Derived.Test.YtdoiekknhnbepaaGreatDoorBon01
import Derived.Test.YtdoiekknhnbepaaGreatDoorBon04
import Derived.Test.YtdoiekknhnbepaaGreatDoorBon02
set_option linter.unusedVariables false
set_option linter.unusedSimpArgs false
set_option maxRecDepth 100000
set_option maxHeartbeats 8000000
namespace Go.Proofs.YtdoiekknhnbepaaGreatDoor
section
open Go.RowKit
open Lib renaming hid → Jh
open List renaming setIfInBounds_toArray → Ja, set_cons_zero → Jb, set_cons_succ → Jc
attribute [local go_sem ↓] Go.wp_at_zero Go.wp_at_succ
attribute [local go_sem] Later.cell
def Rdr (pr : Nat) (S : ByteArray) (i : Nat) (w : World) : Prop := Blk w pr 167 #[.string S, .int .i64 (i : Int)]
def TkO (w : World) (OK : Value → Nat → World → Prop) (BAD : Prop) (e : Ending) (w' : World) : Prop :=
 Below w.heap.size w w' ∧ ((∃ v j, e = .returned (.tuple #[v, .int .i64 ((j : Nat) : Int), .int .i64 0]) ∧ OK v j w') ∨ (BAD ∧ ∃ v n f, f ≠ 0 ∧ e = .returned (.tuple #[v, n, .int .i64 ((f : Nat) : Int)])))
def RdTk (pr : Nat) (w : World) (OK : Value → Nat → World → Prop) (BAD : Prop) (e : Ending) (w' : World) : Prop :=
 (∃ v j w1, e = .returned v ∧ OK v j w1 ∧ Below w.heap.size w w1 ∧ w' = w1.setCell ⟨pr, 1, none⟩ (.int .i64 ((j : Nat) : Int))) ∨ (BAD ∧ ∃ f, f ≠ 0 ∧ e = Kaq f ∧ Below w.heap.size w w')
theorem Kmb (pr i : Nat) (S : ByteArray) (w : World) (h : Rdr pr S i w) (OK : Value → Nat → World → Prop) (BAD : Prop) (hc : Calls Tryz.prog 78 #[.string S, .int .i64 (i : Int)] w.drew (TkO w OK BAD)) :
  Calls Tryz.prog 77 #[.pointer (some ⟨pr, 0, none⟩), .func (.func 78) #[] #[]] w (RdTk pr w OK BAD) := by
 have H := Jh h; have HC := Jh hc; have c0 : w.drew.cell? ⟨pr, 0, none⟩ = some (.string S) := (show Blk w _ _ _ from h).drew.cell 0; have c1 : w.drew.cell? ⟨pr, 1, none⟩ = some (.int .i64 (i : Int)) := (show Blk w _ _ _ from h).drew.cell 1; clear h hc; go_enter Tryz.func77, Tryz.ntmps77
 go_upto_region 1 with fail
 have hS : w.drew.cell? ⟨pr, 0, none⟩ = some (.string S) ∧ w.drew.cell? ⟨pr, 1, none⟩ = some (.int .i64 (i : Int)) := ⟨c0, c1⟩; refine Kat (fun w' => w'.cell? ⟨pr, 0, none⟩ = some (.string S) ∧ w'.cell? ⟨pr, 1, none⟩ = some (.int .i64 (i : Int))) 9 17 (by kernel_rfl) rfl ?_; rw [show Array.replicate 17 false = #[false, false, false, false, false, false, false, false, false, false, false, false, false, false, false, false, false] from rfl]; refine Kaa (i := 0) (d := some 9) rfl rfl (by kernel_rfl) (by kernel_rfl) (by kernel_rfl) rfl (fun _ _ _ h => h) (by rfl) (fun w => by go_simp; try rfl) (fun _ => hS) ?_; simp only [Act.put, Ja, Jb, Jc]; refine Kaa (i := 1) (d := some 10) rfl rfl (by kernel_rfl) (by kernel_rfl) (by kernel_rfl) rfl (fun _ _ _ h => h) (by rfl) (fun w => by go_simp; try rfl) (fun _ => hS) ?_; simp only [Act.put, Ja, Jb, Jc]; refine Kaa (i := 2) (d := some 11) rfl rfl (by kernel_rfl) (by kernel_rfl) (by kernel_rfl) rfl (fun _ _ _ h => h) (by rfl) (fun w => by go_simp; try rfl) (fun _ => hS) ?_; simp only [Act.put, Ja, Jb, Jc]; refine Kaa (i := 3) (d := some 12) rfl rfl (by kernel_rfl) (by kernel_rfl) (by kernel_rfl) rfl (fun _ _ _ h => h) (by rfl) (fun w => by go_simp; try rfl) (fun _ => hS) ?_; simp only [Act.put, Ja, Jb, Jc]; refine Kai (i := 4) (d := some 13) rfl rfl (by kernel_rfl) (by kernel_rfl) (by kernel_rfl) (by kernel_rfl) rfl (fun _ _ _ h => h) (.inl ⟨by rfl, fun w hw => by (obtain ⟨ha, hb⟩ := hw; go_simp; try rfl)⟩) hS ?_; simp only [Act.put, Ja, Jb, Jc]; refine Kaa (i := 5) (d := some 14) rfl rfl (by kernel_rfl) (by kernel_rfl) (by kernel_rfl) rfl (fun _ _ _ h => h) (by rfl) (fun w => by go_simp; try rfl) (fun _ => hS) ?_; simp only [Act.put, Ja, Jb, Jc]; refine Kaa (i := 6) (d := some 15) rfl rfl (by kernel_rfl) (by kernel_rfl) (by kernel_rfl) rfl (fun _ _ _ h => h) (by rfl) (fun w => by go_simp; try rfl) (fun _ => hS) ?_; simp only [Act.put, Ja, Jb, Jc]; refine Kaa (i := 7) (d := some 16) rfl rfl (by kernel_rfl) (by kernel_rfl) (by kernel_rfl) rfl (fun _ _ _ h => h) (by rfl) (fun w => by go_simp; try rfl) (fun _ => hS) ?_; simp only [Act.put, Ja, Jb, Jc]; refine Kai (i := 8) (d := some 17) rfl rfl (by kernel_rfl) (by kernel_rfl) (by kernel_rfl) (by kernel_rfl) rfl (fun _ _ _ h => h) (.inl ⟨by rfl, fun w hw => by (obtain ⟨ha, hb⟩ := hw; go_simp; try rfl)⟩) hS ?_; simp only [Act.put, Ja, Jb, Jc]; refine Kac (i := 9) (by kernel_rfl) rfl rfl ?_; refine Oper.wp_called (d := some 18) (w1 := w.drew) (g := 78) (args := #[.string S, .int .i64 (i : Int)]) rfl (by go_simp; try rfl) (N := fun u w' => Below w.heap.size w w' ∧ ((∃ v j, u = .tuple #[v, .int .i64 ((j : Nat) : Int), .int .i64 0] ∧ OK v j w') ∨ (BAD ∧ ∃ v n f, f ≠ 0 ∧ u = .tuple #[v, n, .int .i64 ((f : Nat) : Int)]))) (HC.out.mono ?_) ?_
 ·rintro _ w2 ⟨hb, ⟨v, j, rfl, hok⟩ | ⟨hbad, v, n, f, hf, rfl⟩⟩
  ·exact ⟨_, rfl, hb, .inl ⟨v, j, rfl, hok⟩⟩
  ·exact ⟨_, rfl, hb, .inr ⟨hbad, v, n, f, hf, rfl⟩⟩
 ·rintro _ w2 ⟨hb, ⟨v, j, rfl, hok⟩ | ⟨hbad, v, n, f, hf, rfl⟩⟩
  ·refine ⟨fun h => absurd h (by decide), ?_⟩; simp only [Act.put, Ja, Jb, Jc]; refine Kaa (i := 10) (d := some 8) rfl rfl (by kernel_rfl) (by kernel_rfl) (by kernel_rfl) rfl (fun _ _ _ h => h) (by rfl) (fun w => by go_simp; try rfl) (fun h => absurd h (by decide)) ?_; simp only [Act.put, Ja, Jb, Jc]; refine Kaa (i := 11) (d := some 19) rfl rfl (by kernel_rfl) (by kernel_rfl) (by kernel_rfl) rfl (fun _ _ _ h => h) (by rfl) (fun w => by go_simp; try rfl) (fun h => absurd h (by decide)) ?_; simp only [Act.put, Ja, Jb, Jc]; refine Kaa (i := 12) (d := some 20) rfl rfl (by kernel_rfl) (by kernel_rfl) (by kernel_rfl) rfl (fun _ _ _ h => h) (by rfl) (fun w => by go_simp; try rfl) (fun h => absurd h (by decide)) ?_; simp only [Act.put, Ja, Jb, Jc]; refine Kaa (i := 13) (d := some 21) rfl rfl (by kernel_rfl) (by kernel_rfl) (by kernel_rfl) rfl (fun _ _ _ h => h) (by rfl) (fun w => by go_simp; try rfl) (fun h => absurd h (by decide)) ?_; simp only [Act.put, Ja, Jb, Jc]; refine Kaa (i := 14) (d := some 5) rfl rfl (by kernel_rfl) (by kernel_rfl) (by kernel_rfl) rfl (fun _ _ _ h => h) (by rfl) (fun w => by go_simp; try rfl) (fun h => absurd h (by decide)) ?_; simp only [Act.put, Ja, Jb, Jc]; refine Kaa (i := 15) (d := some 6) rfl rfl (by kernel_rfl) (by kernel_rfl) (by kernel_rfl) rfl (fun _ _ _ h => h) (by rfl) (fun w => by go_simp; try rfl) (fun h => absurd h (by decide)) ?_; simp only [Act.put, Ja, Jb, Jc]; refine Kaa (i := 16) (d := some 7) rfl rfl (by kernel_rfl) (by kernel_rfl) (by kernel_rfl) rfl (fun _ _ _ h => h) (by rfl) (fun w => by go_simp; try rfl) (fun h => absurd h (by decide)) ?_; simp only [Act.put, Ja, Jb, Jc]; refine Kao (by kernel_rfl) ?_ _; have HOK := Jh hok; have HB := Jh hb; have hq := (show Blk w _ _ _ from H.out).below hb (show Blk w _ _ _ from H.out).lt; have d0 : w2.cell? ⟨pr, 0, none⟩ = some (.string S) := hq.cell 0; have d1 : w2.cell? ⟨pr, 1, none⟩ = some (.int .i64 (i : Int)) := hq.cell 1; have f1 : w2.frozen? ⟨pr, 1, none⟩ = false := hq.frozen 1; clear hok hb hq hS c0 c1; go_wp2_with fail
   go_ret
   exact .inl ⟨v, j, w2, rfl, HOK.out, HB.out, rfl⟩
  ·have e0 : ((f : Int) != 0) = true := by simp; omega
   refine ⟨fun h => absurd h (by decide), ?_⟩; simp only [Act.put, Ja, Jb, Jc]; refine Kaa (i := 10) (d := some 8) rfl rfl (by kernel_rfl) (by kernel_rfl) (by kernel_rfl) rfl (fun _ _ _ h => h) (by rfl) (fun w => by go_simp; try rfl) (fun h => absurd h (by decide)) ?_; simp only [Act.put, Ja, Jb, Jc]; refine Kaa (i := 11) (d := some 19) rfl rfl (by kernel_rfl) (by kernel_rfl) (by kernel_rfl) rfl (fun _ _ _ h => h) (by rfl) (fun w => by go_simp; try rfl) (fun h => absurd h (by decide)) ?_; simp only [Act.put, Ja, Jb, Jc]; refine Kaa (i := 12) (d := some 20) rfl rfl (by kernel_rfl) (by kernel_rfl) (by kernel_rfl) rfl (fun _ _ _ h => h) (by rfl) (fun w => by go_simp; try rfl) (fun h => absurd h (by decide)) ?_; simp only [Act.put, Ja, Jb, Jc]; refine Kaa (i := 13) (d := some 21) rfl rfl (by kernel_rfl) (by kernel_rfl) (by kernel_rfl) rfl (fun _ _ _ h => h) (by rfl) (fun w => by go_simp; try rfl) (fun h => absurd h (by decide)) ?_; simp only [Act.put, Ja, Jb, Jc]; refine Kaa (i := 14) (d := some 5) rfl rfl (by kernel_rfl) (by kernel_rfl) (by kernel_rfl) rfl (fun _ _ _ h => h) (by rfl) (fun w => by go_simp; try rfl) (fun h => absurd h (by decide)) ?_; simp only [Act.put, Ja, Jb, Jc]; refine Kaa (i := 15) (d := some 6) rfl rfl (by kernel_rfl) (by kernel_rfl) (by kernel_rfl) rfl (fun _ _ _ h => h) (by rfl) (fun w => by go_simp; try rfl) (fun h => absurd h (by decide)) ?_; simp only [Act.put, Ja, Jb, Jc]; refine Kaa (i := 16) (d := some 7) rfl rfl (by kernel_rfl) (by kernel_rfl) (by kernel_rfl) rfl (fun _ _ _ h => h) (by rfl) (fun w => by go_simp; try rfl) (fun h => absurd h (by decide)) ?_; simp only [Act.put, Ja, Jb, Jc]; refine Kao (by kernel_rfl) ?_ _; have HB := Jh hb; clear hb hS c0 c1; go_wp2_with fail
   refine Kag rfl ?_; exact .inr ⟨hbad, f, hf, rfl, HB.out⟩
theorem Klz (pr i : Nat) (S : ByteArray) (w : World) (h : Rdr pr S i w) (OK : Value → Nat → World → Prop) (BAD : Prop) (hc : Calls Tryz.prog 80 #[.string S, .int .i64 (i : Int)] w.drew (TkO w OK BAD)) :
  Calls Tryz.prog 79 #[.pointer (some ⟨pr, 0, none⟩), .func (.func 80) #[] #[]] w (RdTk pr w OK BAD) := by
 have H := Jh h; have HC := Jh hc; have c0 : w.drew.cell? ⟨pr, 0, none⟩ = some (.string S) := (show Blk w _ _ _ from h).drew.cell 0; have c1 : w.drew.cell? ⟨pr, 1, none⟩ = some (.int .i64 (i : Int)) := (show Blk w _ _ _ from h).drew.cell 1; clear h hc; go_enter Tryz.func79, Tryz.ntmps79
 go_upto_region 1 with fail
 have hS : w.drew.cell? ⟨pr, 0, none⟩ = some (.string S) ∧ w.drew.cell? ⟨pr, 1, none⟩ = some (.int .i64 (i : Int)) := ⟨c0, c1⟩; refine Kat (fun w' => w'.cell? ⟨pr, 0, none⟩ = some (.string S) ∧ w'.cell? ⟨pr, 1, none⟩ = some (.int .i64 (i : Int))) 9 17 (by kernel_rfl) rfl ?_; rw [show Array.replicate 17 false = #[false, false, false, false, false, false, false, false, false, false, false, false, false, false, false, false, false] from rfl]; refine Kaa (i := 0) (d := some 9) rfl rfl (by kernel_rfl) (by kernel_rfl) (by kernel_rfl) rfl (fun _ _ _ h => h) (by rfl) (fun w => by go_simp; try rfl) (fun _ => hS) ?_; simp only [Act.put, Ja, Jb, Jc]; refine Kaa (i := 1) (d := some 10) rfl rfl (by kernel_rfl) (by kernel_rfl) (by kernel_rfl) rfl (fun _ _ _ h => h) (by rfl) (fun w => by go_simp; try rfl) (fun _ => hS) ?_; simp only [Act.put, Ja, Jb, Jc]; refine Kaa (i := 2) (d := some 11) rfl rfl (by kernel_rfl) (by kernel_rfl) (by kernel_rfl) rfl (fun _ _ _ h => h) (by rfl) (fun w => by go_simp; try rfl) (fun _ => hS) ?_; simp only [Act.put, Ja, Jb, Jc]; refine Kaa (i := 3) (d := some 12) rfl rfl (by kernel_rfl) (by kernel_rfl) (by kernel_rfl) rfl (fun _ _ _ h => h) (by rfl) (fun w => by go_simp; try rfl) (fun _ => hS) ?_; simp only [Act.put, Ja, Jb, Jc]; refine Kai (i := 4) (d := some 13) rfl rfl (by kernel_rfl) (by kernel_rfl) (by kernel_rfl) (by kernel_rfl) rfl (fun _ _ _ h => h) (.inl ⟨by rfl, fun w hw => by (obtain ⟨ha, hb⟩ := hw; go_simp; try rfl)⟩) hS ?_; simp only [Act.put, Ja, Jb, Jc]; refine Kaa (i := 5) (d := some 14) rfl rfl (by kernel_rfl) (by kernel_rfl) (by kernel_rfl) rfl (fun _ _ _ h => h) (by rfl) (fun w => by go_simp; try rfl) (fun _ => hS) ?_; simp only [Act.put, Ja, Jb, Jc]; refine Kaa (i := 6) (d := some 15) rfl rfl (by kernel_rfl) (by kernel_rfl) (by kernel_rfl) rfl (fun _ _ _ h => h) (by rfl) (fun w => by go_simp; try rfl) (fun _ => hS) ?_; simp only [Act.put, Ja, Jb, Jc]; refine Kaa (i := 7) (d := some 16) rfl rfl (by kernel_rfl) (by kernel_rfl) (by kernel_rfl) rfl (fun _ _ _ h => h) (by rfl) (fun w => by go_simp; try rfl) (fun _ => hS) ?_; simp only [Act.put, Ja, Jb, Jc]; refine Kai (i := 8) (d := some 17) rfl rfl (by kernel_rfl) (by kernel_rfl) (by kernel_rfl) (by kernel_rfl) rfl (fun _ _ _ h => h) (.inl ⟨by rfl, fun w hw => by (obtain ⟨ha, hb⟩ := hw; go_simp; try rfl)⟩) hS ?_; simp only [Act.put, Ja, Jb, Jc]; refine Kac (i := 9) (by kernel_rfl) rfl rfl ?_; refine Oper.wp_called (d := some 18) (w1 := w.drew) (g := 80) (args := #[.string S, .int .i64 (i : Int)]) rfl (by go_simp; try rfl) (N := fun u w' => Below w.heap.size w w' ∧ ((∃ v j, u = .tuple #[v, .int .i64 ((j : Nat) : Int), .int .i64 0] ∧ OK v j w') ∨ (BAD ∧ ∃ v n f, f ≠ 0 ∧ u = .tuple #[v, n, .int .i64 ((f : Nat) : Int)]))) (HC.out.mono ?_) ?_
 ·rintro _ w2 ⟨hb, ⟨v, j, rfl, hok⟩ | ⟨hbad, v, n, f, hf, rfl⟩⟩
  ·exact ⟨_, rfl, hb, .inl ⟨v, j, rfl, hok⟩⟩
  ·exact ⟨_, rfl, hb, .inr ⟨hbad, v, n, f, hf, rfl⟩⟩
 ·rintro _ w2 ⟨hb, ⟨v, j, rfl, hok⟩ | ⟨hbad, v, n, f, hf, rfl⟩⟩
  ·refine ⟨fun h => absurd h (by decide), ?_⟩; simp only [Act.put, Ja, Jb, Jc]; refine Kaa (i := 10) (d := some 8) rfl rfl (by kernel_rfl) (by kernel_rfl) (by kernel_rfl) rfl (fun _ _ _ h => h) (by rfl) (fun w => by go_simp; try rfl) (fun h => absurd h (by decide)) ?_; simp only [Act.put, Ja, Jb, Jc]; refine Kaa (i := 11) (d := some 19) rfl rfl (by kernel_rfl) (by kernel_rfl) (by kernel_rfl) rfl (fun _ _ _ h => h) (by rfl) (fun w => by go_simp; try rfl) (fun h => absurd h (by decide)) ?_; simp only [Act.put, Ja, Jb, Jc]; refine Kaa (i := 12) (d := some 20) rfl rfl (by kernel_rfl) (by kernel_rfl) (by kernel_rfl) rfl (fun _ _ _ h => h) (by rfl) (fun w => by go_simp; try rfl) (fun h => absurd h (by decide)) ?_; simp only [Act.put, Ja, Jb, Jc]; refine Kaa (i := 13) (d := some 21) rfl rfl (by kernel_rfl) (by kernel_rfl) (by kernel_rfl) rfl (fun _ _ _ h => h) (by rfl) (fun w => by go_simp; try rfl) (fun h => absurd h (by decide)) ?_; simp only [Act.put, Ja, Jb, Jc]; refine Kaa (i := 14) (d := some 5) rfl rfl (by kernel_rfl) (by kernel_rfl) (by kernel_rfl) rfl (fun _ _ _ h => h) (by rfl) (fun w => by go_simp; try rfl) (fun h => absurd h (by decide)) ?_; simp only [Act.put, Ja, Jb, Jc]; refine Kaa (i := 15) (d := some 6) rfl rfl (by kernel_rfl) (by kernel_rfl) (by kernel_rfl) rfl (fun _ _ _ h => h) (by rfl) (fun w => by go_simp; try rfl) (fun h => absurd h (by decide)) ?_; simp only [Act.put, Ja, Jb, Jc]; refine Kaa (i := 16) (d := some 7) rfl rfl (by kernel_rfl) (by kernel_rfl) (by kernel_rfl) rfl (fun _ _ _ h => h) (by rfl) (fun w => by go_simp; try rfl) (fun h => absurd h (by decide)) ?_; simp only [Act.put, Ja, Jb, Jc]; refine Kao (by kernel_rfl) ?_ _; have HOK := Jh hok; have HB := Jh hb; have hq := (show Blk w _ _ _ from H.out).below hb (show Blk w _ _ _ from H.out).lt; have d0 : w2.cell? ⟨pr, 0, none⟩ = some (.string S) := hq.cell 0; have d1 : w2.cell? ⟨pr, 1, none⟩ = some (.int .i64 (i : Int)) := hq.cell 1; have f1 : w2.frozen? ⟨pr, 1, none⟩ = false := hq.frozen 1; clear hok hb hq hS c0 c1; go_wp2_with fail
   go_ret
   exact .inl ⟨v, j, w2, rfl, HOK.out, HB.out, rfl⟩
  ·have e0 : ((f : Int) != 0) = true := by simp; omega
   refine ⟨fun h => absurd h (by decide), ?_⟩; simp only [Act.put, Ja, Jb, Jc]; refine Kaa (i := 10) (d := some 8) rfl rfl (by kernel_rfl) (by kernel_rfl) (by kernel_rfl) rfl (fun _ _ _ h => h) (by rfl) (fun w => by go_simp; try rfl) (fun h => absurd h (by decide)) ?_; simp only [Act.put, Ja, Jb, Jc]; refine Kaa (i := 11) (d := some 19) rfl rfl (by kernel_rfl) (by kernel_rfl) (by kernel_rfl) rfl (fun _ _ _ h => h) (by rfl) (fun w => by go_simp; try rfl) (fun h => absurd h (by decide)) ?_; simp only [Act.put, Ja, Jb, Jc]; refine Kaa (i := 12) (d := some 20) rfl rfl (by kernel_rfl) (by kernel_rfl) (by kernel_rfl) rfl (fun _ _ _ h => h) (by rfl) (fun w => by go_simp; try rfl) (fun h => absurd h (by decide)) ?_; simp only [Act.put, Ja, Jb, Jc]; refine Kaa (i := 13) (d := some 21) rfl rfl (by kernel_rfl) (by kernel_rfl) (by kernel_rfl) rfl (fun _ _ _ h => h) (by rfl) (fun w => by go_simp; try rfl) (fun h => absurd h (by decide)) ?_; simp only [Act.put, Ja, Jb, Jc]; refine Kaa (i := 14) (d := some 5) rfl rfl (by kernel_rfl) (by kernel_rfl) (by kernel_rfl) rfl (fun _ _ _ h => h) (by rfl) (fun w => by go_simp; try rfl) (fun h => absurd h (by decide)) ?_; simp only [Act.put, Ja, Jb, Jc]; refine Kaa (i := 15) (d := some 6) rfl rfl (by kernel_rfl) (by kernel_rfl) (by kernel_rfl) rfl (fun _ _ _ h => h) (by rfl) (fun w => by go_simp; try rfl) (fun h => absurd h (by decide)) ?_; simp only [Act.put, Ja, Jb, Jc]; refine Kaa (i := 16) (d := some 7) rfl rfl (by kernel_rfl) (by kernel_rfl) (by kernel_rfl) rfl (fun _ _ _ h => h) (by rfl) (fun w => by go_simp; try rfl) (fun h => absurd h (by decide)) ?_; simp only [Act.put, Ja, Jb, Jc]; refine Kao (by kernel_rfl) ?_ _; have HB := Jh hb; clear hb hS c0 c1; go_wp2_with fail
   refine Kag rfl ?_; exact .inr ⟨hbad, f, hf, rfl, HB.out⟩
theorem Kmc (pr i : Nat) (S : ByteArray) (w : World) (h : Rdr pr S i w) (OK : Value → Nat → World → Prop) (BAD : Prop) (hc : Calls Tryz.prog 91 #[.string S, .int .i64 (i : Int)] w.drew (TkO w OK BAD)) :
  Calls Tryz.prog 90 #[.pointer (some ⟨pr, 0, none⟩), .func (.func 91) #[] #[]] w (RdTk pr w OK BAD) := by
 have H := Jh h; have HC := Jh hc; have c0 : w.drew.cell? ⟨pr, 0, none⟩ = some (.string S) := (show Blk w _ _ _ from h).drew.cell 0; have c1 : w.drew.cell? ⟨pr, 1, none⟩ = some (.int .i64 (i : Int)) := (show Blk w _ _ _ from h).drew.cell 1; clear h hc; go_enter Tryz.func90, Tryz.ntmps90
 go_upto_region 1 with fail
 have hS : w.drew.cell? ⟨pr, 0, none⟩ = some (.string S) ∧ w.drew.cell? ⟨pr, 1, none⟩ = some (.int .i64 (i : Int)) := ⟨c0, c1⟩; refine Kat (fun w' => w'.cell? ⟨pr, 0, none⟩ = some (.string S) ∧ w'.cell? ⟨pr, 1, none⟩ = some (.int .i64 (i : Int))) 9 17 (by kernel_rfl) rfl ?_; rw [show Array.replicate 17 false = #[false, false, false, false, false, false, false, false, false, false, false, false, false, false, false, false, false] from rfl]; refine Kaa (i := 0) (d := some 9) rfl rfl (by kernel_rfl) (by kernel_rfl) (by kernel_rfl) rfl (fun _ _ _ h => h) (by rfl) (fun w => by go_simp; try rfl) (fun _ => hS) ?_; simp only [Act.put, Ja, Jb, Jc]; refine Kaa (i := 1) (d := some 10) rfl rfl (by kernel_rfl) (by kernel_rfl) (by kernel_rfl) rfl (fun _ _ _ h => h) (by rfl) (fun w => by go_simp; try rfl) (fun _ => hS) ?_; simp only [Act.put, Ja, Jb, Jc]; refine Kaa (i := 2) (d := some 11) rfl rfl (by kernel_rfl) (by kernel_rfl) (by kernel_rfl) rfl (fun _ _ _ h => h) (by rfl) (fun w => by go_simp; try rfl) (fun _ => hS) ?_; simp only [Act.put, Ja, Jb, Jc]; refine Kaa (i := 3) (d := some 12) rfl rfl (by kernel_rfl) (by kernel_rfl) (by kernel_rfl) rfl (fun _ _ _ h => h) (by rfl) (fun w => by go_simp; try rfl) (fun _ => hS) ?_; simp only [Act.put, Ja, Jb, Jc]; refine Kai (i := 4) (d := some 13) rfl rfl (by kernel_rfl) (by kernel_rfl) (by kernel_rfl) (by kernel_rfl) rfl (fun _ _ _ h => h) (.inl ⟨by rfl, fun w hw => by (obtain ⟨ha, hb⟩ := hw; go_simp; try rfl)⟩) hS ?_; simp only [Act.put, Ja, Jb, Jc]; refine Kaa (i := 5) (d := some 14) rfl rfl (by kernel_rfl) (by kernel_rfl) (by kernel_rfl) rfl (fun _ _ _ h => h) (by rfl) (fun w => by go_simp; try rfl) (fun _ => hS) ?_; simp only [Act.put, Ja, Jb, Jc]; refine Kaa (i := 6) (d := some 15) rfl rfl (by kernel_rfl) (by kernel_rfl) (by kernel_rfl) rfl (fun _ _ _ h => h) (by rfl) (fun w => by go_simp; try rfl) (fun _ => hS) ?_; simp only [Act.put, Ja, Jb, Jc]; refine Kaa (i := 7) (d := some 16) rfl rfl (by kernel_rfl) (by kernel_rfl) (by kernel_rfl) rfl (fun _ _ _ h => h) (by rfl) (fun w => by go_simp; try rfl) (fun _ => hS) ?_; simp only [Act.put, Ja, Jb, Jc]; refine Kai (i := 8) (d := some 17) rfl rfl (by kernel_rfl) (by kernel_rfl) (by kernel_rfl) (by kernel_rfl) rfl (fun _ _ _ h => h) (.inl ⟨by rfl, fun w hw => by (obtain ⟨ha, hb⟩ := hw; go_simp; try rfl)⟩) hS ?_; simp only [Act.put, Ja, Jb, Jc]; refine Kac (i := 9) (by kernel_rfl) rfl rfl ?_; refine Oper.wp_called (d := some 18) (w1 := w.drew) (g := 91) (args := #[.string S, .int .i64 (i : Int)]) rfl (by go_simp; try rfl) (N := fun u w' => Below w.heap.size w w' ∧ ((∃ v j, u = .tuple #[v, .int .i64 ((j : Nat) : Int), .int .i64 0] ∧ OK v j w') ∨ (BAD ∧ ∃ v n f, f ≠ 0 ∧ u = .tuple #[v, n, .int .i64 ((f : Nat) : Int)]))) (HC.out.mono ?_) ?_
 ·rintro _ w2 ⟨hb, ⟨v, j, rfl, hok⟩ | ⟨hbad, v, n, f, hf, rfl⟩⟩
  ·exact ⟨_, rfl, hb, .inl ⟨v, j, rfl, hok⟩⟩
  ·exact ⟨_, rfl, hb, .inr ⟨hbad, v, n, f, hf, rfl⟩⟩
 ·rintro _ w2 ⟨hb, ⟨v, j, rfl, hok⟩ | ⟨hbad, v, n, f, hf, rfl⟩⟩
  ·refine ⟨fun h => absurd h (by decide), ?_⟩; simp only [Act.put, Ja, Jb, Jc]; refine Kaa (i := 10) (d := some 8) rfl rfl (by kernel_rfl) (by kernel_rfl) (by kernel_rfl) rfl (fun _ _ _ h => h) (by rfl) (fun w => by go_simp; try rfl) (fun h => absurd h (by decide)) ?_; simp only [Act.put, Ja, Jb, Jc]; refine Kaa (i := 11) (d := some 19) rfl rfl (by kernel_rfl) (by kernel_rfl) (by kernel_rfl) rfl (fun _ _ _ h => h) (by rfl) (fun w => by go_simp; try rfl) (fun h => absurd h (by decide)) ?_; simp only [Act.put, Ja, Jb, Jc]; refine Kaa (i := 12) (d := some 20) rfl rfl (by kernel_rfl) (by kernel_rfl) (by kernel_rfl) rfl (fun _ _ _ h => h) (by rfl) (fun w => by go_simp; try rfl) (fun h => absurd h (by decide)) ?_; simp only [Act.put, Ja, Jb, Jc]; refine Kaa (i := 13) (d := some 21) rfl rfl (by kernel_rfl) (by kernel_rfl) (by kernel_rfl) rfl (fun _ _ _ h => h) (by rfl) (fun w => by go_simp; try rfl) (fun h => absurd h (by decide)) ?_; simp only [Act.put, Ja, Jb, Jc]; refine Kaa (i := 14) (d := some 5) rfl rfl (by kernel_rfl) (by kernel_rfl) (by kernel_rfl) rfl (fun _ _ _ h => h) (by rfl) (fun w => by go_simp; try rfl) (fun h => absurd h (by decide)) ?_; simp only [Act.put, Ja, Jb, Jc]; refine Kaa (i := 15) (d := some 6) rfl rfl (by kernel_rfl) (by kernel_rfl) (by kernel_rfl) rfl (fun _ _ _ h => h) (by rfl) (fun w => by go_simp; try rfl) (fun h => absurd h (by decide)) ?_; simp only [Act.put, Ja, Jb, Jc]; refine Kaa (i := 16) (d := some 7) rfl rfl (by kernel_rfl) (by kernel_rfl) (by kernel_rfl) rfl (fun _ _ _ h => h) (by rfl) (fun w => by go_simp; try rfl) (fun h => absurd h (by decide)) ?_; simp only [Act.put, Ja, Jb, Jc]; refine Kao (by kernel_rfl) ?_ _; have HOK := Jh hok; have HB := Jh hb; have hq := (show Blk w _ _ _ from H.out).below hb (show Blk w _ _ _ from H.out).lt; have d0 : w2.cell? ⟨pr, 0, none⟩ = some (.string S) := hq.cell 0; have d1 : w2.cell? ⟨pr, 1, none⟩ = some (.int .i64 (i : Int)) := hq.cell 1; have f1 : w2.frozen? ⟨pr, 1, none⟩ = false := hq.frozen 1; clear hok hb hq hS c0 c1; go_wp2_with fail
   go_ret
   exact .inl ⟨v, j, w2, rfl, HOK.out, HB.out, rfl⟩
  ·have e0 : ((f : Int) != 0) = true := by simp; omega
   refine ⟨fun h => absurd h (by decide), ?_⟩; simp only [Act.put, Ja, Jb, Jc]; refine Kaa (i := 10) (d := some 8) rfl rfl (by kernel_rfl) (by kernel_rfl) (by kernel_rfl) rfl (fun _ _ _ h => h) (by rfl) (fun w => by go_simp; try rfl) (fun h => absurd h (by decide)) ?_; simp only [Act.put, Ja, Jb, Jc]; refine Kaa (i := 11) (d := some 19) rfl rfl (by kernel_rfl) (by kernel_rfl) (by kernel_rfl) rfl (fun _ _ _ h => h) (by rfl) (fun w => by go_simp; try rfl) (fun h => absurd h (by decide)) ?_; simp only [Act.put, Ja, Jb, Jc]; refine Kaa (i := 12) (d := some 20) rfl rfl (by kernel_rfl) (by kernel_rfl) (by kernel_rfl) rfl (fun _ _ _ h => h) (by rfl) (fun w => by go_simp; try rfl) (fun h => absurd h (by decide)) ?_; simp only [Act.put, Ja, Jb, Jc]; refine Kaa (i := 13) (d := some 21) rfl rfl (by kernel_rfl) (by kernel_rfl) (by kernel_rfl) rfl (fun _ _ _ h => h) (by rfl) (fun w => by go_simp; try rfl) (fun h => absurd h (by decide)) ?_; simp only [Act.put, Ja, Jb, Jc]; refine Kaa (i := 14) (d := some 5) rfl rfl (by kernel_rfl) (by kernel_rfl) (by kernel_rfl) rfl (fun _ _ _ h => h) (by rfl) (fun w => by go_simp; try rfl) (fun h => absurd h (by decide)) ?_; simp only [Act.put, Ja, Jb, Jc]; refine Kaa (i := 15) (d := some 6) rfl rfl (by kernel_rfl) (by kernel_rfl) (by kernel_rfl) rfl (fun _ _ _ h => h) (by rfl) (fun w => by go_simp; try rfl) (fun h => absurd h (by decide)) ?_; simp only [Act.put, Ja, Jb, Jc]; refine Kaa (i := 16) (d := some 7) rfl rfl (by kernel_rfl) (by kernel_rfl) (by kernel_rfl) rfl (fun _ _ _ h => h) (by rfl) (fun w => by go_simp; try rfl) (fun h => absurd h (by decide)) ?_; simp only [Act.put, Ja, Jb, Jc]; refine Kao (by kernel_rfl) ?_ _; have HB := Jh hb; clear hb hS c0 c1; go_wp2_with fail
   refine Kag rfl ?_; exact .inr ⟨hbad, f, hf, rfl, HB.out⟩
theorem Klp (pr i : Nat) (S : ByteArray) (w : World) (h : Rdr pr S i w) (OK : Value → Nat → World → Prop) (BAD : Prop) (hc : Calls Tryz.prog 148 #[.string S, .int .i64 (i : Int)] w.drew (TkO w OK BAD)) :
  Calls Tryz.prog 147 #[.pointer (some ⟨pr, 0, none⟩), .func (.func 148) #[] #[]] w (RdTk pr w OK BAD) := by
 have H := Jh h; have HC := Jh hc; have c0 : w.drew.cell? ⟨pr, 0, none⟩ = some (.string S) := (show Blk w _ _ _ from h).drew.cell 0; have c1 : w.drew.cell? ⟨pr, 1, none⟩ = some (.int .i64 (i : Int)) := (show Blk w _ _ _ from h).drew.cell 1; clear h hc; go_enter Tryz.func147, Tryz.ntmps147
 go_upto_region 1 with fail
 have hS : w.drew.cell? ⟨pr, 0, none⟩ = some (.string S) ∧ w.drew.cell? ⟨pr, 1, none⟩ = some (.int .i64 (i : Int)) := ⟨c0, c1⟩; refine Kat (fun w' => w'.cell? ⟨pr, 0, none⟩ = some (.string S) ∧ w'.cell? ⟨pr, 1, none⟩ = some (.int .i64 (i : Int))) 9 17 (by kernel_rfl) rfl ?_; rw [show Array.replicate 17 false = #[false, false, false, false, false, false, false, false, false, false, false, false, false, false, false, false, false] from rfl]; refine Kaa (i := 0) (d := some 9) rfl rfl (by kernel_rfl) (by kernel_rfl) (by kernel_rfl) rfl (fun _ _ _ h => h) (by rfl) (fun w => by go_simp; try rfl) (fun _ => hS) ?_; simp only [Act.put, Ja, Jb, Jc]; refine Kaa (i := 1) (d := some 10) rfl rfl (by kernel_rfl) (by kernel_rfl) (by kernel_rfl) rfl (fun _ _ _ h => h) (by rfl) (fun w => by go_simp; try rfl) (fun _ => hS) ?_; simp only [Act.put, Ja, Jb, Jc]; refine Kaa (i := 2) (d := some 11) rfl rfl (by kernel_rfl) (by kernel_rfl) (by kernel_rfl) rfl (fun _ _ _ h => h) (by rfl) (fun w => by go_simp; try rfl) (fun _ => hS) ?_; simp only [Act.put, Ja, Jb, Jc]; refine Kaa (i := 3) (d := some 12) rfl rfl (by kernel_rfl) (by kernel_rfl) (by kernel_rfl) rfl (fun _ _ _ h => h) (by rfl) (fun w => by go_simp; try rfl) (fun _ => hS) ?_; simp only [Act.put, Ja, Jb, Jc]; refine Kai (i := 4) (d := some 13) rfl rfl (by kernel_rfl) (by kernel_rfl) (by kernel_rfl) (by kernel_rfl) rfl (fun _ _ _ h => h) (.inl ⟨by rfl, fun w hw => by (obtain ⟨ha, hb⟩ := hw; go_simp; try rfl)⟩) hS ?_; simp only [Act.put, Ja, Jb, Jc]; refine Kaa (i := 5) (d := some 14) rfl rfl (by kernel_rfl) (by kernel_rfl) (by kernel_rfl) rfl (fun _ _ _ h => h) (by rfl) (fun w => by go_simp; try rfl) (fun _ => hS) ?_; simp only [Act.put, Ja, Jb, Jc]; refine Kaa (i := 6) (d := some 15) rfl rfl (by kernel_rfl) (by kernel_rfl) (by kernel_rfl) rfl (fun _ _ _ h => h) (by rfl) (fun w => by go_simp; try rfl) (fun _ => hS) ?_; simp only [Act.put, Ja, Jb, Jc]; refine Kaa (i := 7) (d := some 16) rfl rfl (by kernel_rfl) (by kernel_rfl) (by kernel_rfl) rfl (fun _ _ _ h => h) (by rfl) (fun w => by go_simp; try rfl) (fun _ => hS) ?_; simp only [Act.put, Ja, Jb, Jc]; refine Kai (i := 8) (d := some 17) rfl rfl (by kernel_rfl) (by kernel_rfl) (by kernel_rfl) (by kernel_rfl) rfl (fun _ _ _ h => h) (.inl ⟨by rfl, fun w hw => by (obtain ⟨ha, hb⟩ := hw; go_simp; try rfl)⟩) hS ?_; simp only [Act.put, Ja, Jb, Jc]; refine Kac (i := 9) (by kernel_rfl) rfl rfl ?_; refine Oper.wp_called (d := some 18) (w1 := w.drew) (g := 148) (args := #[.string S, .int .i64 (i : Int)]) rfl (by go_simp; try rfl) (N := fun u w' => Below w.heap.size w w' ∧ ((∃ v j, u = .tuple #[v, .int .i64 ((j : Nat) : Int), .int .i64 0] ∧ OK v j w') ∨ (BAD ∧ ∃ v n f, f ≠ 0 ∧ u = .tuple #[v, n, .int .i64 ((f : Nat) : Int)]))) (HC.out.mono ?_) ?_
 ·rintro _ w2 ⟨hb, ⟨v, j, rfl, hok⟩ | ⟨hbad, v, n, f, hf, rfl⟩⟩
  ·exact ⟨_, rfl, hb, .inl ⟨v, j, rfl, hok⟩⟩
  ·exact ⟨_, rfl, hb, .inr ⟨hbad, v, n, f, hf, rfl⟩⟩
 ·rintro _ w2 ⟨hb, ⟨v, j, rfl, hok⟩ | ⟨hbad, v, n, f, hf, rfl⟩⟩
  ·refine ⟨fun h => absurd h (by decide), ?_⟩; simp only [Act.put, Ja, Jb, Jc]; refine Kaa (i := 10) (d := some 8) rfl rfl (by kernel_rfl) (by kernel_rfl) (by kernel_rfl) rfl (fun _ _ _ h => h) (by rfl) (fun w => by go_simp; try rfl) (fun h => absurd h (by decide)) ?_; simp only [Act.put, Ja, Jb, Jc]; refine Kaa (i := 11) (d := some 19) rfl rfl (by kernel_rfl) (by kernel_rfl) (by kernel_rfl) rfl (fun _ _ _ h => h) (by rfl) (fun w => by go_simp; try rfl) (fun h => absurd h (by decide)) ?_; simp only [Act.put, Ja, Jb, Jc]; refine Kaa (i := 12) (d := some 20) rfl rfl (by kernel_rfl) (by kernel_rfl) (by kernel_rfl) rfl (fun _ _ _ h => h) (by rfl) (fun w => by go_simp; try rfl) (fun h => absurd h (by decide)) ?_; simp only [Act.put, Ja, Jb, Jc]; refine Kaa (i := 13) (d := some 21) rfl rfl (by kernel_rfl) (by kernel_rfl) (by kernel_rfl) rfl (fun _ _ _ h => h) (by rfl) (fun w => by go_simp; try rfl) (fun h => absurd h (by decide)) ?_; simp only [Act.put, Ja, Jb, Jc]; refine Kaa (i := 14) (d := some 5) rfl rfl (by kernel_rfl) (by kernel_rfl) (by kernel_rfl) rfl (fun _ _ _ h => h) (by rfl) (fun w => by go_simp; try rfl) (fun h => absurd h (by decide)) ?_; simp only [Act.put, Ja, Jb, Jc]; refine Kaa (i := 15) (d := some 6) rfl rfl (by kernel_rfl) (by kernel_rfl) (by kernel_rfl) rfl (fun _ _ _ h => h) (by rfl) (fun w => by go_simp; try rfl) (fun h => absurd h (by decide)) ?_; simp only [Act.put, Ja, Jb, Jc]; refine Kaa (i := 16) (d := some 7) rfl rfl (by kernel_rfl) (by kernel_rfl) (by kernel_rfl) rfl (fun _ _ _ h => h) (by rfl) (fun w => by go_simp; try rfl) (fun h => absurd h (by decide)) ?_; simp only [Act.put, Ja, Jb, Jc]; refine Kao (by kernel_rfl) ?_ _; have HOK := Jh hok; have HB := Jh hb; have hq := (show Blk w _ _ _ from H.out).below hb (show Blk w _ _ _ from H.out).lt; have d0 : w2.cell? ⟨pr, 0, none⟩ = some (.string S) := hq.cell 0; have d1 : w2.cell? ⟨pr, 1, none⟩ = some (.int .i64 (i : Int)) := hq.cell 1; have f1 : w2.frozen? ⟨pr, 1, none⟩ = false := hq.frozen 1; clear hok hb hq hS c0 c1; go_wp2_with fail
   go_ret
   exact .inl ⟨v, j, w2, rfl, HOK.out, HB.out, rfl⟩
  ·have e0 : ((f : Int) != 0) = true := by simp; omega
   refine ⟨fun h => absurd h (by decide), ?_⟩; simp only [Act.put, Ja, Jb, Jc]; refine Kaa (i := 10) (d := some 8) rfl rfl (by kernel_rfl) (by kernel_rfl) (by kernel_rfl) rfl (fun _ _ _ h => h) (by rfl) (fun w => by go_simp; try rfl) (fun h => absurd h (by decide)) ?_; simp only [Act.put, Ja, Jb, Jc]; refine Kaa (i := 11) (d := some 19) rfl rfl (by kernel_rfl) (by kernel_rfl) (by kernel_rfl) rfl (fun _ _ _ h => h) (by rfl) (fun w => by go_simp; try rfl) (fun h => absurd h (by decide)) ?_; simp only [Act.put, Ja, Jb, Jc]; refine Kaa (i := 12) (d := some 20) rfl rfl (by kernel_rfl) (by kernel_rfl) (by kernel_rfl) rfl (fun _ _ _ h => h) (by rfl) (fun w => by go_simp; try rfl) (fun h => absurd h (by decide)) ?_; simp only [Act.put, Ja, Jb, Jc]; refine Kaa (i := 13) (d := some 21) rfl rfl (by kernel_rfl) (by kernel_rfl) (by kernel_rfl) rfl (fun _ _ _ h => h) (by rfl) (fun w => by go_simp; try rfl) (fun h => absurd h (by decide)) ?_; simp only [Act.put, Ja, Jb, Jc]; refine Kaa (i := 14) (d := some 5) rfl rfl (by kernel_rfl) (by kernel_rfl) (by kernel_rfl) rfl (fun _ _ _ h => h) (by rfl) (fun w => by go_simp; try rfl) (fun h => absurd h (by decide)) ?_; simp only [Act.put, Ja, Jb, Jc]; refine Kaa (i := 15) (d := some 6) rfl rfl (by kernel_rfl) (by kernel_rfl) (by kernel_rfl) rfl (fun _ _ _ h => h) (by rfl) (fun w => by go_simp; try rfl) (fun h => absurd h (by decide)) ?_; simp only [Act.put, Ja, Jb, Jc]; refine Kaa (i := 16) (d := some 7) rfl rfl (by kernel_rfl) (by kernel_rfl) (by kernel_rfl) rfl (fun _ _ _ h => h) (by rfl) (fun w => by go_simp; try rfl) (fun h => absurd h (by decide)) ?_; simp only [Act.put, Ja, Jb, Jc]; refine Kao (by kernel_rfl) ?_ _; have HB := Jh hb; clear hb hS c0 c1; go_wp2_with fail
   refine Kag rfl ?_; exact .inr ⟨hbad, f, hf, rfl, HB.out⟩
theorem Klr (pr i : Nat) (S : ByteArray) (w : World) (h : Rdr pr S i w) (OK : Value → Nat → World → Prop) (BAD : Prop) (hc : Calls Tryz.prog 93 #[.string S, .int .i64 (i : Int)] w.drew (TkO w OK BAD)) :
  Calls Tryz.prog 92 #[.pointer (some ⟨pr, 0, none⟩), .func (.func 93) #[] #[]] w (RdTk pr w OK BAD) := by
 have H := Jh h; have HC := Jh hc; have c0 : w.drew.cell? ⟨pr, 0, none⟩ = some (.string S) := (show Blk w _ _ _ from h).drew.cell 0; have c1 : w.drew.cell? ⟨pr, 1, none⟩ = some (.int .i64 (i : Int)) := (show Blk w _ _ _ from h).drew.cell 1; clear h hc; go_enter Tryz.func92, Tryz.ntmps92
 go_upto_region 1 with fail
 have hS : w.drew.cell? ⟨pr, 0, none⟩ = some (.string S) ∧ w.drew.cell? ⟨pr, 1, none⟩ = some (.int .i64 (i : Int)) := ⟨c0, c1⟩; refine Kat (fun w' => w'.cell? ⟨pr, 0, none⟩ = some (.string S) ∧ w'.cell? ⟨pr, 1, none⟩ = some (.int .i64 (i : Int))) 9 17 (by kernel_rfl) rfl ?_; rw [show Array.replicate 17 false = #[false, false, false, false, false, false, false, false, false, false, false, false, false, false, false, false, false] from rfl]; refine Kaa (i := 0) (d := some 9) rfl rfl (by kernel_rfl) (by kernel_rfl) (by kernel_rfl) rfl (fun _ _ _ h => h) (by rfl) (fun w => by go_simp; try rfl) (fun _ => hS) ?_; simp only [Act.put, Ja, Jb, Jc]; refine Kaa (i := 1) (d := some 10) rfl rfl (by kernel_rfl) (by kernel_rfl) (by kernel_rfl) rfl (fun _ _ _ h => h) (by rfl) (fun w => by go_simp; try rfl) (fun _ => hS) ?_; simp only [Act.put, Ja, Jb, Jc]; refine Kaa (i := 2) (d := some 11) rfl rfl (by kernel_rfl) (by kernel_rfl) (by kernel_rfl) rfl (fun _ _ _ h => h) (by rfl) (fun w => by go_simp; try rfl) (fun _ => hS) ?_; simp only [Act.put, Ja, Jb, Jc]; refine Kaa (i := 3) (d := some 12) rfl rfl (by kernel_rfl) (by kernel_rfl) (by kernel_rfl) rfl (fun _ _ _ h => h) (by rfl) (fun w => by go_simp; try rfl) (fun _ => hS) ?_; simp only [Act.put, Ja, Jb, Jc]; refine Kai (i := 4) (d := some 13) rfl rfl (by kernel_rfl) (by kernel_rfl) (by kernel_rfl) (by kernel_rfl) rfl (fun _ _ _ h => h) (.inl ⟨by rfl, fun w hw => by (obtain ⟨ha, hb⟩ := hw; go_simp; try rfl)⟩) hS ?_; simp only [Act.put, Ja, Jb, Jc]; refine Kaa (i := 5) (d := some 14) rfl rfl (by kernel_rfl) (by kernel_rfl) (by kernel_rfl) rfl (fun _ _ _ h => h) (by rfl) (fun w => by go_simp; try rfl) (fun _ => hS) ?_; simp only [Act.put, Ja, Jb, Jc]; refine Kaa (i := 6) (d := some 15) rfl rfl (by kernel_rfl) (by kernel_rfl) (by kernel_rfl) rfl (fun _ _ _ h => h) (by rfl) (fun w => by go_simp; try rfl) (fun _ => hS) ?_; simp only [Act.put, Ja, Jb, Jc]; refine Kaa (i := 7) (d := some 16) rfl rfl (by kernel_rfl) (by kernel_rfl) (by kernel_rfl) rfl (fun _ _ _ h => h) (by rfl) (fun w => by go_simp; try rfl) (fun _ => hS) ?_; simp only [Act.put, Ja, Jb, Jc]; refine Kai (i := 8) (d := some 17) rfl rfl (by kernel_rfl) (by kernel_rfl) (by kernel_rfl) (by kernel_rfl) rfl (fun _ _ _ h => h) (.inl ⟨by rfl, fun w hw => by (obtain ⟨ha, hb⟩ := hw; go_simp; try rfl)⟩) hS ?_; simp only [Act.put, Ja, Jb, Jc]; refine Kac (i := 9) (by kernel_rfl) rfl rfl ?_; refine Oper.wp_called (d := some 18) (w1 := w.drew) (g := 93) (args := #[.string S, .int .i64 (i : Int)]) rfl (by go_simp; try rfl) (N := fun u w' => Below w.heap.size w w' ∧ ((∃ v j, u = .tuple #[v, .int .i64 ((j : Nat) : Int), .int .i64 0] ∧ OK v j w') ∨ (BAD ∧ ∃ v n f, f ≠ 0 ∧ u = .tuple #[v, n, .int .i64 ((f : Nat) : Int)]))) (HC.out.mono ?_) ?_
 ·rintro _ w2 ⟨hb, ⟨v, j, rfl, hok⟩ | ⟨hbad, v, n, f, hf, rfl⟩⟩
  ·exact ⟨_, rfl, hb, .inl ⟨v, j, rfl, hok⟩⟩
  ·exact ⟨_, rfl, hb, .inr ⟨hbad, v, n, f, hf, rfl⟩⟩
 ·rintro _ w2 ⟨hb, ⟨v, j, rfl, hok⟩ | ⟨hbad, v, n, f, hf, rfl⟩⟩
  ·refine ⟨fun h => absurd h (by decide), ?_⟩; simp only [Act.put, Ja, Jb, Jc]; refine Kaa (i := 10) (d := some 8) rfl rfl (by kernel_rfl) (by kernel_rfl) (by kernel_rfl) rfl (fun _ _ _ h => h) (by rfl) (fun w => by go_simp; try rfl) (fun h => absurd h (by decide)) ?_; simp only [Act.put, Ja, Jb, Jc]; refine Kaa (i := 11) (d := some 19) rfl rfl (by kernel_rfl) (by kernel_rfl) (by kernel_rfl) rfl (fun _ _ _ h => h) (by rfl) (fun w => by go_simp; try rfl) (fun h => absurd h (by decide)) ?_; simp only [Act.put, Ja, Jb, Jc]; refine Kaa (i := 12) (d := some 20) rfl rfl (by kernel_rfl) (by kernel_rfl) (by kernel_rfl) rfl (fun _ _ _ h => h) (by rfl) (fun w => by go_simp; try rfl) (fun h => absurd h (by decide)) ?_; simp only [Act.put, Ja, Jb, Jc]; refine Kaa (i := 13) (d := some 21) rfl rfl (by kernel_rfl) (by kernel_rfl) (by kernel_rfl) rfl (fun _ _ _ h => h) (by rfl) (fun w => by go_simp; try rfl) (fun h => absurd h (by decide)) ?_; simp only [Act.put, Ja, Jb, Jc]; refine Kaa (i := 14) (d := some 5) rfl rfl (by kernel_rfl) (by kernel_rfl) (by kernel_rfl) rfl (fun _ _ _ h => h) (by rfl) (fun w => by go_simp; try rfl) (fun h => absurd h (by decide)) ?_; simp only [Act.put, Ja, Jb, Jc]; refine Kaa (i := 15) (d := some 6) rfl rfl (by kernel_rfl) (by kernel_rfl) (by kernel_rfl) rfl (fun _ _ _ h => h) (by rfl) (fun w => by go_simp; try rfl) (fun h => absurd h (by decide)) ?_; simp only [Act.put, Ja, Jb, Jc]; refine Kaa (i := 16) (d := some 7) rfl rfl (by kernel_rfl) (by kernel_rfl) (by kernel_rfl) rfl (fun _ _ _ h => h) (by rfl) (fun w => by go_simp; try rfl) (fun h => absurd h (by decide)) ?_; simp only [Act.put, Ja, Jb, Jc]; refine Kao (by kernel_rfl) ?_ _; have HOK := Jh hok; have HB := Jh hb; have hq := (show Blk w _ _ _ from H.out).below hb (show Blk w _ _ _ from H.out).lt; have d0 : w2.cell? ⟨pr, 0, none⟩ = some (.string S) := hq.cell 0; have d1 : w2.cell? ⟨pr, 1, none⟩ = some (.int .i64 (i : Int)) := hq.cell 1; have f1 : w2.frozen? ⟨pr, 1, none⟩ = false := hq.frozen 1; clear hok hb hq hS c0 c1; go_wp2_with fail
   go_ret
   exact .inl ⟨v, j, w2, rfl, HOK.out, HB.out, rfl⟩
  ·have e0 : ((f : Int) != 0) = true := by simp; omega
   refine ⟨fun h => absurd h (by decide), ?_⟩; simp only [Act.put, Ja, Jb, Jc]; refine Kaa (i := 10) (d := some 8) rfl rfl (by kernel_rfl) (by kernel_rfl) (by kernel_rfl) rfl (fun _ _ _ h => h) (by rfl) (fun w => by go_simp; try rfl) (fun h => absurd h (by decide)) ?_; simp only [Act.put, Ja, Jb, Jc]; refine Kaa (i := 11) (d := some 19) rfl rfl (by kernel_rfl) (by kernel_rfl) (by kernel_rfl) rfl (fun _ _ _ h => h) (by rfl) (fun w => by go_simp; try rfl) (fun h => absurd h (by decide)) ?_; simp only [Act.put, Ja, Jb, Jc]; refine Kaa (i := 12) (d := some 20) rfl rfl (by kernel_rfl) (by kernel_rfl) (by kernel_rfl) rfl (fun _ _ _ h => h) (by rfl) (fun w => by go_simp; try rfl) (fun h => absurd h (by decide)) ?_; simp only [Act.put, Ja, Jb, Jc]; refine Kaa (i := 13) (d := some 21) rfl rfl (by kernel_rfl) (by kernel_rfl) (by kernel_rfl) rfl (fun _ _ _ h => h) (by rfl) (fun w => by go_simp; try rfl) (fun h => absurd h (by decide)) ?_; simp only [Act.put, Ja, Jb, Jc]; refine Kaa (i := 14) (d := some 5) rfl rfl (by kernel_rfl) (by kernel_rfl) (by kernel_rfl) rfl (fun _ _ _ h => h) (by rfl) (fun w => by go_simp; try rfl) (fun h => absurd h (by decide)) ?_; simp only [Act.put, Ja, Jb, Jc]; refine Kaa (i := 15) (d := some 6) rfl rfl (by kernel_rfl) (by kernel_rfl) (by kernel_rfl) rfl (fun _ _ _ h => h) (by rfl) (fun w => by go_simp; try rfl) (fun h => absurd h (by decide)) ?_; simp only [Act.put, Ja, Jb, Jc]; refine Kaa (i := 16) (d := some 7) rfl rfl (by kernel_rfl) (by kernel_rfl) (by kernel_rfl) rfl (fun _ _ _ h => h) (by rfl) (fun w => by go_simp; try rfl) (fun h => absurd h (by decide)) ?_; simp only [Act.put, Ja, Jb, Jc]; refine Kao (by kernel_rfl) ?_ _; have HB := Jh hb; clear hb hS c0 c1; go_wp2_with fail
   refine Kag rfl ?_; exact .inr ⟨hbad, f, hf, rfl, HB.out⟩
theorem Klx (pr i : Nat) (S : ByteArray) (tv : Value) (w : World) (h : Rdr pr S i w) (OK : Value → Nat → World → Prop) (BAD : Prop) (hc : Calls Tryz.prog 150 #[tv, .string S, .int .i64 (i : Int)] w.drew (TkO w OK BAD)) :
  Calls Tryz.prog 149 #[.pointer (some ⟨pr, 0, none⟩), .func (.func 150) #[tv] #[]] w (RdTk pr w OK BAD) := by
 have H := Jh h; have HC := Jh hc; have c0 : w.drew.cell? ⟨pr, 0, none⟩ = some (.string S) := (show Blk w _ _ _ from h).drew.cell 0; have c1 : w.drew.cell? ⟨pr, 1, none⟩ = some (.int .i64 (i : Int)) := (show Blk w _ _ _ from h).drew.cell 1; clear h hc; go_enter Tryz.func149, Tryz.ntmps149
 go_upto_region 1 with fail
 have hS : w.drew.cell? ⟨pr, 0, none⟩ = some (.string S) ∧ w.drew.cell? ⟨pr, 1, none⟩ = some (.int .i64 (i : Int)) := ⟨c0, c1⟩; refine Kat (fun w' => w'.cell? ⟨pr, 0, none⟩ = some (.string S) ∧ w'.cell? ⟨pr, 1, none⟩ = some (.int .i64 (i : Int))) 9 17 (by kernel_rfl) rfl ?_; rw [show Array.replicate 17 false = #[false, false, false, false, false, false, false, false, false, false, false, false, false, false, false, false, false] from rfl]; refine Kaa (i := 0) (d := some 9) rfl rfl (by kernel_rfl) (by kernel_rfl) (by kernel_rfl) rfl (fun _ _ _ h => h) (by rfl) (fun w => by go_simp; try rfl) (fun _ => hS) ?_; simp only [Act.put, Ja, Jb, Jc]; refine Kaa (i := 1) (d := some 10) rfl rfl (by kernel_rfl) (by kernel_rfl) (by kernel_rfl) rfl (fun _ _ _ h => h) (by rfl) (fun w => by go_simp; try rfl) (fun _ => hS) ?_; simp only [Act.put, Ja, Jb, Jc]; refine Kaa (i := 2) (d := some 11) rfl rfl (by kernel_rfl) (by kernel_rfl) (by kernel_rfl) rfl (fun _ _ _ h => h) (by rfl) (fun w => by go_simp; try rfl) (fun _ => hS) ?_; simp only [Act.put, Ja, Jb, Jc]; refine Kaa (i := 3) (d := some 12) rfl rfl (by kernel_rfl) (by kernel_rfl) (by kernel_rfl) rfl (fun _ _ _ h => h) (by rfl) (fun w => by go_simp; try rfl) (fun _ => hS) ?_; simp only [Act.put, Ja, Jb, Jc]; refine Kai (i := 4) (d := some 13) rfl rfl (by kernel_rfl) (by kernel_rfl) (by kernel_rfl) (by kernel_rfl) rfl (fun _ _ _ h => h) (.inl ⟨by rfl, fun w hw => by (obtain ⟨ha, hb⟩ := hw; go_simp; try rfl)⟩) hS ?_; simp only [Act.put, Ja, Jb, Jc]; refine Kaa (i := 5) (d := some 14) rfl rfl (by kernel_rfl) (by kernel_rfl) (by kernel_rfl) rfl (fun _ _ _ h => h) (by rfl) (fun w => by go_simp; try rfl) (fun _ => hS) ?_; simp only [Act.put, Ja, Jb, Jc]; refine Kaa (i := 6) (d := some 15) rfl rfl (by kernel_rfl) (by kernel_rfl) (by kernel_rfl) rfl (fun _ _ _ h => h) (by rfl) (fun w => by go_simp; try rfl) (fun _ => hS) ?_; simp only [Act.put, Ja, Jb, Jc]; refine Kaa (i := 7) (d := some 16) rfl rfl (by kernel_rfl) (by kernel_rfl) (by kernel_rfl) rfl (fun _ _ _ h => h) (by rfl) (fun w => by go_simp; try rfl) (fun _ => hS) ?_; simp only [Act.put, Ja, Jb, Jc]; refine Kai (i := 8) (d := some 17) rfl rfl (by kernel_rfl) (by kernel_rfl) (by kernel_rfl) (by kernel_rfl) rfl (fun _ _ _ h => h) (.inl ⟨by rfl, fun w hw => by (obtain ⟨ha, hb⟩ := hw; go_simp; try rfl)⟩) hS ?_; simp only [Act.put, Ja, Jb, Jc]; refine Kac (i := 9) (by kernel_rfl) rfl rfl ?_; refine Oper.wp_called (d := some 18) (w1 := w.drew) (g := 150) (args := #[tv, .string S, .int .i64 (i : Int)]) rfl (by go_simp; try rfl) (N := fun u w' => Below w.heap.size w w' ∧ ((∃ v j, u = .tuple #[v, .int .i64 ((j : Nat) : Int), .int .i64 0] ∧ OK v j w') ∨ (BAD ∧ ∃ v n f, f ≠ 0 ∧ u = .tuple #[v, n, .int .i64 ((f : Nat) : Int)]))) (HC.out.mono ?_) ?_
 ·rintro _ w2 ⟨hb, ⟨v, j, rfl, hok⟩ | ⟨hbad, v, n, f, hf, rfl⟩⟩
  ·exact ⟨_, rfl, hb, .inl ⟨v, j, rfl, hok⟩⟩
  ·exact ⟨_, rfl, hb, .inr ⟨hbad, v, n, f, hf, rfl⟩⟩
 ·rintro _ w2 ⟨hb, ⟨v, j, rfl, hok⟩ | ⟨hbad, v, n, f, hf, rfl⟩⟩
  ·refine ⟨fun h => absurd h (by decide), ?_⟩; simp only [Act.put, Ja, Jb, Jc]; refine Kaa (i := 10) (d := some 8) rfl rfl (by kernel_rfl) (by kernel_rfl) (by kernel_rfl) rfl (fun _ _ _ h => h) (by rfl) (fun w => by go_simp; try rfl) (fun h => absurd h (by decide)) ?_; simp only [Act.put, Ja, Jb, Jc]; refine Kaa (i := 11) (d := some 19) rfl rfl (by kernel_rfl) (by kernel_rfl) (by kernel_rfl) rfl (fun _ _ _ h => h) (by rfl) (fun w => by go_simp; try rfl) (fun h => absurd h (by decide)) ?_; simp only [Act.put, Ja, Jb, Jc]; refine Kaa (i := 12) (d := some 20) rfl rfl (by kernel_rfl) (by kernel_rfl) (by kernel_rfl) rfl (fun _ _ _ h => h) (by rfl) (fun w => by go_simp; try rfl) (fun h => absurd h (by decide)) ?_; simp only [Act.put, Ja, Jb, Jc]; refine Kaa (i := 13) (d := some 21) rfl rfl (by kernel_rfl) (by kernel_rfl) (by kernel_rfl) rfl (fun _ _ _ h => h) (by rfl) (fun w => by go_simp; try rfl) (fun h => absurd h (by decide)) ?_; simp only [Act.put, Ja, Jb, Jc]; refine Kaa (i := 14) (d := some 5) rfl rfl (by kernel_rfl) (by kernel_rfl) (by kernel_rfl) rfl (fun _ _ _ h => h) (by rfl) (fun w => by go_simp; try rfl) (fun h => absurd h (by decide)) ?_; simp only [Act.put, Ja, Jb, Jc]; refine Kaa (i := 15) (d := some 6) rfl rfl (by kernel_rfl) (by kernel_rfl) (by kernel_rfl) rfl (fun _ _ _ h => h) (by rfl) (fun w => by go_simp; try rfl) (fun h => absurd h (by decide)) ?_; simp only [Act.put, Ja, Jb, Jc]; refine Kaa (i := 16) (d := some 7) rfl rfl (by kernel_rfl) (by kernel_rfl) (by kernel_rfl) rfl (fun _ _ _ h => h) (by rfl) (fun w => by go_simp; try rfl) (fun h => absurd h (by decide)) ?_; simp only [Act.put, Ja, Jb, Jc]; refine Kao (by kernel_rfl) ?_ _; have HOK := Jh hok; have HB := Jh hb; have hq := (show Blk w _ _ _ from H.out).below hb (show Blk w _ _ _ from H.out).lt; have d0 : w2.cell? ⟨pr, 0, none⟩ = some (.string S) := hq.cell 0; have d1 : w2.cell? ⟨pr, 1, none⟩ = some (.int .i64 (i : Int)) := hq.cell 1; have f1 : w2.frozen? ⟨pr, 1, none⟩ = false := hq.frozen 1; clear hok hb hq hS c0 c1; go_wp2_with fail
   go_ret
   exact .inl ⟨v, j, w2, rfl, HOK.out, HB.out, rfl⟩
  ·have e0 : ((f : Int) != 0) = true := by simp; omega
   refine ⟨fun h => absurd h (by decide), ?_⟩; simp only [Act.put, Ja, Jb, Jc]; refine Kaa (i := 10) (d := some 8) rfl rfl (by kernel_rfl) (by kernel_rfl) (by kernel_rfl) rfl (fun _ _ _ h => h) (by rfl) (fun w => by go_simp; try rfl) (fun h => absurd h (by decide)) ?_; simp only [Act.put, Ja, Jb, Jc]; refine Kaa (i := 11) (d := some 19) rfl rfl (by kernel_rfl) (by kernel_rfl) (by kernel_rfl) rfl (fun _ _ _ h => h) (by rfl) (fun w => by go_simp; try rfl) (fun h => absurd h (by decide)) ?_; simp only [Act.put, Ja, Jb, Jc]; refine Kaa (i := 12) (d := some 20) rfl rfl (by kernel_rfl) (by kernel_rfl) (by kernel_rfl) rfl (fun _ _ _ h => h) (by rfl) (fun w => by go_simp; try rfl) (fun h => absurd h (by decide)) ?_; simp only [Act.put, Ja, Jb, Jc]; refine Kaa (i := 13) (d := some 21) rfl rfl (by kernel_rfl) (by kernel_rfl) (by kernel_rfl) rfl (fun _ _ _ h => h) (by rfl) (fun w => by go_simp; try rfl) (fun h => absurd h (by decide)) ?_; simp only [Act.put, Ja, Jb, Jc]; refine Kaa (i := 14) (d := some 5) rfl rfl (by kernel_rfl) (by kernel_rfl) (by kernel_rfl) rfl (fun _ _ _ h => h) (by rfl) (fun w => by go_simp; try rfl) (fun h => absurd h (by decide)) ?_; simp only [Act.put, Ja, Jb, Jc]; refine Kaa (i := 15) (d := some 6) rfl rfl (by kernel_rfl) (by kernel_rfl) (by kernel_rfl) rfl (fun _ _ _ h => h) (by rfl) (fun w => by go_simp; try rfl) (fun h => absurd h (by decide)) ?_; simp only [Act.put, Ja, Jb, Jc]; refine Kaa (i := 16) (d := some 7) rfl rfl (by kernel_rfl) (by kernel_rfl) (by kernel_rfl) rfl (fun _ _ _ h => h) (by rfl) (fun w => by go_simp; try rfl) (fun h => absurd h (by decide)) ?_; simp only [Act.put, Ja, Jb, Jc]; refine Kao (by kernel_rfl) ?_ _; have HB := Jh hb; clear hb hS c0 c1; go_wp2_with fail
   refine Kag rfl ?_; exact .inr ⟨hbad, f, hf, rfl, HB.out⟩
end
section
open Go.RowKit
open Lib renaming hid → Jh
attribute [local go_sem ↓] Go.wp_at_zero Go.wp_at_succ
attribute [local go_sem] Later.cell
theorem Qbk {l : List Txt} {i : Nat} (hi : i < l.length) : (l.take (i + 1)).flatten = (l.take i).flatten ++ l[i]! := by
 rw [List.take_succ_eq_append_getElem hi, List.flatten_append, getElem!_pos l i hi]; simp
theorem Qdz {n a : Nat} (ha : a < 2 ^ n) : a ^^^ (2 ^ n - 1) = 2 ^ n - 1 - a := by
 have h := BitVec.toNat_not (x := BitVec.ofNat n a); rw [← BitVec.xor_allOnes, BitVec.toNat_xor, BitVec.toNat_allOnes, BitVec.toNat_ofNat, Nat.mod_eq_of_lt ha] at h; exact h
theorem Kny {a : Nat} (ha : a < 18446744073709551616) : a ^^^ 18446744073709551615 = 18446744073709551615 - a := Qdz (n := 64) ha
theorem Qfm {v : Int} (h1 : -9223372036854775808 ≤ v) (h2 : v ≤ 9223372036854775807) :
  bits .xor .u64 (IntKind.u64.wrap (wrap64 (v * 2))) (IntKind.u64.wrap (v / 9223372036854775808)) = ((zig v : Nat) : Int) := by
 rw [IntKind.wrap_u64, IntKind.wrap_u64]; unfold wrap64
 by_cases h : 0 ≤ v
 ·have e1 : ((v * 2 + 9223372036854775808) % 18446744073709551616 - 9223372036854775808) % 18446744073709551616 = ((zig v : Nat) : Int) := by unfold zig; rw [if_pos h]; omega
  have e2 : v / 9223372036854775808 % 18446744073709551616 = ((0 : Nat) : Int) := by omega
  rw [e1, e2, bits_xor_u64_nat _ _ (by have := Knp h1 h2; omega) (by decide), Nat.xor_zero]
 ·have e1 : ((v * 2 + 9223372036854775808) % 18446744073709551616 - 9223372036854775808) % 18446744073709551616 = ((18446744073709551615 - zig v : Nat) : Int) := by unfold zig; rw [if_neg h]; omega
  have e2 : v / 9223372036854775808 % 18446744073709551616 = ((18446744073709551615 : Nat) : Int) := by omega
  rw [e1, e2, bits_xor_u64_nat _ _ (by omega) (by decide), Kny (by omega)]; have := Knp h1 h2; omega
theorem Qde (v : Nat) : bits .and .u64 (v : Int) 1 = ((v % 2 : Nat) : Int) := by
 unfold bits; simp only [BitVec.ofInt_natCast]; have e : (BitVec.ofInt 64 1 : BitVec 64) = BitVec.ofNat 64 1 := rfl; show IntKind.u64.wrap (((BitVec.ofNat 64 v &&& BitVec.ofInt 64 1).toNat : Nat) : Int) = _
 rw [e, BitVec.toNat_and, BitVec.toNat_ofNat, BitVec.toNat_ofNat]
 have h1 : (v % 2 ^ 64) &&& (1 % 2 ^ 64) = v % 2 := by
  rw [show (1 % 2 ^ 64 : Nat) = 2 ^ 1 - 1 by decide, Nat.and_two_pow_sub_one_eq_mod]; omega
 rw [h1, IntKind.wrap_u64]; omega
theorem Kvd (a b : Int) : bits .xor .i64 a b = IntKind.i64.wrap (((BitVec.ofInt 64 a ^^^ BitVec.ofInt 64 b).toNat : Nat) : Int) := rfl
theorem Kzd {v : Nat} (h : v < 18446744073709551616) :
  bits .xor .i64 (wrap64 ((v : Int) / 2)) (wrap64 (-wrap64 (bits .and .u64 (v : Int) 1))) = unzig v := by
 rw [Qde, Kvd]; unfold wrap64; have e1 : ((v : Int) / 2 + 9223372036854775808) % 18446744073709551616 - 9223372036854775808 = ((v / 2 : Nat) : Int) := by omega
 rw [e1]; rcases Nat.mod_two_eq_zero_or_one v with h2 | h2
 ·have e2 : (-((((v % 2 : Nat) : Int) + 9223372036854775808) % 18446744073709551616 - 9223372036854775808) + 9223372036854775808) % 18446744073709551616 - 9223372036854775808 = ((0 : Nat) : Int) := by omega
  rw [e2, BitVec.ofInt_natCast, BitVec.ofInt_natCast, BitVec.toNat_xor, BitVec.toNat_ofNat, BitVec.toNat_ofNat, Nat.zero_mod, Nat.xor_zero, IntKind.wrap_i64]; unfold unzig; rw [if_pos h2]; omega
 ·have e2 : (-((((v % 2 : Nat) : Int) + 9223372036854775808) % 18446744073709551616 - 9223372036854775808) + 9223372036854775808) % 18446744073709551616 - 9223372036854775808 = -1 := by omega
  have e3 : (BitVec.ofInt 64 (-1) : BitVec 64) = BitVec.ofNat 64 18446744073709551615 := rfl; rw [e2, e3, BitVec.ofInt_natCast, BitVec.toNat_xor, BitVec.toNat_ofNat, BitVec.toNat_ofNat]; have e4 : (v / 2) % 2 ^ 64 = v / 2 := by omega
  have e5 : (18446744073709551615 : Nat) % 2 ^ 64 = 18446744073709551615 := by decide
  rw [e4, e5, Kny (by omega), IntKind.wrap_i64]; unfold unzig; rw [if_neg (by omega)]; omega
theorem Qck {s : List UInt8} {k : Int} {v n e : Nat} (h : Kan s k = (v, n, e)) : v < 18446744073709551616 := by
 unfold Kan at h
 split at h
 ·injection h with h1 h2; omega
 ·split at h
  ·injection h with h1 h2; omega
  ·rename_i v' n' hr
   injection h with h1 h2; have := (Kdo hr).1; omega
theorem Knc (n : Int) (h0 : 0 ≤ n) (h1 : n < 2 ^ 32) : IntKind.u32.wrap n = n := by
 rw [IntKind.wrap_u32]; omega
theorem Kyb {a b : Nat} (ha : a < 4294967296) (hb : b < 4294967296) : bits .and .u32 (a : Int) (b : Int) = ((a &&& b : Nat) : Int) := (bits_nat .u32 32 (by decide) Knc a b ha hb).1
theorem Kty {a b : Nat} (ha : a < 4294967296) (hb : b < 4294967296) : bits .or .u32 (a : Int) (b : Int) = ((a ||| b : Nat) : Int) := (bits_nat .u32 32 (by decide) Knc a b ha hb).2
theorem Kpz {a b : Nat} (ha : a < 4294967296) (hb : b < 4294967296) : bits .xor .u32 (a : Int) (b : Int) = ((a ^^^ b : Nat) : Int) := by
 have h : bits .xor .u32 (a : Int) (b : Int) = IntKind.u32.wrap (((BitVec.ofInt 32 (a : Int) ^^^ BitVec.ofInt 32 (b : Int)).toNat : Nat) : Int) := rfl; rw [h, BitVec.ofInt_natCast, BitVec.ofInt_natCast, BitVec.toNat_xor, BitVec.toNat_ofNat, BitVec.toNat_ofNat, Nat.mod_eq_of_lt (show a < 2 ^ 32 by omega), Nat.mod_eq_of_lt (show b < 2 ^ 32 by omega)]; exact Knc _ (Int.natCast_nonneg _) (by have := Khi ha hb; omega)
theorem Kfx {k x : Nat} (y : Nat) (h : x < 2 ^ k) : (y * 2 ^ k) ||| x = y * 2 ^ k + x := by
 have := Nat.shiftLeft_add_eq_or_of_lt h y; rw [Nat.shiftLeft_eq] at this; exact this.symm
theorem Qex {x1 x0 y1 y0 : Nat} (hx : x0 < 65536) (hy : y0 < 65536) : (x1 * 65536 + x0) ||| (y1 * 65536 + y0) = (x1 ||| y1) * 65536 + (x0 ||| y0) := by
 have e1 := Kfx (k := 16) x1 (show x0 < 2 ^ 16 from hx); have e2 := Kfx (k := 16) y1 (show y0 < 2 ^ 16 from hy); have e3 := Kfx (k := 16) (x1 ||| y1) (Nat.or_lt_two_pow (show x0 < 2 ^ 16 from hx) (show y0 < 2 ^ 16 from hy))
 have e4 : (x1 ||| y1) * 2 ^ 16 = x1 * 2 ^ 16 ||| y1 * 2 ^ 16 := by
  rw [← Nat.shiftLeft_eq, ← Nat.shiftLeft_eq, ← Nat.shiftLeft_eq, Nat.shiftLeft_or_distrib]
 have e16 : (65536 : Nat) = 2 ^ 16 := by decide
 rw [e16, ← e1, ← e2, ← e3, e4, Nat.or_assoc, Nat.or_assoc]; congr 1; rw [← Nat.or_assoc, ← Nat.or_assoc, Nat.or_comm x0]
theorem Kha (v : Nat) : v &&& 16711935 = v / 65536 % 256 * 65536 + v % 256 := by
 have h1 : (16711935 : Nat) = 255 <<< 16 ||| 255 := by decide
 have h2 : v &&& 255 = v % 256 := Nat.and_two_pow_sub_one_eq_mod v 8
 have h3 : v &&& (255 <<< 16) = ((v >>> 16) &&& 255) <<< 16 := by
  apply Nat.eq_of_testBit_eq; intro i; simp only [Nat.testBit_and, Nat.testBit_shiftLeft, Nat.testBit_shiftRight]
  by_cases h : 16 ≤ i
  ·simp [h, Nat.add_sub_cancel' h]
  ·simp [h]
 have h4 : (v >>> 16) &&& 255 = v / 65536 % 256 := by
  rw [Nat.shiftRight_eq_div_pow]; exact Nat.and_two_pow_sub_one_eq_mod _ 8
 rw [h1, Nat.and_or_distrib_left, h2, h3, h4, Nat.shiftLeft_eq]; exact Kfx (k := 16) _ (by omega)
def revN (v : Nat) : Nat := v % 256 * 16777216 + v / 256 % 256 * 65536 + v / 65536 % 256 * 256 + v / 16777216
theorem Qew {v : Nat} (hv : v < 4294967296) : ((v / 256) &&& 16711935) ||| ((v &&& 16711935) * 256) = (v / 65536 % 256 * 256 + v / 16777216) * 65536 + (v % 256 * 256 + v / 256 % 256) := by
 rw [Kha, Kha]; have e1 : (v / 65536 % 256 * 65536 + v % 256) * 256 = (v / 65536 % 256 * 256) * 65536 + v % 256 * 256 := by omega
 have e2 : v / 256 / 65536 % 256 = v / 16777216 := by omega
 rw [e1, e2, Qex (by omega) (by omega)]; have e3 := Kfx (k := 8) (v / 65536 % 256) (show v / 16777216 < 2 ^ 8 by omega); have e4 := Kfx (k := 8) (v % 256) (show v / 256 % 256 < 2 ^ 8 by omega); have e8 : (2 : Nat) ^ 8 = 256 := by decide
 rw [e8] at e3 e4; rw [Nat.or_comm (v / 16777216), Nat.or_comm (v / 256 % 256), e3, e4]
set_option maxHeartbeats 400000 in
theorem Krh (v : Int) (h1 : -9223372036854775808 ≤ v) (h2 : v ≤ 9223372036854775807) (w : World) :
  Calls Tryz.prog 46 #[.int .i64 v] w fun e w' => e = .returned (.string ⟨(intT v).toArray⟩) ∧ Below w.heap.size w w' := by
 have HU := Jh (fun w => Kax (zig v) (Knp h1 h2) w); go_enter Tryz.func46, Tryz.ntmps46
 go_wp2_with fail
 rw [Qfm h1 h2]; refine (HU.out w).mono ?_; rintro _ w1 ⟨rfl, hb⟩; go_wp2_with fail
 go_ret
 exact ⟨rfl, hb⟩
set_option maxHeartbeats 400000 in
theorem Kjp (s : ByteArray) (k : Int) (v n e : Nat) (hr : Kan s.data.toList k = (v, n, e)) (hs : s.size ≤ 140737488351232) (w : World) :
  Calls Tryz.prog 80 #[.string s, .int .i64 k] w fun en w' => en = .returned (.tuple #[.int .i64 (if e = 0 then unzig v else 0), .int .i64 (if e = 0 then (n : Int) else 0), .int .i64 e]) ∧ w = w' := by
 have HR := Jh (Kam s k v n e hr hs w); go_enter Tryz.func80, Tryz.ntmps80
 go_wp2_with fail
 refine HR.out.mono ?_; rintro _ w1 ⟨rfl, rfl⟩
 cases e with
 | succ e =>
  go_wp2_with fail
  go_ret3
  exact ⟨by simp, rfl⟩
 | zero =>
  go_wp2_with fail
  rw [Kzd (by have := Qck hr; omega)]; go_ret3
  exact ⟨rfl, rfl⟩
theorem Qge {v : Nat} (hv : v < 4294967296) : bits .or .u32 (bits .and .u32 ((v : Int) / 256) 16711935) (bits .and .u32 (v : Int) 16711935 * 256 % 4294967296) = (((v / 65536 % 256 * 256 + v / 16777216) * 65536 + (v % 256 * 256 + v / 256 % 256) : Nat) : Int) := by
 have e1 : (v : Int) / 256 = ((v / 256 : Nat) : Int) := by omega
 have e2 : ∀ x : Nat, x < 4294967296 → bits .and .u32 (x : Int) 16711935 = ((x &&& 16711935 : Nat) : Int) := fun x hx => Kyb hx (by decide)
 have e3 : ((v &&& 16711935 : Nat) : Int) * 256 % 4294967296 = (((v &&& 16711935) * 256 : Nat) : Int) := by rw [Kha]; omega
 rw [e1, e2 _ (by omega), e2 _ hv, e3, Kty (by rw [Kha]; omega) (by rw [Kha]; omega), Qew hv]
theorem Qem {v : Nat} (hv : v < 4294967296) {T : Int} (hT : T = (((v / 65536 % 256 * 256 + v / 16777216) * 65536 + (v % 256 * 256 + v / 256 % 256) : Nat) : Int)) :
  bits .or .u32 (T / 65536) (T * 65536 % 4294967296) = ((revN v : Nat) : Int) := by
 subst hT; have e1 : (((v / 65536 % 256 * 256 + v / 16777216) * 65536 + (v % 256 * 256 + v / 256 % 256) : Nat) : Int) / 65536 = ((v / 65536 % 256 * 256 + v / 16777216 : Nat) : Int) := by omega
 have e2 : (((v / 65536 % 256 * 256 + v / 16777216) * 65536 + (v % 256 * 256 + v / 256 % 256) : Nat) : Int) * 65536 % 4294967296 = (((v % 256 * 256 + v / 256 % 256) * 65536 : Nat) : Int) := by omega
 rw [e1, e2, Kty (by omega) (by omega), Nat.or_comm]; have e3 := Kfx (k := 16) (v % 256 * 256 + v / 256 % 256) (show v / 65536 % 256 * 256 + v / 16777216 < 2 ^ 16 by omega); have e16 : (2 : Nat) ^ 16 = 65536 := by decide
 rw [e16] at e3; rw [e3]; unfold revN; omega
set_option maxHeartbeats 400000 in
theorem Qci (v : Nat) (hv : v < 4294967296) (w : World) :
  Calls Tryz.prog 175 #[.int .u32 v] w fun e w' => e = .returned (.int .u32 (revN v : Nat)) ∧ w = w' := by
 go_enter Tryz.func175, Tryz.ntmps175
 go_wp2_with fail
 rw [Qem hv (Qge hv)]; go_ret
 exact ⟨rfl, rfl⟩
theorem Qab (a b c d : UInt8) (g : Nat) (w : World) (h0 : w.cell? ⟨g, 0, none⟩ = some (.int .u8 (a.toNat : Int))) (h1 : w.cell? ⟨g, 1, none⟩ = some (.int .u8 (b.toNat : Int))) (h2 : w.cell? ⟨g, 2, none⟩ = some (.int .u8 (c.toNat : Int))) (h3 : w.cell? ⟨g, 3, none⟩ = some (.int .u8 (d.toNat : Int))) :
  (convert 76 9 (.slice (some ⟨g, 0, none⟩) 4 4)).run Tryz.prog w = .ok (.string ⟨#[a, b, c, d]⟩) w :=
 run_convert_bytes_back w _ _ 5 ⟨g, 0, none⟩ 4 [a, b, c, d] Tryz.underlying76 Tryz.underlying5 Tryz.underlying9 (fun j hj => by
  match j, hj with
  | 0, _ => exact h0
  | 1, _ => exact h1
  | 2, _ => exact h2
  | 3, _ => exact h3
  | _ + 4, hj => simp at hj; omega)
theorem Qdv {a b c d r : Nat} (ha : a < 256) (hb : b < 256) (hc : c < 256) (hd : d < 256) (hr : a * 16777216 + b * 65536 + c * 256 + d = r) :
  (r : Int) / 16777216 = (a : Int) ∧ (r : Int) / 65536 % 256 = (b : Int) ∧ (r : Int) / 256 % 256 = (c : Int) ∧ (r : Int) % 256 = (d : Int) := by
 subst hr; refine ⟨?_, ?_, ?_, ?_⟩ <;> omega
set_option maxHeartbeats 400000 in
theorem Qak (v : Nat) (hv : v < 4294967296) (w : World) :
  Calls Tryz.prog 122 #[.int .u32 v] w fun e w' => e = .returned (.string ⟨(fourT v).toArray⟩) ∧ Below w.heap.size w w' := by
 have HR := Jh (Qci v hv w); obtain ⟨r, hr⟩ : ∃ r, revN v = r := ⟨_, rfl⟩; rw [hr] at HR; have hr2 : r < 4294967296 := by rw [← hr]; unfold revN; omega
 obtain ⟨b0, h0⟩ : ∃ b, UInt8.ofNat v = b := ⟨_, rfl⟩; obtain ⟨b1, h1⟩ : ∃ b, UInt8.ofNat (v / 256) = b := ⟨_, rfl⟩; obtain ⟨b2, h2⟩ : ∃ b, UInt8.ofNat (v / 65536) = b := ⟨_, rfl⟩; obtain ⟨b3, h3⟩ : ∃ b, UInt8.ofNat (v / 16777216) = b := ⟨_, rfl⟩; obtain ⟨p0, p1, p2, p3⟩ := Qdv (a := v % 256) (b := v / 256 % 256) (c := v / 65536 % 256) (d := v / 16777216) (by omega) (by omega) (by omega) (by omega) hr; have k0 : (r : Int) / 16777216 = (b0.toNat : Int) := by rw [p0, ← h0, UInt8.toNat_ofNat']
 have k1 : (r : Int) / 65536 % 256 = (b1.toNat : Int) := by rw [p1, ← h1, UInt8.toNat_ofNat']
 have k2 : (r : Int) / 256 % 256 = (b2.toNat : Int) := by rw [p2, ← h2, UInt8.toNat_ofNat']
 have k3 : (r : Int) % 256 = (b3.toNat : Int) := by rw [p3, ← h3, UInt8.toNat_ofNat']; omega
 have hcv := Qab b0 b1 b2 b3 w.heap.size (w.alloc (.cells #[.int .u8 ((r : Int) / 16777216), .int .u8 ((r : Int) / 65536 % 256), .int .u8 ((r : Int) / 256 % 256), .int .u8 ((r : Int) % 256)] 5)) (by rw [k0]; simp [go_sem]) (by rw [k1]; simp [go_sem]) (by rw [k2]; simp [go_sem]) (by rw [k3]; simp [go_sem]); have hb : Below w.heap.size w (w.alloc (.cells #[.int .u8 ((r : Int) / 16777216), .int .u8 ((r : Int) / 65536 % 256), .int .u8 ((r : Int) / 256 % 256), .int .u8 ((r : Int) % 256)] 5)) := (Below.refl _ _).alloc (Nat.le_refl _) _; have hfin : (⟨#[b0, b1, b2, b3]⟩ : ByteArray) = ⟨(fourT v).toArray⟩ := by rw [← h0, ← h1, ← h2, ← h3]; rfl
 have HFIN := Jh hfin; have HB := Jh hb; clear k0 k1 k2 k3 h0 h1 h2 h3 hr hfin hb p0 p1 p2 p3; go_enter Tryz.func122, Tryz.ntmps122
 go_wp2_with fail
 refine HR.out.mono ?_; rintro _ w1 ⟨rfl, rfl⟩; go_wp2_with fail
 go_ret
 exact ⟨by first | rfl | (rw [HFIN.out]; rfl), HB.out⟩
def Kca (w : World) : Prop := ∀ i, i < 16 → w.cell? ⟨0, i, none⟩ = some (.int .u32 (nibs.getD i 0 : Nat))
theorem Kca.below {B : Nat} {w w' : World} (h : Kca w) (hB : 0 < B) (hb : Below B w w') : Kca w' := fun i hi => (hb.cell (p := ⟨0, i, none⟩) hB).trans (h i hi)
theorem and15 {c : Nat} (h : c < 4294967296) : bits .and .u32 (c : Int) 15 = ((c % 16 : Nat) : Int) := by
 have h1 : bits .and .u32 (c : Int) 15 = ((c &&& 15 : Nat) : Int) := Kyb h (by decide); rw [h1]; congr 1; exact Nat.and_two_pow_sub_one_eq_mod c 4
theorem Kxp {c : Nat} (h : c < 4294967296) : bits .xor .u32 ((nibs.getD (c % 16) 0 : Nat) : Int) ((c : Int) / 16) = ((nibN c : Nat) : Int) := by
 have e1 : (c : Int) / 16 = ((c / 16 : Nat) : Int) := by omega
 rw [e1, Kpz (Kyl _) (by omega)]; rfl
theorem Qbc (Ao : Option Addr) (n c : Nat) (l : List Txt) (w : World) (h : Strs w Ao n l) (hn : n ≤ 140737488355328) (hs : ∀ s ∈ l, s.length ≤ 140737488355328) (hT : Kca w) :
  Calls Tryz.prog 123 #[.slice Ao n c] w fun e w' => e = .returned (.int .u32 (crcL l.flatten : Nat)) ∧ w = w' := by
 have hln := h.len; have HS := Jh hs; have HH := Jh h; have HT := Jh hT; clear hs h hT; go_enter Tryz.func123, Tryz.ntmps123
 go_wp2_with fail
 go_loopg [3, 9] n (fun g s3 s9 wr => ∃ i c : Nat, i + g = n ∧ s9 = .int .i64 (i : Int) ∧ s3 = .int .u32 (c : Int) ∧ c < 4294967296 ∧ crcF 4294967295 (l.take i).flatten = c ∧ wr = w)
 case atStart => exact ⟨0, 4294967295, by omega, rfl, rfl, by decide, rfl, rfl⟩
 case round =>
  obtain ⟨i, c, hig, rfl, rfl, hc, hcr, rfl⟩ := hrel; have HIG := Jh hig; have HCR := Jh hcr; clear hig hcr
  by_cases hi : i < n
  ·have el : decide ((i : Int) < (n : Int)) = true := by simp; omega
   have el' : decide (i < n) = true := by simp; omega
   have hiin : (i : Int) < (n : Int) := by omega
   obtain ⟨b, off, hXe, hbl, x0⟩ := HH.out.at_ hi; subst hXe; have hil : i < l.length := by omega
   obtain ⟨T, hT⟩ : ∃ T : ByteArray, (⟨l[i]!.toArray⟩ : ByteArray) = T := ⟨_, rfl⟩; have hTl : T.data.toList = l[i]! := by rw [← hT]
   have hTs : T.size ≤ 140737488355328 := by
    have := HS.out l[i]! (by rw [getElem!_pos l i hil]; exact List.getElem_mem _); rw [← hTl, Kaf] at this; exact this
   unfold txtV at x0; rw [hT] at x0; have hft := Qbk hil; rw [← hTl] at hft; have HFT := Jh hft; obtain ⟨og, rfl⟩ : ∃ x, x = gk := ⟨_, rfl⟩; clear hft hT hTl; go_wp2_with fail
   go_loopg [3, 15] T.size (fun g s3 s15 wr2 => ∃ j c : Nat, j + g = T.size ∧ s15 = .int .i64 (j : Int) ∧ s3 = .int .u32 (c : Int) ∧ c < 4294967296 ∧ crcF 4294967295 ((l.take i).flatten ++ T.data.toList.take j) = c ∧ wr2 = wr)
   case atStart => exact ⟨0, c, by omega, rfl, rfl, hc, by rw [List.take_zero, List.append_nil]; exact HCR.out, rfl⟩
   case round =>
    obtain ⟨j, c', hjg, rfl, rfl, hc', hcr', rfl⟩ := hrel; have HJG := Jh hjg; have HCR2 := Jh hcr'; clear hjg hcr'
    by_cases hj : j < T.size
    ·have fl : decide ((j : Int) < (T.size : Int)) = true := by simp; omega
     have fl' : decide (j < T.size) = true := by simp; omega
     have hjin : (j : Int) < (T.size : Int) := by omega
     have hbt := UInt8.toNat_lt T[j]; obtain ⟨c0, hc0⟩ : ∃ x, c' ^^^ T[j].toNat = x := ⟨_, rfl⟩; have hx0 : bits .xor .u32 (c' : Int) (T[j].toNat : Int) = (c0 : Int) := by rw [← hc0]; exact Kpz hc' (by omega)
     have hl0 : c0 < 4294967296 := by rw [← hc0]; exact Khi hc' (by omega)
     obtain ⟨i0, hi0⟩ : ∃ x, c0 % 16 = x := ⟨_, rfl⟩; have ha0 : bits .and .u32 (c0 : Int) 15 = (i0 : Int) := by rw [← hi0]; exact and15 hl0
     have hi16 : i0 < 16 := by omega
     obtain ⟨n0, hn0⟩ : ∃ x, nibs.getD i0 0 = x := ⟨_, rfl⟩; have hm0 := HT.out i0 hi16; rw [hn0] at hm0; obtain ⟨c1, hc1⟩ : ∃ x, nibN c0 = x := ⟨_, rfl⟩; have hy0 : bits .xor .u32 (n0 : Int) ((c0 : Int) / 16) = (c1 : Int) := by rw [← hn0, ← hi0, ← hc1]; exact Kxp hl0
     have hl1 : c1 < 4294967296 := by rw [← hc1]; exact Klj hl0
     obtain ⟨i1, hi1⟩ : ∃ x, c1 % 16 = x := ⟨_, rfl⟩; have ha1 : bits .and .u32 (c1 : Int) 15 = (i1 : Int) := by rw [← hi1]; exact and15 hl1
     have hi17 : i1 < 16 := by omega
     obtain ⟨n1, hn1⟩ : ∃ x, nibs.getD i1 0 = x := ⟨_, rfl⟩; have hm1 := HT.out i1 hi17; rw [hn1] at hm1; obtain ⟨c2, hc2⟩ : ∃ x, nibN c1 = x := ⟨_, rfl⟩; have hy1 : bits .xor .u32 (n1 : Int) ((c1 : Int) / 16) = (c2 : Int) := by rw [← hn1, ← hi1, ← hc2]; exact Kxp hl1
     have hl2 : c2 < 4294967296 := by rw [← hc2]; exact Klj hl1
     have hnext : crcF 4294967295 ((l.take i).flatten ++ T.data.toList.take (j + 1)) = c2 := by
      have e : T.data.toList.take (j + 1) = T.data.toList.take j ++ [T[j]] := by
       rw [List.take_add_one, List.getElem?_eq_getElem (by simpa using hj)]; simp [ByteArray.getElem_eq_getElem_data]
      rw [e, ← List.append_assoc, Qdi, HCR2.out, ← hc2, ← hc1, ← hc0]; rfl
     have HNX := Jh hnext; clear hnext hc0 hc1 hc2 hn0 hn1 hi0 hi1; go_wp2_with fail
     go_roundg (gk - 1)
     case measure => have := HJG.out; omega
     case rel => exact ⟨j + 1, c2, by have := HJG.out; omega, by go_num, rfl, hl2, HNX.out, rfl⟩
    ·have fl : decide ((j : Int) < (T.size : Int)) = false := by simp; omega
     have fl' : decide (j < T.size) = false := by simp; omega
     have hfull : crcF 4294967295 (l.take (i + 1)).flatten = c' := by
      have := HCR2.out; have e : T.data.toList.take j = T.data.toList := List.take_of_length_le (by rw [Kaf]; omega); rw [e, ← HFT.out] at this; exact this
     have HF := Jh hfull; clear hfull; go_wp2_with fail
     go_roundg (og - 1)
     case measure => have := HIG.out; omega
     case rel => exact ⟨i + 1, c', by have := HIG.out; omega, by go_num, rfl, hc', HF.out, rfl⟩
  ·have el : decide ((i : Int) < (n : Int)) = false := by simp; omega
   have el' : decide (i < n) = false := by simp; omega
   have hend : bits .xor .u32 IntKind.u32.max (c : Int) = ((crcL l.flatten : Nat) : Int) := by
    have h1 : bits .xor .u32 IntKind.u32.max (c : Int) = ((4294967295 ^^^ c : Nat) : Int) := Kpz (a := 4294967295) (by decide) hc; have h2 := HCR.out; rw [List.take_of_length_le (by omega)] at h2; rw [h1]; unfold crcL; rw [h2, Nat.xor_comm]
   go_wp2_with fail
   go_ret
   exact ⟨rfl, rfl⟩
def leV : List UInt8 → Nat
 | [] => 0
 | b :: l => b.toNat + 256 * leV l
theorem Qhd {l : List UInt8} (h : 4 ≤ l.length) : leV (l.take 4) = numT l := by
 match l, h with
 | a :: b :: c :: d :: r, _ =>
  simp only [List.take_succ_cons, List.take_zero, leV, numT]; omega
theorem Qce : ∀ l : List UInt8, leV l < 256 ^ l.length
 | [] => by simp [leV]
 | b :: l => by
  have := Qce l; have := UInt8.toNat_lt b; rw [leV, List.length_cons, Nat.pow_succ]; omega
theorem Qgs {v b : Nat} (hv : v < 16777216) (hb : b < 256) : bits .or .u32 ((v : Int) * 256) (b : Int) = ((b + 256 * v : Nat) : Int) := by
 have e1 : (v : Int) * 256 = ((v * 256 : Nat) : Int) := by omega
 rw [e1, Kty (by omega) (by omega)]; have e3 := Kfx (k := 8) v (show b < 2 ^ 8 from hb); have e8 : (2 : Nat) ^ 8 = 256 := by decide
 rw [e8] at e3; rw [e3]; congr 1; omega
theorem Kuy (s : ByteArray) (hs : 4 ≤ s.size) (hz : s.size ≤ 140737488355328) (w : World) :
  Calls Tryz.prog 185 #[.string s] w fun e w' => e = .returned (.int .u32 (numT s.data.toList : Nat)) ∧ w = w' := by
 have hfin := Qhd (l := s.data.toList) (by rw [Kaf]; exact hs); have HFIN := Jh hfin; clear hfin; have hl4 : (s.data.toList.take 4).length = 4 := by rw [List.length_take, Kaf]; omega
 go_enter Tryz.func185, Tryz.ntmps185
 go_wp2_with fail
 go_loopg [3, 4] 4 (fun g s3 s4 wr => ∃ v : Nat, g ≤ 4 ∧ s4 = .int .i64 ((g : Int) - 1) ∧ s3 = .int .u32 (v : Int) ∧ leV ((s.data.toList.take 4).drop g) = v ∧ wr = w)
 case atStart => exact ⟨0, by omega, rfl, rfl, by rw [List.drop_of_length_le (by omega)]; rfl, rfl⟩
 case round =>
  obtain ⟨v, hg4, rfl, rfl, hv, rfl⟩ := hrel; have hvl := Qce ((s.data.toList.take 4).drop gk); rw [hv, List.length_drop, hl4] at hvl
  by_cases hg : 0 < gk
  ·obtain ⟨j, rfl⟩ : ∃ j, gk = j + 1 := ⟨gk - 1, by omega⟩; have ej : ((j + 1 : Nat) : Int) - 1 = (j : Int) := by omega
   rw [ej]; have el : decide ((0 : Int) ≤ (j : Int)) = true := by simp
   have hj : j < s.size := by omega
   have hbt := UInt8.toNat_lt s[j]
   have hv24 : v < 16777216 := by
    refine Nat.lt_of_lt_of_le hvl ?_; have : 256 ^ (4 - (j + 1)) ≤ 256 ^ 3 := Nat.pow_le_pow_right (by decide) (by omega); exact this
   have hor := Qgs hv24 hbt
   have hn : leV ((s.data.toList.take 4).drop j) = s[j].toNat + 256 * v := by
    have hjl : j < (s.data.toList.take 4).length := by omega
    rw [List.drop_eq_getElem_cons hjl, leV, hv]; congr 2; rw [List.getElem_take]; simp [ByteArray.getElem_eq_getElem_data]
   have HN := Jh hn; clear hn hv hvl; go_wp2_with fail
   go_roundg j
   case measure => omega
   case rel => exact ⟨_, by omega, by go_num, rfl, HN.out, rfl⟩
  ·obtain rfl : gk = 0 := by omega
   have el : decide ((0 : Int) ≤ ((0 : Nat) : Int) - 1) = false := by simp
   rw [List.drop_zero, HFIN.out] at hv; subst hv; go_wp2_with fail
   go_ret
   exact ⟨rfl, rfl⟩
theorem Qhn {w : World} {b : Nat} {l : List Txt} (h : Blk w b 9 (l.map txtV).toArray) : Strs w (some ⟨b, 0, none⟩) l.length l :=
 ⟨rfl, fun _ => ⟨b, 0, rfl, h.lt, fun i x hx j v hv => by
  match j, hv with
  | 0, hv =>
   injection hv with hv; subst hv; have h1 := h.cell i; have h2 : (l.map txtV).toArray[i]? = some (txtV x) := by simp [hx]
   simpa [h2] using h1
  | j + 1, hv => simp [enc1] at hv⟩⟩
theorem Qec {a b : ByteArray} (h : a.data.toList = b.data.toList) : a = b := by
 cases a; cases b
 simp at h; rw [h]
theorem Kzb (s : ByteArray) (k : Nat) : (s.extract 0 k).data.toList = s.data.toList.take k := by
 simp only [ByteArray.data_extract, Array.toList_extract]; simp
theorem Kyp (s : ByteArray) (k : Nat) : (s.extract k s.size).data.toList = s.data.toList.drop k := by
 simp only [ByteArray.data_extract, Array.toList_extract]; rw [← Kaf, List.extract_eq_take_drop, List.take_of_length_le]; simp
theorem Kca.lt {w : World} (h : Kca w) : 0 < w.heap.size := Kdi (h 0 (by decide))
theorem Qgd {w : World} {b : Nat} {S : ByteArray} (h : Blk w b 9 #[.string S]) : Strs w (some ⟨b, 0, none⟩) 1 [S.data.toList] := Qhn (by unfold txtV; exact h)
theorem Kyg {w : World} {b c : Nat} {S : ByteArray} (h : Blk w b 9 #[.string S]) (hS : S.size ≤ 140737488355328) (hT : Kca w) :
  Calls Tryz.prog 123 #[.slice (some ⟨b, 0, none⟩) 1 c] w fun e w' => e = .returned (.int .u32 (crcL S.data.toList : Nat)) ∧ w = w' := by
 have h1 := Qbc (some ⟨b, 0, none⟩) 1 c [S.data.toList] w (Qgd h) (by decide) (fun s hs => by rw [List.mem_singleton.1 hs, Kaf]; exact hS) hT; have e : [S.data.toList].flatten = S.data.toList := by simp
 rw [e] at h1; exact h1
theorem Qai (s : ByteArray) (hs : s.size ≤ 140737488351232) (w : World) (hT : Kca w) :
  Calls Tryz.prog 47 #[.string s] w fun e w' => e = .returned (.string ⟨(sealT s.data.toList).toArray⟩) ∧ Below w.heap.size w w' := by
 obtain ⟨w1, hw1⟩ : ∃ x, w.alloc (.cells #[.string s] 9) = x := ⟨_, rfl⟩; have hb1 : Below w.heap.size w w1 := by rw [← hw1]; exact (Below.refl _ _).alloc (Nat.le_refl _) _
 have hk1 : Blk w1 w.heap.size 9 #[.string s] := by rw [← hw1]; exact Blk.new _ _ _
 have HC := Jh (Kyg (c := 1) hk1 (by omega) (hT.below hT.lt hb1)); have HF := Jh (fun w => Qak (crcL s.data.toList) (Kyh _) w); have HW := Jh hw1; obtain ⟨F, hF⟩ : ∃ F : ByteArray, (⟨(fourT (crcL s.data.toList)).toArray⟩ : ByteArray) = F := ⟨_, rfl⟩; have hF4 : F.size = 4 := by rw [← hF]; rfl
 have hfin : s ++ F = (⟨(sealT s.data.toList).toArray⟩ : ByteArray) := Qec (by rw [← hF]; simp [sealT, ByteArray.data_append]); rw [hF] at HF; have HFIN := Jh hfin; clear hw1 hk1 hfin hF; go_enter Tryz.func47, Tryz.ntmps47
 go_wp2_with fail
 rw [HW.out]; refine HC.out.mono ?_; rintro _ w2 ⟨rfl, rfl⟩; go_wp2_with fail
 refine (HF.out w1).mono ?_; rintro _ w2 ⟨rfl, hb2⟩; go_wp2_with fail
 rw [HFIN.out]; go_ret
 exact ⟨rfl, then_ hb1 hb2⟩
theorem Kkl (s : ByteArray) (hs : s.size ≤ 140737488351232) (w : World) (hT : Kca w) :
  Calls Tryz.prog 146 #[.string s] w fun e w' => e = .returned (match Kas s.data.toList with | .ok b => .tuple #[.string ⟨b.toArray⟩, .int .i64 0] | .error c => .tuple #[.string ⟨#[]⟩, .int .i64 (c : Int)]) ∧ Below w.heap.size w w' := by
 obtain ⟨n, hn⟩ : ∃ n, s.size = n := ⟨_, rfl⟩; have HN := Jh hn
 by_cases h4 : n < 4
 ·have d1 : decide ((n : Int) - 4 < 0) = true := by simp; omega
  have hu : Kas s.data.toList = .error 20 := by unfold Kas; rw [if_pos (by rw [Kaf]; omega)]
  rw [hu]; clear hu; go_enter Tryz.func146, Tryz.ntmps146
  go_wp2_with fail
  go_ret2
  exact ⟨rfl, Below.refl _ _⟩
 ·obtain ⟨m, rfl⟩ : ∃ m, n = m + 4 := ⟨n - 4, by omega⟩; have ej : ((m + 4 : Nat) : Int) - 4 = (m : Int) := by omega
  have d1 : decide ((m : Int) < 0) = false := by simp
  obtain ⟨X, hX⟩ : ∃ X, s.extract 0 m = X := ⟨_, rfl⟩; obtain ⟨Y, hY⟩ : ∃ Y, s.extract m (m + 4) = Y := ⟨_, rfl⟩; have hXl : X.data.toList = s.data.toList.take m := by rw [← hX]; exact Kzb s m
  have hYl : Y.data.toList = s.data.toList.drop m := by rw [← hY, ← hn]; exact Kyp s m
  have hXs : X.size = m := by rw [← Kaf, hXl, List.length_take, Kaf]; omega
  have hYs : Y.size = 4 := by rw [← Kaf, hYl, List.length_drop, Kaf]; omega
  have hu : Kas s.data.toList = if crcL X.data.toList = numT Y.data.toList then .ok X.data.toList else .error 22 := by
   unfold Kas; rw [Kaf, hn, if_neg (by omega), show m + 4 - 4 = m by omega, ← hXl, ← hYl]
  have HU := Jh hu; have HM := Jh (fun w' => Kuy Y (by omega) (by omega) w'); have hb1 : Below w.heap.size w (w.alloc (.cells #[.string X] 9)).drew := ((Below.refl _ _).alloc (Nat.le_refl _) _).drew; have hk1 : Blk (w.alloc (.cells #[.string X] 9)).drew w.heap.size 9 #[.string X] := Blk.new _ _ _; have HC := Jh (Kyg (c := 1) hk1 (by omega) (hT.below hT.lt hb1)); have HB := Jh hb1; clear hk1; have HX := Jh hX; have HY := Jh hY; obtain ⟨c1, hc1⟩ : ∃ c, crcL X.data.toList = c := ⟨_, rfl⟩; obtain ⟨c2, hc2⟩ : ∃ c, numT Y.data.toList = c := ⟨_, rfl⟩; rw [hc1] at HC; rw [hc2] at HM; rw [hc1, hc2] at HU; rw [hu, hc1, hc2]; clear hb1 hu hc1 hc2 hXl hYl; go_enter Tryz.func146, Tryz.ntmps146
  have b0 : (0 : Int) ≤ (m : Int) := by omega
  have b1 : (m : Int) ≤ (s.size : Int) := by omega
  have b2 : (m : Int) ≤ ((m + 4 : Nat) : Int) := by omega
  have b3 : (m : Int) ≤ (m : Int) + 4 := by omega
  have b4 : m ≤ s.size := by omega
  have b5 : m ≤ m + 4 := by omega
  go_upto_region 4 with fail
  go_region_held3 (fun _ => True) (go_keep) (first | (go_at_call 123; (try rw [HX.out]); with_reducible refine HC.out.mono ?_; rintro e w2 ⟨rfl, rfl⟩) | (go_at_call 185; (try rw [HY.out]); with_reducible refine (HM.out _).mono ?_; rintro e w3 ⟨rfl, rfl⟩))
  by_cases hcc : c1 = c2
  ·subst hcc; have e1 : ((c1 : Int) != (c1 : Int)) = false := by simp
   have hfin : (match (if c1 = c1 then Except.ok X.data.toList else Except.error 22 : Except Nat (List UInt8)) with | .ok b => Value.tuple #[.string ⟨b.toArray⟩, .int .i64 0] | .error c => .tuple #[.string ⟨#[]⟩, .int .i64 (c : Int)]) = .tuple #[.string X, .int .i64 0] := by rw [if_pos rfl]
   have HFIN := Jh hfin; clear hfin; go_wp2_with fail
   go_ret2
   exact ⟨congrArg Ending.returned HFIN.out.symm, HB.out⟩
  ·have e1 : ((c1 : Int) != (c2 : Int)) = true := by simp; omega
   go_wp2_with fail
   go_ret2
   exact ⟨by first | rfl | (rw [if_neg hcc]; rfl), HB.out⟩
theorem Klq {s : List UInt8} {c : Nat} (h : Kas s = .error c) : c = 20 ∨ c = 33 ∨ c ≠ 0 := by
 by_cases h0 : c = 0
 ·subst h0; unfold Kas at h
  split at h
  ·injection h with h; omega
  ·split at h
   ·cases h
   ·injection h with h; omega
 ·exact .inr (.inr h0)
def OpenO (w : World) (r : Except Nat (List UInt8)) (e : Ending) (w' : World) : Prop := match r with
 | .ok b => ∃ p, e = .returned (.pointer (some ⟨p, 0, none⟩)) ∧ w.heap.size ≤ p ∧ Rdr p ⟨b.toArray⟩ 0 w' ∧ Below w.heap.size w w'
 | .error _ => (∃ f, f ≠ 0 ∧ e = Kaq f) ∧ Below w.heap.size w w'
theorem Kgq (s : ByteArray) (hs : s.size ≤ 140737488351232) (w : World) (hT : Kca w) : Calls Tryz.prog 76 #[.string s] w (OpenO w (Kas s.data.toList)) := by
 have hu := Kkl s hs w hT; obtain ⟨R, hR⟩ : ∃ R, Kas s.data.toList = R := ⟨_, rfl⟩; rw [hR] at hu ⊢
 cases R with
 | error c =>
  have hc : c ≠ 0 := by
   rcases Klq hR with h | h | h
   ·omega
   ·omega
   ·exact h
  have e0 : ((c : Int) != 0) = true := by simp; omega
  have HU := Jh hu; clear hu hR; go_enter Tryz.func76, Tryz.ntmps76
  go_wp2_with fail
  refine HU.out.mono ?_; rintro _ w1 ⟨rfl, hb⟩; have HB := Jh hb; clear hb; go_wp2_with fail
  refine Kag rfl ?_; exact ⟨⟨c, hc, rfl⟩, HB.out⟩
 | ok b =>
  obtain ⟨X, hX⟩ : ∃ X : ByteArray, (⟨b.toArray⟩ : ByteArray) = X := ⟨_, rfl⟩; unfold OpenO; dsimp only at hu ⊢; rw [hX] at hu ⊢; have HU := Jh hu; clear hu hR hX; go_enter Tryz.func76, Tryz.ntmps76
  go_wp2_with fail
  refine HU.out.mono ?_; rintro _ w1 ⟨rfl, hb⟩; have HB := Jh hb; clear hb; go_wp2_with fail
  go_ret
  exact ⟨_, rfl, HB.out.size, Blk.new _ _ _, HB.out.alloc HB.out.size _⟩
theorem Kme (l : List Txt) (A : Option Addr) (n c : Nat) (w : World) (h : Strs w A n l) (hn : n ≤ 1048576) (hz : ∀ x ∈ l, x.length ≤ 140737488351232) (hT : Kca w) :
  Calls Tryz.prog 75 #[.slice A n c] w fun e w' => e = .returned (.int .i64 (Kbi l : Nat)) ∧ Below w.heap.size w w' := by
 have HL := Jh h.len; have HS := Jh h; have HT := Jh hT; have HZ := Jh hz; obtain ⟨R, hR⟩ : ∃ R, Kbi l = R := ⟨_, rfl⟩; rw [hR]; have HR := Jh hR; clear h hT hR hz; go_enter Tryz.func75, Tryz.ntmps75
 go_wp2_with fail
 go_loopg [9] n (fun g s9 wr => ∃ i : Nat, i + g = n ∧ s9 = .int .i64 (i : Int) ∧ Kbi (l.drop i) = R ∧ Below w.heap.size w wr)
 case atStart => exact ⟨0, by omega, rfl, by rw [List.drop_zero]; exact HR.out, Below.refl _ _⟩
 case round =>
  obtain ⟨i, hig, rfl, hbl, hbr⟩ := hrel; have HIG := Jh hig; have HBL := Jh hbl; have HBR := Jh hbr; clear hig hbl
  by_cases hi : i < n
  ·have el : decide (i < n) = true := by rw [decide_eq_true_eq]; omega
   have hil : i < l.length := by have := HL.out; omega
   obtain ⟨b, off, hA, hb, hc⟩ := (HS.out.below hbr).at_ hi; subst hA; have hd : l.drop i = l[i]! :: l.drop (i + 1) := by rw [getElem!_pos l i hil]; exact List.drop_eq_getElem_cons hil
   have hzi := HZ.out l[i]! (by rw [getElem!_pos l i hil]; exact List.getElem_mem hil); have hbl := HBL.out; rw [hd, Kbi] at hbl; obtain ⟨x, hx⟩ : ∃ x, l[i]! = x := ⟨_, rfl⟩; rw [hx] at hc hzi hbl; unfold txtV at hc; obtain ⟨X, hX⟩ : ∃ X : ByteArray, (⟨x.toArray⟩ : ByteArray) = X := ⟨_, rfl⟩; have hXd : X.data.toList = x := by rw [← hX]
   have hXs : X.size ≤ 140737488351232 := by rw [← Kaf, hXd]; exact hzi
   rw [hX] at hc; have hu := Kkl X hXs wr (Kca.below HT.out HT.out.lt HBR.out); rw [hXd] at hu; clear hd hx hX hXd hzi hXs
   cases hr : Kas x with
   | error cc =>
    rw [hr] at hu hbl
    have hc0 : cc ≠ 0 := by
     rcases Klq hr with h | h | h
     ·omega
     ·omega
     ·exact h
    have e0 : ((cc : Int) != 0) = true := by simp; omega
    have HU := Jh hu; have HBL2 := Jh hbl; clear hu hbl hr hbr; go_wp2_with fail
    refine HU.out.mono ?_; rintro _ w1 ⟨rfl, hb1⟩; have HB1 := Jh (then_ HBR.out hb1); clear hb1; go_wp2_with fail
    go_ret
    exact ⟨Kll (by rw [← HBL2.out]), HB1.out⟩
   | ok bb =>
    rw [hr] at hu hbl; obtain ⟨Y, hY⟩ : ∃ X : ByteArray, (⟨bb.toArray⟩ : ByteArray) = X := ⟨_, rfl⟩; dsimp only at hu hbl; rw [hY] at hu; have HU := Jh hu; have HBL2 := Jh hbl; clear hu hbl hr hbr hY; go_wp2_with fail
    refine HU.out.mono ?_; rintro _ w1 ⟨rfl, hb1⟩; have HB1 := Jh (then_ HBR.out hb1); clear hb1; go_wp2_with fail
    go_roundg (gk - 1)
    case measure => have := HIG.out; omega
    case rel => exact ⟨i + 1, by have := HIG.out; omega, by go_num, HBL2.out, HB1.out⟩
  ·have el : decide (i < n) = false := by rw [decide_eq_false_iff_not]; omega
   have hre : 190 = R := by
    have h1 := HBL.out; rw [List.drop_eq_nil_of_le (by have := HL.out; omega)] at h1; exact h1
   have HRE := Jh hre; clear hre; go_wp2_with fail
   go_ret
   exact ⟨Kll (by rw [← HRE.out]; rfl), HBR.out⟩
end
section
open Go.RowKit
def skipR (I : List UInt8) : Nat → Nat → Option Nat
 | 0, i => some i
 | k + 1, i => match ruAt I i with
  | none => none
  | some (_, i') => skipR I k i'
def setsR (t : List Txt) (I : List UInt8) : Nat → List (List Lb) → Nat → Option (List (List Lb) × Nat)
 | 0, S, i => some (S, i)
 | g + 1, S, i => if (unpR t I i).2.2 ≠ 0 then none else match ruAt I (unpR t I i).2.1 with
  | none => none
  | some (k, i2) => match skipR I k i2 with
   | none => none
   | some i3 => setsR t I g (S ++ [(unpR t I i).1]) i3
def keysR (I : List UInt8) (q : Lb) : Nat → List Nat → Nat → Option (List Nat × Nat)
 | 0, out, i => some (out, i)
 | g + 1, out, i => if (Kbh I i).2.2 ≠ 0 then none else if (Kbh I (Kbh I i).2.1).2.2 ≠ 0 then none else match postR I (Kbh I (Kbh I i).2.1).2.1 with
  | none => none
  | some (l, i3) => keysR I q g (if (⟨(Kbh I i).1, (Kbh I (Kbh I i).2.1).1⟩ : Lb) = q then l else out) i3
def Kic (I : List UInt8) (q : Lb) : Option (List Nat) := match tabR I 0 with
 | none => none
 | some (t, i0) => match ruAt I i0 with
  | none => none
  | some (n, i1) => match setsR t I n [] i1 with
   | none => none
   | some (S, i2) => match ruAt I i2 with
    | none => none
    | some (k, i3) => match keysR I q k [] i3 with
     | none => none
     | some (out, i4) => if i4 = I.length ∧ Kbl S = I.drop i2 then some out else none
theorem Kok {I : List UInt8} : ∀ (P : List (List UInt8)) {i : Nat} {r : List UInt8}, (∀ p ∈ P, p.length < 2 ^ 64) → I.drop i = lensT P ++ r → skipR I P.length i = some (i + (lensT P).length) ∧ I.drop (i + (lensT P).length) = r
 | [], i, r, _, h => ⟨rfl, by simpa [lensT] using h⟩
 | p :: P, i, r, hn, h => by
  have h' : I.drop i = uintT p.length ++ (lensT P ++ r) := by rw [h]; simp [lensT]
  obtain ⟨e1, e2⟩ := ru_of (hn p (by simp)) h'; obtain ⟨e3, e4⟩ := Kok P (fun q hq => hn q (by simp [hq])) e2; have hl : (lensT (p :: P)).length = (uintT p.length).length + (lensT P).length := by simp [lensT]
  rw [List.length_cons, skipR, e1]; dsimp only; rw [e3, hl, ← Nat.add_assoc]; exact ⟨rfl, e4⟩
theorem Kph {t : List Txt} (ha : Asc t) (ht : t.length < 2 ^ 64) {I : List UInt8} :
  ∀ (L : List Ser) (S : List (List Lb)) {i : Nat} {r : List UInt8}, (∀ s ∈ L, Kcp s.labels = 0 ∧ (∀ x ∈ texts s.labels, x ∈ t) ∧ (Kak s).length < 2 ^ 64 ∧ ∀ p ∈ Kak s, p.length < 2 ^ 64) → i ≤ I.length → I.drop i = L.flatMap (serT t) ++ r →
  setsR t I L.length S i = some (S ++ L.map Ser.labels, i + (L.flatMap (serT t)).length) ∧ I.drop (i + (L.flatMap (serT t)).length) = r
 | [], S, i, r, _, _, hI => ⟨by simp [setsR], by simpa using hI⟩
 | s :: L, S, i, r, hs, hi, hI => by
  obtain ⟨he, hm, hc, hp⟩ := hs s (by simp); have hI1 : I.drop i = pk t s.labels ++ (uintT (Kak s).length ++ (lensT (Kak s) ++ (L.flatMap (serT t) ++ r))) := by rw [hI]; simp [serT]
  obtain ⟨e1, e2⟩ := Kri ha ht he hm hi hI1; obtain ⟨e3, e4⟩ := ru_of hc e2; obtain ⟨e5, e6⟩ := Kok (Kak s) hp e4
  have hi2 : i + (pk t s.labels).length + (uintT (Kak s).length).length + (lensT (Kak s)).length ≤ I.length := by
   have := congrArg List.length hI1; simp only [List.length_drop, List.length_append] at this; have h3 := (Kab (Kak s).length).1; omega
  obtain ⟨e9, e10⟩ := Kph ha ht L (S ++ [s.labels]) (fun q hq => hs q (by simp [hq])) hi2 e6; have hl : ((s :: L).flatMap (serT t)).length = (pk t s.labels).length + (uintT (Kak s).length).length + (lensT (Kak s)).length + (L.flatMap (serT t)).length := by simp [serT]; omega
  rw [List.length_cons, setsR, e1]; dsimp only; rw [if_neg (by simp), e3]; dsimp only; rw [e5]; dsimp only; rw [e9, hl]; refine ⟨?_, ?_⟩
  ·rw [List.append_assoc]; simp only [List.singleton_append, List.map_cons, Option.some.injEq, Prod.mk.injEq, true_and]; omega
  ·rw [← e10]; congr 1; omega
theorem Kpc {I : List UInt8} {S : List (List Lb)} (hS : S.length ≤ 4611686018427387904) (q : Lb) : ∀ (K : List Lb) (out : List Nat) {i : Nat} {r : List UInt8}, K.Pairwise ltB → (∀ x ∈ K, x.n.length < 2 ^ 64 ∧ x.v.length < 2 ^ 64) → I.drop i = K.flatMap (keyT S) ++ r →
  keysR I q K.length out i = some (if q ∈ K then Kaj S q else out, i + (K.flatMap (keyT S)).length) ∧ I.drop (i + (K.flatMap (keyT S)).length) = r
 | [], out, i, r, _, _, h => ⟨by simp [keysR], by simpa using h⟩
 | x :: K, out, i, r, hp, hz, h => by
  have hc := List.pairwise_cons.1 hp; have h' : I.drop i = textT x.n ++ (textT x.v ++ (postT (Kaj S x) ++ (K.flatMap (keyT S) ++ r))) := by rw [h]; simp [keyT]
  obtain ⟨e1, e2⟩ := Kgy (hz x (by simp)).1 h'; obtain ⟨e3, e4⟩ := Kgy (hz x (by simp)).2 e2; have hl0 := Kft S x; obtain ⟨e5, e6⟩ := Qco (Kvq hS x) (by omega) e4; obtain ⟨e7, e8⟩ := Kpc hS q K (if x = q then Kaj S x else out) hc.2 (fun y hy => hz y (by simp [hy])) e6; have hl : ((x :: K).flatMap (keyT S)).length = (textT x.n).length + (textT x.v).length + (postT (Kaj S x)).length + (K.flatMap (keyT S)).length := by simp [keyT]; omega
  have hx : (⟨x.n, x.v⟩ : Lb) = x := rfl; rw [List.length_cons, keysR, e1]; dsimp only; rw [if_neg (by simp), e3]; dsimp only; rw [if_neg (by simp), e5]; dsimp only; rw [e7, hl]; refine ⟨?_, ?_⟩
  ·simp only [Option.some.injEq, Prod.mk.injEq]; refine ⟨?_, by omega⟩
   by_cases hq : x = q
   ·subst hq; have : x ∉ K := fun hm => Kec x (hc.1 x hm)
    rw [if_neg this, if_pos rfl, if_pos (by simp)]
   ·rw [if_neg hq]
    have : (q ∈ x :: K) ↔ q ∈ K := by
     rw [List.mem_cons]; exact ⟨fun h => h.resolve_left (fun e => hq e.symm), .inr⟩
    by_cases hk : q ∈ K
    ·rw [if_pos hk, if_pos (this.2 hk)]
    ·rw [if_neg hk, if_neg (fun h => hk (this.1 h))]
  ·rw [← e8]; congr 1; omega
theorem Kjz {S : List (List Lb)} {q : Lb} (h : q ∉ keysOf S) : Kaj S q = [] := by
 unfold Kaj; rw [List.filter_eq_nil_iff]; intro i hi; rw [decide_eq_true_eq]; intro hm; apply h; rw [(Kem S).2]; have hl := List.mem_range.1 hi; rw [List.getD_eq_getElem?_getD, List.getElem?_eq_getElem hl] at hm; exact ⟨S[i], List.getElem_mem hl, hm⟩
theorem Qaf {c : Cont} (hf : fitB c = true) (hb : Kfr c) (hz : ∀ x ∈ keysOf (Kae c), x.n.length < 2 ^ 64 ∧ x.v.length < 2 ^ 64) (hk : (keysOf (Kae c)).length < 2 ^ 64) (q : Lb) : Kic (Kba c) q = some (Kaj (Kae c) q) := by
 obtain ⟨h0, h1, h2, h3, h4, h5, h6⟩ := Kez.1 hf
 have hmem : ∀ s ∈ c.series, ∀ x ∈ texts s.labels, x ∈ tabOf (Kae c) := by
  intro s hs x hx; rw [(Keh (Kae c)).2]; exact List.mem_flatMap.2 ⟨s.labels, List.mem_map.2 ⟨s, hs, rfl⟩, hx⟩
 have hi0 : (Kba c).drop 0 = tabT (tabOf (Kae c)) ++ (uintT c.series.length ++ (c.series.flatMap (serT (tabOf (Kae c))) ++ Kbl (Kae c))) := rfl; obtain ⟨e4, k4⟩ := Kre (Keh (Kae c)).1 hb.tn hb.t hi0; obtain ⟨e5, k5⟩ := ru_of (Nat.lt_trans hb.n (by decide)) k4
 have hle : 0 + (tabT (tabOf (Kae c))).length + (uintT c.series.length).length ≤ (Kba c).length := by
  unfold Kba; simp only [List.length_append]; omega
 have hpn : ∀ s ∈ c.series, (Kak s).length < 2 ^ 64 := by
  intro s hs; have a1 := Kdw s.samples.length s.samples; have a2 : (aggsT s.windows).length ≤ 1 := by cases s.windows <;> simp [aggsT]
  have a3 := (hb.ser s hs).n; unfold Kak; rw [List.length_append, List.length_map]; omega
 obtain ⟨e6, k6⟩ := Kph (Keh (Kae c)).1 hb.tn c.series [] (fun s hs => ⟨Kje (h5 s hs).1, hmem s hs, hpn s hs, hb.p s hs⟩) hle k5; have k6' := k6; unfold Kbl at k6'; obtain ⟨e7, k7⟩ := ru_of hk k6'
 have hS : (Kae c).length ≤ 4611686018427387904 := by
  have := hb.n; unfold Kae; rw [List.length_map]; omega
 have k7' : (Kba c).drop _ = (keysOf (Kae c)).flatMap (keyT (Kae c)) ++ [] := k7.trans (List.append_nil _).symm; obtain ⟨e8, k8⟩ := Kpc hS q (keysOf (Kae c)) [] (Kem _).1 hz k7'
 have hout : (if q ∈ keysOf (Kae c) then Kaj (Kae c) q else []) = Kaj (Kae c) q := by
  split
  ·rfl
  ·rename_i h; exact (Kjz h).symm
 rw [hout] at e8
 have hend : 0 + (tabT (tabOf (Kae c))).length + (uintT c.series.length).length + (c.series.flatMap (serT (tabOf (Kae c)))).length + (uintT (keysOf (Kae c)).length).length + ((keysOf (Kae c)).flatMap (keyT (Kae c))).length = (Kba c).length := by
  unfold Kba Kbl; simp only [List.length_append]; omega
 unfold Kic; rw [e4]; dsimp only; rw [e5]; dsimp only; rw [e6]; dsimp only; rw [e7]; dsimp only; rw [e8]; dsimp only; rw [if_pos ⟨hend, k6.symm⟩]
def Kdp (S : List (List Lb)) (l : List Lb) (k : Nat) : Lb → List Nat := fun y => if y ∈ l.take k then Kaj S y ++ [S.length] else Kaj S y
theorem Kmi (S : List (List Lb)) (l : List Lb) : Kdp S l 0 = Kaj S := by funext y; simp [Kdp]
theorem Khc (S : List (List Lb)) (l : List Lb) (y : Lb) : Kaj (S ++ [l]) y = if y ∈ l then Kaj S y ++ [S.length] else Kaj S y := by
 unfold Kaj; rw [List.length_append, List.length_singleton, List.range_succ, List.filter_append]
 have h1 : (List.range S.length).filter (fun i => decide (y ∈ (S ++ [l]).getD i [])) = (List.range S.length).filter (fun i => decide (y ∈ S.getD i [])) := by
  apply List.filter_congr; intro i hi; rw [List.getD_eq_getElem?_getD, List.getD_eq_getElem?_getD, List.getElem?_append_left (List.mem_range.1 hi)]
 have h2 : (S ++ [l]).getD S.length [] = l := by simp [List.getD_eq_getElem?_getD]
 rw [h1]
 by_cases hy : y ∈ l
 ·rw [if_pos hy, List.filter_cons, List.filter_nil, h2, if_pos (decide_eq_true hy)]
 ·rw [if_neg hy, List.filter_cons, List.filter_nil, h2, if_neg (by simpa using hy), List.append_nil]
theorem Knw (S : List (List Lb)) (l : List Lb) : Kdp S l l.length = Kaj (S ++ [l]) := by
 funext y; rw [Khc, Kdp, List.take_length]
theorem Kxn : Kaj [] = fun _ => [] := rfl
theorem Kfu {l : List Lb} (h : Kcl l = true) : l.Nodup ∧ l ≠ [] ∧ l.length ≤ 8 ∧ (∀ x ∈ l, x.n.length ≤ 32 ∧ x.v.length ≤ 64) ∧ Kcp l = 0 := by
 have he := Kje h; unfold Kcl at h; rw [Bool.and_eq_true, decide_eq_true_eq, decide_eq_true_eq] at h; obtain ⟨h1, h2⟩ := h; have hm := h1; unfold Kav at h1
 split at h1
 ·cases h1
 ·split at h1
  ·cases h1
  ·rename_i h3 h4
   refine ⟨?_, fun e => h3 (by rw [e]; rfl), by omega, fun x hx => ?_, he⟩
   ·unfold names at h2; rw [List.pairwise_map] at h2; exact h2.imp fun hab e => by subst e; exact List.lt_irrefl _ hab
   ·obtain ⟨a, b⟩ := Kis h1 x hx; unfold fitN at a; unfold fitV at b; simp only [Bool.and_eq_true, decide_eq_true_eq] at a b; omega
theorem Qfz {c : Cont} {s : Ser} (h : Kdd c s = true) (h0 : 0 ≤ c.frm) (h1 : c.to_ ≤ 1125899906842625) (hv : ∀ x ∈ s.samples, x.v < 2 ^ 64) :
  (∀ p ∈ Kbs s.samples.length s.samples, (Kdj p).1 = Kcf p) ∧ (aggO s.windows).1 = aggT s.windows := by
 unfold Kdd at h
 split at h
 ·rename_i hr
  rw [Bool.and_eq_true, decide_eq_true_eq, Knd] at h; obtain ⟨hw, _, hi, hri⟩ := h; have hw0 : s.windows = [] := List.eq_nil_of_length_eq_zero hw; refine ⟨fun p hp => ?_, by rw [hw0]; rfl⟩; have hok := Ksw (fun x hx => (⟨by have := hi x hx; omega, by have := hi x hx; omega, hv x hx⟩ : SmpOk x)) hri hp; have hfit : fitC none 0 p = true := (Kmv p none 0).2 ⟨fun x hx => ⟨(hok.1 x hx).1, (hok.1 x hx).2.1⟩, hok.2.1, fun y x hy => (by cases hy), .inr (by have := hok.2.2; omega)⟩; unfold Kdj; rw [if_pos ((Kjw p).2 hfit)]
 ·rename_i hr
  rw [Bool.and_eq_true, Bool.and_eq_true, decide_eq_true_eq] at h; have hs0 : s.samples = [] := List.eq_nil_of_length_eq_zero h.1.2; refine ⟨fun p hp => by rw [hs0] at hp; simp [Kbs] at hp, ?_⟩; unfold aggO; rw [if_pos ((Kkm _ _ _).2 h.1.1)]
def Kdy {σ : Type} (part : σ → Nat → Option σ) (I : List UInt8) : Nat → σ → Nat → Option (σ × Nat)
 | 0, s, i => some (s, i)
 | k + 1, s, i => match ruAt I i with
  | none => none
  | some (n, i') => match part s n with
   | none => none
   | some s' => Kdy part I k s' i'
def serG {σ : Type} (each : σ → List Lb → σ) (part : σ → Nat → Option σ) (t : List Txt) (I : List UInt8) : Nat → σ → Nat → Option (σ × Nat)
 | 0, s, i => some (s, i)
 | g + 1, s, i => if (unpR t I i).2.2 ≠ 0 then none else match ruAt I (unpR t I i).2.1 with
  | none => none
  | some (k, i2) => match Kdy part I k (each s (unpR t I i).1) i2 with
   | none => none
   | some (s', i3) => serG each part t I g s' i3
def Kdc {σ : Type} (each : σ → List Lb → σ) (part : σ → Nat → Option σ) (I : List UInt8) (s : σ) : Option (σ × Nat) := match tabR I 0 with
 | none => none
 | some (t, i0) => match ruAt I i0 with
  | none => none
  | some (n, i1) => serG each part t I n s i1
def eachP (s : List Ser × Nat) (l : List Lb) : List Ser × Nat := (s.1 ++ [⟨l, [], []⟩], s.2)
def partP (res : Nat) (C : List UInt8) (s : List Ser × Nat) (n : Nat) : Option (List Ser × Nat) :=
 if s.2 + n ≤ C.length then (match decP res (s.1.getLast?.getD ⟨[], [], []⟩) ((C.drop s.2).take n) with | none => none | some a => some (s.1.dropLast ++ [a], s.2 + n)) else none
theorem Kkv (res : Nat) (I C : List UInt8) : ∀ (k : Nat) (out : List Ser) (a : Ser) (i j : Nat),
  Kdy (partP res C) I k (out ++ [a], j) i = (Kgx res I C k a i j).map fun x => ((out ++ [x.1], x.2.2), x.2.1)
 | 0, out, a, i, j => rfl
 | k + 1, out, a, i, j => by
  rw [Kdy, Kgx]
  cases hr : ruAt I i with
  | none => rfl
  | some x =>
   obtain ⟨n, i'⟩ := x; dsimp only; unfold partP; dsimp only; rw [List.getLast?_append, List.dropLast_concat]; simp only [List.getLast?_singleton, Option.some_or, Option.getD_some]
   by_cases hj : j + n ≤ C.length
   ·rw [if_pos hj, if_pos hj]
    cases hd : decP res a ((C.drop j).take n) with
    | none => rfl
    | some a' => exact Kkv res I C k out a' i' (j + n)
   ·rw [if_neg hj, if_neg hj]; rfl
theorem Koo (res : Nat) (t : List Txt) (I C : List UInt8) : ∀ (g : Nat) (out : List Ser) (i j : Nat),
  serG eachP (partP res C) t I g (out, j) i = (sersR t res I C g out i j).map fun x => ((x.1, x.2.2), x.2.1)
 | 0, out, i, j => rfl
 | g + 1, out, i, j => by
  rw [serG, sersR]
  by_cases he : (unpR t I i).2.2 ≠ 0
  ·rw [if_pos he, if_pos he]; rfl
  ·rw [if_neg he, if_neg he]
   cases hr : ruAt I (unpR t I i).2.1 with
   | none => rfl
   | some x =>
    obtain ⟨k, i2⟩ := x; dsimp only; unfold eachP; dsimp only; rw [Kkv]
    cases hp : Kgx res I C k ⟨(unpR t I i).1, [], []⟩ i2 j with
    | none => rfl
    | some y =>
     obtain ⟨s, i3, j3⟩ := y; dsimp only [Option.map_some]; exact Koo res t I C g (out ++ [s]) i3 j3
theorem Qfk {f : Fil} {M C I : List UInt8} (h1 : Kas f.mt = .ok M) (h2 : Kas f.ck = .ok C) (h3 : Kas f.ix = .ok I) : Kgb f = match ruAt M 0 with
  | none => none
  | some (r, m1) => match riAt M m1 with
   | none => none
   | some (a, m2) => match riAt M m2 with
    | none => none
    | some (b, _) => (Kdc eachP (partP (min r 9) C) I ([], 0)).map fun x => ⟨(min r 9 : Nat), a, b, x.1.1⟩ := by
 unfold Kgb; rw [h1, h2, h3]; dsimp only
 cases ruAt M 0 with
 | none => rfl
 | some x =>
  obtain ⟨r, m1⟩ := x; dsimp only
  cases riAt M m1 with
  | none => rfl
  | some x =>
   obtain ⟨a, m2⟩ := x; dsimp only
   cases riAt M m2 with
   | none => rfl
   | some x =>
    obtain ⟨b, m3⟩ := x; dsimp only; unfold Kdc
    cases tabR I 0 with
    | none => rfl
    | some x =>
     obtain ⟨t, i0⟩ := x; dsimp only
     cases ruAt I i0 with
     | none => rfl
     | some x =>
      obtain ⟨n, i1⟩ := x; dsimp only; rw [Koo]
      cases sersR t (min r 9) I C n [] i1 0 with
      | none => rfl
      | some x => rfl
theorem Kku {σ : Type} (s : σ) (I : List UInt8) : ∀ (k i : Nat), Kdy (fun s _ => some s) I k s i = (skipR I k i).map fun i => (s, i)
 | 0, i => rfl
 | k + 1, i => by
  rw [Kdy, skipR]
  cases ruAt I i with
  | none => rfl
  | some x => exact Kku s I k x.2
theorem Knh (t : List Txt) (I : List UInt8) : ∀ (g : Nat) (S : List (List Lb)) (i : Nat), serG (fun S l => S ++ [l]) (fun S _ => some S) t I g S i = setsR t I g S i
 | 0, S, i => rfl
 | g + 1, S, i => by
  rw [serG, setsR]
  by_cases he : (unpR t I i).2.2 ≠ 0
  ·rw [if_pos he, if_pos he]
  ·rw [if_neg he, if_neg he]
   cases hr : ruAt I (unpR t I i).2.1 with
   | none => rfl
   | some x =>
    obtain ⟨k, i2⟩ := x; dsimp only; rw [Kku]
    cases hp : skipR I k i2 with
    | none => rfl
    | some i3 => exact Knh t I g (S ++ [(unpR t I i).1]) i3
theorem Qfn (I : List UInt8) (q : Lb) : Kic I q = match Kdc (fun S l => S ++ [l]) (fun S _ => some S) I [] with
  | none => none
  | some (S, i2) => match ruAt I i2 with
   | none => none
   | some (k, i3) => match keysR I q k [] i3 with
    | none => none
    | some (out, i4) => if i4 = I.length ∧ Kbl S = I.drop i2 then some out else none := by
 unfold Kic Kdc
 cases tabR I 0 with
 | none => rfl
 | some x =>
  obtain ⟨t, i0⟩ := x; dsimp only
  cases ruAt I i0 with
  | none => rfl
  | some x =>
   obtain ⟨n, i1⟩ := x; dsimp only; rw [Knh]
   first | done | rfl | (cases setsR t I n [] i1 with | none => rfl | some x => rfl)
end
section
open Go.RowKit Go.Sort
attribute [local go_sem ↓] Go.wp_at_zero Go.wp_at_succ
attribute [local go_sem] Later.cell
theorem Kks (v : Value) (t : List Txt) (s : ByteArray) (k : Int) (w : World) (x : Txt) (n e : Nat) (hr : symR t s.data.toList k = (x, n, e)) (h : TabAt w v t) (hm : t.length * 16 ≤ 140737488351232) (hs : s.size ≤ 140737488351232) :
  Calls Tryz.prog 186 #[v, .string s, .int .i64 k] w fun en w' => en = .returned (.tuple #[txtV x, .int .i64 n, .int .i64 e]) ∧ w = w' := by
 obtain ⟨v1, n1, e1, h1⟩ : ∃ v n e, Kan s.data.toList k = (v, n, e) := ⟨_, _, _, rfl⟩; have H1 := Lib.hid h1; have hlen := Kqf v t w h; obtain ⟨A, c, hs', hc, _, htab⟩ := Khl v t w h; obtain ⟨m, hm'⟩ : ∃ m, t.length = m := ⟨_, rfl⟩; rw [symR, h1] at hr; dsimp only at hr; rw [hm'] at hr hlen hs' hc htab hm; have HLEN := Lib.hid hlen; clear hlen h hm'
 by_cases he : e1 = 0
 ·subst he; rw [if_neg (by simp)] at hr
  by_cases hv : m ≤ v1
  ·rw [if_pos hv] at hr; obtain ⟨rfl, rfl, rfl⟩ : [] = x ∧ 0 = n ∧ 50 = e := by simpa using hr
   have ev : decide ((m : Int) ≤ (v1 : Int)) = true := by simp; omega
   clear hr h1 htab; unfold txtV; go_enter Tryz.func186, Tryz.ntmps186
   go_wp2_with fail
   refine (Kam s k v1 n1 0 H1.out hs w).mono ?_; rintro _ w1 ⟨rfl, rfl⟩; go_wp2_with fail
   refine HLEN.out.mono ?_; rintro _ w1 ⟨rfl, rfl⟩; go_wp2_with fail
   go_ret3
   exact ⟨rfl, rfl⟩
  ·rw [if_neg hv] at hr; obtain ⟨hx, rfl, rfl⟩ : t[v1]! = x ∧ n1 = n ∧ 0 = e := by simpa using hr
   obtain ⟨p, rfl, hp⟩ := htab (by omega); obtain ⟨b, off, rfl, hbl, hcell⟩ := hs'.at_ (i := v1) (by omega); have hp0 : _ = some (Value.slice (some ⟨b, off, none⟩) m c) := hp.cell 0; rw [hx] at hcell; unfold txtV at hcell ⊢; obtain ⟨X, hX⟩ : ∃ X : ByteArray, (⟨x.toArray⟩ : ByteArray) = X := ⟨_, rfl⟩; rw [hX] at hcell ⊢; have ev : decide ((m : Int) ≤ (v1 : Int)) = false := by simp; omega
   clear hr h1 hx hX htab hp; go_enter Tryz.func186, Tryz.ntmps186
   go_wp2_with fail
   refine (Kam s k v1 n1 0 H1.out hs w).mono ?_; rintro _ w1 ⟨rfl, rfl⟩; go_wp2_with fail
   refine HLEN.out.mono ?_; rintro _ w1 ⟨rfl, rfl⟩; go_wp2_with fail
   go_ret3
   exact ⟨rfl, rfl⟩
 ·rw [if_pos he] at hr; obtain ⟨rfl, rfl, rfl⟩ : [] = x ∧ 0 = n ∧ e1 = e := by simpa using hr
  have ee : ((e1 : Int) != 0) = true := by simp; omega
  clear hr h1 htab; unfold txtV; go_enter Tryz.func186, Tryz.ntmps186
  go_wp2_with fail
  refine (Kam s k v1 n1 e1 H1.out hs w).mono ?_; rintro _ w1 ⟨rfl, rfl⟩; go_wp2_with fail
  go_ret3
  exact ⟨rfl, rfl⟩
def Kee (w : World) (R : List Lb × Nat × Nat) (en : Ending) (w' : World) : Prop :=
 ∃ A c, en = .returned (.tuple #[.slice A R.1.length c, .int .i64 (R.2.1 : Nat), .int .i64 (R.2.2 : Nat)]) ∧ Elems w' w'.heap.size 2 encLb A R.1.length R.1 ∧ R.1.length ≤ c ∧ Below w.heap.size w w' ∧ ∀ a, A = some a → w.heap.size ≤ a.block
theorem Kee.bad {w w' : World} {e : Nat} {en : Ending} (h : en = .returned (.tuple #[.slice none 0 0, .int .i64 0, .int .i64 (e : Nat)])) (hB : Below w.heap.size w w') : Kee w ([], 0, e) en w' :=
 ⟨none, 0, h, Elems.nil_, Nat.le_refl _, hB, fun a e => by cases e⟩
theorem Qbb {t : List Txt} {s : List UInt8} {g : Nat} {out : List Lb} {p : Nat} {R : List Lb × Nat × Nat} (h : unpL t s (g + 1) out p = R) {x y : Txt} {n1 e1 n2 e2 : Nat} (h1 : symR t s p = (x, n1, e1)) (h2 : symR t s n1 = (y, n2, e2)) :
  (if e1 ≠ 0 then ([], 0, e1) else if e2 ≠ 0 then ([], 0, e2) else if fitN x = false then ([], 0, 40) else if fitV y = false then ([], 0, 41) else if Kfj out x = true then ([], 0, 42) else unpL t s g (out ++ [⟨x, y⟩]) n2) = R := by
 rw [unpL, h1] at h; dsimp only at h; rw [h2] at h; exact h
end
end Go.Proofs.YtdoiekknhnbepaaGreatDoor
