/- Merged (what the claim wants of): LabCmpG, KeyMap, KeyMap2, KeyIter, SortRow, BlkListsA, BlkListsB, ChkRdB, RegFault. -/
import Derived.Test.YtdoiekknhnbepaaGreatDoorBap06
import Derived.Shelf.SlSortCmp.QuietGrown
import Derived.Test.YtdoiekknhnbepaaGreatDoorBap03
import Derived.WideKeyEntry
import Derived.DeepKeys4
import Derived.MapKept
import Derived.Carry
import Derived.Maps.Range
import Derived.Test.YtdoiekknhnbepaaGreatDoorBap05
import Derived.Maps.RangeWalk
import Derived.Test.YtdoiekknhnbepaaGreatDoorBap01
import Derived.Shelf.SlSortCmp.NoneTotal
import Derived.Test.YtdoiekknhnbepaaGreatDoorBap02
import Derived.Test.YtdoiekknhnbepaaGreatDoorBap04
set_option linter.unusedVariables false
set_option linter.unusedSimpArgs false
set_option maxRecDepth 100000
set_option maxHeartbeats 8000000
namespace Go.Proofs.YtdoiekknhnbepaaGreatDoor
section
open Go.RowKit Go.Sort
open Lib renaming hid → Jh
attribute [local go_sem ↓] Go.wp_at_zero Go.wp_at_succ
def Grown (w w' : World) : Prop := ∃ p : GrownBy, w' = grow (w.drewN p.n) p.os
section
variable {w w1 w2 : World}
theorem Grown.of (w : World) (q : Nat) (os : Array Obj) : Grown w (grow (w.drewN q) os) := ⟨⟨q, os⟩, rfl⟩
theorem Grown.refl (w : World) : Grown w w := ⟨⟨0, #[]⟩, by rw [grow_empty]; rfl⟩
theorem Grown.trans (h : Grown w w1) (k : Grown w1 w2) : Grown w w2 := by
 obtain ⟨p, rfl⟩ := h; obtain ⟨q, rfl⟩ := k; exact ⟨⟨p.n + q.n, p.os ++ q.os⟩, by show grow (grow ((w.drewN p.n).drewN q.n) p.os) q.os = _; rw [grow_grow, World.drewN_drewN]⟩
theorem Grown.below (h : Grown w w1) : Below w.heap.size w w1 := by
 obtain ⟨p, rfl⟩ := h; exact below_grown w p.n p.os
theorem Grown.alloc (h : Grown w w1) (o : Obj) : Grown w (w1.alloc o) := h.trans ⟨⟨0, #[o]⟩, by rw [alloc_eq_grow]; rfl⟩
theorem Grown.drew (h : Grown w w1) : Grown w w1.drew := h.trans ⟨⟨1, #[]⟩, by rw [grow_empty]; rfl⟩
end
structure Kdq (w0 : World) where
 w : World
 h : Grown w0 w
instance Kdq.some {w : World} : Nonempty (Kdq w) := ⟨⟨w, Grown.refl _⟩⟩
theorem Kdq.cell {w : World} (x : Kdq w) (b o : Nat) (hb : b < w.heap.size) : x.w.cell? ⟨b, o, none⟩ = w.cell? ⟨b, o, none⟩ := x.h.below.cell (p := ⟨b, o, none⟩) hb
attribute [local go_sem] Kdq.cell
theorem Kud {P : Program} {f : FuncId} {args : Array Value} {w : World} (x : Kdq w) {v : Value} (h : Calls P f args x.w fun e w' => e = .returned v ∧ Grown x.w w') :
  Calls P f args x.w fun e w'' => e = .returned v ∧ ∃ y : Kdq w, w'' = y.w :=
 h.mono fun _ w' ⟨he, hb⟩ => ⟨he, ⟨w', x.h.trans hb⟩, rfl⟩
theorem Kwk {P : Program} {f : FuncId} {args : Array Value} {w : World} (x : Kdq w) {v : Value} (h : Calls P f args x.w fun e w' => e = .returned v ∧ x.w = w') :
  Calls P f args x.w fun e w'' => e = .returned v ∧ ∃ y : Kdq w, w'' = y.w :=
 h.mono fun _ _ ⟨he, hb⟩ => ⟨he, x, hb.symm⟩
theorem Khs {P : Program} {id : Nat} {Q : Exit → Act → World → Prop} {a : Act} {w : World} {l : List Oper} (n : Nat) (hm : P.follows .mixedOrders = true) (hB : Region.lexTailB .any l.toArray n = true)
  (h : wpQuiet P l.toArray (fun w' => ∃ x : Kdq w, w' = x.w) (fun a' => ∀ w', (∃ x : Kdq w, w' = x.w) → wpList P l.toArray Q (l.drop n) a' w') (l.take n) a) : (Code.region id l.toArray true).wp P Q a w :=
 Kfa (C := fun w' => ∃ x : Kdq w, w' = x.w) n hm hB ⟨⟨w.drew, (Grown.refl _).drew⟩, rfl⟩ h
theorem Qff (x y : Lb) (W : World) :
  Calls Tryz.prog 130 #[.agg #[.string ⟨x.n.toArray⟩, .string ⟨x.v.toArray⟩], .agg #[.string ⟨y.n.toArray⟩, .string ⟨y.v.toArray⟩]] W fun e w' => e = .returned (.int .i64 (Lib.compareBytes x.n y.n)) ∧ Grown W w' := by
 refine (Kgn x y W).mono ?_; rintro e w' ⟨he, q, os, rfl⟩; exact ⟨he, Grown.of _ _ _⟩
theorem Kng (x y : Lb) (w : World) :
  Calls Tryz.prog 128 #[.agg #[.string ⟨x.n.toArray⟩, .string ⟨x.v.toArray⟩], .agg #[.string ⟨y.n.toArray⟩, .string ⟨y.v.toArray⟩]] w fun e w' => e = .returned (.int .i64 (cmp1 x y)) ∧ Grown w w' := by
 obtain ⟨ca, hca⟩ : ∃ ca, Lib.compareBytes x.n y.n = ca := ⟨_, rfl⟩; obtain ⟨cb, hcb⟩ : ∃ cb, Lib.compareBytes x.v y.v = cb := ⟨_, rfl⟩
 have hbn : ∀ W : World, Calls Tryz.prog 130 #[.agg #[.string ⟨x.n.toArray⟩, .string ⟨x.v.toArray⟩], .agg #[.string ⟨y.n.toArray⟩, .string ⟨y.v.toArray⟩]] W fun e w' => e = .returned (.int .i64 ca) ∧ Grown W w' := fun W => by
  have := Qff x y W; rwa [hca] at this
 have hco : ∀ W : World, Calls Tryz.prog 131 #[.string ⟨x.v.toArray⟩, .string ⟨y.v.toArray⟩] W fun e w' => e = .returned (.int .i64 cb) ∧ W = w' := fun W => by
  refine (Tryz.strings_Compare ⟨x.v.toArray⟩ ⟨y.v.toArray⟩ W).mono ?_; rintro e w' ⟨rfl, rfl⟩; exact ⟨by rw [← hcb], rfl⟩
 have hr : cmp1 x y = if ca ≠ 0 then ca else cb := by unfold cmp1; rw [hca, hcb]
 obtain ⟨rr, hrr⟩ : ∃ rr, (if ca ≠ 0 then ca else cb) = rr := ⟨_, rfl⟩; rw [hr, hrr]; have HRR := Jh hrr; clear hca hcb hr hrr; obtain ⟨N, hN⟩ : ∃ N : ByteArray, (⟨x.n.toArray⟩ : ByteArray) = N := ⟨_, rfl⟩; obtain ⟨V, hV⟩ : ∃ N : ByteArray, (⟨x.v.toArray⟩ : ByteArray) = N := ⟨_, rfl⟩; obtain ⟨N2, hN2⟩ : ∃ N : ByteArray, (⟨y.n.toArray⟩ : ByteArray) = N := ⟨_, rfl⟩; obtain ⟨V2, hV2⟩ : ∃ N : ByteArray, (⟨y.v.toArray⟩ : ByteArray) = N := ⟨_, rfl⟩; rw [hN, hV, hN2, hV2] at hbn ⊢; rw [hV, hV2] at hco; have HBN := Jh hbn; have HCO := Jh hco; clear hN hV hN2 hV2 hbn hco; go_enter Tryz.func128, Tryz.ntmps128
 go_upto_region 1 with fail
 obtain ⟨w1, hw1⟩ : ∃ x, (w.alloc (.cells #[.string N, .string V] 99)).alloc (.cells #[.string N2, .string V2] 99) = x := ⟨_, rfl⟩; have hb1 : Grown w w1 := by rw [← hw1]; exact ((Grown.refl _).alloc _).alloc _
 have hq : Blk w1 w.heap.size 99 #[.string N, .string V] := by rw [← hw1]; exact (Blk.new _ _ _).alloc _
 have hp : Blk w1 (w.heap.size + 1) 99 #[.string N2, .string V2] := by rw [← hw1]; exact Blk.newAt (by simp)
 rw [hw1]; obtain ⟨a, hA⟩ : ∃ a, w.heap.size = a := ⟨_, rfl⟩; rw [hA] at hq hp ⊢; clear hw1; have q0 : _ = some (Value.string N) := hq.cell 0; have q1 : _ = some (Value.string V) := hq.cell 1; have p0 : _ = some (Value.string N2) := hp.cell 0; have p1 : _ = some (Value.string V2) := hp.cell 1; have hql := hq.lt; have hpl := hp.lt; refine Khs 8 (by kernel_rfl) (by kernel_rfl) ?_; simp only [List.take_succ_cons, List.take_zero, List.drop_succ_cons, List.drop_zero]
 repeat (go_big_quiet_step ((first | (go_at_call 130; exact Kud _ (HBN.out _)) | (go_at_call 131; exact Kwk _ (HCO.out _)))))
 refine wpQuiet_nil ?_; rintro w2 ⟨⟨_, hb2⟩, rfl⟩; have hB2 : Grown w w2 := hb1.trans hb2; go_wp2_with fail
 have hg : Blk (w2.alloc (.cells #[.int .i64 ca, .int .i64 cb] 3)) w2.heap.size 3 #[.int .i64 ca, .int .i64 cb] := Blk.new _ _ _; refine (Kqj _ ca cb _ hg).mono ?_; rintro _ w3 ⟨rfl, rfl⟩; rw [HRR.out]; go_wp2_with fail
 go_ret
 exact ⟨rfl, by first | exact hB2.alloc _ | (rw [← hA]; exact hB2.alloc _)⟩
theorem Kjd (l m : List Lb) (A B : Option Addr) (n k ca cb : Nat) (w : World) (r : Int) (hr : cmpL l m = r) (hA : Elems w w.heap.size 2 encLb A n l) (hB : Elems w w.heap.size 2 encLb B k m) (hn : n ≤ 140737488351232) (hk : k ≤ 140737488351232) :
  Calls Tryz.prog 127 #[.slice A n ca, .slice B k cb, .func (.func 128) #[] #[]] w fun e w' => e = .returned (.int .i64 r) ∧ Grown w w' := by
 have hl := hA.len; have hm := hB.len; have HL := Jh hl; have HM := Jh hm; have HR := Jh hr; clear hl hm hr; go_enter Tryz.func127, Tryz.ntmps127
 go_wp2_with fail
 go_loopg [13] n (fun g s13 wr => ∃ i : Nat, i + g = n ∧ s13 = .int .i64 (i : Int) ∧ Grown w wr ∧ i ≤ k ∧ cmpL (l.drop i) (m.drop i) = r)
 case atStart => exact ⟨0, by omega, rfl, Grown.refl _, Nat.zero_le _, HR.out⟩
 case round =>
  obtain ⟨i, hig, rfl, hBw, hik, hcr⟩ := hrel; have HIG := Jh hig; have HCR := Jh hcr; clear hig hcr
  by_cases hi : i < n
  ·have el : decide ((i : Int) < (n : Int)) = true := by simp; omega
   have el' : decide (i < n) = true := by simp; omega
   have hil : i < l.length := by have := HL.out; omega
   have hdl : l.drop i = l[i]! :: l.drop (i + 1) := by rw [getElem!_pos l i hil]; exact List.drop_eq_getElem_cons hil
   obtain ⟨ba, oa, rfl, _, _⟩ := hA.2 (by omega); obtain ⟨hba, a0, a1⟩ := Kca hA (by omega) hBw.below i hil; obtain ⟨X, hX⟩ : ∃ N : ByteArray, (⟨l[i]!.n.toArray⟩ : ByteArray) = N := ⟨_, rfl⟩; obtain ⟨Y, hY⟩ : ∃ N : ByteArray, (⟨l[i]!.v.toArray⟩ : ByteArray) = N := ⟨_, rfl⟩; have HX := Jh hX; have HY := Jh hY; have HDL := Jh hdl; rw [hX] at a0; rw [hY] at a1; clear hX hY hdl
   by_cases hk2 : i < k
   ·have eg : decide ((k : Int) ≤ (i : Int)) = false := by simp; omega
    have eg' : decide (k ≤ i) = false := by simp; omega
    have him : i < m.length := by have := HM.out; omega
    have hdm : m.drop i = m[i]! :: m.drop (i + 1) := by rw [getElem!_pos m i him]; exact List.drop_eq_getElem_cons him
    obtain ⟨bb, ob, rfl, _, _⟩ := hB.2 (by omega); have hcmp := fun W => Kng l[i]! m[i]! W
    obtain ⟨X2, hX2⟩ : ∃ N : ByteArray, (⟨m[i]!.n.toArray⟩ : ByteArray) = N := ⟨_, rfl⟩; obtain ⟨Y2, hY2⟩ : ∃ N : ByteArray, (⟨m[i]!.v.toArray⟩ : ByteArray) = N := ⟨_, rfl⟩; have HX2 := Jh hX2; have HY2 := Jh hY2; have hcr := HCR.out; rw [HDL.out, hdm, Kqk] at hcr; obtain ⟨c, hc⟩ : ∃ c, cmp1 l[i]! m[i]! = c := ⟨_, rfl⟩; simp only [HX.out, HY.out, hX2, hY2, hc] at hcmp; rw [hc] at hcr; have HCMP := Jh hcmp; have HC1 := Jh hcr; clear hX2 hY2 hcmp hcr hc hdm; go_upto_region 4 with fail
    obtain ⟨w1, hw1⟩ : ∃ x, wr.alloc (.cells #[.string X, .string Y] 99) = x := ⟨_, rfl⟩; have hB1 : Grown w w1 := by rw [← hw1]; exact hBw.alloc _
    have hq : Blk w1 wr.heap.size 99 #[.string X, .string Y] := by rw [← hw1]; exact Blk.new _ _ _
    rw [hw1]; obtain ⟨p, hp⟩ : ∃ p, wr.heap.size = p := ⟨_, rfl⟩; rw [hp] at hq ⊢; obtain ⟨hbb, b0, b1⟩ := Kca hB (by omega) hB1.below i him; rw [HX2.out] at b0; rw [HY2.out] at b1; clear hw1 hp a0 a1 hBw; go_upto_region 7 with fail
    obtain ⟨w2, hw2⟩ : ∃ x, w1.alloc (.cells #[.string X2, .string Y2] 99) = x := ⟨_, rfl⟩; have hB2 : Grown w w2 := by rw [← hw2]; exact hB1.alloc _
    have hq2 : Blk w2 p 99 #[.string X, .string Y] := by rw [← hw2]; exact hq.alloc _
    have hr2 : Blk w2 w1.heap.size 99 #[.string X2, .string Y2] := by rw [← hw2]; exact Blk.new _ _ _
    rw [hw2]; obtain ⟨p2, hp2⟩ : ∃ p, w1.heap.size = p := ⟨_, rfl⟩; rw [hp2] at hr2 ⊢; clear hw2 hp2 b0 b1 hB1 hq; have q0 : _ = some (Value.string X) := hq2.cell 0; have q1 : _ = some (Value.string Y) := hq2.cell 1; have r0 : _ = some (Value.string X2) := hr2.cell 0; have r1 : _ = some (Value.string Y2) := hr2.cell 1; go_wp2_with fail
    refine (HCMP.out w2).mono ?_; rintro _ w3 ⟨rfl, hb3⟩; have hB3 := hB2.trans hb3
    by_cases h0 : c = 0
    ·subst h0; have h1 := HC1.out; rw [if_neg (by simp)] at h1; have HC2 := Jh h1; clear h1; go_wp2_with fail
     go_roundg (gk - 1)
     case measure => have := HIG.out; omega
     case rel => exact ⟨i + 1, by have := HIG.out; omega, by go_num, hB3, by omega, HC2.out⟩
    ·have e0 : (c != 0) = true := by simp [h0]
     have h1 := HC1.out; rw [if_pos h0] at h1; have HC2 := Jh h1; clear h1; go_wp2_with fail
     go_ret
     exact ⟨by rw [← HC2.out]; rfl, hB3⟩
   ·have eg : decide ((k : Int) ≤ (i : Int)) = true := by simp; omega
    have eg' : decide (k ≤ i) = true := by simp; omega
    have hdm : m.drop i = [] := List.drop_eq_nil_of_le (by have := HM.out; omega); have hcr := HCR.out; rw [HDL.out, hdm] at hcr; have h1 : (1 : Int) = r := hcr; have H1 := Jh h1; clear hdm hcr h1; go_wp2_with fail
    go_ret
    exact ⟨by rw [← H1.out]; rfl, hBw.alloc _⟩
  ·have hin : i = n := by have := HIG.out; omega
   subst hin; have hdl : l.drop i = [] := List.drop_eq_nil_of_le (by have := HL.out; omega); have hcr := HCR.out; rw [hdl] at hcr; have el : decide ((i : Int) < (i : Int)) = false := by simp
   by_cases hk2 : i < k
   ·have eg : decide ((i : Int) < (k : Int)) = true := by simp; omega
    have eg' : decide (i < k) = true := by simp; omega
    have him : i < m.length := by have := HM.out; omega
    have hdm : m.drop i = m[i] :: m.drop (i + 1) := List.drop_eq_getElem_cons him; rw [hdm] at hcr; have h1 : (-1 : Int) = r := hcr; have H1 := Jh h1; clear hdm hcr h1 hdl; go_wp2_with fail
    go_ret
    exact ⟨by rw [← H1.out]; rfl, hBw⟩
   ·have eg : decide ((i : Int) < (k : Int)) = false := by simp; omega
    have eg' : decide (i < k) = false := by simp; omega
    have hdm : m.drop i = [] := List.drop_eq_nil_of_le (by have := HM.out; omega); rw [hdm] at hcr; have h1 : (0 : Int) = r := hcr; have H1 := Jh h1; clear hdm hcr h1 hdl; go_wp2_with fail
    go_ret
    exact ⟨by rw [← H1.out]; rfl, hBw⟩
set_option maxHeartbeats 400000 in
theorem Koc (l m : List Lb) (A B : Option Addr) (n k ca cb : Nat) (w : World) (r : Int) (hr : cmpL l m = r) (hA : Elems w w.heap.size 2 encLb A n l) (hB : Elems w w.heap.size 2 encLb B k m) (hn : n ≤ 140737488351232) (hk : k ≤ 140737488351232) :
  Calls Tryz.prog 60 #[.slice A n ca, .slice B k cb] w fun e w' => e = .returned (.int .i64 r) ∧ Grown w w' := by
 have HC := Jh (Kjd l m A B n k ca cb w r hr hA hB hn hk); clear hr; go_enter Tryz.func60, Tryz.ntmps60
 go_wp2_with fail
 refine HC.out.mono ?_; rintro _ w1 ⟨rfl, hb⟩; go_wp2_with fail
 go_ret
 exact ⟨rfl, hb⟩
end
section
open Go.RowKit
open Go.ChangeMaps (setBlock)
open Go.MapKept
open Go.WideMaps (KeyLaw)
def lbV (x : Lb) : Value := .agg #[.string ⟨x.n.toArray⟩, .string ⟨x.v.toArray⟩]
theorem Kez {x y : Lb} (h : lbV x = lbV y) : x = y := by
 obtain ⟨a, b⟩ := x; obtain ⟨c, d⟩ := y; unfold lbV at h; injection h with h; have h1 := congrArg Array.toList h; injection h1 with h2 h3; injection h3 with h4 _; injection h2 with h2; injection h4 with h4; injection h2 with h2; injection h4 with h4; have e1 := congrArg Array.toList h2; have e2 := congrArg Array.toList h4; simp only [List.toList_toArray] at e1 e2; rw [e1, e2]
theorem lbLaw : KeyLaw Tryz.prog 99 := by
 have hm2 : Nat.blt 99 Tryz.prog.types.size = true := by kernel_rfl
 exact deep_law_laid (by kernel_rfl) (m := 2) (by omega) (Nat.blt_eq.mp hm2) (by kernel_rfl) (by kernel_rfl)
theorem Kyx : ∃ f1 f2, Tryz.prog.underlying 99 = some (.struct #[f1, f2]) ∧ (f1.name != "_") = true ∧ (f2.name != "_") = true ∧ f1.offset = 0 ∧ f2.offset = 1 ∧ f1.type = 9 ∧ f2.type = 9 := ⟨_, _, Tryz.underlying99, by decide, by decide, rfl, rfl, rfl, rfl⟩
theorem Kml (x : Lb) (h1 : x.n.length ≤ maxLen) (h2 : x.v.length ≤ maxLen) : ∃ l, keyOf Tryz.prog 99 (lbV x) = some l := by
 obtain ⟨f1, f2, hu, n1, n2, o1, o2, t1, t2⟩ := Kyx; have hkt : Tryz.prog.keyType 99 = true := by kernel_rfl
 have hco : Tryz.prog.cellsOf 99 = 2 := by kernel_rfl
 have hcs : Tryz.prog.cellsOf 9 = 1 := by kernel_rfl
 have hm2 : Nat.blt 0 Tryz.prog.types.size = true := by kernel_rfl
 obtain ⟨m, hm⟩ : ∃ m, Tryz.prog.types.size = m + 1 := ⟨Tryz.prog.types.size - 1, by have := Nat.blt_eq.mp hm2; omega⟩; have hs : Tryz.prog.underlying 9 = some .string := Tryz.underlying9; unfold keyOf lbV; rw [hu]; dsimp only; rw [if_pos (by simp [hkt, Value.formed, hu, hco]), hm]; unfold Program.keyLits; simp only [hu, Value.cells]; rw [if_pos (by simp [hco, n1, n2])]
 have one : ∀ (d : Nat) (s : ByteArray), s.size ≤ maxLen → Tryz.prog.keyLits (d + 1) 9 [.string s] = some [.string s.data.toList] := fun d s h => by
  unfold Program.keyLits; simp only [hs]; rw [if_pos h]
 have s1 : (⟨x.n.toArray⟩ : ByteArray).size ≤ maxLen := by show x.n.toArray.size ≤ _; rw [List.size_toArray]; exact h1
 have s2 : (⟨x.v.toArray⟩ : ByteArray).size ≤ maxLen := by show x.v.toArray.size ≤ _; rw [List.size_toArray]; exact h2
 simp [o1, o2, t1, t2, hcs, one m _ s1, one m _ s2]
section
variable {w : World} {b : Nat} {es : Array MapEntry} {clock : Nat}
theorem Kvj (hb : w.heap[b]? = some (.map es clock)) (hst : Stamped es clock) (hk : ∀ e ∈ es.toList, ∃ l, keyOf Tryz.prog 99 e.key = some l) {key : Value} {kl : Lit} (hkey : keyOf Tryz.prog 99 key = some kl) :
  (∃ j e0, es.toList[j]? = some e0 ∧ e0.key = key ∧ (Instr.mapEntry 104 (.map (some b)) key).run Tryz.prog w = .ok (.tuple #[e0.val, goInt e0.born]) (setBlock w b (.map es clock)) ∧
   ∀ (w2 : World) (val : Value), w2.heap[b]? = some (.map es clock) → (Instr.entryStore 104 (.map (some b)) (goInt e0.born) val).run Tryz.prog w2 = .ok () (setBlock w2 b (.map (es.modify j fun e => { e with val := val }) clock))) ∨
  ((∀ e ∈ es.toList, e.key ≠ key) ∧ (Instr.mapEntry 104 (.map (some b)) key).run Tryz.prog w = .ok (.tuple #[.slice none 0 0, goInt clock]) (setBlock w b (.map (es.push ⟨key, .slice none 0 0, clock⟩) (clock + 1))) ∧
   ∀ (w2 : World) (val : Value), w2.heap[b]? = some (.map (es.push ⟨key, .slice none 0 0, clock⟩) (clock + 1)) → (Instr.entryStore 104 (.map (some b)) (goInt clock) val).run Tryz.prog w2 = .ok () (setBlock w2 b (.map (es.push ⟨key, val, clock⟩) (clock + 1)))) := by
 have ht : Tryz.prog.underlying 104 = some (.map 99 69) := Tryz.underlying104; have hz : ∀ u : World, (zeroValue 69).run Tryz.prog u = .ok (.slice none 0 0) u := fun u => by kernel_rfl
 obtain ⟨s1, s2, _⟩ := hst; rcases lbLaw.find w hkey es.toList hk with ⟨h1, h2⟩ | ⟨j, e0, h1, h2, h3⟩
 ·refine .inr ⟨h2, ?_, fun w2 val hw2 => ?_⟩
  ·simp [Instr.mapEntry, run_underlying ht, MapKept.run_getObj_map hb, lbLaw.check w false hkey, h1, hz, MapKept.run_setObj_map _ hb, Result.andThen, setBlock]
  ·have hidx : (es.push ⟨key, .slice none 0 0, clock⟩).findIdx? (fun e => ((e.born : Nat) : Int) == ((clock : Nat) : Int)) = some es.size := by
    rw [WideElems.findIdx_arr]
    have := WideElems.findIdx_born (l := (es.push ⟨key, .slice none 0 0, clock⟩).toList) (j := es.size) (e0 := ⟨key, .slice none 0 0, clock⟩) (by
     simp only [Array.toList_push, List.map_append, List.map_cons, List.map_nil]; refine List.nodup_append.2 ⟨s2, by simp, fun a ha c hc e1 => ?_⟩; simp only [List.mem_singleton] at hc; obtain ⟨x, hx, rfl⟩ := List.mem_map.1 ha; have := s1 x hx
     omega) (by simp)
    exact this
   have hmod : (es.push ⟨key, .slice none 0 0, clock⟩).modify es.size (fun e => { e with val := val }) = es.push ⟨key, val, clock⟩ := by
    apply Array.ext'; rw [Array.toList_modify, Array.toList_push, Array.toList_push, ← Array.length_toList, WideElems.modify_last]
   simp [Instr.entryStore, MapKept.run_getObj_map hw2, asInt, asIntOf, goInt, hidx, hmod, MapKept.run_setObj_map _ hw2, Result.andThen, setBlock]
 ·have hj : es[j]? = some e0 := by simpa using h2
  have hsame : es.modify j (fun e => { e with key := key }) = es := by
   apply Array.ext'; rw [Array.toList_modify, ChangeMaps.modify_eq_set _ _ _ _ h2]; have : ({ e0 with key := key } : MapEntry) = e0 := by rw [← h3]
   rw [this]; exact WideElems.set_self _ _ _ h2
  refine .inl ⟨j, e0, h2, h3, ?_, fun w2 val hw2 => ?_⟩
  ·simp [Instr.mapEntry, run_underlying ht, MapKept.run_getObj_map hb, lbLaw.check w false hkey, h1, hj, h3, lbLaw.stays w hkey, hsame, MapKept.run_setObj_map _ hb, Result.andThen, setBlock]
  ·have hidx : es.findIdx? (fun e => ((e.born : Nat) : Int) == ((e0.born : Nat) : Int)) = some j := by
    rw [WideElems.findIdx_arr]; exact WideElems.findIdx_born s2 h2
   simp [Instr.entryStore, MapKept.run_getObj_map hw2, asInt, asIntOf, goInt, hidx, MapKept.run_setObj_map _ hw2, Result.andThen, setBlock]
theorem Kyb (hb : w.heap[b]? = some (.map es clock)) (hk : ∀ e ∈ es.toList, ∃ l, keyOf Tryz.prog 99 e.key = some l) {key : Value} {kl : Lit} (hkey : keyOf Tryz.prog 99 key = some kl) {e0 : MapEntry} (he : e0 ∈ es.toList) (hek : e0.key = key) (hn : (es.toList.map (·.key)).Nodup) :
  (Instr.lookup 104 (.map (some b)) key false).run Tryz.prog w = .ok e0.val w := by
 have ht : Tryz.prog.underlying 104 = some (.map 99 69) := Tryz.underlying104; rcases lbLaw.find w hkey es.toList hk with ⟨h1, h2⟩ | ⟨j, e1, h1, h2, h3⟩
 ·exact absurd hek (h2 _ he)
 ·have e1e : e1 = e0 := by
   have hm := List.mem_of_getElem? h2; have hp := List.pairwise_map.1 (show (es.toList.map (·.key)).Pairwise (· ≠ ·) from hn); exact entry_eq_of_key hp hm he (h3.trans hek.symm)
  subst e1e; simp [Instr.lookup, run_underlying ht, MapKept.run_getObj_map hb, lbLaw.check w es.isEmpty hkey, h1, Result.andThen]
end
theorem Qfz {es : Array MapEntry} {j : Nat} {e0 : MapEntry} (hj : es.toList[j]? = some e0) (hn : (es.toList.map (·.key)).Nodup) (val : Value) (e' : MapEntry) : e' ∈ (es.modify j fun e => { e with val := val }).toList ↔ e' = { e0 with val := val } ∨ (e' ∈ es.toList ∧ e'.key ≠ e0.key) := by
 have hj' : es[j]? = some e0 := by simpa using hj
 constructor
 ·intro h; obtain ⟨i, hi⟩ := List.mem_iff_getElem?.1 h; rw [Array.getElem?_toList, Array.getElem?_modify] at hi
  by_cases hij : j = i
  ·subst hij; simp [hj'] at hi; exact .inl hi.symm
  ·rw [if_neg hij] at hi; have hi' : es.toList[i]? = some e' := by simpa using hi
   refine .inr ⟨List.mem_of_getElem? hi', fun hk => hij ?_⟩; have h1 : (es.toList.map (·.key))[i]? = some e'.key := by rw [List.getElem?_map, hi']; rfl
   have h2 : (es.toList.map (·.key))[j]? = some e0.key := by rw [List.getElem?_map, hj]; rfl
   rw [hk, ← h2] at h1
   have hil : i < (es.toList.map (·.key)).length := by
    have := (List.getElem?_eq_some_iff.1 hi').1; rwa [List.length_map]
   exact ((List.getElem?_inj hil hn).1 h1).symm
 ·rintro (rfl | ⟨h, hk⟩)
  ·exact List.mem_of_getElem? (i := j) (by rw [Array.getElem?_toList, Array.getElem?_modify]; simp [hj'])
  ·obtain ⟨i, hi⟩ := List.mem_iff_getElem?.1 h
   have hij : j ≠ i := by
    rintro rfl; rw [hj] at hi; injection hi with hi; exact hk (by rw [hi])
   exact List.mem_of_getElem? (i := i) (by rw [Array.getElem?_toList, Array.getElem?_modify, if_neg hij]; simpa using hi)
section
variable {w : World} {b : Nat} {es : Array MapEntry} {clock : Nat}
theorem Qee (hb : w.heap[b]? = some (.map es clock)) (hst : Stamped es clock) (hk : ∀ e ∈ es.toList, ∃ l, keyOf Tryz.prog 99 e.key = some l) {key : Value} {kl : Lit} (hkey : keyOf Tryz.prog 99 key = some kl) :
  ∃ (v0 : Value) (st : Nat) (es1 : Array MapEntry) (clock1 : Nat), (Instr.mapEntry 104 (.map (some b)) key).run Tryz.prog w = .ok (.tuple #[v0, .int .i64 (st : Int)]) (setBlock w b (.map es1 clock1)) ∧
   ((∃ e0 ∈ es.toList, e0.key = key ∧ v0 = e0.val) ∨ ((∀ e ∈ es.toList, e.key ≠ key) ∧ v0 = .slice none 0 0)) ∧
   ∀ (w2 : World) (val : Value), w2.heap[b]? = some (.map es1 clock1) → ∃ es' clock', (Instr.entryStore 104 (.map (some b)) (.int .i64 (st : Int)) val).run Tryz.prog w2 = .ok () (setBlock w2 b (.map es' clock')) ∧ Stamped es' clock' ∧ es'.size ≤ es.size + 1 ∧
    ∀ e', e' ∈ es'.toList ↔ e' = ⟨key, val, st⟩ ∨ (e' ∈ es.toList ∧ e'.key ≠ key) := by
 rcases Kvj hb hst hk hkey with ⟨j, e0, h1, h2, h3, h4⟩ | ⟨h1, h2, h3⟩
 ·refine ⟨e0.val, e0.born, es, clock, h3, .inl ⟨e0, List.mem_of_getElem? h1, h2, rfl⟩, fun w2 val hw2 => ⟨_, _, h4 w2 val hw2, ?_, ?_, fun e' => ?_⟩⟩
  ·exact stamped_modify hst j _ (fun _ _ => rfl) (fun _ _ _ => rfl)
  ·rw [Array.size_modify]; omega
  ·rw [Qfz h1 hst.2.2]; rw [← h2]
 ·refine ⟨_, clock, _, _, h2, .inr ⟨h1, rfl⟩, fun w2 val hw2 => ⟨_, _, h3 w2 val hw2, stamped_push hst h1, by rw [Array.size_push]; omega, fun e' => ?_⟩⟩; rw [Array.toList_push, List.mem_append, List.mem_singleton]; constructor
  ·rintro (h | h)
   ·exact .inr ⟨h, h1 _ h⟩
   ·exact .inl h
  ·rintro (h | h)
   ·exact .inr h
   ·exact .inl h.1
end
structure LMap (w : World) (B b : Nat) (f : Lb → List Nat) (n : Nat) (es : Array MapEntry) (clock : Nat) : Prop where
 h : w.heap[b]? = some (.map es clock)
 st : Stamped es clock
 sz : es.size ≤ n
 k : ∀ e ∈ es.toList, ∃ x : Lb, (x.n.length ≤ 1099511627776 ∧ x.v.length ≤ 1099511627776) ∧ e.key = lbV x ∧ f x ≠ [] ∧ w.ownsRow B 3 1 e.val (f x).length ((f x).flatMap encN)
 a : ∀ x, f x ≠ [] → ∃ e ∈ es.toList, e.key = lbV x
 o : ∀ e ∈ es.toList, ∀ e' ∈ es.toList, e.key ≠ e'.key → e.val.ownBlock ≠ e'.val.ownBlock
theorem Kce {w : World} {B n sz r : Nat} {T : TypeId} {v : Value} {xs : List Value} (h : w.ownsRow B T sz v n xs) (hv : v.ownBlock = some r) : ∃ cur, w.heap[r]? = some (.cells cur T (0, 0)) := by
 rcases h.2 with ⟨rfl, _⟩ | ⟨g, cap, cur, rfl, _, hg, _⟩
 ·cases hv
 ·cases hv; exact ⟨cur, hg⟩
theorem Kui {w : World} {B n sz : Nat} {T : TypeId} {v : Value} {xs : List Value} (h : w.ownsRow B T sz v n xs) (hn : n ≠ 0) : ∃ r, v.ownBlock = some r := by
 rcases h.2 with ⟨rfl, h0⟩ | ⟨g, cap, cur, rfl, _⟩
 ·exact absurd h0 hn
 ·exact ⟨g, rfl⟩
theorem Kcu {w : World} {b : Nat} (o' : Obj) : w.grownBy (setBlock w b o') (some b) :=
 ⟨rfl, rfl, rfl, by show _ ≤ (w.heap.setIfInBounds b o').size; simp, fun k hk hne => by
  show (w.heap.setIfInBounds b o')[k]? = _
  rw [Array.getElem?_setIfInBounds, if_neg]; rintro rfl
  exact hne rfl⟩
theorem Kfm {w : World} {b : Nat} {o : Obj} (o' : Obj) (h : w.heap[b]? = some o) : (setBlock w b o').heap[b]? = some o' := by
 show (w.heap.setIfInBounds b o')[b]? = _
 rw [Array.getElem?_setIfInBounds, if_pos rfl, if_pos (Array.getElem?_eq_some_iff.1 h).1]
theorem Khh (w : World) (b : Nat) (o' : Obj) : (setBlock w b o').heap.size = w.heap.size := by
 show (w.heap.setIfInBounds b o').size = _
 simp
theorem Khq {w : World} {B n sz b : Nat} {T : TypeId} {v : Value} {xs : List Value} {es : Array MapEntry} {clock : Nat} (h : w.ownsRow B T sz v n xs) (hb : w.heap[b]? = some (.map es clock)) : v.ownBlock ≠ some b := fun hv => by
 obtain ⟨cur, hc⟩ := Kce h hv; rw [hb] at hc; cases hc
theorem Kxf {w : World} {B b n : Nat} {f : Lb → List Nat} {es : Array MapEntry} {clock : Nat} (h : LMap w B b f n es clock) : ∀ e ∈ es.toList, ∃ l, keyOf Tryz.prog 99 e.key = some l := fun e he => by
 obtain ⟨x, hz, hk, _⟩ := h.k e he; rw [hk]; exact Kml x (by unfold maxLen; omega) (by unfold maxLen; omega)
theorem LMap.new (w : World) (B : Nat) : LMap (w.alloc (.map #[] 0)) B w.heap.size (fun _ => []) 0 #[] 0 :=
 ⟨World.alloc_heap_new w _, ⟨by simp, by simp, by simp⟩, by simp, by simp, fun x hx => absurd rfl hx, by simp⟩
theorem LMap.kept {w w' : World} {B b n : Nat} {f : Lb → List Nat} {es : Array MapEntry} {clock : Nat} (h : LMap w B b f n es clock) {row : Option Nat} (hg : w.grownBy w' row) (hr : ∀ r, row = some r → ∃ cur t, w.heap[r]? = some (.cells cur t (0, 0)) ∧ t ≠ 3) : LMap w' B b f n es clock := by
 have hlt := (Array.getElem?_eq_some_iff.1 h.h).1; refine ⟨(hg.block b hlt (fun e => ?_)).trans h.h, h.st, h.sz, fun e he => ?_, h.a, h.o⟩
 ·obtain ⟨cur, t, hc, _⟩ := hr b e.symm; rw [h.h] at hc; cases hc
 ·obtain ⟨x, hz, hk, hf, hw⟩ := h.k e he; refine ⟨x, hz, hk, hf, hw.kept hg (.inr fun e' => ?_)⟩; obtain ⟨r, hr'⟩ := Kui hw (by rw [Ne, List.length_eq_zero_iff]; exact hf); obtain ⟨cur, hc⟩ := Kce hw hr'; obtain ⟨cur2, t, hc2, ht⟩ := hr r (e' ▸ hr'); rw [hc] at hc2; injection hc2 with hc2; injection hc2 with _ hc2; exact ht hc2.symm
theorem LMap.mono {w : World} {B b n m : Nat} {f : Lb → List Nat} {es : Array MapEntry} {clock : Nat} (h : LMap w B b f n es clock) (hm : n ≤ m) : LMap w B b f m es clock := ⟨h.h, h.st, Nat.le_trans h.sz hm, h.k, h.a, h.o⟩
theorem LMap.below {w w' : World} {B b n : Nat} {f : Lb → List Nat} {es : Array MapEntry} {clock : Nat} (h : LMap w B b f n es clock) (hb : Below w.heap.size w w') : LMap w' B b f n es clock :=
 h.kept (row := none) ⟨hb.os, hb.tape, hb.output, hb.size, fun k hk _ => hb.block k hk⟩ (fun r e => by cases e)
def addF (f : Lb → List Nat) (x : Lb) (i : Nat) : Lb → List Nat := fun y => if y = x then f x ++ [i] else f y
theorem LMap.step {w : World} {B b n : Nat} {f : Lb → List Nat} {es : Array MapEntry} {clock : Nat} (h : LMap w B b f n es clock) (x : Lb) (hx : x.n.length ≤ 1099511627776 ∧ x.v.length ≤ 1099511627776) (i : Nat) (hB : B ≤ w.heap.size) :
  ∃ (v0 : Value) (st : Nat) (es1 : Array MapEntry) (clock1 : Nat), (Instr.mapEntry 104 (.map (some b)) (lbV x)).run Tryz.prog w = .ok (.tuple #[v0, .int .i64 (st : Int)]) (setBlock w b (.map es1 clock1)) ∧
   (setBlock w b (.map es1 clock1)).ownsRow B 3 1 v0 (f x).length ((f x).flatMap encN) ∧ v0.ownBlock ≠ some b ∧
   ∀ (w2 : World) (val : Value), (setBlock w b (.map es1 clock1)).grownBy w2 v0.ownBlock → w2.ownsRow B 3 1 val ((f x).length + 1) ((f x).flatMap encN ++ encN i) → (val.ownBlock = v0.ownBlock ∨ val.ownBlock = some w.heap.size) →
    ∃ es' clock', (Instr.entryStore 104 (.map (some b)) (.int .i64 (st : Int)) val).run Tryz.prog w2 = .ok () (setBlock w2 b (.map es' clock')) ∧ LMap (setBlock w2 b (.map es' clock')) B b (addF f x i) (n + 1) es' clock' ∧ (∀ e' ∈ es'.toList, e'.val = val ∨ e' ∈ es.toList) ∧ (v0.ownBlock = none ∨ ∃ e ∈ es.toList, e.val = v0) := by
 obtain ⟨kl, hkl⟩ := Kml x (by unfold maxLen; omega) (by unfold maxLen; omega); obtain ⟨v0, st, es1, clock1, h1, h2, h3⟩ := Qee h.h h.st (Kxf h) hkl; have hg1 : w.grownBy (setBlock w b (.map es1 clock1)) (some b) := Kcu _
 have hrow : w.ownsRow B 3 1 v0 (f x).length ((f x).flatMap encN) := by
  rcases h2 with ⟨e0, he0, hk0, rfl⟩ | ⟨hno, rfl⟩
  ·obtain ⟨y, _, hy, _, hw⟩ := h.k e0 he0; rw [hk0] at hy; rw [Kez hy]; exact hw
  ·have hf : f x = [] := by
    rcases hfx : f x with _ | ⟨a, l⟩
    ·rfl
    ·obtain ⟨e, he, hk⟩ := h.a x (by rw [hfx]; simp); exact absurd hk (hno e he)
   rw [hf]; exact World.ownsRow_nil _ _ _ _
 have hvb := Khq hrow h.h; refine ⟨v0, st, es1, clock1, h1, hrow.kept hg1 (.inr hvb), hvb, fun w2 val hg2 hr2 hblk => ?_⟩; have hb2 : w2.heap[b]? = some (.map es1 clock1) := (hg2.block b (by rw [Khh]; exact (Array.getElem?_eq_some_iff.1 h.h).1) (Ne.symm hvb)).trans (Kfm _ h.h); obtain ⟨es', clock', h4, h5, h6, h7⟩ := h3 w2 val hb2; have hg3 : w2.grownBy (setBlock w2 b (.map es' clock')) (some b) := Kcu _
 have others : ∀ e ∈ es.toList, e.key ≠ lbV x → e.val.ownBlock ≠ v0.ownBlock ∧ e.val.ownBlock ≠ val.ownBlock := fun e he hk => by
  obtain ⟨y, _, hy, hf, hw⟩ := h.k e he; obtain ⟨r, hr⟩ := Kui hw (by rw [Ne, List.length_eq_zero_iff]; exact hf)
  have q1 : e.val.ownBlock ≠ v0.ownBlock := by
   rcases h2 with ⟨e0, he0, hk0, rfl⟩ | ⟨_, rfl⟩
   ·exact h.o e he e0 he0 (by rw [hk0]; exact hk)
   ·rw [hr]; intro h; cases h
  refine ⟨q1, fun hh => ?_⟩; rcases hblk with hv | hv
  ·exact q1 (hh.trans hv)
  ·rw [hr] at hh; rw [hv] at hh; injection hh with hh; have := (hw.lt r hr).2; omega
 refine ⟨es', clock', h4, ⟨Kfm _ hb2, h5, by have := h.sz; omega, fun e he => ?_, fun y hy => ?_, fun e he e' he' hne => ?_⟩, fun e he => ?_, ?_⟩
 ·rcases (h7 e).1 he with rfl | ⟨he, hk⟩
  ·refine ⟨x, hx, rfl, by simp [addF], ?_⟩; have e1 : addF f x i x = f x ++ [i] := by simp [addF]
   rw [e1, List.length_append, List.flatMap_append]; have := hr2.kept hg3 (.inr (Khq hr2 hb2)); simpa using this
  ·obtain ⟨y, hz, hy, hf, hw⟩ := h.k e he
   have hyx : y ≠ x := by
    rintro rfl; exact hk hy
   have e1 : addF f x i y = f y := by simp [addF, hyx]
   refine ⟨y, hz, hy, by rw [e1]; exact hf, ?_⟩; rw [e1]; have w1 := hw.kept hg1 (.inr (Khq hw h.h)); have w2' := w1.kept hg2 (.inr (others e he hk).1); exact w2'.kept hg3 (.inr (Khq w2' hb2))
 ·by_cases hyx : y = x
  ·subst hyx; exact ⟨_, (h7 _).2 (.inl rfl), rfl⟩
  ·have e1 : addF f x i y = f y := by simp [addF, hyx]
   rw [e1] at hy; obtain ⟨e, he, hk⟩ := h.a y hy; exact ⟨e, (h7 e).2 (.inr ⟨he, by rw [hk]; exact fun h => hyx (Kez h)⟩), hk⟩
 ·rcases (h7 e).1 he with rfl | ⟨he, hk⟩
  ·rcases (h7 e').1 he' with rfl | ⟨he', hk'⟩
   ·exact absurd rfl hne
   ·exact Ne.symm (others e' he' hk').2
  ·rcases (h7 e').1 he' with rfl | ⟨he', hk'⟩
   ·exact (others e he hk).2
   ·exact h.o e he e' he' hne
 ·rcases (h7 e).1 he with rfl | ⟨he, _⟩
  ·exact .inl rfl
  ·exact .inr he
 ·rcases h2 with ⟨e0, he0, _, rfl⟩ | ⟨_, rfl⟩
  ·exact .inr ⟨e0, he0, rfl⟩
  ·exact .inl rfl
end
section
open Go.RowKit
open Go.ChangeMaps (setBlock)
open Go.MapKept
structure RIt (w : World) (b r : Nat) (es : Array MapEntry) (clock : Nat) (out : List MapEntry) (cnt : Nat) : Prop where
 ex : ∃ since seen c0, w.heap[b]? = some (.map es clock) ∧ w.heap[r]? = some (.mapIter (some b) since seen c0) ∧ (∀ x ∈ es.toList, x.born < since) ∧ (leftOf es seen).size = cnt ∧
  (∀ x ∈ es.toList, seen.contains x.born = true ↔ x ∈ out) ∧ since ≤ c0 ∧ since ≤ clock
 sub : ∀ x ∈ out, x ∈ es.toList
 nd : out.Nodup
section
variable {w w' : World} {b r : Nat} {es : Array MapEntry} {clock : Nat} {out : List MapEntry} {cnt : Nat}
theorem RIt.map (h : RIt w b r es clock out cnt) : w.heap[b]? = some (.map es clock) := by obtain ⟨_, _, _, hb, _⟩ := h.ex; exact hb
theorem RIt.blt (h : RIt w b r es clock out cnt) : b < w.heap.size := (Array.getElem?_eq_some_iff.1 h.map).1
theorem RIt.rlt (h : RIt w b r es clock out cnt) : r < w.heap.size := by obtain ⟨_, _, _, _, hr, _⟩ := h.ex; exact (Array.getElem?_eq_some_iff.1 hr).1
theorem RIt.ne (h : RIt w b r es clock out cnt) : r ≠ b := by
 obtain ⟨_, _, _, hb, hr, _⟩ := h.ex; intro e; rw [e, hb] at hr; cases hr
theorem RIt.kept {row : Option Nat} (h : RIt w b r es clock out cnt) (hg : w.grownBy w' row) (hb' : some b ≠ row) (hr' : some r ≠ row) : RIt w' b r es clock out cnt := by
 have h1 := h.blt; have h2 := h.rlt; obtain ⟨since, seen, c0, hb, hr, rest⟩ := h.ex; exact ⟨⟨since, seen, c0, (hg.block b h1 hb').trans hb, (hg.block r h2 hr').trans hr, rest⟩, h.sub, h.nd⟩
theorem RIt.below (h : RIt w b r es clock out cnt) (hb : Below w.heap.size w w') : RIt w' b r es clock out cnt := h.kept (row := none) ⟨hb.os, hb.tape, hb.output, hb.size, fun k hk _ => hb.block k hk⟩ (by simp) (by simp)
variable {P : Program} {ops : Array Oper} {rest : List Oper} {o : Oper} {a : Act} {Q : Exit → Act → World → Prop}
theorem Kma (hg : o.guard = none) (m : Operand) (t : TypeId) (hop : o.op = Op.range t m) (k e : TypeId) (ht : P.underlying t = some (.map k e)) (hm : a.eval m = .map (some b)) (hb : w.heap[b]? = some (.map es clock)) (hst : Stamped es clock)
  (hK : ∀ w', RIt w' b w.heap.size es clock [] es.size → w.grownBy w' none → w'.heap.size = w.heap.size + 1 → wpList P ops Q rest (a.put o.dst (.pointer (some ⟨w.heap.size, 0, none⟩))) w') :
  wpList P ops Q (o :: rest) a w := by
 refine wpList_plain hg fun K' hK' => ?_
 have hlt := (Array.getElem?_eq_some_iff.1 hb).1; have hrun := run_range_map (P := P) w t k e b es clock ht hb; unfold Oper.wp; simp [execOp, hop, hm, hrun, Result.andThen]; refine hK' _ _ (hK _ ⟨⟨clock, #[], clock, ((MapKept.heap_alloc w _).2 b hlt).trans hb, (MapKept.heap_alloc w _).1, hst.1, by simp [leftOf], fun x _ => by simp, Nat.le_refl _, Nat.le_refl _⟩, by simp, by simp⟩ (World.grownBy_alloc w _ none) (by simp))
theorem RIt.next (h : RIt w b r es clock out cnt) (hst : Stamped es clock) (ty : TypeId) :
  (cnt = 0 ∧ (∀ x ∈ es.toList, x ∈ out) ∧ (Instr.next (.pointer (some ⟨r, 0, none⟩)) false ty).run P w = .ok (.tuple #[.bool false]) w) ∨
  ∃ e w' cnt', e ∈ es.toList ∧ e ∉ out ∧ (Instr.next (.pointer (some ⟨r, 0, none⟩)) false ty).run P w = .ok (.tuple #[.bool true, e.key, e.val]) w' ∧ RIt w' b r es clock (out ++ [e]) cnt' ∧ cnt' < cnt ∧ w.grownBy w' (some r) ∧ w'.heap.size = w.heap.size ∧
   (Instr.entry (.pointer (some ⟨r, 0, none⟩))).run P w' = .ok (.tuple #[e.key, e.val]) w' := by
 have hne := h.ne; have hsub := h.sub; have hnd := h.nd; obtain ⟨since, seen, c0, hb, hr, hold, rfl, hl1, hsc, hsk⟩ := h.ex; rcases run_next_at (P := P) w ty r b since c0 seen es clock hr hb hold hsc with ⟨h0, hrun⟩ | ⟨e, he, w1, hal, hrun⟩
 ·exact Or.inl ⟨h0, fun x hx => (hl1 x hx).1 (all_seen es seen h0 x hx), hrun⟩
 ·obtain ⟨hem, hes⟩ := mem_left he; have hr1 : w1.heap[r]? = some (.mapIter (some b) since seen c0) := by rcases hal with rfl | rfl <;> exact hr
  have hb1 : w1.heap[b]? = some (.map es clock) := by rcases hal with rfl | rfl <;> exact hb
  have hset := heap_set (o' := .mapIter (some b) since (seen.push e.born) clock) hr1; have hb' : (setBlock w1 r (.mapIter (some b) since (seen.push e.born) clock)).heap[b]? = some (.map es clock) := (hset.2 b (fun e1 => hne e1.symm)).trans hb1
  have heo : e ∉ out := fun hm => by
   have := (hl1 e hem).2 hm; rw [hes] at this; cases this
  refine Or.inr ⟨e, _, _, hem, heo, hrun, ⟨⟨since, seen.push e.born, clock, hb', hset.1, hold, rfl, fun x hx => ?_, hsk, hsk⟩, fun x hx => ?_, ?_⟩, left_shrinks es seen e he, ?_, ?_, run_entry_at _ r b since seen es clock e hset.1 hb' hem hst.2.1⟩
  ·rw [contains_push, List.mem_append, List.mem_singleton, ← hl1 x hx, Bool.or_eq_true, beq_iff_eq]; constructor
   ·rintro (h | h)
    ·exact .inl h
    ·exact .inr (born_inj hst.2.1 hx hem h)
   ·rintro (h | h)
    ·exact .inl h
    ·exact .inr (by rw [h])
  ·rcases List.mem_append.1 hx with h | h
   ·exact hsub x h
   ·rw [List.mem_singleton.1 h]; exact hem
  ·exact List.nodup_append.2 ⟨hnd, by simp, fun x hx y hy => by rw [List.mem_singleton.1 hy]; rintro rfl; exact heo hx⟩
  ·rcases hal with rfl | rfl <;> exact ⟨rfl, rfl, rfl, by simp [setBlock], fun i _ hi => hset.2 i (fun e1 => hi (by rw [e1]))⟩
  ·rcases hal with rfl | rfl <;> simp [setBlock]
structure Qgk (es : Array MapEntry) (out : List MapEntry) (cnt : Nat) : Prop where
 z : cnt = 0
 all : ∀ x ∈ es.toList, x ∈ out
structure Qfb {α : Type} (P : Program) (mkK : α → Value) (w : World) (b r : Nat) (es : Array MapEntry) (clock : Nat) (out : List MapEntry) (cnt : Nat) (x : α) (v : Value) (w' : World) : Prop where
 ex : ∃ e cnt', e ∈ es.toList ∧ e ∉ out ∧ e.key = mkK x ∧ e.val = v ∧ RIt w' b r es clock (out ++ [e]) cnt' ∧ cnt' < cnt
 g : w.grownBy w' (some r)
 s : w'.heap.size = w.heap.size
 run : (Instr.entry (.pointer (some ⟨r, 0, none⟩))).run P w' = .ok (.tuple #[mkK x, v]) w'
theorem Knl {α : Type} (hg : o.guard = none) (it : Operand) (hop : o.op = Op.next it false) (mkK : α → Value) (b r : Nat) (es : Array MapEntry) (clock : Nat) (out : List MapEntry) (cnt : Nat) (hst : Stamped es clock) (hk : ∀ e ∈ es.toList, ∃ x, e.key = mkK x)
  (hit : a.eval it = .pointer (some ⟨r, 0, none⟩)) (h : RIt w b r es clock out cnt)
  (hDone : Qgk es out cnt → wpList P ops Q rest (a.put o.dst (.tuple #[.bool false])) w)
  (hMore : ∀ (x : α) (v : Value) (w' : World), Qfb P mkK w b r es clock out cnt x v w' → wpList P ops Q rest (a.put o.dst (.tuple #[.bool true, mkK x, v])) w') :
  wpList P ops Q (o :: rest) a w := by
 refine wpList_plain hg fun K' hK' => ?_
 unfold Oper.wp; rcases h.next (P := P) hst o.type with ⟨h0, hl, hrun⟩ | ⟨e, w', cnt', he, hno, hrun, hrg, hlt, hgr, hsz, hen⟩
 ·simp [execOp, hop, hit, hrun, Result.andThen]; exact hK' _ _ (hDone ⟨h0, hl⟩)
 ·obtain ⟨x, hx⟩ := hk e he; rw [hx] at hrun hen; simp [execOp, hop, hit, hrun, Result.andThen]; exact hK' _ _ (hMore x _ w' ⟨⟨e, cnt', he, hno, hx, rfl, hrg, hlt⟩, hgr, hsz, hen⟩)
end
end
section
open Go.RowKit Go.Shelf Go.Sort
theorem Kre {α : Type} {enc : α → List Value} {k : Nat} (hk : ∀ x, (enc x).length = k) (l : List α) : (l.flatMap enc).length = l.length * k := by
 induction l with
 | nil => simp
 | cons x l ih => rw [List.flatMap_cons, List.length_append, ih, hk, List.length_cons, Nat.succ_mul]; omega
theorem Kso {α : Type} {enc : α → List Value} {k : Nat} (hk : ∀ x, (enc x).length = k) : ∀ (l : List α) (i j : Nat) (x : α), l[i]? = some x → j < k → (l.flatMap enc)[i * k + j]? = (enc x)[j]?
 | [], _, _, _, h, _ => by simp at h
 | y :: l, 0, j, x, h, hj => by
  simp only [List.getElem?_cons_zero, Option.some.injEq] at h; subst h; rw [List.flatMap_cons, List.getElem?_append_left (by rw [hk]; omega), Nat.zero_mul, Nat.zero_add]
 | y :: l, i + 1, j, x, h, hj => by
  rw [List.flatMap_cons, List.getElem?_append_right (by rw [hk, Nat.succ_mul]; omega), hk, show (i + 1) * k + j - k = i * k + j by rw [Nat.succ_mul]; omega]; exact Kso hk l i j x (by simpa using h) hj
theorem Kpx {α : Type} [Inhabited α] {enc : α → List Value} {k : Nat} (hk : ∀ x, (enc x).length = k) (h0 : 0 < k) {l : List α} {t : Nat} (h : t < l.length * k) : (l.flatMap enc)[t]? = some ((enc l[t / k]!)[t % k]!) := by
 have hl : t / k < l.length := Nat.div_lt_of_lt_mul (by rw [Nat.mul_comm]; exact h); have h1 : l[t / k]? = some l[t / k]! := by rw [getElem!_pos l _ hl, List.getElem?_eq_getElem hl]
 have h2 := Kso hk l (t / k) (t % k) _ h1 (Nat.mod_lt _ h0); rw [show t / k * k + t % k = t by rw [Nat.mul_comm]; exact Nat.div_add_mod t k] at h2; have h3 : t % k < (enc l[t / k]!).length := by rw [hk]; exact Nat.mod_lt _ h0
 rw [h2, List.getElem?_eq_getElem h3, getElem!_pos (enc l[t / k]!) _ h3]
section
variable {α : Type} [Inhabited α] {enc : α → List Value} {k : Nat} {w : World} {B g n cap : Nat} {T : TypeId} {l : List α}
theorem Kyl (hk : ∀ x, (enc x).length = k) (h0 : 0 < k) (hown : w.ownsRow B T k (.slice (some ⟨g, 0, none⟩) n cap) n (l.flatMap enc)) (hl : l.length = n) : HoldsK enc k w g 0 l.toArray := by
 rcases hown.2 with ⟨he, _⟩ | ⟨g', cap', cur, he, h1, h2, h3, h4, h5, h6⟩
 ·cases he
 ·injection he with he _ hcc; injection he with he; injection he with he _ _; subst he hcc; intro t ht; rw [size_flatK] at ht; have ht' : t < l.length * k := by simpa using ht
  refine ⟨?_, by simp [World.frozen?, h2]⟩; rw [get_flatK _ _ _ _ ht, Nat.zero_add, cell_of_row w g t cur _ (0, 0) h2]
  have e1 : cur[t]? = (l.flatMap enc)[t]? := by
   rw [← h6, List.getElem?_take_of_lt (by rw [hl] at ht'; exact ht')]; simp
  rw [e1, Kpx hk h0 ht']; simp only [List.getElem!_toArray, id]
theorem Kvv (enc : α → List Value) (k : Nat) (w : World) (blk off n : Nat) (d : Array α) (os : Array Obj) : w.grownBy (sortWorldK enc k w blk off n d os) (some blk) := by
 refine ⟨rfl, rfl, rfl, ?_, ?_⟩
 ·simp [sortWorldK, grow, putRowK, putRow, mapBlock, Sort.ahead]
 ·intro j hj hne; have hb : ¬ blk = j := fun e => hne (by rw [e])
  simp only [sortWorldK, grow, putRowK, putRow, mapBlock, Sort.ahead]; rw [Array.getElem?_append_left (by simpa using hj), Array.getElem?_modify, if_neg hb]
theorem Kym (hk : ∀ x, (enc x).length = k) (h0 : 0 < k) (hown : w.ownsRow B T k (.slice (some ⟨g, 0, none⟩) n cap) n (l.flatMap enc)) (hl : l.length = n) (d : Array α) (hd : d.size = n) (m : Nat) (os : Array Obj) :
  (sortWorldK enc k w g 0 m d os).ownsRow B T k (.slice (some ⟨g, 0, none⟩) n cap) n (d.toList.flatMap enc) := by
 have hlt := World.ownsRow.lt hown g rfl; rcases hown.2 with ⟨he, _⟩ | ⟨g', cap', cur, he, h1, h2, h3, h4, h5, h6⟩
 ·cases he
 ·injection he with he _ hcc; injection he with he; injection he with he _ _; subst he hcc; refine ⟨by rw [Kre hk]; simp [hd], .inr ⟨g, cap, putCells id 0 (flatK enc k d) cur, rfl, h1, ?_, h3, h4, by simp [putCells, h5], ?_⟩⟩
  ·simp only [sortWorldK, grow, putRowK, putRow, mapBlock, Sort.ahead]; rw [Array.getElem?_append_left (by simpa using hlt.2), Array.getElem?_modify, if_pos rfl, h2]; rfl
  ·apply List.ext_getElem?; intro t
   by_cases ht : t < n * k
   ·rw [List.getElem?_take_of_lt ht, Kpx hk h0 (by simpa [hd] using ht)]; have htc : t < cur.size := by rw [h5]; exact Nat.lt_of_lt_of_le ht (Nat.mul_le_mul_right k h3)
    have hts : t < (flatK enc k d).size := by rw [size_flatK, hd]; exact ht
    simp only [putCells, Array.getElem?_toList, Array.getElem?_mapIdx, Array.getElem?_eq_getElem htc, Option.map_some]; rw [if_pos ⟨Nat.zero_le _, by simpa using hts⟩, Nat.sub_zero, get_flatK _ _ _ _ (by rw [hd]; exact ht)]; congr 2; have hq : t / k < d.size := Nat.div_lt_of_lt_mul (by rw [Nat.mul_comm, hd]; exact ht); rw [getElem!_pos d _ hq, getElem!_pos d.toList _ (by simpa using hq)]; simp
   ·rw [List.getElem?_eq_none (by rw [List.length_take]; omega), List.getElem?_eq_none (by rw [Kre hk]; simp [hd]; omega)]
theorem Kxx {d : Array α} (hl : l.length = n) (h : PermIn 0 n l.toArray d) : d.size = n ∧ d.toList.Perm l := by
 obtain ⟨hsz, _, hpm⟩ := h; have hsz' : d.size = n := by rw [hsz]; simpa using hl
 refine ⟨hsz', ?_⟩; have e1 : (d.extract 0 n) = d := by rw [← hsz']; simp
 have e2 : (l.toArray.extract 0 n) = l.toArray := by rw [← hl]; simp
 rw [e1, e2] at hpm; simpa using hpm
theorem Kxz {d : Array α} {lt : α → α → Bool} (hd : d.size = n) (h : SortedIn lt 0 n d) : d.toList.Pairwise fun a b => lt b a = false := by
 rw [List.pairwise_iff_getElem]; intro i j hi hj hij; have hi' : i < d.size := by simpa using hi
 have hj' : j < d.size := by simpa using hj
 have := h i j (Nat.zero_le _) hij (by omega); rw [getElem!_pos d j hj', getElem!_pos d i hi'] at this; exact this
end
end
section
open Go.RowKit Go.Shelf Go.Sort
attribute [local go_sem ↓] Go.wp_at_zero Go.wp_at_succ
attribute [local go_sem] Later.cell
def cfK (x y : Lb) : Int := cmpL [x] [y]
theorem Qeo (x y : Lb) : cmpL [x] [y] < 0 ↔ ltB x y := by
 rw [Qeh]; constructor
 ·rintro (h | ⟨_, h⟩)
  ·exact h
  ·simp [cmpL] at h
 ·exact .inl
theorem ltK (x y : Lb) : ltOf cfK x y = decide (ltB x y) := by
 unfold ltOf cfK; rw [decide_eq_decide]; exact Qeo x y
theorem Kpv (x y : Lb) : ltB x y ∨ x = y ∨ ltB y x := by
 by_cases h1 : ltB x y
 ·exact .inl h1
 ·by_cases h2 : ltB y x
  ·exact .inr (.inr h2)
  ·exact .inr (.inl (Koy h1 h2))
theorem swoK : SWO (ltOf cfK) where
 irrefl x := by rw [ltK]; simpa using Kdx x
 trans x y z h1 h2 := by
  rw [ltK, decide_eq_true_eq] at h1 h2 ⊢; exact Kfy h1 h2
 ntrans x y z h1 h2 := by
  rw [ltK, decide_eq_false_iff_not] at h1 h2 ⊢; intro h; rcases Kpv x y with k | rfl | k
  ·exact h1 k
  ·exact h2 h
  ·exact h2 (Kfy k h)
theorem Kut (x y : Lb) (W : World) :
  Calls Tryz.prog 120 #[.agg (encLb x).toArray, .agg (encLb y).toArray] W fun e w' => e = .returned (.int .i64 (cfK x y)) ∧ ∃ q os', w' = grow (W.drewN q) os' := by
 suffices h : Calls Tryz.prog 120 #[.agg (encLb x).toArray, .agg (encLb y).toArray] W fun e w' => e = .returned (.int .i64 (cfK x y)) ∧ Grown W w' by
  refine h.mono ?_; rintro e w' ⟨he, ⟨p, hp⟩⟩; exact ⟨he, p.n, p.os, hp⟩
 have HC := Lib.hid (fun (w : World) (p q : Nat) (h1 : Blk w p 99 #[.string ⟨x.n.toArray⟩, .string ⟨x.v.toArray⟩]) (h2 : Blk w q 99 #[.string ⟨y.n.toArray⟩, .string ⟨y.v.toArray⟩]) =>
  Koc [x] [y] (some ⟨p, 0, none⟩) (some ⟨q, 0, none⟩) 1 1 1 1 w (cfK x y) rfl
   (⟨rfl, fun _ => ⟨p, 0, rfl, h1.lt, fun i z hz j v hv => by
    cases i with
    | zero => simp only [List.getElem?_cons_zero, Option.some.injEq] at hz; subst hz; rw [h1.cell]; simpa [encLb] using hv
    | succ i => simp at hz⟩⟩)
   (⟨rfl, fun _ => ⟨q, 0, rfl, h2.lt, fun i z hz j v hv => by
    cases i with
    | zero => simp only [List.getElem?_cons_zero, Option.some.injEq] at hz; subst hz; rw [h2.cell]; simpa [encLb] using hv
    | succ i => simp at hz⟩⟩) (by decide) (by decide))
 obtain ⟨r, hr⟩ : ∃ r, cfK x y = r := ⟨_, rfl⟩; unfold encLb; obtain ⟨N, hN⟩ : ∃ N : ByteArray, (⟨x.n.toArray⟩ : ByteArray) = N := ⟨_, rfl⟩; obtain ⟨V, hV⟩ : ∃ N : ByteArray, (⟨x.v.toArray⟩ : ByteArray) = N := ⟨_, rfl⟩; obtain ⟨N2, hN2⟩ : ∃ N : ByteArray, (⟨y.n.toArray⟩ : ByteArray) = N := ⟨_, rfl⟩; obtain ⟨V2, hV2⟩ : ∃ N : ByteArray, (⟨y.v.toArray⟩ : ByteArray) = N := ⟨_, rfl⟩; rw [hr] at HC ⊢; rw [hN, hV, hN2, hV2] at HC ⊢; clear hN hV hN2 hV2 hr; go_enter Tryz.func120, Tryz.ntmps120
 go_wp2_with fail
 have hg : Grown W ((((W.alloc (.cells #[.string N, .string V] 99)).alloc (.cells #[.string N2, .string V2] 99)).alloc (.cells #[.string N, .string V] 99)).alloc (.cells #[.string N2, .string V2] 99)) := ((((Grown.refl _).alloc _).alloc _).alloc _).alloc _; refine (HC.out _ (W.heap.size + 1 + 1) (W.heap.size + 1 + 1 + 1) ((Blk.newAt (by simp)).alloc _) (Blk.newAt (by simp))).mono ?_; rintro _ w' ⟨rfl, hb⟩; go_wp2_with fail
 go_ret
 exact ⟨rfl, hg.trans hb⟩
end
section
open Go.RowKit Go.Shelf Go.Sort Go.Maps
open Lib renaming hid → Jh
attribute [local go_sem ↓] Go.wp_at_zero Go.wp_at_succ
attribute [local go_sem] Later.cell
def Qet (w : World) (B : Nat) (v : Value) (l : List Lb) (e : Ending) (w' : World) : Prop :=
 e = .returned (.tuple #[]) ∧ ∃ l' : List Lb, l'.Perm l ∧ (l'.Pairwise fun a b => ¬ ltB b a) ∧ w'.ownsRow B 99 2 v l'.length (l'.flatMap encLb) ∧ w.grownBy w' v.ownBlock
theorem Kpd (l : List Lb) (B : Nat) (v : Value) (w : World) (h : w.ownsRow B 99 2 v l.length (l.flatMap encLb)) (hn : l.length ≤ 1099511627776) :
  Calls Tryz.prog 119 #[v, .func (.func 120) #[] #[]] w (Qet w B v l) := by
 have hsl : (l = [] ∧ v = .slice none 0 0) ∨ ∃ g c, v = .slice (some ⟨g, 0, none⟩) l.length c := by
  rcases h.2 with ⟨h1, h0⟩ | ⟨g, cap, cur, h1, _⟩
  ·exact .inl ⟨List.eq_nil_of_length_eq_zero h0, h1⟩
  ·exact .inr ⟨g, cap, h1⟩
 rcases hsl with ⟨rfl, rfl⟩ | ⟨g, c, rfl⟩
 ·refine (AnyF.slices_SortFunc_none Tryz.laysSFL none 0 _ w).mono ?_; rintro e w' ⟨rfl, rfl⟩; exact ⟨rfl, [], .refl _, List.Pairwise.nil, h, ⟨rfl, rfl, rfl, Nat.le_refl _, fun _ _ _ => rfl⟩⟩
 ·have hlt := World.ownsRow.lt h g rfl; have eg : ∀ args w, (callFunc 120 args).run Tryz.prog w = .ok (.enter 120 args) w := enters_of Tryz.func120 (by kernel_rfl) rfl; have hcon := AnyQ.slices_SortFunc Tryz.laysSFL 2 Tryz.isAgg99 Tryz.sizeOf99 encLb Kbt Kkg cfK swoK 120 #[] g 0 c l.toArray w eg (fun _ _ _ _ x y => Kut x y _) (Kyl Kbt (by decide) h rfl) hlt.2 (by simp; omega); simp only [List.size_toArray] at hcon; refine hcon.mono ?_; rintro e w' ⟨rfl, d', m, os, hp, hs, rfl⟩; obtain ⟨hsz, hpm⟩ := Kxx rfl hp; refine ⟨rfl, d'.toList, hpm, ?_, ?_, Kvv _ _ _ _ _ _ _ _⟩
  ·refine (Kxz hsz hs).imp ?_; intro a b hab; rw [ltK, decide_eq_false_iff_not] at hab; exact hab
  ·have := Kym Kbt (by decide) h rfl d' hsz m os; rw [show d'.toList.length = l.length by simpa using hsz]; exact this
theorem Kij {S : List (List Lb)} {x : Lb} : Kaj S x ≠ [] ↔ x ∈ keysOf S := by
 constructor
 ·intro h; exact Classical.byContradiction fun hk => h (Kjv hk)
 ·intro h h0; obtain ⟨s, hs, hx⟩ := ((Kee S).2 x).1 h; obtain ⟨i, hi, rfl⟩ := List.getElem_of_mem hs; unfold Kaj at h0; rw [List.filter_eq_nil_iff] at h0; refine h0 i (List.mem_range.2 hi) ?_; rw [decide_eq_true_eq, List.getD_eq_getElem?_getD, List.getElem?_eq_getElem hi]; exact hx
theorem Kvn {S : List (List Lb)} {ks l' : List Lb} (hn : ks.Nodup) (hm : ∀ x, x ∈ ks ↔ x ∈ keysOf S) (hp : l'.Perm ks) (hs : l'.Pairwise fun a b => ¬ ltB b a) : l' = keysOf S := by
 refine Kus ?_ (Kee S).1 fun x => by rw [hp.mem_iff, hm]
 refine (hs.and (hp.nodup_iff.2 hn)).imp ?_; rintro a b ⟨h1, h2⟩; rcases Kpv a b with h | h | h
 ·exact h
 ·exact absurd h h2
 ·exact absurd h h1
theorem Kop {α β : Type} {f : α → β} : ∀ {l : List α}, l.Nodup → (∀ x ∈ l, ∀ y ∈ l, f x = f y → x = y) → (l.map f).Nodup
 | [], _, _ => by simp
 | a :: l, h, hi => by
  rw [List.nodup_cons] at h; rw [List.map_cons, List.nodup_cons]; refine ⟨?_, Kop h.2 fun x hx y hy => hi x (by simp [hx]) y (by simp [hy])⟩; intro hm; obtain ⟨y, hy, e⟩ := List.mem_map.1 hm; have := hi y (by simp [hy]) a (by simp) e; exact h.1 (this ▸ hy)
theorem Qbm {α β : Type} {f : α → β} {l : List α} (h : (l.map f).Nodup) : l.Nodup := by
 induction l with
 | nil => simp
 | cons a l ih =>
  rw [List.map_cons, List.nodup_cons] at h; rw [List.nodup_cons]; exact ⟨fun hm => h.1 (List.mem_map_of_mem hm), ih h.2⟩
theorem Kpt : ∀ (l L : List Lb), l.Nodup → (∀ x ∈ l, x ∈ L) → l.length ≤ L.length
 | [], _, _, _ => by simp
 | a :: l, L, hn, h => by
  have ha := List.nodup_cons.1 hn; have := Kpt l (L.erase a) ha.2 (fun x hx => (List.mem_erase_of_ne (fun e : x = a => ha.1 (by rw [← e]; exact hx))).2 (h x (by simp [hx]))); rw [List.length_erase_of_mem (h a (by simp))] at this; have h0 : 0 < L.length := List.length_pos_of_mem (h a (by simp)); simp only [List.length_cons]; omega
theorem Ksy {w : World} {B b n : Nat} {S : List (List Lb)} {es : Array MapEntry} {clock : Nat} (h : LMap w B b (Kaj S) n es clock) {out : List MapEntry} {ks : List Lb} (hnd : out.Nodup) (hsub : ∀ x ∈ out, x ∈ es.toList) (hks : out.map (·.key) = ks.map lbV) :
  ks.Nodup ∧ (∀ x ∈ ks, x ∈ keysOf S) ∧ ((∀ e ∈ es.toList, e ∈ out) → ∀ x, x ∈ ks ↔ x ∈ keysOf S) ∧ ks.length ≤ es.size := by
 have hkn : (es.toList.map (·.key)).Nodup := h.st.2.2; have hkd : (out.map (·.key)).Nodup := Kop hnd fun x hx y hy e => entry_eq_of_key (List.pairwise_map.1 (show (es.toList.map (·.key)).Pairwise (· ≠ ·) from hkn)) (hsub x hx) (hsub y hy) e
 rw [hks] at hkd; have hksn := Qbm hkd
 have hof : ∀ x ∈ ks, ∃ e ∈ out, e.key = lbV x := fun x hx => by
  have : lbV x ∈ out.map (·.key) := by rw [hks]; exact List.mem_map_of_mem hx
  obtain ⟨e, he, hk⟩ := List.mem_map.1 this; exact ⟨e, he, hk⟩
 have hke : ∀ e ∈ es.toList, ∀ x, e.key = lbV x → x ∈ keysOf S := fun e he x hk => by
  obtain ⟨y, _, hy, hf, _⟩ := h.k e he; rw [hk] at hy; rw [Kez hy]; exact Kij.1 hf
 refine ⟨hksn, fun x hx => ?_, fun hall x => ⟨fun hx => ?_, fun hx => ?_⟩, ?_⟩
 ·obtain ⟨e, he, hk⟩ := hof x hx; exact hke e (hsub e he) x hk
 ·obtain ⟨e, he, hk⟩ := hof x hx; exact hke e (hsub e he) x hk
 ·obtain ⟨e, he, hk⟩ := h.a x (Kij.2 hx)
  have : lbV x ∈ ks.map lbV := by
   rw [← hks, ← hk]; exact List.mem_map_of_mem (hall e he)
  obtain ⟨y, hy, e1⟩ := List.mem_map.1 this; rw [← Kez e1]; exact hy
 ·obtain ⟨L, hL⟩ : ∃ L : List Lb, es.toList.map (·.key) = L.map lbV := by
   have : ∀ l : List MapEntry, (∀ e ∈ l, ∃ x, e.key = lbV x) → ∃ L : List Lb, l.map (·.key) = L.map lbV := by
    intro l
    induction l with
    | nil => intro _; exact ⟨[], rfl⟩
    | cons e l ih =>
     intro hl; obtain ⟨x, hx⟩ := hl e (by simp); obtain ⟨L, hL⟩ := ih fun e he => hl e (by simp [he])
     exact ⟨x :: L, by simp [hx, hL]⟩
   exact this _ fun e he => by obtain ⟨x, _, hk, _⟩ := h.k e he; exact ⟨x, hk⟩
  have h1 := Kpt ks L hksn fun x hx => by
   obtain ⟨e, he, hk⟩ := hof x hx; have : lbV x ∈ L.map lbV := by rw [← hL, ← hk]; exact List.mem_map_of_mem (hsub e he)
   obtain ⟨y, hy, e1⟩ := List.mem_map.1 this; rw [← Kez e1]; exact hy
  have h2 := congrArg List.length hL; rw [List.length_map, List.length_map] at h2; have h3 : es.toList.length = es.size := by simp
  omega
structure LK where
 a : ByteArray
 b : ByteArray
def mkP (p : LK) : Value := .agg #[.string p.a, .string p.b]
theorem Qez (x : Lb) : lbV x = mkP ⟨⟨x.n.toArray⟩, ⟨x.v.toArray⟩⟩ := rfl
theorem Qfj {p : LK} {x : Lb} (h : mkP p = lbV x) : p.a = ⟨x.n.toArray⟩ ∧ p.b = ⟨x.v.toArray⟩ := by
 obtain ⟨a, b⟩ := p; unfold mkP lbV at h; simp at h; exact ⟨h.1, h.2⟩
theorem Kkv (S : List (List Lb)) (b n B : Nat) (es : Array MapEntry) (clock : Nat) (w : World) (h : LMap w B b (Kaj S) n es clock) (hn : n ≤ 1099511627776) (hS : S.length ≤ 1099511627776) (hz : (Kbi S).length ≤ 35184372088832) :
  Calls Tryz.prog 45 #[.map (some b)] w fun e w' => e = .returned (.string ⟨(Kbi S).toArray⟩) ∧ Below w.heap.size w w' := by
 obtain ⟨i0, hi0, hz0, hz1, hz2⟩ := info_parts Kmi
 have hkk : ∀ e ∈ es.toList, ∃ p, e.key = mkP p := fun e he => by
  obtain ⟨x, _, hk, _⟩ := h.k e he; exact ⟨_, hk.trans (Qez x)⟩
 have H := Jh h; have HKK := Jh hkk; have HZ := Jh hz; have hesz : es.size ≤ 1099511627776 := Nat.le_trans h.sz hn; have hh := h.h; have hst := h.st; clear h hkk hz; go_enter Tryz.func45, Tryz.ntmps45
 go_wp2_with (at_range; refine Kma rfl _ 104 rfl 99 69 Tryz.underlying104 rfl hh hst ?_; intro w0 hrg0 hg0 hs0)
 obtain ⟨r, hr⟩ : ∃ r, w.heap.size = r := ⟨_, rfl⟩; have hB0 : Below r w w0 := ⟨hg0.os, hg0.tape, hg0.output, hg0.size, fun k hk => hg0.block k (by omega) (by simp)⟩; rw [hr] at hrg0 ⊢; have HR := Jh hr; have HST := Jh hst; clear hr hs0 hg0 hh hst; go_frame
 go_loopg [3] es.size (fun g s3 wr => ∃ (out : List MapEntry) (cnt : Nat) (ks : List Lb) (v3 : Value), v3 = s3 ∧ cnt ≤ g ∧ RIt wr b r es clock out cnt ∧ out.map (·.key) = ks.map lbV ∧ wr.ownsRow (r + 1) 99 2 v3 ks.length (ks.flatMap encLb) ∧ Below r w wr)
 case atStart => exact ⟨[], es.size, [], _, rfl, Nat.le_refl _, hrg0, rfl, World.ownsRow_nil _ _ _ _, hB0⟩
 case round =>
  obtain ⟨out, cnt, ks, v3, rfl, hcg, hrg, hks, hrow, hB⟩ := hrel; have HKS := Jh hks; clear hks; go_wp2_with (at_next; refine Knl rfl _ rfl mkP b r es clock out cnt HST.out HKK.out rfl hrg ?_ ?_)
  ·intro hao; have hall := hao.all; obtain ⟨k1, k2, k3, k4⟩ := Ksy H.out hrg.nd hrg.sub HKS.out; have hL : LMap wr B b (Kaj S) n es clock := H.out.below (HR.out.symm ▸ hB); have HSO := Jh (Kpd ks (r + 1) v3 wr hrow (by omega)); have HK1 := Jh k1; have HK3 := Jh (k3 hall); obtain ⟨A, cap, rfl⟩ := Kbo hrow; obtain ⟨m, hm⟩ : ∃ m, ks.length = m := ⟨_, rfl⟩; have HM := Jh hm; have hm30 : m ≤ 1099511627776 := by omega
   rw [hm] at HSO hrow ⊢; have HL := Jh hL; have HROW := Jh hrow; have HB := Jh hB; clear hao hall k1 k2 k3 k4 hL hm hrow hB hrg; go_wp2_with fail
   refine HSO.out.mono ?_; rintro e w3 ⟨rfl, l', hp, hs, hrow3, hg3⟩; have hK := Kvn HK1.out HK3.out hp hs; have hl'm : l'.length = m := hp.length_eq.trans HM.out; rw [hl'm] at hrow3; have hB3 : Below r w w3 := HB.out.trans ⟨hg3.os, hg3.tape, hg3.output, hg3.size, fun j hj => hg3.block j (by have := HB.out.size; rw [HR.out] at this; omega) (fun e => by have := (World.ownsRow.lt HROW.out j e.symm).1; omega)⟩; have hL3 : LMap w3 B b (Kaj S) n es clock := HL.out.kept hg3 (fun q e => by obtain ⟨cur, hc⟩ := Kce HROW.out e; exact ⟨cur, _, hc, by decide⟩); obtain ⟨A', cap', he, hE3, _, _⟩ := Elems.of_own (fun x _ => Kbt x) rfl hrow3 hl'm; injection he with heA _ hec; subst heA hec; have hu := Kau m (by omega) w3; obtain ⟨U, hU⟩ : ∃ U : ByteArray, (⟨(uintT m).toArray⟩ : ByteArray) = U := ⟨_, rfl⟩; have hUU : U.data.toList = uintT m := by rw [← hU]
   rw [hU] at hu; have HU := Jh hu; have HUU := Jh hUU; have HK := Jh hK; have HLM := Jh hl'm; have HB3 := Jh hB3; have HE3 := Jh hE3; have HL3 := Jh hL3; clear hU hu hUU hK hl'm hB3 hE3 hL3 hrow3 hg3 hp hs; go_wp2_with fail
   refine HU.out.mono ?_; rintro e w4 ⟨rfl, hb4⟩; have HB4 := Jh (HB3.out.trans (hb4.mono (by have := HB3.out.size; rw [HR.out] at this; omega))); have HE4 := Jh ((HE3.out.below hb4).more hb4.size); have HL4 := Jh (HL3.out.below hb4); have hlz : uintT m ++ l'.flatMap (keyT S) = Kbi S := by unfold Kbi; rw [HK.out, ← HK.out, HLM.out]
   have HLZ := Jh hlz; clear hb4 hlz; go_wp2_with fail
   go_loopg [5, 28] m (fun g s5 s28 wz => ∃ (i : Nat) (Z : ByteArray), i + g = m ∧ s28 = .int .i64 (i : Int) ∧ s5 = .string Z ∧ Z.data.toList = uintT m ++ (l'.take i).flatMap (keyT S) ∧ Below w4.heap.size w4 wz)
   case atStart => exact ⟨0, U, by omega, rfl, rfl, by rw [HUU.out]; simp, Below.refl _ _⟩
   case round =>
    obtain ⟨i, Z, hig, rfl, rfl, hZ, hbz⟩ := hrel; have HIG := Jh hig; have HZL := Jh hZ; obtain ⟨wz, rfl⟩ : ∃ x, x = wr := ⟨_, rfl⟩; clear hig hZ
    by_cases hi : i < m
    ·have hil : i < l'.length := by have := HLM.out; omega
     have el : decide ((i : Int) < (m : Int)) = true := by simp; omega
     have el' : decide (i < m) = true := by simp; omega
     obtain ⟨bk, ok, rfl, _, _⟩ := HE4.out.2 (by omega); obtain ⟨hbl, c0, c1⟩ := Kca HE4.out (by omega) hbz i hil; have hmem : l'[i]! ∈ l' := by rw [getElem!_pos l' i hil]; exact List.getElem_mem hil
     have htk : l'.take (i + 1) = l'.take i ++ [l'[i]!] := by rw [getElem!_pos l' i hil]; exact (List.take_append_getElem hil).symm
     obtain ⟨x, hx⟩ : ∃ x, l'[i]! = x := ⟨_, rfl⟩; rw [hx] at c0 c1 hmem htk
     have hlen : (uintT m ++ (l'.take (i + 1)).flatMap (keyT S)).length ≤ 35184372088832 := by
      have h1 := HZ.out; rw [← HLZ.out, List.length_append] at h1; rw [List.length_append]
      have h2 : ((l'.take (i + 1)).flatMap (keyT S)).length ≤ (l'.flatMap (keyT S)).length := by
       have : l'.flatMap (keyT S) = (l'.take (i + 1)).flatMap (keyT S) ++ (l'.drop (i + 1)).flatMap (keyT S) := by rw [← List.flatMap_append, List.take_append_drop]
       rw [this, List.length_append]; omega
      omega
     rw [htk, List.flatMap_append, List.flatMap_singleton, ← List.append_assoc, ← HZL.out] at hlen; have hkt : keyT S x = textT x.n ++ (textT x.v ++ postT (Kaj S x)) := rfl; rw [hkt] at hlen; simp only [List.length_append] at hlen; have hZs : Z.data.toList.length = Z.size := rfl; rw [hZs] at hlen; obtain ⟨N, hN⟩ : ∃ N : ByteArray, (⟨x.n.toArray⟩ : ByteArray) = N := ⟨_, rfl⟩; obtain ⟨V, hV⟩ : ∃ N : ByteArray, (⟨x.v.toArray⟩ : ByteArray) = N := ⟨_, rfl⟩; have hNn : N.data.toList = x.n := by rw [← hN]
     have hVv : V.data.toList = x.v := by rw [← hV]
     rw [hN] at c0; rw [hV] at c1; have hlb : lbV x = .agg #[.string N, .string V] := by unfold lbV; rw [hN, hV]
     have hxS : x ∈ keysOf S := by rw [← HK.out]; exact hmem
     obtain ⟨hxz, e0, he0, hek0⟩ : (x.n.length ≤ 1099511627776 ∧ x.v.length ≤ 1099511627776) ∧ ∃ e0, e0 ∈ es.toList ∧ e0.key = lbV x := by
      obtain ⟨e0, he0, hek0⟩ := HL4.out.a x (Kij.2 hxS); obtain ⟨y, hyz, hy, _⟩ := HL4.out.k e0 he0; rw [hek0] at hy; rw [Kez hy]; exact ⟨hyz, e0, he0, by rw [hek0, Kez hy]⟩
     have HXZ := Jh hxz; have HE0 := Jh he0; have HEK := Jh hek0; have HLB := Jh hlb; have HTK := Jh htk; have HNN := Jh hNn; have HVV := Jh hVv; clear hx hN hV hNn hVv hlb hxS hxz he0 hek0 htk hZs hkt hmem; go_upto_region 11 with fail
     have hb5 : Below wz.heap.size wz (wz.alloc (.cells #[.string N, .string V] 99)) := (Below.refl _ _).alloc (Nat.le_refl _) _; have hq : Blk (wz.alloc (.cells #[.string N, .string V] 99)) wz.heap.size 99 #[.string N, .string V] := Blk.new _ _ _; obtain ⟨w5, hw5⟩ : ∃ w5, wz.alloc (.cells #[.string N, .string V] 99) = w5 := ⟨_, rfl⟩; rw [hw5] at hb5 hq ⊢; obtain ⟨p, hp⟩ : ∃ p, wz.heap.size = p := ⟨_, rfl⟩; rw [hp] at hq ⊢; have hB5 := then_ hbz hb5; have hL5 := HL4.out.below hB5; clear hw5 hp c0 c1 hb5 hbz; have q0 : _ = some (Value.string N) := hq.cell 0; have q1 : _ = some (Value.string V) := hq.cell 1; obtain ⟨kl, hkl⟩ := Kml x (by have := HXZ.out.1; unfold maxLen; omega) (by have := HXZ.out.2; unfold maxLen; omega); have hlook := Kyb hL5.h (Kxf hL5) hkl HE0.out HEK.out hL5.st.2.2; rw [HLB.out] at hlook; obtain ⟨y, _, hy, hyf, hown⟩ := hL5.k e0 HE0.out; rw [HEK.out] at hy; obtain rfl : y = x := (Kez hy).symm; obtain ⟨A2, c2, hv2, hE2, _, _⟩ := Elems.of_own (fun (x : Nat) _ => (rfl : (encN x).length = 1)) rfl hown rfl; rw [hv2] at hlook; have hpw : (Kaj S y).Pairwise (· < ·) := by unfold Kaj; exact List.pairwise_lt_range.filter _
     have hpv : ∀ z ∈ Kaj S y, z ≤ 1099511627776 := fun z hz => by
      unfold Kaj at hz; have := List.mem_range.1 (List.mem_filter.1 hz).1; omega
     have hplen := Kfp S y; have HPE := Jh (Krp (Kaj S y) A2 (Kaj S y).length c2 w5 hE2 (by omega) hpw hpv); obtain ⟨PT, hPT⟩ : ∃ N : ByteArray, (⟨(postT (Kaj S y)).toArray⟩ : ByteArray) = N := ⟨_, rfl⟩; obtain ⟨n2, hn2⟩ : ∃ n2, (Kaj S y).length = n2 := ⟨_, rfl⟩; have hPd : PT.data.toList = postT (Kaj S y) := by rw [← hPT]
     have hPs : PT.size = (postT (Kaj S y)).length := by rw [← Kah, hPd]
     rw [hPT, hn2] at HPE; rw [hn2] at hlook; have HPD := Jh hPd; have HQ := Jh hq; rw [← hPs] at hlen; clear hy hyf hown hv2 hE2 hpw hpv hplen hPT hn2 hPs hPd hL5 hkl; go_wp2_with fail
     refine HPE.out.mono ?_; rintro _ w6 ⟨rfl, hb6⟩; have hq6 := HQ.out.below hb6 HQ.out.lt; have hB6 := then_ hB5 hb6; have q0 : w6.cell? ⟨p, 0, none⟩ = some (Value.string N) := hq6.cell 0; have q1 : w6.cell? ⟨p, 1, none⟩ = some (Value.string V) := hq6.cell 1; have hp6 := hq6.lt; have hNs : N.size ≤ 140737488351232 := by rw [← Kah, HNN.out]; have := HXZ.out.1; omega
     have hVs : V.size ≤ 140737488351232 := by rw [← Kah, HVV.out]; have := HXZ.out.2; omega
     have HT1 := Jh (fun u : Later w6 => Kfe N hNs u.w); have HT2 := Jh (fun u : Later w6 => Kfe V hVs u.w); rw [HNN.out] at HT1; rw [HVV.out] at HT2; obtain ⟨T1, hT1⟩ : ∃ N : ByteArray, (⟨(textT y.n).toArray⟩ : ByteArray) = N := ⟨_, rfl⟩; obtain ⟨T2, hT2⟩ : ∃ N : ByteArray, (⟨(textT y.v).toArray⟩ : ByteArray) = N := ⟨_, rfl⟩; have hTd1 : T1.data.toList = textT y.n := by rw [← hT1]
     have hTd2 : T2.data.toList = textT y.v := by rw [← hT2]
     have hTs1 : T1.size = (textT y.n).length := by rw [← Kah, hTd1]
     have hTs2 : T2.size = (textT y.v).length := by rw [← Kah, hTd2]
     rw [hT1] at HT1; rw [hT2] at HT2; rw [← hTs1, ← hTs2] at hlen; have HTD1 := Jh hTd1; have HTD2 := Jh hTd2; clear hT1 hT2 hTs1 hTs2 hTd1 hTd2 hNs hVs hq6 hq hb6 hlook hB5; go_upto_region 12 with fail
     refine Kai (by kernel_rfl) (by kernel_rfl) ?_
     repeat (go_big_quiet_step ((first | (go_at_call 112; first | with_reducible exact Kal _ (HT1.out _) | with_reducible exact Kal _ (HT2.out _)))))
     refine wpQuiet_nil ?_; rintro w7 ⟨⟨_, hb7⟩, rfl⟩; go_wp2_with fail
     go_roundg (gk - 1)
     case measure => have := HIG.out; omega
     case rel =>
      refine ⟨i + 1, _, by have := HIG.out; omega, by go_num, rfl, ?_, then_ hB6 hb7⟩; rw [HTK.out, List.flatMap_append, List.flatMap_singleton, ← List.append_assoc, ← HZL.out]; show _ = _ ++ keyT S y
      unfold keyT; simp only [ByteArray.data_append, Array.toList_append, HTD1.out, HTD2.out, HPD.out, List.append_assoc]
    ·have el : decide ((i : Int) < (m : Int)) = false := by simp; omega
     have el' : decide (i < m) = false := by simp; omega
     have him : i = m := by have := HIG.out; omega
     have hfin : (⟨(Kbi S).toArray⟩ : ByteArray) = Z := by
      have h1 := HZL.out; rw [him, ← HLM.out, List.take_length, HLM.out, HLZ.out] at h1; rw [← h1]
     have HF := Jh hfin; have HBZ := Jh (HB4.out.trans (hbz.mono (by have := HB4.out.size; rw [HR.out] at this; omega))); clear hfin him; go_wp2_with fail
     go_ret
     rw [HF.out]; exact ⟨rfl, by rw [HR.out]; exact HBZ.out⟩
  ·intro p v w2 hco; obtain ⟨e, cnt2, he, hno, hek, hev, hrg2, hlt⟩ := hco.ex; have hg2 := hco.g; have hen := hco.run; obtain ⟨x, hxz, hxk, hxf, _⟩ := H.out.k e he; have hxk2 := hxk; rw [hek] at hxk; obtain ⟨hX, hY⟩ := Qfj hxk; obtain ⟨X, Y⟩ := p; dsimp only at hX hY; have hB2 : Below r w w2 := hB.trans ⟨hg2.os, hg2.tape, hg2.output, hg2.size, fun j hj => hg2.block j (by have := hB.size; rw [HR.out] at this; omega) (fun e => by injection e with e; omega)⟩; have hrow2 : w2.ownsRow (r + 1) 99 2 v3 ks.length (ks.flatMap encLb) := hrow.kept hg2 (.inr fun e => by have := (hrow.lt r e).1; omega); have hkl := (Ksy H.out hrg.nd hrg.sub HKS.out).2.2.2; have hr2 : r < w2.heap.size := hrg2.rlt; have hbr : b < r := by have := (Array.getElem?_eq_some_iff.1 H.out.h).1; have := HR.out; omega
   obtain ⟨m, hm⟩ : ∃ m, ks.length = m := ⟨_, rfl⟩; rw [hm] at hkl hrow2; have HM := Jh hm; have HX := Jh hX; have HY := Jh hY; have HXK := Jh hxk2; have hen' : (Instr.entry (.pointer (some ⟨r, 0, none⟩))).run Tryz.prog w2 = .ok (.tuple #[.agg #[.string X, .string Y], v]) w2 := hen; clear hco hxk hxk2 hX hY hrow hrg hm hg2 hB hen hek hev hno hxf hxz he; unfold mkP; dsimp only; go_upto_region 5 with fail
   have hb3 : Below w2.heap.size w2 (w2.alloc (.cells #[.string X, .string Y] 99)) := (Below.refl _ _).alloc (Nat.le_refl _) _; have hq : Blk (w2.alloc (.cells #[.string X, .string Y] 99)) w2.heap.size 99 #[.string X, .string Y] := Blk.new _ _ _; obtain ⟨w3, hw3⟩ : ∃ w5, w2.alloc (.cells #[.string X, .string Y] 99) = w5 := ⟨_, rfl⟩; rw [hw3] at hb3 hq ⊢; obtain ⟨p, hp⟩ : ∃ p, w2.heap.size = p := ⟨_, rfl⟩; have hrow3 : w3.ownsRow (r + 1) 99 2 v3 m (ks.flatMap encLb) := by rw [← hw3]; exact hrow2.alloc _
   have hrg3 := hrg2.below hb3; have hB3 : Below r w w3 := hB2.trans (hb3.mono (by omega)); rw [hp] at hq ⊢; have q0 : _ = some (Value.string X) := hq.cell 0; have q1 : _ = some (Value.string Y) := hq.cell 1; have hr3 : r < w3.heap.size := hrg3.rlt; clear hp hw3 hb3 hrow2 hrg2 hB2 hen'; go_wp2_with (at_builtin; refine wpList_append_own_at _ rfl _ _ 54 rfl (r + 1) 99 i0 (.agg #[.string ⟨#[]⟩, .string ⟨#[]⟩]) 2 32 Tryz.underlying54 hi0 hz0 hz1 hz2 rfl (by decide) _ _ _ rfl (hrow3.alloc _) ⟨w3.heap.size, 0, none⟩ 1 1 [.string X, .string Y] rfl rfl ?p1 ?p2 ?p3 ?p4 ?p5 ?_)
   case p1 => exact Kbk (l := [.string X, .string Y]) (Blk.new w3 _ _)
   case p2 => intro u hu; simp at hu; rcases hu with rfl | rfl <;> rfl
   case p3 => unfold maxLen; omega
   case p4 => omega
   case p5 => simp; omega
   intro v' w4 hown' hgrow _ _; have hall : w3.grownBy w4 v3.ownBlock := (World.grownBy_alloc w3 _ _).trans hgrow; have hB4 : Below r w w4 := hB3.trans ⟨hall.os, hall.tape, hall.output, hall.size, fun j hj => hall.block j (by omega) (fun e => by have := (hrow3.lt j e.symm).1; omega)⟩; have hrg4 := hrg3.kept hall (fun e => by have := (hrow3.lt b e.symm).1; omega) (fun e => by have := (hrow3.lt r e.symm).1; omega)
   have hrow4 : w4.ownsRow (r + 1) 99 2 v' (ks ++ [x]).length ((ks ++ [x]).flatMap encLb) := by
    have e1 : (ks ++ [x]).flatMap encLb = ks.flatMap encLb ++ [.string X, .string Y] := by rw [List.flatMap_append]; simp [encLb, HX.out, HY.out]
    rw [e1, List.length_append, HM.out]; exact hown'
   have HXKS := Jh (show (out ++ [e]).map (·.key) = (ks ++ [x]).map lbV by rw [List.map_append, List.map_append, HKS.out]; simp [HXK.out]); clear hown' hgrow hall hrow3 hrg3 q0 q1 hq; go_wp2_with fail
   go_roundg (gk - 1)
   case measure => omega
   case rel => exact ⟨out ++ [e], cnt2, ks ++ [x], _, rfl, by omega, hrg4, HXKS.out, hrow4, hB4⟩
end
section
open Go.RowKit
open Lib renaming hid → Jh
attribute [local go_sem ↓] Go.wp_at_zero Go.wp_at_succ
attribute [local go_sem] Later.cell
def i64V (v : Int) : Value := .int .i64 v
def Kcy (S : List UInt8) (c : Cst) (i : Nat) : Option (Int × Cst × Nat) := match Kbn S i with
 | none => none
 | some (v, j) => some (v, c, j)
theorem Kept.two {w w1 w2 : World} {a b : Nat} (h : Kept w.heap.size [a, b] w w1) (k : Kept w1.heap.size [a, b] w1 w2) : Kept w.heap.size [a, b] w w2 := h.trans (k.mono h.size (fun _ _ h => h))
theorem Kept.then_' {w w1 w2 : World} {ex : List Nat} (h : Kept w.heap.size ex w w1) (k : Below w1.heap.size w1 w2) : Kept w.heap.size ex w w2 := h.then_ k
theorem Kcq {s : List UInt8} {i n v j : Nat} (h : readN s i n = some (v, j)) : v < 2 ^ n := by
 unfold readN at h
 split at h
 ·injection h with h; injection h with h _; have := Kkn (Kcj s i n); rw [Kfd] at this; omega
 ·cases h
theorem Qgc (w : World) : (Instr.field 334 (.agg #[.int .u64 2, .int .i64 2, .int .i64 7]) 2).run Tryz.prog w = .ok (.int .i64 7) w := by kernel_rfl
theorem Qfc (w : World) : (Instr.field 334 (.agg #[.int .u64 6, .int .i64 3, .int .i64 9]) 2).run Tryz.prog w = .ok (.int .i64 9) w := by kernel_rfl
theorem Qfh (w : World) : (Instr.field 334 (.agg #[.int .u64 14, .int .i64 4, .int .i64 12]) 2).run Tryz.prog w = .ok (.int .i64 12) w := by kernel_rfl
theorem Qfs (w : World) : (Instr.field 334 (.agg #[.int .u64 15, .int .i64 4, .int .i64 64]) 2).run Tryz.prog w = .ok (.int .i64 64) w := by kernel_rfl
theorem Ksd (rd rb i : Nat) (S : ByteArray) (c : Cst) (w : World) (h : RdrAt rd rb S i c w) (hS : S.size ≤ 140737488351232) (hi : i ≤ 8 * S.size) :
  Calls Tryz.prog 229 #[.pointer (some ⟨rd, 0, none⟩)] w (RdO rd rb S i64V w (Kcy S.data.toList c i)) := by
 have H := Jh h; clear h; obtain ⟨M0, hM0⟩ : ∃ M0, Kds S.data.toList 4 i = M0 := ⟨_, rfl⟩; have HM0 := Jh hM0; clear hM0; go_enter Tryz.func229, Tryz.ntmps229
 go_upto_block 0 with fail
 go_cut [3] (fun s3 wx => ∃ m j : Nat, M0 = some (m, j) ∧ s3 = .int .i64 (m : Int) ∧ m ≤ 4 ∧ j ≤ 8 * S.size ∧ RdrAt rd rb S j c wx ∧ Kept w.heap.size [rd, rb] w wx)
 case first =>
  go_wp2_with fail
  go_loopg [3] 4 (fun g s3 wr => ∃ m j : Nat, m + g = 4 ∧ s3 = .int .i64 (m : Int) ∧ j ≤ 8 * S.size ∧ RdrAt rd rb S j c wr ∧ Kept w.heap.size [rd, rb] w wr ∧ M0 = (match Kds S.data.toList g j with | none => none | some (k, j2) => some (k + m, j2)))
  case atStart => exact ⟨0, i, rfl, rfl, hi, H.out, Kept.refl _ _ _, by rw [HM0.out]; cases M0 <;> rfl⟩
  case round =>
   obtain ⟨m, j, hm, rfl, hj, hr, hk, hmk⟩ := hrel; have HR := Jh hr; have HK := Jh hk; have HMK := Jh hmk; clear hr hk hmk
   cases gk with
   | zero =>
    obtain rfl : m = 4 := by omega
    have hmk := HMK.out; rw [Kds] at hmk; go_wp2_with fail
    go_meet
    exact ⟨4, j, hmk, rfl, by decide, hj, HR.out, HK.out⟩
   | succ g =>
    have el : decide ((m : Int) < 4) = true := by rw [decide_eq_true_eq]; omega
    have HB := Jh (Kbs rd rb j 1 S c wr HR.out (by decide) hS hj); obtain ⟨o, ho⟩ : ∃ o, readN S.data.toList j 1 = o := ⟨_, rfl⟩; have HO := Jh ho; have hmk := HMK.out; rw [Kds, ho] at hmk; unfold bitsR at HB; rw [ho] at HB; clear ho
    cases o with
    | none =>
     have HN : Hid (M0 = none) := Jh hmk; clear hmk; go_wp2_with fail
     refine HB.out.mono ?_; rintro _ w2 ⟨⟨f, hf, rfl⟩, hk2⟩; unfold Kaq; go_wp2_with fail
     refine Kae rfl ?_; unfold Kcy Kbn; rw [HM0.out, HN.out]; exact ⟨⟨f, hf, rfl⟩, HK.out.two hk2⟩
    | some vj =>
     obtain ⟨v, j2⟩ := vj; dsimp only at hmk HB; go_wp2_with fail
     refine HB.out.mono ?_; rintro _ w2 ⟨rfl, hr2, hj2, hk2⟩; unfold u64V; have HR2 := Jh hr2; have HK2 := Jh (HK.out.two hk2); clear hr2 hk2
     by_cases hv : v = 1
     ·subst hv; rw [if_pos rfl] at hmk; have HM := Jh hmk; clear hmk; go_wp2_with fail
      go_roundg g
      case measure => omega
      case rel =>
       refine ⟨m + 1, j2, by omega, by go_num, hj2, HR2.out, HK2.out, ?_⟩; rw [HM.out]
       cases Kds S.data.toList g j2 with
       | none => rfl
       | some x => dsimp only; rw [Nat.add_right_comm, Nat.add_assoc]
     ·rw [if_neg hv] at hmk; have HM := Jh hmk; have e1 : ((v : Int) == 1) = false := by simp; omega
      clear hmk; go_wp2_with fail
      go_meet
      exact ⟨m, j2, by rw [HM.out, Nat.zero_add], rfl, by omega, hj2, HR2.out, HK2.out⟩
 case rest =>
  obtain ⟨m, j, hmk, rfl, hm4, hj, hr, hk⟩ := hcut; have HR := Jh hr; have HK := Jh hk; have HMK := Jh hmk; clear hr hk hmk; rcases (by omega : m = 0 ∨ m = 1 ∨ m = 2 ∨ m = 3 ∨ m = 4) with rfl | rfl | rfl | rfl | rfl
  ·go_wp2_with fail
   go_ret
   unfold Kcy Kbn; rw [HM0.out, HMK.out]; exact ⟨rfl, HR.out, hj, HK.out⟩
  ·have HB := Jh (fun w2 (hb : Below wc.heap.size wc w2) => Kbs rd rb j 7 S c w2 (HR.out.below hb) (by decide) hS hj); obtain ⟨o, ho⟩ : ∃ o, readN S.data.toList j 7 = o := ⟨_, rfl⟩; have HO := Jh ho; unfold bitsR at HB; simp only [ho] at HB; clear ho; go_wp2_with fail
   refine (Kep wc).mono ?_; rintro _ w2 ⟨rfl, hb2⟩; have i0 := size0; have i1 := Qgc; obtain ⟨vs, hvs⟩ : ∃ vs, Kfc = vs := ⟨_, rfl⟩; rw [hvs] at i0; rw [show (Value.agg #[.int .u64 2, .int .i64 2, .int .i64 7, .int .u64 6, .int .i64 3, .int .i64 9, .int .u64 14, .int .i64 4, .int .i64 12, .int .u64 15, .int .i64 4, .int .i64 64]) = vs from hvs]; clear hvs; have HB2 := Jh (HB.out w2 hb2); have HK2 := Jh (HK.out.then_' hb2); clear hb2
   cases o with
   | none =>
    go_wp2_with fail
    refine HB2.out.mono ?_; rintro _ w3 ⟨⟨f, hf, rfl⟩, hk3⟩; unfold Kaq; go_wp2_with fail
    refine Kae rfl ?_
    have hcr : Kbn S.data.toList i = none := by
     unfold Kbn; rw [HM0.out, HMK.out]; dsimp only; rw [show Kdc (0 + 1) = 7 from rfl, HO.out]
    unfold Kcy; rw [hcr]; exact ⟨⟨f, hf, rfl⟩, HK2.out.two hk3⟩
   | some vj =>
    obtain ⟨v, j2⟩ := vj; have hvl : v < 2 ^ 7 := Kcq HO.out; go_wp2_with fail
    refine HB2.out.mono ?_; rintro _ w3 ⟨rfl, hr3, hj3, hk3⟩; have HR3 := Jh hr3; have HK3 := Jh (HK2.out.two hk3); clear hr3 hk3; unfold u64V; go_wp2_with fail
    go_ret
    have hcr : Kbn S.data.toList i = some (signW 7 v, j2) := by
     unfold Kbn; rw [HM0.out, HMK.out]; dsimp only; rw [show Kdc (0 + 1) = 7 from rfl, HO.out]
    have hsg : wrap64 ((v : Int) * 144115188075855872) / 144115188075855872 = signW 7 v := by
     simp at hvl; unfold signW wrap64; simp
     split <;> omega
    unfold Kcy; rw [hcr, hsg]; exact ⟨rfl, HR3.out, hj3, HK3.out⟩
  ·have HB := Jh (fun w2 (hb : Below wc.heap.size wc w2) => Kbs rd rb j 9 S c w2 (HR.out.below hb) (by decide) hS hj); obtain ⟨o, ho⟩ : ∃ o, readN S.data.toList j 9 = o := ⟨_, rfl⟩; have HO := Jh ho; unfold bitsR at HB; simp only [ho] at HB; clear ho; go_wp2_with fail
   refine (Kep wc).mono ?_; rintro _ w2 ⟨rfl, hb2⟩; have i0 := size1; have i1 := Qfc; obtain ⟨vs, hvs⟩ : ∃ vs, Kfc = vs := ⟨_, rfl⟩; rw [hvs] at i0; rw [show (Value.agg #[.int .u64 2, .int .i64 2, .int .i64 7, .int .u64 6, .int .i64 3, .int .i64 9, .int .u64 14, .int .i64 4, .int .i64 12, .int .u64 15, .int .i64 4, .int .i64 64]) = vs from hvs]; clear hvs; have HB2 := Jh (HB.out w2 hb2); have HK2 := Jh (HK.out.then_' hb2); clear hb2
   cases o with
   | none =>
    go_wp2_with fail
    refine HB2.out.mono ?_; rintro _ w3 ⟨⟨f, hf, rfl⟩, hk3⟩; unfold Kaq; go_wp2_with fail
    refine Kae rfl ?_
    have hcr : Kbn S.data.toList i = none := by
     unfold Kbn; rw [HM0.out, HMK.out]; dsimp only; rw [show Kdc (1 + 1) = 9 from rfl, HO.out]
    unfold Kcy; rw [hcr]; exact ⟨⟨f, hf, rfl⟩, HK2.out.two hk3⟩
   | some vj =>
    obtain ⟨v, j2⟩ := vj; have hvl : v < 2 ^ 9 := Kcq HO.out; go_wp2_with fail
    refine HB2.out.mono ?_; rintro _ w3 ⟨rfl, hr3, hj3, hk3⟩; have HR3 := Jh hr3; have HK3 := Jh (HK2.out.two hk3); clear hr3 hk3; unfold u64V; go_wp2_with fail
    go_ret
    have hcr : Kbn S.data.toList i = some (signW 9 v, j2) := by
     unfold Kbn; rw [HM0.out, HMK.out]; dsimp only; rw [show Kdc (1 + 1) = 9 from rfl, HO.out]
    have hsg : wrap64 ((v : Int) * 36028797018963968) / 36028797018963968 = signW 9 v := by
     simp at hvl; unfold signW wrap64; simp
     split <;> omega
    unfold Kcy; rw [hcr, hsg]; exact ⟨rfl, HR3.out, hj3, HK3.out⟩
  ·have HB := Jh (fun w2 (hb : Below wc.heap.size wc w2) => Kbs rd rb j 12 S c w2 (HR.out.below hb) (by decide) hS hj); obtain ⟨o, ho⟩ : ∃ o, readN S.data.toList j 12 = o := ⟨_, rfl⟩; have HO := Jh ho; unfold bitsR at HB; simp only [ho] at HB; clear ho; go_wp2_with fail
   refine (Kep wc).mono ?_; rintro _ w2 ⟨rfl, hb2⟩; have i0 := size2; have i1 := Qfh; obtain ⟨vs, hvs⟩ : ∃ vs, Kfc = vs := ⟨_, rfl⟩; rw [hvs] at i0; rw [show (Value.agg #[.int .u64 2, .int .i64 2, .int .i64 7, .int .u64 6, .int .i64 3, .int .i64 9, .int .u64 14, .int .i64 4, .int .i64 12, .int .u64 15, .int .i64 4, .int .i64 64]) = vs from hvs]; clear hvs; have HB2 := Jh (HB.out w2 hb2); have HK2 := Jh (HK.out.then_' hb2); clear hb2
   cases o with
   | none =>
    go_wp2_with fail
    refine HB2.out.mono ?_; rintro _ w3 ⟨⟨f, hf, rfl⟩, hk3⟩; unfold Kaq; go_wp2_with fail
    refine Kae rfl ?_
    have hcr : Kbn S.data.toList i = none := by
     unfold Kbn; rw [HM0.out, HMK.out]; dsimp only; rw [show Kdc (2 + 1) = 12 from rfl, HO.out]
    unfold Kcy; rw [hcr]; exact ⟨⟨f, hf, rfl⟩, HK2.out.two hk3⟩
   | some vj =>
    obtain ⟨v, j2⟩ := vj; have hvl : v < 2 ^ 12 := Kcq HO.out; go_wp2_with fail
    refine HB2.out.mono ?_; rintro _ w3 ⟨rfl, hr3, hj3, hk3⟩; have HR3 := Jh hr3; have HK3 := Jh (HK2.out.two hk3); clear hr3 hk3; unfold u64V; go_wp2_with fail
    go_ret
    have hcr : Kbn S.data.toList i = some (signW 12 v, j2) := by
     unfold Kbn; rw [HM0.out, HMK.out]; dsimp only; rw [show Kdc (2 + 1) = 12 from rfl, HO.out]
    have hsg : wrap64 ((v : Int) * 4503599627370496) / 4503599627370496 = signW 12 v := by
     simp at hvl; unfold signW wrap64; simp
     split <;> omega
    unfold Kcy; rw [hcr, hsg]; exact ⟨rfl, HR3.out, hj3, HK3.out⟩
  ·have HB := Jh (fun w2 (hb : Below wc.heap.size wc w2) => Kbs rd rb j 64 S c w2 (HR.out.below hb) (by decide) hS hj); obtain ⟨o, ho⟩ : ∃ o, readN S.data.toList j 64 = o := ⟨_, rfl⟩; have HO := Jh ho; unfold bitsR at HB; simp only [ho] at HB; clear ho; go_wp2_with fail
   refine (Kep wc).mono ?_; rintro _ w2 ⟨rfl, hb2⟩; have i0 := size3; have i1 := Qfs; obtain ⟨vs, hvs⟩ : ∃ vs, Kfc = vs := ⟨_, rfl⟩; rw [hvs] at i0; rw [show (Value.agg #[.int .u64 2, .int .i64 2, .int .i64 7, .int .u64 6, .int .i64 3, .int .i64 9, .int .u64 14, .int .i64 4, .int .i64 12, .int .u64 15, .int .i64 4, .int .i64 64]) = vs from hvs]; clear hvs; have HB2 := Jh (HB.out w2 hb2); have HK2 := Jh (HK.out.then_' hb2); clear hb2
   cases o with
   | none =>
    go_wp2_with fail
    refine HB2.out.mono ?_; rintro _ w3 ⟨⟨f, hf, rfl⟩, hk3⟩; unfold Kaq; go_wp2_with fail
    refine Kae rfl ?_
    have hcr : Kbn S.data.toList i = none := by
     unfold Kbn; rw [HM0.out, HMK.out]; dsimp only; rw [show Kdc (3 + 1) = 64 from rfl, HO.out]
    unfold Kcy; rw [hcr]; exact ⟨⟨f, hf, rfl⟩, HK2.out.two hk3⟩
   | some vj =>
    obtain ⟨v, j2⟩ := vj; have hvl : v < 2 ^ 64 := Kcq HO.out; go_wp2_with fail
    refine HB2.out.mono ?_; rintro _ w3 ⟨rfl, hr3, hj3, hk3⟩; have HR3 := Jh hr3; have HK3 := Jh (HK2.out.two hk3); clear hr3 hk3; unfold u64V; go_wp2_with fail
    go_ret
    have hcr : Kbn S.data.toList i = some (signW 64 v, j2) := by
     unfold Kbn; rw [HM0.out, HMK.out]; dsimp only; rw [show Kdc (3 + 1) = 64 from rfl, HO.out]
    have hsg : wrap64 (v : Int) = signW 64 v := by
     simp at hvl; unfold signW wrap64; simp
     split <;> omega
    unfold Kcy; rw [hcr, hsg]; exact ⟨rfl, HR3.out, hj3, HK3.out⟩
end
section
open Go.RowKit
theorem Oper.wp_faults {P : Program} {Q : Exit → Act → World → Prop} {o : Oper} {a : Act} {w w1 : World} {g : FuncId} {args : Array Value} {K : Act → World → Prop} (h : (execOp a.eval o).run P w = .ok (.enter g args) w1) {N : List PanicEntry → World → Prop}
  (hc : Calls P g args w1 fun e w' => ∃ u, e = .panicked u ∧ N u w') (hK : ∀ u w', N u w' → Q (.panic u) a w') : OpW o P a w K Q := .of <| by
 unfold Oper.wp; rw [h]; refine Calls.mono hc ?_; rintro e w' ⟨u, rfl, hn⟩; exact hK u w' hn
end
end Go.Proofs.YtdoiekknhnbepaaGreatDoor
