/- Merged (what the claim wants of): UnpWalksC, PostWalksA, AggWalksC, PostWalksB, SymDecW, BlkTake2, BlkSeries, LabCmpW. -/
import Derived.Test.YtdoiekknhnbepaaGreatDoorBap05
import Derived.OneCell
import Derived.Test.YtdoiekknhnbepaaGreatDoorBap04
import Derived.Test.YtdoiekknhnbepaaGreatDoorBap03
import Derived.Test.YtdoiekknhnbepaaGreatDoorBap02
import Derived.Maps.AppendAt
import Derived.Deep.Onto
set_option linter.unusedVariables false
set_option linter.unusedSimpArgs false
set_option maxRecDepth 100000
set_option maxHeartbeats 8000000
namespace Go.Proofs.YtdoiekknhnbepaaGreatDoor
section
open Go.RowKit Go.Sort
open Lib renaming hid → Jh
attribute [local go_sem ↓] Go.wp_at_zero Go.wp_at_succ
attribute [local go_sem] Later.cell
def PLabs (B : Nat) (w : World) (v : Value) (ys : List Lb) : Prop := w.ownsRow B 99 2 v ys.length (ys.flatMap encLb)
theorem Qaq {B : Nat} {w : World} {g n cap : Nat} {zs : List Lb} (h : PLabs B w (.slice (some ⟨g, 0, none⟩) n cap) zs) (hl : zs.length = n) {k : Nat} (hk : k < n) :
  w.cell? ⟨g, k * 2, none⟩ = some (.string ⟨zs[k]!.n.toArray⟩) ∧ w.cell? ⟨g, k * 2 + 1, none⟩ = some (.string ⟨zs[k]!.v.toArray⟩) := by
 unfold PLabs at h; rw [hl] at h; refine ⟨?_, ?_⟩
 ·rw [h.cellAt (k * 2) (by omega), Kde zs _ (by omega), show k * 2 / 2 = k by omega, show k * 2 % 2 = 0 by omega]; rfl
 ·rw [h.cellAt (k * 2 + 1) (by omega), Kde zs _ (by omega), show (k * 2 + 1) / 2 = k by omega, show (k * 2 + 1) % 2 = 1 by omega]; rfl
theorem Kuh {B : Nat} {w : World} {v : Value} {ys : List Lb} (h : PLabs B w v ys) {p i : Nat} (hp : v.ownBlock ≠ some p) (u : Value) : PLabs B (w.setCell ⟨p, i, none⟩ u) v ys :=
 ownsRow_setCell_other h (a := ⟨p, i, none⟩) hp u
theorem Kkd {B : Nat} {w w' : World} (h : Below B w w') {p i : Nat} (hp : B ≤ p) (u : Value) : Below B w (w'.setCell ⟨p, i, none⟩ u) :=
 ⟨h.os, h.tape, h.output, by have := h.size; simpa using this, fun k hk => (Below.heap_setCell w' ⟨p, i, none⟩ u k (fun e => by simp at e; omega)).trans (h.block k hk)⟩
theorem Qey {w : World} {B : Nat} {v : Value} {ys : List Lb} (h : PLabs B w v ys) : v.ownBlock ≠ some w.heap.size := by
 intro e; have := (h.lt _ e).2; omega
theorem Ksc (v : Value) (t : List Txt) (s : ByteArray) (k : Int) (w : World) (R : List Lb × Nat × Nat) (hr : unpR t s.data.toList k = R) (h : TabAt w v t) (hm : t.length * 16 ≤ 140737488351232) (hs : s.size ≤ 140737488351232) (hz : ∀ x ∈ t, x.length ≤ 140737488351232) :
  Calls Tryz.prog 150 #[v, .string s, .int .i64 k] w (Ked w R) := by
 obtain ⟨i0, hi0, hz0, hz1, hz2⟩ := info_parts Kmi; obtain ⟨v1, n1, e1, h1⟩ : ∃ v n e, Kan s.data.toList k = (v, n, e) := ⟨_, _, _, rfl⟩; have H1 := Jh h1; have HZ := Jh hz; rw [unpR, h1] at hr; dsimp only at hr; clear h1 hz
 by_cases he : e1 = 0
 ·subst he; rw [if_neg (by simp)] at hr
  by_cases hv0 : v1 = 0
  ·subst hv0; rw [if_pos rfl] at hr; subst hr; go_enter Tryz.func150, Tryz.ntmps150
   go_wp2_with fail
   refine (Kam s k 0 n1 0 H1.out hs w).mono ?_; rintro _ w1 ⟨rfl, rfl⟩; go_wp2_with fail
   go_ret3
   exact Ked.bad rfl (Below.refl _ _)
  ·rw [if_neg hv0] at hr; have ev0 : ((v1 : Int) == 0) = false := by rw [beq_eq_false_iff_ne]; omega
   by_cases hv8 : 8 < v1
   ·rw [if_pos hv8] at hr; subst hr; have ev8 : decide ((8 : Int) < (v1 : Int)) = true := by simp; omega
    go_enter Tryz.func150, Tryz.ntmps150
    go_wp2_with fail
    refine (Kam s k v1 n1 0 H1.out hs w).mono ?_; rintro _ w1 ⟨rfl, rfl⟩; go_wp2_with fail
    go_ret3
    exact Ked.bad rfl (Below.refl _ _)
   ·rw [if_neg hv8] at hr; have ev8 : decide ((8 : Int) < (v1 : Int)) = false := by simp; omega
    have HR := Jh hr; clear hr hv0; go_enter Tryz.func150, Tryz.ntmps150
    go_wp2_with fail
    refine (Kam s k v1 n1 0 H1.out hs w).mono ?_; rintro _ w1 ⟨rfl, rfl⟩; go_wp2_with fail
    go_loopg [2, 11, 34] v1 (fun g s2 s11 s34 wr => ∃ (i p : Nat) (ys : List Lb) (v11 : Value), v11 = s11 ∧ i + g = v1 ∧ s34 = .int .u64 (i : Int) ∧ s2 = .int .i64 (p : Int) ∧ ys.length = i ∧ PLabs w.heap.size wr v11 ys ∧ unpL t s.data.toList g ys p = R ∧ Below w.heap.size w wr)
    case atStart => exact ⟨0, n1, [], _, rfl, by omega, rfl, rfl, rfl, World.ownsRow_nil _ _ _ _, HR.out, Below.refl _ _⟩
    case round =>
     obtain ⟨i, p, ys, v11, rfl, hig, rfl, rfl, hyl, hown, hU, hB⟩ := hrel; have HYL := Jh hyl; clear hyl
     by_cases hi : i < v1
     ·have el : decide ((i : Int) < (v1 : Int)) = true := by simp; omega
      have el' : decide (i < v1) = true := by simp; omega
      obtain ⟨g, rfl⟩ : ∃ g, gk = g + 1 := ⟨gk - 1, by omega⟩; obtain ⟨x, n2, e2, h2⟩ : ∃ x n e, symR t s.data.toList p = (x, n, e) := ⟨_, _, _, rfl⟩; obtain ⟨y, n3, e3, h3⟩ : ∃ x n e, symR t s.data.toList n2 = (x, n, e) := ⟨_, _, _, rfl⟩; have hst := Qcg hU h2 h3
      have hxz : x.length ≤ 140737488351232 := by
       rcases Krs h2 with rfl | h
       ·simp
       ·exact HZ.out x h
      have hyz : y.length ≤ 140737488351232 := by
       rcases Krs h3 with rfl | h
       ·simp
       ·exact HZ.out y h
      have HIG := Jh hig; have HS2 := Jh h2; have HS3 := Jh h3; have HST := Jh hst; clear hig hU h2 h3 hst; go_upto_region 12 with fail
      have hq1 : Blk (wr.alloc (.cells #[.string ⟨#[]⟩, .string ⟨#[]⟩] 99)) wr.heap.size 99 #[.string ⟨#[]⟩, .string ⟨#[]⟩] := Blk.new _ _ _; have hB1 : Below w.heap.size w (wr.alloc (.cells #[.string ⟨#[]⟩, .string ⟨#[]⟩] 99)) := hB.alloc hB.size _; have hown1 : PLabs w.heap.size (wr.alloc (.cells #[.string ⟨#[]⟩, .string ⟨#[]⟩] 99)) v11 ys := World.ownsRow.alloc hown _; have hne := Qey hown; have hpb := hB.size; obtain ⟨w1, hw1⟩ : ∃ x, wr.alloc (.cells #[.string ⟨#[]⟩, .string ⟨#[]⟩] 99) = x := ⟨_, rfl⟩; obtain ⟨p1, hp1⟩ : ∃ p, wr.heap.size = p := ⟨_, rfl⟩; rw [hw1] at hq1 hB1 hown1 ⊢; rw [hp1] at hq1 hne hpb ⊢; clear hw1 hp1 hB hown; have q0 : _ = some (Value.string ⟨#[]⟩) := hq1.cell 0; have f0 := hq1.frozen 0; unfold txtV at *; obtain ⟨X, hX⟩ : ∃ N : ByteArray, (⟨x.toArray⟩ : ByteArray) = N := ⟨_, rfl⟩; obtain ⟨Y, hY⟩ : ∃ N : ByteArray, (⟨y.toArray⟩ : ByteArray) = N := ⟨_, rfl⟩; have hsy1 := fun w0 hw0 => Kjx v t s p w0 x n2 e2 HS2.out hw0 hm hs
      have hsy2 := fun w0 hw0 => Kjx v t s n2 w0 y n3 e3 HS3.out hw0 hm hs
      unfold txtV at hsy1 hsy2; rw [hX] at hsy1; rw [hY] at hsy2; have SY1 := Jh hsy1; have SY2 := Jh hsy2; have HX := Jh hX; have HY := Jh hY; clear hsy1 hsy2 hX hY HS2 HS3; go_wp2_with fail
      refine (SY1.out w1 (h.below hB1)).mono ?_; rintro _ w1' ⟨rfl, rfl⟩; go_upto_region 13 with fail
      have hq2 : Blk (w1.setCell ⟨p1, 0, none⟩ (.string X)) p1 99 #[.string X, .string ⟨#[]⟩] := hq1.set_ 0 _; have hB2 := Kkd hB1 hpb (.string X) (i := 0); have hown2 := Kuh hown1 hne (.string X) (i := 0); obtain ⟨w2, hw2⟩ : ∃ x, w1.setCell ⟨p1, 0, none⟩ (.string X) = x := ⟨_, rfl⟩; rw [hw2] at hq2 hB2 hown2 ⊢; clear hw2 hq1 hB1 hown1 q0 f0
      by_cases he2 : e2 = 0
      ·subst he2; have q1 : _ = some (Value.string ⟨#[]⟩) := hq2.cell 1; have f1 := hq2.frozen 1; go_wp2_with fail
       refine (SY2.out w2 (h.below hB2)).mono ?_; rintro _ w2' ⟨rfl, rfl⟩; go_upto_region 16 with fail
       have hq3 : Blk (w2.setCell ⟨p1, 1, none⟩ (.string Y)) p1 99 #[.string X, .string Y] := hq2.set_ 1 _; have hB3 := Kkd hB2 hpb (.string Y) (i := 1); have hown3 := Kuh hown2 hne (.string Y) (i := 1); obtain ⟨w3, hw3⟩ : ∃ x, w2.setCell ⟨p1, 1, none⟩ (.string Y) = x := ⟨_, rfl⟩; rw [hw3] at hq3 hB3 hown3 ⊢; clear hw3 hq2 hB2 hown2 q1 f1
       by_cases he3 : e3 = 0
       ·subst he3; have q0 : _ = some (Value.string X) := hq3.cell 0; have q1 : _ = some (Value.string Y) := hq3.cell 1; have hq4 : Blk (w3.alloc (.cells #[.string X, .string Y] 99)) w3.heap.size 99 #[.string X, .string Y] := Blk.new _ _ _
        have hE4 : Elems (w3.alloc (.cells #[.string X, .string Y] 99)) (w3.alloc (.cells #[.string X, .string Y] 99)).heap.size 2 encLb (some ⟨w3.heap.size, 0, none⟩) 1 [⟨x, y⟩] := by
         refine ⟨rfl, fun _ => ⟨w3.heap.size, 0, rfl, hq4.lt, fun i' x' hx' j v' hv' => ?_⟩⟩; have hi' : i' = 0 := by have := (List.getElem?_eq_some_iff.1 hx').1; simpa using this
         subst hi'; simp at hx'; subst hx'; rw [hq4.cell]
         match j, hv' with
         | 0, hv' => simpa [encLb, HX.out] using hv'
         | 1, hv' => simpa [encLb, HY.out] using hv'
         | j + 2, hv' => simp [encLb] at hv'
        have hB4 : Below w.heap.size w (w3.alloc (.cells #[.string X, .string Y] 99)) := hB3.alloc hB3.size _; have hown4 : PLabs w.heap.size (w3.alloc (.cells #[.string X, .string Y] 99)) v11 ys := World.ownsRow.alloc hown3 _; have hq4' := hq3.alloc (.cells #[.string X, .string Y] 99); have hmk := Khy [⟨x, y⟩] _ 1 1 _ hE4 (by omega) (by omega) (by simp [hxz, hyz]); rw [Kwd] at hmk; dsimp only at hmk; have HMK := Jh hmk; clear hmk hE4 hq4; obtain ⟨rn, hrn⟩ : ∃ r, fitN x = r := ⟨_, rfl⟩; obtain ⟨rv, hrv⟩ : ∃ r, fitV y = r := ⟨_, rfl⟩; have hst := HST.out; rw [if_neg (by simp), if_neg (by simp), hrn, hrv] at hst; rw [hrn, hrv] at HMK; have HST2 := Jh hst; clear hst HST hrn hrv; go_wp2_with fail
        refine HMK.out.mono ?_; rintro _ w5 ⟨⟨mv, rfl⟩, hb5⟩; have hB5 := then_ hB4 hb5; have hown5 : PLabs w.heap.size w5 v11 ys := Kof hown4 hb5; have hq5 := hq4'.below hb5 hq4'.lt; clear hB4 hown4 hq4' hb5 hq3 hB3 hown3 q0 q1 HMK
        cases rn with
        | false =>
         obtain rfl : ([], 0, 40) = R := by have := HST2.out; simpa using this
         go_wp2_with fail
         go_ret3
         exact Ked.bad rfl hB5
        | true =>
         cases rv with
         | false =>
          obtain rfl : ([], 0, 41) = R := by have := HST2.out; simpa using this
          go_wp2_with fail
          go_ret3
          exact Ked.bad rfl hB5
         | true =>
          obtain ⟨q, hq⟩ : ∃ q, Kff ys x = q := ⟨_, rfl⟩; have hst := HST2.out; rw [if_neg (by simp), if_neg (by simp), hq] at hst; have HST3 := Jh hst; have HQ := Jh hq; have hownY : w5.ownsRow w.heap.size 99 2 v11 i (ys.flatMap encLb) := by have := hown5; unfold PLabs at this; rw [HYL.out] at this; exact this
          obtain ⟨A', c', rfl, hE', _, hc'⟩ := Elems.of_own (enc := encLb) (fun x _ => Kbt x) rfl hownY HYL.out; have q0 : _ = some (Value.string X) := hq5.cell 0; have hp5 := hq5.lt; clear hst hq HST2; go_upto_region 22 with fail
          go_cut [15, 83] (fun _s15 s83 wz => s83 = .bool q ∧ Below w5.heap.size w5 wz)
          case first =>
           by_cases hi0' : i = 0
           ·subst hi0'
            have hqf : q = false := by
             rw [← HQ.out, Kff, HYL.out]; simp
            subst hqf; refine Kai (by kernel_rfl) (by kernel_rfl) ?_
            repeat (go_big_quiet_step (fail))
            refine wpQuiet_nil ?_; rintro w6 ⟨⟨_, hb6⟩, rfl⟩; go_wp2_with fail
            go_meet
            exact ⟨rfl, hb6⟩
           ·obtain ⟨j, rfl⟩ : ∃ j, i = j + 1 := ⟨i - 1, by omega⟩
            obtain ⟨g0, rfl⟩ : ∃ g, A' = some ⟨g, 0, none⟩ := by
             rcases hownY.2 with ⟨_, h⟩ | ⟨g, cap, cur, h, _⟩
             ·omega
             ·injection h with h; exact ⟨g, h⟩
            obtain ⟨a0, _⟩ := Qaq hown5 HYL.out (k := j) (by omega); obtain ⟨z, hz'⟩ : ∃ z, ys[j]! = z := ⟨_, rfl⟩; rw [hz'] at a0; obtain ⟨Z, hZ⟩ : ∃ N : ByteArray, (⟨z.n.toArray⟩ : ByteArray) = N := ⟨_, rfl⟩
            have hqq : q = true ↔ ¬ z.n < x := by
             rw [← HQ.out, Kff, HYL.out, decide_eq_true_eq, show j + 1 - 1 = j by omega, hz']; constructor
             ·exact fun h => h.2
             ·exact fun h => ⟨by omega, h⟩
            have hql : (!Op.bytesLess Z.toList X.toList) = q := by
             rw [Bool.eq_iff_iff, hqq, ← hZ, Kir, ← HX.out]; simp
            rw [hZ] at a0; have HQL := Jh hql; have hg5 : g0 < w5.heap.size := Kek a0; clear hqq hZ hz' hql; have z1 : IntKind.i64.wrap (((j + 1 : Nat) : Int) - 1) = (j : Int) := by rw [show ((j + 1 : Nat) : Int) - 1 = (j : Int) by omega]; exact IntWalk.i64_in _ (by omega)
            have z5 : (j : Int) < ((j + 1 : Nat) : Int) := by omega
            have hj1 : ((j + 1 : Nat) : Int) - 1 = (j : Int) := by omega
            have hj0 : decide ((0 : Int) ≤ (j : Int)) = true := by simp
            rw [hj1]; refine Kai (by kernel_rfl) (by kernel_rfl) ?_
            repeat (go_big_quiet_step (fail))
            refine wpQuiet_nil ?_; rintro w6 ⟨⟨_, hb6⟩, rfl⟩; go_wp2_with fail
            go_meet
            exact ⟨by rw [HQL.out], hb6⟩
          case rest =>
           obtain ⟨rfl, hb6⟩ := hcut; obtain ⟨w6, rfl⟩ : ∃ x, x = wc := ⟨_, rfl⟩; have hB6 := then_ hB5 hb6; have hownY6 := Kof hownY hb6; have hq6 := hq5.below hb6 hq5.lt; clear hb6 hownY hq5 hB5 hown5 q0 hE'; have q0 : _ = some (Value.string X) := hq6.cell 0; have q1 : _ = some (Value.string Y) := hq6.cell 1
           cases q with
           | true =>
            obtain rfl : ([], 0, 42) = R := by have := HST3.out; simpa using this
            go_wp2_with fail
            go_ret3
            exact Ked.bad rfl hB6
           | false =>
            go_wp2_with (at_builtin; refine wpList_append_own_at _ rfl _ _ 54 rfl w.heap.size 99 i0 (.agg #[.string ⟨#[]⟩, .string ⟨#[]⟩]) 2 32 Tryz.underlying54 hi0 hz0 hz1 hz2 rfl (by decide) _ _ _ rfl (hownY6.alloc _) ⟨w6.heap.size, 0, none⟩ 1 1 [.string X, .string Y] rfl rfl ?p1 ?p2 ?p3 ?p4 ?p5 ?_)
            case p1 => exact Kbk (l := [.string X, .string Y]) (Blk.new w6 _ _)
            case p2 => intro u hu; simp at hu; rcases hu with rfl | rfl <;> rfl
            case p3 => unfold maxLen; omega
            case p4 => omega
            case p5 => have := hB6.size; simp; omega
            intro v' w7 hown' hgrow hx9 hat; have hB7 : Below w.heap.size w w7 := Kqq hB6 hB6.size hownY6 hgrow
            have hown7 : PLabs w.heap.size w7 v' (ys ++ [⟨x, y⟩]) := by
             have e1 : (ys ++ [(⟨x, y⟩ : Lb)]).flatMap encLb = ys.flatMap encLb ++ [.string X, .string Y] := by rw [List.flatMap_append]; simp [encLb, HX.out, HY.out]
             unfold PLabs; rw [e1, List.length_append, HYL.out]; exact hown'
            clear hown' hgrow hx9 hat hownY6; go_wp2_with fail
            go_roundg g
            case measure => omega
            case rel => exact ⟨i + 1, n3, ys ++ [⟨x, y⟩], _, rfl, by have := HIG.out; omega, by go_num, rfl, by rw [List.length_append, HYL.out]; rfl, hown7, by simpa using HST3.out, hB7⟩
       ·have ee : ((e3 : Int) != 0) = true := by simp; omega
        obtain rfl : ([], 0, e3) = R := by have := HST.out; rw [if_neg (by simp), if_pos he3] at this; exact this
        go_wp2_with fail
        go_ret3
        exact Ked.bad rfl hB3
      ·have ee : ((e2 : Int) != 0) = true := by simp; omega
       obtain rfl : ([], 0, e2) = R := by have := HST.out; rw [if_pos he2] at this; exact this
       go_wp2_with fail
       go_ret3
       exact Ked.bad rfl hB2
     ·have el : decide ((i : Int) < (v1 : Int)) = false := by simp; omega
      have el' : decide (i < v1) = false := by simp; omega
      obtain rfl : gk = 0 := by omega
      rw [unpL] at hU; obtain rfl := hU; obtain ⟨A', c', rfl, hE', hbs', hc'⟩ := Elems.of_own (enc := encLb) (fun x _ => Kbt x) rfl hown rfl; obtain ⟨ln, hln⟩ : ∃ k, ys.length = k := ⟨_, rfl⟩; rw [hln] at hE' hc' ⊢; have HLN := Jh hln; clear hig hln hown; go_wp2_with fail
      go_ret3
      refine ⟨A', c', ?_, ?_, ?_, hB, hbs'⟩
      ·dsimp only; rw [HLN.out]; rfl
      ·dsimp only; rw [HLN.out]; exact hE'
      ·dsimp only; rw [HLN.out]; exact hc'
 ·rw [if_pos he] at hr; subst hr; have ee : ((e1 : Int) != 0) = true := by simp; omega
  go_enter Tryz.func150, Tryz.ntmps150
  go_wp2_with fail
  refine (Kam s k v1 n1 e1 H1.out hs w).mono ?_; rintro _ w1 ⟨rfl, rfl⟩; go_wp2_with fail
  go_ret3
  exact Ked.bad rfl (Below.refl _ _)
end
section
open Go.RowKit
open Lib renaming hid → Jh
attribute [local go_sem ↓] Go.wp_at_zero Go.wp_at_succ
attribute [local go_sem] Later.cell
def encN (x : Nat) : List Value := [.int .i64 (x : Int)]
def lastN : Nat → List Nat → Nat
 | a, [] => a
 | _, x :: l => lastN x l
theorem Kin : ∀ (l : List Nat) (a x : Nat), lastN a (l ++ [x]) = x
 | [], _, _ => rfl
 | _ :: l, _, x => Kin l _ x
theorem Khe : ∀ (l : List Nat) (a x : Nat), Kbw a (l ++ [x]) = Kbw a l ++ uintT (x - lastN a l)
 | [], a, x => by simp [Kbw, lastN]
 | w :: l, a, x => by rw [List.cons_append, Kbw, Kbw, Khe l, lastN, List.append_assoc]
theorem Ktj : ∀ (l : List Nat) (a x : Nat), (l ++ [x]).Pairwise (· < ·) → l ≠ [] → lastN a l < x
 | [], _, _, _, h => absurd rfl h
 | [y], a, x, h, _ => by
  have := List.pairwise_cons.1 h; exact this.1 x (by simp)
 | y :: z :: l, a, x, h, _ => Ktj (z :: l) y x (List.pairwise_cons.1 h).2 (by simp)
theorem Krp (l : List Nat) (A : Option Addr) (n cap : Nat) (w : World) (hE : Elems w w.heap.size 1 encN A n l) (hn : n ≤ 1099511627776) (hp : l.Pairwise (· < ·)) (hv : ∀ x ∈ l, x ≤ 1099511627776) :
  Calls Tryz.prog 121 #[.slice A n cap] w fun e w' => e = .returned (.tuple #[.string ⟨(postT l).toArray⟩, .int .i64 0]) ∧ Below w.heap.size w w' := by
 have hlen := hE.len; have HE := Jh hE; have HV := Jh hv; have HP := Jh hp; have HLEN := Jh hlen; have HUN := Jh (fun w => Kau n (by omega) w); have h0 : Bld w.heap.size w.heap.size [] (w.alloc (.cells #[.pointer none, .slice none 0 0] 109)) := Bld.new w (Nat.le_refl _); have hb0 : Below w.heap.size w (w.alloc (.cells #[.pointer none, .slice none 0 0] 109)) := (Below.refl _ _).alloc (Nat.le_refl _) _; clear hE hv hp hlen; go_enter Tryz.func121, Tryz.ntmps121
 go_upto_region 2 with fail
 obtain ⟨w1, hw1⟩ : ∃ w1, w.alloc (.cells #[.pointer none, .slice none 0 0] 109) = w1 := ⟨_, rfl⟩; rw [hw1] at h0 hb0; rw [hw1]; obtain ⟨b, hb⟩ : ∃ b, w.heap.size = b := ⟨_, rfl⟩; rw [hb] at h0 hb0 HE ⊢; have HB := Jh hb; have HL1 := Jh h0; have HB1 := Jh hb0; have hB1 : b ≤ w1.heap.size := by have := hb0.size; omega
 clear hw1 h0 hb0 hb; go_wp2_with fail
 refine (HUN.out w1).mono ?_; rintro _ w2 ⟨rfl, hb2⟩; have HL2 := Jh (HL1.out.below hb2); have HB2 := Jh (HB1.out.trans (hb2.mono hB1)); have hB2 : b ≤ w2.heap.size := Nat.le_trans hB1 hb2.size; clear hb2; go_wp2_with fail
 refine (Kax b b [] ⟨(uintT n).toArray⟩ w2 HL2.out (by show 0 + (uintT n).toArray.size ≤ _; have := (Kab n).2; simp only [List.size_toArray]; omega) hB2).mono ?_; rintro _ w3 ⟨rfl, h5, h6, _⟩; have HL3 : Hid (Bld b b (uintT n) w3) := Jh h5; have HB3 := Jh (HB2.out.trans h6); clear h5 h6; go_wp2_with fail
 go_loopg [5, 15] n (fun g s5 s15 wr => ∃ i : Nat, i + g = n ∧ s15 = .int .i64 (i : Int) ∧ s5 = .int .i64 ((lastN 0 (l.take i) : Nat) : Int) ∧ Bld b b (uintT n ++ Kbw 0 (l.take i)) wr ∧ Below b w wr ∧ (uintT n ++ Kbw 0 (l.take i)).length ≤ 11 + 11 * i ∧ lastN 0 (l.take i) ≤ 1099511627776)
 case atStart => exact ⟨0, by omega, rfl, rfl, by simpa [Kbw] using HL3.out, HB3.out, by have := (Kab n).2; simp [Kbw]; omega, Nat.zero_le _⟩
 case round =>
  obtain ⟨i, hi, rfl, rfl, hld, hbr, hle, hla⟩ := hrel; have HI := Jh hi; have HL := Jh hld; have HR := Jh hbr; have HLE := Jh hle; have hBr : b ≤ wr.heap.size := Nat.le_trans (by rw [HB.out]; exact Nat.le_refl _) hbr.size; clear hld hbr hle
  by_cases hin : i < n
  ·have hil : i < l.length := by have := HLEN.out; omega
   obtain ⟨bk, off, rfl, hbk, hcell⟩ := HE.out.2 (by omega); have m0 : wr.cell? ⟨bk, off + i, none⟩ = some (.int .i64 ((l[i] : Nat) : Int)) := (HR.out.cell (p := ⟨bk, off + i, none⟩) hbk).trans (by simpa using hcell i l[i] (List.getElem?_eq_getElem hil) 0 _ rfl); have hvi := HV.out l[i] (List.getElem_mem hil); have htk : l.take (i + 1) = l.take i ++ [l[i]] := List.take_succ_eq_append_getElem hil
   have hlt : i ≠ 0 → lastN 0 (l.take i) < l[i] := by
    intro h0; refine Ktj _ _ _ ?_ ?_
    ·rw [← htk]; exact HP.out.sublist (List.take_sublist _ _)
    ·intro he; have := congrArg List.length he; rw [List.length_take, List.length_nil] at this; omega
   obtain ⟨x, hxx⟩ : ∃ x, l[i] = x := ⟨_, rfl⟩; rw [hxx] at m0 hvi htk hlt; obtain ⟨a, haa⟩ : ∃ a, lastN 0 (l.take i) = a := ⟨_, rfl⟩; rw [haa] at hlt hla ⊢; obtain ⟨T, hT⟩ : ∃ T, uintT n ++ Kbw 0 (l.take i) = T := ⟨_, rfl⟩; rw [hT] at HL HLE; have HTK := Jh htk; have HAA := Jh haa; have HT := Jh hT
   have hax : a ≤ x := by
    by_cases h0 : i = 0
    ·subst h0; have : a = 0 := by rw [← haa]; rfl
     omega
    ·have := hlt h0; omega
   have el : (i : Int) < (n : Int) := by omega
   have e1 : decide ((x : Int) < 0) = false := by rw [decide_eq_false_iff_not]; omega
   obtain ⟨y, hy⟩ : ∃ y, x - a = y := ⟨_, rfl⟩; have hyi : (x : Int) - (a : Int) = (y : Int) := by omega
   have hyw : wrap64 ((x : Int) - (a : Int)) = (y : Int) := by unfold wrap64; omega
   have hyu : IntKind.u64.wrap (y : Int) = (y : Int) := by rw [IntKind.wrap_u64]; omega
   have HY := Jh hy; have HU := Jh (fun w => Kau y (by omega) w); have HIN := Jh hin; clear hi htk hxx haa hT hcell hy hil
   by_cases h0 : i = 0
   ·subst h0; rw [Nat.add_zero] at m0; clear hlt hin; go_wp2_with fail
    refine (HU.out wr).mono ?_; rintro _ w5 ⟨rfl, h5⟩; have HL5 := Jh (HL.out.below h5); have HR5 := Jh (HR.out.trans (h5.mono hBr)); have hB5 : b ≤ w5.heap.size := Nat.le_trans hBr h5.size; clear h5; go_wp2_with fail
    refine (Kax b b T ⟨(uintT y).toArray⟩ w5 HL5.out (by show _ + (uintT y).toArray.size ≤ _; have := (Kab y).2; have := HLE.out; have := HI.out; simp only [List.size_toArray]; omega) hB5).mono ?_; rintro _ w6 ⟨rfl, h6, h7, _⟩; have HL6 := Jh h6; have HR6 := Jh (HR5.out.trans h7); clear h6 h7; go_wp2_with fail
    go_roundg (gk - 1)
    case measure => have := HI.out; omega
    case rel =>
     have hlx : lastN 0 (l.take (0 + 1)) = x := by rw [HTK.out, Kin]
     have hst : uintT n ++ Kbw 0 (l.take (0 + 1)) = T ++ uintT y := by rw [HTK.out, Khe, HAA.out, HY.out, ← HT.out, List.append_assoc]
     refine ⟨1, by have := HI.out; omega, by go_num, by rw [hlx], by rw [hst]; exact HL6.out, HR6.out, ?_, by rw [hlx]; exact hvi⟩; rw [hst, List.length_append]; have := (Kab y).2; have := HLE.out; omega
   ·have hlt' := hlt h0; have e2 : decide ((0 : Int) < (i : Int)) = true := by rw [decide_eq_true_eq]; omega
    have e2' : decide (0 < i) = true := by rw [decide_eq_true_eq]; omega
    have e3 : decide ((x : Int) ≤ (a : Int)) = false := by rw [decide_eq_false_iff_not]; omega
    have e3' : decide (x ≤ a) = false := by rw [decide_eq_false_iff_not]; omega
    clear hlt hin; go_wp2_with fail
    refine (HU.out wr).mono ?_; rintro _ w5 ⟨rfl, h5⟩; have HL5 := Jh (HL.out.below h5); have HR5 := Jh (HR.out.trans (h5.mono hBr)); have hB5 : b ≤ w5.heap.size := Nat.le_trans hBr h5.size; clear h5; go_wp2_with fail
    refine (Kax b b T ⟨(uintT y).toArray⟩ w5 HL5.out (by show _ + (uintT y).toArray.size ≤ _; have := (Kab y).2; have := HLE.out; have := HI.out; simp only [List.size_toArray]; omega) hB5).mono ?_; rintro _ w6 ⟨rfl, h6, h7, _⟩; have HL6 := Jh h6; have HR6 := Jh (HR5.out.trans h7); clear h6 h7; go_wp2_with fail
    go_roundg (gk - 1)
    case measure => have := HI.out; omega
    case rel =>
     have hlx : lastN 0 (l.take (i + 1)) = x := by rw [HTK.out, Kin]
     have hst : uintT n ++ Kbw 0 (l.take (i + 1)) = T ++ uintT y := by rw [HTK.out, Khe, HAA.out, HY.out, ← HT.out, List.append_assoc]
     refine ⟨i + 1, by have := HI.out; omega, by go_num, by rw [hlx], by rw [hst]; exact HL6.out, HR6.out, ?_, by rw [hlx]; exact hvi⟩; rw [hst, List.length_append]; have := (Kab y).2; have := HLE.out; omega
  ·have hi3 : i = n := by have := HI.out; omega
   subst hi3; have htk : l.take i = l := List.take_of_length_le (by have := HLEN.out; omega); rw [htk] at HL; have HPT : Hid (uintT i ++ Kbw 0 l = postT l) := Jh (by unfold postT; rw [HLEN.out]); rw [HPT.out] at HL; have HST2 := Jh (Kdp b b _ wr HL.out hBr); obtain ⟨S, hS⟩ : ∃ S : ByteArray, (⟨(postT l).toArray⟩ : ByteArray) = S := ⟨_, rfl⟩; rw [hS] at HST2; have HS := Jh hS; clear htk hS; go_wp2_with fail
   refine HST2.out.mono ?_; rintro _ w3 ⟨rfl, h6⟩; go_wp2_with fail
   go_ret2
   rw [← HS.out]; exact ⟨rfl, by rw [HB.out]; exact HR.out.trans h6⟩
end
section
open Go.RowKit
attribute [local go_sem ↓] Go.wp_at_zero Go.wp_at_succ
attribute [local go_sem] Later.cell
def takeU (s : List UInt8) (st : Nat × Nat) : Nat × (Nat × Nat) := if st.2 ≠ 0 then (0, st) else ((Kan s st.1).1, ((Kan s st.1).2.1, (Kan s st.1).2.2))
structure NumAt (be bb ba : Nat) (body : ByteArray) (s : Nat × Nat) (w : World) : Prop where
 e : Blk w be 29 #[.int .i64 (s.2 : Int)]
 b : Blk w bb 9 #[.string body]
 a : Blk w ba 3 #[.int .i64 (s.1 : Int)]
def Kfh (be bb ba : Nat) (body : ByteArray) (s : Nat × Nat) (w : World) (en : Ending) (w' : World) : Prop :=
 en = .returned (.int .u64 ((takeU body.data.toList s).1 : Int)) ∧ NumAt be bb ba body (takeU body.data.toList s).2 w' ∧ Kept w.heap.size [be, ba] w w'
theorem Kcx (be bb ba : Nat) (body : ByteArray) (s : Nat × Nat) (w : World) (h : NumAt be bb ba body s w) (hs : body.size ≤ 140737488351232) :
  Calls Tryz.prog 153 #[.pointer (some ⟨be, 0, none⟩), .pointer (some ⟨bb, 0, none⟩), .pointer (some ⟨ba, 0, none⟩)] w (Kfh be bb ba body s w) := by
 have hab : ba ≠ be := h.a.ne_ h.e (by decide); have hbb : bb ≠ be := h.b.ne_ h.e (by decide); have hba : bb ≠ ba := h.b.ne_ h.a (by decide); obtain ⟨at_, e⟩ := s; have H := Lib.hid h; have m0 : w.cell? ⟨be, 0, none⟩ = some (.int .i64 (e : Int)) := h.e.cell 0; have m1 : w.cell? ⟨bb, 0, none⟩ = some (.string body) := h.b.cell 0; have m2 : w.cell? ⟨ba, 0, none⟩ = some (.int .i64 (at_ : Int)) := h.a.cell 0; have z0 := h.e.frozen 0; have z2 := h.a.frozen 0; have HD := Lib.hid (⟨hab, hbb, hba⟩ : _ ∧ _ ∧ _); have hab2 : be ≠ ba := fun e => hab e.symm
 clear h hbb hba
 cases e with
 | succ e =>
  have d0 : decide (((e + 1 : Nat) : Int) = 0) = false := by simp; omega
  have ht : takeU body.data.toList (at_, e + 1) = (0, (at_, e + 1)) := rfl; go_enter Tryz.func153, Tryz.ntmps153
  go_wp2_with fail
  go_ret
  unfold Kfh; rw [ht]; exact ⟨rfl, H.out, Kept.refl _ _ _⟩
 | zero =>
  obtain ⟨v, n, e, h1⟩ : ∃ v n e, Kan body.data.toList (at_ : Int) = (v, n, e) := ⟨_, _, _, rfl⟩
  have ht : takeU body.data.toList (at_, 0) = (v, (n, e)) := by
   unfold takeU; rw [if_neg (by simp), h1]
  have HC := Lib.hid (Kam body (at_ : Int) v n e h1 hs w); have H2 := Lib.hid ht; clear h1 ht; go_enter Tryz.func153, Tryz.ntmps153
  go_wp2_with fail
  refine HC.out.mono ?_; rintro _ w1 ⟨rfl, rfl⟩; go_wp2_with fail
  go_ret
  unfold Kfh; rw [H2.out]; have d := HD.out; refine ⟨rfl, ⟨?_, ?_, ?_⟩, ((Kept.refl _ _ _).setCell (p := ⟨ba, 0, none⟩) (.inl (by simp)) _).setCell (p := ⟨be, 0, none⟩) (.inl (by simp)) _⟩
  ·exact (Blk.far H.out.e (p := ⟨ba, 0, none⟩) (by simp; omega) _).set_ 0 _
  ·exact (Blk.far (Blk.far H.out.b (p := ⟨ba, 0, none⟩) (by simp; omega) _) (p := ⟨be, 0, none⟩) (by simp; omega) _)
  ·exact Blk.far (H.out.a.set_ 0 _) (p := ⟨be, 0, none⟩) (by simp; omega) _
theorem Kqz (s : List UInt8) (st : Nat × Nat) (h : st.2 ≠ 0) : takeU s st = (0, st) := if_pos h
theorem Kec (s : List UInt8) (i : Nat) : (∃ v j, takeU s (i, 0) = (v, (j, 0)) ∧ ruAt s i = some (v, j) ∧ v < 2 ^ 64) ∨ (∃ j e, takeU s (i, 0) = (0, (j, e)) ∧ e ≠ 0 ∧ ruAt s i = none) := by
 unfold takeU ruAt; rw [if_neg (by simp), Kcz]; unfold outOf
 cases hr : readU (s.drop i) with
 | error c => exact .inr ⟨0, c, rfl, Kdf hr, rfl⟩
 | ok x => exact .inl ⟨x.1, i + x.2, rfl, rfl, (Kdd hr).1⟩
theorem Kbr {s : List UInt8} {i v j : Nat} (hi : i ≤ s.length) (h : ruAt s i = some (v, j)) : i < j ∧ j ≤ s.length := by
 unfold ruAt at h
 split at h
 ·rename_i v' k hr
  injection h with h; injection h with h1 h2; have := (Kdd hr); rw [List.length_drop] at this; omega
 ·cases h
end
section
open Go.RowKit
open Lib renaming hid → Jh
attribute [local go_sem ↓] Go.wp_at_zero Go.wp_at_succ
attribute [local go_sem] Later.cell
theorem Kiq : (Tryz.prog.info? 3).map (fun i => (i.zero, i.size, i.bytes)) = some (some (.int .i64 0), 1, 8) := by kernel_rfl
def PDecO (w : World) (r : Option (List Nat × Nat)) (en : Ending) (w' : World) : Prop := match r with
 | some (l, j) => ∃ v, en = .returned (.tuple #[v, .int .i64 (j : Int), .int .i64 0]) ∧ w'.ownsRow w.heap.size 3 1 v l.length (l.flatMap encN) ∧ Below w.heap.size w w'
 | none => ∃ f, f ≠ 0 ∧ en = .returned (.tuple #[.slice none 0 0, .int .i64 0, .int .i64 ((f : Nat) : Int)]) ∧ Below w.heap.size w w'
theorem Ket (s : List UInt8) (i : Nat) : (∃ v j, Kan s (i : Int) = (v, j, 0) ∧ ruAt s i = some (v, j) ∧ v < 2 ^ 64) ∨ (∃ v j e, Kan s (i : Int) = (v, j, e) ∧ e ≠ 0 ∧ ruAt s i = none) := by
 unfold ruAt; rw [Kcz]; unfold outOf
 cases hr : readU (s.drop i) with
 | error c => exact .inr ⟨0, 0, c, rfl, Kdf hr, rfl⟩
 | ok x => exact .inl ⟨x.1, i + x.2, rfl, rfl, (Kdd hr).1⟩
theorem Kww {w : World} {B n sz k : Nat} {T : TypeId} {v : Value} {xs : List Value} (h : w.ownsRow B T sz v n xs) (hk : k < B) : v.ownBlock ≠ some k := fun e => by
 have := (h.lt k e).1; omega
theorem Kbo {w : World} {B n sz : Nat} {T : TypeId} {v : Value} {xs : List Value} (h : w.ownsRow B T sz v n xs) : ∃ A cap, v = .slice A n cap := by
 rcases h.2 with ⟨rfl, rfl⟩ | ⟨g, cap, cur, rfl, _⟩
 ·exact ⟨none, 0, rfl⟩
 ·exact ⟨_, cap, rfl⟩
theorem Qdd (L : List Nat) : (decide (0 < L.length)) = !(decide (L = [])) := by cases L <;> simp
theorem Kiz (s : ByteArray) (at0 : Nat) (w : World) (hs_ : s.size ≤ 1099511627776) (hat0 : at0 ≤ s.size) :
  Calls Tryz.prog 93 #[.string s, .int .i64 (at0 : Int)] w (PDecO w (postR s.data.toList at0)) := by
 have hs : s.size ≤ 140737488351232 := by omega
 obtain ⟨R, hR⟩ : ∃ R, postR s.data.toList at0 = R := ⟨_, rfl⟩; rw [hR]; unfold postR at hR; rcases Ket s.data.toList at0 with ⟨n, i0, h1, h2, h3⟩ | ⟨v, j, e, h1, h2, h3⟩
 rotate_left
 ·rw [h3] at hR; subst hR; have HC := Jh (Kam s (at0 : Int) v j e h1 hs w); have hne : ((e : Int) != 0) = true := by simp; omega
  go_enter Tryz.func93, Tryz.ntmps93
  go_wp2_with fail
  refine HC.out.mono ?_; rintro _ w1 ⟨rfl, rfl⟩; go_wp2_with fail
  go_ret3
  exact ⟨e, h2, rfl, Below.refl _ _⟩
 rw [h2] at hR; dsimp only at hR; have HR := Jh hR; have HC := Jh (Kam s (at0 : Int) n i0 0 h1 hs w); have hi0 := (Kbr hat0 h2).2; have hsl : s.data.toList.length = s.size := rfl; obtain ⟨B, hB⟩ : ∃ B, w.heap.size = B := ⟨_, rfl⟩; have HB := Jh hB; clear hR h1 h2; go_enter Tryz.func93, Tryz.ntmps93
 go_wp2_with fail
 refine HC.out.mono ?_; rintro _ w1 ⟨rfl, rfl⟩; clear hB; go_wp2_with fail
 go_loopg [1, 7, 9, 10] n (fun g s1 s7 s9 s10 wr => ∃ (at_ a : Nat) (L : List Nat), s1 = .int .i64 (at_ : Int) ∧ s7 = .int .u64 (g : Int) ∧ s10 = .int .u64 (a : Int) ∧ g < 2 ^ 64 ∧ at_ ≤ s.data.toList.length ∧ a ≤ 4611686018427387904 ∧ L.length ≤ at_ ∧ wr.ownsRow B 3 1 s9 L.length (L.flatMap encN) ∧ Below B w wr ∧ R = (match Ken s.data.toList g a (decide (L = [])) at_ with | none => none | some (l, j) => some (L ++ l, j)))
 case atStart => exact ⟨i0, 0, [], rfl, rfl, rfl, h3, hi0, by omega, by simp, World.ownsRow_nil _ _ _ _, Below.refl _ _, by rw [← HR.out]; simp; cases Ken s.data.toList n 0 true i0 <;> rfl⟩
 case round =>
  obtain ⟨at_, a, L, rfl, rfl, rfl, hg, hat, ha, hll, hown, hbr, hRR⟩ := hrel; have HRR := Jh hRR; have HO := Jh hown; have HBR := Jh hbr; have hBr : B ≤ wr.heap.size := by have := hbr.size; have := HB.out; omega
  clear hRR hown hbr
  cases gk with
  | zero =>
   have hre : R = some (L, at_) := by
    rw [HRR.out]; show some (L ++ [], at_) = _
    rw [List.append_nil]
   go_wp2_with fail
   go_ret3
   rw [hre]; exact ⟨_, rfl, by rw [HB.out]; exact HO.out, by rw [HB.out]; exact HBR.out⟩
  | succ g =>
   have el : decide (0 < g + 1) = true := by rw [decide_eq_true_eq]; omega
   rcases Ket s.data.toList at_ with ⟨st, j, h1, h2, h3⟩ | ⟨v, j, e, h1, h2, h3⟩
   rotate_left
   ·have HC2 := Jh (Kam s (at_ : Int) v j e h1 hs wr); have hne : ((e : Int) != 0) = true := by simp; omega
    have hre : R = none := by rw [HRR.out, Ken, h3]
    have HE := Jh h2; clear h1 h3 h2; go_wp2_with fail
    refine HC2.out.mono ?_; rintro _ w3 ⟨rfl, rfl⟩; go_wp2_with fail
    go_ret3
    rw [hre]; exact ⟨e, HE.out, rfl, by rw [HB.out]; exact HBR.out⟩
   ·have HC2 := Jh (Kam s (at_ : Int) st j 0 h1 hs wr); have hj := Kbr hat h2; have hrr := HRR.out; rw [Ken, h2] at hrr; dsimp only at hrr; have f1 : decide ((0 : Int) < (L.length : Int)) = !(decide (L = [])) := by rw [← Qdd]; simp
    obtain ⟨fst, hf⟩ : ∃ fst, decide (L = []) = fst := ⟨_, rfl⟩; obtain ⟨ln, hln⟩ : ∃ ln, L.length = ln := ⟨_, rfl⟩; rw [hf] at hrr f1; rw [hln] at f1 hll HO; have HF := Jh hf; have HLN := Jh hln; have hHR := Jh hrr; clear h1 h2 hrr hf hln; obtain ⟨A9, cap9, hv9⟩ := Kbo HO.out; subst hv9; have hsub : wrap64 (4611686018427387904 - (a : Int)) = 4611686018427387904 - (a : Int) := by unfold wrap64; omega
    have hsub2 : IntKind.u64.wrap (4611686018427387904 - (a : Int)) = 4611686018427387904 - (a : Int) := by rw [IntKind.wrap_u64]; omega
    cases fst with
    | false =>
     have f2 : 0 < ln := by simpa using f1
     have f3 : decide (0 < ln) = true := decide_eq_true f2; have f1 : decide ((0 : Int) < (ln : Int)) = true := f1
     by_cases h0 : st = 0
     ·subst h0; have hre : R = none := by rw [hHR.out, if_pos (.inl ⟨rfl, rfl⟩)]
      go_wp2_with fail
      refine HC2.out.mono ?_; rintro _ w3 ⟨rfl, rfl⟩; go_wp2_with fail
      go_ret3
      rw [hre]; exact ⟨90, by decide, rfl, by rw [HB.out]; exact HBR.out⟩
     have e0 : ((st : Int) == 0) = false := by simp; omega
     by_cases hb : 4611686018427387904 - a < st
     ·have e1 : decide ((4611686018427387904 : Int) - (a : Int) < (st : Int)) = true := by rw [decide_eq_true_eq]; omega
      have e2 : (4611686018427387904 : Int) - (a : Int) < (st : Int) := by omega
      have hre : R = none := by rw [hHR.out, if_pos (.inr hb)]
      go_wp2_with fail
      refine HC2.out.mono ?_; rintro _ w3 ⟨rfl, rfl⟩; go_wp2_with fail
      go_ret3
      rw [hre]; exact ⟨90, by decide, rfl, by rw [HB.out]; exact HBR.out⟩
     have e1 : decide ((4611686018427387904 : Int) - (a : Int) < (st : Int)) = false := by rw [decide_eq_false_iff_not]; omega
     have e2 : ¬ (4611686018427387904 : Int) - (a : Int) < (st : Int) := by omega
     have hif : ¬ ((false = false ∧ st = 0) ∨ 4611686018427387904 - a < st) := (by rintro (⟨_, h⟩ | h) <;> omega); have hrr := hHR.out; rw [if_neg hif] at hrr; have HRN := Jh hrr; have hsum : a + st ≤ 4611686018427387904 := by omega
     have hsw : IntKind.u64.wrap ((a : Int) + (st : Int)) = (a : Int) + (st : Int) := by rw [IntKind.wrap_u64]; omega
     have hcv : IntKind.i64.wrap ((a : Int) + (st : Int)) = (a : Int) + (st : Int) := by rw [IntKind.wrap_i64]; omega
     have hcw : wrap64 ((a : Int) + (st : Int)) = (a : Int) + (st : Int) := by unfold wrap64; omega
     clear hif hrr; obtain ⟨ib, hib, hib0, hib1, hib2⟩ := info_parts Kiq; go_wp2_with fail
     refine HC2.out.mono ?_; rintro _ w3 ⟨rfl, rfl⟩; go_wp2_with (at_builtin; refine wpList_append_own_at _ rfl _ _ 69 rfl B 3 ib (.int .i64 0) 1 8 Tryz.underlying69 hib hib0 hib1 hib2 rfl (by decide) _ _ _ rfl (World.ownsRow.alloc HO.out _) ⟨wr.heap.size, 0, none⟩ 1 1 [.int .i64 ((a : Int) + (st : Int))] rfl rfl ?c1 ?c2 ?c3 ?c4 ?c5 ?_)
     case c1 => exact Kbk (l := [.int .i64 ((a : Int) + (st : Int))]) (Blk.new wr _ _)
     case c2 => intro u hu; rw [List.mem_singleton.1 hu]; rfl
     case c3 => unfold maxLen; omega
     case c4 => omega
     case c5 => simp; omega
     intro v' w4 hown' hgrow hx1 hat'; have hb4 : Below B w w4 := HBR.out.trans ⟨hgrow.os, hgrow.tape, hgrow.output, by have := hgrow.size; simp at this; omega, fun k hk => (hgrow.block k (by simp; omega) (fun e => Kww HO.out hk e.symm)).trans (Below.heap_alloc _ _ _ (by omega))⟩; have hfl : (L ++ [a + st]).flatMap encN = L.flatMap encN ++ [.int .i64 ((a : Int) + (st : Int))] := by rw [List.flatMap_append]; simp [encN]
     have how : w4.ownsRow B 3 1 v' (L ++ [a + st]).length ((L ++ [a + st]).flatMap encN) := by rw [hfl, List.length_append, HLN.out]; exact hown'
     have HB4 := Jh hb4; have HO4 := Jh how; clear hown' hgrow hx1 hat' hb4 hfl how; go_wp2_with fail
     go_roundg g
     case measure => omega
     case rel =>
      refine ⟨j, a + st, L ++ [a + st], rfl, by go_num, by go_num, by omega, hj.2, hsum, by rw [List.length_append, HLN.out]; simp; omega, HO4.out, HB4.out, ?_⟩; rw [HRN.out, show decide (L ++ [a + st] = []) = false by simp]
      cases Ken s.data.toList g (a + st) false j with
      | none => rfl
      | some x => dsimp only; rw [List.append_assoc]; rfl
    | true =>
     have f2 : ¬ 0 < ln := by simpa using f1
     have f3 : decide (0 < ln) = false := decide_eq_false f2; have f1 : decide ((0 : Int) < (ln : Int)) = false := f1
     by_cases hb : 4611686018427387904 - a < st
     ·have e1 : decide ((4611686018427387904 : Int) - (a : Int) < (st : Int)) = true := by rw [decide_eq_true_eq]; omega
      have e2 : (4611686018427387904 : Int) - (a : Int) < (st : Int) := by omega
      have hre : R = none := by rw [hHR.out, if_pos (.inr hb)]
      go_wp2_with fail
      refine HC2.out.mono ?_; rintro _ w3 ⟨rfl, rfl⟩; go_wp2_with fail
      go_ret3
      rw [hre]; exact ⟨90, by decide, rfl, by rw [HB.out]; exact HBR.out⟩
     have e1 : decide ((4611686018427387904 : Int) - (a : Int) < (st : Int)) = false := by rw [decide_eq_false_iff_not]; omega
     have e2 : ¬ (4611686018427387904 : Int) - (a : Int) < (st : Int) := by omega
     have hif : ¬ ((true = false ∧ st = 0) ∨ 4611686018427387904 - a < st) := (by rintro (⟨h, _⟩ | h); cases h; omega); have hrr := hHR.out; rw [if_neg hif] at hrr; have HRN := Jh hrr; have hsum : a + st ≤ 4611686018427387904 := by omega
     have hsw : IntKind.u64.wrap ((a : Int) + (st : Int)) = (a : Int) + (st : Int) := by rw [IntKind.wrap_u64]; omega
     have hcv : IntKind.i64.wrap ((a : Int) + (st : Int)) = (a : Int) + (st : Int) := by rw [IntKind.wrap_i64]; omega
     have hcw : wrap64 ((a : Int) + (st : Int)) = (a : Int) + (st : Int) := by unfold wrap64; omega
     clear hif hrr; obtain ⟨ib, hib, hib0, hib1, hib2⟩ := info_parts Kiq; go_wp2_with fail
     refine HC2.out.mono ?_; rintro _ w3 ⟨rfl, rfl⟩; go_wp2_with (at_builtin; refine wpList_append_own_at _ rfl _ _ 69 rfl B 3 ib (.int .i64 0) 1 8 Tryz.underlying69 hib hib0 hib1 hib2 rfl (by decide) _ _ _ rfl (World.ownsRow.alloc HO.out _) ⟨wr.heap.size, 0, none⟩ 1 1 [.int .i64 ((a : Int) + (st : Int))] rfl rfl ?c1 ?c2 ?c3 ?c4 ?c5 ?_)
     case c1 => exact Kbk (l := [.int .i64 ((a : Int) + (st : Int))]) (Blk.new wr _ _)
     case c2 => intro u hu; rw [List.mem_singleton.1 hu]; rfl
     case c3 => unfold maxLen; omega
     case c4 => omega
     case c5 => simp; omega
     intro v' w4 hown' hgrow hx1 hat'; have hb4 : Below B w w4 := HBR.out.trans ⟨hgrow.os, hgrow.tape, hgrow.output, by have := hgrow.size; simp at this; omega, fun k hk => (hgrow.block k (by simp; omega) (fun e => Kww HO.out hk e.symm)).trans (Below.heap_alloc _ _ _ (by omega))⟩; have hfl : (L ++ [a + st]).flatMap encN = L.flatMap encN ++ [.int .i64 ((a : Int) + (st : Int))] := by rw [List.flatMap_append]; simp [encN]
     have how : w4.ownsRow B 3 1 v' (L ++ [a + st]).length ((L ++ [a + st]).flatMap encN) := by rw [hfl, List.length_append, HLN.out]; exact hown'
     have HB4 := Jh hb4; have HO4 := Jh how; clear hown' hgrow hx1 hat' hb4 hfl how; go_wp2_with fail
     go_roundg g
     case measure => omega
     case rel =>
      refine ⟨j, a + st, L ++ [a + st], rfl, by go_num, by go_num, by omega, hj.2, hsum, by rw [List.length_append, HLN.out]; simp; omega, HO4.out, HB4.out, ?_⟩; rw [HRN.out, show decide (L ++ [a + st] = []) = false by simp]
      cases Ken s.data.toList g (a + st) false j with
      | none => rfl
      | some x => dsimp only; rw [List.append_assoc]; rfl
end
section
open Go.RowKit Go.Sort
open Lib renaming hid → Jh
attribute [local go_sem ↓] Go.wp_at_zero Go.wp_at_succ
attribute [local go_sem] Later.cell
theorem Qeq {l : List UInt8} {x : List UInt8} {k : Nat} (h : readT l = .ok (x, k)) : 0 < k ∧ k ≤ l.length ∧ x.length ≤ l.length := by
 unfold readT at h
 cases hr : readU l with
 | error c => rw [hr] at h; cases h
 | ok y =>
  obtain ⟨v, k1⟩ := y; have hl := Kdd hr; rw [hr] at h; dsimp only at h
  split at h
  ·cases h
  ·rename_i hlen
   injection h with h; injection h with h1 h2; rw [← h1, ← h2, List.length_take, List.length_drop]; omega
theorem Kvl {l : List UInt8} {c : Nat} (h : readT l = .error c) : c ≠ 0 := by
 unfold readT at h
 cases hr : readU l with
 | error c' =>
  rw [hr] at h; injection h with h; rw [← h]; exact Kdf hr
 | ok y =>
  rw [hr] at h; dsimp only at h
  split at h
  ·injection h with h; omega
  ·cases h
theorem Kgr {s : List UInt8} {i v j : Nat} (h : ruAt s i = some (v, j)) : j ≤ s.length := by
 by_cases hi : i ≤ s.length
 ·exact (Kbr hi h).2
 ·unfold ruAt at h
  cases hr : readU (s.drop i) with
  | error c => rw [hr] at h; cases h
  | ok x =>
   have := Kdd hr; rw [List.length_drop] at this; omega
theorem Kih {I : List UInt8} {i n : Nat} {x : List UInt8} (h : Kbe I (i : Int) = (x, n, 0)) : i < n ∧ n ≤ I.length ∧ x.length ≤ I.length := by
 unfold Kbe at h; rw [if_neg (by omega), Int.toNat_natCast] at h
 cases hr : readT (I.drop i) with
 | error c =>
  rw [hr] at h; injection h with _ h; injection h with _ h; exact absurd h (Kvl hr)
 | ok y =>
  obtain ⟨v, k⟩ := y; have hk := Qeq hr; rw [List.length_drop] at hk; rw [hr] at h; dsimp only at h; injection h with h1 h; injection h with h2 _; rw [← h1, ← h2]; omega
def Kel (B : Nat) (w : World) (p : Nat) (t : List Txt) : Prop := B ≤ p ∧ ∃ A n c, Blk w p 197 #[.slice A n c] ∧ Strs w A n t ∧ n ≤ c ∧ ∀ a, A = some a → B ≤ a.block
theorem Kel.at_ {B p : Nat} {w : World} {t : List Txt} (h : Kel B w p t) : TabAt w (.pointer (some ⟨p, 0, none⟩)) t := by
 obtain ⟨_, A, n, c, h1, h2, h3, _⟩ := h; exact ⟨A, n, c, .inr ⟨_, rfl, h1⟩, h2, h3⟩
theorem Kel.keep {B p : Nat} {w w' : World} {t : List Txt} (h : Kel B w p t) (hs : w.heap.size ≤ w'.heap.size) (hb : ∀ k, B ≤ k → k < w.heap.size → w'.heap[k]? = w.heap[k]?) : Kel B w' p t := by
 obtain ⟨h0, A, n, c, h1, h2, h3, h4⟩ := h; refine ⟨h0, A, n, c, (hb p h0 h1.lt).trans h1, (h2.keepAt fun a ha hA => ?_).more hs, h3, h4⟩
 cases A with
 | none => cases hA
 | some x =>
  have : x.block = a.block := by simpa using hA
  exact World.cell?_of_block (w := w) (hb a.block (by rw [← this]; exact h4 x rfl) ha)
def TDecO (w : World) (r : Option (List Txt × Nat)) (en : Ending) (w' : World) : Prop := match r with
 | some (t, j) => ∃ p, en = .returned (.tuple #[.pointer (some ⟨p, 0, none⟩), .int .i64 (j : Int), .int .i64 0]) ∧ Kel w.heap.size w' p t ∧ Below w.heap.size w w'
 | none => ∃ f, f ≠ 0 ∧ en = .returned (.tuple #[.pointer none, .int .i64 0, .int .i64 ((f : Nat) : Int)]) ∧ Below w.heap.size w w'
theorem Kiv (S : ByteArray) (at0 : Nat) (w : World) (hS : S.size ≤ 1099511627776) :
  Calls Tryz.prog 148 #[.string S, .int .i64 (at0 : Int)] w (TDecO w (tabR S.data.toList at0)) := by
 obtain ⟨ib, hib, hz0, hz1, hz2⟩ := info_parts Kvi; have hSz : S.size ≤ 140737488351232 := by omega
 have hlen : S.data.toList.length = S.size := rfl; obtain ⟨R, hR⟩ : ∃ R, tabR S.data.toList at0 = R := ⟨_, rfl⟩; rw [hR]; rcases Ket S.data.toList at0 with ⟨n, i0, h1, h2, h3⟩ | ⟨v, j, e, h1, h2, h3⟩
 rotate_left
 ·have HC2 := Jh (Kam S (at0 : Int) v j e h1 hSz w); have hne : ((e : Int) != 0) = true := by simp; omega
  have hre : R = none := by rw [← hR, tabR, h1]; exact if_pos h2
  have HE := Jh h2; clear h1 h2 h3 hR; go_enter Tryz.func148, Tryz.ntmps148
  go_wp2_with fail
  refine HC2.out.mono ?_; rintro _ w3 ⟨rfl, rfl⟩; go_wp2_with fail
  go_ret3
  rw [hre]; exact ⟨e, HE.out, rfl, Below.refl _ _⟩
 have HC := Jh (Kam S (at0 : Int) n i0 0 h1 hSz w)
 have hR0 : Ker S.data.toList n [] i0 = R := by
  rw [← hR, tabR, h1]; exact (if_neg (by simp)).symm
 have hi0 : i0 ≤ S.size := Kgr h2; have HR := Jh hR0; obtain ⟨B, hB⟩ : ∃ B, w.heap.size = B := ⟨_, rfl⟩; have HB := Jh hB; have hq0 : Blk (w.alloc (.cells #[.slice none 0 0] 197)) B 197 #[.slice none 0 0] := Blk.newAt hB.symm; have hb0 : Below B w (w.alloc (.cells #[.slice none 0 0] 197)) := (Below.refl _ _).alloc (by omega) _; have HQ0 := Jh hq0; have HB0 := Jh hb0; clear h1 h2 hR hR0 hq0 hb0; go_enter Tryz.func148, Tryz.ntmps148
 go_wp2_with fail
 refine HC.out.mono ?_; rintro _ w1 ⟨rfl, rfl⟩; go_wp2_with fail
 try rw [hB]
 clear hB; go_loopg [1, 7] n (fun g s1 s7 wr => ∃ (at_ : Nat) (L : List Txt) (v : Value), s1 = .int .i64 (at_ : Int) ∧ s7 = .int .u64 (g : Int) ∧ g < 2 ^ 64 ∧ at_ ≤ S.size ∧ L.length ≤ at_ ∧ Blk wr B 197 #[v] ∧ wr.ownsRow (B + 1) 9 1 v L.length (L.map txtV) ∧ Below B w wr ∧ Ker S.data.toList g L at_ = R)
 case atStart => exact ⟨i0, [], _, rfl, rfl, h3, hi0, by simp, HQ0.out, World.ownsRow_nil _ _ _ _, HB0.out, HR.out⟩
 case round =>
  obtain ⟨at_, L, v, rfl, rfl, hg, hat, hll, hq, hown, hbr, hRR⟩ := hrel; obtain ⟨i, hi⟩ : ∃ i, L.length = i := ⟨_, rfl⟩; rw [hi] at hll hown; obtain ⟨A, c, rfl, hs, hbase, hc⟩ := Strs.of_own hown hi
  cases gk with
  | zero =>
   have hre : R = some (L, at_) := by rw [← hRR]; rfl
   clear hown hRR; go_wp2_with fail
   go_ret3
   rw [hre]; exact ⟨_, rfl, ⟨by rw [HB.out]; exact Nat.le_refl _, A, i, c, hq, hs, hc, fun a e => by have := hbase a e; have := HB.out; omega⟩, by rw [HB.out]; exact hbr⟩
  | succ g =>
   have el : decide (0 < g + 1) = true := by rw [decide_eq_true_eq]; omega
   obtain ⟨x, k2, e, hr⟩ : ∃ x n e, Kbe S.data.toList (at_ : Int) = (x, n, e) := ⟨_, _, _, rfl⟩; have HC2 := Jh (Kfi S (at_ : Int) x k2 e hr hSz wr); rw [Ker, hr] at hRR; dsimp only at hRR; obtain ⟨X, hX⟩ : ∃ N : ByteArray, (⟨x.toArray⟩ : ByteArray) = N := ⟨_, rfl⟩; have HX := Jh hX; rw [hX] at HC2
   by_cases he : e = 0
   rotate_left
   ·have hne : ((e : Int) != 0) = true := by simp; omega
    have hre : R = none := by rw [← hRR]; exact if_pos he
    have HE := Jh he; clear hr hRR he hown hs hbase hX; go_wp2_with fail
    refine HC2.out.mono ?_; rintro _ w3 ⟨rfl, rfl⟩; go_wp2_with fail
    go_ret3
    rw [hre]; exact ⟨e, HE.out, rfl, by rw [HB.out]; exact hbr⟩
   subst he; have hk2 := Kih hr; rw [if_neg (by simp)] at hRR; obtain ⟨lw, hlw⟩ : ∃ lw, lowT L x = lw := ⟨_, rfl⟩; rw [hlw] at hRR; have HRR := Jh hRR; have HHI := Jh hi; have HBR := Jh hbr; have HLW := Jh hlw
   have hpne : some B ≠ (Value.slice A i c).ownBlock := by
    intro e; have := (hown.lt _ e.symm).1; omega
   have hcells : ∀ j, i = j + 1 → ∃ g, A = some ⟨g, 0, none⟩ ∧ g < wr.heap.size ∧ wr.cell? ⟨g, j, none⟩ = some (txtV L[j]!) := by
    rintro j rfl
    obtain ⟨g, hg⟩ : ∃ g, A = some ⟨g, 0, none⟩ := by
     rcases hown.2 with ⟨h, _⟩ | ⟨g, cap, cur, h, _⟩
     ·injection h; omega
     ·injection h with h; exact ⟨g, h⟩
    obtain ⟨b, off, e, hb, hcell⟩ := hs.at_ (i := j) (by omega); rw [hg] at e; injection e with e; injection e with e1 e2; subst e1 e2; refine ⟨g, hg, hb, ?_⟩; simpa using hcell
   have HC3 := Jh hcells; have HOW := Jh hown; clear hr hRR hi hbr hlw hown hs hbase hcells hX; have q0 : _ = some (Value.slice A i c) := hq.cell 0; go_wp2_with fail
   refine HC2.out.mono ?_; rintro _ w1 ⟨rfl, rfl⟩; go_upto_region 12 with fail
   go_cut [11, 56] (fun _s11 s56 wz => s56 = .bool lw ∧ wr = wz)
   case first =>
    by_cases hi0' : i = 0
    ·subst hi0'
     obtain rfl : lw = false := by
      rw [← HLW.out]; unfold lowT; rw [decide_eq_false_iff_not]; have := HHI.out; omega
     go_wp2_with fail
     go_meet
     exact ⟨rfl, rfl⟩
    ·obtain ⟨j, rfl⟩ : ∃ j, i = j + 1 := ⟨i - 1, by omega⟩; obtain ⟨g, rfl, hg, hcell⟩ := HC3.out j rfl; unfold txtV at hcell; obtain ⟨Z, hZ⟩ : ∃ N : ByteArray, (⟨(L[j]!).toArray⟩ : ByteArray) = N := ⟨_, rfl⟩
     have hql : Op.bytesLess Z.toList X.toList = !lw := by
      rw [← hZ, Kir, ← HX.out, ← HLW.out]; unfold lowT; have h1 := HHI.out; rw [h1, show j + 1 - 1 = j from rfl]
      by_cases h : L[j]! < x
      ·rw [decide_eq_true h, decide_eq_false (fun h' => h'.2 h)]; rfl
      ·rw [decide_eq_false h, decide_eq_true ⟨by omega, h⟩]; rfl
     rw [hZ] at hcell; have hj1 : ((j + 1 : Nat) : Int) - 1 = (j : Int) := by omega
     have hj0 : decide ((0 : Int) ≤ (j : Int)) = true := by simp
     clear hZ HC3 HLW; rw [hj1]; clear hj1
     cases lw with
     | false =>
      go_wp2_with fail
      go_meet
      exact ⟨rfl, rfl⟩
     | true =>
      go_wp2_with fail
      go_meet
      exact ⟨rfl, rfl⟩
   case rest =>
    obtain ⟨rfl, rfl⟩ := hcut
    cases lw with
    | true =>
     have hre : R = none := by rw [← HRR.out]; exact if_pos rfl
     go_wp2_with fail
     go_ret3
     try rw [hre]
     exact ⟨90, by decide, rfl, by rw [HB.out]; exact HBR.out⟩
    | false =>
     have hrr := HRR.out; rw [if_neg (by simp)] at hrr; have HRR2 := Jh hrr; clear hrr; have hsz : B + 1 ≤ wr.heap.size := hq.lt; go_wp2_with (at_builtin; refine wpList_append_own_at _ rfl _ _ 118 rfl (B + 1) 9 ib (.string ⟨#[]⟩) 1 16 Tryz.underlying118 hib hz0 hz1 hz2 rfl (by decide) _ _ _ rfl (World.ownsRow.alloc HOW.out _) ⟨wr.heap.size, 0, none⟩ 1 1 [.string X] rfl rfl ?p1 ?p2 ?p3 ?p4 ?p5 ?_)
     case p1 => exact Kbk (l := [.string X]) (Blk.new wr _ _)
     case p2 => intro u hu; rw [List.mem_singleton.1 hu]; rfl
     case p3 => unfold maxLen; omega
     case p4 => omega
     case p5 => simp; omega
     intro v' w2 hown' hgrow _ _; have hall2 : wr.grownBy w2 (Value.slice A i c).ownBlock := (World.grownBy_alloc wr _ _).trans hgrow; have hq2 := hq.grown hall2 hpne; have hB2 : Below B w w2 := HBR.out.trans ⟨hall2.os, hall2.tape, hall2.output, hall2.size, fun k hk => hall2.block k (by omega) (fun e => by have := (HOW.out.lt k e.symm).1; omega)⟩
     have hown2 : w2.ownsRow (B + 1) 9 1 v' (i + 1) ((L ++ [x]).map txtV) := by
      have e1 : (L ++ [x]).map txtV = L.map txtV ++ [.string X] := by rw [List.map_append]; simp [txtV, HX.out]
      rw [e1]; simpa using hown'
     have hl1 : (L ++ [x]).length = i + 1 := by rw [List.length_append, HHI.out]; rfl
     obtain ⟨A2, c2, rfl, _, _, hc2⟩ := Strs.of_own hown2 hl1
     have hp2 : some B ≠ (Value.slice A2 (i + 1) c2).ownBlock := by
      intro e; have := (hown2.lt _ e.symm).1; omega
     have hg1 : IntKind.u64.wrap (((g + 1 : Nat) : Int) - 1) = (g : Int) := by
      rw [show ((g + 1 : Nat) : Int) - 1 = (g : Int) by omega]; exact IntWalk.u64_in _ (by omega)
     have HG1 := Jh hg1; have HL1 := Jh hl1; have f2 := hq2.frozen 0; have q2 : _ = some (Value.slice A i c) := hq2.cell 0; have hl2 := hq2.lt; clear hown' hgrow hall2 hq q0 HC3 hg1 hl1; go_wp2_with fail
     go_roundg g
     case measure => omega
     case rel => exact ⟨k2, L ++ [x], _, rfl, by first | rfl | exact vi HG1.out, by omega, by omega, by rw [HL1.out]; omega, hq2.set_ 0 _, by rw [HL1.out]; exact ownsRow_setCell_other hown2 (a := ⟨B, 0, none⟩) (fun e => hp2 e.symm) _, Kkd hB2 (Nat.le_refl _) _, HRR2.out⟩
end
section
open Go.RowKit
theorem Khx {w w1 : World} {pr : Nat} {v : Value} (h : Below w.heap.size w w1) : Kept w.heap.size [pr] w (w1.setCell ⟨pr, 1, none⟩ v) := (Kept.of_below h).setCell (p := ⟨pr, 1, none⟩) (.inl (by simp)) v
theorem Kbv {w w' : World} (h : Below w.drew.heap.size w.drew w') : Below w.heap.size w w' := ⟨h.os, h.tape, h.output, h.size, h.block⟩
theorem Rdr.set {pr i j : Nat} {S : ByteArray} {w w1 : World} (h : Rdr pr S i w) (hb : Below w.heap.size w w1) : Rdr pr S j (w1.setCell ⟨pr, 1, none⟩ (.int .i64 ((j : Nat) : Int))) :=
 (Blk.below (show Blk w _ _ _ from h) hb (Blk.lt (show Blk w _ _ _ from h))).set_ 1 _
theorem Rdr.lt {pr i : Nat} {S : ByteArray} {w : World} (h : Rdr pr S i w) : pr < w.heap.size := Blk.lt (show Blk w _ _ _ from h)
theorem Rdr.below {pr i : Nat} {S : ByteArray} {w w' : World} (h : Rdr pr S i w) (hb : Below w.heap.size w w') : Rdr pr S i w' := Blk.below (show Blk w _ _ _ from h) hb h.lt
def TkV (pr : Nat) (S : ByteArray) (w : World) (r : Option (Value × Nat)) (e : Ending) (w' : World) : Prop := match r with
 | some (v, j) => e = .returned v ∧ Rdr pr S j w' ∧ Kept w.heap.size [pr] w w'
 | none => (∃ f, f ≠ 0 ∧ e = Kaq f) ∧ Below w.heap.size w w'
theorem Ktr {pr i : Nat} {S : ByteArray} {w w' : World} {e : Ending} {v : Value} {j : Nat} (h : Rdr pr S i w) (ht : RdTk pr w (fun v' j' _ => v' = v ∧ j' = j) False e w') : TkV pr S w (some (v, j)) e w' := by
 rcases ht with ⟨v', j', w1, rfl, ⟨rfl, rfl⟩, hb, rfl⟩ | ⟨hno, _⟩
 ·exact ⟨rfl, h.set hb, Khx hb⟩
 ·exact hno.elim
theorem Ktg {pr : Nat} {S : ByteArray} {w w' : World} {e : Ending} (ht : RdTk pr w (fun _ _ _ => False) True e w') : TkV pr S w none e w' := by
 rcases ht with ⟨v', j', w1, rfl, hno, _⟩ | ⟨_, f, hf, rfl, hb⟩
 ·exact hno.elim
 ·exact ⟨⟨f, hf, rfl⟩, hb⟩
theorem Kdg (pr i : Nat) (S : ByteArray) (w : World) (h : Rdr pr S i w) (hS : S.size ≤ 1099511627776) :
  Calls Tryz.prog 77 #[.pointer (some ⟨pr, 0, none⟩), .func (.func 78) #[] #[]] w (TkV pr S w ((ruAt S.data.toList i).map fun x => (.int .u64 (x.1 : Int), x.2))) := by
 have hS2 : S.size ≤ 140737488351232 := by omega
 rcases Ket S.data.toList i with ⟨v, j, h1, h2, h3⟩ | ⟨v, j, e, h1, h2, h3⟩
 ·rw [h2]; refine (Klg pr i S w h (fun v' j' _ => v' = .int .u64 (v : Int) ∧ j' = j) False ((Kam S (i : Int) v j 0 h1 hS2 w.drew).mono ?_)).mono fun e w' ht => Ktr h ht
  rintro e w' ⟨rfl, rfl⟩; exact ⟨Kbv (Below.refl _ _), .inl ⟨_, j, rfl, rfl, rfl⟩⟩
 ·rw [h3]; refine (Klg pr i S w h (fun _ _ _ => False) True ((Kam S (i : Int) v j e h1 hS2 w.drew).mono ?_)).mono fun e w' ht => Ktg ht
  rintro en w' ⟨rfl, rfl⟩; exact ⟨Kbv (Below.refl _ _), .inr ⟨trivial, _, _, e, h2, rfl⟩⟩
theorem Qcu (s : List UInt8) (i : Nat) : (∃ v j, Kan s (i : Int) = (v, j, 0) ∧ riAt s i = some (unzig v, j) ∧ v < 2 ^ 64) ∨ (∃ v j e, Kan s (i : Int) = (v, j, e) ∧ e ≠ 0 ∧ riAt s i = none) := by
 rw [Kcz]; unfold riAt readI outOf
 cases hr : readU (s.drop i) with
 | error c => exact .inr ⟨0, 0, c, rfl, Kdf hr, rfl⟩
 | ok x => exact .inl ⟨x.1, i + x.2, rfl, rfl, (Kdd hr).1⟩
theorem Kit (pr i : Nat) (S : ByteArray) (w : World) (h : Rdr pr S i w) (hS : S.size ≤ 1099511627776) :
  Calls Tryz.prog 79 #[.pointer (some ⟨pr, 0, none⟩), .func (.func 80) #[] #[]] w (TkV pr S w ((riAt S.data.toList i).map fun x => (.int .i64 x.1, x.2))) := by
 have hS2 : S.size ≤ 140737488351232 := by omega
 rcases Qcu S.data.toList i with ⟨v, j, h1, h2, h3⟩ | ⟨v, j, e, h1, h2, h3⟩
 ·rw [h2]; refine (Klb pr i S w h (fun v' j' _ => v' = .int .i64 (unzig v) ∧ j' = j) False ((Kjc S (i : Int) v j 0 h1 hS2 w.drew).mono ?_)).mono fun e w' ht => Ktr h ht
  rintro e w' ⟨rfl, rfl⟩; exact ⟨Kbv (Below.refl _ _), .inl ⟨_, j, rfl, rfl, rfl⟩⟩
 ·rw [h3]; refine (Klb pr i S w h (fun _ _ _ => False) True ((Kjc S (i : Int) v j e h1 hS2 w.drew).mono ?_)).mono fun e w' ht => Ktg ht
  rintro en w' ⟨rfl, rfl⟩; exact ⟨Kbv (Below.refl _ _), .inr ⟨trivial, _, _, e, h2, rfl⟩⟩
theorem Khl (pr i : Nat) (S : ByteArray) (w : World) (h : Rdr pr S i w) (hS : S.size ≤ 1099511627776) :
  Calls Tryz.prog 90 #[.pointer (some ⟨pr, 0, none⟩), .func (.func 91) #[] #[]] w (TkV pr S w (if (Kbe S.data.toList i).2.2 = 0 then some (txtV (Kbe S.data.toList i).1, (Kbe S.data.toList i).2.1) else none)) := by
 have hS2 : S.size ≤ 140737488351232 := by omega
 obtain ⟨x, j, e, h1⟩ : ∃ x j e, Kbe S.data.toList (i : Int) = (x, j, e) := ⟨_, _, _, rfl⟩; rw [h1]; dsimp only
 by_cases he : e = 0
 ·subst he; rw [if_pos rfl]; refine (Klh pr i S w h (fun v' j' _ => v' = txtV x ∧ j' = j) False ((Kfi S (i : Int) x j 0 h1 hS2 w.drew).mono ?_)).mono fun e w' ht => Ktr h ht
  rintro e w' ⟨rfl, rfl⟩; exact ⟨Kbv (Below.refl _ _), .inl ⟨_, j, rfl, rfl, rfl⟩⟩
 ·rw [if_neg he]; refine (Klh pr i S w h (fun _ _ _ => False) True ((Kfi S (i : Int) x j e h1 hS2 w.drew).mono ?_)).mono fun e w' ht => Ktg ht
  rintro en w' ⟨rfl, rfl⟩; exact ⟨Kbv (Below.refl _ _), .inr ⟨trivial, _, _, e, he, rfl⟩⟩
end
section
open Go.RowKit
open Lib renaming hid → Jh
attribute [local go_sem ↓] Go.wp_at_zero Go.wp_at_succ
attribute [local go_sem] Later.cell
theorem Knr {I : List UInt8} : ∀ (g : Nat) (out : List Txt) (i : Nat) {t : List Txt} {j : Nat}, Ker I g out i = some (t, j) → (∀ x ∈ out, x.length ≤ I.length) → out.length ≤ i → i ≤ I.length → (∀ x ∈ t, x.length ≤ I.length) ∧ t.length ≤ I.length
 | 0, out, i, t, j, h, ho, hi, hl => by
  injection h with h; injection h with h _; subst h; exact ⟨ho, by omega⟩
 | g + 1, out, i, t, j, h, ho, hi, hl => by
  rw [Ker] at h; obtain ⟨x, n, e, hr⟩ : ∃ x n e, Kbe I (i : Int) = (x, n, e) := ⟨_, _, _, rfl⟩; rw [hr] at h; dsimp only at h
  by_cases he : e = 0
  ·subst he; rw [if_neg (by simp)] at h
   split at h
   ·cases h
   ·obtain ⟨h1, h2, h3⟩ := Kih hr; refine Knr g _ _ h (fun y hy => ?_) (by rw [List.length_append, List.length_singleton]; omega) h2; rcases List.mem_append.1 hy with h4 | h4
    ·exact ho y h4
    ·rw [List.mem_singleton.1 h4]; exact h3
  ·rw [if_pos he] at h; cases h
theorem Qdm {I : List UInt8} {t : List Txt} {j : Nat} (h : tabR I 0 = some (t, j)) : (∀ x ∈ t, x.length ≤ I.length) ∧ t.length ≤ I.length := by
 unfold tabR at h
 split at h
 ·cases h
 ·rename_i he
  obtain ⟨v, n, e, hr⟩ : ∃ v n e, Kan I ((0 : Nat) : Int) = (v, n, e) := ⟨_, _, _, rfl⟩; rw [hr] at h he; have he0 : e = 0 := by simpa using he
  subst he0
  have hru : ruAt I 0 = some (v, n) := by
   rcases Ket I 0 with ⟨a, b, h1, h2, _⟩ | ⟨a, b, c, h1, h2, _⟩
   ·rw [hr] at h1; injection h1 with h1 h3; injection h3 with h3 _; rw [h2, h1, h3]
   ·rw [hr] at h1; injection h1 with _ h3; injection h3 with _ h3; exact absurd h3.symm h2
  exact Knr _ _ _ h (by simp) (Nat.zero_le _) (Kgr hru)
def BadE (e : Ending) : Prop := ∃ t x, e = .panicked [{ v := .iface t x, recovered := false }]
theorem BadE.fault (f : Nat) : BadE (Kaq f) := ⟨_, _, rfl⟩
structure Grow (O O' : Nat → Prop) (w w' : World) : Prop where
 size : w.heap.size ≤ w'.heap.size
 block : ∀ k, k < w.heap.size → ¬ O k → w'.heap[k]? = w.heap[k]?
 own : ∀ k, O' k → O k ∨ w.heap.size ≤ k
theorem Grow.refl (O : Nat → Prop) (w : World) : Grow O O w w := ⟨Nat.le_refl _, fun _ _ _ => rfl, fun _ h => .inl h⟩
theorem Kpm (t : List Txt) (s : List UInt8) : ∀ (g : Nat) (out : List Lb) (p : Nat), (unpL t s g out p).1.length ≤ out.length + g
 | 0, out, p => by simp [unpL]
 | g + 1, out, p => by
  rw [unpL]
  repeat' split
  all_goals (try simp)
  refine Nat.le_trans (Kpm t s g _ _) ?_; simp; omega
theorem Kqu (t : List Txt) (s : List UInt8) (k : Int) : (unpR t s k).1.length ≤ 8 := by
 unfold unpR
 repeat' split
 all_goals (try simp)
 have := Kpm t s (Kan s k).1 [] (Kan s k).2.1; simp at this; omega
def LabOk (l : List Lb) : Prop := l.length ≤ 8 ∧ (∀ y ∈ l, y.n.length ≤ 32 ∧ y.v.length ≤ 64) ∧ (names l).Pairwise (· < ·)
theorem Qdq {out : List Lb} {y : Lb} (h : (names out).Pairwise (· < ·)) (hl : Kff out y.n = false) : (names (out ++ [y])).Pairwise (· < ·) := by
 unfold names at *; rw [List.map_append, List.pairwise_append]; refine ⟨h, List.pairwise_singleton _ _, fun a ha b hb => ?_⟩; have e : b = y.n := by simpa using hb
 subst e; unfold Kff at hl; rw [decide_eq_false_iff_not] at hl
 have hne : 0 < out.length := by
  rcases out with _ | ⟨x, l⟩
  ·simp at ha
  ·simp
 have hlast : (out[out.length - 1]!).n < y.n := Decidable.byContradiction fun hc => hl ⟨hne, hc⟩
 obtain ⟨x, hx, rfl⟩ := List.mem_map.1 ha; obtain ⟨k, hk, rfl⟩ := List.mem_iff_getElem.1 hx; rw [getElem!_pos _ _ (by omega)] at hlast
 by_cases he : k = out.length - 1
 ·subst he; exact hlast
 ·have hp := List.pairwise_iff_getElem.1 h k (out.length - 1) (by rw [List.length_map]; omega) (by rw [List.length_map]; omega) (by omega); rw [List.getElem_map, List.getElem_map] at hp; exact List.lt_trans hp hlast
theorem Kxh (t : List Txt) (s : List UInt8) : ∀ (g : Nat) (out : List Lb) (p : Nat) {l : List Lb} {j : Nat}, unpL t s g out p = (l, j, 0) → (∀ y ∈ out, y.n.length ≤ 32 ∧ y.v.length ≤ 64) → (names out).Pairwise (· < ·) → (∀ y ∈ l, y.n.length ≤ 32 ∧ y.v.length ≤ 64) ∧ (names l).Pairwise (· < ·)
 | 0, out, p, l, j, h, ho, hp => by
  injection h with h _; subst h; exact ⟨ho, hp⟩
 | g + 1, out, p, l, j, h, ho, hp => by
  have bad : ∀ {e : Nat}, e ≠ 0 → ([], 0, e) = ((l, j, 0) : List Lb × Nat × Nat) → False := fun he h => by
   injection h with _ h; injection h with _ h; exact he h
  rw [unpL] at h
  split at h
  ·rename_i h1; exact (bad h1 h).elim
  split at h
  ·rename_i h1; exact (bad h1 h).elim
  split at h
  ·exact (bad (by decide) h).elim
  rename_i hf1
  split at h
  ·exact (bad (by decide) h).elim
  rename_i hf2
  split at h
  ·exact (bad (by decide) h).elim
  rename_i hlow
  refine Kxh t s g _ _ h (fun y hy => ?_) (Qdq hp (by simpa using hlow)); rcases List.mem_append.1 hy with hy | hy
  ·exact ho y hy
  ·rw [List.mem_singleton.1 hy]; have a := Bool.not_eq_false _ ▸ hf1; have b := Bool.not_eq_false _ ▸ hf2; unfold fitN at a; unfold fitV at b; simp only [Bool.and_eq_true, decide_eq_true_eq] at a b; dsimp only; omega
theorem Kwv {t : List Txt} {s : List UInt8} {k : Int} {l : List Lb} {j : Nat} (h : unpR t s k = (l, j, 0)) : LabOk l := by
 have h8 := Kqu t s k; rw [h] at h8
 have bad : ∀ {e : Nat}, e ≠ 0 → ([], 0, e) = ((l, j, 0) : List Lb × Nat × Nat) → False := fun he h => by
  injection h with _ h; injection h with _ h; exact he h
 unfold unpR at h
 split at h
 ·rename_i h1; exact (bad h1 h).elim
 split at h
 ·exact (bad (by decide) h).elim
 split at h
 ·exact (bad (by decide) h).elim
 exact ⟨h8, Kxh t s _ _ _ h (by simp) List.Pairwise.nil⟩
structure Kru {σ : Type} (sz : σ → Nat) (Z : Nat) (pr : Nat) (M : σ → (Nat → Prop) → World → Prop) (N : World → Prop) (each : σ → List Lb → σ) (part : σ → Nat → Option σ) (ge gp : FuncId) (ce cp : Array Value) : Prop where
 ege : ∀ args W, (callFunc ge args).run Tryz.prog W = .ok (.enter ge args) W
 egp : ∀ args W, (callFunc gp args).run Tryz.prog W = .ok (.enter gp args) W
 lt : ∀ s O w, M s O w → ∀ k, O k → k < w.heap.size
 prn : ∀ s O w, M s O w → ¬ O pr
 keep : ∀ s O w w', M s O w → Kept w.heap.size [pr] w w' → M s O w'
 bad : ∀ s O w, M s O w → N w
 sze : ∀ s l, sz (each s l) = sz s + 1
 szp : ∀ s n s', 0 < sz s → part s n = some s' → sz s' = sz s
 each : ∀ s O w A n c l, M s O w → sz s < Z → Elems w w.heap.size 2 encLb A n l → n ≤ c → n ≤ 8 → LabOk l → (∀ a, A = some a → ¬ O a.block ∧ a.block ≠ pr) → Calls Tryz.prog ge (#[.slice A n c] ++ ce) w fun e w' => e = .returned (.tuple #[]) ∧ ∃ O', M (each s l) O' w' ∧ Grow O O' w w'
 part : ∀ s O w n, M s O w → 0 < sz s → sz s ≤ Z → n < 2 ^ 64 → Calls Tryz.prog gp (#[.int .u64 (n : Int)] ++ cp) w fun e w' => match part s n with
  | some s' => e = .returned (.tuple #[]) ∧ ∃ O', M s' O' w' ∧ Grow O O' w w'
  | none => BadE e ∧ N w'
def SerO {σ : Type} (pr : Nat) (M : σ → (Nat → Prop) → World → Prop) (N : World → Prop) (S : ByteArray) (O : Nat → Prop) (w : World) (r : Option (σ × Nat)) (e : Ending) (w' : World) : Prop := match r with
 | some (s, i) => e = .returned (.tuple #[]) ∧ ∃ O', M s O' w' ∧ Rdr pr S i w' ∧ (∀ k, O' k → O k ∨ w.heap.size ≤ k) ∧ w.heap.size ≤ w'.heap.size ∧ ∀ k, k < w.heap.size → ¬ O k → k ≠ pr → w'.heap[k]? = w.heap[k]?
 | none => BadE e ∧ N w'
structure SerI (O : Nat → Prop) (pr : Nat) (w3 : World) (O9 : Nat → Prop) (wr : World) : Prop where
 size : w3.heap.size ≤ wr.heap.size
 same : ∀ k, k < w3.heap.size → ¬ O k → k ≠ pr → wr.heap[k]? = w3.heap[k]?
 own : ∀ k, O9 k → O k ∨ w3.heap.size ≤ k
section
variable {O O9 O' : Nat → Prop} {pr : Nat} {w3 wr w' : World}
theorem SerI.start (O : Nat → Prop) (pr : Nat) (w : World) : SerI O pr w O w := ⟨Nat.le_refl _, fun _ _ _ _ => rfl, fun _ h => .inl h⟩
theorem SerI.kept (h : SerI O pr w3 O9 wr) (hk : Kept wr.heap.size [pr] wr w') : SerI O pr w3 O9 w' :=
 ⟨Nat.le_trans h.size hk.size, fun k h1 h2 h3 => (hk.block k (Nat.lt_of_lt_of_le h1 h.size) (by simpa using h3)).trans (h.same k h1 h2 h3), h.own⟩
theorem SerI.grow (h : SerI O pr w3 O9 wr) (hg : Grow O9 O' wr w') : SerI O pr w3 O' w' := by
 refine ⟨Nat.le_trans h.size hg.size, fun k h1 h2 h3 => (hg.block k (Nat.lt_of_lt_of_le h1 h.size) fun h4 => ?_).trans (h.same k h1 h2 h3), fun k hk => ?_⟩
 ·rcases h.own k h4 with h5 | h5
  ·exact h2 h5
  ·omega
 ·rcases hg.own k hk with h4 | h4
  ·exact h.own k h4
  ·exact .inr (Nat.le_trans h.size h4)
end
theorem Koq {s : List UInt8} {i v n : Nat} (h : Kan s (i : Int) = (v, n, 0)) (hi : i ≤ s.length) : i < n ∧ n ≤ s.length := by
 rcases Ket s i with ⟨a, b, h1, h2, _⟩ | ⟨a, b, c, h1, h2, _⟩
 ·rw [h] at h1; injection h1 with h1 h3; injection h3 with h3 _; rw [h3]; exact Kbr hi h2
 ·rw [h] at h1; injection h1 with _ h3; injection h3 with _ h3; exact absurd h3.symm h2
theorem Kry {t : List Txt} {s : List UInt8} {i n : Nat} {x : Txt} (h : symR t s (i : Int) = (x, n, 0)) (hi : i ≤ s.length) : i < n ∧ n ≤ s.length := by
 obtain ⟨v, m, e, hr⟩ : ∃ v m e, Kan s (i : Int) = (v, m, e) := ⟨_, _, _, rfl⟩; unfold symR at h; rw [hr] at h; dsimp only at h
 by_cases he : e = 0
 ·subst he; rw [if_neg (by simp)] at h
  split at h
  ·injection h with _ h; injection h with _ h; cases h
  ·injection h with _ h; injection h with h _; rw [← h]; exact Koq hr hi
 ·rw [if_pos he] at h; injection h with _ h; injection h with _ h; exact absurd h he
theorem Ksg {t : List Txt} {s : List UInt8} : ∀ (g : Nat) (out : List Lb) (p : Nat) {l : List Lb} {j : Nat}, unpL t s g out p = (l, j, 0) → p ≤ s.length → p ≤ j ∧ j ≤ s.length
 | 0, out, p, l, j, h, hp => by
  injection h with _ h; injection h with h _; exact ⟨by omega, by omega⟩
 | g + 1, out, p, l, j, h, hp => by
  rw [unpL] at h; obtain ⟨x, n, e, hr⟩ : ∃ x n e, symR t s (p : Int) = (x, n, e) := ⟨_, _, _, rfl⟩; rw [hr] at h; dsimp only at h
  by_cases he : e = 0
  ·subst he; rw [if_neg (by simp)] at h; obtain ⟨h1, h2⟩ := Kry hr hp; obtain ⟨y, m, e2, hr2⟩ : ∃ x' n' e', symR t s (n : Int) = (x', n', e') := ⟨_, _, _, rfl⟩; rw [hr2] at h; dsimp only at h
   by_cases he2 : e2 = 0
   ·subst he2; rw [if_neg (by simp)] at h; obtain ⟨h3, h4⟩ := Kry hr2 h2
    split at h
    ·injection h with _ h; injection h with _ h; cases h
    ·split at h
     ·injection h with _ h; injection h with _ h; cases h
     ·split at h
      ·injection h with _ h; injection h with _ h; cases h
      ·obtain ⟨h5, h6⟩ := Ksg g _ _ h h4; exact ⟨by omega, h6⟩
   ·rw [if_pos he2] at h; injection h with _ h; injection h with _ h; exact absurd h he2
  ·rw [if_pos he] at h; injection h with _ h; injection h with _ h; exact absurd h he
theorem Ksm {t : List Txt} {s : List UInt8} {i j : Nat} {l : List Lb} (h : unpR t s (i : Int) = (l, j, 0)) (hi : i ≤ s.length) : i < j ∧ j ≤ s.length := by
 obtain ⟨v, m, e, hr⟩ : ∃ v m e, Kan s (i : Int) = (v, m, e) := ⟨_, _, _, rfl⟩; unfold unpR at h; rw [hr] at h; dsimp only at h
 by_cases he : e = 0
 ·subst he; rw [if_neg (by simp)] at h; obtain ⟨h1, h2⟩ := Koq hr hi
  split at h
  ·injection h with _ h; injection h with _ h; cases h
  ·split at h
   ·injection h with _ h; injection h with _ h; cases h
   ·obtain ⟨h3, h4⟩ := Ksg _ _ _ h h2; exact ⟨by omega, h4⟩
 ·rw [if_pos he] at h; injection h with _ h; injection h with _ h; exact absurd h he
theorem Kdu {s : List UInt8} {i v j : Nat} (h : ruAt s i = some (v, j)) : v < 2 ^ 64 := by
 rcases Ket s i with ⟨a, b, _, h2, h3⟩ | ⟨a, b, c, _, _, h2⟩
 ·rw [h] at h2; injection h2 with h2; injection h2 with h2 _; rw [h2]; exact h3
 ·rw [h] at h2; cases h2
theorem Rdr.kept {pr i : Nat} {S : ByteArray} {O O' : Nat → Prop} {w w' : World} (h : Rdr pr S i w) (hg : Grow O O' w w') (hn : ¬ O pr) : Rdr pr S i w' := (hg.block pr h.lt hn).trans h
section
variable {σ : Type} {sz : σ → Nat} {Z : Nat} {pr : Nat} {M : σ → (Nat → Prop) → World → Prop} {N : World → Prop} {each : σ → List Lb → σ} {part : σ → Nat → Option σ} {ge gp : FuncId} {ce cp : Array Value}
theorem Kjp (E : Kru sz Z pr M N each part ge gp ce cp) (S : ByteArray) (s : σ) (O : Nat → Prop) (w : World) (hM : M s O w) (hr : Rdr pr S 0 w) (hS : S.size ≤ 1099511627776) (hZ : S.size ≤ Z) (hs0 : sz s = 0) :
  Calls Tryz.prog 81 #[.pointer (some ⟨pr, 0, none⟩), .func (.func ge) #[] ce, .func (.func gp) #[] cp] w (SerO pr M N S O w (Kcv each part S.data.toList s)) := by
 have hEe := E.ege; have hEp := E.egp; have hlen : S.data.toList.length = S.size := rfl; obtain ⟨R, hR⟩ : ∃ R, Kcv each part S.data.toList s = R := ⟨_, rfl⟩; rw [hR]; have HR := Jh hR; have HM := Jh hM; have HRD := Jh hr; have hfault : ∀ (W : World) (f : Nat), Below w.heap.size w W → BadE (Kaq f) ∧ N W := fun W f hb => ⟨BadE.fault _, E.bad _ _ _ (E.keep _ _ _ _ hM (Kept.of_below hb))⟩
 have HFT := Jh hfault; clear hfault
 cases ht : tabR S.data.toList 0 with
 | none =>
  have hT := Kiv S 0 w.drew hS; rw [ht] at hT
  have HC := Jh (Klp pr 0 S w hr (fun _ _ _ => False) True (hT.mono (by
   rintro e w' ⟨f, hf, rfl, hb⟩
   exact ⟨Kbv hb, .inr ⟨trivial, _, _, f, hf, rfl⟩⟩)))
  have hre : R = none := by rw [← HR.out]; unfold Kcv; rw [ht]
  subst hre; clear hT ht hR hM hr; go_enter Tryz.func81, Tryz.ntmps81
  go_wp2_with fail
  refine HC.out.mono ?_; rintro e w1 (⟨v, j, w2, rfl, hno, _⟩ | ⟨_, f, hf, rfl, hb⟩)
  ·exact hno.elim
  ·have HB := Jh hb; clear hb; unfold Kaq; go_wp2_with fail
   refine Kae rfl ?_; exact HFT.out _ _ HB.out
 | some x =>
  obtain ⟨t, i0⟩ := x; have hT := Kiv S 0 w.drew hS; rw [ht] at hT; obtain ⟨htz, htn⟩ := Qdm ht
  have HC := Jh (Klp pr 0 S w hr (fun v j w' => ∃ p, v = .pointer (some ⟨p, 0, none⟩) ∧ j = i0 ∧ Kel w.heap.size w' p t) False (hT.mono (by
   rintro e w' ⟨p, rfl, htab, hb⟩
   exact ⟨Kbv hb, .inl ⟨_, i0, rfl, p, rfl, rfl, htab⟩⟩)))
  have hR2 : (match ruAt S.data.toList i0 with
   | none => none
   | some (n, i1) => serG each part t S.data.toList n s i1) = R := by
   rw [← HR.out]; unfold Kcv; rw [ht]; rfl
  have HR2 := Jh hR2; have HTZ := Jh htz; clear hT ht hR hM hr hR2 htz HR; go_enter Tryz.func81, Tryz.ntmps81
  go_wp2_with fail
  refine HC.out.mono ?_; rintro e w1 (⟨v, j, w2, rfl, ⟨p, rfl, rfl, htab⟩, hb2, rfl⟩ | ⟨hno, _⟩)
  rotate_left
  ·exact hno.elim
  have hk3 := Khx (pr := pr) (v := .int .i64 (j : Int)) hb2; have hr3 : Rdr pr S j (w2.setCell ⟨pr, 1, none⟩ (.int .i64 (j : Int))) := HRD.out.set hb2; have htab3 : Kel w.heap.size (w2.setCell ⟨pr, 1, none⟩ (.int .i64 (j : Int))) p t := htab.keep (by simp [World.setCell]) (fun k h1 h2 => Below.heap_setCell _ _ _ _ (fun e => by have h3 := HRD.out.lt; rw [e] at h1; exact absurd h1 (by show ¬ w.heap.size ≤ pr; omega))); obtain ⟨w3, hw3⟩ : ∃ w3, w2.setCell ⟨pr, 1, none⟩ (.int .i64 (j : Int)) = w3 := ⟨_, rfl⟩; rw [hw3] at hk3 hr3 htab3 ⊢; have HK3 := Jh hk3; have HR3 := Jh hr3; have HTAB3 := Jh htab3; have HM3 := Jh (E.keep _ _ _ _ HM.out hk3); have HU := Jh (Kdg pr j S w3 hr3 hS); clear hk3 hr3 htab3 htab hb2 hw3; go_wp2_with fail
  refine HU.out.mono ?_; intro e w4 h4
  cases hru : ruAt S.data.toList j with
  | none =>
   rw [hru] at h4; obtain ⟨⟨f, hf, rfl⟩, hb4⟩ := h4; have hre : R = none := by rw [← HR2.out, hru]
   have HRE := Jh hre; have HB4 := Jh (HK3.out.then_ hb4); clear hb4 hru hre; unfold Kaq; go_wp2_with fail
   refine Kae rfl ?_; rw [HRE.out]; exact ⟨BadE.fault _, E.bad _ _ _ (E.keep _ _ _ _ HM.out HB4.out)⟩
  | some x =>
   obtain ⟨n, i1⟩ := x; rw [hru] at h4; obtain ⟨rfl, hr4, hk4⟩ := h4; have hn64 := Kdu hru; have HI1 := Jh (Kgr hru); have hR5 : serG each part t S.data.toList n s i1 = R := by rw [← HR2.out, hru]
   have HR5 := Jh hR5; have HI4 := Jh ((SerI.start O pr w3).kept hk4); have HM4 := Jh (E.keep _ _ _ _ HM3.out hk4); have HRD4 := Jh hr4; have hmf : ∀ (fn : Fn) (first cap : Array Value) (w : World), (Instr.makeFunc fn first cap).run Tryz.prog w = .ok (.func fn first cap) w := fun _ _ _ _ => rfl
   clear hru hr4 hk4 hR5; go_wp2_with fail
   go_loopg [7] n (fun g s7 wr => ∃ (s9 : σ) (O9 : Nat → Prop) (i : Nat), s7 = .int .u64 (g : Int) ∧ g < 2 ^ 64 ∧ M s9 O9 wr ∧ Rdr pr S i wr ∧ SerI O pr w3 O9 wr ∧ (sz s9 ≤ i ∧ i ≤ S.data.toList.length) ∧ serG each part t S.data.toList g s9 i = R)
   case atStart => exact ⟨s, O, i1, rfl, hn64, HM4.out, HRD4.out, HI4.out, ⟨by omega, HI1.out⟩, HR5.out⟩
   case round =>
    obtain ⟨s9, O9, i, rfl, hg64, hM9, hr9, hI9, hsz9, hRR⟩ := hrel; have HSZ9 := Jh hsz9; clear hsz9; obtain ⟨wo, rfl⟩ : ∃ x, x = wr := ⟨_, rfl⟩; have HM9 := Jh hM9; have HR9 := Jh hr9; have HI9 := Jh hI9; have HRR := Jh hRR; clear hM9 hr9 hI9 hRR
    cases gk with
    | zero =>
     have hre : R = some (s9, i) := by rw [← HRR.out]; rfl
     have HRE := Jh hre; clear hre; go_wp2_with fail
     go_end0
     rw [HRE.out]; have hB := HK3.out; refine ⟨rfl, O9, HM9.out, HR9.out, fun k hk => ?_, Nat.le_trans hB.size HI9.out.size, fun k h1 h2 h3 => ?_⟩
     ·rcases HI9.out.own k hk with h | h
      ·exact .inl h
      ·exact .inr (Nat.le_trans hB.size h)
     ·exact (HI9.out.same k (Nat.lt_of_lt_of_le h1 hB.size) h2 h3).trans (hB.block k h1 (by simpa using h3))
    | succ g =>
     have el : decide (0 < g + 1) = true := by rw [decide_eq_true_eq]; omega
     have hg1 : IntKind.u64.wrap (((g + 1 : Nat) : Int) - 1) = (g : Int) := by
      rw [show ((g + 1 : Nat) : Int) - 1 = (g : Int) by omega]; exact IntWalk.u64_in _ (by omega)
     have HG1 := Jh hg1; clear hg1; go_upto_block 1 with fail
     go_cut [] (fun wz => ∃ (s2 : σ) (O2 : Nat → Prop) (i : Nat), M s2 O2 wz ∧ Rdr pr S i wz ∧ SerI O pr w3 O2 wz ∧ (sz s2 ≤ i ∧ i ≤ S.data.toList.length) ∧ serG each part t S.data.toList g s2 i = R)
     case first =>
      have hlt := E.lt _ _ _ HM.out; have hprl := HRD.out.lt; have htab9 : Kel w.heap.size wo p t := HTAB3.out.keep HI9.out.size fun k h1 h2 => HI9.out.same k h2 (fun h => absurd (hlt k h) (by omega)) (by omega)
      have hrr := HRR.out; rw [serG] at hrr; obtain ⟨l, j1, er, hun⟩ : ∃ l j e, unpR t S.data.toList (i : Int) = (l, j, e) := ⟨_, _, _, rfl⟩; have hup := Ksc (.pointer (some ⟨p, 0, none⟩)) t S (i : Int) wo.drew (l, j1, er) hun (htab9.at_.below ((Below.refl _ _).drew)) (by omega) (by omega) (fun x hx => by have := HTZ.out x hx; omega); rw [hun] at hrr; dsimp only at hrr
      by_cases her : er = 0
      ·subst her; rw [if_neg (by simp)] at hrr
       have HL := Jh (Kkw pr i S (.pointer (some ⟨p, 0, none⟩)) wo HR9.out (fun v j w' => ∃ A c, v = .slice A l.length c ∧ j = j1 ∧ Elems w' w'.heap.size 2 encLb A l.length l ∧ l.length ≤ c ∧ ∀ a, A = some a → wo.heap.size ≤ a.block) False (hup.mono (by
        rintro e w' ⟨A, c, rfl, h1, h2, h3, h4⟩
        exact ⟨Kbv h3, .inl ⟨_, j1, rfl, A, c, rfl, rfl, h1, h2, h4⟩⟩)))
       have HRR2 := Jh hrr; have HUN := Jh hun; have HPOS := Jh (Ksm hun HSZ9.out.2); clear hup hrr hun htab9 hlt; go_wp2_with fail
       refine HL.out.mono ?_; rintro e w5 (⟨v, j, w6, rfl, ⟨A, c, rfl, rfl, hE, hc, hA⟩, hb6, rfl⟩ | ⟨hno, _⟩)
       rotate_left
       ·exact hno.elim
       have hl8 : l.length ≤ 8 := by have := Kqu t S.data.toList (i : Int); rw [HUN.out] at this; exact this
       have hk7 := Khx (pr := pr) (v := .int .i64 (j : Int)) hb6; have hr7 : Rdr pr S j (w6.setCell ⟨pr, 1, none⟩ (.int .i64 (j : Int))) := HR9.out.set hb6; have hprw : pr < wo.heap.size := HR9.out.lt; have hAne : ∀ a, A = some a → a.block ≠ pr := fun a ha => by have := hA a ha; omega
       have hE7 : Elems (w6.setCell ⟨pr, 1, none⟩ (.int .i64 (j : Int))) (w6.setCell ⟨pr, 1, none⟩ (.int .i64 (j : Int))).heap.size 2 encLb A l.length l := by
        refine (hE.keepAt fun a _ ha => ?_).more (by simp [World.setCell])
        cases A with
        | none => cases ha
        | some x =>
         have h1 : x.block = a.block := by simpa using ha
         exact World.cell?_of_block (w := w6) (Below.heap_setCell _ ⟨pr, 1, none⟩ _ a.block (fun e => hAne x rfl (h1.trans e)))
       obtain ⟨w7, hw7⟩ : ∃ w7, w6.setCell ⟨pr, 1, none⟩ (.int .i64 (j : Int)) = w7 := ⟨_, rfl⟩; rw [hw7] at hk7 hr7 hE7 ⊢; have hM7 := E.keep _ _ _ _ HM9.out hk7; have hlt9 := E.lt _ _ _ HM9.out; have HEA := Jh (E.each s9 O9 w7 A l.length c l hM7 (by have := HPOS.out; have := HSZ9.out; omega) hE7 hc hl8 (Kwv HUN.out) (fun a ha => ⟨fun h => by have := hlt9 _ h; have := hA a ha; omega, hAne a ha⟩)); have HI7 := Jh (HI9.out.kept hk7); have HR7 := Jh hr7; have hno7 := E.prn _ _ _ hM7; clear hk7 hr7 hE7 hM7 hlt9 hw7 hAne hA hE hb6; go_wp2_with fail
       refine HEA.out.mono ?_; rintro _ w8 ⟨rfl, O8, hM8, hg8⟩; have HM8 := Jh hM8; have HI8 := Jh (HI7.out.grow hg8); have hr8 := HR7.out.kept hg8 hno7; have HU8 := Jh (Kdg pr j S w8 hr8 hS); clear hM8 hg8 hr8 hno7; go_wp2_with fail
       refine HU8.out.mono ?_; intro e w9 h9
       cases hru : ruAt S.data.toList j with
       | none =>
        rw [hru] at h9; obtain ⟨⟨f, hf, rfl⟩, hb9⟩ := h9; have hre : R = none := by rw [← HRR2.out, hru]
        have HRE := Jh hre; have HB9 := Jh hb9; clear hb9 hru hre; unfold Kaq; go_wp2_with fail
        refine Kae rfl ?_; rw [HRE.out]; exact ⟨BadE.fault _, E.bad _ _ _ (E.keep _ _ _ _ HM8.out (Kept.of_below HB9.out))⟩
       | some x =>
        obtain ⟨m, i2⟩ := x; rw [hru] at h9; obtain ⟨rfl, hr9, hk9⟩ := h9; have hm64 := Kdu hru; have HP2 := Jh (Kbr HPOS.out.2 hru)
        have hR9 : (match Kdt part S.data.toList m (each s9 l) i2 with
         | none => none
         | some (s', i3) => serG each part t S.data.toList g s' i3) = R := by
         rw [← HRR2.out, hru]; rfl
        have HR9b := Jh hR9; have HM9b := Jh (E.keep _ _ _ _ HM8.out hk9); have HI9b := Jh (HI8.out.kept hk9); have HRD9 := Jh hr9; clear hru hr9 hk9 hR9; go_wp2_with fail
        go_loopg [8] m (fun h s8 wr => ∃ (s2 : σ) (O2 : Nat → Prop) (i : Nat), s8 = .int .u64 (h : Int) ∧ h < 2 ^ 64 ∧ M s2 O2 wr ∧ Rdr pr S i wr ∧ SerI O pr w3 O2 wr ∧ (sz s2 ≤ i ∧ i ≤ S.data.toList.length ∧ 0 < sz s2) ∧ (match Kdt part S.data.toList h s2 i with
         | none => none
         | some (s', i3) => serG each part t S.data.toList g s' i3) = R)
        case atStart => exact ⟨each s9 l, O8, i2, rfl, hm64, HM9b.out, HRD9.out, HI9b.out, by have := E.sze s9 l; have := HPOS.out; have := HSZ9.out; have := HP2.out; exact ⟨by omega, by omega, by omega⟩, HR9b.out⟩
        case round =>
         obtain ⟨s2, O2, ii, rfl, hh64, hM2, hr2, hI2, hsz2, hRR2⟩ := hrel; have HSZ2 := Jh hsz2; clear hsz2; obtain ⟨wk, rfl⟩ : ∃ x, x = wr := ⟨_, rfl⟩; have HM2 := Jh hM2; have HR2b := Jh hr2; have HI2 := Jh hI2; have HRRk := Jh hRR2; clear hM2 hr2 hI2 hRR2
         cases gk with
         | zero =>
          have hfin : serG each part t S.data.toList g s2 ii = R := HRRk.out; have HFIN := Jh hfin; clear hfin; go_wp2_with fail
          go_meet
          exact ⟨s2, O2, ii, HM2.out, HR2b.out, HI2.out, ⟨HSZ2.out.1, HSZ2.out.2.1⟩, HFIN.out⟩
         | succ h =>
          have el2 : decide (0 < h + 1) = true := by rw [decide_eq_true_eq]; omega
          have hh1 : IntKind.u64.wrap (((h + 1 : Nat) : Int) - 1) = (h : Int) := by
           rw [show ((h + 1 : Nat) : Int) - 1 = (h : Int) by omega]; exact IntWalk.u64_in _ (by omega)
          have HH1 := Jh hh1; have HUK := Jh (Kdg pr ii S wk HR2b.out hS); have hrrk := HRRk.out; rw [Kdt] at hrrk; clear hh1; go_wp2_with fail
          refine HUK.out.mono ?_; intro e w10 h10
          cases hru : ruAt S.data.toList ii with
          | none =>
           rw [hru] at h10 hrrk; obtain ⟨⟨f, hf, rfl⟩, hb10⟩ := h10; have hre : R = none := hrrk.symm; have HRE := Jh hre; have HB10 := Jh hb10; clear hb10 hru hre hrrk; unfold Kaq; go_wp2_with fail
           refine Kae rfl ?_; rw [HRE.out]; exact ⟨BadE.fault _, E.bad _ _ _ (E.keep _ _ _ _ HM2.out (Kept.of_below HB10.out))⟩
          | some x =>
           obtain ⟨mm, i4⟩ := x; rw [hru] at h10 hrrk; obtain ⟨rfl, hr10, hk10⟩ := h10; dsimp only at hrrk; have hM10 := E.keep _ _ _ _ HM2.out hk10; have hno10 := E.prn _ _ _ hM10; have HP4 := Jh (Kbr HSZ2.out.2.1 hru); have HEP := Jh (E.part s2 O2 w10 mm hM10 HSZ2.out.2.2 (by have := HSZ2.out; have : S.data.toList.length = S.size := rfl; omega) (Kdu hru)); have HI10 := Jh (HI2.out.kept hk10); have HR10 := Jh hr10; have HRR10 := Jh hrrk; have HNO10 := Jh hno10; clear hru hr10 hk10 hM10 hno10 hrrk; go_wp2_with fail
           refine HEP.out.mono ?_; intro e w11 h11
           cases hpt : part s2 mm with
           | none =>
            rw [hpt] at h11; obtain ⟨⟨tt, xx, rfl⟩, hN⟩ := h11; have hre : R = none := by rw [← HRR10.out, hpt]
            have HRE := Jh hre; have HNN := Jh hN; clear hN hre hpt; go_wp2_with fail
            refine Kae rfl ?_; rw [HRE.out]; exact ⟨⟨_, _, rfl⟩, HNN.out⟩
           | some s3 =>
            rw [hpt] at h11; obtain ⟨rfl, O3, hM11, hg11⟩ := h11
            have hR11 : (match Kdt part S.data.toList h s3 i4 with
             | none => none
             | some (s', i3) => serG each part t S.data.toList g s' i3) = R := by
             rw [← HRR10.out, hpt]
            have HR11 := Jh hR11; have HM11 := Jh hM11; have HSZ3 := Jh (E.szp s2 mm s3 HSZ2.out.2.2 hpt); have HI11 := Jh (HI10.out.grow hg11); have HRD11 := Jh (HR10.out.kept hg11 HNO10.out); clear hM11 hg11 hR11 hpt; go_wp2_with fail
            go_roundg h
            case measure => omega
            case rel => exact ⟨s3, O3, i4, by first | rfl | exact vi HH1.out, by omega, HM11.out, HRD11.out, HI11.out, by have := HSZ3.out; have := HSZ2.out; have := HP4.out; exact ⟨by omega, by omega, by omega⟩, HR11.out⟩
      ·rw [if_pos her] at hrr
       have HL := Jh (Kkw pr i S (.pointer (some ⟨p, 0, none⟩)) wo HR9.out (fun _ _ _ => False) True (hup.mono (by
        rintro e w' ⟨A, c, rfl, h1, h2, h3, h4⟩
        exact ⟨Kbv h3, .inr ⟨trivial, _, _, er, her, rfl⟩⟩)))
       have HRE := Jh hrr; clear hup hrr hun htab9 hlt; go_wp2_with fail
       refine HL.out.mono ?_; rintro e w5 (⟨v, j, w6, rfl, hno, _⟩ | ⟨_, f, hf, rfl, hb⟩)
       ·exact hno.elim
       ·have HB9 := Jh hb; clear hb; unfold Kaq; go_wp2_with fail
        refine Kae rfl ?_; rw [← HRE.out]; exact ⟨BadE.fault _, E.bad _ _ _ (E.keep _ _ _ _ HM9.out (Kept.of_below HB9.out))⟩
     case rest =>
      obtain ⟨s2, O2, ii, hM2, hr2, hI2, hsz2, hRR2⟩ := hcut; have HSZ2 := Jh hsz2; clear hsz2; have HM2 := Jh hM2; have HR2b := Jh hr2; have HI2 := Jh hI2; have HRR2 := Jh hRR2; clear hM2 hr2 hI2 hRR2; go_wp2_with fail
      go_roundg g
      case measure => omega
      case rel => exact ⟨s2, O2, ii, by first | rfl | exact vi HG1.out, by omega, HM2.out, HR2b.out, HI2.out, HSZ2.out, HRR2.out⟩
end
end
section
open Go.RowKit Go.Sort
open Lib renaming hid → Jh
attribute [local go_sem ↓] Go.wp_at_zero Go.wp_at_succ
attribute [local go_sem] Later.cell
theorem Kia : ∀ a b : Txt, Lib.compareBytes a b = if a < b then -1 else if b < a then 1 else 0
 | [], [] => by simp [Lib.compareBytes]
 | [], _ :: _ => by simp [Lib.compareBytes]
 | _ :: _, [] => by simp [Lib.compareBytes]
 | x :: a, y :: b => by
  have ih := Kia a b; rw [Lib.compareBytes]
  by_cases h1 : x < y
  ·have : x :: a < y :: b := List.cons_lt_cons_iff.2 (.inl h1); rw [if_pos h1, if_pos this]
  ·by_cases h2 : y < x
   ·have h3 : y :: b < x :: a := List.cons_lt_cons_iff.2 (.inl h2); have h4 : ¬ x :: a < y :: b := fun h => List.lt_asymm h h3
    rw [if_neg h1, if_pos h2, if_neg h4, if_pos h3]
   ·have e : x = y := UInt8.le_antisymm (UInt8.not_lt.1 h2) (UInt8.not_lt.1 h1); subst e; rw [if_neg h1, if_neg h1, ih]; have e1 : (x :: a < x :: b) ↔ a < b := by rw [List.cons_lt_cons_iff]; simp
    have e2 : (x :: b < x :: a) ↔ b < a := by rw [List.cons_lt_cons_iff]; simp
    by_cases h3 : a < b
    ·rw [if_pos h3, if_pos (e1.2 h3)]
    ·rw [if_neg h3, if_neg (fun h => h3 (e1.1 h))]
     by_cases h4 : b < a
     ·rw [if_pos h4, if_pos (e2.2 h4)]
     ·rw [if_neg h4, if_neg (fun h => h4 (e2.1 h))]
def cmp1 (x y : Lb) : Int := if Lib.compareBytes x.n y.n ≠ 0 then Lib.compareBytes x.n y.n else Lib.compareBytes x.v y.v
theorem Kqk (x y : Lb) (a b : List Lb) : cmpL (x :: a) (y :: b) = if cmp1 x y ≠ 0 then cmp1 x y else cmpL a b := by
 rw [cmpL]; unfold cmp1; rw [Kia x.n y.n, Kia x.v y.v]
 by_cases h1 : x.n < y.n
 ·simp [h1]
 ·by_cases h2 : y.n < x.n
  ·simp [h1, h2]
  ·by_cases h3 : x.v < y.v
   ·simp [h1, h2, h3]
   ·by_cases h4 : y.v < x.v
    ·simp [h1, h2, h3, h4]
    ·simp [h1, h2, h3, h4]
set_option maxHeartbeats 400000 in
theorem Kqj (g : Nat) (a b : Int) (w : World) (hq : Blk w g 3 #[.int .i64 a, .int .i64 b]) :
  Calls Tryz.prog 129 #[.slice (some ⟨g, 0, none⟩) 2 2] w fun e w' => e = .returned (.int .i64 (if a ≠ 0 then a else b)) ∧ w = w' := by
 have q0 : w.cell? ⟨g, 0, none⟩ = some (Value.int .i64 a) := hq.cell 0; have q1 : w.cell? ⟨g, 1, none⟩ = some (Value.int .i64 b) := hq.cell 1; clear hq
 by_cases h0 : a = 0
 ·subst h0; rw [if_neg (by simp)]
  by_cases h1 : b = 0
  ·subst h1; go_enter Tryz.func129, Tryz.ntmps129
   go_wp2_with fail
   refine wp_loop_rounds 3 ?_; rw [rounds_succ]; go_wp2_with fail
   rw [rounds_succ]; go_wp2_with fail
   rw [rounds_succ]; go_wp2_with fail
   go_ret
   exact ⟨rfl, rfl⟩
  ·have e1 : (b != 0) = true := by simp [h1]
   go_enter Tryz.func129, Tryz.ntmps129
   go_wp2_with fail
   refine wp_loop_rounds 3 ?_; rw [rounds_succ]; go_wp2_with fail
   rw [rounds_succ]; go_wp2_with fail
   go_ret
   exact ⟨rfl, rfl⟩
 ·rw [if_pos h0]; have e1 : (a != 0) = true := by simp [h0]
  go_enter Tryz.func129, Tryz.ntmps129
  go_wp2_with fail
  refine wp_loop_rounds 3 ?_; rw [rounds_succ]; go_wp2_with fail
  go_ret
  exact ⟨rfl, rfl⟩
theorem Kpf (x y : Lb) (w : World) :
  Calls Tryz.prog 128 #[.agg #[.string ⟨x.n.toArray⟩, .string ⟨x.v.toArray⟩], .agg #[.string ⟨y.n.toArray⟩, .string ⟨y.v.toArray⟩]] w fun e w' => e = .returned (.int .i64 (cmp1 x y)) ∧ Below w.heap.size w w' := by
 obtain ⟨ca, hca⟩ : ∃ ca, Lib.compareBytes x.n y.n = ca := ⟨_, rfl⟩; obtain ⟨cb, hcb⟩ : ∃ cb, Lib.compareBytes x.v y.v = cb := ⟨_, rfl⟩
 have hbn : ∀ W : World, Calls Tryz.prog 130 #[.agg #[.string ⟨x.n.toArray⟩, .string ⟨x.v.toArray⟩], .agg #[.string ⟨y.n.toArray⟩, .string ⟨y.v.toArray⟩]] W fun e w' => e = .returned (.int .i64 ca) ∧ Below W.heap.size W w' := fun W => by
  have := Kki x y W; rwa [hca] at this
 have hco : ∀ W : World, Calls Tryz.prog 131 #[.string ⟨x.v.toArray⟩, .string ⟨y.v.toArray⟩] W fun e w' => e = .returned (.int .i64 cb) ∧ W = w' := fun W => by
  refine (Tryz.strings_Compare ⟨x.v.toArray⟩ ⟨y.v.toArray⟩ W).mono ?_; rintro e w' ⟨rfl, rfl⟩; exact ⟨by rw [← hcb], rfl⟩
 have hr : cmp1 x y = if ca ≠ 0 then ca else cb := by unfold cmp1; rw [hca, hcb]
 obtain ⟨rr, hrr⟩ : ∃ rr, (if ca ≠ 0 then ca else cb) = rr := ⟨_, rfl⟩; rw [hr, hrr]; have HRR := Jh hrr; clear hca hcb hr hrr; obtain ⟨N, hN⟩ : ∃ N : ByteArray, (⟨x.n.toArray⟩ : ByteArray) = N := ⟨_, rfl⟩; obtain ⟨V, hV⟩ : ∃ N : ByteArray, (⟨x.v.toArray⟩ : ByteArray) = N := ⟨_, rfl⟩; obtain ⟨N2, hN2⟩ : ∃ N : ByteArray, (⟨y.n.toArray⟩ : ByteArray) = N := ⟨_, rfl⟩; obtain ⟨V2, hV2⟩ : ∃ N : ByteArray, (⟨y.v.toArray⟩ : ByteArray) = N := ⟨_, rfl⟩; rw [hN, hV, hN2, hV2] at hbn ⊢; rw [hV, hV2] at hco; have HBN := Jh hbn; have HCO := Jh hco; clear hN hV hN2 hV2 hbn hco; go_enter Tryz.func128, Tryz.ntmps128
 go_upto_region 1 with fail
 obtain ⟨w1, hw1⟩ : ∃ x, (w.alloc (.cells #[.string N, .string V] 99)).alloc (.cells #[.string N2, .string V2] 99) = x := ⟨_, rfl⟩; have hb1 : Below w.heap.size w w1 := by rw [← hw1]; exact ((Below.refl _ _).alloc (Nat.le_refl _) _).alloc (by simp) _
 have hq : Blk w1 w.heap.size 99 #[.string N, .string V] := by rw [← hw1]; exact (Blk.new _ _ _).alloc _
 have hp : Blk w1 (w.heap.size + 1) 99 #[.string N2, .string V2] := by rw [← hw1]; exact Blk.newAt (by simp)
 rw [hw1]; obtain ⟨a, hA⟩ : ∃ a, w.heap.size = a := ⟨_, rfl⟩; rw [hA] at hq hp ⊢; clear hw1; have q0 : _ = some (Value.string N) := hq.cell 0; have q1 : _ = some (Value.string V) := hq.cell 1; have p0 : _ = some (Value.string N2) := hp.cell 0; have p1 : _ = some (Value.string V2) := hp.cell 1; have hql := hq.lt; have hpl := hp.lt; refine Kag 8 (by kernel_rfl) (by kernel_rfl) ?_; simp only [List.take_succ_cons, List.take_zero, List.drop_succ_cons, List.drop_zero]
 repeat (go_big_quiet_step ((first | (go_at_call 130; exact Kal _ (HBN.out _)) | (go_at_call 131; exact Kmy _ (HCO.out _)))))
 refine wpQuiet_nil ?_; rintro w2 ⟨⟨_, hb2⟩, rfl⟩; have hB2 : Below w.heap.size w w2 := then_ hb1 hb2; go_wp2_with fail
 have hg : Blk (w2.alloc (.cells #[.int .i64 ca, .int .i64 cb] 3)) w2.heap.size 3 #[.int .i64 ca, .int .i64 cb] := Blk.new _ _ _; refine (Kqj _ ca cb _ hg).mono ?_; rintro _ w3 ⟨rfl, rfl⟩; rw [HRR.out]; go_wp2_with fail
 go_ret
 exact ⟨rfl, by first | exact hB2.alloc hB2.size _ | (rw [← hA]; exact hB2.alloc hB2.size _)⟩
theorem Kjs (l m : List Lb) (A B : Option Addr) (n k ca cb : Nat) (w : World) (r : Int) (hr : cmpL l m = r) (hA : Elems w w.heap.size 2 encLb A n l) (hB : Elems w w.heap.size 2 encLb B k m) (hn : n ≤ 140737488351232) (hk : k ≤ 140737488351232) :
  Calls Tryz.prog 127 #[.slice A n ca, .slice B k cb, .func (.func 128) #[] #[]] w fun e w' => e = .returned (.int .i64 r) ∧ Below w.heap.size w w' := by
 have hl := hA.len; have hm := hB.len; have HL := Jh hl; have HM := Jh hm; have HR := Jh hr; clear hl hm hr; go_enter Tryz.func127, Tryz.ntmps127
 go_wp2_with fail
 go_loopg [13] n (fun g s13 wr => ∃ i : Nat, i + g = n ∧ s13 = .int .i64 (i : Int) ∧ Below w.heap.size w wr ∧ i ≤ k ∧ cmpL (l.drop i) (m.drop i) = r)
 case atStart => exact ⟨0, by omega, rfl, Below.refl _ _, Nat.zero_le _, HR.out⟩
 case round =>
  obtain ⟨i, hig, rfl, hBw, hik, hcr⟩ := hrel; have HIG := Jh hig; have HCR := Jh hcr; clear hig hcr
  by_cases hi : i < n
  ·have el : decide ((i : Int) < (n : Int)) = true := by simp; omega
   have el' : decide (i < n) = true := by simp; omega
   have hil : i < l.length := by have := HL.out; omega
   have hdl : l.drop i = l[i]! :: l.drop (i + 1) := by rw [getElem!_pos l i hil]; exact List.drop_eq_getElem_cons hil
   obtain ⟨ba, oa, rfl, _, _⟩ := hA.2 (by omega); obtain ⟨hba, a0, a1⟩ := Kca hA (by omega) hBw i hil; obtain ⟨X, hX⟩ : ∃ N : ByteArray, (⟨l[i]!.n.toArray⟩ : ByteArray) = N := ⟨_, rfl⟩; obtain ⟨Y, hY⟩ : ∃ N : ByteArray, (⟨l[i]!.v.toArray⟩ : ByteArray) = N := ⟨_, rfl⟩; have HX := Jh hX; have HY := Jh hY; have HDL := Jh hdl; rw [hX] at a0; rw [hY] at a1; clear hX hY hdl
   by_cases hk2 : i < k
   ·have eg : decide ((k : Int) ≤ (i : Int)) = false := by simp; omega
    have eg' : decide (k ≤ i) = false := by simp; omega
    have him : i < m.length := by have := HM.out; omega
    have hdm : m.drop i = m[i]! :: m.drop (i + 1) := by rw [getElem!_pos m i him]; exact List.drop_eq_getElem_cons him
    obtain ⟨bb, ob, rfl, _, _⟩ := hB.2 (by omega); have hcmp := fun W => Kpf l[i]! m[i]! W
    obtain ⟨X2, hX2⟩ : ∃ N : ByteArray, (⟨m[i]!.n.toArray⟩ : ByteArray) = N := ⟨_, rfl⟩; obtain ⟨Y2, hY2⟩ : ∃ N : ByteArray, (⟨m[i]!.v.toArray⟩ : ByteArray) = N := ⟨_, rfl⟩; have HX2 := Jh hX2; have HY2 := Jh hY2; have hcr := HCR.out; rw [HDL.out, hdm, Kqk] at hcr; obtain ⟨c, hc⟩ : ∃ c, cmp1 l[i]! m[i]! = c := ⟨_, rfl⟩; simp only [HX.out, HY.out, hX2, hY2, hc] at hcmp; rw [hc] at hcr; have HCMP := Jh hcmp; have HC1 := Jh hcr; clear hX2 hY2 hcmp hcr hc hdm; go_upto_region 4 with fail
    obtain ⟨w1, hw1⟩ : ∃ x, wr.alloc (.cells #[.string X, .string Y] 99) = x := ⟨_, rfl⟩; have hB1 : Below w.heap.size w w1 := by rw [← hw1]; exact hBw.alloc hBw.size _
    have hq : Blk w1 wr.heap.size 99 #[.string X, .string Y] := by rw [← hw1]; exact Blk.new _ _ _
    rw [hw1]; obtain ⟨p, hp⟩ : ∃ p, wr.heap.size = p := ⟨_, rfl⟩; rw [hp] at hq ⊢; obtain ⟨hbb, b0, b1⟩ := Kca hB (by omega) hB1 i him; rw [HX2.out] at b0; rw [HY2.out] at b1; clear hw1 hp a0 a1 hBw; go_upto_region 7 with fail
    obtain ⟨w2, hw2⟩ : ∃ x, w1.alloc (.cells #[.string X2, .string Y2] 99) = x := ⟨_, rfl⟩; have hB2 : Below w.heap.size w w2 := by rw [← hw2]; exact hB1.alloc hB1.size _
    have hq2 : Blk w2 p 99 #[.string X, .string Y] := by rw [← hw2]; exact hq.alloc _
    have hr2 : Blk w2 w1.heap.size 99 #[.string X2, .string Y2] := by rw [← hw2]; exact Blk.new _ _ _
    rw [hw2]; obtain ⟨p2, hp2⟩ : ∃ p, w1.heap.size = p := ⟨_, rfl⟩; rw [hp2] at hr2 ⊢; clear hw2 hp2 b0 b1 hB1 hq; have q0 : _ = some (Value.string X) := hq2.cell 0; have q1 : _ = some (Value.string Y) := hq2.cell 1; have r0 : _ = some (Value.string X2) := hr2.cell 0; have r1 : _ = some (Value.string Y2) := hr2.cell 1; go_wp2_with fail
    refine (HCMP.out w2).mono ?_; rintro _ w3 ⟨rfl, hb3⟩; have hB3 := then_ hB2 hb3
    by_cases h0 : c = 0
    ·subst h0; have h1 := HC1.out; rw [if_neg (by simp)] at h1; have HC2 := Jh h1; clear h1; go_wp2_with fail
     go_roundg (gk - 1)
     case measure => have := HIG.out; omega
     case rel => exact ⟨i + 1, by have := HIG.out; omega, by go_num, hB3, by omega, HC2.out⟩
    ·have e0 : (c != 0) = true := by simp [h0]
     have h1 := HC1.out; rw [if_pos h0] at h1; have HC2 := Jh h1; clear h1; go_wp2_with fail
     go_ret
     exact ⟨by rw [← HC2.out]; rfl, hB3⟩
   ·have eg : decide ((k : Int) ≤ (i : Int)) = true := by simp; omega
    have eg' : decide (k ≤ i) = true := by simp; omega
    have hdm : m.drop i = [] := List.drop_eq_nil_of_le (by have := HM.out; omega); have hcr := HCR.out; rw [HDL.out, hdm] at hcr; have h1 : (1 : Int) = r := hcr; have H1 := Jh h1; clear hdm hcr h1; go_wp2_with fail
    go_ret
    exact ⟨by rw [← H1.out]; rfl, hBw.alloc hBw.size _⟩
  ·have hin : i = n := by have := HIG.out; omega
   subst hin; have hdl : l.drop i = [] := List.drop_eq_nil_of_le (by have := HL.out; omega); have hcr := HCR.out; rw [hdl] at hcr; have el : decide ((i : Int) < (i : Int)) = false := by simp
   by_cases hk2 : i < k
   ·have eg : decide ((i : Int) < (k : Int)) = true := by simp; omega
    have eg' : decide (i < k) = true := by simp; omega
    have him : i < m.length := by have := HM.out; omega
    have hdm : m.drop i = m[i] :: m.drop (i + 1) := List.drop_eq_getElem_cons him; rw [hdm] at hcr; have h1 : (-1 : Int) = r := hcr; have H1 := Jh h1; clear hdm hcr h1 hdl; go_wp2_with fail
    go_ret
    exact ⟨by rw [← H1.out]; rfl, hBw⟩
   ·have eg : decide ((i : Int) < (k : Int)) = false := by simp; omega
    have eg' : decide (i < k) = false := by simp; omega
    have hdm : m.drop i = [] := List.drop_eq_nil_of_le (by have := HM.out; omega); rw [hdm] at hcr; have h1 : (0 : Int) = r := hcr; have H1 := Jh h1; clear hdm hcr h1 hdl; go_wp2_with fail
    go_ret
    exact ⟨by rw [← H1.out]; rfl, hBw⟩
set_option maxHeartbeats 400000 in
theorem Kph (l m : List Lb) (A B : Option Addr) (n k ca cb : Nat) (w : World) (r : Int) (hr : cmpL l m = r) (hA : Elems w w.heap.size 2 encLb A n l) (hB : Elems w w.heap.size 2 encLb B k m) (hn : n ≤ 140737488351232) (hk : k ≤ 140737488351232) :
  Calls Tryz.prog 60 #[.slice A n ca, .slice B k cb] w fun e w' => e = .returned (.int .i64 r) ∧ Below w.heap.size w w' := by
 have HC := Jh (Kjs l m A B n k ca cb w r hr hA hB hn hk); clear hr; go_enter Tryz.func60, Tryz.ntmps60
 go_wp2_with fail
 refine HC.out.mono ?_; rintro _ w1 ⟨rfl, hb⟩; go_wp2_with fail
 go_ret
 exact ⟨rfl, hb⟩
end
end Go.Proofs.YtdoiekknhnbepaaGreatDoor
