/- Merged: RdkWalksK, DskLaw. -/
import Derived.Test.YtdaidbnbfjgjeaaGreatDoorDsa19
import Derived.Test.YtdaidbnbfjgjeaaGreatDoorDsa23
import Derived.Test.YtdaidbnbfjgjeaaGreatDoorDsa25
import Derived.Test.YtdaidbnbfjgjeaaGreatDoorDsa26
set_option linter.unusedVariables false
set_option linter.unusedSimpArgs false
/-! ## RdkWalksK -/
/- The walks of layer 3 (disk), the document's: Create. -/
namespace Go.Proofs.YtdaidbnbfjgjeaaGreatDoor
open Go.RowKit Go.Shelf Go.Maps Go.Sort
attribute [local go_sem ↓] Go.wp_at_zero Go.wp_at_succ
attribute [local go_sem] Later.cell Later.frozen

section
variable {B0 : Nat} {R : Nat → Nat} {A : RAdr} {d : Ds}
set_option maxRecDepth 100000 in
set_option maxHeartbeats 2000000 in
theorem rcreate_calls (S : ByteArray) (w : World) (h : RD B0 w R A d) (hf : Fit d) (hS : S.size ≤ 1073741824) (hB : B0 ≤ w.heap.size) :
    Calls Tryz.prog 50 #[.pointer (some ⟨A.q, 0, none⟩), .string S] w (RdOut B0 R A (createD d S.data.toList) w) := by
  obtain ⟨pb, hpb⟩ : ∃ b, pathB S.data.toList = b := ⟨_, rfl⟩
  obtain ⟨th, hth⟩ : ∃ b, parentB d.things S.data.toList = b := ⟨_, rfl⟩
  obtain ⟨k, hk⟩ : ∃ k, isT d.things S.data.toList = k := ⟨_, rfl⟩
  obtain ⟨o, ho⟩ : ∃ o, d.off = o := ⟨_, rfl⟩
  have htl : d.things.length ≤ 1073741824 := Nat.le_trans hf.tl (by decide)
  have HPB := Lib.hid (fun w => rpath_calls S pb hpb w hS)
  have HPA := Lib.hid (rparent_calls S th hth w h htl hS)
  have HIS := Lib.hid (ris_calls S k hk w h htl)
  have c5 : w.cell? ⟨A.q, 5, none⟩ = some (.bool o) := by rw [← ho]; exact Blk.cell h.blk 5
  have hfl := hf.fl
  obtain ⟨n, hn⟩ : ∃ n, d.files.length = n := ⟨_, rfl⟩
  have hfr := h.files.1
  rw [hn] at hfr hfl
  obtain ⟨X3, c3, hfv⟩ : ∃ X3 c3, A.fv = .slice X3 n c3 := by
    rcases hfr.2 with ⟨h1, h0⟩ | ⟨g, cap, cur, h1, _⟩
    · exact ⟨none, 0, by rw [h0]; exact h1⟩
    · exact ⟨_, cap, h1⟩
  have k3 : w.cell? ⟨A.q, 3, none⟩ = some (.slice X3 n c3) := by rw [← hfv]; exact Blk.cell h.blk 3
  obtain ⟨ST, hSTE⟩ : ∃ r, St.create S.data.toList n = r := ⟨_, rfl⟩
  have hnm := rnames_calls (.create S.data.toList n) 2 (n : Int) S ⟨#[]⟩ (by simp [encS, txtV_self]) (fun X n' c w hX => rapply_create hX S n hS (by have := Elems.len hX; omega) (things_short hf)) w h hf.aw (Nat.le_trans hf.sl (by decide)) hB
  have HNM := Lib.hid hnm
  obtain ⟨j, dd, hj⟩ : ∃ k d1, stepD d = (k, d1) := ⟨_, _, rfl⟩
  have hss := stepD_same d
  rw [hj] at hss
  have hE : createD d S.data.toList = if o = true then (1, d) else if pb = false then (2, d) else if th = false then (4, d) else if k ≠ 0 then (5, d) else
      if j ≠ 0 then (j, dd) else (0, { (namesD d (.create S.data.toList n)).2 with files := d.files ++ [⟨[], [], []⟩] }) := by unfold createD; rw [ho, hpb, hth, hk, hj, hn]
  have hN : namesD d (.create S.data.toList n) = if j ≠ 0 then (j, dd) else (0, { dd with things := applyS d.things (.create S.data.toList n), steps := d.steps ++ [.create S.data.toList n] }) := by unfold namesD; rw [hj]
  have HSTAY := Lib.hid (fun j => RdOut.stay (w := w) h j)
  obtain ⟨q, hq⟩ : ∃ q, A.q = q := ⟨_, rfl⟩
  have HQ := Lib.hid hq
  rw [hq] at HIS HPA HNM c5 k3 ⊢
  have HE := Lib.hid hE
  have HN := Lib.hid hN
  have HNL := Lib.hid hn
  have HSS := Lib.hid hss
  have hql : q < w.heap.size := lt_of_cell k3
  clear hE hN hpb hth hk ho hnm hq hj hss hn hfv hfr hSTE
  go_enter Tryz.func50, Tryz.ntmps50
  go_wp2_with fail
  refine (HPB.out _).mono ?_
  rintro _ w1 ⟨rfl, rfl⟩
  cases o with
  | true =>
    have hfin : RdOut B0 R A (createD d S.data.toList) w (.returned (.int .i64 ((1 : Nat) : Int))) w := by rw [HE.out, if_pos rfl]; exact HSTAY.out 1
    have HFIN := Lib.hid hfin
    clear hfin
    go_wp2_with fail
    go_ret
    exact HFIN.out
  | false =>
    cases pb with
    | false =>
      have hfin : RdOut B0 R A (createD d S.data.toList) w (.returned (.int .i64 ((2 : Nat) : Int))) w := by rw [HE.out, if_neg (by decide), if_pos rfl]; exact HSTAY.out 2
      have HFIN := Lib.hid hfin
      clear hfin
      go_wp2_with fail
      go_ret
      exact HFIN.out
    | true =>
      go_wp2_with fail
      refine HPA.out.mono ?_
      rintro _ w1 ⟨rfl, rfl⟩
      cases th with
      | false =>
        have hfin : RdOut B0 R A (createD d S.data.toList) w (.returned (.int .i64 ((4 : Nat) : Int))) w := by rw [HE.out, if_neg (by decide), if_neg (by decide), if_pos rfl]; exact HSTAY.out 4
        have HFIN := Lib.hid hfin
        clear hfin
        go_wp2_with fail
        go_ret
        exact HFIN.out
      | true =>
        go_wp2_with fail
        refine HIS.out.mono ?_
        rintro _ w1 ⟨rfl, rfl⟩
        by_cases hz : k = 0
        · subst hz
          have hE2 := HE.out
          rw [if_neg (by decide), if_neg (by decide), if_neg (by decide), if_neg (by decide)] at hE2
          have HE2 := Lib.hid hE2
          clear hE2
          go_wp2_with fail
          refine HNM.out.mono ?_
          rintro e w2 ⟨R', A', rfl, hR2, hO2, hq2⟩
          rw [HN.out] at hR2 ⊢
          cases j with
          | succ j =>
            rw [if_pos (by omega)] at hR2 ⊢
            have hfin : RdOut B0 R A (createD d S.data.toList) w (.returned (.int .i64 ((j + 1 : Nat) : Int))) w2 := by
              rw [HE2.out, if_pos (by omega)]
              exact ⟨R', A', rfl, hR2, hO2, hq2⟩
            have HFIN := Lib.hid hfin
            have d1 : (((j + 1 : Nat) : Int) == 0) = false := by rw [beq_eq_false_iff_ne]; omega
            clear hfin hR2 hO2
            simp only []
            go_wp2_with fail
            go_ret
            exact HFIN.out
          | zero =>
            rw [if_neg (by omega)] at hR2 ⊢
            simp only []
            have hfr := hR2.files
            simp only [HSS.out.2.2.2, HNL.out] at hfr
            obtain ⟨X4, c4, hfv⟩ : ∃ X4 c4, A'.fv = .slice X4 n c4 := by
              rcases hfr.1.2 with ⟨h1, h0⟩ | ⟨g, cap, cur, h1, _⟩
              · exact ⟨none, 0, by rw [h0]; exact h1⟩
              · exact ⟨_, cap, h1⟩
            have hrow := hfr.1
            rw [hfv] at hrow
            have hqq : A'.q = q := by rw [hq2, HQ.out]
            have c3' : w2.cell? ⟨q, 3, none⟩ = some (.slice X4 n c4) := by rw [← hqq, ← hfv]; exact Blk.cell hR2.blk 3
            have hql2 : q < w2.heap.size := lt_of_cell c3'
            have hRq : R' q = 1 := by rw [← hqq]; exact hR2.rq
            have hne : (Value.slice X4 n c4).ownBlock ≠ some q := fun e => by
              have := hfr.2 q (by rw [hfv]; exact e)
              omega
            obtain ⟨i0, hi0, hz0, hz1, hz2⟩ := info_parts info_bytes
            have HFV := Lib.hid hfv
            have HR2 := Lib.hid hR2
            have HO2 := Lib.hid hO2
            have HQQ := Lib.hid hqq
            have HQ2 := Lib.hid hq2
            have hk2 : Blk w2 q _ _ := hqq ▸ (show Blk w2 A'.q _ _ from hR2.blk)
            have hrow2 := hrow
            have HROW := Lib.hid hrow
            have HK2 := Lib.hid hk2
            have hBs : B0 ≤ w2.heap.size := by have := hO2.size; omega
            clear hfr hfv hR2 hO2 hqq hq2 hrow hrow2 hk2 k3 c5
            go_upto_region 14 with fail
            go_wp2_with (at_builtin; refine wpList_append_own_at _ rfl _ _ 53 rfl 0 119 i0 (.agg #[.string ⟨#[]⟩, .string ⟨#[]⟩, .slice none 0 0]) 3 56 Tryz.underlying53 hi0 hz0 hz1 hz2 rfl (by decide) _ _ _ rfl (HROW.out.alloc _) ⟨w2.heap.size, 0, none⟩ 1 1 [.string ⟨#[]⟩, .string ⟨#[]⟩, .slice none 0 0] rfl rfl ?p1 ?p2 ?p3 ?p4 ?p5 ?_)
            case p2 => exact ⟨rfl, rfl⟩
            case p3 => unfold maxLen; omega
            case p4 => omega
            intro v' w5 hown' hgrow hx9 hat
            have hall : w2.grownBy w5 (Value.slice X4 n c4).ownBlock := (World.grownBy_alloc w2 _ _).trans hgrow
            obtain ⟨A6, c6, rfl⟩ : ∃ A6 c6, v' = .slice A6 (n + 1) c6 := by
              rcases hown'.2 with ⟨rfl, h0⟩ | ⟨g, cap, cur, rfl, _⟩
              · omega
              · exact ⟨_, cap, rfl⟩
            have hk5 := HK2.out.grown hall (fun e => hne e.symm)
            have m3 := hk5.cell 3
            have f3 := hk5.frozen 3
            have m3' : w5.cell? ⟨q, 3, none⟩ = some (.slice X4 n c4) := (World.cell?_of_block (w := w2) (hall.block q hql2 (fun e => hne e.symm))).trans c3'
            have hlast := HR2.out.file_more (v' := .slice A6 (n + 1) c6) (w2 := w5) (by rw [HFV.out]; exact hall) (by
              simp only [HSS.out.2.2.2, HNL.out]
              exact hown') (by
              rw [HFV.out]
              rcases hat with h1 | h1
              · exact .inl h1
              · exact .inr ⟨_, h1, by omega⟩) hBs
            obtain ⟨hlr, hlo⟩ := hlast
            have hfin : RdOut B0 R A (createD d S.data.toList) w (.returned (.int .i64 ((0 : Nat) : Int))) (w5.setCell ⟨q, 3, none⟩ (.slice A6 (n + 1) c6)) := by
              rw [HE2.out, if_neg (by omega), HN.out, if_neg (by omega)]
              rw [HQQ.out] at hlr hlo
              simp only [HSS.out.2.2.2] at hlr
              exact ⟨_, _, rfl, hlr, HO2.out.trans hlo, HQ.out.symm⟩
            have HFIN := Lib.hid hfin
            clear hfin hlr hlo hat hgrow hx9 hown' hk5 m3 hall
            go_wp2_with fail
            go_ret
            exact HFIN.out
        · have hfin : RdOut B0 R A (createD d S.data.toList) w (.returned (.int .i64 ((5 : Nat) : Int))) w := by rw [HE.out, if_neg (by decide), if_neg (by decide), if_neg (by decide), if_pos hz]; exact HSTAY.out 5
          have HFIN := Lib.hid hfin
          have d1 : ((k : Int) == 0) = false := by rw [beq_eq_false_iff_ne]; omega
          clear hfin
          go_wp2_with fail
          go_ret
          exact HFIN.out
end
end Go.Proofs.YtdaidbnbfjgjeaaGreatDoor

/-! ## DskLaw -/
/- The walks of layer 3's law: code, twin. -/
namespace Go.Proofs.YtdaidbnbfjgjeaaGreatDoor
open Go.RowKit Go.Shelf Go.Maps Go.Sort
attribute [local go_sem ↓] Go.wp_at_zero Go.wp_at_succ
attribute [local go_sem] Later.cell Later.frozen

/-- The failures lie apart. -/
def Apart (a : Nat → Addr) : Prop := ∀ i j, 1 ≤ i → i ≤ 7 → 1 ≤ j → j ≤ 7 → i ≠ j → a i ≠ a j
section
variable {B0 : Nat} {a : Nat → Addr}
set_option maxHeartbeats 1000000 in
theorem code_nil (op s : ByteArray) (w : World) : Calls Tryz.prog 48 #[.nilIface, .string op, .string s] w fun e w' => e = .returned (.int .i64 0) ∧ w = w' := by
  go_enter Tryz.func48, Tryz.ntmps48
  go_wp2_with fail
  go_ret
  exact ⟨rfl, rfl⟩
theorem run_asserted (v : Value) (w : World) : (Instr.typeAssert (.iface 124 v) 28 124 true).run Tryz.prog w = .ok (.tuple #[v, .bool true]) w := by
  simp [Instr.typeAssert, run_underlying Tryz.underlying124, go_sem, Result.andThen]
/-- What the failures' variables point at. -/
def Sents (B0 : Nat) (a : Nat → Addr) (w : World) : Prop := ∀ k, 1 ≤ k → k ≤ 7 → (a k).block < B0 ∧ ∃ cs t, w.heap[(a k).block]? = some (.cells cs t (0, 0))
theorem Sents.below {w w' : World} (h : Sents B0 a w) (hb : Below B0 w w') : Sents B0 a w' := fun k h1 h2 => by
  obtain ⟨h3, cs, t, h4⟩ := h k h1 h2
  exact ⟨h3, cs, t, (hb.block _ h3).trans h4⟩
theorem info_ep : (Tryz.prog.info? 199).map (·.comparable) = some true := by kernel_rfl
theorem info_es : (Tryz.prog.info? 213).map (·.size) = some 1 := by kernel_rfl
theorem err_eq (i : Nat) (w : World) : (binOp .eql 28 (failV a i) (failV a i)).run Tryz.prog w = .ok (.bool true) w := by
  obtain ⟨i0, h1, h2⟩ := Option.map_eq_some_iff.1 info_ep
  obtain ⟨j0, h3, _⟩ := Option.map_eq_some_iff.1 info_es
  exact run_eql_iface_ptr_same w (a i) Tryz.underlying28 Tryz.underlying199 h1 h2 h3
theorem err_ne {i j : Nat} {w : World} (hs : Sents B0 a w) (ha : Apart a) (h1 : 1 ≤ i) (h2 : i ≤ 7) (h3 : 1 ≤ j) (h4 : j ≤ 7) (hne : i ≠ j) : (binOp .eql 28 (failV a i) (failV a j)).run Tryz.prog w = .ok (.bool false) w := by
  obtain ⟨i0, k1, k2⟩ := Option.map_eq_some_iff.1 info_ep
  obtain ⟨j0, k3, k4⟩ := Option.map_eq_some_iff.1 info_es
  obtain ⟨_, ci, ti, hi⟩ := hs i h1 h2
  obtain ⟨_, cj, tj, hj⟩ := hs j h3 h4
  exact run_eql_iface_ptr_other w Tryz.underlying28 Tryz.underlying199 k1 k2 k3 (by rw [k4]; decide) (ha i j h1 h2 h3 h4 hne) hi hj
set_option maxRecDepth 100000 in
set_option maxHeartbeats 4000000 in
theorem code_some (op s : ByteArray) (q k : Nat) (w : World) (hk1 : 1 ≤ k) (hk2 : k ≤ 7) (hq : Blk w q 126 #[.string op, .string s, failV a k]) (hF : Fails B0 a w) (hF6 : Fail6 B0 a w) (hs : Sents B0 a w) (ha : Apart a) :
    Calls Tryz.prog 48 #[.iface 124 (.pointer (some ⟨q, 0, none⟩)), .string op, .string s] w fun e w' => e = .returned (.int .i64 (k : Int)) ∧ w = w' := by
  rcases (by omega : k = 1 ∨ k = 2 ∨ k = 3 ∨ k = 4 ∨ k = 5 ∨ k = 6 ∨ k = 7) with rfl | rfl | rfl | rfl | rfl | rfl | rfl
  · have q0 : w.cell? ⟨q, 0, none⟩ = some (.string op) := hq.cell 0
    have q1 : w.cell? ⟨q, 1, none⟩ = some (.string s) := hq.cell 1
    have q2 : w.cell? ⟨q, 2, none⟩ = some (failV a 1) := hq.cell 2
    have f1 : _ = some (failV a 1) := (hF 1 (by decide)).2
    have f2 : _ = some (failV a 2) := (hF 2 (by decide)).2
    have f3 : _ = some (failV a 3) := (hF 3 (by decide)).2
    have f4 : _ = some (failV a 4) := (hF 4 (by decide)).2
    have f5 : _ = some (failV a 5) := (hF 5 (by decide)).2
    have f6 : _ = some (failV a 6) := hF6.2
    have f7 : _ = some (failV a 7) := (hF 7 (by decide)).2
    have e1 : (binOp .eql 28 (failV a 1) (failV a 1)).run Tryz.prog w = .ok (.bool (decide (1 = 1))) w := by first | exact err_eq _ w | exact err_ne hs ha (by decide) (by decide) (by decide) (by decide) (by decide)
    have e2 : (binOp .eql 28 (failV a 1) (failV a 2)).run Tryz.prog w = .ok (.bool (decide (1 = 2))) w := by first | exact err_eq _ w | exact err_ne hs ha (by decide) (by decide) (by decide) (by decide) (by decide)
    have e3 : (binOp .eql 28 (failV a 1) (failV a 3)).run Tryz.prog w = .ok (.bool (decide (1 = 3))) w := by first | exact err_eq _ w | exact err_ne hs ha (by decide) (by decide) (by decide) (by decide) (by decide)
    have e4 : (binOp .eql 28 (failV a 1) (failV a 4)).run Tryz.prog w = .ok (.bool (decide (1 = 4))) w := by first | exact err_eq _ w | exact err_ne hs ha (by decide) (by decide) (by decide) (by decide) (by decide)
    have e5 : (binOp .eql 28 (failV a 1) (failV a 5)).run Tryz.prog w = .ok (.bool (decide (1 = 5))) w := by first | exact err_eq _ w | exact err_ne hs ha (by decide) (by decide) (by decide) (by decide) (by decide)
    have e6 : (binOp .eql 28 (failV a 1) (failV a 6)).run Tryz.prog w = .ok (.bool (decide (1 = 6))) w := by first | exact err_eq _ w | exact err_ne hs ha (by decide) (by decide) (by decide) (by decide) (by decide)
    have e7 : (binOp .eql 28 (failV a 1) (failV a 7)).run Tryz.prog w = .ok (.bool (decide (1 = 7))) w := by first | exact err_eq _ w | exact err_ne hs ha (by decide) (by decide) (by decide) (by decide) (by decide)
    unfold failV at q2 f1 f2 f3 f4 f5 f6 f7 e1 e2 e3 e4 e5 e6 e7
    simp only [failG] at f1 f2 f3 f4 f5 f6 f7
    simp only [Nat.reduceEqDiff, decide_true, decide_false] at e1 e2 e3 e4 e5 e6 e7
    have hta := run_asserted (.pointer (some ⟨q, 0, none⟩)) w
    clear hq hF hF6 hs ha
    go_enter Tryz.func48, Tryz.ntmps48
    go_wp2_with fail
    go_ret
    exact ⟨rfl, rfl⟩
  · have q0 : w.cell? ⟨q, 0, none⟩ = some (.string op) := hq.cell 0
    have q1 : w.cell? ⟨q, 1, none⟩ = some (.string s) := hq.cell 1
    have q2 : w.cell? ⟨q, 2, none⟩ = some (failV a 2) := hq.cell 2
    have f1 : _ = some (failV a 1) := (hF 1 (by decide)).2
    have f2 : _ = some (failV a 2) := (hF 2 (by decide)).2
    have f3 : _ = some (failV a 3) := (hF 3 (by decide)).2
    have f4 : _ = some (failV a 4) := (hF 4 (by decide)).2
    have f5 : _ = some (failV a 5) := (hF 5 (by decide)).2
    have f6 : _ = some (failV a 6) := hF6.2
    have f7 : _ = some (failV a 7) := (hF 7 (by decide)).2
    have e1 : (binOp .eql 28 (failV a 2) (failV a 1)).run Tryz.prog w = .ok (.bool (decide (2 = 1))) w := by first | exact err_eq _ w | exact err_ne hs ha (by decide) (by decide) (by decide) (by decide) (by decide)
    have e2 : (binOp .eql 28 (failV a 2) (failV a 2)).run Tryz.prog w = .ok (.bool (decide (2 = 2))) w := by first | exact err_eq _ w | exact err_ne hs ha (by decide) (by decide) (by decide) (by decide) (by decide)
    have e3 : (binOp .eql 28 (failV a 2) (failV a 3)).run Tryz.prog w = .ok (.bool (decide (2 = 3))) w := by first | exact err_eq _ w | exact err_ne hs ha (by decide) (by decide) (by decide) (by decide) (by decide)
    have e4 : (binOp .eql 28 (failV a 2) (failV a 4)).run Tryz.prog w = .ok (.bool (decide (2 = 4))) w := by first | exact err_eq _ w | exact err_ne hs ha (by decide) (by decide) (by decide) (by decide) (by decide)
    have e5 : (binOp .eql 28 (failV a 2) (failV a 5)).run Tryz.prog w = .ok (.bool (decide (2 = 5))) w := by first | exact err_eq _ w | exact err_ne hs ha (by decide) (by decide) (by decide) (by decide) (by decide)
    have e6 : (binOp .eql 28 (failV a 2) (failV a 6)).run Tryz.prog w = .ok (.bool (decide (2 = 6))) w := by first | exact err_eq _ w | exact err_ne hs ha (by decide) (by decide) (by decide) (by decide) (by decide)
    have e7 : (binOp .eql 28 (failV a 2) (failV a 7)).run Tryz.prog w = .ok (.bool (decide (2 = 7))) w := by first | exact err_eq _ w | exact err_ne hs ha (by decide) (by decide) (by decide) (by decide) (by decide)
    unfold failV at q2 f1 f2 f3 f4 f5 f6 f7 e1 e2 e3 e4 e5 e6 e7
    simp only [failG] at f1 f2 f3 f4 f5 f6 f7
    simp only [Nat.reduceEqDiff, decide_true, decide_false] at e1 e2 e3 e4 e5 e6 e7
    have hta := run_asserted (.pointer (some ⟨q, 0, none⟩)) w
    clear hq hF hF6 hs ha
    go_enter Tryz.func48, Tryz.ntmps48
    go_wp2_with fail
    go_ret
    exact ⟨rfl, rfl⟩
  · have q0 : w.cell? ⟨q, 0, none⟩ = some (.string op) := hq.cell 0
    have q1 : w.cell? ⟨q, 1, none⟩ = some (.string s) := hq.cell 1
    have q2 : w.cell? ⟨q, 2, none⟩ = some (failV a 3) := hq.cell 2
    have f1 : _ = some (failV a 1) := (hF 1 (by decide)).2
    have f2 : _ = some (failV a 2) := (hF 2 (by decide)).2
    have f3 : _ = some (failV a 3) := (hF 3 (by decide)).2
    have f4 : _ = some (failV a 4) := (hF 4 (by decide)).2
    have f5 : _ = some (failV a 5) := (hF 5 (by decide)).2
    have f6 : _ = some (failV a 6) := hF6.2
    have f7 : _ = some (failV a 7) := (hF 7 (by decide)).2
    have e1 : (binOp .eql 28 (failV a 3) (failV a 1)).run Tryz.prog w = .ok (.bool (decide (3 = 1))) w := by first | exact err_eq _ w | exact err_ne hs ha (by decide) (by decide) (by decide) (by decide) (by decide)
    have e2 : (binOp .eql 28 (failV a 3) (failV a 2)).run Tryz.prog w = .ok (.bool (decide (3 = 2))) w := by first | exact err_eq _ w | exact err_ne hs ha (by decide) (by decide) (by decide) (by decide) (by decide)
    have e3 : (binOp .eql 28 (failV a 3) (failV a 3)).run Tryz.prog w = .ok (.bool (decide (3 = 3))) w := by first | exact err_eq _ w | exact err_ne hs ha (by decide) (by decide) (by decide) (by decide) (by decide)
    have e4 : (binOp .eql 28 (failV a 3) (failV a 4)).run Tryz.prog w = .ok (.bool (decide (3 = 4))) w := by first | exact err_eq _ w | exact err_ne hs ha (by decide) (by decide) (by decide) (by decide) (by decide)
    have e5 : (binOp .eql 28 (failV a 3) (failV a 5)).run Tryz.prog w = .ok (.bool (decide (3 = 5))) w := by first | exact err_eq _ w | exact err_ne hs ha (by decide) (by decide) (by decide) (by decide) (by decide)
    have e6 : (binOp .eql 28 (failV a 3) (failV a 6)).run Tryz.prog w = .ok (.bool (decide (3 = 6))) w := by first | exact err_eq _ w | exact err_ne hs ha (by decide) (by decide) (by decide) (by decide) (by decide)
    have e7 : (binOp .eql 28 (failV a 3) (failV a 7)).run Tryz.prog w = .ok (.bool (decide (3 = 7))) w := by first | exact err_eq _ w | exact err_ne hs ha (by decide) (by decide) (by decide) (by decide) (by decide)
    unfold failV at q2 f1 f2 f3 f4 f5 f6 f7 e1 e2 e3 e4 e5 e6 e7
    simp only [failG] at f1 f2 f3 f4 f5 f6 f7
    simp only [Nat.reduceEqDiff, decide_true, decide_false] at e1 e2 e3 e4 e5 e6 e7
    have hta := run_asserted (.pointer (some ⟨q, 0, none⟩)) w
    clear hq hF hF6 hs ha
    go_enter Tryz.func48, Tryz.ntmps48
    go_wp2_with fail
    go_ret
    exact ⟨rfl, rfl⟩
  · have q0 : w.cell? ⟨q, 0, none⟩ = some (.string op) := hq.cell 0
    have q1 : w.cell? ⟨q, 1, none⟩ = some (.string s) := hq.cell 1
    have q2 : w.cell? ⟨q, 2, none⟩ = some (failV a 4) := hq.cell 2
    have f1 : _ = some (failV a 1) := (hF 1 (by decide)).2
    have f2 : _ = some (failV a 2) := (hF 2 (by decide)).2
    have f3 : _ = some (failV a 3) := (hF 3 (by decide)).2
    have f4 : _ = some (failV a 4) := (hF 4 (by decide)).2
    have f5 : _ = some (failV a 5) := (hF 5 (by decide)).2
    have f6 : _ = some (failV a 6) := hF6.2
    have f7 : _ = some (failV a 7) := (hF 7 (by decide)).2
    have e1 : (binOp .eql 28 (failV a 4) (failV a 1)).run Tryz.prog w = .ok (.bool (decide (4 = 1))) w := by first | exact err_eq _ w | exact err_ne hs ha (by decide) (by decide) (by decide) (by decide) (by decide)
    have e2 : (binOp .eql 28 (failV a 4) (failV a 2)).run Tryz.prog w = .ok (.bool (decide (4 = 2))) w := by first | exact err_eq _ w | exact err_ne hs ha (by decide) (by decide) (by decide) (by decide) (by decide)
    have e3 : (binOp .eql 28 (failV a 4) (failV a 3)).run Tryz.prog w = .ok (.bool (decide (4 = 3))) w := by first | exact err_eq _ w | exact err_ne hs ha (by decide) (by decide) (by decide) (by decide) (by decide)
    have e4 : (binOp .eql 28 (failV a 4) (failV a 4)).run Tryz.prog w = .ok (.bool (decide (4 = 4))) w := by first | exact err_eq _ w | exact err_ne hs ha (by decide) (by decide) (by decide) (by decide) (by decide)
    have e5 : (binOp .eql 28 (failV a 4) (failV a 5)).run Tryz.prog w = .ok (.bool (decide (4 = 5))) w := by first | exact err_eq _ w | exact err_ne hs ha (by decide) (by decide) (by decide) (by decide) (by decide)
    have e6 : (binOp .eql 28 (failV a 4) (failV a 6)).run Tryz.prog w = .ok (.bool (decide (4 = 6))) w := by first | exact err_eq _ w | exact err_ne hs ha (by decide) (by decide) (by decide) (by decide) (by decide)
    have e7 : (binOp .eql 28 (failV a 4) (failV a 7)).run Tryz.prog w = .ok (.bool (decide (4 = 7))) w := by first | exact err_eq _ w | exact err_ne hs ha (by decide) (by decide) (by decide) (by decide) (by decide)
    unfold failV at q2 f1 f2 f3 f4 f5 f6 f7 e1 e2 e3 e4 e5 e6 e7
    simp only [failG] at f1 f2 f3 f4 f5 f6 f7
    simp only [Nat.reduceEqDiff, decide_true, decide_false] at e1 e2 e3 e4 e5 e6 e7
    have hta := run_asserted (.pointer (some ⟨q, 0, none⟩)) w
    clear hq hF hF6 hs ha
    go_enter Tryz.func48, Tryz.ntmps48
    go_wp2_with fail
    go_ret
    exact ⟨rfl, rfl⟩
  · have q0 : w.cell? ⟨q, 0, none⟩ = some (.string op) := hq.cell 0
    have q1 : w.cell? ⟨q, 1, none⟩ = some (.string s) := hq.cell 1
    have q2 : w.cell? ⟨q, 2, none⟩ = some (failV a 5) := hq.cell 2
    have f1 : _ = some (failV a 1) := (hF 1 (by decide)).2
    have f2 : _ = some (failV a 2) := (hF 2 (by decide)).2
    have f3 : _ = some (failV a 3) := (hF 3 (by decide)).2
    have f4 : _ = some (failV a 4) := (hF 4 (by decide)).2
    have f5 : _ = some (failV a 5) := (hF 5 (by decide)).2
    have f6 : _ = some (failV a 6) := hF6.2
    have f7 : _ = some (failV a 7) := (hF 7 (by decide)).2
    have e1 : (binOp .eql 28 (failV a 5) (failV a 1)).run Tryz.prog w = .ok (.bool (decide (5 = 1))) w := by first | exact err_eq _ w | exact err_ne hs ha (by decide) (by decide) (by decide) (by decide) (by decide)
    have e2 : (binOp .eql 28 (failV a 5) (failV a 2)).run Tryz.prog w = .ok (.bool (decide (5 = 2))) w := by first | exact err_eq _ w | exact err_ne hs ha (by decide) (by decide) (by decide) (by decide) (by decide)
    have e3 : (binOp .eql 28 (failV a 5) (failV a 3)).run Tryz.prog w = .ok (.bool (decide (5 = 3))) w := by first | exact err_eq _ w | exact err_ne hs ha (by decide) (by decide) (by decide) (by decide) (by decide)
    have e4 : (binOp .eql 28 (failV a 5) (failV a 4)).run Tryz.prog w = .ok (.bool (decide (5 = 4))) w := by first | exact err_eq _ w | exact err_ne hs ha (by decide) (by decide) (by decide) (by decide) (by decide)
    have e5 : (binOp .eql 28 (failV a 5) (failV a 5)).run Tryz.prog w = .ok (.bool (decide (5 = 5))) w := by first | exact err_eq _ w | exact err_ne hs ha (by decide) (by decide) (by decide) (by decide) (by decide)
    have e6 : (binOp .eql 28 (failV a 5) (failV a 6)).run Tryz.prog w = .ok (.bool (decide (5 = 6))) w := by first | exact err_eq _ w | exact err_ne hs ha (by decide) (by decide) (by decide) (by decide) (by decide)
    have e7 : (binOp .eql 28 (failV a 5) (failV a 7)).run Tryz.prog w = .ok (.bool (decide (5 = 7))) w := by first | exact err_eq _ w | exact err_ne hs ha (by decide) (by decide) (by decide) (by decide) (by decide)
    unfold failV at q2 f1 f2 f3 f4 f5 f6 f7 e1 e2 e3 e4 e5 e6 e7
    simp only [failG] at f1 f2 f3 f4 f5 f6 f7
    simp only [Nat.reduceEqDiff, decide_true, decide_false] at e1 e2 e3 e4 e5 e6 e7
    have hta := run_asserted (.pointer (some ⟨q, 0, none⟩)) w
    clear hq hF hF6 hs ha
    go_enter Tryz.func48, Tryz.ntmps48
    go_wp2_with fail
    go_ret
    exact ⟨rfl, rfl⟩
  · have q0 : w.cell? ⟨q, 0, none⟩ = some (.string op) := hq.cell 0
    have q1 : w.cell? ⟨q, 1, none⟩ = some (.string s) := hq.cell 1
    have q2 : w.cell? ⟨q, 2, none⟩ = some (failV a 6) := hq.cell 2
    have f1 : _ = some (failV a 1) := (hF 1 (by decide)).2
    have f2 : _ = some (failV a 2) := (hF 2 (by decide)).2
    have f3 : _ = some (failV a 3) := (hF 3 (by decide)).2
    have f4 : _ = some (failV a 4) := (hF 4 (by decide)).2
    have f5 : _ = some (failV a 5) := (hF 5 (by decide)).2
    have f6 : _ = some (failV a 6) := hF6.2
    have f7 : _ = some (failV a 7) := (hF 7 (by decide)).2
    have e1 : (binOp .eql 28 (failV a 6) (failV a 1)).run Tryz.prog w = .ok (.bool (decide (6 = 1))) w := by first | exact err_eq _ w | exact err_ne hs ha (by decide) (by decide) (by decide) (by decide) (by decide)
    have e2 : (binOp .eql 28 (failV a 6) (failV a 2)).run Tryz.prog w = .ok (.bool (decide (6 = 2))) w := by first | exact err_eq _ w | exact err_ne hs ha (by decide) (by decide) (by decide) (by decide) (by decide)
    have e3 : (binOp .eql 28 (failV a 6) (failV a 3)).run Tryz.prog w = .ok (.bool (decide (6 = 3))) w := by first | exact err_eq _ w | exact err_ne hs ha (by decide) (by decide) (by decide) (by decide) (by decide)
    have e4 : (binOp .eql 28 (failV a 6) (failV a 4)).run Tryz.prog w = .ok (.bool (decide (6 = 4))) w := by first | exact err_eq _ w | exact err_ne hs ha (by decide) (by decide) (by decide) (by decide) (by decide)
    have e5 : (binOp .eql 28 (failV a 6) (failV a 5)).run Tryz.prog w = .ok (.bool (decide (6 = 5))) w := by first | exact err_eq _ w | exact err_ne hs ha (by decide) (by decide) (by decide) (by decide) (by decide)
    have e6 : (binOp .eql 28 (failV a 6) (failV a 6)).run Tryz.prog w = .ok (.bool (decide (6 = 6))) w := by first | exact err_eq _ w | exact err_ne hs ha (by decide) (by decide) (by decide) (by decide) (by decide)
    have e7 : (binOp .eql 28 (failV a 6) (failV a 7)).run Tryz.prog w = .ok (.bool (decide (6 = 7))) w := by first | exact err_eq _ w | exact err_ne hs ha (by decide) (by decide) (by decide) (by decide) (by decide)
    unfold failV at q2 f1 f2 f3 f4 f5 f6 f7 e1 e2 e3 e4 e5 e6 e7
    simp only [failG] at f1 f2 f3 f4 f5 f6 f7
    simp only [Nat.reduceEqDiff, decide_true, decide_false] at e1 e2 e3 e4 e5 e6 e7
    have hta := run_asserted (.pointer (some ⟨q, 0, none⟩)) w
    clear hq hF hF6 hs ha
    go_enter Tryz.func48, Tryz.ntmps48
    go_wp2_with fail
    go_ret
    exact ⟨rfl, rfl⟩
  · have q0 : w.cell? ⟨q, 0, none⟩ = some (.string op) := hq.cell 0
    have q1 : w.cell? ⟨q, 1, none⟩ = some (.string s) := hq.cell 1
    have q2 : w.cell? ⟨q, 2, none⟩ = some (failV a 7) := hq.cell 2
    have f1 : _ = some (failV a 1) := (hF 1 (by decide)).2
    have f2 : _ = some (failV a 2) := (hF 2 (by decide)).2
    have f3 : _ = some (failV a 3) := (hF 3 (by decide)).2
    have f4 : _ = some (failV a 4) := (hF 4 (by decide)).2
    have f5 : _ = some (failV a 5) := (hF 5 (by decide)).2
    have f6 : _ = some (failV a 6) := hF6.2
    have f7 : _ = some (failV a 7) := (hF 7 (by decide)).2
    have e1 : (binOp .eql 28 (failV a 7) (failV a 1)).run Tryz.prog w = .ok (.bool (decide (7 = 1))) w := by first | exact err_eq _ w | exact err_ne hs ha (by decide) (by decide) (by decide) (by decide) (by decide)
    have e2 : (binOp .eql 28 (failV a 7) (failV a 2)).run Tryz.prog w = .ok (.bool (decide (7 = 2))) w := by first | exact err_eq _ w | exact err_ne hs ha (by decide) (by decide) (by decide) (by decide) (by decide)
    have e3 : (binOp .eql 28 (failV a 7) (failV a 3)).run Tryz.prog w = .ok (.bool (decide (7 = 3))) w := by first | exact err_eq _ w | exact err_ne hs ha (by decide) (by decide) (by decide) (by decide) (by decide)
    have e4 : (binOp .eql 28 (failV a 7) (failV a 4)).run Tryz.prog w = .ok (.bool (decide (7 = 4))) w := by first | exact err_eq _ w | exact err_ne hs ha (by decide) (by decide) (by decide) (by decide) (by decide)
    have e5 : (binOp .eql 28 (failV a 7) (failV a 5)).run Tryz.prog w = .ok (.bool (decide (7 = 5))) w := by first | exact err_eq _ w | exact err_ne hs ha (by decide) (by decide) (by decide) (by decide) (by decide)
    have e6 : (binOp .eql 28 (failV a 7) (failV a 6)).run Tryz.prog w = .ok (.bool (decide (7 = 6))) w := by first | exact err_eq _ w | exact err_ne hs ha (by decide) (by decide) (by decide) (by decide) (by decide)
    have e7 : (binOp .eql 28 (failV a 7) (failV a 7)).run Tryz.prog w = .ok (.bool (decide (7 = 7))) w := by first | exact err_eq _ w | exact err_ne hs ha (by decide) (by decide) (by decide) (by decide) (by decide)
    unfold failV at q2 f1 f2 f3 f4 f5 f6 f7 e1 e2 e3 e4 e5 e6 e7
    simp only [failG] at f1 f2 f3 f4 f5 f6 f7
    simp only [Nat.reduceEqDiff, decide_true, decide_false] at e1 e2 e3 e4 e5 e6 e7
    have hta := run_asserted (.pointer (some ⟨q, 0, none⟩)) w
    clear hq hF hF6 hs ha
    go_enter Tryz.func48, Tryz.ntmps48
    go_wp2_with fail
    go_ret
    exact ⟨rfl, rfl⟩
theorem code_calls (op s : ByteArray) (k : Nat) (v : Value) (w : World) (hv : ErrV a w op s k v) (hk : k ≤ 7) (hF : Fails B0 a w) (hF6 : Fail6 B0 a w) (hs : Sents B0 a w) (ha : Apart a) :
    Calls Tryz.prog 48 #[v, .string op, .string s] w fun e w' => e = .returned (.int .i64 (k : Int)) ∧ w = w' := by
  cases k with
  | zero =>
    obtain rfl : v = .nilIface := hv
    exact code_nil op s w
  | succ k =>
    obtain ⟨q, rfl, hq⟩ := hv
    exact code_some op s q (k + 1) w (by omega) hk hq hF hF6 hs ha
end
end Go.Proofs.YtdaidbnbfjgjeaaGreatDoor
