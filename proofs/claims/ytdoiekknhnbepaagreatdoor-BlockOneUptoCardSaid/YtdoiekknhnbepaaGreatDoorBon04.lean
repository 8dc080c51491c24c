/- Merged (what the claim wants of): AggWalksA, AggWalksB, AggWalksC, PostWalksB, BlkFitA, BlkTurnW. -/
import Derived.Test.YtdoiekknhnbepaaGreatDoorBon03
import Derived.Test.YtdoiekknhnbepaaGreatDoorBon01
import Derived.Laws.Bits64
import Derived.Maps.AppendAt
import Derived.Deep.Onto
set_option linter.unusedVariables false
set_option linter.unusedSimpArgs false
set_option maxRecDepth 100000
set_option maxHeartbeats 8000000
namespace Go.Proofs.YtdoiekknhnbepaaGreatDoor
section
open Go.RowKit
attribute [local go_sem ↓] Go.wp_at_zero Go.wp_at_succ
attribute [local go_sem] Later.cell
def wndV (w : Wnd) : Value := .agg #[.int .i64 w.start, .int .i64 w.count, .int .u64 (w.sum : Int), .int .u64 (w.min : Int), .int .u64 (w.max : Int), .int .u64 (w.last : Int)]
def Kcx (w a : Wnd) (first : Bool) : Nat :=
 if w.start < 0 ∨ 1125899906842624 < w.start then 91 else if first = false ∧ w.start ≤ a.start then 90 else if w.count < 1 ∨ 4611686018427387904 < w.count then 110 else 0
theorem Kgi (w a : Wnd) (first : Bool) : Kcx w a first = 0 ↔ Kcw w a first = 0 := by
 unfold Kcx Kcw
 split
 ·simp
 ·split
  ·simp
  ·split <;> simp
theorem Kjq (x a : Wnd) (first : Bool) (w : World) :
  Calls Tryz.prog 155 #[wndV x, wndV a, .bool first] w fun e w' => e = .returned (.int .i64 (Kcx x a first : Nat)) ∧ Below w.heap.size w w' := by
 obtain ⟨r, hr⟩ : ∃ r, Kcx x a first = r := ⟨_, rfl⟩
 rw [hr]; unfold Kcx at hr
 have hb : Below w.heap.size w ((w.alloc (.cells #[.int .i64 x.start, .int .i64 x.count, .int .u64 (x.sum : Int), .int .u64 (x.min : Int), .int .u64 (x.max : Int), .int .u64 (x.last : Int)] 135)).alloc (.cells #[.int .i64 a.start, .int .i64 a.count, .int .u64 (a.sum : Int), .int .u64 (a.min : Int), .int .u64 (a.max : Int), .int .u64 (a.last : Int)] 135)) :=
  ((Below.refl _ _).alloc (Nat.le_refl _) _).alloc (by simp) _
 have HB := Lib.hid hb; unfold wndV
 by_cases b1 : x.start < 0
 ·rw [if_pos (.inl b1)] at hr; subst hr; have d1 : decide (x.start < 0) = true := decide_eq_true b1; go_enter Tryz.func155, Tryz.ntmps155
  go_wp2_with fail
  go_ret
  exact ⟨rfl, HB.out⟩
 have d1 : decide (x.start < 0) = false := decide_eq_false b1
 by_cases b2 : 1125899906842624 < x.start
 ·rw [if_pos (.inr b2)] at hr; subst hr; have d2 : decide (1125899906842624 < x.start) = true := decide_eq_true b2; go_enter Tryz.func155, Tryz.ntmps155
  go_wp2_with fail
  go_ret
  exact ⟨rfl, HB.out⟩
 have d2 : decide (1125899906842624 < x.start) = false := decide_eq_false b2; rw [if_neg (by omega)] at hr
 by_cases b3 : first = false ∧ x.start ≤ a.start
 ·obtain ⟨rfl, b3⟩ := b3; rw [if_pos ⟨rfl, b3⟩] at hr; subst hr; have d3 : decide (x.start ≤ a.start) = true := decide_eq_true b3; go_enter Tryz.func155, Tryz.ntmps155
  go_wp2_with fail
  go_ret
  exact ⟨rfl, HB.out⟩
 rw [if_neg b3] at hr; have HF : Hid (first = true ∨ (first = false ∧ ¬ x.start ≤ a.start)) := Lib.hid (by cases first <;> simp_all); clear b3
 by_cases b4 : x.count < 1
 ·rw [if_pos (.inl b4)] at hr; subst hr; have d4 : decide (x.count < 1) = true := decide_eq_true b4; rcases HF.out with rfl | ⟨rfl, b3⟩
  ·go_enter Tryz.func155, Tryz.ntmps155
   go_wp2_with fail
   go_ret
   exact ⟨rfl, HB.out⟩
  ·have d3 : decide (x.start ≤ a.start) = false := decide_eq_false b3; go_enter Tryz.func155, Tryz.ntmps155
   go_wp2_with fail
   go_ret
   exact ⟨rfl, HB.out⟩
 have d4 : decide (x.count < 1) = false := decide_eq_false b4
 by_cases b5 : 4611686018427387904 < x.count
 ·rw [if_pos (.inr b5)] at hr; subst hr; have d5 : decide (4611686018427387904 < x.count) = true := decide_eq_true b5; rcases HF.out with rfl | ⟨rfl, b3⟩
  ·go_enter Tryz.func155, Tryz.ntmps155
   go_wp2_with fail
   go_ret
   exact ⟨rfl, HB.out⟩
  ·have d3 : decide (x.start ≤ a.start) = false := decide_eq_false b3; go_enter Tryz.func155, Tryz.ntmps155
   go_wp2_with fail
   go_ret
   exact ⟨rfl, HB.out⟩
 have d5 : decide (4611686018427387904 < x.count) = false := decide_eq_false b5; rw [if_neg (by omega)] at hr; subst hr; rcases HF.out with rfl | ⟨rfl, b3⟩
 ·go_enter Tryz.func155, Tryz.ntmps155
  go_wp2_with fail
  go_ret
  exact ⟨rfl, HB.out⟩
 ·have d3 : decide (x.start ≤ a.start) = false := decide_eq_false b3; go_enter Tryz.func155, Tryz.ntmps155
  go_wp2_with fail
  go_ret
  exact ⟨rfl, HB.out⟩
def fldsV (q : Nat) : Value := .agg #[.pointer (some ⟨q, 2, none⟩), .pointer (some ⟨q, 3, none⟩), .pointer (some ⟨q, 4, none⟩), .pointer (some ⟨q, 5, none⟩)]
theorem Khb (q : Nat) (w : World) : Calls Tryz.prog 154 #[.pointer (some ⟨q, 0, none⟩)] w fun e w' => e = .returned (fldsV q) ∧ Below w.heap.size w w' := by
 go_enter Tryz.func154, Tryz.ntmps154
 go_upto_region 1 with fail
 have hb : Below w.heap.size w (w.alloc (.cells #[.pointer none, .pointer none, .pointer none, .pointer none] 246)) := (Below.refl _ _).alloc (Nat.le_refl _) _; have hq : Blk (w.alloc (.cells #[.pointer none, .pointer none, .pointer none, .pointer none] 246)) w.heap.size 246 #[.pointer none, .pointer none, .pointer none, .pointer none] := Blk.new _ _ _; obtain ⟨w1, hw1⟩ : ∃ w1, w.alloc (.cells #[.pointer none, .pointer none, .pointer none, .pointer none] 246) = w1 := ⟨_, rfl⟩; obtain ⟨p, hp⟩ : ∃ p, w.heap.size = p := ⟨_, rfl⟩; rw [hw1, hp] at hb hq; rw [hw1]; rw [hp]; clear hw1; refine Kah 13 (by kernel_rfl) (by kernel_rfl) ?_; simp only [List.take_succ_cons, List.take_zero, List.drop_succ_cons, List.drop_zero]
 repeat (go_big_quiet_step (fail))
 refine wpQuiet_nil ?_; rintro w2 ⟨⟨_, hb2⟩, rfl⟩; have hq2 := hq.below hb2 hq.lt; have p0 : w2.cell? ⟨p, 0, none⟩ = some (.pointer none) := hq2.cell 0; have p1 : w2.cell? ⟨p, 1, none⟩ = some (.pointer none) := hq2.cell 1; have p2 : w2.cell? ⟨p, 2, none⟩ = some (.pointer none) := hq2.cell 2; have p3 : w2.cell? ⟨p, 3, none⟩ = some (.pointer none) := hq2.cell 3; have z := hq2.frozen; have z0 := z 0; have z1 := z 1; have z2 := z 2; have z3 := z 3; clear z; go_wp2_with fail
 have hq3 := (((hq2.set_ 0 (.pointer (some ⟨q, 2, none⟩))).set_ 1 (.pointer (some ⟨q, 3, none⟩))).set_ 2 (.pointer (some ⟨q, 4, none⟩))).set_ 3 (.pointer (some ⟨q, 5, none⟩)); have hb3 := ((((hb.trans (hb2.mono (by have := hb.size; omega))).setCell (p := ⟨p, 0, none⟩) (Nat.le_refl _) (.pointer (some ⟨q, 2, none⟩))).setCell (p := ⟨p, 1, none⟩) (Nat.le_refl _) (.pointer (some ⟨q, 3, none⟩))).setCell (p := ⟨p, 2, none⟩) (Nat.le_refl _) (.pointer (some ⟨q, 4, none⟩))).setCell (p := ⟨p, 3, none⟩) (Nat.le_refl _) (.pointer (some ⟨q, 5, none⟩)); refine bodyPost_ret (Kdg rfl _ _ ⟨p, 0, none⟩ _ rfl (run_loadVar_row _ p 246 246 _ (0, 0) _ hq3 Tryz.underlying246 rfl (by kernel_rfl))) rfl ?_; exact ⟨rfl, by rw [hp]; exact hb3⟩
end
section
open Go.RowKit
open Lib renaming hid → Jh
open List renaming length_append → Jd
attribute [local go_sem ↓] Go.wp_at_zero Go.wp_at_succ
attribute [local go_sem] Later.cell
def aggE : Wnd → Bool → List Wnd → Nat
 | _, _, [] => 0
 | a, first, w :: l => if Kcx w a first ≠ 0 then Kcx w a first else aggE w false l
theorem Kkm : ∀ (l : List Wnd) (a : Wnd) (first : Bool), aggE a first l = 0 ↔ Kbx a first l = true
 | [], _, _ => by simp [aggE, Kbx]
 | w :: l, a, first => by
  have ih := Kkm l w false; have h := Kgi w a first
  rw [aggE, Kbx, Bool.and_eq_true, decide_eq_true_eq, ← h, ← ih]
  by_cases h0 : Kcx w a first = 0
  ·rw [if_neg (by simp [h0])]; simp [h0]
  ·rw [if_pos h0]; simp [h0]
def aggO (l : List Wnd) : List UInt8 × Nat := if aggE wnd0 true l = 0 then (aggT l, 0) else ([], aggE wnd0 true l)
def fldsT (a x : Wnd) (k : Nat) : List UInt8 := ([uintT (x.sum ^^^ a.sum), uintT (x.min ^^^ a.min), uintT (x.max ^^^ a.max), uintT (x.last ^^^ a.last)].take k).flatten
theorem Knq (a x : Wnd) : fldsT a x 1 = fldsT a x 0 ++ uintT (x.sum ^^^ a.sum) := by simp [fldsT]
theorem Knu (a x : Wnd) : fldsT a x 2 = fldsT a x 1 ++ uintT (x.min ^^^ a.min) := by simp [fldsT]
theorem Kor (a x : Wnd) : fldsT a x 3 = fldsT a x 2 ++ uintT (x.max ^^^ a.max) := by simp [fldsT]
theorem Koc (a x : Wnd) : fldsT a x 4 = fldsT a x 3 ++ uintT (x.last ^^^ a.last) := by simp [fldsT]
theorem Qbm (a x : Wnd) : wndT a x = uintT (x.start - a.start).toNat ++ (uintT x.count.toNat ++ fldsT a x 4) := by simp [wndT, fldsT]
theorem Bld.set {B b p i : Nat} {l : List UInt8} {T : TypeId} {cs : Array Value} {w : World} (h : Bld B b l w) (hp : Blk w p T cs) (hT : T ≠ 5) (hpb : b ≠ p) (u : Value) : Bld B b l (w.setCell ⟨p, i, none⟩ u) := by
 have key : ∀ x, Lib.BuilderAtF 109 5 B b x (Lib.byteCells l) w → Lib.BuilderAtF 109 5 B b x (Lib.byteCells l) (w.setCell ⟨p, i, none⟩ u) := by
  rintro x ⟨h1, v, h2, h3, h4⟩
  have hne : v.ownBlock ≠ some p := by
   intro e; rcases h3.2 with ⟨rfl, _⟩ | ⟨g, cap, cur, fz, rfl, _, hg, _⟩
   ·cases e
   ·injection e with e; have e : g = p := e; subst e; unfold Blk at hp; rw [hg] at hp; injection hp with hp; injection hp with _ hp; exact hT hp.symm
  exact ⟨h1, v, Blk.far h2 (p := ⟨p, i, none⟩) hpb u, h3.kept (row := some p) ⟨rfl, rfl, rfl, by simp [World.setCell], fun k _ hk => Below.heap_setCell _ _ _ _ (fun e => hk (by rw [e]))⟩ (.inr hne), h4⟩
 rcases h with h | h
 ·exact .inl (key _ h)
 ·exact .inr (key _ h)
theorem Kpn : 0 ≤ wnd0.start ∧ wnd0.start ≤ 1125899906842624 ∧ Kaz wnd0 := ⟨by decide, by decide, by decide, by decide, by decide, by decide⟩
def lastW : Wnd → List Wnd → Wnd
 | a, [] => a
 | _, w :: l => lastW w l
theorem Kne : ∀ (l : List Wnd) (a x : Wnd), lastW a (l ++ [x]) = x
 | [], _, _ => rfl
 | _ :: l, _, x => Kne l _ x
theorem Kot : ∀ (l : List Wnd) (a x : Wnd), wndsT a (l ++ [x]) = wndsT a l ++ wndT (lastW a l) x
 | [], a, x => by simp [wndsT, lastW]
 | w :: l, a, x => by rw [List.cons_append, wndsT, wndsT, Kot l, lastW, List.append_assoc]
theorem Kjo (l : List Wnd) (A : Option Addr) (n cap : Nat) (w : World) (hE : Elems w w.heap.size 6 Kau A n l) (hn : n ≤ 1099511627776) (hv : ∀ x ∈ l, Kaz x) :
  Calls Tryz.prog 118 #[.slice A n cap] w fun e w' => e = .returned (.tuple #[.string ⟨(aggO l).1.toArray⟩, .int .i64 ((aggO l).2 : Nat)]) ∧ Below w.heap.size w w' := by
 have hlen := hE.len; have HE := Jh hE; have HV := Jh hv; have HLEN := Jh hlen; obtain ⟨E, hEE⟩ : ∃ E, aggE wnd0 true l = E := ⟨_, rfl⟩; have HEE := Jh hEE; have HUN := Jh (fun w => Kax n (by omega) w); have h0 : Bld w.heap.size w.heap.size [] (w.alloc (.cells #[.pointer none, .slice none 0 0] 109)) := Bld.new w (Nat.le_refl _); have hb0 : Below w.heap.size w (w.alloc (.cells #[.pointer none, .slice none 0 0] 109)) := (Below.refl _ _).alloc (Nat.le_refl _) _; have hs0 : (w.alloc (.cells #[.pointer none, .slice none 0 0] 109)).heap.size = w.heap.size + 1 := by simp
 clear hE hv hEE hlen; go_enter Tryz.func118, Tryz.ntmps118
 go_upto_region 2 with fail
 obtain ⟨w1, hw1⟩ : ∃ w1, w.alloc (.cells #[.pointer none, .slice none 0 0] 109) = w1 := ⟨_, rfl⟩; rw [hw1] at h0 hb0 hs0; rw [hw1]; obtain ⟨b, hb⟩ : ∃ b, w.heap.size = b := ⟨_, rfl⟩; rw [hb] at h0 hb0 hs0 HE ⊢; have HB := Jh hb; have HL1 := Jh h0; have HB1 := Jh hb0; clear hw1 h0 hb0 hb; go_wp2_with fail
 refine (HUN.out w1).mono ?_; rintro _ w2 ⟨rfl, hb2⟩; have HL2 := Jh (HL1.out.below hb2); have HB2 := Jh (HB1.out.trans (hb2.mono (by omega))); have hB2 : b ≤ w2.heap.size := by have := hb2.size; omega
 go_wp2_with fail
 refine (Kbb b b [] ⟨(uintT n).toArray⟩ w2 HL2.out (by show 0 + (uintT n).toArray.size ≤ _; have := (Kab n).2; simp only [List.size_toArray]; omega) hB2).mono ?_; rintro _ w3 ⟨rfl, h5, h6, _⟩; have h5 : Bld b b (uintT n) w3 := h5; have hB3 : b ≤ w3.heap.size := Nat.le_trans hB2 h6.size; have hbl := h5.lt; have hc : Below w3.heap.size w3 (w3.alloc (.cells #[.int .i64 wnd0.start, .int .i64 wnd0.count, .int .u64 (wnd0.sum : Int), .int .u64 (wnd0.min : Int), .int .u64 (wnd0.max : Int), .int .u64 (wnd0.last : Int)] 135)) := (Below.refl _ _).alloc (Nat.le_refl _) _; have ha : Blk (w3.alloc (.cells #[.int .i64 wnd0.start, .int .i64 wnd0.count, .int .u64 (wnd0.sum : Int), .int .u64 (wnd0.min : Int), .int .u64 (wnd0.max : Int), .int .u64 (wnd0.last : Int)] 135)) w3.heap.size 135 #[.int .i64 wnd0.start, .int .i64 wnd0.count, .int .u64 (wnd0.sum : Int), .int .u64 (wnd0.min : Int), .int .u64 (wnd0.max : Int), .int .u64 (wnd0.last : Int)] := Blk.new _ _ _; obtain ⟨w4, hw4⟩ : ∃ w4, w3.alloc (.cells #[.int .i64 wnd0.start, .int .i64 wnd0.count, .int .u64 (wnd0.sum : Int), .int .u64 (wnd0.min : Int), .int .u64 (wnd0.max : Int), .int .u64 (wnd0.last : Int)] 135) = w4 := ⟨_, rfl⟩; have hw4' : w3.alloc (.cells #[.int .i64 0, .int .i64 0, .int .u64 0, .int .u64 0, .int .u64 0, .int .u64 0] 135) = w4 := hw4; obtain ⟨ba, hba⟩ : ∃ ba, w3.heap.size = ba := ⟨_, rfl⟩; rw [hw4] at hc ha; rw [hba] at ha; have hbb : b < ba := by omega
 have HL4 := Jh (h5.below hc); have HB4 := Jh ((HB2.out.trans h6).trans (hc.mono hB3)); have HA4 := Jh ha; have HBA := Jh hba; clear h5 h6 hb2 hc ha hw4 hbl; go_upto_region 4 with fail
 try rw [hw4']
 try rw [hba]
 clear hw4' hba; go_wp2_with fail
 go_loopg [19] n (fun g s19 wr => ∃ i : Nat, i + g = n ∧ s19 = .int .i64 (i : Int) ∧ aggE (lastW wnd0 (l.take i)) (decide (i = 0)) (l.drop i) = E ∧ Bld b b (uintT n ++ wndsT wnd0 (l.take i)) wr ∧ Below b w wr ∧ Blk wr ba 135 #[.int .i64 (lastW wnd0 (l.take i)).start, .int .i64 (lastW wnd0 (l.take i)).count, .int .u64 ((lastW wnd0 (l.take i)).sum : Int), .int .u64 ((lastW wnd0 (l.take i)).min : Int), .int .u64 ((lastW wnd0 (l.take i)).max : Int), .int .u64 ((lastW wnd0 (l.take i)).last : Int)] ∧ (0 ≤ (lastW wnd0 (l.take i)).start ∧ (lastW wnd0 (l.take i)).start ≤ 1125899906842624 ∧ Kaz (lastW wnd0 (l.take i))) ∧ (uintT n ++ wndsT wnd0 (l.take i)).length ≤ 11 + 66 * i)
 case atStart => exact ⟨0, by omega, rfl, HEE.out, by simpa [wndsT] using HL4.out, HB4.out, HA4.out, Kpn, by have := (Kab n).2; simp [wndsT]; omega⟩
 case round =>
  obtain ⟨i, hi, rfl, he, hld, hbr, hab, hst, hle⟩ := hrel; have HI := Jh hi; have HEI := Jh he; have HL := Jh hld; have HR := Jh hbr; have HAB := Jh hab; have HST := Jh hst; have HLE := Jh hle; have hBr : b ≤ wr.heap.size := Nat.le_trans (by rw [HB.out]; exact Nat.le_refl _) hbr.size; clear he hld hbr hab hst hle
  by_cases hin : i < n
  ·have hil : i < l.length := by have := HLEN.out; omega
   obtain ⟨bk, off, rfl, hbk, hcell⟩ := HE.out.2 (by omega); have hx : ∀ j v, (Kau l[i])[j]? = some v → wr.cell? ⟨bk, off + i * 6 + j, none⟩ = some v := fun j v hv => (HR.out.cell (p := ⟨bk, off + i * 6 + j, none⟩) hbk).trans (hcell i l[i] (List.getElem?_eq_getElem hil) j v hv)
   have hvi := HV.out l[i] (List.getElem_mem hil); have hdr : l.drop i = l[i] :: l.drop (i + 1) := List.drop_eq_getElem_cons hil; have htk : l.take (i + 1) = l.take i ++ [l[i]] := List.take_succ_eq_append_getElem hil; obtain ⟨x, hxx⟩ : ∃ x, l[i] = x := ⟨_, rfl⟩; rw [hxx] at hx hvi hdr htk; have m0 : wr.cell? ⟨bk, off + i * 6, none⟩ = some (.int .i64 x.start) := hx 0 _ rfl; have m1 : wr.cell? ⟨bk, off + i * 6 + 1, none⟩ = some (.int .i64 x.count) := hx 1 _ rfl; have m2 : wr.cell? ⟨bk, off + i * 6 + 2, none⟩ = some (.int .u64 (x.sum : Int)) := hx 2 _ rfl; have m3 : wr.cell? ⟨bk, off + i * 6 + 3, none⟩ = some (.int .u64 (x.min : Int)) := hx 3 _ rfl; have m4 : wr.cell? ⟨bk, off + i * 6 + 4, none⟩ = some (.int .u64 (x.max : Int)) := hx 4 _ rfl; have m5 : wr.cell? ⟨bk, off + i * 6 + 5, none⟩ = some (.int .u64 (x.last : Int)) := hx 5 _ rfl; have HDR := Jh hdr; have HTK := Jh htk; have HBX := Jh hvi; obtain ⟨a, haa⟩ : ∃ a, lastW wnd0 (l.take i) = a := ⟨_, rfl⟩; rw [haa] at HEI HAB HST; have HAA := Jh haa; obtain ⟨L, hL⟩ : ∃ L, uintT n ++ wndsT wnd0 (l.take i) = L := ⟨_, rfl⟩; rw [hL] at HL HLE; have HLL := Jh hL; have HBA2 : Hid (Kaz a) := Jh HST.out.2.2; have el2 : (i : Int) < (n : Int) := by omega
   clear hi hdr htk hxx haa hL hcell hx hvi; have hc5 : Below wr.heap.size wr (wr.alloc (.cells #[.int .i64 x.start, .int .i64 x.count, .int .u64 (x.sum : Int), .int .u64 (x.min : Int), .int .u64 (x.max : Int), .int .u64 (x.last : Int)] 135)) := (Below.refl _ _).alloc (Nat.le_refl _) _; have hq5 : Blk (wr.alloc (.cells #[.int .i64 x.start, .int .i64 x.count, .int .u64 (x.sum : Int), .int .u64 (x.min : Int), .int .u64 (x.max : Int), .int .u64 (x.last : Int)] 135)) wr.heap.size 135 #[.int .i64 x.start, .int .i64 x.count, .int .u64 (x.sum : Int), .int .u64 (x.min : Int), .int .u64 (x.max : Int), .int .u64 (x.last : Int)] := Blk.new _ _ _; go_upto_region 7 with fail
   obtain ⟨w5, hw5⟩ : ∃ w5, wr.alloc (.cells #[.int .i64 x.start, .int .i64 x.count, .int .u64 (x.sum : Int), .int .u64 (x.min : Int), .int .u64 (x.max : Int), .int .u64 (x.last : Int)] 135) = w5 := ⟨_, rfl⟩; obtain ⟨qw, hqw⟩ : ∃ qw, wr.heap.size = qw := ⟨_, rfl⟩; rw [hw5] at hc5 hq5
   try rw [hw5]
   rw [hqw] at hq5
   try rw [hqw]
   have hqb : ba < qw := by have := HAB.out.lt; omega
   have HL5 := Jh (HL.out.below hc5); have HR5 := Jh (HR.out.trans (hc5.mono hBr)); have HA5 := Jh (HAB.out.below hc5 HAB.out.lt); have HX5 := Jh hq5; have hB5 : b ≤ w5.heap.size := Nat.le_trans hBr hc5.size; have x0 : w5.cell? ⟨qw, 0, none⟩ = some (.int .i64 x.start) := hq5.cell 0; have x1 : w5.cell? ⟨qw, 1, none⟩ = some (.int .i64 x.count) := hq5.cell 1; have x2 : w5.cell? ⟨qw, 2, none⟩ = some (.int .u64 (x.sum : Int)) := hq5.cell 2; have x3 : w5.cell? ⟨qw, 3, none⟩ = some (.int .u64 (x.min : Int)) := hq5.cell 3; have x4 : w5.cell? ⟨qw, 4, none⟩ = some (.int .u64 (x.max : Int)) := hq5.cell 4; have x5 : w5.cell? ⟨qw, 5, none⟩ = some (.int .u64 (x.last : Int)) := hq5.cell 5; have a0 : w5.cell? ⟨ba, 0, none⟩ = some (.int .i64 a.start) := HA5.out.cell 0; have a1 : w5.cell? ⟨ba, 1, none⟩ = some (.int .i64 a.count) := HA5.out.cell 1; have a2 : w5.cell? ⟨ba, 2, none⟩ = some (.int .u64 (a.sum : Int)) := HA5.out.cell 2; have a3 : w5.cell? ⟨ba, 3, none⟩ = some (.int .u64 (a.min : Int)) := HA5.out.cell 3; have a4 : w5.cell? ⟨ba, 4, none⟩ = some (.int .u64 (a.max : Int)) := HA5.out.cell 4; have a5 : w5.cell? ⟨ba, 5, none⟩ = some (.int .u64 (a.last : Int)) := HA5.out.cell 5; clear hc5 hq5 hw5 hqw m0 m1 m2 m3 m4 m5; obtain ⟨fst, hfst⟩ : ∃ fst, decide (i = 0) = fst := ⟨_, rfl⟩; have hf2 : ((i : Int) == 0) = fst := by rw [← hfst]; cases i <;> simp <;> omega
   rw [hfst] at HEI; have HFST := Jh hfst; obtain ⟨se, hse⟩ : ∃ se, Kcx x a fst = se := ⟨_, rfl⟩; have HFO := Jh (Kjq x a fst w5); unfold wndV at HFO; rw [hse] at HFO; have HSE := Jh hse; have hei := HEI.out; rw [HDR.out, aggE, hse] at hei; have hse9 : se ≤ 110 := by (rw [← hse]; unfold Kcx; repeat' split); all_goals omega
   clear hse hfst; go_wp2_with fail
   refine HFO.out.mono ?_; rintro _ w6 ⟨rfl, h6⟩; have HL6 := Jh (HL5.out.below h6); have HR6 := Jh (HR5.out.trans (h6.mono hB5)); have HA6 := Jh (HA5.out.below h6 HA5.out.lt); have HX6 := Jh (HX5.out.below h6 HX5.out.lt); have hB6 : b ≤ w6.heap.size := Nat.le_trans hB5 h6.size; clear h6 x0 x1 x2 x3 x4 x5 a0 a1 a2 a3 a4 a5
   by_cases hs0 : se = 0
   ·subst hs0; rw [if_neg (by simp)] at hei; have HEN := Jh hei; clear hei; have hfo := (Kew x a fst).1 ((Kgi x a fst).1 HSE.out); obtain ⟨k1, k2, k3, k4⟩ := hfo.1; have hst0 := HST.out.1
    have hge : a.start ≤ x.start := by
     rcases hfo.2 with hf | hf
     ·have : i = 0 := by
       have := HFST.out; rw [hf] at this; exact of_decide_eq_true this
      have ha := HAA.out; rw [this] at ha; rw [← ha]; exact k1
     ·omega
    obtain ⟨y1, hy1⟩ : ∃ y1, (x.start - a.start).toNat = y1 := ⟨_, rfl⟩; obtain ⟨y2, hy2⟩ : ∃ y2, x.count.toNat = y2 := ⟨_, rfl⟩; have hy1i : x.start - a.start = (y1 : Int) := by omega
    have hy2i : x.count = (y2 : Int) := by omega
    have hw1 : wrap64 (x.start - a.start) = (y1 : Int) := by unfold wrap64; omega
    have hu1 : IntKind.u64.wrap (y1 : Int) = (y1 : Int) := by rw [IntKind.wrap_u64]; omega
    have hu2 : IntKind.u64.wrap (y2 : Int) = (y2 : Int) := by rw [IntKind.wrap_u64]; omega
    have HU1 := Jh (fun w => Kax y1 (by omega) w); have HU2 := Jh (fun w => Kax y2 (by omega) w); have HY1 := Jh hy1; have HY2 := Jh hy2; have x0 : w6.cell? ⟨qw, 0, none⟩ = some (.int .i64 x.start) := HX6.out.cell 0; have a0 : w6.cell? ⟨ba, 0, none⟩ = some (.int .i64 a.start) := HA6.out.cell 0; clear hy1 hy2; go_wp2_with fail
    refine (HU1.out w6).mono ?_; rintro _ w7 ⟨rfl, h7⟩; have HL7 := Jh (HL6.out.below h7); have HR7 := Jh (HR6.out.trans (h7.mono hB6)); have HA7 := Jh (HA6.out.below h7 HA6.out.lt); have HX7 := Jh (HX6.out.below h7 HX6.out.lt); have hB7 : b ≤ w7.heap.size := Nat.le_trans hB6 h7.size; clear h7; clear x0 a0; go_wp2_with fail
    refine (Kbb b b (L) ⟨(uintT y1).toArray⟩ w7 HL7.out (by show _ + (uintT y1).toArray.size ≤ _; have := (Kab y1).2; have := HLE.out; have := HI.out; simp only [List.size_toArray, Jd]; omega) hB7).mono ?_; rintro _ w8 ⟨rfl, h5, h6, h7⟩; have HL8 := Jh h5; have HR8 := Jh (HR7.out.trans h6); have HA8 := Jh (h7.blk HA7.out (by omega) (by decide)); have HX8 := Jh (h7.blk HX7.out (by omega) (by decide)); have hB8 : b ≤ w8.heap.size := Nat.le_trans hB7 h6.size; clear h5 h6 h7; have x1 : w8.cell? ⟨qw, 1, none⟩ = some (.int .i64 (y2 : Int)) := (HX8.out.cell 1).trans (by rw [← hy2i]; rfl); go_wp2_with fail
    refine (HU2.out w8).mono ?_; rintro _ w9 ⟨rfl, h9⟩; have HL9 := Jh (HL8.out.below h9); have HR9 := Jh (HR8.out.trans (h9.mono hB8)); have HA9 := Jh (HA8.out.below h9 HA8.out.lt); have HX9 := Jh (HX8.out.below h9 HX8.out.lt); have hB9 : b ≤ w9.heap.size := Nat.le_trans hB8 h9.size; clear h9; clear x1; go_wp2_with fail
    refine (Kbb b b (L ++ uintT y1) ⟨(uintT y2).toArray⟩ w9 HL9.out (by show _ + (uintT y2).toArray.size ≤ _; have := (Kab y2).2; have := HLE.out; have := HI.out; simp only [List.size_toArray, Jd]; have := (Kab y1).2; omega) hB9).mono ?_; rintro _ w10 ⟨rfl, h5, h6, h7⟩; have HL10 := Jh (show Bld b b (L ++ uintT y1 ++ uintT y2) w10 from h5); have HR10 := Jh (HR9.out.trans h6); have HA10 := Jh (h7.blk HA9.out (by omega) (by decide)); have HX10 := Jh (h7.blk HX9.out (by omega) (by decide)); have hB10 : b ≤ w10.heap.size := Nat.le_trans hB9 h6.size; clear h5 h6 h7; go_wp2_with fail
    refine (Khb ba w10).mono ?_; rintro _ w11 ⟨rfl, h11⟩; have HL11 := Jh (HL10.out.below h11); have HR11 := Jh (HR10.out.trans (h11.mono hB10)); have HA11 := Jh (HA10.out.below h11 HA10.out.lt); have HX11 := Jh (HX10.out.below h11 HX10.out.lt); have hB11 : b ≤ w11.heap.size := Nat.le_trans hB10 h11.size; clear h11; unfold fldsV; have hc12 : Below w11.heap.size w11 (w11.alloc (.cells #[.pointer (some ⟨ba, 2, none⟩), .pointer (some ⟨ba, 3, none⟩), .pointer (some ⟨ba, 4, none⟩), .pointer (some ⟨ba, 5, none⟩)] 246)) := (Below.refl _ _).alloc (Nat.le_refl _) _; have hq12 : Blk (w11.alloc (.cells #[.pointer (some ⟨ba, 2, none⟩), .pointer (some ⟨ba, 3, none⟩), .pointer (some ⟨ba, 4, none⟩), .pointer (some ⟨ba, 5, none⟩)] 246)) w11.heap.size 246 #[.pointer (some ⟨ba, 2, none⟩), .pointer (some ⟨ba, 3, none⟩), .pointer (some ⟨ba, 4, none⟩), .pointer (some ⟨ba, 5, none⟩)] := Blk.new _ _ _; go_upto_region 13 with fail
    obtain ⟨w12, hw12⟩ : ∃ w12, w11.alloc (.cells #[.pointer (some ⟨ba, 2, none⟩), .pointer (some ⟨ba, 3, none⟩), .pointer (some ⟨ba, 4, none⟩), .pointer (some ⟨ba, 5, none⟩)] 246) = w12 := ⟨_, rfl⟩; obtain ⟨qo, hqo⟩ : ∃ qo, w11.heap.size = qo := ⟨_, rfl⟩; rw [hw12] at hc12 hq12
    try rw [hw12]
    rw [hqo] at hq12
    try rw [hqo]
    have hqob : ba < qo := by have := HA11.out.lt; omega
    clear hw12 hqo; have HL12 := Jh (HL11.out.below hc12); have HR12 := Jh (HR11.out.trans (hc12.mono hB11)); have HA12 := Jh (HA11.out.below hc12 HA11.out.lt); have HX12 := Jh (HX11.out.below hc12 HX11.out.lt); have hB12 : b ≤ w12.heap.size := Nat.le_trans hB11 hc12.size; clear hc12; go_wp2_with fail
    refine (Khb qw w12).mono ?_; rintro _ w13 ⟨rfl, h13⟩; have HQO13 := Jh (hq12.below h13 hq12.lt); have HL13 := Jh (HL12.out.below h13); have HR13 := Jh (HR12.out.trans (h13.mono hB12)); have HA13 := Jh (HA12.out.below h13 HA12.out.lt); have HX13 := Jh (HX12.out.below h13 HX12.out.lt); have hB13 : b ≤ w13.heap.size := Nat.le_trans hB12 h13.size; clear h13; unfold fldsV; obtain ⟨L2, hL2⟩ : ∃ L2, L ++ uintT y1 ++ uintT y2 = L2 := ⟨_, rfl⟩; rw [hL2] at HL13
    have hl2 : L2.length ≤ 11 + 66 * i + 22 := by
     rw [← hL2, Jd, Jd]; have := HLE.out; have := (Kab y1).2; have := (Kab y2).2; omega
    have HL2E := Jh hL2; clear hL2 hq12; have ipt0 : ∀ w : World, (Instr.index 246 (.agg #[.pointer (some ⟨qw, 2, none⟩), .pointer (some ⟨qw, 3, none⟩), .pointer (some ⟨qw, 4, none⟩), .pointer (some ⟨qw, 5, none⟩)]) (.int .i64 0)).run Tryz.prog w = .ok (.pointer (some ⟨qw, 2, none⟩)) w := fun w => by kernel_rfl
    have ipt1 : ∀ w : World, (Instr.index 246 (.agg #[.pointer (some ⟨qw, 2, none⟩), .pointer (some ⟨qw, 3, none⟩), .pointer (some ⟨qw, 4, none⟩), .pointer (some ⟨qw, 5, none⟩)]) (.int .i64 1)).run Tryz.prog w = .ok (.pointer (some ⟨qw, 3, none⟩)) w := fun w => by kernel_rfl
    have ipt2 : ∀ w : World, (Instr.index 246 (.agg #[.pointer (some ⟨qw, 2, none⟩), .pointer (some ⟨qw, 3, none⟩), .pointer (some ⟨qw, 4, none⟩), .pointer (some ⟨qw, 5, none⟩)]) (.int .i64 2)).run Tryz.prog w = .ok (.pointer (some ⟨qw, 4, none⟩)) w := fun w => by kernel_rfl
    have ipt3 : ∀ w : World, (Instr.index 246 (.agg #[.pointer (some ⟨qw, 2, none⟩), .pointer (some ⟨qw, 3, none⟩), .pointer (some ⟨qw, 4, none⟩), .pointer (some ⟨qw, 5, none⟩)]) (.int .i64 3)).run Tryz.prog w = .ok (.pointer (some ⟨qw, 5, none⟩)) w := fun w => by kernel_rfl
    go_upto_block 2 with fail
    go_cut [] (fun wx => Bld b b (L2 ++ fldsT a x 4) wx ∧ Below b w wx ∧ Blk wx ba 135 #[.int .i64 a.start, .int .i64 a.count, .int .u64 (a.sum : Int), .int .u64 (a.min : Int), .int .u64 (a.max : Int), .int .u64 (a.last : Int)] ∧ Blk wx qw 135 #[.int .i64 x.start, .int .i64 x.count, .int .u64 (x.sum : Int), .int .u64 (x.min : Int), .int .u64 (x.max : Int), .int .u64 (x.last : Int)])
    case first =>
     go_wp2_with fail
     go_loopg [47] 4 (fun g s47 wr2 => ∃ k : Nat, k + g = 4 ∧ s47 = .int .i64 (k : Int) ∧ k ≤ 4 ∧ Bld b b (L2 ++ fldsT a x k) wr2 ∧ (L2 ++ fldsT a x k).length ≤ 11 + 66 * i + 22 + 11 * k ∧ Below b w wr2 ∧ Blk wr2 ba 135 #[.int .i64 a.start, .int .i64 a.count, .int .u64 (a.sum : Int), .int .u64 (a.min : Int), .int .u64 (a.max : Int), .int .u64 (a.last : Int)] ∧ Blk wr2 qw 135 #[.int .i64 x.start, .int .i64 x.count, .int .u64 (x.sum : Int), .int .u64 (x.min : Int), .int .u64 (x.max : Int), .int .u64 (x.last : Int)] ∧ Blk wr2 qo 246 #[.pointer (some ⟨ba, 2, none⟩), .pointer (some ⟨ba, 3, none⟩), .pointer (some ⟨ba, 4, none⟩), .pointer (some ⟨ba, 5, none⟩)])
     case atStart => exact ⟨0, rfl, rfl, by omega, by simpa [fldsT] using HL13.out, by simp [fldsT]; omega, HR13.out, HA13.out, HX13.out, HQO13.out⟩
     case round =>
      obtain ⟨k, hk, rfl, hk4, hl2r, hle2, hr2, ha2, hx2, hqo2⟩ := hrel; have HL2 := Jh hl2r; have HLE2 := Jh hle2; have HR2 := Jh hr2; have HA2 := Jh ha2; have HX2 := Jh hx2; have HQO2 := Jh hqo2; have hIn := HI.out; have hBr2 : b ≤ wr.heap.size := Nat.le_trans (by rw [HB.out]; exact Nat.le_refl _) hr2.size; clear hl2r hle2 hr2 ha2 hx2 hqo2; rcases (by omega : k = 0 ∨ k = 1 ∨ k = 2 ∨ k = 3 ∨ k = 4) with rfl | rfl | rfl | rfl | rfl
      ·obtain rfl : gk = 4 := by omega
       have o0 : wr.cell? ⟨qo, 0, none⟩ = some (.pointer (some ⟨ba, 2, none⟩)) := HQO2.out.cell 0; have a0 : wr.cell? ⟨ba, 2, none⟩ = some (.int .u64 (a.sum : Int)) := HA2.out.cell 2; have x0 : wr.cell? ⟨qw, 2, none⟩ = some (.int .u64 (x.sum : Int)) := HX2.out.cell 2; have hxo : bits .xor .u64 (x.sum : Int) (a.sum : Int) = ((x.sum ^^^ a.sum : Nat) : Int) := bits_xor_u64_nat _ _ (by have := HBX.out.1; omega) (by have := HBA2.out.1; omega); have hxl : x.sum ^^^ a.sum < 2 ^ 64 := Nat.xor_lt_two_pow HBX.out.1 HBA2.out.1; obtain ⟨y, hy⟩ : ∃ y, x.sum ^^^ a.sum = y := ⟨_, rfl⟩; rw [hy] at hxo hxl; have HY := Jh hy; have HU := Jh (fun w => Kax y hxl w); have lt1 := HA2.out.lt; have lt2 := HX2.out.lt; have lt3 := HQO2.out.lt; clear hy; go_upto_region 16 with fail
       refine Kah 10 (by kernel_rfl) (by kernel_rfl) ?_; simp only [List.take_succ_cons, List.take_zero, List.drop_succ_cons, List.drop_zero]
       repeat (go_big_quiet_step ((go_at_call 42; exact Kal _ (HU.out _))))
       refine wpQuiet_nil ?_; rintro w4 ⟨⟨_, hb4⟩, rfl⟩; have HL4 := Jh (HL2.out.below hb4); have HR4 := Jh (HR2.out.trans (hb4.mono hBr2)); have HA4 := Jh (HA2.out.below hb4 HA2.out.lt); have HX4 := Jh (HX2.out.below hb4 HX2.out.lt); have HQO4 := Jh (HQO2.out.below hb4 HQO2.out.lt); have hB4 : b ≤ w4.heap.size := Nat.le_trans hBr2 hb4.size; clear hb4 o0 a0 x0 lt1 lt2 lt3; go_wp2_with fail
       refine (Kbb b b _ ⟨(uintT y).toArray⟩ w4 HL4.out (by show _ + (uintT y).toArray.size ≤ _; have := (Kab y).2; have := HLE2.out; simp only [List.size_toArray]; omega) hB4).mono ?_; rintro _ w5 ⟨rfl, h5, h6, h7⟩; have HL5 := Jh h5; have HR5 := Jh (HR4.out.trans h6); have HA5 := Jh (h7.blk HA4.out (by omega) (by decide)); have HX5 := Jh (h7.blk HX4.out (by omega) (by decide)); have HQO5 := Jh (h7.blk HQO4.out (by omega) (by decide)); clear h5 h6 h7; go_wp2_with fail
       go_roundg 3
       case measure => omega
       case rel =>
        refine ⟨1, rfl, rfl, by omega, ?_, ?_, HR5.out, HA5.out, HX5.out, HQO5.out⟩
        ·rw [Knq, HY.out, ← List.append_assoc]; exact HL5.out
        ·rw [Knq, HY.out, Jd, Jd]; have := HLE2.out; rw [Jd] at this; have := (Kab y).2; omega
      ·obtain rfl : gk = 3 := by omega
       have o0 : wr.cell? ⟨qo, 1, none⟩ = some (.pointer (some ⟨ba, 3, none⟩)) := HQO2.out.cell 1; have a0 : wr.cell? ⟨ba, 3, none⟩ = some (.int .u64 (a.min : Int)) := HA2.out.cell 3; have x0 : wr.cell? ⟨qw, 3, none⟩ = some (.int .u64 (x.min : Int)) := HX2.out.cell 3; have hxo : bits .xor .u64 (x.min : Int) (a.min : Int) = ((x.min ^^^ a.min : Nat) : Int) := bits_xor_u64_nat _ _ (by have := HBX.out.2.1; omega) (by have := HBA2.out.2.1; omega); have hxl : x.min ^^^ a.min < 2 ^ 64 := Nat.xor_lt_two_pow HBX.out.2.1 HBA2.out.2.1; obtain ⟨y, hy⟩ : ∃ y, x.min ^^^ a.min = y := ⟨_, rfl⟩; rw [hy] at hxo hxl; have HY := Jh hy; have HU := Jh (fun w => Kax y hxl w); have lt1 := HA2.out.lt; have lt2 := HX2.out.lt; have lt3 := HQO2.out.lt; clear hy; go_upto_region 16 with fail
       refine Kah 10 (by kernel_rfl) (by kernel_rfl) ?_; simp only [List.take_succ_cons, List.take_zero, List.drop_succ_cons, List.drop_zero]
       repeat (go_big_quiet_step ((go_at_call 42; exact Kal _ (HU.out _))))
       refine wpQuiet_nil ?_; rintro w4 ⟨⟨_, hb4⟩, rfl⟩; have HL4 := Jh (HL2.out.below hb4); have HR4 := Jh (HR2.out.trans (hb4.mono hBr2)); have HA4 := Jh (HA2.out.below hb4 HA2.out.lt); have HX4 := Jh (HX2.out.below hb4 HX2.out.lt); have HQO4 := Jh (HQO2.out.below hb4 HQO2.out.lt); have hB4 : b ≤ w4.heap.size := Nat.le_trans hBr2 hb4.size; clear hb4 o0 a0 x0 lt1 lt2 lt3; go_wp2_with fail
       refine (Kbb b b _ ⟨(uintT y).toArray⟩ w4 HL4.out (by show _ + (uintT y).toArray.size ≤ _; have := (Kab y).2; have := HLE2.out; simp only [List.size_toArray]; omega) hB4).mono ?_; rintro _ w5 ⟨rfl, h5, h6, h7⟩; have HL5 := Jh h5; have HR5 := Jh (HR4.out.trans h6); have HA5 := Jh (h7.blk HA4.out (by omega) (by decide)); have HX5 := Jh (h7.blk HX4.out (by omega) (by decide)); have HQO5 := Jh (h7.blk HQO4.out (by omega) (by decide)); clear h5 h6 h7; go_wp2_with fail
       go_roundg 2
       case measure => omega
       case rel =>
        refine ⟨2, rfl, rfl, by omega, ?_, ?_, HR5.out, HA5.out, HX5.out, HQO5.out⟩
        ·rw [Knu, HY.out, ← List.append_assoc]; exact HL5.out
        ·rw [Knu, HY.out, Jd, Jd]; have := HLE2.out; rw [Jd] at this; have := (Kab y).2; omega
      ·obtain rfl : gk = 2 := by omega
       have o0 : wr.cell? ⟨qo, 2, none⟩ = some (.pointer (some ⟨ba, 4, none⟩)) := HQO2.out.cell 2; have a0 : wr.cell? ⟨ba, 4, none⟩ = some (.int .u64 (a.max : Int)) := HA2.out.cell 4; have x0 : wr.cell? ⟨qw, 4, none⟩ = some (.int .u64 (x.max : Int)) := HX2.out.cell 4; have hxo : bits .xor .u64 (x.max : Int) (a.max : Int) = ((x.max ^^^ a.max : Nat) : Int) := bits_xor_u64_nat _ _ (by have := HBX.out.2.2.1; omega) (by have := HBA2.out.2.2.1; omega); have hxl : x.max ^^^ a.max < 2 ^ 64 := Nat.xor_lt_two_pow HBX.out.2.2.1 HBA2.out.2.2.1; obtain ⟨y, hy⟩ : ∃ y, x.max ^^^ a.max = y := ⟨_, rfl⟩; rw [hy] at hxo hxl; have HY := Jh hy; have HU := Jh (fun w => Kax y hxl w); have lt1 := HA2.out.lt; have lt2 := HX2.out.lt; have lt3 := HQO2.out.lt; clear hy; go_upto_region 16 with fail
       refine Kah 10 (by kernel_rfl) (by kernel_rfl) ?_; simp only [List.take_succ_cons, List.take_zero, List.drop_succ_cons, List.drop_zero]
       repeat (go_big_quiet_step ((go_at_call 42; exact Kal _ (HU.out _))))
       refine wpQuiet_nil ?_; rintro w4 ⟨⟨_, hb4⟩, rfl⟩; have HL4 := Jh (HL2.out.below hb4); have HR4 := Jh (HR2.out.trans (hb4.mono hBr2)); have HA4 := Jh (HA2.out.below hb4 HA2.out.lt); have HX4 := Jh (HX2.out.below hb4 HX2.out.lt); have HQO4 := Jh (HQO2.out.below hb4 HQO2.out.lt); have hB4 : b ≤ w4.heap.size := Nat.le_trans hBr2 hb4.size; clear hb4 o0 a0 x0 lt1 lt2 lt3; go_wp2_with fail
       refine (Kbb b b _ ⟨(uintT y).toArray⟩ w4 HL4.out (by show _ + (uintT y).toArray.size ≤ _; have := (Kab y).2; have := HLE2.out; simp only [List.size_toArray]; omega) hB4).mono ?_; rintro _ w5 ⟨rfl, h5, h6, h7⟩; have HL5 := Jh h5; have HR5 := Jh (HR4.out.trans h6); have HA5 := Jh (h7.blk HA4.out (by omega) (by decide)); have HX5 := Jh (h7.blk HX4.out (by omega) (by decide)); have HQO5 := Jh (h7.blk HQO4.out (by omega) (by decide)); clear h5 h6 h7; go_wp2_with fail
       go_roundg 1
       case measure => omega
       case rel =>
        refine ⟨3, rfl, rfl, by omega, ?_, ?_, HR5.out, HA5.out, HX5.out, HQO5.out⟩
        ·rw [Kor, HY.out, ← List.append_assoc]; exact HL5.out
        ·rw [Kor, HY.out, Jd, Jd]; have := HLE2.out; rw [Jd] at this; have := (Kab y).2; omega
      ·obtain rfl : gk = 1 := by omega
       have o0 : wr.cell? ⟨qo, 3, none⟩ = some (.pointer (some ⟨ba, 5, none⟩)) := HQO2.out.cell 3; have a0 : wr.cell? ⟨ba, 5, none⟩ = some (.int .u64 (a.last : Int)) := HA2.out.cell 5; have x0 : wr.cell? ⟨qw, 5, none⟩ = some (.int .u64 (x.last : Int)) := HX2.out.cell 5; have hxo : bits .xor .u64 (x.last : Int) (a.last : Int) = ((x.last ^^^ a.last : Nat) : Int) := bits_xor_u64_nat _ _ (by have := HBX.out.2.2.2; omega) (by have := HBA2.out.2.2.2; omega); have hxl : x.last ^^^ a.last < 2 ^ 64 := Nat.xor_lt_two_pow HBX.out.2.2.2 HBA2.out.2.2.2; obtain ⟨y, hy⟩ : ∃ y, x.last ^^^ a.last = y := ⟨_, rfl⟩; rw [hy] at hxo hxl; have HY := Jh hy; have HU := Jh (fun w => Kax y hxl w); have lt1 := HA2.out.lt; have lt2 := HX2.out.lt; have lt3 := HQO2.out.lt; clear hy; go_upto_region 16 with fail
       refine Kah 10 (by kernel_rfl) (by kernel_rfl) ?_; simp only [List.take_succ_cons, List.take_zero, List.drop_succ_cons, List.drop_zero]
       repeat (go_big_quiet_step ((go_at_call 42; exact Kal _ (HU.out _))))
       refine wpQuiet_nil ?_; rintro w4 ⟨⟨_, hb4⟩, rfl⟩; have HL4 := Jh (HL2.out.below hb4); have HR4 := Jh (HR2.out.trans (hb4.mono hBr2)); have HA4 := Jh (HA2.out.below hb4 HA2.out.lt); have HX4 := Jh (HX2.out.below hb4 HX2.out.lt); have HQO4 := Jh (HQO2.out.below hb4 HQO2.out.lt); have hB4 : b ≤ w4.heap.size := Nat.le_trans hBr2 hb4.size; clear hb4 o0 a0 x0 lt1 lt2 lt3; go_wp2_with fail
       refine (Kbb b b _ ⟨(uintT y).toArray⟩ w4 HL4.out (by show _ + (uintT y).toArray.size ≤ _; have := (Kab y).2; have := HLE2.out; simp only [List.size_toArray]; omega) hB4).mono ?_; rintro _ w5 ⟨rfl, h5, h6, h7⟩; have HL5 := Jh h5; have HR5 := Jh (HR4.out.trans h6); have HA5 := Jh (h7.blk HA4.out (by omega) (by decide)); have HX5 := Jh (h7.blk HX4.out (by omega) (by decide)); have HQO5 := Jh (h7.blk HQO4.out (by omega) (by decide)); clear h5 h6 h7; go_wp2_with fail
       go_roundg 0
       case measure => omega
       case rel =>
        refine ⟨4, rfl, rfl, by omega, ?_, ?_, HR5.out, HA5.out, HX5.out, HQO5.out⟩
        ·rw [Koc, HY.out, ← List.append_assoc]; exact HL5.out
        ·rw [Koc, HY.out, Jd, Jd]; have := HLE2.out; rw [Jd] at this; have := (Kab y).2; omega
      ·obtain rfl : gk = 0 := by omega
       go_wp2_with fail
       go_meet
       exact ⟨HL2.out, HR2.out, HA2.out, HX2.out⟩
    case rest =>
     obtain ⟨hl4, hr4, ha4, hx4⟩ := hcut; have HL9 := Jh hl4; have HR9 := Jh hr4; have HA9 := Jh ha4; have HX9 := Jh hx4; clear hl4 hr4 ha4 hx4; have x0 : wc.cell? ⟨qw, 0, none⟩ = some (.int .i64 x.start) := HX9.out.cell 0; have x1 : wc.cell? ⟨qw, 1, none⟩ = some (.int .i64 x.count) := HX9.out.cell 1; have x2 : wc.cell? ⟨qw, 2, none⟩ = some (.int .u64 (x.sum : Int)) := HX9.out.cell 2; have x3 : wc.cell? ⟨qw, 3, none⟩ = some (.int .u64 (x.min : Int)) := HX9.out.cell 3; have x4 : wc.cell? ⟨qw, 4, none⟩ = some (.int .u64 (x.max : Int)) := HX9.out.cell 4; have x5 : wc.cell? ⟨qw, 5, none⟩ = some (.int .u64 (x.last : Int)) := HX9.out.cell 5; have a0 : wc.cell? ⟨ba, 0, none⟩ = some (.int .i64 a.start) := HA9.out.cell 0; have a1 : wc.cell? ⟨ba, 1, none⟩ = some (.int .i64 a.count) := HA9.out.cell 1; have a2 : wc.cell? ⟨ba, 2, none⟩ = some (.int .u64 (a.sum : Int)) := HA9.out.cell 2; have a3 : wc.cell? ⟨ba, 3, none⟩ = some (.int .u64 (a.min : Int)) := HA9.out.cell 3; have a4 : wc.cell? ⟨ba, 4, none⟩ = some (.int .u64 (a.max : Int)) := HA9.out.cell 4; have a5 : wc.cell? ⟨ba, 5, none⟩ = some (.int .u64 (a.last : Int)) := HA9.out.cell 5; have z0 := HA9.out.frozen 0; have z1 := HA9.out.frozen 1; have z2 := HA9.out.frozen 2; have z3 := HA9.out.frozen 3; have z4 := HA9.out.frozen 4; have z5 := HA9.out.frozen 5; go_wp2_with fail
     have t0 := HA9.out; have g0 := HL9.out; have r0 := HR9.out; have g1 := g0.set (i := 0) t0 (by decide) (by omega) (.int .i64 x.start); have r1 := r0.setCell (p := ⟨ba, 0, none⟩) (by simp; omega) (.int .i64 x.start); have t1 := t0.set_ 0 (.int .i64 x.start); have g2 := g1.set (i := 1) t1 (by decide) (by omega) (.int .i64 (y2 : Int)); have r2 := r1.setCell (p := ⟨ba, 1, none⟩) (by simp; omega) (.int .i64 (y2 : Int)); have t2 := t1.set_ 1 (.int .i64 (y2 : Int)); have g3 := g2.set (i := 2) t2 (by decide) (by omega) (.int .u64 (x.sum : Int)); have r3 := r2.setCell (p := ⟨ba, 2, none⟩) (by simp; omega) (.int .u64 (x.sum : Int)); have t3 := t2.set_ 2 (.int .u64 (x.sum : Int)); have g4 := g3.set (i := 3) t3 (by decide) (by omega) (.int .u64 (x.min : Int)); have r4 := r3.setCell (p := ⟨ba, 3, none⟩) (by simp; omega) (.int .u64 (x.min : Int)); have t4 := t3.set_ 3 (.int .u64 (x.min : Int)); have g5 := g4.set (i := 4) t4 (by decide) (by omega) (.int .u64 (x.max : Int)); have r5 := r4.setCell (p := ⟨ba, 4, none⟩) (by simp; omega) (.int .u64 (x.max : Int)); have t5 := t4.set_ 4 (.int .u64 (x.max : Int)); have g6 := g5.set (i := 5) t5 (by decide) (by omega) (.int .u64 (x.last : Int)); have r6 := r5.setCell (p := ⟨ba, 5, none⟩) (by simp; omega) (.int .u64 (x.last : Int)); have t6 := t5.set_ 5 (.int .u64 (x.last : Int)); have G := Jh g6; have R := Jh r6; have T := Jh t6; clear g0 g1 g2 g3 g4 g5 g6 r0 r1 r2 r3 r4 r5 r6 t0 t1 t2 t3 t4 t5 t6; go_roundg (n - (i + 1))
     case measure => have := HI.out; omega
     case rel =>
      have hT : L2 ++ fldsT a x 4 = uintT n ++ wndsT wnd0 (l.take (i + 1)) := by
       rw [HTK.out, Kot, HAA.out, Qbm, HY1.out, HY2.out, ← HL2E.out, ← HLL.out]; simp
      have hlw : lastW wnd0 (l.take (i + 1)) = x := by rw [HTK.out, Kne]
      refine ⟨i + 1, by have := HI.out; omega, by go_num, ?_, ?_, R.out, ?_, ?_, ?_⟩
      ·rw [hlw, show decide (i + 1 = 0) = false by simp]; exact HEN.out
      ·rw [← hT]; exact G.out
      ·rw [hlw, hy2i]; exact T.out
      ·rw [hlw]; exact ⟨k1, k2, HBX.out⟩
      ·rw [← hT, Jd]; have h1 := hl2
       have h2 : (fldsT a x 4).length ≤ 44 := by
        simp only [fldsT, List.take, List.flatten_cons, List.flatten_nil, Jd, List.length_nil]; have q1 := (Kab (x.sum ^^^ a.sum)).2; have q2 := (Kab (x.min ^^^ a.min)).2; have q3 := (Kab (x.max ^^^ a.max)).2; have q4 := (Kab (x.last ^^^ a.last)).2; omega
       omega
   ·rw [if_pos hs0] at hei; have e0 : ((se : Int) != 0) = true := by simp; omega
    have HEN := Jh hei; have HS0 := Jh hs0; clear hei; go_wp2_with fail
    go_ret2
    unfold aggO; rw [if_neg (by rw [HEE.out, ← HEN.out]; exact HS0.out), HEE.out, ← HEN.out]; exact ⟨rfl, by rw [HB.out]; exact HR6.out⟩
  ·have hi3 : i = n := by have := HI.out; omega
   subst hi3; have htk : l.take i = l := List.take_of_length_le (by have := HLEN.out; omega); have hdr : l.drop i = [] := List.drop_eq_nil_of_le (by have := HLEN.out; omega)
   have hE0 : E = 0 := by
    have := HEI.out; rw [hdr] at this; exact this.symm
   have ho : aggO l = (uintT i ++ wndsT wnd0 l, 0) := by
    unfold aggO; rw [if_pos (by rw [HEE.out, hE0]), aggT, HLEN.out]
   rw [htk] at HL; have HO := Jh ho; have HST2 := Jh (Kdv b b _ wr HL.out hBr); obtain ⟨S, hS⟩ : ∃ S : ByteArray, (⟨(uintT i ++ wndsT wnd0 l).toArray⟩ : ByteArray) = S := ⟨_, rfl⟩; rw [hS] at HST2; have HS := Jh hS; clear ho hS htk hdr hE0; go_wp2_with fail
   refine HST2.out.mono ?_; rintro _ w3 ⟨rfl, h6⟩; go_wp2_with fail
   go_ret2
   rw [HO.out, ← HS.out]; exact ⟨rfl, by rw [HB.out]; exact HR.out.trans h6⟩
end
section
open Go.RowKit
attribute [local go_sem ↓] Go.wp_at_zero Go.wp_at_succ
attribute [local go_sem] Later.cell
def takeU (s : List UInt8) (st : Nat × Nat) : Nat × (Nat × Nat) := if st.2 ≠ 0 then (0, st) else ((Kan s st.1).1, ((Kan s st.1).2.1, (Kan s st.1).2.2))
structure NumAt (be bb ba : Nat) (body : ByteArray) (s : Nat × Nat) (w : World) : Prop where
 e : Blk w be 29 #[.int .i64 (s.2 : Int)]
 b : Blk w bb 9 #[.string body]
 a : Blk w ba 3 #[.int .i64 (s.1 : Int)]
def Kfe (be bb ba : Nat) (body : ByteArray) (s : Nat × Nat) (w : World) (en : Ending) (w' : World) : Prop :=
 en = .returned (.int .u64 ((takeU body.data.toList s).1 : Int)) ∧ NumAt be bb ba body (takeU body.data.toList s).2 w' ∧ Kept w.heap.size [be, ba] w w'
theorem Kde (be bb ba : Nat) (body : ByteArray) (s : Nat × Nat) (w : World) (h : NumAt be bb ba body s w) (hs : body.size ≤ 140737488351232) :
  Calls Tryz.prog 153 #[.pointer (some ⟨be, 0, none⟩), .pointer (some ⟨bb, 0, none⟩), .pointer (some ⟨ba, 0, none⟩)] w (Kfe be bb ba body s w) := by
 have hab : ba ≠ be := h.a.ne_ h.e (by decide); have hbb : bb ≠ be := h.b.ne_ h.e (by decide); have hba : bb ≠ ba := h.b.ne_ h.a (by decide); obtain ⟨at_, e⟩ := s; have H := Lib.hid h; have m0 : w.cell? ⟨be, 0, none⟩ = some (.int .i64 (e : Int)) := h.e.cell 0; have m1 : w.cell? ⟨bb, 0, none⟩ = some (.string body) := h.b.cell 0; have m2 : w.cell? ⟨ba, 0, none⟩ = some (.int .i64 (at_ : Int)) := h.a.cell 0; have z0 := h.e.frozen 0; have z2 := h.a.frozen 0; have HD := Lib.hid (⟨hab, hbb, hba⟩ : _ ∧ _ ∧ _); have hab2 : be ≠ ba := fun e => hab e.symm
 clear h hbb hba
 cases e with
 | succ e =>
  have d0 : decide (((e + 1 : Nat) : Int) = 0) = false := by simp; omega
  have ht : takeU body.data.toList (at_, e + 1) = (0, (at_, e + 1)) := rfl; go_enter Tryz.func153, Tryz.ntmps153
  go_wp2_with fail
  go_ret
  unfold Kfe; rw [ht]; exact ⟨rfl, H.out, Kept.refl _ _ _⟩
 | zero =>
  obtain ⟨v, n, e, h1⟩ : ∃ v n e, Kan body.data.toList (at_ : Int) = (v, n, e) := ⟨_, _, _, rfl⟩
  have ht : takeU body.data.toList (at_, 0) = (v, (n, e)) := by
   unfold takeU; rw [if_neg (by simp), h1]
  have HC := Lib.hid (Kam body (at_ : Int) v n e h1 hs w); have H2 := Lib.hid ht; clear h1 ht; go_enter Tryz.func153, Tryz.ntmps153
  go_wp2_with fail
  refine HC.out.mono ?_; rintro _ w1 ⟨rfl, rfl⟩; go_wp2_with fail
  go_ret
  unfold Kfe; rw [H2.out]; have d := HD.out; refine ⟨rfl, ⟨?_, ?_, ?_⟩, ((Kept.refl _ _ _).setCell (p := ⟨ba, 0, none⟩) (.inl (by simp)) _).setCell (p := ⟨be, 0, none⟩) (.inl (by simp)) _⟩
  ·exact (Blk.far H.out.e (p := ⟨ba, 0, none⟩) (by simp; omega) _).set_ 0 _
  ·exact (Blk.far (Blk.far H.out.b (p := ⟨ba, 0, none⟩) (by simp; omega) _) (p := ⟨be, 0, none⟩) (by simp; omega) _)
  ·exact Blk.far (H.out.a.set_ 0 _) (p := ⟨be, 0, none⟩) (by simp; omega) _
theorem Kqs (s : List UInt8) (st : Nat × Nat) (h : st.2 ≠ 0) : takeU s st = (0, st) := if_pos h
theorem Kek (s : List UInt8) (i : Nat) : (∃ v j, takeU s (i, 0) = (v, (j, 0)) ∧ ruAt s i = some (v, j) ∧ v < 2 ^ 64) ∨ (∃ j e, takeU s (i, 0) = (0, (j, e)) ∧ e ≠ 0 ∧ ruAt s i = none) := by
 unfold takeU ruAt; rw [if_neg (by simp), Kdh]; unfold outOf
 cases hr : readU (s.drop i) with
 | error c => exact .inr ⟨0, c, rfl, Kdm hr, rfl⟩
 | ok x => exact .inl ⟨x.1, i + x.2, rfl, rfl, (Kdo hr).1⟩
theorem Kbu {s : List UInt8} {i v j : Nat} (hi : i ≤ s.length) (h : ruAt s i = some (v, j)) : i < j ∧ j ≤ s.length := by
 unfold ruAt at h
 split at h
 ·rename_i v' k hr
  injection h with h; injection h with h1 h2; have := (Kdo hr); rw [List.length_drop] at this; omega
 ·cases h
end
section
open Go.RowKit
open Lib renaming hid → Jh
attribute [local go_sem ↓] Go.wp_at_zero Go.wp_at_succ
attribute [local go_sem] Later.cell
theorem Kir : (Tryz.prog.info? 3).map (fun i => (i.zero, i.size, i.bytes)) = some (some (.int .i64 0), 1, 8) := by kernel_rfl
def PDecO (w : World) (r : Option (List Nat × Nat)) (en : Ending) (w' : World) : Prop := match r with
 | some (l, j) => ∃ v, en = .returned (.tuple #[v, .int .i64 (j : Int), .int .i64 0]) ∧ w'.ownsRow w.heap.size 3 1 v l.length (l.flatMap encN) ∧ Below w.heap.size w w'
 | none => ∃ f, f ≠ 0 ∧ en = .returned (.tuple #[.slice none 0 0, .int .i64 0, .int .i64 ((f : Nat) : Int)]) ∧ Below w.heap.size w w'
theorem Kfc (s : List UInt8) (i : Nat) : (∃ v j, Kan s (i : Int) = (v, j, 0) ∧ ruAt s i = some (v, j) ∧ v < 2 ^ 64) ∨ (∃ v j e, Kan s (i : Int) = (v, j, e) ∧ e ≠ 0 ∧ ruAt s i = none) := by
 unfold ruAt; rw [Kdh]; unfold outOf
 cases hr : readU (s.drop i) with
 | error c => exact .inr ⟨0, 0, c, rfl, Kdm hr, rfl⟩
 | ok x => exact .inl ⟨x.1, i + x.2, rfl, rfl, (Kdo hr).1⟩
theorem Kxw {w : World} {B n sz k : Nat} {T : TypeId} {v : Value} {xs : List Value} (h : w.ownsRow B T sz v n xs) (hk : k < B) : v.ownBlock ≠ some k := fun e => by
 have := (h.lt k e).1; omega
theorem Kbq {w : World} {B n sz : Nat} {T : TypeId} {v : Value} {xs : List Value} (h : w.ownsRow B T sz v n xs) : ∃ A cap, v = .slice A n cap := by
 rcases h.2 with ⟨rfl, rfl⟩ | ⟨g, cap, cur, rfl, _⟩
 ·exact ⟨none, 0, rfl⟩
 ·exact ⟨_, cap, rfl⟩
theorem Qek (L : List Nat) : (decide (0 < L.length)) = !(decide (L = [])) := by cases L <;> simp
theorem Kjk (s : ByteArray) (at0 : Nat) (w : World) (hs_ : s.size ≤ 1099511627776) (hat0 : at0 ≤ s.size) :
  Calls Tryz.prog 93 #[.string s, .int .i64 (at0 : Int)] w (PDecO w (postR s.data.toList at0)) := by
 have hs : s.size ≤ 140737488351232 := by omega
 obtain ⟨R, hR⟩ : ∃ R, postR s.data.toList at0 = R := ⟨_, rfl⟩; rw [hR]; unfold postR at hR; rcases Kfc s.data.toList at0 with ⟨n, i0, h1, h2, h3⟩ | ⟨v, j, e, h1, h2, h3⟩
 rotate_left
 ·rw [h3] at hR; subst hR; have HC := Jh (Kam s (at0 : Int) v j e h1 hs w); have hne : ((e : Int) != 0) = true := by simp; omega
  go_enter Tryz.func93, Tryz.ntmps93
  go_wp2_with fail
  refine HC.out.mono ?_; rintro _ w1 ⟨rfl, rfl⟩; go_wp2_with fail
  go_ret3
  exact ⟨e, h2, rfl, Below.refl _ _⟩
 rw [h2] at hR; dsimp only at hR; have HR := Jh hR; have HC := Jh (Kam s (at0 : Int) n i0 0 h1 hs w); have hi0 := (Kbu hat0 h2).2; have hsl : s.data.toList.length = s.size := rfl; obtain ⟨B, hB⟩ : ∃ B, w.heap.size = B := ⟨_, rfl⟩; have HB := Jh hB; clear hR h1 h2; go_enter Tryz.func93, Tryz.ntmps93
 go_wp2_with fail
 refine HC.out.mono ?_; rintro _ w1 ⟨rfl, rfl⟩; clear hB; go_wp2_with fail
 go_loopg [1, 7, 9, 10] n (fun g s1 s7 s9 s10 wr => ∃ (at_ a : Nat) (L : List Nat), s1 = .int .i64 (at_ : Int) ∧ s7 = .int .u64 (g : Int) ∧ s10 = .int .u64 (a : Int) ∧ g < 2 ^ 64 ∧ at_ ≤ s.data.toList.length ∧ a ≤ 4611686018427387904 ∧ L.length ≤ at_ ∧ wr.ownsRow B 3 1 s9 L.length (L.flatMap encN) ∧ Below B w wr ∧ R = (match Ker s.data.toList g a (decide (L = [])) at_ with | none => none | some (l, j) => some (L ++ l, j)))
 case atStart => exact ⟨i0, 0, [], rfl, rfl, rfl, h3, hi0, by omega, by simp, World.ownsRow_nil _ _ _ _, Below.refl _ _, by rw [← HR.out]; simp; cases Ker s.data.toList n 0 true i0 <;> rfl⟩
 case round =>
  obtain ⟨at_, a, L, rfl, rfl, rfl, hg, hat, ha, hll, hown, hbr, hRR⟩ := hrel; have HRR := Jh hRR; have HO := Jh hown; have HBR := Jh hbr; have hBr : B ≤ wr.heap.size := by have := hbr.size; have := HB.out; omega
  clear hRR hown hbr
  cases gk with
  | zero =>
   have hre : R = some (L, at_) := by
    rw [HRR.out]; show some (L ++ [], at_) = _
    rw [List.append_nil]
   go_wp2_with fail
   go_ret3
   rw [hre]; exact ⟨_, rfl, by rw [HB.out]; exact HO.out, by rw [HB.out]; exact HBR.out⟩
  | succ g =>
   have el : decide (0 < g + 1) = true := by rw [decide_eq_true_eq]; omega
   rcases Kfc s.data.toList at_ with ⟨st, j, h1, h2, h3⟩ | ⟨v, j, e, h1, h2, h3⟩
   rotate_left
   ·have HC2 := Jh (Kam s (at_ : Int) v j e h1 hs wr); have hne : ((e : Int) != 0) = true := by simp; omega
    have hre : R = none := by rw [HRR.out, Ker, h3]
    have HE := Jh h2; clear h1 h3 h2; go_wp2_with fail
    refine HC2.out.mono ?_; rintro _ w3 ⟨rfl, rfl⟩; go_wp2_with fail
    go_ret3
    rw [hre]; exact ⟨e, HE.out, rfl, by rw [HB.out]; exact HBR.out⟩
   ·have HC2 := Jh (Kam s (at_ : Int) st j 0 h1 hs wr); have hj := Kbu hat h2; have hrr := HRR.out; rw [Ker, h2] at hrr; dsimp only at hrr; have f1 : decide ((0 : Int) < (L.length : Int)) = !(decide (L = [])) := by rw [← Qek]; simp
    obtain ⟨fst, hf⟩ : ∃ fst, decide (L = []) = fst := ⟨_, rfl⟩; obtain ⟨ln, hln⟩ : ∃ ln, L.length = ln := ⟨_, rfl⟩; rw [hf] at hrr f1; rw [hln] at f1 hll HO; have HF := Jh hf; have HLN := Jh hln; have hHR := Jh hrr; clear h1 h2 hrr hf hln; obtain ⟨A9, cap9, hv9⟩ := Kbq HO.out; subst hv9; have hsub : wrap64 (4611686018427387904 - (a : Int)) = 4611686018427387904 - (a : Int) := by unfold wrap64; omega
    have hsub2 : IntKind.u64.wrap (4611686018427387904 - (a : Int)) = 4611686018427387904 - (a : Int) := by rw [IntKind.wrap_u64]; omega
    cases fst with
    | false =>
     have f2 : 0 < ln := by simpa using f1
     have f3 : decide (0 < ln) = true := decide_eq_true f2; have f1 : decide ((0 : Int) < (ln : Int)) = true := f1
     by_cases h0 : st = 0
     ·subst h0; have hre : R = none := by rw [hHR.out, if_pos (.inl ⟨rfl, rfl⟩)]
      go_wp2_with fail
      refine HC2.out.mono ?_; rintro _ w3 ⟨rfl, rfl⟩; go_wp2_with fail
      go_ret3
      rw [hre]; exact ⟨90, by decide, rfl, by rw [HB.out]; exact HBR.out⟩
     have e0 : ((st : Int) == 0) = false := by simp; omega
     by_cases hb : 4611686018427387904 - a < st
     ·have e1 : decide ((4611686018427387904 : Int) - (a : Int) < (st : Int)) = true := by rw [decide_eq_true_eq]; omega
      have e2 : (4611686018427387904 : Int) - (a : Int) < (st : Int) := by omega
      have hre : R = none := by rw [hHR.out, if_pos (.inr hb)]
      go_wp2_with fail
      refine HC2.out.mono ?_; rintro _ w3 ⟨rfl, rfl⟩; go_wp2_with fail
      go_ret3
      rw [hre]; exact ⟨90, by decide, rfl, by rw [HB.out]; exact HBR.out⟩
     have e1 : decide ((4611686018427387904 : Int) - (a : Int) < (st : Int)) = false := by rw [decide_eq_false_iff_not]; omega
     have e2 : ¬ (4611686018427387904 : Int) - (a : Int) < (st : Int) := by omega
     have hif : ¬ ((false = false ∧ st = 0) ∨ 4611686018427387904 - a < st) := (by rintro (⟨_, h⟩ | h) <;> omega); have hrr := hHR.out; rw [if_neg hif] at hrr; have HRN := Jh hrr; have hsum : a + st ≤ 4611686018427387904 := by omega
     have hsw : IntKind.u64.wrap ((a : Int) + (st : Int)) = (a : Int) + (st : Int) := by rw [IntKind.wrap_u64]; omega
     have hcv : IntKind.i64.wrap ((a : Int) + (st : Int)) = (a : Int) + (st : Int) := by rw [IntKind.wrap_i64]; omega
     have hcw : wrap64 ((a : Int) + (st : Int)) = (a : Int) + (st : Int) := by unfold wrap64; omega
     clear hif hrr; obtain ⟨ib, hib, hib0, hib1, hib2⟩ := info_parts Kir; go_wp2_with fail
     refine HC2.out.mono ?_; rintro _ w3 ⟨rfl, rfl⟩; go_wp2_with (at_builtin; refine wpList_append_own_at _ rfl _ _ 69 rfl B 3 ib (.int .i64 0) 1 8 Tryz.underlying69 hib hib0 hib1 hib2 rfl (by decide) _ _ _ rfl (World.ownsRow.alloc HO.out _) ⟨wr.heap.size, 0, none⟩ 1 1 [.int .i64 ((a : Int) + (st : Int))] rfl rfl ?c1 ?c2 ?c3 ?c4 ?c5 ?_)
     case c1 => exact Kaw (l := [.int .i64 ((a : Int) + (st : Int))]) (Blk.new wr _ _)
     case c2 => intro u hu; rw [List.mem_singleton.1 hu]; rfl
     case c3 => unfold maxLen; omega
     case c4 => omega
     case c5 => simp; omega
     intro v' w4 hown' hgrow hx1 hat'; have hb4 : Below B w w4 := HBR.out.trans ⟨hgrow.os, hgrow.tape, hgrow.output, by have := hgrow.size; simp at this; omega, fun k hk => (hgrow.block k (by simp; omega) (fun e => Kxw HO.out hk e.symm)).trans (Below.heap_alloc _ _ _ (by omega))⟩; have hfl : (L ++ [a + st]).flatMap encN = L.flatMap encN ++ [.int .i64 ((a : Int) + (st : Int))] := by rw [List.flatMap_append]; simp [encN]
     have how : w4.ownsRow B 3 1 v' (L ++ [a + st]).length ((L ++ [a + st]).flatMap encN) := by rw [hfl, List.length_append, HLN.out]; exact hown'
     have HB4 := Jh hb4; have HO4 := Jh how; clear hown' hgrow hx1 hat' hb4 hfl how; go_wp2_with fail
     go_roundg g
     case measure => omega
     case rel =>
      refine ⟨j, a + st, L ++ [a + st], rfl, by go_num, by go_num, by omega, hj.2, hsum, by rw [List.length_append, HLN.out]; simp; omega, HO4.out, HB4.out, ?_⟩; rw [HRN.out, show decide (L ++ [a + st] = []) = false by simp]
      cases Ker s.data.toList g (a + st) false j with
      | none => rfl
      | some x => dsimp only; rw [List.append_assoc]; rfl
    | true =>
     have f2 : ¬ 0 < ln := by simpa using f1
     have f3 : decide (0 < ln) = false := decide_eq_false f2; have f1 : decide ((0 : Int) < (ln : Int)) = false := f1
     by_cases hb : 4611686018427387904 - a < st
     ·have e1 : decide ((4611686018427387904 : Int) - (a : Int) < (st : Int)) = true := by rw [decide_eq_true_eq]; omega
      have e2 : (4611686018427387904 : Int) - (a : Int) < (st : Int) := by omega
      have hre : R = none := by rw [hHR.out, if_pos (.inr hb)]
      go_wp2_with fail
      refine HC2.out.mono ?_; rintro _ w3 ⟨rfl, rfl⟩; go_wp2_with fail
      go_ret3
      rw [hre]; exact ⟨90, by decide, rfl, by rw [HB.out]; exact HBR.out⟩
     have e1 : decide ((4611686018427387904 : Int) - (a : Int) < (st : Int)) = false := by rw [decide_eq_false_iff_not]; omega
     have e2 : ¬ (4611686018427387904 : Int) - (a : Int) < (st : Int) := by omega
     have hif : ¬ ((true = false ∧ st = 0) ∨ 4611686018427387904 - a < st) := (by rintro (⟨h, _⟩ | h); cases h; omega); have hrr := hHR.out; rw [if_neg hif] at hrr; have HRN := Jh hrr; have hsum : a + st ≤ 4611686018427387904 := by omega
     have hsw : IntKind.u64.wrap ((a : Int) + (st : Int)) = (a : Int) + (st : Int) := by rw [IntKind.wrap_u64]; omega
     have hcv : IntKind.i64.wrap ((a : Int) + (st : Int)) = (a : Int) + (st : Int) := by rw [IntKind.wrap_i64]; omega
     have hcw : wrap64 ((a : Int) + (st : Int)) = (a : Int) + (st : Int) := by unfold wrap64; omega
     clear hif hrr; obtain ⟨ib, hib, hib0, hib1, hib2⟩ := info_parts Kir; go_wp2_with fail
     refine HC2.out.mono ?_; rintro _ w3 ⟨rfl, rfl⟩; go_wp2_with (at_builtin; refine wpList_append_own_at _ rfl _ _ 69 rfl B 3 ib (.int .i64 0) 1 8 Tryz.underlying69 hib hib0 hib1 hib2 rfl (by decide) _ _ _ rfl (World.ownsRow.alloc HO.out _) ⟨wr.heap.size, 0, none⟩ 1 1 [.int .i64 ((a : Int) + (st : Int))] rfl rfl ?c1 ?c2 ?c3 ?c4 ?c5 ?_)
     case c1 => exact Kaw (l := [.int .i64 ((a : Int) + (st : Int))]) (Blk.new wr _ _)
     case c2 => intro u hu; rw [List.mem_singleton.1 hu]; rfl
     case c3 => unfold maxLen; omega
     case c4 => omega
     case c5 => simp; omega
     intro v' w4 hown' hgrow hx1 hat'; have hb4 : Below B w w4 := HBR.out.trans ⟨hgrow.os, hgrow.tape, hgrow.output, by have := hgrow.size; simp at this; omega, fun k hk => (hgrow.block k (by simp; omega) (fun e => Kxw HO.out hk e.symm)).trans (Below.heap_alloc _ _ _ (by omega))⟩; have hfl : (L ++ [a + st]).flatMap encN = L.flatMap encN ++ [.int .i64 ((a : Int) + (st : Int))] := by rw [List.flatMap_append]; simp [encN]
     have how : w4.ownsRow B 3 1 v' (L ++ [a + st]).length ((L ++ [a + st]).flatMap encN) := by rw [hfl, List.length_append, HLN.out]; exact hown'
     have HB4 := Jh hb4; have HO4 := Jh how; clear hown' hgrow hx1 hat' hb4 hfl how; go_wp2_with fail
     go_roundg g
     case measure => omega
     case rel =>
      refine ⟨j, a + st, L ++ [a + st], rfl, by go_num, by go_num, by omega, hj.2, hsum, by rw [List.length_append, HLN.out]; simp; omega, HO4.out, HB4.out, ?_⟩; rw [HRN.out, show decide (L ++ [a + st] = []) = false by simp]
      cases Ker s.data.toList g (a + st) false j with
      | none => rfl
      | some x => dsimp only; rw [List.append_assoc]; rfl
theorem Elems.get {α : Type} [Inhabited α] {w : World} {B sz n : Nat} {enc : α → List Value} {A : Option Addr} {xs : List α} (h : Elems w B sz enc A n xs) {i : Nat} (hi : i < n) : ∃ b off, A = some ⟨b, off, none⟩ ∧ b < B ∧ ∀ j v, (enc xs[i]!)[j]? = some v → w.cell? ⟨b, off + i * sz + j, none⟩ = some v := by
 obtain ⟨b, off, e, hb, hc⟩ := h.2 (by omega); have hl : i < xs.length := by have := h.len; omega
 refine ⟨b, off, e, hb, fun j v hv => hc i xs[i]! (by rw [getElem!_pos xs i hl]; exact List.getElem?_eq_getElem hl) j v hv⟩
def Kif (w : World) (b : Nat) (h : Hd3) (x : Ser) : Prop := Blk w b 58 #[.slice h.l.A h.l.n h.l.c, .slice h.s.A h.s.n h.s.c, .slice h.w.A h.w.n h.w.c] ∧ SerAt w h x
theorem Qcc (w : World) (b : Nat) (h : Hd3) (x : Ser) (hb : Kif w b h x) (hn : h.s.n ≤ 1099511627776) (i : Nat) (hi : i < h.s.n) :
  Calls Tryz.prog 163 #[.int .i64 (i : Int), .pointer (some ⟨b, 0, none⟩)] w fun e w' => e = .returned (.int .i64 (x.samples[i]!).t) ∧ w = w' := by
 obtain ⟨bb, off, hA, hlt, hc⟩ := hb.2.s.get hi; have c1 : w.cell? ⟨b, 1, none⟩ = some (.slice h.s.A h.s.n h.s.c) := hb.1.cell 1; have d0 : w.cell? ⟨bb, off + i * 2, none⟩ = some (.int .i64 (x.samples[i]!).t) := hc 0 _ rfl; obtain ⟨t, ht⟩ : ∃ t, (x.samples[i]!).t = t := ⟨_, rfl⟩; rw [ht] at d0 ⊢; rw [hA] at c1; obtain ⟨n, hn'⟩ : ∃ n, h.s.n = n := ⟨_, rfl⟩; obtain ⟨c, hc'⟩ : ∃ c, h.s.c = c := ⟨_, rfl⟩; rw [hn'] at hn hi c1; rw [hc'] at c1; clear hb hc hA ht hn' hc'; have hi' : (i : Int) < (n : Int) := by omega
 go_enter Tryz.func163, Tryz.ntmps163
 go_wp2_with fail
 go_ret
 exact ⟨rfl, rfl⟩
theorem Qay (w : World) (b : Nat) (h : Hd3) (x : Ser) (hb : Kif w b h x) (hn : h.w.n ≤ 1099511627776) (i : Nat) (hi : i < h.w.n) :
  Calls Tryz.prog 164 #[.int .i64 (i : Int), .pointer (some ⟨b, 0, none⟩)] w fun e w' => e = .returned (.int .i64 (x.windows[i]!).start) ∧ w = w' := by
 obtain ⟨bb, off, hA, hlt, hc⟩ := hb.2.w.get hi; have c1 : w.cell? ⟨b, 2, none⟩ = some (.slice h.w.A h.w.n h.w.c) := hb.1.cell 2; have d0 : w.cell? ⟨bb, off + i * 6, none⟩ = some (.int .i64 (x.windows[i]!).start) := hc 0 _ rfl; obtain ⟨t, ht⟩ : ∃ t, (x.windows[i]!).start = t := ⟨_, rfl⟩; rw [ht] at d0 ⊢; rw [hA] at c1; obtain ⟨n, hn'⟩ : ∃ n, h.w.n = n := ⟨_, rfl⟩; obtain ⟨c, hc'⟩ : ∃ c, h.w.c = c := ⟨_, rfl⟩; rw [hn'] at hn hi c1; rw [hc'] at c1; clear hb hc hA ht hn' hc'; have hi' : (i : Int) < (n : Int) := by omega
 go_enter Tryz.func164, Tryz.ntmps164
 go_wp2_with fail
 go_ret
 exact ⟨rfl, rfl⟩
def badAt (f t : Int) (l : List Int) (i : Nat) : Bool := decide (l[i]! < f) || decide (t ≤ l[i]!) || (decide (0 < i) && decide (l[i]! ≤ l[i - 1]!))
theorem Kzy (f t : Int) : ∀ l : List Int, Kcm f t l = true ↔ l ≠ [] ∧ ∀ i, i < l.length → badAt f t l i = false := by
 have key : ∀ l : List Int, riseI l = true ↔ ∀ i, i + 1 < l.length → l[i]! < l[i + 1]! := by
  intro l
  induction l with
  | nil => simp [riseI]
  | cons a l ih =>
   cases l with
   | nil => simp [riseI]
   | cons b l =>
    rw [riseI, Bool.and_eq_true, decide_eq_true_eq, ih]; constructor
    ·rintro ⟨h1, h2⟩ i hi
     cases i with
     | zero => simpa using h1
     | succ i => simpa using h2 i (by simpa using hi)
    ·intro h; refine ⟨by simpa using h 0 (by simp), fun i hi => ?_⟩; simpa using h (i + 1) (by simpa using hi)
 intro l; unfold Kcm; rw [Bool.and_eq_true, Bool.and_eq_true, decide_eq_true_eq, key, List.all_eq_true]; constructor
 ·rintro ⟨⟨h0, h1⟩, h2⟩; refine ⟨h0, fun i hi => ?_⟩; have hm := h1 l[i]! (by rw [getElem!_pos l i hi]; exact List.getElem_mem hi); rw [Bool.and_eq_true, decide_eq_true_eq, decide_eq_true_eq] at hm; unfold badAt; rw [Bool.or_eq_false_iff, Bool.or_eq_false_iff, decide_eq_false_iff_not, decide_eq_false_iff_not]; refine ⟨⟨by omega, by omega⟩, ?_⟩
  cases i with
  | zero => rfl
  | succ i =>
   have := h2 i (by omega); rw [Bool.and_eq_false_iff]; right; rw [decide_eq_false_iff_not, show i + 1 - 1 = i from rfl]; omega
 ·rintro ⟨h0, h1⟩; refine ⟨⟨h0, fun x hx => ?_⟩, fun i hi => ?_⟩
  ·obtain ⟨i, hi, rfl⟩ := List.getElem_of_mem hx; have := h1 i hi; unfold badAt at this; rw [Bool.or_eq_false_iff, Bool.or_eq_false_iff, decide_eq_false_iff_not, decide_eq_false_iff_not, getElem!_pos l i hi] at this; rw [Bool.and_eq_true, decide_eq_true_eq, decide_eq_true_eq]; omega
  ·have := h1 (i + 1) hi; unfold badAt at this; rw [Bool.or_eq_false_iff, Bool.and_eq_false_iff, show i + 1 - 1 = i from rfl] at this; rcases this.2 with h | h
   ·rw [decide_eq_false_iff_not] at h; omega
   ·rw [decide_eq_false_iff_not] at h; omega
def contV (r f t : Int) (h : Hd) : Value := .agg #[.int .i64 r, .int .i64 f, .int .i64 t, .slice h.A h.n h.c]
theorem Kle (r f t : Int) (h : Hd) (ts : List Int) (g : Nat) (b : Nat) (w : World) (hn : ts.length ≤ 1099511627776) (heg : ∀ args W, (callFunc g args).run Tryz.prog W = .ok (.enter g args) W)
  (hT : ∀ i, i < ts.length → ∀ W, Below w.heap.size w W → Calls Tryz.prog g #[.int .i64 (i : Int), .pointer (some ⟨b, 0, none⟩)] W fun e w' => e = .returned (.int .i64 ts[i]!) ∧ W = w') :
  Calls Tryz.prog 162 #[contV r f t h, .int .i64 (ts.length : Int), .func (.func g) #[] #[.pointer (some ⟨b, 0, none⟩)]] w fun e w' => e = .returned (.bool (Kcm f t ts)) ∧ Below w.heap.size w w' := by
 obtain ⟨n, hl⟩ : ∃ n, ts.length = n := ⟨_, rfl⟩; obtain ⟨R, hR⟩ : ∃ R, Kcm f t ts = R := ⟨_, rfl⟩; have hiff := Kzy f t ts; rw [hl] at hn hT hiff; rw [hl, hR]; rw [hR] at hiff; have hne : ts ≠ [] ↔ 0 < n := by rw [← hl]; exact List.length_pos_iff.symm
 rw [hne] at hiff; have HIFF := Jh hiff; have HT := Jh hT; obtain ⟨q, hq⟩ : ∃ q, w.heap.size = q := ⟨_, rfl⟩; have hb1 : Below q w (w.alloc (.cells #[.int .i64 r, .int .i64 f, .int .i64 t, .slice h.A h.n h.c] 28)) := (Below.refl _ _).alloc (by omega) _; have hk1 : Blk (w.alloc (.cells #[.int .i64 r, .int .i64 f, .int .i64 t, .slice h.A h.n h.c] 28)) q 28 #[.int .i64 r, .int .i64 f, .int .i64 t, .slice h.A h.n h.c] := Blk.newAt hq.symm; unfold contV; clear hl hR hiff hT hne; go_enter Tryz.func162, Tryz.ntmps162
 go_upto_region 1 with fail
 obtain ⟨w1, hw1⟩ : ∃ w1, w.alloc (.cells #[.int .i64 r, .int .i64 f, .int .i64 t, .slice h.A h.n h.c] 28) = w1 := ⟨_, rfl⟩; rw [hw1] at hb1 hk1; rw [hw1]
 try rw [hq]
 have HQ := Jh hq; have HB := Jh hb1; clear hw1 hq hb1; have c1 : w1.cell? ⟨q, 1, none⟩ = some (.int .i64 f) := hk1.cell 1; have c2 : w1.cell? ⟨q, 2, none⟩ = some (.int .i64 t) := hk1.cell 2; go_wp2_with fail
 go_loopg [10] n (fun g10 s10 wr => ∃ i : Nat, i + g10 = n ∧ s10 = .int .i64 (i : Int) ∧ wr = w1 ∧ ∀ j, j < i → badAt f t ts j = false)
 case atStart => exact ⟨0, by omega, rfl, rfl, fun j hj => by omega⟩
 case round =>
  obtain ⟨i, hi, rfl, rfl, hall⟩ := hrel; have HALL := Jh hall; clear hall
  cases gk with
  | zero =>
   have el : decide (i < n) = false := by rw [decide_eq_false_iff_not]; omega
   have hre : R = decide ((0 : Int) < (n : Int)) := by
    rw [Bool.eq_iff_iff, HIFF.out, decide_eq_true_eq]; constructor
    ·intro h; omega
    ·intro h; exact ⟨by omega, fun j hj => HALL.out j (by omega)⟩
   have HRE := Jh hre; clear hre; go_wp2_with fail
   go_ret
   rw [HRE.out]; exact ⟨by simp, by rw [HQ.out]; exact HB.out⟩
  | succ gk =>
   have el : decide (i < n) = true := by rw [decide_eq_true_eq]; omega
   have HC := Jh (HT.out i (by omega) wr (by rw [HQ.out]; exact HB.out))
   have HP : Hid (0 < i → Calls Tryz.prog g #[.int .i64 ((i : Int) - 1), .pointer (some ⟨b, 0, none⟩)] wr fun e w' => e = .returned (.int .i64 ts[i - 1]!) ∧ wr = w') := Jh (fun h => by
    have := HT.out (i - 1) (by omega) wr (by rw [HQ.out]; exact HB.out)
    rwa [show ((i - 1 : Nat) : Int) = (i : Int) - 1 by omega] at this)
   obtain ⟨x, hx⟩ : ∃ x, ts[i]! = x := ⟨_, rfl⟩; obtain ⟨y, hy⟩ : ∃ y, ts[i - 1]! = y := ⟨_, rfl⟩; have hbad : badAt f t ts i = (decide (x < f) || decide (t ≤ x) || (decide (0 < i) && decide (x ≤ y))) := by unfold badAt; rw [hx, hy]
   have HBAD := Jh hbad; rw [hx] at HC; rw [hy] at HP; clear hx hy hbad; go_wp2_with fail
   refine HC.out.mono ?_; rintro _ w3 ⟨rfl, rfl⟩
   have hbadR : badAt f t ts i = true → R = false := fun hb => by
    rw [Bool.eq_false_iff]; intro hR; have := (HIFF.out.1 hR).2 i (by omega); rw [hb] at this; cases this
   have HBR := Jh hbadR; clear hbadR
   by_cases h1 : x < f
   ·have e1 : decide (x < f) = true := decide_eq_true h1; have hre : R = false := HBR.out (by rw [HBAD.out, e1]; rfl); go_wp2_with fail
    go_ret
    rw [hre]; exact ⟨rfl, by rw [HQ.out]; exact HB.out⟩
   have e1 : decide (x < f) = false := decide_eq_false h1
   by_cases h2 : t ≤ x
   ·have e2 : decide (t ≤ x) = true := decide_eq_true h2; have hre : R = false := HBR.out (by rw [HBAD.out, e1, e2]; rfl); go_wp2_with fail
    go_ret
    rw [hre]; exact ⟨rfl, by rw [HQ.out]; exact HB.out⟩
   have e2 : decide (t ≤ x) = false := decide_eq_false h2
   have go : ∀ (h : badAt f t ts i = false) (j : Nat), j < i + 1 → badAt f t ts j = false := fun h j hj => by
    by_cases e : j = i
    ·rw [e]; exact h
    ·exact HALL.out j (by omega)
   have GO := Jh go; clear go
   by_cases h3 : 0 < i
   ·have e3 : decide ((0 : Int) < (i : Int)) = true := by rw [decide_eq_true_eq]; omega
    have HP1 := Jh (HP.out h3)
    by_cases h4 : x ≤ y
    ·have e4 : decide (x ≤ y) = true := decide_eq_true h4; have hre : R = false := HBR.out (by rw [HBAD.out, e1, e2, e4, decide_eq_true h3]; rfl); go_wp2_with fail
     refine HP1.out.mono ?_; rintro _ w4 ⟨rfl, rfl⟩; go_wp2_with fail
     go_ret
     rw [hre]; exact ⟨rfl, by rw [HQ.out]; exact HB.out⟩
    ·have e4 : decide (x ≤ y) = false := decide_eq_false h4; have hb : badAt f t ts i = false := by rw [HBAD.out, e1, e2, e4, decide_eq_true h3]; rfl
     have HBF := Jh hb; clear hb; go_wp2_with fail
     refine HP1.out.mono ?_; rintro _ w4 ⟨rfl, rfl⟩; go_wp2_with fail
     go_roundg gk
     case measure => omega
     case rel => exact ⟨i + 1, by omega, by go_num, rfl, GO.out HBF.out⟩
   ·have e3 : decide ((0 : Int) < (i : Int)) = false := by rw [decide_eq_false_iff_not]; omega
    obtain rfl : i = 0 := by omega
    have hb : badAt f t ts 0 = false := by rw [HBAD.out, e1, e2]; rfl
    have HBF := Jh hb; clear hb; go_wp2_with fail
    go_roundg gk
    case measure => omega
    case rel => exact ⟨1, by omega, by go_num, rfl, GO.out HBF.out⟩
theorem Qhg (S : ByteArray) : S.data.toList.length = S.size := rfl
theorem Kqb (S0 S1 S2 : ByteArray) (Z : Nat) (hZ : Z ≤ 200000000) (h0 : S0.size ≤ Z) (h1 : S1.size ≤ Z) (h2 : S2.size ≤ Z) (A : Option Addr) (k cT : Nat) (l : List Trn) (w : World) (hT : Turns w A k l) (hi : ∀ y ∈ l, i64T y.file ∧ i64T y.at_ ∧ i64T y.out) (hsum : Trn.len l ≤ 1048576) (hkl : l.length ≤ 1048576) :
  Calls Tryz.prog 31 #[.agg #[.string S0, .string S1, .string S2], .slice A k cT] w fun e w' => (∃ T0 T1 T2 : ByteArray, e = .returned (.agg #[.string T0, .string T1, .string T2]) ∧ (T0.size ≤ Z + Trn.len l ∧ T1.size ≤ Z + Trn.len l ∧ T2.size ≤ Z + Trn.len l)) ∧ Below w.heap.size w w' := by
 have HTU := Jh hT; have HAI := Jh hi; have HSUM := Jh hsum; have HKL : Hid (l.length = k) := Jh (Elems.len hT); have HKZ : Hid (k ≤ 1048576) := Jh (by have := HKL.out; omega); have HZ := Jh hZ; have H3 := Jh (⟨h0, h1, h2⟩ : S0.size ≤ Z ∧ S1.size ≤ Z ∧ S2.size ≤ Z); have HB := Jh (Below.refl w.heap.size w); clear hT hi hsum hkl hZ h0 h1 h2; go_enter Tryz.func31, Tryz.ntmps31
 go_upto_region 1 with fail
 obtain ⟨q, hz_q⟩ : ∃ p, w.heap.size = p := ⟨_, rfl⟩; have hbx : Below w.heap.size w (w.alloc (.cells #[.string S0, .string S1, .string S2] 44)) := (Below.refl _ _).alloc (Nat.le_refl _) _; have hkx : Blk (w.alloc (.cells #[.string S0, .string S1, .string S2] 44)) q 44 #[.string S0, .string S1, .string S2] := by rw [← hz_q]; exact Blk.new _ _ _
 have hz_q1 : (w.alloc (.cells #[.string S0, .string S1, .string S2] 44)).heap.size = q + 1 := by rw [World.alloc, Array.size_push, hz_q]
 obtain ⟨w1, hw_w1⟩ : ∃ x, w.alloc (.cells #[.string S0, .string S1, .string S2] 44) = x := ⟨_, rfl⟩; rw [hw_w1] at hbx hkx hz_q1; rw [hw_w1, hz_q]; have HQ := Jh hz_q; replace HB := Jh (HB.out.trans (hbx.mono HB.out.size)); have HF := Jh ((show FBox q S0 S1 S2 _ from hkx)); clear hbx hkx hw_w1 hz_q; have hbx : Below w1.heap.size w1 (w1.alloc (.cells #[.string ⟨#[]⟩, .string ⟨#[]⟩, .string ⟨#[]⟩] 44)) := (Below.refl _ _).alloc (Nat.le_refl _) _; have hkx : Blk (w1.alloc (.cells #[.string ⟨#[]⟩, .string ⟨#[]⟩, .string ⟨#[]⟩] 44)) (q + 1) 44 #[.string ⟨#[]⟩, .string ⟨#[]⟩, .string ⟨#[]⟩] := by rw [← hz_q1]; exact Blk.new _ _ _
 have hz_q2 : (w1.alloc (.cells #[.string ⟨#[]⟩, .string ⟨#[]⟩, .string ⟨#[]⟩] 44)).heap.size = q + 2 := by rw [World.alloc, Array.size_push, hz_q1]
 obtain ⟨w2, hw_w2⟩ : ∃ x, w1.alloc (.cells #[.string ⟨#[]⟩, .string ⟨#[]⟩, .string ⟨#[]⟩] 44) = x := ⟨_, rfl⟩; rw [hw_w2] at hbx hkx hz_q2; rw [hw_w2]; replace HB := Jh (HB.out.trans (hbx.mono HB.out.size)); replace HF := Jh (HF.out.below hbx); have HR := Jh ((show FBox (q + 1) ⟨#[]⟩ ⟨#[]⟩ ⟨#[]⟩ _ from hkx)); clear hbx hkx hw_w2 hz_q1; clear hz_q2; go_wp2_with fail
 go_loopg [12] k (fun g s12 wr => ∃ (i : Nat) (T0 T1 T2 : ByteArray), i + g = k ∧ s12 = .int .i64 (i : Int) ∧ (T0.size ≤ Z + Trn.len (l.take i) ∧ T1.size ≤ Z + Trn.len (l.take i) ∧ T2.size ≤ Z + Trn.len (l.take i)) ∧ FBox q T0 T1 T2 wr ∧ FBox (q + 1) ⟨#[]⟩ ⟨#[]⟩ ⟨#[]⟩ wr ∧ Below w.heap.size w wr)
 case atStart => exact ⟨0, S0, S1, S2, by omega, rfl, H3.out, HF.out, HR.out, HB.out⟩
 case round =>
  obtain ⟨i, T0, T1, T2, hig, rfl, hts, hf, hr, hbr⟩ := hrel; have HIG := Jh hig; have HTS := Jh hts; have HFr := Jh hf; have HRr := Jh hr; have HBR := Jh hbr; clear hig hts hf hr hbr; obtain ⟨wo, rfl⟩ : ∃ x, x = wr := ⟨_, rfl⟩; have hk1 := HKZ.out
  by_cases hik : i < k
  ·have el : decide ((i : Int) < (k : Int)) = true := by simp; omega
   have e0 : (i : Int) < (k : Int) := by omega
   have e1 : (0 : Int) ≤ (i : Int) := by omega
   obtain ⟨y, hy⟩ : ∃ y, l[i]? = some y := ⟨_, List.getElem?_eq_getElem (by rw [HKL.out]; exact hik)⟩; obtain ⟨bb, off, rfl, hbl, kc⟩ := (HTU.out.below HBR.out).at_ hy; have m0 : wo.cell? ⟨bb, off + i * 4, none⟩ = some (.int .i64 y.file) := kc 0 _ rfl; have m1 : wo.cell? ⟨bb, off + i * 4 + 1, none⟩ = some (.int .i64 y.at_) := kc 1 _ rfl; have m2 : wo.cell? ⟨bb, off + i * 4 + 2, none⟩ = some (.int .i64 y.out) := kc 2 _ rfl; have m3 : wo.cell? ⟨bb, off + i * 4 + 3, none⟩ = some (txtV y.t) := kc 3 _ rfl; have hym : y ∈ l := List.mem_of_getElem? hy; have hyi := HAI.out y hym; have hyz := Trn.mem_len hym; have hst := Trn.len_step l i y hy; have hlt := Trn.len_take l (i + 1); obtain ⟨fl, at_, out, t⟩ := y; obtain ⟨I, hI⟩ : ∃ I : ByteArray, (⟨t.toArray⟩ : ByteArray) = I := ⟨_, rfl⟩; have hIl : I.data.toList = t := by rw [← hI]
   have hIv : txtV t = .string I := by rw [← hI]; rfl
   dsimp only at m0 m1 m2 m3 hyi hyz hst; rw [hIv] at m3; rw [← hIl, Qhg] at hst hyz; have HST := Jh hst; have HLT := Jh hlt; have hIz : I.size ≤ 1048576 := by have := HSUM.out; omega
   unfold i64T at hyi; obtain ⟨⟨hf1, hf2⟩, ⟨ha1, ha2⟩, ho1, ho2⟩ := hyi; clear kc hy hym hyz hst hI hIl hIv hlt; go_upto_region 4 with fail
   obtain ⟨W7, hW7⟩ : ∃ X, wo.alloc (.cells #[.int .i64 fl, .int .i64 at_, .int .i64 out, .string I] 175) = X := ⟨_, rfl⟩; have hb7 : Below wo.heap.size wo W7 := by rw [← hW7]; exact (Below.refl _ _).alloc (Nat.le_refl _) _
   have kx : Blk W7 wo.heap.size 175 #[.int .i64 fl, .int .i64 at_, .int .i64 out, .string I] := by rw [← hW7]; exact Blk.new wo _ _
   rw [hW7]; replace HFr := Jh (HFr.out.below hb7); replace HRr := Jh (HRr.out.below hb7); replace HBR := Jh (HBR.out.trans (hb7.mono HBR.out.size)); clear hW7 hb7 m0 m1 m2 m3; obtain ⟨U, hU⟩ : ∃ Q, wo.heap.size = Q := ⟨_, rfl⟩; rw [hU] at kx ⊢; have HKX := Jh kx; have m0 : W7.cell? ⟨U, 0, none⟩ = some (.int .i64 fl) := kx.cell 0; clear kx hU; go_cut [7] (fun s7 wz => wz = W7 ∧ ∃ j : Nat, j < 3 ∧ s7 = .pointer (some ⟨q, j, none⟩))
   case first =>
    obtain ⟨j, hj, hjm⟩ : ∃ j : Nat, j < 3 ∧ max 0 fl % 3 = (j : Int) := ⟨(max 0 fl % 3).toNat, by omega, by omega⟩
    have ipt : ∀ w : World, (Instr.index 78 (.agg #[.pointer (some ⟨q, 0, none⟩), .pointer (some ⟨q, 1, none⟩), .pointer (some ⟨q, 2, none⟩)]) (.int .i64 (j : Int))).run Tryz.prog w = .ok (.pointer (some ⟨q, j, none⟩)) w := fun w => by
     rcases (by omega : j = 0 ∨ j = 1 ∨ j = 2) with rfl | rfl | rfl
     ·kernel_rfl
     ·kernel_rfl
     ·kernel_rfl
    go_wp2_with fail
    go_meet
    exact ⟨rfl, j, hj, rfl⟩
   case rest =>
    obtain ⟨rfl, j, hj, rfl⟩ := hcut; obtain ⟨W7, rfl⟩ : ∃ x, x = wc := ⟨_, rfl⟩; obtain ⟨X, hX⟩ : ∃ X, sel j T0 T1 T2 = X := ⟨_, rfl⟩
    have hXz : X.size ≤ Z + Trn.len (l.take i) := by
     have h := HTS.out; rw [← hX]; rcases (by omega : j = 0 ∨ j = 1 ∨ j = 2) with rfl | rfl | rfl
     ·exact h.1
     ·exact h.2.1
     ·exact h.2.2
    have HXZ := Jh hXz; have hXm : X.size ≤ 300000000 := by have := HZ.out; have := HSUM.out; have := Trn.len_take l i; omega
    have HGX : ∀ W, FBox q T0 T1 T2 W → W.cell? ⟨q, j, none⟩ = some (.string X) := fun W h => by
     rw [← hX]; rcases (by omega : j = 0 ∨ j = 1 ∨ j = 2) with rfl | rfl | rfl
     ·exact (show Blk W _ _ _ from h).cell 0
     ·exact (show Blk W _ _ _ from h).cell 1
     ·exact (show Blk W _ _ _ from h).cell 2
    replace HGX := Jh HGX; have HJ := Jh hj; have hq7 : q < W7.heap.size := Blk.lt (show Blk W7 _ _ _ from HFr.out); have hU7 : U < W7.heap.size := HKX.out.lt; have g0 := HGX.out W7 HFr.out; have m1 : W7.cell? ⟨U, 1, none⟩ = some (.int .i64 at_) := HKX.out.cell 1; clear m0 hX hXz hj; go_upto_region 5 with fail
    go_cut [8] (fun s8 wz => Below W7.heap.size W7 wz ∧ ∃ ka : Nat, ka ≤ X.size ∧ s8 = .int .i64 (ka : Int))
    case first =>
     refine Kad (by kernel_rfl) (by kernel_rfl) ?_
     repeat (go_big_quiet_step (fail))
     refine wpQuiet_nil ?_; rintro w8 ⟨⟨_, hb8⟩, rfl⟩; go_wp2_with fail
     go_meet
     exact ⟨hb8, (max 0 (min at_ (X.size : Int))).toNat, by omega, vi (by omega)⟩
    case rest =>
     obtain ⟨hb8, ka, hka, rfl⟩ := hcut; obtain ⟨W8, rfl⟩ : ∃ x, x = wc := ⟨_, rfl⟩; replace HFr := Jh (HFr.out.below hb8); replace HRr := Jh (HRr.out.below hb8); replace HKX := Jh (HKX.out.below hb8 HKX.out.lt); replace HBR := Jh (HBR.out.trans (hb8.mono HBR.out.size)); clear hb8 hq7 hU7 g0 m1; have hq7 : q < W8.heap.size := Blk.lt (show Blk W8 _ _ _ from HFr.out); have hU7 : U < W8.heap.size := HKX.out.lt; have g0 := HGX.out W8 HFr.out; have m2 : W8.cell? ⟨U, 2, none⟩ = some (.int .i64 out) := HKX.out.cell 2; go_upto_region 6 with fail
     go_cut [9] (fun s9 wz => Below W8.heap.size W8 wz ∧ ∃ ke : Nat, ka ≤ ke ∧ ke ≤ X.size ∧ s9 = .int .i64 (ke : Int))
     case first =>
      refine Kad (by kernel_rfl) (by kernel_rfl) ?_
      repeat (go_big_quiet_step (fail))
      refine wpQuiet_nil ?_; rintro w9 ⟨⟨_, hb9⟩, rfl⟩; go_wp2_with fail
      go_meet
      exact ⟨hb9, ka + (max 0 (min out ((X.size : Int) - (ka : Int)))).toNat, by omega, by omega, vi (by omega)⟩
     case rest =>
      obtain ⟨hb9, ke, hke1, hke2, rfl⟩ := hcut; obtain ⟨W9, rfl⟩ : ∃ x, x = wc := ⟨_, rfl⟩; replace HFr := Jh (HFr.out.below hb9); replace HRr := Jh (HRr.out.below hb9); replace HKX := Jh (HKX.out.below hb9 HKX.out.lt); replace HBR := Jh (HBR.out.trans (hb9.mono HBR.out.size)); clear hb9 hq7 hU7 g0 m2; have hq7 : q < W9.heap.size := Blk.lt (show Blk W9 _ _ _ from HFr.out); have hU7 : U < W9.heap.size := HKX.out.lt; have g0 := HGX.out W9 HFr.out; have m3 : W9.cell? ⟨U, 3, none⟩ = some (.string I) := HKX.out.cell 3; have hs1 : (X.extract 0 ka).size = ka := by rw [ByteArray.size_extract]; omega
      have hs2 : (X.extract ke X.size).size = X.size - ke := by rw [ByteArray.size_extract]; omega
      have hs3 : (X.extract 0 ka ++ I).size = ka + I.size := by rw [ByteArray.size_append, hs1]
      have d1 : (0 : Int) ≤ (ka : Int) := by omega
      have d2 : (ka : Int) ≤ (X.size : Int) := by omega
      have d3 : (0 : Int) ≤ (ke : Int) := by omega
      have d4 : (ke : Int) ≤ (X.size : Int) := by omega
      have hfz : W9.frozen? ⟨q, j, none⟩ = false := (show Blk W9 _ _ _ from HFr.out).frozen j; go_upto_region 7 with fail
      refine Kah 15 (by kernel_rfl) (by kernel_rfl) ?_; simp only [List.take_succ_cons, List.take_zero, List.drop_succ_cons, List.drop_zero]
      repeat (go_big_quiet_step (fail))
      refine wpQuiet_nil ?_; rintro w10 ⟨⟨_, hb10⟩, rfl⟩; replace HFr := Jh (HFr.out.below hb10); replace HRr := Jh (HRr.out.below hb10); replace HBR := Jh (HBR.out.trans (hb10.mono HBR.out.size)); clear hb10 hq7 hU7 g0 m3 hfz; have g0 := HGX.out w10 HFr.out; have hfz : w10.frozen? ⟨q, j, none⟩ = false := (show Blk w10 _ _ _ from HFr.out).frozen j; obtain ⟨Y, hY⟩ : ∃ Y, X.extract 0 ka ++ I ++ X.extract ke X.size = Y := ⟨_, rfl⟩
      have hYz : Y.size ≤ Z + Trn.len (l.take (i + 1)) := by
       rw [← hY, ByteArray.size_append, hs3, hs2, HST.out]; have := HXZ.out; omega
      rw [hY]
      have HNW : Hid (∃ T0' T1' T2', (T0'.size ≤ Z + Trn.len (l.take (i + 1)) ∧ T1'.size ≤ Z + Trn.len (l.take (i + 1)) ∧ T2'.size ≤ Z + Trn.len (l.take (i + 1))) ∧ FBox q T0' T1' T2' (w10.setCell ⟨q, j, none⟩ (.string Y))) := Jh (by
       have hk := show Blk w10 _ _ _ from HFr.out
       have hz := HTS.out; have hst := HST.out; rcases (by have := HJ.out; omega : j = 0 ∨ j = 1 ∨ j = 2) with rfl | rfl | rfl
       ·exact ⟨Y, T1, T2, ⟨hYz, by omega, by omega⟩, hk.set_ 0 (.string Y)⟩
       ·exact ⟨T0, Y, T2, ⟨by omega, hYz, by omega⟩, hk.set_ 1 (.string Y)⟩
       ·exact ⟨T0, T1, Y, ⟨by omega, by omega, hYz⟩, hk.set_ 2 (.string Y)⟩)
      have HRZ := Jh (show FBox (q + 1) ⟨#[]⟩ ⟨#[]⟩ ⟨#[]⟩ (w10.setCell ⟨q, j, none⟩ (.string Y)) from Blk.far (show Blk w10 _ _ _ from HRr.out) (by simp) _); have HBZ := Jh (show Below w.heap.size w (w10.setCell ⟨q, j, none⟩ (.string Y)) from HBR.out.setCell (p := ⟨q, j, none⟩) (by have := HQ.out; show w.heap.size ≤ q; omega) _); clear hY hYz; go_wp2_with fail
      go_roundg (gk - 1)
      case measure => have := HIG.out; omega
      case rel =>
       obtain ⟨T0', T1', T2', h1, h2⟩ := HNW.out; exact ⟨i + 1, T0', T1', T2', by have := HIG.out; omega, by first | rfl | go_num, h1, h2, HRZ.out, HBZ.out⟩
  ·have el : decide ((i : Int) < (k : Int)) = false := by simp; omega
   have hik2 : i = k := by have := HIG.out; omega
   subst hik2; have htl : l.take i = l := List.take_of_length_le (by rw [HKL.out]; exact Nat.le_refl _); have hts := HTS.out; rw [htl] at hts; have HTT := Jh hts; have u0 := (show Blk wo _ _ _ from HFr.out).cell 0; have u1 := (show Blk wo _ _ _ from HFr.out).cell 1; have u2 := (show Blk wo _ _ _ from HFr.out).cell 2; simp at u0 u1 u2; clear htl hts; have hkr := show Blk wo _ _ _ from HRr.out
   have e0 := hkr.frozen 0; have e1 := hkr.frozen 1; have e2 := hkr.frozen 2; have g0 : wo.cell? ⟨q + 1, 0, none⟩ = some (.string ⟨#[]⟩) := hkr.cell 0; have g1 : wo.cell? ⟨q + 1, 1, none⟩ = some (.string ⟨#[]⟩) := hkr.cell 1; have g2 : wo.cell? ⟨q + 1, 2, none⟩ = some (.string ⟨#[]⟩) := hkr.cell 2; have HKR := Jh hkr; clear hkr; go_wp2_with fail
   refine bodyPost_ret (Kdg rfl _ _ ⟨q + 1, 0, none⟩ (.agg #[.string T0, .string T1, .string T2]) rfl (run_loadVar_row _ (q + 1) 44 44 _ (0, 0) _ (((HKR.out.set_ 0 _).set_ 1 _).set_ 2 _) Tryz.underlying44 rfl (by kernel_rfl))) rfl ?_; exact ⟨⟨T0, T1, T2, rfl, HTT.out⟩, ((HBR.out.setCell (p := ⟨q + 1, 0, none⟩) (by have := HQ.out; show w.heap.size ≤ q + 1; omega) _).setCell (p := ⟨q + 1, 1, none⟩) (by have := HQ.out; show w.heap.size ≤ q + 1; omega) _).setCell (p := ⟨q + 1, 2, none⟩) (by have := HQ.out; show w.heap.size ≤ q + 1; omega) _⟩
end
end Go.Proofs.YtdoiekknhnbepaaGreatDoor
