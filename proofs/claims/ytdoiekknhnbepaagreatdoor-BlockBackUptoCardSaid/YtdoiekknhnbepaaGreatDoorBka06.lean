/- Merged (what the claim wants of): AggWalksB, BlkPlain5, BlkPlain6, UnpWalksA, UnpWalksB, UnpWalksC, PostWalksA, AggWalksC, PostWalksB, SymDecW, BlkTake2. -/
import Derived.Test.YtdoiekknhnbepaaGreatDoorBka05
import Derived.Test.YtdoiekknhnbepaaGreatDoorBka02
import Derived.Laws.Bits64
import Derived.Test.YtdoiekknhnbepaaGreatDoorBka04
import Derived.Test.YtdoiekknhnbepaaGreatDoorBka03
import Derived.OneCell
import Derived.Maps.AppendAt
import Derived.Deep.Onto
set_option linter.unusedVariables false
set_option linter.unusedSimpArgs false
namespace Go.Proofs.YtdoiekknhnbepaaGreatDoor
open Go.RowKit
open Lib renaming hid → Jh
open List renaming length_append → Jd
attribute [local go_sem ↓] Go.wp_at_zero Go.wp_at_succ
attribute [local go_sem] Later.cell
def aggE : Wnd → Bool → List Wnd → Nat
 | _, _, [] => 0
 | a, first, w :: l => if Kcw w a first ≠ 0 then Kcw w a first else aggE w false l
theorem Kkg : ∀ (l : List Wnd) (a : Wnd) (first : Bool), aggE a first l = 0 ↔ Kbx a first l = true
 | [], _, _ => by simp [aggE, Kbx]
 | w :: l, a, first => by
  have ih := Kkg l w false; have h := Kgh w a first
  rw [aggE, Kbx, Bool.and_eq_true, decide_eq_true_eq, ← h, ← ih]
  by_cases h0 : Kcw w a first = 0
  ·rw [if_neg (by simp [h0])]; simp [h0]
  ·rw [if_pos h0]; simp [h0]
def aggO (l : List Wnd) : List UInt8 × Nat := if aggE wnd0 true l = 0 then (aggT l, 0) else ([], aggE wnd0 true l)
def fldsT (a x : Wnd) (k : Nat) : List UInt8 := ([uintT (x.sum ^^^ a.sum), uintT (x.min ^^^ a.min), uintT (x.max ^^^ a.max), uintT (x.last ^^^ a.last)].take k).flatten
theorem Kol (a x : Wnd) : fldsT a x 1 = fldsT a x 0 ++ uintT (x.sum ^^^ a.sum) := by simp [fldsT]
theorem Knp (a x : Wnd) : fldsT a x 2 = fldsT a x 1 ++ uintT (x.min ^^^ a.min) := by simp [fldsT]
theorem Kox (a x : Wnd) : fldsT a x 3 = fldsT a x 2 ++ uintT (x.max ^^^ a.max) := by simp [fldsT]
theorem Knj (a x : Wnd) : fldsT a x 4 = fldsT a x 3 ++ uintT (x.last ^^^ a.last) := by simp [fldsT]
theorem Qdj (a x : Wnd) : wndT a x = uintT (x.start - a.start).toNat ++ (uintT x.count.toNat ++ fldsT a x 4) := by simp [wndT, fldsT]
theorem Bld.set {B b p i : Nat} {l : List UInt8} {T : TypeId} {cs : Array Value} {w : World} (h : Bld B b l w) (hp : Blk w p T cs) (hT : T ≠ 5) (hpb : b ≠ p) (u : Value) : Bld B b l (w.setCell ⟨p, i, none⟩ u) := by
 have key : ∀ x, Lib.BuilderAtF 109 5 B b x (Lib.byteCells l) w → Lib.BuilderAtF 109 5 B b x (Lib.byteCells l) (w.setCell ⟨p, i, none⟩ u) := by
  rintro x ⟨h1, v, h2, h3, h4⟩
  have hne : v.ownBlock ≠ some p := by
   intro e; rcases h3.2 with ⟨rfl, _⟩ | ⟨g, cap, cur, fz, rfl, _, hg, _⟩
   ·cases e
   ·injection e with e; have e : g = p := e; subst e; unfold Blk at hp; rw [hg] at hp; injection hp with hp; injection hp with _ hp; exact hT hp.symm
  exact ⟨h1, v, Blk.far h2 (p := ⟨p, i, none⟩) hpb u, h3.kept (row := some p) ⟨rfl, rfl, rfl, by simp [World.setCell], fun k _ hk => Below.heap_setCell _ _ _ _ (fun e => hk (by rw [e]))⟩ (.inr hne), h4⟩
 rcases h with h | h
 ·exact .inl (key _ h)
 ·exact .inr (key _ h)
theorem Kpy : 0 ≤ wnd0.start ∧ wnd0.start ≤ 1125899906842624 ∧ Kaz wnd0 := ⟨by decide, by decide, by decide, by decide, by decide, by decide⟩
def lastW : Wnd → List Wnd → Wnd
 | a, [] => a
 | _, w :: l => lastW w l
theorem Kop : ∀ (l : List Wnd) (a x : Wnd), lastW a (l ++ [x]) = x
 | [], _, _ => rfl
 | _ :: l, _, x => Kop l _ x
theorem Knb : ∀ (l : List Wnd) (a x : Wnd), wndsT a (l ++ [x]) = wndsT a l ++ wndT (lastW a l) x
 | [], a, x => by simp [wndsT, lastW]
 | w :: l, a, x => by rw [List.cons_append, wndsT, wndsT, Knb l, lastW, List.append_assoc]
set_option maxRecDepth 100000 in
set_option maxHeartbeats 4000000 in
theorem Kjj (l : List Wnd) (A : Option Addr) (n cap : Nat) (w : World) (hE : Elems w w.heap.size 6 Kat A n l) (hn : n ≤ 1099511627776) (hv : ∀ x ∈ l, Kaz x) :
  Calls Tryz.prog 118 #[.slice A n cap] w fun e w' => e = .returned (.tuple #[.string ⟨(aggO l).1.toArray⟩, .int .i64 ((aggO l).2 : Nat)]) ∧ Below w.heap.size w w' := by
 have hlen := hE.len; have HE := Jh hE; have HV := Jh hv; have HLEN := Jh hlen; obtain ⟨E, hEE⟩ : ∃ E, aggE wnd0 true l = E := ⟨_, rfl⟩; have HEE := Jh hEE; have HUN := Jh (fun w => Kax n (by omega) w); have h0 : Bld w.heap.size w.heap.size [] (w.alloc (.cells #[.pointer none, .slice none 0 0] 109)) := Bld.new w (Nat.le_refl _); have hb0 : Below w.heap.size w (w.alloc (.cells #[.pointer none, .slice none 0 0] 109)) := (Below.refl _ _).alloc (Nat.le_refl _) _; have hs0 : (w.alloc (.cells #[.pointer none, .slice none 0 0] 109)).heap.size = w.heap.size + 1 := by simp
 clear hE hv hEE hlen; go_enter Tryz.func118, Tryz.ntmps118
 go_upto_region 2 with fail
 obtain ⟨w1, hw1⟩ : ∃ w1, w.alloc (.cells #[.pointer none, .slice none 0 0] 109) = w1 := ⟨_, rfl⟩; rw [hw1] at h0 hb0 hs0; rw [hw1]; obtain ⟨b, hb⟩ : ∃ b, w.heap.size = b := ⟨_, rfl⟩; rw [hb] at h0 hb0 hs0 HE ⊢; have HB := Jh hb; have HL1 := Jh h0; have HB1 := Jh hb0; clear hw1 h0 hb0 hb; go_wp2_with fail
 refine (HUN.out w1).mono ?_; rintro _ w2 ⟨rfl, hb2⟩; have HL2 := Jh (HL1.out.below hb2); have HB2 := Jh (HB1.out.trans (hb2.mono (by omega))); have hB2 : b ≤ w2.heap.size := by have := hb2.size; omega
 go_wp2_with fail
 refine (Kba b b [] ⟨(uintT n).toArray⟩ w2 HL2.out (by show 0 + (uintT n).toArray.size ≤ _; have := (Kab n).2; simp only [List.size_toArray]; omega) hB2).mono ?_; rintro _ w3 ⟨rfl, h5, h6, _⟩; have h5 : Bld b b (uintT n) w3 := h5; have hB3 : b ≤ w3.heap.size := Nat.le_trans hB2 h6.size; have hbl := h5.lt; have hc : Below w3.heap.size w3 (w3.alloc (.cells #[.int .i64 wnd0.start, .int .i64 wnd0.count, .int .u64 (wnd0.sum : Int), .int .u64 (wnd0.min : Int), .int .u64 (wnd0.max : Int), .int .u64 (wnd0.last : Int)] 135)) := (Below.refl _ _).alloc (Nat.le_refl _) _; have ha : Blk (w3.alloc (.cells #[.int .i64 wnd0.start, .int .i64 wnd0.count, .int .u64 (wnd0.sum : Int), .int .u64 (wnd0.min : Int), .int .u64 (wnd0.max : Int), .int .u64 (wnd0.last : Int)] 135)) w3.heap.size 135 #[.int .i64 wnd0.start, .int .i64 wnd0.count, .int .u64 (wnd0.sum : Int), .int .u64 (wnd0.min : Int), .int .u64 (wnd0.max : Int), .int .u64 (wnd0.last : Int)] := Blk.new _ _ _; obtain ⟨w4, hw4⟩ : ∃ w4, w3.alloc (.cells #[.int .i64 wnd0.start, .int .i64 wnd0.count, .int .u64 (wnd0.sum : Int), .int .u64 (wnd0.min : Int), .int .u64 (wnd0.max : Int), .int .u64 (wnd0.last : Int)] 135) = w4 := ⟨_, rfl⟩; have hw4' : w3.alloc (.cells #[.int .i64 0, .int .i64 0, .int .u64 0, .int .u64 0, .int .u64 0, .int .u64 0] 135) = w4 := hw4; obtain ⟨ba, hba⟩ : ∃ ba, w3.heap.size = ba := ⟨_, rfl⟩; rw [hw4] at hc ha; rw [hba] at ha; have hbb : b < ba := by omega
 have HL4 := Jh (h5.below hc); have HB4 := Jh ((HB2.out.trans h6).trans (hc.mono hB3)); have HA4 := Jh ha; have HBA := Jh hba; clear h5 h6 hb2 hc ha hw4 hbl; go_upto_region 4 with fail
 try rw [hw4']
 try rw [hba]
 clear hw4' hba; go_wp2_with fail
 go_loopg [19] n (fun g s19 wr => ∃ i : Nat, i + g = n ∧ s19 = .int .i64 (i : Int) ∧ aggE (lastW wnd0 (l.take i)) (decide (i = 0)) (l.drop i) = E ∧ Bld b b (uintT n ++ wndsT wnd0 (l.take i)) wr ∧ Below b w wr ∧ Blk wr ba 135 #[.int .i64 (lastW wnd0 (l.take i)).start, .int .i64 (lastW wnd0 (l.take i)).count, .int .u64 ((lastW wnd0 (l.take i)).sum : Int), .int .u64 ((lastW wnd0 (l.take i)).min : Int), .int .u64 ((lastW wnd0 (l.take i)).max : Int), .int .u64 ((lastW wnd0 (l.take i)).last : Int)] ∧ (0 ≤ (lastW wnd0 (l.take i)).start ∧ (lastW wnd0 (l.take i)).start ≤ 1125899906842624 ∧ Kaz (lastW wnd0 (l.take i))) ∧ (uintT n ++ wndsT wnd0 (l.take i)).length ≤ 11 + 66 * i)
 case atStart => exact ⟨0, by omega, rfl, HEE.out, by simpa [wndsT] using HL4.out, HB4.out, HA4.out, Kpy, by have := (Kab n).2; simp [wndsT]; omega⟩
 case round =>
  obtain ⟨i, hi, rfl, he, hld, hbr, hab, hst, hle⟩ := hrel; have HI := Jh hi; have HEI := Jh he; have HL := Jh hld; have HR := Jh hbr; have HAB := Jh hab; have HST := Jh hst; have HLE := Jh hle; have hBr : b ≤ wr.heap.size := Nat.le_trans (by rw [HB.out]; exact Nat.le_refl _) hbr.size; clear he hld hbr hab hst hle
  by_cases hin : i < n
  ·have hil : i < l.length := by have := HLEN.out; omega
   obtain ⟨bk, off, rfl, hbk, hcell⟩ := HE.out.2 (by omega); have hx : ∀ j v, (Kat l[i])[j]? = some v → wr.cell? ⟨bk, off + i * 6 + j, none⟩ = some v := fun j v hv => (HR.out.cell (p := ⟨bk, off + i * 6 + j, none⟩) hbk).trans (hcell i l[i] (List.getElem?_eq_getElem hil) j v hv)
   have hvi := HV.out l[i] (List.getElem_mem hil); have hdr : l.drop i = l[i] :: l.drop (i + 1) := List.drop_eq_getElem_cons hil; have htk : l.take (i + 1) = l.take i ++ [l[i]] := List.take_succ_eq_append_getElem hil; obtain ⟨x, hxx⟩ : ∃ x, l[i] = x := ⟨_, rfl⟩; rw [hxx] at hx hvi hdr htk; have m0 : wr.cell? ⟨bk, off + i * 6, none⟩ = some (.int .i64 x.start) := hx 0 _ rfl; have m1 : wr.cell? ⟨bk, off + i * 6 + 1, none⟩ = some (.int .i64 x.count) := hx 1 _ rfl; have m2 : wr.cell? ⟨bk, off + i * 6 + 2, none⟩ = some (.int .u64 (x.sum : Int)) := hx 2 _ rfl; have m3 : wr.cell? ⟨bk, off + i * 6 + 3, none⟩ = some (.int .u64 (x.min : Int)) := hx 3 _ rfl; have m4 : wr.cell? ⟨bk, off + i * 6 + 4, none⟩ = some (.int .u64 (x.max : Int)) := hx 4 _ rfl; have m5 : wr.cell? ⟨bk, off + i * 6 + 5, none⟩ = some (.int .u64 (x.last : Int)) := hx 5 _ rfl; have HDR := Jh hdr; have HTK := Jh htk; have HBX := Jh hvi; obtain ⟨a, haa⟩ : ∃ a, lastW wnd0 (l.take i) = a := ⟨_, rfl⟩; rw [haa] at HEI HAB HST; have HAA := Jh haa; obtain ⟨L, hL⟩ : ∃ L, uintT n ++ wndsT wnd0 (l.take i) = L := ⟨_, rfl⟩; rw [hL] at HL HLE; have HLL := Jh hL; have HBA2 : Hid (Kaz a) := Jh HST.out.2.2; have el2 : (i : Int) < (n : Int) := by omega
   clear hi hdr htk hxx haa hL hcell hx hvi; have hc5 : Below wr.heap.size wr (wr.alloc (.cells #[.int .i64 x.start, .int .i64 x.count, .int .u64 (x.sum : Int), .int .u64 (x.min : Int), .int .u64 (x.max : Int), .int .u64 (x.last : Int)] 135)) := (Below.refl _ _).alloc (Nat.le_refl _) _; have hq5 : Blk (wr.alloc (.cells #[.int .i64 x.start, .int .i64 x.count, .int .u64 (x.sum : Int), .int .u64 (x.min : Int), .int .u64 (x.max : Int), .int .u64 (x.last : Int)] 135)) wr.heap.size 135 #[.int .i64 x.start, .int .i64 x.count, .int .u64 (x.sum : Int), .int .u64 (x.min : Int), .int .u64 (x.max : Int), .int .u64 (x.last : Int)] := Blk.new _ _ _; go_upto_region 7 with fail
   obtain ⟨w5, hw5⟩ : ∃ w5, wr.alloc (.cells #[.int .i64 x.start, .int .i64 x.count, .int .u64 (x.sum : Int), .int .u64 (x.min : Int), .int .u64 (x.max : Int), .int .u64 (x.last : Int)] 135) = w5 := ⟨_, rfl⟩; obtain ⟨qw, hqw⟩ : ∃ qw, wr.heap.size = qw := ⟨_, rfl⟩; rw [hw5] at hc5 hq5
   try rw [hw5]
   rw [hqw] at hq5
   try rw [hqw]
   have hqb : ba < qw := by have := HAB.out.lt; omega
   have HL5 := Jh (HL.out.below hc5); have HR5 := Jh (HR.out.trans (hc5.mono hBr)); have HA5 := Jh (HAB.out.below hc5 HAB.out.lt); have HX5 := Jh hq5; have hB5 : b ≤ w5.heap.size := Nat.le_trans hBr hc5.size; have x0 : w5.cell? ⟨qw, 0, none⟩ = some (.int .i64 x.start) := hq5.cell 0; have x1 : w5.cell? ⟨qw, 1, none⟩ = some (.int .i64 x.count) := hq5.cell 1; have x2 : w5.cell? ⟨qw, 2, none⟩ = some (.int .u64 (x.sum : Int)) := hq5.cell 2; have x3 : w5.cell? ⟨qw, 3, none⟩ = some (.int .u64 (x.min : Int)) := hq5.cell 3; have x4 : w5.cell? ⟨qw, 4, none⟩ = some (.int .u64 (x.max : Int)) := hq5.cell 4; have x5 : w5.cell? ⟨qw, 5, none⟩ = some (.int .u64 (x.last : Int)) := hq5.cell 5; have a0 : w5.cell? ⟨ba, 0, none⟩ = some (.int .i64 a.start) := HA5.out.cell 0; have a1 : w5.cell? ⟨ba, 1, none⟩ = some (.int .i64 a.count) := HA5.out.cell 1; have a2 : w5.cell? ⟨ba, 2, none⟩ = some (.int .u64 (a.sum : Int)) := HA5.out.cell 2; have a3 : w5.cell? ⟨ba, 3, none⟩ = some (.int .u64 (a.min : Int)) := HA5.out.cell 3; have a4 : w5.cell? ⟨ba, 4, none⟩ = some (.int .u64 (a.max : Int)) := HA5.out.cell 4; have a5 : w5.cell? ⟨ba, 5, none⟩ = some (.int .u64 (a.last : Int)) := HA5.out.cell 5; clear hc5 hq5 hw5 hqw m0 m1 m2 m3 m4 m5; obtain ⟨fst, hfst⟩ : ∃ fst, decide (i = 0) = fst := ⟨_, rfl⟩; have hf2 : ((i : Int) == 0) = fst := by rw [← hfst]; cases i <;> simp <;> omega
   rw [hfst] at HEI; have HFST := Jh hfst; obtain ⟨se, hse⟩ : ∃ se, Kcw x a fst = se := ⟨_, rfl⟩; have HFO := Jh (Kjn x a fst w5); unfold wndV at HFO; rw [hse] at HFO; have HSE := Jh hse; have hei := HEI.out; rw [HDR.out, aggE, hse] at hei; have hse9 : se ≤ 110 := by (rw [← hse]; unfold Kcw; repeat' split); all_goals omega
   clear hse hfst; go_wp2_with fail
   refine HFO.out.mono ?_; rintro _ w6 ⟨rfl, h6⟩; have HL6 := Jh (HL5.out.below h6); have HR6 := Jh (HR5.out.trans (h6.mono hB5)); have HA6 := Jh (HA5.out.below h6 HA5.out.lt); have HX6 := Jh (HX5.out.below h6 HX5.out.lt); have hB6 : b ≤ w6.heap.size := Nat.le_trans hB5 h6.size; clear h6 x0 x1 x2 x3 x4 x5 a0 a1 a2 a3 a4 a5
   by_cases hs0 : se = 0
   ·subst hs0; rw [if_neg (by simp)] at hei; have HEN := Jh hei; clear hei; have hfo := (Ker x a fst).1 ((Kgh x a fst).1 HSE.out); obtain ⟨k1, k2, k3, k4⟩ := hfo.1; have hst0 := HST.out.1
    have hge : a.start ≤ x.start := by
     rcases hfo.2 with hf | hf
     ·have : i = 0 := by
       have := HFST.out; rw [hf] at this; exact of_decide_eq_true this
      have ha := HAA.out; rw [this] at ha; rw [← ha]; exact k1
     ·omega
    obtain ⟨y1, hy1⟩ : ∃ y1, (x.start - a.start).toNat = y1 := ⟨_, rfl⟩; obtain ⟨y2, hy2⟩ : ∃ y2, x.count.toNat = y2 := ⟨_, rfl⟩; have hy1i : x.start - a.start = (y1 : Int) := by omega
    have hy2i : x.count = (y2 : Int) := by omega
    have hw1 : wrap64 (x.start - a.start) = (y1 : Int) := by unfold wrap64; omega
    have hu1 : IntKind.u64.wrap (y1 : Int) = (y1 : Int) := by rw [IntKind.wrap_u64]; omega
    have hu2 : IntKind.u64.wrap (y2 : Int) = (y2 : Int) := by rw [IntKind.wrap_u64]; omega
    have HU1 := Jh (fun w => Kax y1 (by omega) w); have HU2 := Jh (fun w => Kax y2 (by omega) w); have HY1 := Jh hy1; have HY2 := Jh hy2; have x0 : w6.cell? ⟨qw, 0, none⟩ = some (.int .i64 x.start) := HX6.out.cell 0; have a0 : w6.cell? ⟨ba, 0, none⟩ = some (.int .i64 a.start) := HA6.out.cell 0; clear hy1 hy2; go_wp2_with fail
    refine (HU1.out w6).mono ?_; rintro _ w7 ⟨rfl, h7⟩; have HL7 := Jh (HL6.out.below h7); have HR7 := Jh (HR6.out.trans (h7.mono hB6)); have HA7 := Jh (HA6.out.below h7 HA6.out.lt); have HX7 := Jh (HX6.out.below h7 HX6.out.lt); have hB7 : b ≤ w7.heap.size := Nat.le_trans hB6 h7.size; clear h7; clear x0 a0; go_wp2_with fail
    refine (Kba b b (L) ⟨(uintT y1).toArray⟩ w7 HL7.out (by show _ + (uintT y1).toArray.size ≤ _; have := (Kab y1).2; have := HLE.out; have := HI.out; simp only [List.size_toArray, Jd]; omega) hB7).mono ?_; rintro _ w8 ⟨rfl, h5, h6, h7⟩; have HL8 := Jh h5; have HR8 := Jh (HR7.out.trans h6); have HA8 := Jh (h7.blk HA7.out (by omega) (by decide)); have HX8 := Jh (h7.blk HX7.out (by omega) (by decide)); have hB8 : b ≤ w8.heap.size := Nat.le_trans hB7 h6.size; clear h5 h6 h7; have x1 : w8.cell? ⟨qw, 1, none⟩ = some (.int .i64 (y2 : Int)) := (HX8.out.cell 1).trans (by rw [← hy2i]; rfl); go_wp2_with fail
    refine (HU2.out w8).mono ?_; rintro _ w9 ⟨rfl, h9⟩; have HL9 := Jh (HL8.out.below h9); have HR9 := Jh (HR8.out.trans (h9.mono hB8)); have HA9 := Jh (HA8.out.below h9 HA8.out.lt); have HX9 := Jh (HX8.out.below h9 HX8.out.lt); have hB9 : b ≤ w9.heap.size := Nat.le_trans hB8 h9.size; clear h9; clear x1; go_wp2_with fail
    refine (Kba b b (L ++ uintT y1) ⟨(uintT y2).toArray⟩ w9 HL9.out (by show _ + (uintT y2).toArray.size ≤ _; have := (Kab y2).2; have := HLE.out; have := HI.out; simp only [List.size_toArray, Jd]; have := (Kab y1).2; omega) hB9).mono ?_; rintro _ w10 ⟨rfl, h5, h6, h7⟩; have HL10 := Jh (show Bld b b (L ++ uintT y1 ++ uintT y2) w10 from h5); have HR10 := Jh (HR9.out.trans h6); have HA10 := Jh (h7.blk HA9.out (by omega) (by decide)); have HX10 := Jh (h7.blk HX9.out (by omega) (by decide)); have hB10 : b ≤ w10.heap.size := Nat.le_trans hB9 h6.size; clear h5 h6 h7; go_wp2_with fail
    refine (Kgz ba w10).mono ?_; rintro _ w11 ⟨rfl, h11⟩; have HL11 := Jh (HL10.out.below h11); have HR11 := Jh (HR10.out.trans (h11.mono hB10)); have HA11 := Jh (HA10.out.below h11 HA10.out.lt); have HX11 := Jh (HX10.out.below h11 HX10.out.lt); have hB11 : b ≤ w11.heap.size := Nat.le_trans hB10 h11.size; clear h11; unfold fldsV; have hc12 : Below w11.heap.size w11 (w11.alloc (.cells #[.pointer (some ⟨ba, 2, none⟩), .pointer (some ⟨ba, 3, none⟩), .pointer (some ⟨ba, 4, none⟩), .pointer (some ⟨ba, 5, none⟩)] 246)) := (Below.refl _ _).alloc (Nat.le_refl _) _; have hq12 : Blk (w11.alloc (.cells #[.pointer (some ⟨ba, 2, none⟩), .pointer (some ⟨ba, 3, none⟩), .pointer (some ⟨ba, 4, none⟩), .pointer (some ⟨ba, 5, none⟩)] 246)) w11.heap.size 246 #[.pointer (some ⟨ba, 2, none⟩), .pointer (some ⟨ba, 3, none⟩), .pointer (some ⟨ba, 4, none⟩), .pointer (some ⟨ba, 5, none⟩)] := Blk.new _ _ _; go_upto_region 13 with fail
    obtain ⟨w12, hw12⟩ : ∃ w12, w11.alloc (.cells #[.pointer (some ⟨ba, 2, none⟩), .pointer (some ⟨ba, 3, none⟩), .pointer (some ⟨ba, 4, none⟩), .pointer (some ⟨ba, 5, none⟩)] 246) = w12 := ⟨_, rfl⟩; obtain ⟨qo, hqo⟩ : ∃ qo, w11.heap.size = qo := ⟨_, rfl⟩; rw [hw12] at hc12 hq12
    try rw [hw12]
    rw [hqo] at hq12
    try rw [hqo]
    have hqob : ba < qo := by have := HA11.out.lt; omega
    clear hw12 hqo; have HL12 := Jh (HL11.out.below hc12); have HR12 := Jh (HR11.out.trans (hc12.mono hB11)); have HA12 := Jh (HA11.out.below hc12 HA11.out.lt); have HX12 := Jh (HX11.out.below hc12 HX11.out.lt); have hB12 : b ≤ w12.heap.size := Nat.le_trans hB11 hc12.size; clear hc12; go_wp2_with fail
    refine (Kgz qw w12).mono ?_; rintro _ w13 ⟨rfl, h13⟩; have HQO13 := Jh (hq12.below h13 hq12.lt); have HL13 := Jh (HL12.out.below h13); have HR13 := Jh (HR12.out.trans (h13.mono hB12)); have HA13 := Jh (HA12.out.below h13 HA12.out.lt); have HX13 := Jh (HX12.out.below h13 HX12.out.lt); have hB13 : b ≤ w13.heap.size := Nat.le_trans hB12 h13.size; clear h13; unfold fldsV; obtain ⟨L2, hL2⟩ : ∃ L2, L ++ uintT y1 ++ uintT y2 = L2 := ⟨_, rfl⟩; rw [hL2] at HL13
    have hl2 : L2.length ≤ 11 + 66 * i + 22 := by
     rw [← hL2, Jd, Jd]; have := HLE.out; have := (Kab y1).2; have := (Kab y2).2; omega
    have HL2E := Jh hL2; clear hL2 hq12; have ipt0 : ∀ w : World, (Instr.index 246 (.agg #[.pointer (some ⟨qw, 2, none⟩), .pointer (some ⟨qw, 3, none⟩), .pointer (some ⟨qw, 4, none⟩), .pointer (some ⟨qw, 5, none⟩)]) (.int .i64 0)).run Tryz.prog w = .ok (.pointer (some ⟨qw, 2, none⟩)) w := fun w => by kernel_rfl
    have ipt1 : ∀ w : World, (Instr.index 246 (.agg #[.pointer (some ⟨qw, 2, none⟩), .pointer (some ⟨qw, 3, none⟩), .pointer (some ⟨qw, 4, none⟩), .pointer (some ⟨qw, 5, none⟩)]) (.int .i64 1)).run Tryz.prog w = .ok (.pointer (some ⟨qw, 3, none⟩)) w := fun w => by kernel_rfl
    have ipt2 : ∀ w : World, (Instr.index 246 (.agg #[.pointer (some ⟨qw, 2, none⟩), .pointer (some ⟨qw, 3, none⟩), .pointer (some ⟨qw, 4, none⟩), .pointer (some ⟨qw, 5, none⟩)]) (.int .i64 2)).run Tryz.prog w = .ok (.pointer (some ⟨qw, 4, none⟩)) w := fun w => by kernel_rfl
    have ipt3 : ∀ w : World, (Instr.index 246 (.agg #[.pointer (some ⟨qw, 2, none⟩), .pointer (some ⟨qw, 3, none⟩), .pointer (some ⟨qw, 4, none⟩), .pointer (some ⟨qw, 5, none⟩)]) (.int .i64 3)).run Tryz.prog w = .ok (.pointer (some ⟨qw, 5, none⟩)) w := fun w => by kernel_rfl
    go_upto_block 2 with fail
    go_cut [] (fun wx => Bld b b (L2 ++ fldsT a x 4) wx ∧ Below b w wx ∧ Blk wx ba 135 #[.int .i64 a.start, .int .i64 a.count, .int .u64 (a.sum : Int), .int .u64 (a.min : Int), .int .u64 (a.max : Int), .int .u64 (a.last : Int)] ∧ Blk wx qw 135 #[.int .i64 x.start, .int .i64 x.count, .int .u64 (x.sum : Int), .int .u64 (x.min : Int), .int .u64 (x.max : Int), .int .u64 (x.last : Int)])
    case first =>
     go_wp2_with fail
     go_loopg [47] 4 (fun g s47 wr2 => ∃ k : Nat, k + g = 4 ∧ s47 = .int .i64 (k : Int) ∧ k ≤ 4 ∧ Bld b b (L2 ++ fldsT a x k) wr2 ∧ (L2 ++ fldsT a x k).length ≤ 11 + 66 * i + 22 + 11 * k ∧ Below b w wr2 ∧ Blk wr2 ba 135 #[.int .i64 a.start, .int .i64 a.count, .int .u64 (a.sum : Int), .int .u64 (a.min : Int), .int .u64 (a.max : Int), .int .u64 (a.last : Int)] ∧ Blk wr2 qw 135 #[.int .i64 x.start, .int .i64 x.count, .int .u64 (x.sum : Int), .int .u64 (x.min : Int), .int .u64 (x.max : Int), .int .u64 (x.last : Int)] ∧ Blk wr2 qo 246 #[.pointer (some ⟨ba, 2, none⟩), .pointer (some ⟨ba, 3, none⟩), .pointer (some ⟨ba, 4, none⟩), .pointer (some ⟨ba, 5, none⟩)])
     case atStart => exact ⟨0, rfl, rfl, by omega, by simpa [fldsT] using HL13.out, by simp [fldsT]; omega, HR13.out, HA13.out, HX13.out, HQO13.out⟩
     case round =>
      obtain ⟨k, hk, rfl, hk4, hl2r, hle2, hr2, ha2, hx2, hqo2⟩ := hrel; have HL2 := Jh hl2r; have HLE2 := Jh hle2; have HR2 := Jh hr2; have HA2 := Jh ha2; have HX2 := Jh hx2; have HQO2 := Jh hqo2; have hIn := HI.out; have hBr2 : b ≤ wr.heap.size := Nat.le_trans (by rw [HB.out]; exact Nat.le_refl _) hr2.size; clear hl2r hle2 hr2 ha2 hx2 hqo2; rcases (by omega : k = 0 ∨ k = 1 ∨ k = 2 ∨ k = 3 ∨ k = 4) with rfl | rfl | rfl | rfl | rfl
      ·obtain rfl : gk = 4 := by omega
       have o0 : wr.cell? ⟨qo, 0, none⟩ = some (.pointer (some ⟨ba, 2, none⟩)) := HQO2.out.cell 0; have a0 : wr.cell? ⟨ba, 2, none⟩ = some (.int .u64 (a.sum : Int)) := HA2.out.cell 2; have x0 : wr.cell? ⟨qw, 2, none⟩ = some (.int .u64 (x.sum : Int)) := HX2.out.cell 2; have hxo : bits .xor .u64 (x.sum : Int) (a.sum : Int) = ((x.sum ^^^ a.sum : Nat) : Int) := bits_xor_u64_nat _ _ (by have := HBX.out.1; omega) (by have := HBA2.out.1; omega); have hxl : x.sum ^^^ a.sum < 2 ^ 64 := Nat.xor_lt_two_pow HBX.out.1 HBA2.out.1; obtain ⟨y, hy⟩ : ∃ y, x.sum ^^^ a.sum = y := ⟨_, rfl⟩; rw [hy] at hxo hxl; have HY := Jh hy; have HU := Jh (fun w => Kax y hxl w); have lt1 := HA2.out.lt; have lt2 := HX2.out.lt; have lt3 := HQO2.out.lt; clear hy; go_upto_region 16 with fail
       refine Kai 10 (by kernel_rfl) (by kernel_rfl) ?_; simp only [List.take_succ_cons, List.take_zero, List.drop_succ_cons, List.drop_zero]
       repeat (go_big_quiet_step ((go_at_call 42; exact Kal _ (HU.out _))))
       refine wpQuiet_nil ?_; rintro w4 ⟨⟨_, hb4⟩, rfl⟩; have HL4 := Jh (HL2.out.below hb4); have HR4 := Jh (HR2.out.trans (hb4.mono hBr2)); have HA4 := Jh (HA2.out.below hb4 HA2.out.lt); have HX4 := Jh (HX2.out.below hb4 HX2.out.lt); have HQO4 := Jh (HQO2.out.below hb4 HQO2.out.lt); have hB4 : b ≤ w4.heap.size := Nat.le_trans hBr2 hb4.size; clear hb4 o0 a0 x0 lt1 lt2 lt3; go_wp2_with fail
       refine (Kba b b _ ⟨(uintT y).toArray⟩ w4 HL4.out (by show _ + (uintT y).toArray.size ≤ _; have := (Kab y).2; have := HLE2.out; simp only [List.size_toArray]; omega) hB4).mono ?_; rintro _ w5 ⟨rfl, h5, h6, h7⟩; have HL5 := Jh h5; have HR5 := Jh (HR4.out.trans h6); have HA5 := Jh (h7.blk HA4.out (by omega) (by decide)); have HX5 := Jh (h7.blk HX4.out (by omega) (by decide)); have HQO5 := Jh (h7.blk HQO4.out (by omega) (by decide)); clear h5 h6 h7; go_wp2_with fail
       go_roundg 3
       case measure => omega
       case rel =>
        refine ⟨1, rfl, rfl, by omega, ?_, ?_, HR5.out, HA5.out, HX5.out, HQO5.out⟩
        ·rw [Kol, HY.out, ← List.append_assoc]; exact HL5.out
        ·rw [Kol, HY.out, Jd, Jd]; have := HLE2.out; rw [Jd] at this; have := (Kab y).2; omega
      ·obtain rfl : gk = 3 := by omega
       have o0 : wr.cell? ⟨qo, 1, none⟩ = some (.pointer (some ⟨ba, 3, none⟩)) := HQO2.out.cell 1; have a0 : wr.cell? ⟨ba, 3, none⟩ = some (.int .u64 (a.min : Int)) := HA2.out.cell 3; have x0 : wr.cell? ⟨qw, 3, none⟩ = some (.int .u64 (x.min : Int)) := HX2.out.cell 3; have hxo : bits .xor .u64 (x.min : Int) (a.min : Int) = ((x.min ^^^ a.min : Nat) : Int) := bits_xor_u64_nat _ _ (by have := HBX.out.2.1; omega) (by have := HBA2.out.2.1; omega); have hxl : x.min ^^^ a.min < 2 ^ 64 := Nat.xor_lt_two_pow HBX.out.2.1 HBA2.out.2.1; obtain ⟨y, hy⟩ : ∃ y, x.min ^^^ a.min = y := ⟨_, rfl⟩; rw [hy] at hxo hxl; have HY := Jh hy; have HU := Jh (fun w => Kax y hxl w); have lt1 := HA2.out.lt; have lt2 := HX2.out.lt; have lt3 := HQO2.out.lt; clear hy; go_upto_region 16 with fail
       refine Kai 10 (by kernel_rfl) (by kernel_rfl) ?_; simp only [List.take_succ_cons, List.take_zero, List.drop_succ_cons, List.drop_zero]
       repeat (go_big_quiet_step ((go_at_call 42; exact Kal _ (HU.out _))))
       refine wpQuiet_nil ?_; rintro w4 ⟨⟨_, hb4⟩, rfl⟩; have HL4 := Jh (HL2.out.below hb4); have HR4 := Jh (HR2.out.trans (hb4.mono hBr2)); have HA4 := Jh (HA2.out.below hb4 HA2.out.lt); have HX4 := Jh (HX2.out.below hb4 HX2.out.lt); have HQO4 := Jh (HQO2.out.below hb4 HQO2.out.lt); have hB4 : b ≤ w4.heap.size := Nat.le_trans hBr2 hb4.size; clear hb4 o0 a0 x0 lt1 lt2 lt3; go_wp2_with fail
       refine (Kba b b _ ⟨(uintT y).toArray⟩ w4 HL4.out (by show _ + (uintT y).toArray.size ≤ _; have := (Kab y).2; have := HLE2.out; simp only [List.size_toArray]; omega) hB4).mono ?_; rintro _ w5 ⟨rfl, h5, h6, h7⟩; have HL5 := Jh h5; have HR5 := Jh (HR4.out.trans h6); have HA5 := Jh (h7.blk HA4.out (by omega) (by decide)); have HX5 := Jh (h7.blk HX4.out (by omega) (by decide)); have HQO5 := Jh (h7.blk HQO4.out (by omega) (by decide)); clear h5 h6 h7; go_wp2_with fail
       go_roundg 2
       case measure => omega
       case rel =>
        refine ⟨2, rfl, rfl, by omega, ?_, ?_, HR5.out, HA5.out, HX5.out, HQO5.out⟩
        ·rw [Knp, HY.out, ← List.append_assoc]; exact HL5.out
        ·rw [Knp, HY.out, Jd, Jd]; have := HLE2.out; rw [Jd] at this; have := (Kab y).2; omega
      ·obtain rfl : gk = 2 := by omega
       have o0 : wr.cell? ⟨qo, 2, none⟩ = some (.pointer (some ⟨ba, 4, none⟩)) := HQO2.out.cell 2; have a0 : wr.cell? ⟨ba, 4, none⟩ = some (.int .u64 (a.max : Int)) := HA2.out.cell 4; have x0 : wr.cell? ⟨qw, 4, none⟩ = some (.int .u64 (x.max : Int)) := HX2.out.cell 4; have hxo : bits .xor .u64 (x.max : Int) (a.max : Int) = ((x.max ^^^ a.max : Nat) : Int) := bits_xor_u64_nat _ _ (by have := HBX.out.2.2.1; omega) (by have := HBA2.out.2.2.1; omega); have hxl : x.max ^^^ a.max < 2 ^ 64 := Nat.xor_lt_two_pow HBX.out.2.2.1 HBA2.out.2.2.1; obtain ⟨y, hy⟩ : ∃ y, x.max ^^^ a.max = y := ⟨_, rfl⟩; rw [hy] at hxo hxl; have HY := Jh hy; have HU := Jh (fun w => Kax y hxl w); have lt1 := HA2.out.lt; have lt2 := HX2.out.lt; have lt3 := HQO2.out.lt; clear hy; go_upto_region 16 with fail
       refine Kai 10 (by kernel_rfl) (by kernel_rfl) ?_; simp only [List.take_succ_cons, List.take_zero, List.drop_succ_cons, List.drop_zero]
       repeat (go_big_quiet_step ((go_at_call 42; exact Kal _ (HU.out _))))
       refine wpQuiet_nil ?_; rintro w4 ⟨⟨_, hb4⟩, rfl⟩; have HL4 := Jh (HL2.out.below hb4); have HR4 := Jh (HR2.out.trans (hb4.mono hBr2)); have HA4 := Jh (HA2.out.below hb4 HA2.out.lt); have HX4 := Jh (HX2.out.below hb4 HX2.out.lt); have HQO4 := Jh (HQO2.out.below hb4 HQO2.out.lt); have hB4 : b ≤ w4.heap.size := Nat.le_trans hBr2 hb4.size; clear hb4 o0 a0 x0 lt1 lt2 lt3; go_wp2_with fail
       refine (Kba b b _ ⟨(uintT y).toArray⟩ w4 HL4.out (by show _ + (uintT y).toArray.size ≤ _; have := (Kab y).2; have := HLE2.out; simp only [List.size_toArray]; omega) hB4).mono ?_; rintro _ w5 ⟨rfl, h5, h6, h7⟩; have HL5 := Jh h5; have HR5 := Jh (HR4.out.trans h6); have HA5 := Jh (h7.blk HA4.out (by omega) (by decide)); have HX5 := Jh (h7.blk HX4.out (by omega) (by decide)); have HQO5 := Jh (h7.blk HQO4.out (by omega) (by decide)); clear h5 h6 h7; go_wp2_with fail
       go_roundg 1
       case measure => omega
       case rel =>
        refine ⟨3, rfl, rfl, by omega, ?_, ?_, HR5.out, HA5.out, HX5.out, HQO5.out⟩
        ·rw [Kox, HY.out, ← List.append_assoc]; exact HL5.out
        ·rw [Kox, HY.out, Jd, Jd]; have := HLE2.out; rw [Jd] at this; have := (Kab y).2; omega
      ·obtain rfl : gk = 1 := by omega
       have o0 : wr.cell? ⟨qo, 3, none⟩ = some (.pointer (some ⟨ba, 5, none⟩)) := HQO2.out.cell 3; have a0 : wr.cell? ⟨ba, 5, none⟩ = some (.int .u64 (a.last : Int)) := HA2.out.cell 5; have x0 : wr.cell? ⟨qw, 5, none⟩ = some (.int .u64 (x.last : Int)) := HX2.out.cell 5; have hxo : bits .xor .u64 (x.last : Int) (a.last : Int) = ((x.last ^^^ a.last : Nat) : Int) := bits_xor_u64_nat _ _ (by have := HBX.out.2.2.2; omega) (by have := HBA2.out.2.2.2; omega); have hxl : x.last ^^^ a.last < 2 ^ 64 := Nat.xor_lt_two_pow HBX.out.2.2.2 HBA2.out.2.2.2; obtain ⟨y, hy⟩ : ∃ y, x.last ^^^ a.last = y := ⟨_, rfl⟩; rw [hy] at hxo hxl; have HY := Jh hy; have HU := Jh (fun w => Kax y hxl w); have lt1 := HA2.out.lt; have lt2 := HX2.out.lt; have lt3 := HQO2.out.lt; clear hy; go_upto_region 16 with fail
       refine Kai 10 (by kernel_rfl) (by kernel_rfl) ?_; simp only [List.take_succ_cons, List.take_zero, List.drop_succ_cons, List.drop_zero]
       repeat (go_big_quiet_step ((go_at_call 42; exact Kal _ (HU.out _))))
       refine wpQuiet_nil ?_; rintro w4 ⟨⟨_, hb4⟩, rfl⟩; have HL4 := Jh (HL2.out.below hb4); have HR4 := Jh (HR2.out.trans (hb4.mono hBr2)); have HA4 := Jh (HA2.out.below hb4 HA2.out.lt); have HX4 := Jh (HX2.out.below hb4 HX2.out.lt); have HQO4 := Jh (HQO2.out.below hb4 HQO2.out.lt); have hB4 : b ≤ w4.heap.size := Nat.le_trans hBr2 hb4.size; clear hb4 o0 a0 x0 lt1 lt2 lt3; go_wp2_with fail
       refine (Kba b b _ ⟨(uintT y).toArray⟩ w4 HL4.out (by show _ + (uintT y).toArray.size ≤ _; have := (Kab y).2; have := HLE2.out; simp only [List.size_toArray]; omega) hB4).mono ?_; rintro _ w5 ⟨rfl, h5, h6, h7⟩; have HL5 := Jh h5; have HR5 := Jh (HR4.out.trans h6); have HA5 := Jh (h7.blk HA4.out (by omega) (by decide)); have HX5 := Jh (h7.blk HX4.out (by omega) (by decide)); have HQO5 := Jh (h7.blk HQO4.out (by omega) (by decide)); clear h5 h6 h7; go_wp2_with fail
       go_roundg 0
       case measure => omega
       case rel =>
        refine ⟨4, rfl, rfl, by omega, ?_, ?_, HR5.out, HA5.out, HX5.out, HQO5.out⟩
        ·rw [Knj, HY.out, ← List.append_assoc]; exact HL5.out
        ·rw [Knj, HY.out, Jd, Jd]; have := HLE2.out; rw [Jd] at this; have := (Kab y).2; omega
      ·obtain rfl : gk = 0 := by omega
       go_wp2_with fail
       go_meet
       exact ⟨HL2.out, HR2.out, HA2.out, HX2.out⟩
    case rest =>
     obtain ⟨hl4, hr4, ha4, hx4⟩ := hcut; have HL9 := Jh hl4; have HR9 := Jh hr4; have HA9 := Jh ha4; have HX9 := Jh hx4; clear hl4 hr4 ha4 hx4; have x0 : wc.cell? ⟨qw, 0, none⟩ = some (.int .i64 x.start) := HX9.out.cell 0; have x1 : wc.cell? ⟨qw, 1, none⟩ = some (.int .i64 x.count) := HX9.out.cell 1; have x2 : wc.cell? ⟨qw, 2, none⟩ = some (.int .u64 (x.sum : Int)) := HX9.out.cell 2; have x3 : wc.cell? ⟨qw, 3, none⟩ = some (.int .u64 (x.min : Int)) := HX9.out.cell 3; have x4 : wc.cell? ⟨qw, 4, none⟩ = some (.int .u64 (x.max : Int)) := HX9.out.cell 4; have x5 : wc.cell? ⟨qw, 5, none⟩ = some (.int .u64 (x.last : Int)) := HX9.out.cell 5; have a0 : wc.cell? ⟨ba, 0, none⟩ = some (.int .i64 a.start) := HA9.out.cell 0; have a1 : wc.cell? ⟨ba, 1, none⟩ = some (.int .i64 a.count) := HA9.out.cell 1; have a2 : wc.cell? ⟨ba, 2, none⟩ = some (.int .u64 (a.sum : Int)) := HA9.out.cell 2; have a3 : wc.cell? ⟨ba, 3, none⟩ = some (.int .u64 (a.min : Int)) := HA9.out.cell 3; have a4 : wc.cell? ⟨ba, 4, none⟩ = some (.int .u64 (a.max : Int)) := HA9.out.cell 4; have a5 : wc.cell? ⟨ba, 5, none⟩ = some (.int .u64 (a.last : Int)) := HA9.out.cell 5; have z0 := HA9.out.frozen 0; have z1 := HA9.out.frozen 1; have z2 := HA9.out.frozen 2; have z3 := HA9.out.frozen 3; have z4 := HA9.out.frozen 4; have z5 := HA9.out.frozen 5; go_wp2_with fail
     have t0 := HA9.out; have g0 := HL9.out; have r0 := HR9.out; have g1 := g0.set (i := 0) t0 (by decide) (by omega) (.int .i64 x.start); have r1 := r0.setCell (p := ⟨ba, 0, none⟩) (by simp; omega) (.int .i64 x.start); have t1 := t0.set_ 0 (.int .i64 x.start); have g2 := g1.set (i := 1) t1 (by decide) (by omega) (.int .i64 (y2 : Int)); have r2 := r1.setCell (p := ⟨ba, 1, none⟩) (by simp; omega) (.int .i64 (y2 : Int)); have t2 := t1.set_ 1 (.int .i64 (y2 : Int)); have g3 := g2.set (i := 2) t2 (by decide) (by omega) (.int .u64 (x.sum : Int)); have r3 := r2.setCell (p := ⟨ba, 2, none⟩) (by simp; omega) (.int .u64 (x.sum : Int)); have t3 := t2.set_ 2 (.int .u64 (x.sum : Int)); have g4 := g3.set (i := 3) t3 (by decide) (by omega) (.int .u64 (x.min : Int)); have r4 := r3.setCell (p := ⟨ba, 3, none⟩) (by simp; omega) (.int .u64 (x.min : Int)); have t4 := t3.set_ 3 (.int .u64 (x.min : Int)); have g5 := g4.set (i := 4) t4 (by decide) (by omega) (.int .u64 (x.max : Int)); have r5 := r4.setCell (p := ⟨ba, 4, none⟩) (by simp; omega) (.int .u64 (x.max : Int)); have t5 := t4.set_ 4 (.int .u64 (x.max : Int)); have g6 := g5.set (i := 5) t5 (by decide) (by omega) (.int .u64 (x.last : Int)); have r6 := r5.setCell (p := ⟨ba, 5, none⟩) (by simp; omega) (.int .u64 (x.last : Int)); have t6 := t5.set_ 5 (.int .u64 (x.last : Int)); have G := Jh g6; have R := Jh r6; have T := Jh t6; clear g0 g1 g2 g3 g4 g5 g6 r0 r1 r2 r3 r4 r5 r6 t0 t1 t2 t3 t4 t5 t6; go_roundg (n - (i + 1))
     case measure => have := HI.out; omega
     case rel =>
      have hT : L2 ++ fldsT a x 4 = uintT n ++ wndsT wnd0 (l.take (i + 1)) := by
       rw [HTK.out, Knb, HAA.out, Qdj, HY1.out, HY2.out, ← HL2E.out, ← HLL.out]; simp
      have hlw : lastW wnd0 (l.take (i + 1)) = x := by rw [HTK.out, Kop]
      refine ⟨i + 1, by have := HI.out; omega, by go_num, ?_, ?_, R.out, ?_, ?_, ?_⟩
      ·rw [hlw, show decide (i + 1 = 0) = false by simp]; exact HEN.out
      ·rw [← hT]; exact G.out
      ·rw [hlw, hy2i]; exact T.out
      ·rw [hlw]; exact ⟨k1, k2, HBX.out⟩
      ·rw [← hT, Jd]; have h1 := hl2
       have h2 : (fldsT a x 4).length ≤ 44 := by
        simp only [fldsT, List.take, List.flatten_cons, List.flatten_nil, Jd, List.length_nil]; have q1 := (Kab (x.sum ^^^ a.sum)).2; have q2 := (Kab (x.min ^^^ a.min)).2; have q3 := (Kab (x.max ^^^ a.max)).2; have q4 := (Kab (x.last ^^^ a.last)).2; omega
       omega
   ·rw [if_pos hs0] at hei; have e0 : ((se : Int) != 0) = true := by simp; omega
    have HEN := Jh hei; have HS0 := Jh hs0; clear hei; go_wp2_with fail
    go_ret2
    unfold aggO; rw [if_neg (by rw [HEE.out, ← HEN.out]; exact HS0.out), HEE.out, ← HEN.out]; exact ⟨rfl, by rw [HB.out]; exact HR6.out⟩
  ·have hi3 : i = n := by have := HI.out; omega
   subst hi3; have htk : l.take i = l := List.take_of_length_le (by have := HLEN.out; omega); have hdr : l.drop i = [] := List.drop_eq_nil_of_le (by have := HLEN.out; omega)
   have hE0 : E = 0 := by
    have := HEI.out; rw [hdr] at this; exact this.symm
   have ho : aggO l = (uintT i ++ wndsT wnd0 l, 0) := by
    unfold aggO; rw [if_pos (by rw [HEE.out, hE0]), aggT, HLEN.out]
   rw [htk] at HL; have HO := Jh ho; have HST2 := Jh (Kdu b b _ wr HL.out hBr); obtain ⟨S, hS⟩ : ∃ S : ByteArray, (⟨(uintT i ++ wndsT wnd0 l).toArray⟩ : ByteArray) = S := ⟨_, rfl⟩; rw [hS] at HST2; have HS := Jh hS; clear ho hS htk hdr hE0; go_wp2_with fail
   refine HST2.out.mono ?_; rintro _ w3 ⟨rfl, h6⟩; go_wp2_with fail
   go_ret2
   rw [HO.out, ← HS.out]; exact ⟨rfl, by rw [HB.out]; exact HR.out.trans h6⟩
end Go.Proofs.YtdoiekknhnbepaaGreatDoor
namespace Go.Proofs.YtdoiekknhnbepaaGreatDoor
open Go.RowKit
def Kdp (S : List (List Lb)) (l : List Lb) (k : Nat) : Lb → List Nat := fun y => if y ∈ l.take k then Kaj S y ++ [S.length] else Kaj S y
theorem Kls (S : List (List Lb)) (l : List Lb) : Kdp S l 0 = Kaj S := by funext y; simp [Kdp]
theorem Khg (S : List (List Lb)) (l : List Lb) (y : Lb) : Kaj (S ++ [l]) y = if y ∈ l then Kaj S y ++ [S.length] else Kaj S y := by
 unfold Kaj; rw [List.length_append, List.length_singleton, List.range_succ, List.filter_append]
 have h1 : (List.range S.length).filter (fun i => decide (y ∈ (S ++ [l]).getD i [])) = (List.range S.length).filter (fun i => decide (y ∈ S.getD i [])) := by
  apply List.filter_congr; intro i hi; rw [List.getD_eq_getElem?_getD, List.getD_eq_getElem?_getD, List.getElem?_append_left (List.mem_range.1 hi)]
 have h2 : (S ++ [l]).getD S.length [] = l := by simp [List.getD_eq_getElem?_getD]
 rw [h1]
 by_cases hy : y ∈ l
 ·rw [if_pos hy, List.filter_cons, List.filter_nil, h2, if_pos (decide_eq_true hy)]
 ·rw [if_neg hy, List.filter_cons, List.filter_nil, h2, if_neg (by simpa using hy), List.append_nil]
theorem Knd (S : List (List Lb)) (l : List Lb) : Kdp S l l.length = Kaj (S ++ [l]) := by
 funext y; rw [Khg, Kdp, List.take_length]
theorem Kwr : Kaj [] = fun _ => [] := rfl
theorem Kft {l : List Lb} (h : Kck l = true) : l.Nodup ∧ l ≠ [] ∧ l.length ≤ 8 ∧ (∀ x ∈ l, x.n.length ≤ 32 ∧ x.v.length ≤ 64) ∧ Kcp l = 0 := by
 have he := Kiq h; unfold Kck at h; rw [Bool.and_eq_true, decide_eq_true_eq, decide_eq_true_eq] at h; obtain ⟨h1, h2⟩ := h; have hm := h1; unfold Kav at h1
 split at h1
 ·cases h1
 ·split at h1
  ·cases h1
  ·rename_i h3 h4
   refine ⟨?_, fun e => h3 (by rw [e]; rfl), by omega, fun x hx => ?_, he⟩
   ·unfold names at h2; rw [List.pairwise_map] at h2; exact h2.imp fun hab e => by subst e; exact List.lt_irrefl _ hab
   ·obtain ⟨a, b⟩ := Kjc h1 x hx; unfold fitN at a; unfold fitV at b; simp only [Bool.and_eq_true, decide_eq_true_eq] at a b; omega
theorem Qfi {c : Cont} {s : Ser} (h : Kdd c s = true) (h0 : 0 ≤ c.frm) (h1 : c.to_ ≤ 1125899906842625) (hv : ∀ x ∈ s.samples, x.v < 2 ^ 64) :
  (∀ p ∈ Kbs s.samples.length s.samples, (Kdh p).1 = Kce p) ∧ (aggO s.windows).1 = aggT s.windows := by
 unfold Kdd at h
 split at h
 ·rename_i hr
  rw [Bool.and_eq_true, decide_eq_true_eq, Kob] at h; obtain ⟨hw, _, hi, hri⟩ := h; have hw0 : s.windows = [] := List.eq_nil_of_length_eq_zero hw; refine ⟨fun p hp => ?_, by rw [hw0]; rfl⟩; have hok := Ksu (fun x hx => (⟨by have := hi x hx; omega, by have := hi x hx; omega, hv x hx⟩ : SmpOk x)) hri hp; have hfit : fitC none 0 p = true := (Kmo p none 0).2 ⟨fun x hx => ⟨(hok.1 x hx).1, (hok.1 x hx).2.1⟩, hok.2.1, fun y x hy => (by cases hy), .inr (by have := hok.2.2; omega)⟩; unfold Kdh; rw [if_pos ((Kkt p).2 hfit)]
 ·rename_i hr
  rw [Bool.and_eq_true, Bool.and_eq_true, decide_eq_true_eq] at h; have hs0 : s.samples = [] := List.eq_nil_of_length_eq_zero h.1.2; refine ⟨fun p hp => by rw [hs0] at hp; simp [Kbs] at hp, ?_⟩; unfold aggO; rw [if_pos ((Kkg _ _ _).2 h.1.1)]
def Kdy {σ : Type} (part : σ → Nat → Option σ) (I : List UInt8) : Nat → σ → Nat → Option (σ × Nat)
 | 0, s, i => some (s, i)
 | k + 1, s, i => match ruAt I i with
  | none => none
  | some (n, i') => match part s n with
   | none => none
   | some s' => Kdy part I k s' i'
def serG {σ : Type} (each : σ → List Lb → σ) (part : σ → Nat → Option σ) (t : List Txt) (I : List UInt8) : Nat → σ → Nat → Option (σ × Nat)
 | 0, s, i => some (s, i)
 | g + 1, s, i => if (unpR t I i).2.2 ≠ 0 then none else match ruAt I (unpR t I i).2.1 with
  | none => none
  | some (k, i2) => match Kdy part I k (each s (unpR t I i).1) i2 with
   | none => none
   | some (s', i3) => serG each part t I g s' i3
def Kdc {σ : Type} (each : σ → List Lb → σ) (part : σ → Nat → Option σ) (I : List UInt8) (s : σ) : Option (σ × Nat) := match tabR I 0 with
 | none => none
 | some (t, i0) => match ruAt I i0 with
  | none => none
  | some (n, i1) => serG each part t I n s i1
def eachP (s : List Ser × Nat) (l : List Lb) : List Ser × Nat := (s.1 ++ [⟨l, [], []⟩], s.2)
def partP (res : Nat) (C : List UInt8) (s : List Ser × Nat) (n : Nat) : Option (List Ser × Nat) :=
 if s.2 + n ≤ C.length then (match decP res (s.1.getLast?.getD ⟨[], [], []⟩) ((C.drop s.2).take n) with | none => none | some a => some (s.1.dropLast ++ [a], s.2 + n)) else none
theorem Kkx (res : Nat) (I C : List UInt8) : ∀ (k : Nat) (out : List Ser) (a : Ser) (i j : Nat),
  Kdy (partP res C) I k (out ++ [a], j) i = (Kgu res I C k a i j).map fun x => ((out ++ [x.1], x.2.2), x.2.1)
 | 0, out, a, i, j => rfl
 | k + 1, out, a, i, j => by
  rw [Kdy, Kgu]
  cases hr : ruAt I i with
  | none => rfl
  | some x =>
   obtain ⟨n, i'⟩ := x; dsimp only; unfold partP; dsimp only; rw [List.getLast?_append, List.dropLast_concat]; simp only [List.getLast?_singleton, Option.some_or, Option.getD_some]
   by_cases hj : j + n ≤ C.length
   ·rw [if_pos hj, if_pos hj]
    cases hd : decP res a ((C.drop j).take n) with
    | none => rfl
    | some a' => exact Kkx res I C k out a' i' (j + n)
   ·rw [if_neg hj, if_neg hj]; rfl
theorem Kom (res : Nat) (t : List Txt) (I C : List UInt8) : ∀ (g : Nat) (out : List Ser) (i j : Nat),
  serG eachP (partP res C) t I g (out, j) i = (sersR t res I C g out i j).map fun x => ((x.1, x.2.2), x.2.1)
 | 0, out, i, j => rfl
 | g + 1, out, i, j => by
  rw [serG, sersR]
  by_cases he : (unpR t I i).2.2 ≠ 0
  ·rw [if_pos he, if_pos he]; rfl
  ·rw [if_neg he, if_neg he]
   cases hr : ruAt I (unpR t I i).2.1 with
   | none => rfl
   | some x =>
    obtain ⟨k, i2⟩ := x; dsimp only; unfold eachP; dsimp only; rw [Kkx]
    cases hp : Kgu res I C k ⟨(unpR t I i).1, [], []⟩ i2 j with
    | none => rfl
    | some y =>
     obtain ⟨s, i3, j3⟩ := y; dsimp only [Option.map_some]; exact Kom res t I C g (out ++ [s]) i3 j3
theorem Qey {f : Fil} {M C I : List UInt8} (h1 : Kau f.mt = .ok M) (h2 : Kau f.ck = .ok C) (h3 : Kau f.ix = .ok I) : Kgc f = match ruAt M 0 with
  | none => none
  | some (r, m1) => match riAt M m1 with
   | none => none
   | some (a, m2) => match riAt M m2 with
    | none => none
    | some (b, _) => (Kdc eachP (partP (min r 9) C) I ([], 0)).map fun x => ⟨(min r 9 : Nat), a, b, x.1.1⟩ := by
 unfold Kgc; rw [h1, h2, h3]; dsimp only
 cases ruAt M 0 with
 | none => rfl
 | some x =>
  obtain ⟨r, m1⟩ := x; dsimp only
  cases riAt M m1 with
  | none => rfl
  | some x =>
   obtain ⟨a, m2⟩ := x; dsimp only
   cases riAt M m2 with
   | none => rfl
   | some x =>
    obtain ⟨b, m3⟩ := x; dsimp only; unfold Kdc
    cases tabR I 0 with
    | none => rfl
    | some x =>
     obtain ⟨t, i0⟩ := x; dsimp only
     cases ruAt I i0 with
     | none => rfl
     | some x =>
      obtain ⟨n, i1⟩ := x; dsimp only; rw [Kom]
      cases sersR t (min r 9) I C n [] i1 0 with
      | none => rfl
      | some x => rfl
theorem Kkd {σ : Type} (s : σ) (I : List UInt8) : ∀ (k i : Nat), Kdy (fun s _ => some s) I k s i = (skipR I k i).map fun i => (s, i)
 | 0, i => rfl
 | k + 1, i => by
  rw [Kdy, skipR]
  cases ruAt I i with
  | none => rfl
  | some x => exact Kkd s I k x.2
theorem Kpc (t : List Txt) (I : List UInt8) : ∀ (g : Nat) (S : List (List Lb)) (i : Nat), serG (fun S l => S ++ [l]) (fun S _ => some S) t I g S i = setsR t I g S i
 | 0, S, i => rfl
 | g + 1, S, i => by
  rw [serG, setsR]
  by_cases he : (unpR t I i).2.2 ≠ 0
  ·rw [if_pos he, if_pos he]
  ·rw [if_neg he, if_neg he]
   cases hr : ruAt I (unpR t I i).2.1 with
   | none => rfl
   | some x =>
    obtain ⟨k, i2⟩ := x; dsimp only; rw [Kkd]
    cases hp : skipR I k i2 with
    | none => rfl
    | some i3 => exact Kpc t I g (S ++ [(unpR t I i).1]) i3
theorem Qed (I : List UInt8) (q : Lb) : Kif I q = match Kdc (fun S l => S ++ [l]) (fun S _ => some S) I [] with
  | none => none
  | some (S, i2) => match ruAt I i2 with
   | none => none
   | some (k, i3) => match keysR I q k [] i3 with
    | none => none
    | some (out, i4) => if i4 = I.length ∧ Kbj S = I.drop i2 then some out else none := by
 unfold Kif Kdc
 cases tabR I 0 with
 | none => rfl
 | some x =>
  obtain ⟨t, i0⟩ := x; dsimp only
  cases ruAt I i0 with
  | none => rfl
  | some x =>
   obtain ⟨n, i1⟩ := x; dsimp only; rw [Kpc]
   first | done | rfl | (cases setsR t I n [] i1 with | none => rfl | some x => rfl)
end Go.Proofs.YtdoiekknhnbepaaGreatDoor
namespace Go.Proofs.YtdoiekknhnbepaaGreatDoor
open Go.RowKit Go.Sort
attribute [local go_sem ↓] Go.wp_at_zero Go.wp_at_succ
attribute [local go_sem] Later.cell
set_option maxRecDepth 100000 in
set_option maxHeartbeats 1000000 in
theorem Kjy (v : Value) (t : List Txt) (s : ByteArray) (k : Int) (w : World) (x : Txt) (n e : Nat) (hr : symR t s.data.toList k = (x, n, e)) (h : TabAt w v t) (hm : t.length * 16 ≤ 140737488351232) (hs : s.size ≤ 140737488351232) :
  Calls Tryz.prog 186 #[v, .string s, .int .i64 k] w fun en w' => en = .returned (.tuple #[txtV x, .int .i64 n, .int .i64 e]) ∧ w = w' := by
 obtain ⟨v1, n1, e1, h1⟩ : ∃ v n e, Kan s.data.toList k = (v, n, e) := ⟨_, _, _, rfl⟩; have H1 := Lib.hid h1; have hlen := Kqx v t w h; obtain ⟨A, c, hs', hc, _, htab⟩ := Khm v t w h; obtain ⟨m, hm'⟩ : ∃ m, t.length = m := ⟨_, rfl⟩; rw [symR, h1] at hr; dsimp only at hr; rw [hm'] at hr hlen hs' hc htab hm; have HLEN := Lib.hid hlen; clear hlen h hm'
 by_cases he : e1 = 0
 ·subst he; rw [if_neg (by simp)] at hr
  by_cases hv : m ≤ v1
  ·rw [if_pos hv] at hr; obtain ⟨rfl, rfl, rfl⟩ : [] = x ∧ 0 = n ∧ 50 = e := by simpa using hr
   have ev : decide ((m : Int) ≤ (v1 : Int)) = true := by simp; omega
   clear hr h1 htab; unfold txtV; go_enter Tryz.func186, Tryz.ntmps186
   go_wp2_with fail
   refine (Kam s k v1 n1 0 H1.out hs w).mono ?_; rintro _ w1 ⟨rfl, rfl⟩; go_wp2_with fail
   refine HLEN.out.mono ?_; rintro _ w1 ⟨rfl, rfl⟩; go_wp2_with fail
   go_ret3
   exact ⟨rfl, rfl⟩
  ·rw [if_neg hv] at hr; obtain ⟨hx, rfl, rfl⟩ : t[v1]! = x ∧ n1 = n ∧ 0 = e := by simpa using hr
   obtain ⟨p, rfl, hp⟩ := htab (by omega); obtain ⟨b, off, rfl, hbl, hcell⟩ := hs'.at_ (i := v1) (by omega); have hp0 : _ = some (Value.slice (some ⟨b, off, none⟩) m c) := hp.cell 0; rw [hx] at hcell; unfold txtV at hcell ⊢; obtain ⟨X, hX⟩ : ∃ X : ByteArray, (⟨x.toArray⟩ : ByteArray) = X := ⟨_, rfl⟩; rw [hX] at hcell ⊢; have ev : decide ((m : Int) ≤ (v1 : Int)) = false := by simp; omega
   clear hr h1 hx hX htab hp; go_enter Tryz.func186, Tryz.ntmps186
   go_wp2_with fail
   refine (Kam s k v1 n1 0 H1.out hs w).mono ?_; rintro _ w1 ⟨rfl, rfl⟩; go_wp2_with fail
   refine HLEN.out.mono ?_; rintro _ w1 ⟨rfl, rfl⟩; go_wp2_with fail
   go_ret3
   exact ⟨rfl, rfl⟩
 ·rw [if_pos he] at hr; obtain ⟨rfl, rfl, rfl⟩ : [] = x ∧ 0 = n ∧ e1 = e := by simpa using hr
  have ee : ((e1 : Int) != 0) = true := by simp; omega
  clear hr h1 htab; unfold txtV; go_enter Tryz.func186, Tryz.ntmps186
  go_wp2_with fail
  refine (Kam s k v1 n1 e1 H1.out hs w).mono ?_; rintro _ w1 ⟨rfl, rfl⟩; go_wp2_with fail
  go_ret3
  exact ⟨rfl, rfl⟩
def Ked (w : World) (R : List Lb × Nat × Nat) (en : Ending) (w' : World) : Prop :=
 ∃ A c, en = .returned (.tuple #[.slice A R.1.length c, .int .i64 (R.2.1 : Nat), .int .i64 (R.2.2 : Nat)]) ∧ Elems w' w'.heap.size 2 encLb A R.1.length R.1 ∧ R.1.length ≤ c ∧ Below w.heap.size w w' ∧ ∀ a, A = some a → w.heap.size ≤ a.block
theorem Ked.bad {w w' : World} {e : Nat} {en : Ending} (h : en = .returned (.tuple #[.slice none 0 0, .int .i64 0, .int .i64 (e : Nat)])) (hB : Below w.heap.size w w') : Ked w ([], 0, e) en w' :=
 ⟨none, 0, h, Elems.nil_, Nat.le_refl _, hB, fun a e => by cases e⟩
theorem Qbo {t : List Txt} {s : List UInt8} {g : Nat} {out : List Lb} {p : Nat} {R : List Lb × Nat × Nat} (h : unpL t s (g + 1) out p = R) {x y : Txt} {n1 e1 n2 e2 : Nat} (h1 : symR t s p = (x, n1, e1)) (h2 : symR t s n1 = (y, n2, e2)) :
  (if e1 ≠ 0 then ([], 0, e1) else if e2 ≠ 0 then ([], 0, e2) else if fitN x = false then ([], 0, 40) else if fitV y = false then ([], 0, 41) else if Kfj out x = true then ([], 0, 42) else unpL t s g (out ++ [⟨x, y⟩]) n2) = R := by
 rw [unpL, h1] at h; dsimp only at h; rw [h2] at h; exact h
end Go.Proofs.YtdoiekknhnbepaaGreatDoor
namespace Go.Proofs.YtdoiekknhnbepaaGreatDoor
open Go.RowKit Go.Sort
open Lib renaming hid → Jh
attribute [local go_sem ↓] Go.wp_at_zero Go.wp_at_succ
attribute [local go_sem] Later.cell
def PLabs (B : Nat) (w : World) (v : Value) (ys : List Lb) : Prop := w.ownsRow B 99 2 v ys.length (ys.flatMap encLb)
theorem Qam {B : Nat} {w : World} {g n cap : Nat} {zs : List Lb} (h : PLabs B w (.slice (some ⟨g, 0, none⟩) n cap) zs) (hl : zs.length = n) {k : Nat} (hk : k < n) :
  w.cell? ⟨g, k * 2, none⟩ = some (.string ⟨zs[k]!.n.toArray⟩) ∧ w.cell? ⟨g, k * 2 + 1, none⟩ = some (.string ⟨zs[k]!.v.toArray⟩) := by
 unfold PLabs at h; rw [hl] at h; refine ⟨?_, ?_⟩
 ·rw [h.cellAt (k * 2) (by omega), Kcy zs _ (by omega), show k * 2 / 2 = k by omega, show k * 2 % 2 = 0 by omega]; rfl
 ·rw [h.cellAt (k * 2 + 1) (by omega), Kcy zs _ (by omega), show (k * 2 + 1) / 2 = k by omega, show (k * 2 + 1) % 2 = 1 by omega]; rfl
theorem Kun {B : Nat} {w : World} {v : Value} {ys : List Lb} (h : PLabs B w v ys) {p i : Nat} (hp : v.ownBlock ≠ some p) (u : Value) : PLabs B (w.setCell ⟨p, i, none⟩ u) v ys :=
 ownsRow_setCell_other h (a := ⟨p, i, none⟩) hp u
theorem Kkk {B : Nat} {w w' : World} (h : Below B w w') {p i : Nat} (hp : B ≤ p) (u : Value) : Below B w (w'.setCell ⟨p, i, none⟩ u) :=
 ⟨h.os, h.tape, h.output, by have := h.size; simpa using this, fun k hk => (Below.heap_setCell w' ⟨p, i, none⟩ u k (fun e => by simp at e; omega)).trans (h.block k hk)⟩
theorem Qgz {w : World} {B : Nat} {v : Value} {ys : List Lb} (h : PLabs B w v ys) : v.ownBlock ≠ some w.heap.size := by
 intro e; have := (h.lt _ e).2; omega
set_option maxRecDepth 100000 in
set_option maxHeartbeats 2000000 in
theorem Kvd (v : Value) (t : List Txt) (s : ByteArray) (k : Int) (w : World) (R : List Lb × Nat × Nat) (hr : unpR t s.data.toList k = R) (h : TabAt w v t) (hm : t.length * 16 ≤ 140737488351232) (hs : s.size ≤ 140737488351232) (hz : ∀ x ∈ t, x.length ≤ 140737488351232) :
  Calls Tryz.prog 150 #[v, .string s, .int .i64 k] w (Ked w R) := by
 obtain ⟨i0, hi0, hz0, hz1, hz2⟩ := info_parts Kmr; obtain ⟨v1, n1, e1, h1⟩ : ∃ v n e, Kan s.data.toList k = (v, n, e) := ⟨_, _, _, rfl⟩; have H1 := Jh h1; have HZ := Jh hz; rw [unpR, h1] at hr; dsimp only at hr; clear h1 hz
 by_cases he : e1 = 0
 ·subst he; rw [if_neg (by simp)] at hr
  by_cases hv0 : v1 = 0
  ·subst hv0; rw [if_pos rfl] at hr; subst hr; go_enter Tryz.func150, Tryz.ntmps150
   go_wp2_with fail
   refine (Kam s k 0 n1 0 H1.out hs w).mono ?_; rintro _ w1 ⟨rfl, rfl⟩; go_wp2_with fail
   go_ret3
   exact Ked.bad rfl (Below.refl _ _)
  ·rw [if_neg hv0] at hr; have ev0 : ((v1 : Int) == 0) = false := by rw [beq_eq_false_iff_ne]; omega
   by_cases hv8 : 8 < v1
   ·rw [if_pos hv8] at hr; subst hr; have ev8 : decide ((8 : Int) < (v1 : Int)) = true := by simp; omega
    go_enter Tryz.func150, Tryz.ntmps150
    go_wp2_with fail
    refine (Kam s k v1 n1 0 H1.out hs w).mono ?_; rintro _ w1 ⟨rfl, rfl⟩; go_wp2_with fail
    go_ret3
    exact Ked.bad rfl (Below.refl _ _)
   ·rw [if_neg hv8] at hr; have ev8 : decide ((8 : Int) < (v1 : Int)) = false := by simp; omega
    have HR := Jh hr; clear hr hv0; go_enter Tryz.func150, Tryz.ntmps150
    go_wp2_with fail
    refine (Kam s k v1 n1 0 H1.out hs w).mono ?_; rintro _ w1 ⟨rfl, rfl⟩; go_wp2_with fail
    go_loopg [2, 11, 34] v1 (fun g s2 s11 s34 wr => ∃ (i p : Nat) (ys : List Lb) (v11 : Value), v11 = s11 ∧ i + g = v1 ∧ s34 = .int .u64 (i : Int) ∧ s2 = .int .i64 (p : Int) ∧ ys.length = i ∧ PLabs w.heap.size wr v11 ys ∧ unpL t s.data.toList g ys p = R ∧ Below w.heap.size w wr)
    case atStart => exact ⟨0, n1, [], _, rfl, by omega, rfl, rfl, rfl, World.ownsRow_nil _ _ _ _, HR.out, Below.refl _ _⟩
    case round =>
     obtain ⟨i, p, ys, v11, rfl, hig, rfl, rfl, hyl, hown, hU, hB⟩ := hrel; have HYL := Jh hyl; clear hyl
     by_cases hi : i < v1
     ·have el : decide ((i : Int) < (v1 : Int)) = true := by simp; omega
      have el' : decide (i < v1) = true := by simp; omega
      obtain ⟨g, rfl⟩ : ∃ g, gk = g + 1 := ⟨gk - 1, by omega⟩; obtain ⟨x, n2, e2, h2⟩ : ∃ x n e, symR t s.data.toList p = (x, n, e) := ⟨_, _, _, rfl⟩; obtain ⟨y, n3, e3, h3⟩ : ∃ x n e, symR t s.data.toList n2 = (x, n, e) := ⟨_, _, _, rfl⟩; have hst := Qbo hU h2 h3
      have hxz : x.length ≤ 140737488351232 := by
       rcases Ksj h2 with rfl | h
       ·simp
       ·exact HZ.out x h
      have hyz : y.length ≤ 140737488351232 := by
       rcases Ksj h3 with rfl | h
       ·simp
       ·exact HZ.out y h
      have HIG := Jh hig; have HS2 := Jh h2; have HS3 := Jh h3; have HST := Jh hst; clear hig hU h2 h3 hst; go_upto_region 12 with fail
      have hq1 : Blk (wr.alloc (.cells #[.string ⟨#[]⟩, .string ⟨#[]⟩] 99)) wr.heap.size 99 #[.string ⟨#[]⟩, .string ⟨#[]⟩] := Blk.new _ _ _; have hB1 : Below w.heap.size w (wr.alloc (.cells #[.string ⟨#[]⟩, .string ⟨#[]⟩] 99)) := hB.alloc hB.size _; have hown1 : PLabs w.heap.size (wr.alloc (.cells #[.string ⟨#[]⟩, .string ⟨#[]⟩] 99)) v11 ys := World.ownsRow.alloc hown _; have hne := Qgz hown; have hpb := hB.size; obtain ⟨w1, hw1⟩ : ∃ x, wr.alloc (.cells #[.string ⟨#[]⟩, .string ⟨#[]⟩] 99) = x := ⟨_, rfl⟩; obtain ⟨p1, hp1⟩ : ∃ p, wr.heap.size = p := ⟨_, rfl⟩; rw [hw1] at hq1 hB1 hown1 ⊢; rw [hp1] at hq1 hne hpb ⊢; clear hw1 hp1 hB hown; have q0 : _ = some (Value.string ⟨#[]⟩) := hq1.cell 0; have f0 := hq1.frozen 0; unfold txtV at *; obtain ⟨X, hX⟩ : ∃ N : ByteArray, (⟨x.toArray⟩ : ByteArray) = N := ⟨_, rfl⟩; obtain ⟨Y, hY⟩ : ∃ N : ByteArray, (⟨y.toArray⟩ : ByteArray) = N := ⟨_, rfl⟩; have hsy1 := fun w0 hw0 => Kjy v t s p w0 x n2 e2 HS2.out hw0 hm hs
      have hsy2 := fun w0 hw0 => Kjy v t s n2 w0 y n3 e3 HS3.out hw0 hm hs
      unfold txtV at hsy1 hsy2; rw [hX] at hsy1; rw [hY] at hsy2; have SY1 := Jh hsy1; have SY2 := Jh hsy2; have HX := Jh hX; have HY := Jh hY; clear hsy1 hsy2 hX hY HS2 HS3; go_wp2_with fail
      refine (SY1.out w1 (h.below hB1)).mono ?_; rintro _ w1' ⟨rfl, rfl⟩; go_upto_region 13 with fail
      have hq2 : Blk (w1.setCell ⟨p1, 0, none⟩ (.string X)) p1 99 #[.string X, .string ⟨#[]⟩] := hq1.set_ 0 _; have hB2 := Kkk hB1 hpb (.string X) (i := 0); have hown2 := Kun hown1 hne (.string X) (i := 0); obtain ⟨w2, hw2⟩ : ∃ x, w1.setCell ⟨p1, 0, none⟩ (.string X) = x := ⟨_, rfl⟩; rw [hw2] at hq2 hB2 hown2 ⊢; clear hw2 hq1 hB1 hown1 q0 f0
      by_cases he2 : e2 = 0
      ·subst he2; have q1 : _ = some (Value.string ⟨#[]⟩) := hq2.cell 1; have f1 := hq2.frozen 1; go_wp2_with fail
       refine (SY2.out w2 (h.below hB2)).mono ?_; rintro _ w2' ⟨rfl, rfl⟩; go_upto_region 16 with fail
       have hq3 : Blk (w2.setCell ⟨p1, 1, none⟩ (.string Y)) p1 99 #[.string X, .string Y] := hq2.set_ 1 _; have hB3 := Kkk hB2 hpb (.string Y) (i := 1); have hown3 := Kun hown2 hne (.string Y) (i := 1); obtain ⟨w3, hw3⟩ : ∃ x, w2.setCell ⟨p1, 1, none⟩ (.string Y) = x := ⟨_, rfl⟩; rw [hw3] at hq3 hB3 hown3 ⊢; clear hw3 hq2 hB2 hown2 q1 f1
       by_cases he3 : e3 = 0
       ·subst he3; have q0 : _ = some (Value.string X) := hq3.cell 0; have q1 : _ = some (Value.string Y) := hq3.cell 1; have hq4 : Blk (w3.alloc (.cells #[.string X, .string Y] 99)) w3.heap.size 99 #[.string X, .string Y] := Blk.new _ _ _
        have hE4 : Elems (w3.alloc (.cells #[.string X, .string Y] 99)) (w3.alloc (.cells #[.string X, .string Y] 99)).heap.size 2 encLb (some ⟨w3.heap.size, 0, none⟩) 1 [⟨x, y⟩] := by
         refine ⟨rfl, fun _ => ⟨w3.heap.size, 0, rfl, hq4.lt, fun i' x' hx' j v' hv' => ?_⟩⟩; have hi' : i' = 0 := by have := (List.getElem?_eq_some_iff.1 hx').1; simpa using this
         subst hi'; simp at hx'; subst hx'; rw [hq4.cell]
         match j, hv' with
         | 0, hv' => simpa [encLb, HX.out] using hv'
         | 1, hv' => simpa [encLb, HY.out] using hv'
         | j + 2, hv' => simp [encLb] at hv'
        have hB4 : Below w.heap.size w (w3.alloc (.cells #[.string X, .string Y] 99)) := hB3.alloc hB3.size _; have hown4 : PLabs w.heap.size (w3.alloc (.cells #[.string X, .string Y] 99)) v11 ys := World.ownsRow.alloc hown3 _; have hq4' := hq3.alloc (.cells #[.string X, .string Y] 99); have hmk := Kii [⟨x, y⟩] _ 1 1 _ hE4 (by omega) (by omega) (by simp [hxz, hyz]); rw [Kwx] at hmk; dsimp only at hmk; have HMK := Jh hmk; clear hmk hE4 hq4; obtain ⟨rn, hrn⟩ : ∃ r, fitN x = r := ⟨_, rfl⟩; obtain ⟨rv, hrv⟩ : ∃ r, fitV y = r := ⟨_, rfl⟩; have hst := HST.out; rw [if_neg (by simp), if_neg (by simp), hrn, hrv] at hst; rw [hrn, hrv] at HMK; have HST2 := Jh hst; clear hst HST hrn hrv; go_wp2_with fail
        refine HMK.out.mono ?_; rintro _ w5 ⟨⟨mv, rfl⟩, hb5⟩; have hB5 := then_ hB4 hb5; have hown5 : PLabs w.heap.size w5 v11 ys := Kfg hown4 hb5; have hq5 := hq4'.below hb5 hq4'.lt; clear hB4 hown4 hq4' hb5 hq3 hB3 hown3 q0 q1 HMK
        cases rn with
        | false =>
         obtain rfl : ([], 0, 40) = R := by have := HST2.out; simpa using this
         go_wp2_with fail
         go_ret3
         exact Ked.bad rfl hB5
        | true =>
         cases rv with
         | false =>
          obtain rfl : ([], 0, 41) = R := by have := HST2.out; simpa using this
          go_wp2_with fail
          go_ret3
          exact Ked.bad rfl hB5
         | true =>
          obtain ⟨q, hq⟩ : ∃ q, Kfj ys x = q := ⟨_, rfl⟩; have hst := HST2.out; rw [if_neg (by simp), if_neg (by simp), hq] at hst; have HST3 := Jh hst; have HQ := Jh hq; have hownY : w5.ownsRow w.heap.size 99 2 v11 i (ys.flatMap encLb) := by have := hown5; unfold PLabs at this; rw [HYL.out] at this; exact this
          obtain ⟨A', c', rfl, hE', _, hc'⟩ := Elems.of_own (enc := encLb) (fun x _ => Kbu x) rfl hownY HYL.out; have q0 : _ = some (Value.string X) := hq5.cell 0; have hp5 := hq5.lt; clear hst hq HST2; go_upto_region 22 with fail
          go_cut [15, 83] (fun _s15 s83 wz => s83 = .bool q ∧ Below w5.heap.size w5 wz)
          case first =>
           by_cases hi0' : i = 0
           ·subst hi0'
            have hqf : q = false := by
             rw [← HQ.out, Kfj, HYL.out]; simp
            subst hqf; refine Kad (by kernel_rfl) (by kernel_rfl) ?_
            repeat (go_big_quiet_step (fail))
            refine wpQuiet_nil ?_; rintro w6 ⟨⟨_, hb6⟩, rfl⟩; go_wp2_with fail
            go_meet
            exact ⟨rfl, hb6⟩
           ·obtain ⟨j, rfl⟩ : ∃ j, i = j + 1 := ⟨i - 1, by omega⟩
            obtain ⟨g0, rfl⟩ : ∃ g, A' = some ⟨g, 0, none⟩ := by
             rcases hownY.2 with ⟨_, h⟩ | ⟨g, cap, cur, h, _⟩
             ·omega
             ·injection h with h; exact ⟨g, h⟩
            obtain ⟨a0, _⟩ := Qam hown5 HYL.out (k := j) (by omega); obtain ⟨z, hz'⟩ : ∃ z, ys[j]! = z := ⟨_, rfl⟩; rw [hz'] at a0; obtain ⟨Z, hZ⟩ : ∃ N : ByteArray, (⟨z.n.toArray⟩ : ByteArray) = N := ⟨_, rfl⟩
            have hqq : q = true ↔ ¬ z.n < x := by
             rw [← HQ.out, Kfj, HYL.out, decide_eq_true_eq, show j + 1 - 1 = j by omega, hz']; constructor
             ·exact fun h => h.2
             ·exact fun h => ⟨by omega, h⟩
            have hql : (!Op.bytesLess Z.toList X.toList) = q := by
             rw [Bool.eq_iff_iff, hqq, ← hZ, Khe, ← HX.out]; simp
            rw [hZ] at a0; have HQL := Jh hql; have hg5 : g0 < w5.heap.size := Kdg a0; clear hqq hZ hz' hql; have z1 : IntKind.i64.wrap (((j + 1 : Nat) : Int) - 1) = (j : Int) := by rw [show ((j + 1 : Nat) : Int) - 1 = (j : Int) by omega]; exact IntWalk.i64_in _ (by omega)
            have z5 : (j : Int) < ((j + 1 : Nat) : Int) := by omega
            have hj1 : ((j + 1 : Nat) : Int) - 1 = (j : Int) := by omega
            have hj0 : decide ((0 : Int) ≤ (j : Int)) = true := by simp
            rw [hj1]; refine Kad (by kernel_rfl) (by kernel_rfl) ?_
            repeat (go_big_quiet_step (fail))
            refine wpQuiet_nil ?_; rintro w6 ⟨⟨_, hb6⟩, rfl⟩; go_wp2_with fail
            go_meet
            exact ⟨by rw [HQL.out], hb6⟩
          case rest =>
           obtain ⟨rfl, hb6⟩ := hcut; obtain ⟨w6, rfl⟩ : ∃ x, x = wc := ⟨_, rfl⟩; have hB6 := then_ hB5 hb6; have hownY6 := Kfg hownY hb6; have hq6 := hq5.below hb6 hq5.lt; clear hb6 hownY hq5 hB5 hown5 q0 hE'; have q0 : _ = some (Value.string X) := hq6.cell 0; have q1 : _ = some (Value.string Y) := hq6.cell 1
           cases q with
           | true =>
            obtain rfl : ([], 0, 42) = R := by have := HST3.out; simpa using this
            go_wp2_with fail
            go_ret3
            exact Ked.bad rfl hB6
           | false =>
            go_wp2_with (at_builtin; refine wpList_append_own_at _ rfl _ _ 54 rfl w.heap.size 99 i0 (.agg #[.string ⟨#[]⟩, .string ⟨#[]⟩]) 2 32 Tryz.underlying54 hi0 hz0 hz1 hz2 rfl (by decide) _ _ _ rfl (hownY6.alloc _) ⟨w6.heap.size, 0, none⟩ 1 1 [.string X, .string Y] rfl rfl ?p1 ?p2 ?p3 ?p4 ?p5 ?_)
            case p1 => exact Kaw (l := [.string X, .string Y]) (Blk.new w6 _ _)
            case p2 => intro u hu; simp at hu; rcases hu with rfl | rfl <;> rfl
            case p3 => unfold maxLen; omega
            case p4 => omega
            case p5 => have := hB6.size; simp; omega
            intro v' w7 hown' hgrow hx9 hat; have hB7 : Below w.heap.size w w7 := Kga hB6 hB6.size hownY6 hgrow
            have hown7 : PLabs w.heap.size w7 v' (ys ++ [⟨x, y⟩]) := by
             have e1 : (ys ++ [(⟨x, y⟩ : Lb)]).flatMap encLb = ys.flatMap encLb ++ [.string X, .string Y] := by rw [List.flatMap_append]; simp [encLb, HX.out, HY.out]
             unfold PLabs; rw [e1, List.length_append, HYL.out]; exact hown'
            clear hown' hgrow hx9 hat hownY6; go_wp2_with fail
            go_roundg g
            case measure => omega
            case rel => exact ⟨i + 1, n3, ys ++ [⟨x, y⟩], _, rfl, by have := HIG.out; omega, by go_num, rfl, by rw [List.length_append, HYL.out]; rfl, hown7, by simpa using HST3.out, hB7⟩
       ·have ee : ((e3 : Int) != 0) = true := by simp; omega
        obtain rfl : ([], 0, e3) = R := by have := HST.out; rw [if_neg (by simp), if_pos he3] at this; exact this
        go_wp2_with fail
        go_ret3
        exact Ked.bad rfl hB3
      ·have ee : ((e2 : Int) != 0) = true := by simp; omega
       obtain rfl : ([], 0, e2) = R := by have := HST.out; rw [if_pos he2] at this; exact this
       go_wp2_with fail
       go_ret3
       exact Ked.bad rfl hB2
     ·have el : decide ((i : Int) < (v1 : Int)) = false := by simp; omega
      have el' : decide (i < v1) = false := by simp; omega
      obtain rfl : gk = 0 := by omega
      rw [unpL] at hU; obtain rfl := hU; obtain ⟨A', c', rfl, hE', hbs', hc'⟩ := Elems.of_own (enc := encLb) (fun x _ => Kbu x) rfl hown rfl; obtain ⟨ln, hln⟩ : ∃ k, ys.length = k := ⟨_, rfl⟩; rw [hln] at hE' hc' ⊢; have HLN := Jh hln; clear hig hln hown; go_wp2_with fail
      go_ret3
      refine ⟨A', c', ?_, ?_, ?_, hB, hbs'⟩
      ·dsimp only; rw [HLN.out]; rfl
      ·dsimp only; rw [HLN.out]; exact hE'
      ·dsimp only; rw [HLN.out]; exact hc'
 ·rw [if_pos he] at hr; subst hr; have ee : ((e1 : Int) != 0) = true := by simp; omega
  go_enter Tryz.func150, Tryz.ntmps150
  go_wp2_with fail
  refine (Kam s k v1 n1 e1 H1.out hs w).mono ?_; rintro _ w1 ⟨rfl, rfl⟩; go_wp2_with fail
  go_ret3
  exact Ked.bad rfl (Below.refl _ _)
end Go.Proofs.YtdoiekknhnbepaaGreatDoor
namespace Go.Proofs.YtdoiekknhnbepaaGreatDoor
open Go.RowKit
open Lib renaming hid → Jh
attribute [local go_sem ↓] Go.wp_at_zero Go.wp_at_succ
attribute [local go_sem] Later.cell
def encN (x : Nat) : List Value := [.int .i64 (x : Int)]
def lastN : Nat → List Nat → Nat
 | a, [] => a
 | _, x :: l => lastN x l
theorem Kik : ∀ (l : List Nat) (a x : Nat), lastN a (l ++ [x]) = x
 | [], _, _ => rfl
 | _ :: l, _, x => Kik l _ x
theorem Khq : ∀ (l : List Nat) (a x : Nat), Kby a (l ++ [x]) = Kby a l ++ uintT (x - lastN a l)
 | [], a, x => by simp [Kby, lastN]
 | w :: l, a, x => by rw [List.cons_append, Kby, Kby, Khq l, lastN, List.append_assoc]
theorem Kuy : ∀ (l : List Nat) (a x : Nat), (l ++ [x]).Pairwise (· < ·) → l ≠ [] → lastN a l < x
 | [], _, _, _, h => absurd rfl h
 | [y], a, x, h, _ => by
  have := List.pairwise_cons.1 h; exact this.1 x (by simp)
 | y :: z :: l, a, x, h, _ => Kuy (z :: l) y x (List.pairwise_cons.1 h).2 (by simp)
set_option maxRecDepth 100000 in
set_option maxHeartbeats 2000000 in
theorem Ksd (l : List Nat) (A : Option Addr) (n cap : Nat) (w : World) (hE : Elems w w.heap.size 1 encN A n l) (hn : n ≤ 1099511627776) (hp : l.Pairwise (· < ·)) (hv : ∀ x ∈ l, x ≤ 1099511627776) :
  Calls Tryz.prog 121 #[.slice A n cap] w fun e w' => e = .returned (.tuple #[.string ⟨(postT l).toArray⟩, .int .i64 0]) ∧ Below w.heap.size w w' := by
 have hlen := hE.len; have HE := Jh hE; have HV := Jh hv; have HP := Jh hp; have HLEN := Jh hlen; have HUN := Jh (fun w => Kax n (by omega) w); have h0 : Bld w.heap.size w.heap.size [] (w.alloc (.cells #[.pointer none, .slice none 0 0] 109)) := Bld.new w (Nat.le_refl _); have hb0 : Below w.heap.size w (w.alloc (.cells #[.pointer none, .slice none 0 0] 109)) := (Below.refl _ _).alloc (Nat.le_refl _) _; clear hE hv hp hlen; go_enter Tryz.func121, Tryz.ntmps121
 go_upto_region 2 with fail
 obtain ⟨w1, hw1⟩ : ∃ w1, w.alloc (.cells #[.pointer none, .slice none 0 0] 109) = w1 := ⟨_, rfl⟩; rw [hw1] at h0 hb0; rw [hw1]; obtain ⟨b, hb⟩ : ∃ b, w.heap.size = b := ⟨_, rfl⟩; rw [hb] at h0 hb0 HE ⊢; have HB := Jh hb; have HL1 := Jh h0; have HB1 := Jh hb0; have hB1 : b ≤ w1.heap.size := by have := hb0.size; omega
 clear hw1 h0 hb0 hb; go_wp2_with fail
 refine (HUN.out w1).mono ?_; rintro _ w2 ⟨rfl, hb2⟩; have HL2 := Jh (HL1.out.below hb2); have HB2 := Jh (HB1.out.trans (hb2.mono hB1)); have hB2 : b ≤ w2.heap.size := Nat.le_trans hB1 hb2.size; clear hb2; go_wp2_with fail
 refine (Kba b b [] ⟨(uintT n).toArray⟩ w2 HL2.out (by show 0 + (uintT n).toArray.size ≤ _; have := (Kab n).2; simp only [List.size_toArray]; omega) hB2).mono ?_; rintro _ w3 ⟨rfl, h5, h6, _⟩; have HL3 : Hid (Bld b b (uintT n) w3) := Jh h5; have HB3 := Jh (HB2.out.trans h6); clear h5 h6; go_wp2_with fail
 go_loopg [5, 15] n (fun g s5 s15 wr => ∃ i : Nat, i + g = n ∧ s15 = .int .i64 (i : Int) ∧ s5 = .int .i64 ((lastN 0 (l.take i) : Nat) : Int) ∧ Bld b b (uintT n ++ Kby 0 (l.take i)) wr ∧ Below b w wr ∧ (uintT n ++ Kby 0 (l.take i)).length ≤ 11 + 11 * i ∧ lastN 0 (l.take i) ≤ 1099511627776)
 case atStart => exact ⟨0, by omega, rfl, rfl, by simpa [Kby] using HL3.out, HB3.out, by have := (Kab n).2; simp [Kby]; omega, Nat.zero_le _⟩
 case round =>
  obtain ⟨i, hi, rfl, rfl, hld, hbr, hle, hla⟩ := hrel; have HI := Jh hi; have HL := Jh hld; have HR := Jh hbr; have HLE := Jh hle; have hBr : b ≤ wr.heap.size := Nat.le_trans (by rw [HB.out]; exact Nat.le_refl _) hbr.size; clear hld hbr hle
  by_cases hin : i < n
  ·have hil : i < l.length := by have := HLEN.out; omega
   obtain ⟨bk, off, rfl, hbk, hcell⟩ := HE.out.2 (by omega); have m0 : wr.cell? ⟨bk, off + i, none⟩ = some (.int .i64 ((l[i] : Nat) : Int)) := (HR.out.cell (p := ⟨bk, off + i, none⟩) hbk).trans (by simpa using hcell i l[i] (List.getElem?_eq_getElem hil) 0 _ rfl); have hvi := HV.out l[i] (List.getElem_mem hil); have htk : l.take (i + 1) = l.take i ++ [l[i]] := List.take_succ_eq_append_getElem hil
   have hlt : i ≠ 0 → lastN 0 (l.take i) < l[i] := by
    intro h0; refine Kuy _ _ _ ?_ ?_
    ·rw [← htk]; exact HP.out.sublist (List.take_sublist _ _)
    ·intro he; have := congrArg List.length he; rw [List.length_take, List.length_nil] at this; omega
   obtain ⟨x, hxx⟩ : ∃ x, l[i] = x := ⟨_, rfl⟩; rw [hxx] at m0 hvi htk hlt; obtain ⟨a, haa⟩ : ∃ a, lastN 0 (l.take i) = a := ⟨_, rfl⟩; rw [haa] at hlt hla ⊢; obtain ⟨T, hT⟩ : ∃ T, uintT n ++ Kby 0 (l.take i) = T := ⟨_, rfl⟩; rw [hT] at HL HLE; have HTK := Jh htk; have HAA := Jh haa; have HT := Jh hT
   have hax : a ≤ x := by
    by_cases h0 : i = 0
    ·subst h0; have : a = 0 := by rw [← haa]; rfl
     omega
    ·have := hlt h0; omega
   have el : (i : Int) < (n : Int) := by omega
   have e1 : decide ((x : Int) < 0) = false := by rw [decide_eq_false_iff_not]; omega
   obtain ⟨y, hy⟩ : ∃ y, x - a = y := ⟨_, rfl⟩; have hyi : (x : Int) - (a : Int) = (y : Int) := by omega
   have hyw : wrap64 ((x : Int) - (a : Int)) = (y : Int) := by unfold wrap64; omega
   have hyu : IntKind.u64.wrap (y : Int) = (y : Int) := by rw [IntKind.wrap_u64]; omega
   have HY := Jh hy; have HU := Jh (fun w => Kax y (by omega) w); have HIN := Jh hin; clear hi htk hxx haa hT hcell hy hil
   by_cases h0 : i = 0
   ·subst h0; rw [Nat.add_zero] at m0; clear hlt hin; go_wp2_with fail
    refine (HU.out wr).mono ?_; rintro _ w5 ⟨rfl, h5⟩; have HL5 := Jh (HL.out.below h5); have HR5 := Jh (HR.out.trans (h5.mono hBr)); have hB5 : b ≤ w5.heap.size := Nat.le_trans hBr h5.size; clear h5; go_wp2_with fail
    refine (Kba b b T ⟨(uintT y).toArray⟩ w5 HL5.out (by show _ + (uintT y).toArray.size ≤ _; have := (Kab y).2; have := HLE.out; have := HI.out; simp only [List.size_toArray]; omega) hB5).mono ?_; rintro _ w6 ⟨rfl, h6, h7, _⟩; have HL6 := Jh h6; have HR6 := Jh (HR5.out.trans h7); clear h6 h7; go_wp2_with fail
    go_roundg (gk - 1)
    case measure => have := HI.out; omega
    case rel =>
     have hlx : lastN 0 (l.take (0 + 1)) = x := by rw [HTK.out, Kik]
     have hst : uintT n ++ Kby 0 (l.take (0 + 1)) = T ++ uintT y := by rw [HTK.out, Khq, HAA.out, HY.out, ← HT.out, List.append_assoc]
     refine ⟨1, by have := HI.out; omega, by go_num, by rw [hlx], by rw [hst]; exact HL6.out, HR6.out, ?_, by rw [hlx]; exact hvi⟩; rw [hst, List.length_append]; have := (Kab y).2; have := HLE.out; omega
   ·have hlt' := hlt h0; have e2 : decide ((0 : Int) < (i : Int)) = true := by rw [decide_eq_true_eq]; omega
    have e2' : decide (0 < i) = true := by rw [decide_eq_true_eq]; omega
    have e3 : decide ((x : Int) ≤ (a : Int)) = false := by rw [decide_eq_false_iff_not]; omega
    have e3' : decide (x ≤ a) = false := by rw [decide_eq_false_iff_not]; omega
    clear hlt hin; go_wp2_with fail
    refine (HU.out wr).mono ?_; rintro _ w5 ⟨rfl, h5⟩; have HL5 := Jh (HL.out.below h5); have HR5 := Jh (HR.out.trans (h5.mono hBr)); have hB5 : b ≤ w5.heap.size := Nat.le_trans hBr h5.size; clear h5; go_wp2_with fail
    refine (Kba b b T ⟨(uintT y).toArray⟩ w5 HL5.out (by show _ + (uintT y).toArray.size ≤ _; have := (Kab y).2; have := HLE.out; have := HI.out; simp only [List.size_toArray]; omega) hB5).mono ?_; rintro _ w6 ⟨rfl, h6, h7, _⟩; have HL6 := Jh h6; have HR6 := Jh (HR5.out.trans h7); clear h6 h7; go_wp2_with fail
    go_roundg (gk - 1)
    case measure => have := HI.out; omega
    case rel =>
     have hlx : lastN 0 (l.take (i + 1)) = x := by rw [HTK.out, Kik]
     have hst : uintT n ++ Kby 0 (l.take (i + 1)) = T ++ uintT y := by rw [HTK.out, Khq, HAA.out, HY.out, ← HT.out, List.append_assoc]
     refine ⟨i + 1, by have := HI.out; omega, by go_num, by rw [hlx], by rw [hst]; exact HL6.out, HR6.out, ?_, by rw [hlx]; exact hvi⟩; rw [hst, List.length_append]; have := (Kab y).2; have := HLE.out; omega
  ·have hi3 : i = n := by have := HI.out; omega
   subst hi3; have htk : l.take i = l := List.take_of_length_le (by have := HLEN.out; omega); rw [htk] at HL; have HPT : Hid (uintT i ++ Kby 0 l = postT l) := Jh (by unfold postT; rw [HLEN.out]); rw [HPT.out] at HL; have HST2 := Jh (Kdu b b _ wr HL.out hBr); obtain ⟨S, hS⟩ : ∃ S : ByteArray, (⟨(postT l).toArray⟩ : ByteArray) = S := ⟨_, rfl⟩; rw [hS] at HST2; have HS := Jh hS; clear htk hS; go_wp2_with fail
   refine HST2.out.mono ?_; rintro _ w3 ⟨rfl, h6⟩; go_wp2_with fail
   go_ret2
   rw [← HS.out]; exact ⟨rfl, by rw [HB.out]; exact HR.out.trans h6⟩
end Go.Proofs.YtdoiekknhnbepaaGreatDoor
namespace Go.Proofs.YtdoiekknhnbepaaGreatDoor
open Go.RowKit
attribute [local go_sem ↓] Go.wp_at_zero Go.wp_at_succ
attribute [local go_sem] Later.cell
def takeU (s : List UInt8) (st : Nat × Nat) : Nat × (Nat × Nat) := if st.2 ≠ 0 then (0, st) else ((Kan s st.1).1, ((Kan s st.1).2.1, (Kan s st.1).2.2))
structure NumAt (be bb ba : Nat) (body : ByteArray) (s : Nat × Nat) (w : World) : Prop where
 e : Blk w be 29 #[.int .i64 (s.2 : Int)]
 b : Blk w bb 9 #[.string body]
 a : Blk w ba 3 #[.int .i64 (s.1 : Int)]
def Kff (be bb ba : Nat) (body : ByteArray) (s : Nat × Nat) (w : World) (en : Ending) (w' : World) : Prop :=
 en = .returned (.int .u64 ((takeU body.data.toList s).1 : Int)) ∧ NumAt be bb ba body (takeU body.data.toList s).2 w' ∧ Kept w.heap.size [be, ba] w w'
set_option maxRecDepth 100000 in
set_option maxHeartbeats 4000000 in
theorem Kde (be bb ba : Nat) (body : ByteArray) (s : Nat × Nat) (w : World) (h : NumAt be bb ba body s w) (hs : body.size ≤ 140737488351232) :
  Calls Tryz.prog 153 #[.pointer (some ⟨be, 0, none⟩), .pointer (some ⟨bb, 0, none⟩), .pointer (some ⟨ba, 0, none⟩)] w (Kff be bb ba body s w) := by
 have hab : ba ≠ be := h.a.ne_ h.e (by decide); have hbb : bb ≠ be := h.b.ne_ h.e (by decide); have hba : bb ≠ ba := h.b.ne_ h.a (by decide); obtain ⟨at_, e⟩ := s; have H := Lib.hid h; have m0 : w.cell? ⟨be, 0, none⟩ = some (.int .i64 (e : Int)) := h.e.cell 0; have m1 : w.cell? ⟨bb, 0, none⟩ = some (.string body) := h.b.cell 0; have m2 : w.cell? ⟨ba, 0, none⟩ = some (.int .i64 (at_ : Int)) := h.a.cell 0; have z0 := h.e.frozen 0; have z2 := h.a.frozen 0; have HD := Lib.hid (⟨hab, hbb, hba⟩ : _ ∧ _ ∧ _); have hab2 : be ≠ ba := fun e => hab e.symm
 clear h hbb hba
 cases e with
 | succ e =>
  have d0 : decide (((e + 1 : Nat) : Int) = 0) = false := by simp; omega
  have ht : takeU body.data.toList (at_, e + 1) = (0, (at_, e + 1)) := rfl; go_enter Tryz.func153, Tryz.ntmps153
  go_wp2_with fail
  go_ret
  unfold Kff; rw [ht]; exact ⟨rfl, H.out, Kept.refl _ _ _⟩
 | zero =>
  obtain ⟨v, n, e, h1⟩ : ∃ v n e, Kan body.data.toList (at_ : Int) = (v, n, e) := ⟨_, _, _, rfl⟩
  have ht : takeU body.data.toList (at_, 0) = (v, (n, e)) := by
   unfold takeU; rw [if_neg (by simp), h1]
  have HC := Lib.hid (Kam body (at_ : Int) v n e h1 hs w); have H2 := Lib.hid ht; clear h1 ht; go_enter Tryz.func153, Tryz.ntmps153
  go_wp2_with fail
  refine HC.out.mono ?_; rintro _ w1 ⟨rfl, rfl⟩; go_wp2_with fail
  go_ret
  unfold Kff; rw [H2.out]; have d := HD.out; refine ⟨rfl, ⟨?_, ?_, ?_⟩, ((Kept.refl _ _ _).setCell (p := ⟨ba, 0, none⟩) (.inl (by simp)) _).setCell (p := ⟨be, 0, none⟩) (.inl (by simp)) _⟩
  ·exact (Blk.far H.out.e (p := ⟨ba, 0, none⟩) (by simp; omega) _).set_ 0 _
  ·exact (Blk.far (Blk.far H.out.b (p := ⟨ba, 0, none⟩) (by simp; omega) _) (p := ⟨be, 0, none⟩) (by simp; omega) _)
  ·exact Blk.far (H.out.a.set_ 0 _) (p := ⟨be, 0, none⟩) (by simp; omega) _
theorem Kqb (s : List UInt8) (st : Nat × Nat) (h : st.2 ≠ 0) : takeU s st = (0, st) := if_pos h
theorem Kee (s : List UInt8) (i : Nat) : (∃ v j, takeU s (i, 0) = (v, (j, 0)) ∧ ruAt s i = some (v, j) ∧ v < 2 ^ 64) ∨ (∃ j e, takeU s (i, 0) = (0, (j, e)) ∧ e ≠ 0 ∧ ruAt s i = none) := by
 unfold takeU ruAt; rw [if_neg (by simp), Kdi]; unfold outOf
 cases hr : readU (s.drop i) with
 | error c => exact .inr ⟨0, c, rfl, Kdn hr, rfl⟩
 | ok x => exact .inl ⟨x.1, i + x.2, rfl, rfl, (Kdm hr).1⟩
theorem Kbt {s : List UInt8} {i v j : Nat} (hi : i ≤ s.length) (h : ruAt s i = some (v, j)) : i < j ∧ j ≤ s.length := by
 unfold ruAt at h
 split at h
 ·rename_i v' k hr
  injection h with h; injection h with h1 h2; have := (Kdm hr); rw [List.length_drop] at this; omega
 ·cases h
end Go.Proofs.YtdoiekknhnbepaaGreatDoor
namespace Go.Proofs.YtdoiekknhnbepaaGreatDoor
open Go.RowKit
open Lib renaming hid → Jh
attribute [local go_sem ↓] Go.wp_at_zero Go.wp_at_succ
attribute [local go_sem] Later.cell
theorem Kix : (Tryz.prog.info? 3).map (fun i => (i.zero, i.size, i.bytes)) = some (some (.int .i64 0), 1, 8) := by kernel_rfl
def PDecO (w : World) (r : Option (List Nat × Nat)) (en : Ending) (w' : World) : Prop := match r with
 | some (l, j) => ∃ v, en = .returned (.tuple #[v, .int .i64 (j : Int), .int .i64 0]) ∧ w'.ownsRow w.heap.size 3 1 v l.length (l.flatMap encN) ∧ Below w.heap.size w w'
 | none => ∃ f, f ≠ 0 ∧ en = .returned (.tuple #[.slice none 0 0, .int .i64 0, .int .i64 ((f : Nat) : Int)]) ∧ Below w.heap.size w w'
theorem Key (s : List UInt8) (i : Nat) : (∃ v j, Kan s (i : Int) = (v, j, 0) ∧ ruAt s i = some (v, j) ∧ v < 2 ^ 64) ∨ (∃ v j e, Kan s (i : Int) = (v, j, e) ∧ e ≠ 0 ∧ ruAt s i = none) := by
 unfold ruAt; rw [Kdi]; unfold outOf
 cases hr : readU (s.drop i) with
 | error c => exact .inr ⟨0, 0, c, rfl, Kdn hr, rfl⟩
 | ok x => exact .inl ⟨x.1, i + x.2, rfl, rfl, (Kdm hr).1⟩
theorem Kyi {w : World} {B n sz k : Nat} {T : TypeId} {v : Value} {xs : List Value} (h : w.ownsRow B T sz v n xs) (hk : k < B) : v.ownBlock ≠ some k := fun e => by
 have := (h.lt k e).1; omega
theorem Kbn {w : World} {B n sz : Nat} {T : TypeId} {v : Value} {xs : List Value} (h : w.ownsRow B T sz v n xs) : ∃ A cap, v = .slice A n cap := by
 rcases h.2 with ⟨rfl, rfl⟩ | ⟨g, cap, cur, rfl, _⟩
 ·exact ⟨none, 0, rfl⟩
 ·exact ⟨_, cap, rfl⟩
theorem Qet (L : List Nat) : (decide (0 < L.length)) = !(decide (L = [])) := by cases L <;> simp
set_option maxRecDepth 100000 in
set_option maxHeartbeats 4000000 in
theorem Kjl (s : ByteArray) (at0 : Nat) (w : World) (hs_ : s.size ≤ 1099511627776) (hat0 : at0 ≤ s.size) :
  Calls Tryz.prog 93 #[.string s, .int .i64 (at0 : Int)] w (PDecO w (postR s.data.toList at0)) := by
 have hs : s.size ≤ 140737488351232 := by omega
 obtain ⟨R, hR⟩ : ∃ R, postR s.data.toList at0 = R := ⟨_, rfl⟩; rw [hR]; unfold postR at hR; rcases Key s.data.toList at0 with ⟨n, i0, h1, h2, h3⟩ | ⟨v, j, e, h1, h2, h3⟩
 rotate_left
 ·rw [h3] at hR; subst hR; have HC := Jh (Kam s (at0 : Int) v j e h1 hs w); have hne : ((e : Int) != 0) = true := by simp; omega
  go_enter Tryz.func93, Tryz.ntmps93
  go_wp2_with fail
  refine HC.out.mono ?_; rintro _ w1 ⟨rfl, rfl⟩; go_wp2_with fail
  go_ret3
  exact ⟨e, h2, rfl, Below.refl _ _⟩
 rw [h2] at hR; dsimp only at hR; have HR := Jh hR; have HC := Jh (Kam s (at0 : Int) n i0 0 h1 hs w); have hi0 := (Kbt hat0 h2).2; have hsl : s.data.toList.length = s.size := rfl; obtain ⟨B, hB⟩ : ∃ B, w.heap.size = B := ⟨_, rfl⟩; have HB := Jh hB; clear hR h1 h2; go_enter Tryz.func93, Tryz.ntmps93
 go_wp2_with fail
 refine HC.out.mono ?_; rintro _ w1 ⟨rfl, rfl⟩; clear hB; go_wp2_with fail
 go_loopg [1, 7, 9, 10] n (fun g s1 s7 s9 s10 wr => ∃ (at_ a : Nat) (L : List Nat), s1 = .int .i64 (at_ : Int) ∧ s7 = .int .u64 (g : Int) ∧ s10 = .int .u64 (a : Int) ∧ g < 2 ^ 64 ∧ at_ ≤ s.data.toList.length ∧ a ≤ 4611686018427387904 ∧ L.length ≤ at_ ∧ wr.ownsRow B 3 1 s9 L.length (L.flatMap encN) ∧ Below B w wr ∧ R = (match Kes s.data.toList g a (decide (L = [])) at_ with | none => none | some (l, j) => some (L ++ l, j)))
 case atStart => exact ⟨i0, 0, [], rfl, rfl, rfl, h3, hi0, by omega, by simp, World.ownsRow_nil _ _ _ _, Below.refl _ _, by rw [← HR.out]; simp; cases Kes s.data.toList n 0 true i0 <;> rfl⟩
 case round =>
  obtain ⟨at_, a, L, rfl, rfl, rfl, hg, hat, ha, hll, hown, hbr, hRR⟩ := hrel; have HRR := Jh hRR; have HO := Jh hown; have HBR := Jh hbr; have hBr : B ≤ wr.heap.size := by have := hbr.size; have := HB.out; omega
  clear hRR hown hbr
  cases gk with
  | zero =>
   have hre : R = some (L, at_) := by
    rw [HRR.out]; show some (L ++ [], at_) = _
    rw [List.append_nil]
   go_wp2_with fail
   go_ret3
   rw [hre]; exact ⟨_, rfl, by rw [HB.out]; exact HO.out, by rw [HB.out]; exact HBR.out⟩
  | succ g =>
   have el : decide (0 < g + 1) = true := by rw [decide_eq_true_eq]; omega
   rcases Key s.data.toList at_ with ⟨st, j, h1, h2, h3⟩ | ⟨v, j, e, h1, h2, h3⟩
   rotate_left
   ·have HC2 := Jh (Kam s (at_ : Int) v j e h1 hs wr); have hne : ((e : Int) != 0) = true := by simp; omega
    have hre : R = none := by rw [HRR.out, Kes, h3]
    have HE := Jh h2; clear h1 h3 h2; go_wp2_with fail
    refine HC2.out.mono ?_; rintro _ w3 ⟨rfl, rfl⟩; go_wp2_with fail
    go_ret3
    rw [hre]; exact ⟨e, HE.out, rfl, by rw [HB.out]; exact HBR.out⟩
   ·have HC2 := Jh (Kam s (at_ : Int) st j 0 h1 hs wr); have hj := Kbt hat h2; have hrr := HRR.out; rw [Kes, h2] at hrr; dsimp only at hrr; have f1 : decide ((0 : Int) < (L.length : Int)) = !(decide (L = [])) := by rw [← Qet]; simp
    obtain ⟨fst, hf⟩ : ∃ fst, decide (L = []) = fst := ⟨_, rfl⟩; obtain ⟨ln, hln⟩ : ∃ ln, L.length = ln := ⟨_, rfl⟩; rw [hf] at hrr f1; rw [hln] at f1 hll HO; have HF := Jh hf; have HLN := Jh hln; have hHR := Jh hrr; clear h1 h2 hrr hf hln; obtain ⟨A9, cap9, hv9⟩ := Kbn HO.out; subst hv9; have hsub : wrap64 (4611686018427387904 - (a : Int)) = 4611686018427387904 - (a : Int) := by unfold wrap64; omega
    have hsub2 : IntKind.u64.wrap (4611686018427387904 - (a : Int)) = 4611686018427387904 - (a : Int) := by rw [IntKind.wrap_u64]; omega
    cases fst with
    | false =>
     have f2 : 0 < ln := by simpa using f1
     have f3 : decide (0 < ln) = true := decide_eq_true f2; have f1 : decide ((0 : Int) < (ln : Int)) = true := f1
     by_cases h0 : st = 0
     ·subst h0; have hre : R = none := by rw [hHR.out, if_pos (.inl ⟨rfl, rfl⟩)]
      go_wp2_with fail
      refine HC2.out.mono ?_; rintro _ w3 ⟨rfl, rfl⟩; go_wp2_with fail
      go_ret3
      rw [hre]; exact ⟨90, by decide, rfl, by rw [HB.out]; exact HBR.out⟩
     have e0 : ((st : Int) == 0) = false := by simp; omega
     by_cases hb : 4611686018427387904 - a < st
     ·have e1 : decide ((4611686018427387904 : Int) - (a : Int) < (st : Int)) = true := by rw [decide_eq_true_eq]; omega
      have e2 : (4611686018427387904 : Int) - (a : Int) < (st : Int) := by omega
      have hre : R = none := by rw [hHR.out, if_pos (.inr hb)]
      go_wp2_with fail
      refine HC2.out.mono ?_; rintro _ w3 ⟨rfl, rfl⟩; go_wp2_with fail
      go_ret3
      rw [hre]; exact ⟨90, by decide, rfl, by rw [HB.out]; exact HBR.out⟩
     have e1 : decide ((4611686018427387904 : Int) - (a : Int) < (st : Int)) = false := by rw [decide_eq_false_iff_not]; omega
     have e2 : ¬ (4611686018427387904 : Int) - (a : Int) < (st : Int) := by omega
     have hif : ¬ ((false = false ∧ st = 0) ∨ 4611686018427387904 - a < st) := (by rintro (⟨_, h⟩ | h) <;> omega); have hrr := hHR.out; rw [if_neg hif] at hrr; have HRN := Jh hrr; have hsum : a + st ≤ 4611686018427387904 := by omega
     have hsw : IntKind.u64.wrap ((a : Int) + (st : Int)) = (a : Int) + (st : Int) := by rw [IntKind.wrap_u64]; omega
     have hcv : IntKind.i64.wrap ((a : Int) + (st : Int)) = (a : Int) + (st : Int) := by rw [IntKind.wrap_i64]; omega
     have hcw : wrap64 ((a : Int) + (st : Int)) = (a : Int) + (st : Int) := by unfold wrap64; omega
     clear hif hrr; obtain ⟨ib, hib, hib0, hib1, hib2⟩ := info_parts Kix; go_wp2_with fail
     refine HC2.out.mono ?_; rintro _ w3 ⟨rfl, rfl⟩; go_wp2_with (at_builtin; refine wpList_append_own_at _ rfl _ _ 69 rfl B 3 ib (.int .i64 0) 1 8 Tryz.underlying69 hib hib0 hib1 hib2 rfl (by decide) _ _ _ rfl (World.ownsRow.alloc HO.out _) ⟨wr.heap.size, 0, none⟩ 1 1 [.int .i64 ((a : Int) + (st : Int))] rfl rfl ?c1 ?c2 ?c3 ?c4 ?c5 ?_)
     case c1 => exact Kaw (l := [.int .i64 ((a : Int) + (st : Int))]) (Blk.new wr _ _)
     case c2 => intro u hu; rw [List.mem_singleton.1 hu]; rfl
     case c3 => unfold maxLen; omega
     case c4 => omega
     case c5 => simp; omega
     intro v' w4 hown' hgrow hx1 hat'; have hb4 : Below B w w4 := HBR.out.trans ⟨hgrow.os, hgrow.tape, hgrow.output, by have := hgrow.size; simp at this; omega, fun k hk => (hgrow.block k (by simp; omega) (fun e => Kyi HO.out hk e.symm)).trans (Below.heap_alloc _ _ _ (by omega))⟩; have hfl : (L ++ [a + st]).flatMap encN = L.flatMap encN ++ [.int .i64 ((a : Int) + (st : Int))] := by rw [List.flatMap_append]; simp [encN]
     have how : w4.ownsRow B 3 1 v' (L ++ [a + st]).length ((L ++ [a + st]).flatMap encN) := by rw [hfl, List.length_append, HLN.out]; exact hown'
     have HB4 := Jh hb4; have HO4 := Jh how; clear hown' hgrow hx1 hat' hb4 hfl how; go_wp2_with fail
     go_roundg g
     case measure => omega
     case rel =>
      refine ⟨j, a + st, L ++ [a + st], rfl, by go_num, by go_num, by omega, hj.2, hsum, by rw [List.length_append, HLN.out]; simp; omega, HO4.out, HB4.out, ?_⟩; rw [HRN.out, show decide (L ++ [a + st] = []) = false by simp]
      cases Kes s.data.toList g (a + st) false j with
      | none => rfl
      | some x => dsimp only; rw [List.append_assoc]; rfl
    | true =>
     have f2 : ¬ 0 < ln := by simpa using f1
     have f3 : decide (0 < ln) = false := decide_eq_false f2; have f1 : decide ((0 : Int) < (ln : Int)) = false := f1
     by_cases hb : 4611686018427387904 - a < st
     ·have e1 : decide ((4611686018427387904 : Int) - (a : Int) < (st : Int)) = true := by rw [decide_eq_true_eq]; omega
      have e2 : (4611686018427387904 : Int) - (a : Int) < (st : Int) := by omega
      have hre : R = none := by rw [hHR.out, if_pos (.inr hb)]
      go_wp2_with fail
      refine HC2.out.mono ?_; rintro _ w3 ⟨rfl, rfl⟩; go_wp2_with fail
      go_ret3
      rw [hre]; exact ⟨90, by decide, rfl, by rw [HB.out]; exact HBR.out⟩
     have e1 : decide ((4611686018427387904 : Int) - (a : Int) < (st : Int)) = false := by rw [decide_eq_false_iff_not]; omega
     have e2 : ¬ (4611686018427387904 : Int) - (a : Int) < (st : Int) := by omega
     have hif : ¬ ((true = false ∧ st = 0) ∨ 4611686018427387904 - a < st) := (by rintro (⟨h, _⟩ | h); cases h; omega); have hrr := hHR.out; rw [if_neg hif] at hrr; have HRN := Jh hrr; have hsum : a + st ≤ 4611686018427387904 := by omega
     have hsw : IntKind.u64.wrap ((a : Int) + (st : Int)) = (a : Int) + (st : Int) := by rw [IntKind.wrap_u64]; omega
     have hcv : IntKind.i64.wrap ((a : Int) + (st : Int)) = (a : Int) + (st : Int) := by rw [IntKind.wrap_i64]; omega
     have hcw : wrap64 ((a : Int) + (st : Int)) = (a : Int) + (st : Int) := by unfold wrap64; omega
     clear hif hrr; obtain ⟨ib, hib, hib0, hib1, hib2⟩ := info_parts Kix; go_wp2_with fail
     refine HC2.out.mono ?_; rintro _ w3 ⟨rfl, rfl⟩; go_wp2_with (at_builtin; refine wpList_append_own_at _ rfl _ _ 69 rfl B 3 ib (.int .i64 0) 1 8 Tryz.underlying69 hib hib0 hib1 hib2 rfl (by decide) _ _ _ rfl (World.ownsRow.alloc HO.out _) ⟨wr.heap.size, 0, none⟩ 1 1 [.int .i64 ((a : Int) + (st : Int))] rfl rfl ?c1 ?c2 ?c3 ?c4 ?c5 ?_)
     case c1 => exact Kaw (l := [.int .i64 ((a : Int) + (st : Int))]) (Blk.new wr _ _)
     case c2 => intro u hu; rw [List.mem_singleton.1 hu]; rfl
     case c3 => unfold maxLen; omega
     case c4 => omega
     case c5 => simp; omega
     intro v' w4 hown' hgrow hx1 hat'; have hb4 : Below B w w4 := HBR.out.trans ⟨hgrow.os, hgrow.tape, hgrow.output, by have := hgrow.size; simp at this; omega, fun k hk => (hgrow.block k (by simp; omega) (fun e => Kyi HO.out hk e.symm)).trans (Below.heap_alloc _ _ _ (by omega))⟩; have hfl : (L ++ [a + st]).flatMap encN = L.flatMap encN ++ [.int .i64 ((a : Int) + (st : Int))] := by rw [List.flatMap_append]; simp [encN]
     have how : w4.ownsRow B 3 1 v' (L ++ [a + st]).length ((L ++ [a + st]).flatMap encN) := by rw [hfl, List.length_append, HLN.out]; exact hown'
     have HB4 := Jh hb4; have HO4 := Jh how; clear hown' hgrow hx1 hat' hb4 hfl how; go_wp2_with fail
     go_roundg g
     case measure => omega
     case rel =>
      refine ⟨j, a + st, L ++ [a + st], rfl, by go_num, by go_num, by omega, hj.2, hsum, by rw [List.length_append, HLN.out]; simp; omega, HO4.out, HB4.out, ?_⟩; rw [HRN.out, show decide (L ++ [a + st] = []) = false by simp]
      cases Kes s.data.toList g (a + st) false j with
      | none => rfl
      | some x => dsimp only; rw [List.append_assoc]; rfl
end Go.Proofs.YtdoiekknhnbepaaGreatDoor
namespace Go.Proofs.YtdoiekknhnbepaaGreatDoor
open Go.RowKit Go.Sort
open Lib renaming hid → Jh
attribute [local go_sem ↓] Go.wp_at_zero Go.wp_at_succ
attribute [local go_sem] Later.cell
theorem Qeg {l : List UInt8} {x : List UInt8} {k : Nat} (h : readT l = .ok (x, k)) : 0 < k ∧ k ≤ l.length ∧ x.length ≤ l.length := by
 unfold readT at h
 cases hr : readU l with
 | error c => rw [hr] at h; cases h
 | ok y =>
  obtain ⟨v, k1⟩ := y; have hl := Kdm hr; rw [hr] at h; dsimp only at h
  split at h
  ·cases h
  ·rename_i hlen
   injection h with h; injection h with h1 h2; rw [← h1, ← h2, List.length_take, List.length_drop]; omega
theorem Kwf {l : List UInt8} {c : Nat} (h : readT l = .error c) : c ≠ 0 := by
 unfold readT at h
 cases hr : readU l with
 | error c' =>
  rw [hr] at h; injection h with h; rw [← h]; exact Kdn hr
 | ok y =>
  rw [hr] at h; dsimp only at h
  split at h
  ·injection h with h; omega
  ·cases h
theorem Kgt {s : List UInt8} {i v j : Nat} (h : ruAt s i = some (v, j)) : j ≤ s.length := by
 by_cases hi : i ≤ s.length
 ·exact (Kbt hi h).2
 ·unfold ruAt at h
  cases hr : readU (s.drop i) with
  | error c => rw [hr] at h; cases h
  | ok x =>
   have := Kdm hr; rw [List.length_drop] at this; omega
theorem Kir {I : List UInt8} {i n : Nat} {x : List UInt8} (h : Kbg I (i : Int) = (x, n, 0)) : i < n ∧ n ≤ I.length ∧ x.length ≤ I.length := by
 unfold Kbg at h; rw [if_neg (by omega), Int.toNat_natCast] at h
 cases hr : readT (I.drop i) with
 | error c =>
  rw [hr] at h; injection h with _ h; injection h with _ h; exact absurd h (Kwf hr)
 | ok y =>
  obtain ⟨v, k⟩ := y; have hk := Qeg hr; rw [List.length_drop] at hk; rw [hr] at h; dsimp only at h; injection h with h1 h; injection h with h2 _; rw [← h1, ← h2]; omega
def Kem (B : Nat) (w : World) (p : Nat) (t : List Txt) : Prop := B ≤ p ∧ ∃ A n c, Blk w p 197 #[.slice A n c] ∧ Strs w A n t ∧ n ≤ c ∧ ∀ a, A = some a → B ≤ a.block
theorem Kem.at_ {B p : Nat} {w : World} {t : List Txt} (h : Kem B w p t) : TabAt w (.pointer (some ⟨p, 0, none⟩)) t := by
 obtain ⟨_, A, n, c, h1, h2, h3, _⟩ := h; exact ⟨A, n, c, .inr ⟨_, rfl, h1⟩, h2, h3⟩
theorem Kem.keep {B p : Nat} {w w' : World} {t : List Txt} (h : Kem B w p t) (hs : w.heap.size ≤ w'.heap.size) (hb : ∀ k, B ≤ k → k < w.heap.size → w'.heap[k]? = w.heap[k]?) : Kem B w' p t := by
 obtain ⟨h0, A, n, c, h1, h2, h3, h4⟩ := h; refine ⟨h0, A, n, c, (hb p h0 h1.lt).trans h1, (h2.keepAt fun a ha hA => ?_).more hs, h3, h4⟩
 cases A with
 | none => cases hA
 | some x =>
  have : x.block = a.block := by simpa using hA
  exact World.cell?_of_block (w := w) (hb a.block (by rw [← this]; exact h4 x rfl) ha)
def TDecO (w : World) (r : Option (List Txt × Nat)) (en : Ending) (w' : World) : Prop := match r with
 | some (t, j) => ∃ p, en = .returned (.tuple #[.pointer (some ⟨p, 0, none⟩), .int .i64 (j : Int), .int .i64 0]) ∧ Kem w.heap.size w' p t ∧ Below w.heap.size w w'
 | none => ∃ f, f ≠ 0 ∧ en = .returned (.tuple #[.pointer none, .int .i64 0, .int .i64 ((f : Nat) : Int)]) ∧ Below w.heap.size w w'
set_option maxRecDepth 100000 in
set_option maxHeartbeats 2000000 in
theorem Kjh (S : ByteArray) (at0 : Nat) (w : World) (hS : S.size ≤ 1099511627776) :
  Calls Tryz.prog 148 #[.string S, .int .i64 (at0 : Int)] w (TDecO w (tabR S.data.toList at0)) := by
 obtain ⟨ib, hib, hz0, hz1, hz2⟩ := info_parts Kwh; have hSz : S.size ≤ 140737488351232 := by omega
 have hlen : S.data.toList.length = S.size := rfl; obtain ⟨R, hR⟩ : ∃ R, tabR S.data.toList at0 = R := ⟨_, rfl⟩; rw [hR]; rcases Key S.data.toList at0 with ⟨n, i0, h1, h2, h3⟩ | ⟨v, j, e, h1, h2, h3⟩
 rotate_left
 ·have HC2 := Jh (Kam S (at0 : Int) v j e h1 hSz w); have hne : ((e : Int) != 0) = true := by simp; omega
  have hre : R = none := by rw [← hR, tabR, h1]; exact if_pos h2
  have HE := Jh h2; clear h1 h2 h3 hR; go_enter Tryz.func148, Tryz.ntmps148
  go_wp2_with fail
  refine HC2.out.mono ?_; rintro _ w3 ⟨rfl, rfl⟩; go_wp2_with fail
  go_ret3
  rw [hre]; exact ⟨e, HE.out, rfl, Below.refl _ _⟩
 have HC := Jh (Kam S (at0 : Int) n i0 0 h1 hSz w)
 have hR0 : Kep S.data.toList n [] i0 = R := by
  rw [← hR, tabR, h1]; exact (if_neg (by simp)).symm
 have hi0 : i0 ≤ S.size := Kgt h2; have HR := Jh hR0; obtain ⟨B, hB⟩ : ∃ B, w.heap.size = B := ⟨_, rfl⟩; have HB := Jh hB; have hq0 : Blk (w.alloc (.cells #[.slice none 0 0] 197)) B 197 #[.slice none 0 0] := Blk.newAt hB.symm; have hb0 : Below B w (w.alloc (.cells #[.slice none 0 0] 197)) := (Below.refl _ _).alloc (by omega) _; have HQ0 := Jh hq0; have HB0 := Jh hb0; clear h1 h2 hR hR0 hq0 hb0; go_enter Tryz.func148, Tryz.ntmps148
 go_wp2_with fail
 refine HC.out.mono ?_; rintro _ w1 ⟨rfl, rfl⟩; go_wp2_with fail
 try rw [hB]
 clear hB; go_loopg [1, 7] n (fun g s1 s7 wr => ∃ (at_ : Nat) (L : List Txt) (v : Value), s1 = .int .i64 (at_ : Int) ∧ s7 = .int .u64 (g : Int) ∧ g < 2 ^ 64 ∧ at_ ≤ S.size ∧ L.length ≤ at_ ∧ Blk wr B 197 #[v] ∧ wr.ownsRow (B + 1) 9 1 v L.length (L.map txtV) ∧ Below B w wr ∧ Kep S.data.toList g L at_ = R)
 case atStart => exact ⟨i0, [], _, rfl, rfl, h3, hi0, by simp, HQ0.out, World.ownsRow_nil _ _ _ _, HB0.out, HR.out⟩
 case round =>
  obtain ⟨at_, L, v, rfl, rfl, hg, hat, hll, hq, hown, hbr, hRR⟩ := hrel; obtain ⟨i, hi⟩ : ∃ i, L.length = i := ⟨_, rfl⟩; rw [hi] at hll hown; obtain ⟨A, c, rfl, hs, hbase, hc⟩ := Strs.of_own hown hi
  cases gk with
  | zero =>
   have hre : R = some (L, at_) := by rw [← hRR]; rfl
   clear hown hRR; go_wp2_with fail
   go_ret3
   rw [hre]; exact ⟨_, rfl, ⟨by rw [HB.out]; exact Nat.le_refl _, A, i, c, hq, hs, hc, fun a e => by have := hbase a e; have := HB.out; omega⟩, by rw [HB.out]; exact hbr⟩
  | succ g =>
   have el : decide (0 < g + 1) = true := by rw [decide_eq_true_eq]; omega
   obtain ⟨x, k2, e, hr⟩ : ∃ x n e, Kbg S.data.toList (at_ : Int) = (x, n, e) := ⟨_, _, _, rfl⟩; have HC2 := Jh (Kfr S (at_ : Int) x k2 e hr hSz wr); rw [Kep, hr] at hRR; dsimp only at hRR; obtain ⟨X, hX⟩ : ∃ N : ByteArray, (⟨x.toArray⟩ : ByteArray) = N := ⟨_, rfl⟩; have HX := Jh hX; rw [hX] at HC2
   by_cases he : e = 0
   rotate_left
   ·have hne : ((e : Int) != 0) = true := by simp; omega
    have hre : R = none := by rw [← hRR]; exact if_pos he
    have HE := Jh he; clear hr hRR he hown hs hbase hX; go_wp2_with fail
    refine HC2.out.mono ?_; rintro _ w3 ⟨rfl, rfl⟩; go_wp2_with fail
    go_ret3
    rw [hre]; exact ⟨e, HE.out, rfl, by rw [HB.out]; exact hbr⟩
   subst he; have hk2 := Kir hr; rw [if_neg (by simp)] at hRR; obtain ⟨lw, hlw⟩ : ∃ lw, lowT L x = lw := ⟨_, rfl⟩; rw [hlw] at hRR; have HRR := Jh hRR; have HHI := Jh hi; have HBR := Jh hbr; have HLW := Jh hlw
   have hpne : some B ≠ (Value.slice A i c).ownBlock := by
    intro e; have := (hown.lt _ e.symm).1; omega
   have hcells : ∀ j, i = j + 1 → ∃ g, A = some ⟨g, 0, none⟩ ∧ g < wr.heap.size ∧ wr.cell? ⟨g, j, none⟩ = some (txtV L[j]!) := by
    rintro j rfl
    obtain ⟨g, hg⟩ : ∃ g, A = some ⟨g, 0, none⟩ := by
     rcases hown.2 with ⟨h, _⟩ | ⟨g, cap, cur, h, _⟩
     ·injection h; omega
     ·injection h with h; exact ⟨g, h⟩
    obtain ⟨b, off, e, hb, hcell⟩ := hs.at_ (i := j) (by omega); rw [hg] at e; injection e with e; injection e with e1 e2; subst e1 e2; refine ⟨g, hg, hb, ?_⟩; simpa using hcell
   have HC3 := Jh hcells; have HOW := Jh hown; clear hr hRR hi hbr hlw hown hs hbase hcells hX; have q0 : _ = some (Value.slice A i c) := hq.cell 0; go_wp2_with fail
   refine HC2.out.mono ?_; rintro _ w1 ⟨rfl, rfl⟩; go_upto_region 12 with fail
   go_cut [11, 56] (fun _s11 s56 wz => s56 = .bool lw ∧ wr = wz)
   case first =>
    by_cases hi0' : i = 0
    ·subst hi0'
     obtain rfl : lw = false := by
      rw [← HLW.out]; unfold lowT; rw [decide_eq_false_iff_not]; have := HHI.out; omega
     go_wp2_with fail
     go_meet
     exact ⟨rfl, rfl⟩
    ·obtain ⟨j, rfl⟩ : ∃ j, i = j + 1 := ⟨i - 1, by omega⟩; obtain ⟨g, rfl, hg, hcell⟩ := HC3.out j rfl; unfold txtV at hcell; obtain ⟨Z, hZ⟩ : ∃ N : ByteArray, (⟨(L[j]!).toArray⟩ : ByteArray) = N := ⟨_, rfl⟩
     have hql : Op.bytesLess Z.toList X.toList = !lw := by
      rw [← hZ, Khe, ← HX.out, ← HLW.out]; unfold lowT; have h1 := HHI.out; rw [h1, show j + 1 - 1 = j from rfl]
      by_cases h : L[j]! < x
      ·rw [decide_eq_true h, decide_eq_false (fun h' => h'.2 h)]; rfl
      ·rw [decide_eq_false h, decide_eq_true ⟨by omega, h⟩]; rfl
     rw [hZ] at hcell; have hj1 : ((j + 1 : Nat) : Int) - 1 = (j : Int) := by omega
     have hj0 : decide ((0 : Int) ≤ (j : Int)) = true := by simp
     clear hZ HC3 HLW; rw [hj1]; clear hj1
     cases lw with
     | false =>
      go_wp2_with fail
      go_meet
      exact ⟨rfl, rfl⟩
     | true =>
      go_wp2_with fail
      go_meet
      exact ⟨rfl, rfl⟩
   case rest =>
    obtain ⟨rfl, rfl⟩ := hcut
    cases lw with
    | true =>
     have hre : R = none := by rw [← HRR.out]; exact if_pos rfl
     go_wp2_with fail
     go_ret3
     try rw [hre]
     exact ⟨90, by decide, rfl, by rw [HB.out]; exact HBR.out⟩
    | false =>
     have hrr := HRR.out; rw [if_neg (by simp)] at hrr; have HRR2 := Jh hrr; clear hrr; have hsz : B + 1 ≤ wr.heap.size := hq.lt; go_wp2_with (at_builtin; refine wpList_append_own_at _ rfl _ _ 118 rfl (B + 1) 9 ib (.string ⟨#[]⟩) 1 16 Tryz.underlying118 hib hz0 hz1 hz2 rfl (by decide) _ _ _ rfl (World.ownsRow.alloc HOW.out _) ⟨wr.heap.size, 0, none⟩ 1 1 [.string X] rfl rfl ?p1 ?p2 ?p3 ?p4 ?p5 ?_)
     case p1 => exact Kaw (l := [.string X]) (Blk.new wr _ _)
     case p2 => intro u hu; rw [List.mem_singleton.1 hu]; rfl
     case p3 => unfold maxLen; omega
     case p4 => omega
     case p5 => simp; omega
     intro v' w2 hown' hgrow _ _; have hall2 : wr.grownBy w2 (Value.slice A i c).ownBlock := (World.grownBy_alloc wr _ _).trans hgrow; have hq2 := hq.grown hall2 hpne; have hB2 : Below B w w2 := HBR.out.trans ⟨hall2.os, hall2.tape, hall2.output, hall2.size, fun k hk => hall2.block k (by omega) (fun e => by have := (HOW.out.lt k e.symm).1; omega)⟩
     have hown2 : w2.ownsRow (B + 1) 9 1 v' (i + 1) ((L ++ [x]).map txtV) := by
      have e1 : (L ++ [x]).map txtV = L.map txtV ++ [.string X] := by rw [List.map_append]; simp [txtV, HX.out]
      rw [e1]; simpa using hown'
     have hl1 : (L ++ [x]).length = i + 1 := by rw [List.length_append, HHI.out]; rfl
     obtain ⟨A2, c2, rfl, _, _, hc2⟩ := Strs.of_own hown2 hl1
     have hp2 : some B ≠ (Value.slice A2 (i + 1) c2).ownBlock := by
      intro e; have := (hown2.lt _ e.symm).1; omega
     have hg1 : IntKind.u64.wrap (((g + 1 : Nat) : Int) - 1) = (g : Int) := by
      rw [show ((g + 1 : Nat) : Int) - 1 = (g : Int) by omega]; exact IntWalk.u64_in _ (by omega)
     have HG1 := Jh hg1; have HL1 := Jh hl1; have f2 := hq2.frozen 0; have q2 : _ = some (Value.slice A i c) := hq2.cell 0; have hl2 := hq2.lt; clear hown' hgrow hall2 hq q0 HC3 hg1 hl1; go_wp2_with fail
     go_roundg g
     case measure => omega
     case rel => exact ⟨k2, L ++ [x], _, rfl, by first | rfl | exact vi HG1.out, by omega, by omega, by rw [HL1.out]; omega, hq2.set_ 0 _, by rw [HL1.out]; exact ownsRow_setCell_other hown2 (a := ⟨B, 0, none⟩) (fun e => hp2 e.symm) _, Kkk hB2 (Nat.le_refl _) _, HRR2.out⟩
end Go.Proofs.YtdoiekknhnbepaaGreatDoor
namespace Go.Proofs.YtdoiekknhnbepaaGreatDoor
open Go.RowKit
theorem Kjb {w w1 : World} {pr : Nat} {v : Value} (h : Below w.heap.size w w1) : Kept w.heap.size [pr] w (w1.setCell ⟨pr, 1, none⟩ v) := (Kept.of_below h).setCell (p := ⟨pr, 1, none⟩) (.inl (by simp)) v
theorem Kbw {w w' : World} (h : Below w.drew.heap.size w.drew w') : Below w.heap.size w w' := ⟨h.os, h.tape, h.output, h.size, h.block⟩
theorem Rdr.set {pr i j : Nat} {S : ByteArray} {w w1 : World} (h : Rdr pr S i w) (hb : Below w.heap.size w w1) : Rdr pr S j (w1.setCell ⟨pr, 1, none⟩ (.int .i64 ((j : Nat) : Int))) :=
 (Blk.below (show Blk w _ _ _ from h) hb (Blk.lt (show Blk w _ _ _ from h))).set_ 1 _
theorem Rdr.lt {pr i : Nat} {S : ByteArray} {w : World} (h : Rdr pr S i w) : pr < w.heap.size := Blk.lt (show Blk w _ _ _ from h)
theorem Rdr.below {pr i : Nat} {S : ByteArray} {w w' : World} (h : Rdr pr S i w) (hb : Below w.heap.size w w') : Rdr pr S i w' := Blk.below (show Blk w _ _ _ from h) hb h.lt
def TkV (pr : Nat) (S : ByteArray) (w : World) (r : Option (Value × Nat)) (e : Ending) (w' : World) : Prop := match r with
 | some (v, j) => e = .returned v ∧ Rdr pr S j w' ∧ Kept w.heap.size [pr] w w'
 | none => (∃ f, f ≠ 0 ∧ e = Kaq f) ∧ Below w.heap.size w w'
theorem Kty {pr i : Nat} {S : ByteArray} {w w' : World} {e : Ending} {v : Value} {j : Nat} (h : Rdr pr S i w) (ht : RdTk pr w (fun v' j' _ => v' = v ∧ j' = j) False e w') : TkV pr S w (some (v, j)) e w' := by
 rcases ht with ⟨v', j', w1, rfl, ⟨rfl, rfl⟩, hb, rfl⟩ | ⟨hno, _⟩
 ·exact ⟨rfl, h.set hb, Kjb hb⟩
 ·exact hno.elim
theorem Kuc {pr : Nat} {S : ByteArray} {w w' : World} {e : Ending} (ht : RdTk pr w (fun _ _ _ => False) True e w') : TkV pr S w none e w' := by
 rcases ht with ⟨v', j', w1, rfl, hno, _⟩ | ⟨_, f, hf, rfl, hb⟩
 ·exact hno.elim
 ·exact ⟨⟨f, hf, rfl⟩, hb⟩
theorem Kdo (pr i : Nat) (S : ByteArray) (w : World) (h : Rdr pr S i w) (hS : S.size ≤ 1099511627776) :
  Calls Tryz.prog 77 #[.pointer (some ⟨pr, 0, none⟩), .func (.func 78) #[] #[]] w (TkV pr S w ((ruAt S.data.toList i).map fun x => (.int .u64 (x.1 : Int), x.2))) := by
 have hS2 : S.size ≤ 140737488351232 := by omega
 rcases Key S.data.toList i with ⟨v, j, h1, h2, h3⟩ | ⟨v, j, e, h1, h2, h3⟩
 ·rw [h2]; refine (Kma pr i S w h (fun v' j' _ => v' = .int .u64 (v : Int) ∧ j' = j) False ((Kam S (i : Int) v j 0 h1 hS2 w.drew).mono ?_)).mono fun e w' ht => Kty h ht
  rintro e w' ⟨rfl, rfl⟩; exact ⟨Kbw (Below.refl _ _), .inl ⟨_, j, rfl, rfl, rfl⟩⟩
 ·rw [h3]; refine (Kma pr i S w h (fun _ _ _ => False) True ((Kam S (i : Int) v j e h1 hS2 w.drew).mono ?_)).mono fun e w' ht => Kuc ht
  rintro en w' ⟨rfl, rfl⟩; exact ⟨Kbw (Below.refl _ _), .inr ⟨trivial, _, _, e, h2, rfl⟩⟩
theorem Qfb (s : List UInt8) (i : Nat) : (∃ v j, Kan s (i : Int) = (v, j, 0) ∧ riAt s i = some (unzig v, j) ∧ v < 2 ^ 64) ∨ (∃ v j e, Kan s (i : Int) = (v, j, e) ∧ e ≠ 0 ∧ riAt s i = none) := by
 rw [Kdi]; unfold riAt readI outOf
 cases hr : readU (s.drop i) with
 | error c => exact .inr ⟨0, 0, c, rfl, Kdn hr, rfl⟩
 | ok x => exact .inl ⟨x.1, i + x.2, rfl, rfl, (Kdm hr).1⟩
theorem Kjd (pr i : Nat) (S : ByteArray) (w : World) (h : Rdr pr S i w) (hS : S.size ≤ 1099511627776) :
  Calls Tryz.prog 79 #[.pointer (some ⟨pr, 0, none⟩), .func (.func 80) #[] #[]] w (TkV pr S w ((riAt S.data.toList i).map fun x => (.int .i64 x.1, x.2))) := by
 have hS2 : S.size ≤ 140737488351232 := by omega
 rcases Qfb S.data.toList i with ⟨v, j, h1, h2, h3⟩ | ⟨v, j, e, h1, h2, h3⟩
 ·rw [h2]; refine (Klj pr i S w h (fun v' j' _ => v' = .int .i64 (unzig v) ∧ j' = j) False ((Kjg S (i : Int) v j 0 h1 hS2 w.drew).mono ?_)).mono fun e w' ht => Kty h ht
  rintro e w' ⟨rfl, rfl⟩; exact ⟨Kbw (Below.refl _ _), .inl ⟨_, j, rfl, rfl, rfl⟩⟩
 ·rw [h3]; refine (Klj pr i S w h (fun _ _ _ => False) True ((Kjg S (i : Int) v j e h1 hS2 w.drew).mono ?_)).mono fun e w' ht => Kuc ht
  rintro en w' ⟨rfl, rfl⟩; exact ⟨Kbw (Below.refl _ _), .inr ⟨trivial, _, _, e, h2, rfl⟩⟩
theorem Khu (pr i : Nat) (S : ByteArray) (w : World) (h : Rdr pr S i w) (hS : S.size ≤ 1099511627776) :
  Calls Tryz.prog 90 #[.pointer (some ⟨pr, 0, none⟩), .func (.func 91) #[] #[]] w (TkV pr S w (if (Kbg S.data.toList i).2.2 = 0 then some (txtV (Kbg S.data.toList i).1, (Kbg S.data.toList i).2.1) else none)) := by
 have hS2 : S.size ≤ 140737488351232 := by omega
 obtain ⟨x, j, e, h1⟩ : ∃ x j e, Kbg S.data.toList (i : Int) = (x, j, e) := ⟨_, _, _, rfl⟩; rw [h1]; dsimp only
 by_cases he : e = 0
 ·subst he; rw [if_pos rfl]; refine (Klq pr i S w h (fun v' j' _ => v' = txtV x ∧ j' = j) False ((Kfr S (i : Int) x j 0 h1 hS2 w.drew).mono ?_)).mono fun e w' ht => Kty h ht
  rintro e w' ⟨rfl, rfl⟩; exact ⟨Kbw (Below.refl _ _), .inl ⟨_, j, rfl, rfl, rfl⟩⟩
 ·rw [if_neg he]; refine (Klq pr i S w h (fun _ _ _ => False) True ((Kfr S (i : Int) x j e h1 hS2 w.drew).mono ?_)).mono fun e w' ht => Kuc ht
  rintro en w' ⟨rfl, rfl⟩; exact ⟨Kbw (Below.refl _ _), .inr ⟨trivial, _, _, e, he, rfl⟩⟩
end Go.Proofs.YtdoiekknhnbepaaGreatDoor
