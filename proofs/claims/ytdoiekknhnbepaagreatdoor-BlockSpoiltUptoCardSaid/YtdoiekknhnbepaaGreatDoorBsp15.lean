/- Merged (what the claim wants of): BlkPostsB, BlkSize3, BlkLawA, OpenS, OpenBulk, OpenSym, OpenLab, OpenSets, BlkOpenC, BlkBox, BlkLawB, BlkLawC, BlkLawG, BlkBytes, BlkSpoilP. -/
import Derived.Test.YtdoiekknhnbepaaGreatDoorBsp11
import Derived.Test.YtdoiekknhnbepaaGreatDoorBsp14
import Derived.Test.YtdoiekknhnbepaaGreatDoorBsp13
import Derived.Test.YtdoiekknhnbepaaGreatDoorBsp02
import Derived.Test.YtdoiekknhnbepaaGreatDoorBsp05
import Derived.Laws.Bits64
import Derived.Test.YtdoiekknhnbepaaGreatDoorBsp03
import Derived.Test.YtdoiekknhnbepaaGreatDoorBsp12
import Derived.Test.YtdoiekknhnbepaaGreatDoorRows
import Derived.ProofKit
import Derived.SizedLaws
import Derived.OpenShut
import Derived.ChangeMaps5
import Derived.Test.YtdoiekknhnbepaaGreatDoorBsp01
import Derived.Deep.Slices
import Derived.Test.YtdoiekknhnbepaaGreatDoorBsp09
import Derived.Laws.IdiomStrings
set_option linter.unusedVariables false
set_option linter.unusedSimpArgs false
set_option maxRecDepth 100000
set_option maxHeartbeats 8000000
namespace Go.Proofs.YtdoiekknhnbepaaGreatDoor
section
open Go.RowKit
open Lib renaming hid → Jh
attribute [local go_sem ↓] Go.wp_at_zero Go.wp_at_succ
attribute [local go_sem] Later.cell
structure PSN (w0 : World) (q : Nat) (X : ByteArray) (w : World) : Prop where
 f : Blk w q 9 #[.string X]
 o : ∃ v, Blk w (q + 1) 69 #[v]
 e : Blk w (q + 2) 29 #[.int .i64 0]
 bl : Below q w0 w
theorem QN.p {L : QLoc} {w : World} (h : QN L w) : PSN L.w0 L.q L.X w := ⟨h.f, ⟨_, h.o⟩, h.e, h.bl⟩
theorem PSN.below {w0 w w' : World} {q : Nat} {X : ByteArray} (h : PSN w0 q X w) (hb : Below w.heap.size w w') : PSN w0 q X w' := by
 obtain ⟨v, ho⟩ := h.o; exact ⟨h.f.below hb h.f.lt, ⟨v, ho.below hb ho.lt⟩, h.e.below hb h.e.lt, h.bl.trans (hb.mono (by have := h.f.lt; omega))⟩
theorem PSN.kept {w0 w w' : World} {q p : Nat} {X : ByteArray} (h : PSN w0 q X w) (hk : Kept w.heap.size [p] w w') (hp : q + 3 ≤ p) : PSN w0 q X w' := by
 obtain ⟨v, ho⟩ := h.o; exact ⟨h.f.kept hk h.f.lt (by simp; omega), ⟨v, ho.kept hk ho.lt (by simp; omega)⟩, h.e.kept hk h.e.lt (by simp; omega), h.bl.trans ⟨hk.os, hk.tape, hk.output, hk.size, fun k hlt => hk.block k (by have := h.f.lt; omega) (by simp; omega)⟩⟩
structure PLoop (w0 : World) (q pr pb m nb : Nat) (X B : ByteArray) (S : List (List Lb)) (es : Array MapEntry) (clock : Nat) (l : List Nat) (i : Nat) (w : World) : Prop where
 p : PSN w0 q X w
 o : ∃ v, Blk w (q + 1) 69 #[v] ∧ w.ownsRow (nb + 1) 3 1 v l.length (l.flatMap encN)
 r : Rdr pr B i w
 b : Blk w pb 104 #[.map (some m)]
 mp : LMap w (nb + 1) m (Kai S) (8 * S.length) es clock
theorem PLoop.kept {w0 w w' : World} {q pr m : Nat} {X B : ByteArray} {S : List (List Lb)} {es : Array MapEntry} {clock : Nat} {l : List Nat} {i j : Nat} (h : PLoop w0 q pr (m + 1) m (m + 2) X B S es clock l i w) (ha : q + 2 < pr) (hb : pr < m) (hk : Kept w.heap.size [pr] w w') (hr : Rdr pr B j w') : PLoop w0 q pr (m + 1) m (m + 2) X B S es clock l j w' := by
 obtain ⟨v, h1, h2⟩ := h.o; have hg : w.grownBy w' (some pr) := ⟨hk.os, hk.tape, hk.output, hk.size, fun k h1 h2 => hk.block k h1 (by simpa using fun e => h2 (by rw [e]))⟩; exact ⟨h.p.kept hk (by omega), ⟨v, h1.kept hk h1.lt (by simp; omega), Kfj h2 hk (fun e => Kby (show Blk w pr _ _ from h.r) h2 (by decide) e.symm)⟩, hr, h.b.kept hk h.b.lt (by simp; omega), h.mp.far hg (by omega) (by omega)⟩
theorem PLoop.below {w0 w w' : World} {q pr m : Nat} {X B : ByteArray} {S : List (List Lb)} {es : Array MapEntry} {clock : Nat} {l : List Nat} {i : Nat} (h : PLoop w0 q pr (m + 1) m (m + 2) X B S es clock l i w) (ha : q + 2 < pr) (hb : pr < m) (hk : Below w.heap.size w w') : PLoop w0 q pr (m + 1) m (m + 2) X B S es clock l i w' := h.kept ha hb (Kept.of_below hk) (h.r.below hk)
theorem PLoop.put {w0 w : World} {q pr m : Nat} {X B : ByteArray} {S : List (List Lb)} {es : Array MapEntry} {clock : Nat} {l l' : List Nat} {i : Nat} {v : Value} (h : PLoop w0 q pr (m + 1) m (m + 2) X B S es clock l i w) (ha : q + 2 < pr) (hb : pr < m) (hv : w.ownsRow (m + 3) 3 1 v l'.length (l'.flatMap encN)) : PLoop w0 q pr (m + 1) m (m + 2) X B S es clock l' i (w.setCell ⟨q + 1, 0, none⟩ v) := by
 obtain ⟨v0, h1, h2⟩ := h.o; have hg : w.grownBy (w.setCell ⟨q + 1, 0, none⟩ v) (some (q + 1)) := ⟨rfl, rfl, rfl, by simp [World.setCell], fun k _ hk => Below.heap_setCell _ _ _ _ (fun e => hk (by rw [e]))⟩; refine ⟨⟨h.p.f.far (by simp) _, ⟨v, h1.set_ 0 v⟩, h.p.e.far (by simp) _, h.p.bl.setCell (p := ⟨q + 1, 0, none⟩) (Nat.le_succ q) v⟩, ⟨v, h1.set_ 0 v, Kcg hv h1 (by decide)⟩, Blk.far (show Blk w pr _ _ from h.r) (p := ⟨q + 1, 0, none⟩) (by show pr ≠ q + 1; omega) _, h.b.far (by show m + 1 ≠ q + 1; omega) _, h.mp.far hg (by omega) (by omega)⟩
theorem Qbf {I : List UInt8} {S : List (List Lb)} {i : Nat} (h : Kcx (fun S l => S ++ [l]) (fun S _ => some S) I [] = some (S, i)) : i ≤ I.length :=
 (Kip (P := fun _ _ => True) (fun _ _ _ _ _ _ => trivial) (fun _ _ _ _ _ _ _ _ => trivial) (fun _ _ _ _ _ _ _ => trivial) trivial h).2
theorem strs1 {w : World} {A : ByteArray} : Strs (w.alloc (.cells #[.string A] 9)) (some ⟨w.heap.size, 0, none⟩) 1 [A.data.toList] := by
 refine ⟨rfl, fun _ => ⟨w.heap.size, 0, rfl, by simp, fun i x hx j v hv => ?_⟩⟩; have hb : Blk (w.alloc (.cells #[.string A] 9)) w.heap.size 9 #[.string A] := Blk.new _ _ _
 match i, hx with
 | 0, hx => injection hx with hx; subst hx; match j, hv with | 0, hv => injection hv with hv; subst hv; exact hb.cell 0
theorem Kcl {w0 : World} {q : Nat} {X : ByteArray} (w : World) (h : PSN w0 q X w) (h0 : bSz X) (hN : Kbz w0) (hq : w0.heap.size = q) (tt : TypeId) (xx : Value) :
  CallsD Tryz.prog 87 #[.pointer (some ⟨q, 0, none⟩), .pointer (some ⟨q + 1, 0, none⟩), .pointer (some ⟨q + 2, 0, none⟩)] (.panicking [{ v := .iface tt xx, recovered := false }]) w fun e u' w' =>
   e = .returned (.tuple #[]) ∧ u' = .panicking [{ v := .iface tt xx, recovered := true }] ∧ Blk w' (q + 1) 69 #[.slice none 0 0] ∧ Blk w' (q + 2) 29 #[.int .i64 (Kau [X.data.toList] : Nat)] ∧ Below q w0 w' := by
 obtain ⟨v, hc⟩ := h.o; have f0 : w.cell? ⟨q, 0, none⟩ = some (.string X) := h.f.cell 0; refine callsD_of_wpS Tryz.func87 rfl fun c₀ cs hu => ?_
 apply wpS_seq; apply wpS_region; simp [wpOpsS, go_sem, recoverD, hu, Tryz.ntmps87, Exit.thenS]; refine wpS_cond (t := true) (by simp [Act.eval, Array.replicate]) ?_; simp only [if_true]; refine wpS_of_wp ?_; have hs := @strs1 w X
 have hbl := fun W (hb : Below w.heap.size w W) (hS : Strs W (some ⟨w.heap.size, 0, none⟩) 1 [X.data.toList]) => Klp [X.data.toList] (some ⟨w.heap.size, 0, none⟩) 1 1 W hS (by omega) (fun x hx => by
  unfold bSz at h0; simp at hx; rcases hx with rfl; rw [Array.length_toList]; show ByteArray.size _ ≤ _
  omega) (hN.below (by rw [← hq]; exact hN.lt) (h.bl.trans (hb.mono (by have := h.f.lt; omega))))
 simp [Array.replicate]; go_upto_region 2 with fail
 refine (hbl _ ((Below.refl _ _).alloc (Nat.le_refl _) _) hs).mono ?_; rintro _ w2 ⟨rfl, hb2⟩; have hb2' := ((Below.refl w.heap.size w).alloc (Nat.le_refl _) (.cells #[.string X] 9)).trans (hb2.mono (by simp)); have hc2 := hc.below hb2' hc.lt; have he2 := h.e.below hb2' h.e.lt; have HC2 := Jh hc2; have HE2 := Jh he2; have HB2 := Jh (h.bl.trans (hb2'.mono (by have := h.f.lt; omega))); have c0 : w2.cell? ⟨q + 1, 0, none⟩ = some v := hc2.cell 0; have g0 := hc2.frozen 0; have e0 : w2.cell? ⟨q + 2, 0, none⟩ = some (.int .i64 0) := he2.cell 0; have ef := he2.frozen 0; clear hb2 hb2' hc2 he2 hbl hs f0 h hc; go_wp2_with fail
 have k1 := (HC2.out.set_ 0 (.slice none 0 0)).far (p := ⟨q + 2, 0, none⟩) (by simp) (.int .i64 (Kau [X.data.toList] : Nat)); have k2 := (HE2.out.far (p := ⟨q + 1, 0, none⟩) (by simp) (.slice none 0 0)).set_ 0 (.int .i64 (Kau [X.data.toList] : Nat)); have k3 := (HB2.out.setCell (p := ⟨q + 1, 0, none⟩) (Nat.le_succ q) (.slice none 0 0)).setCell (p := ⟨q + 2, 0, none⟩) (Nat.le_add_right q 2) (.int .i64 (Kau [X.data.toList] : Nat))
 revert k1 k2 k3
 generalize (w2.setCell ⟨q + 1, 0, none⟩ (.slice none 0 0)).setCell ⟨q + 2, 0, none⟩ (.int .i64 (Kau [X.data.toList] : Nat)) = wz; intro k1 k2 k3; simp [bodyPostS, results, Tryz.results87]; exact ⟨k1, k2, k3⟩
theorem Kxh (a b c : Addr) (w : World) :
  CallsD Tryz.prog 87 #[.pointer (some a), .pointer (some b), .pointer (some c)] .returning w fun e u' w' => e = .returned (.tuple #[]) ∧ u' = .returning ∧ w' = w := by
 refine callsD_of_wpS Tryz.func87 rfl fun c₀ cs hu => ?_
 apply wpS_seq; apply wpS_region; simp [wpOpsS, go_sem, recoverD, hu, Tryz.ntmps87, Exit.thenS]; refine wpS_cond (t := false) (by simp [Act.eval, Array.replicate]) ?_; simp only [Bool.false_eq_true, if_false]; refine wpS_of_wp (wp_skip ?_); cases c₀
 simp_all [bodyPostS, results, Tryz.results87]
def Qbu (w' : World) (r : Option (List Nat)) (bl : Nat) (e : Ending) : Prop := match r with
 | some l => ∃ A c, e = .returned (.tuple #[.slice A l.length c, .int .i64 0]) ∧ Elems w' w'.heap.size 1 encN A l.length l
 | none => e = .returned (.tuple #[.slice none 0 0, .int .i64 (bl : Int)])
theorem qres {w : World} {q : Nat} {x u : Value} (tmps : Array Value) (h1 : Blk w (q + 1) 69 #[x]) (h2 : Blk w (q + 2) 29 #[u]) (hp : tmps.getD 6 undef = .pointer (some ⟨q + 1, 0, none⟩)) (hq : tmps.getD 7 undef = .pointer (some ⟨q + 2, 0, none⟩)) :
  (results Tryz.f32 tmps).run Tryz.prog w = .ok (.tuple #[x, u]) w := by
 refine Khv rfl tmps w ⟨q + 1, 0, none⟩ ⟨q + 2, 0, none⟩ x u hp hq ?_ ?_
 ·have e5 : w.cell? ⟨q + 1, 0, none⟩ = some x := h1.cell 0; simp [loadVar, run_underlying Tryz.underlying69, go_sem, e5]
 ·have e5 : w.cell? ⟨q + 2, 0, none⟩ = some u := h2.cell 0; simp [loadVar, run_underlying Tryz.underlying29, go_sem, e5]
theorem Ked {w0 w : World} {q : Nat} {bl : Nat} {tmps : Array Value} {r : Option (List Nat)} (k1 : Blk w (q + 1) 69 #[.slice none 0 0]) (k2 : Blk w (q + 2) 29 #[.int .i64 (bl : Int)]) (k3 : Below q w0 w) (hr : r = none)
  (hp : tmps.getD 6 undef = .pointer (some ⟨q + 1, 0, none⟩)) (hq : tmps.getD 7 undef = .pointer (some ⟨q + 2, 0, none⟩)) (hw : w0.heap.size = q) :
  ∃ v, (results Tryz.f32 tmps).run Tryz.prog w = .ok v w ∧ (Qbu w r bl (.returned v) ∧ Below w0.heap.size w0 w) := by
 subst hr; exact ⟨_, qres tmps k1 k2 hp hq, rfl, by rw [hw]; exact k3⟩
def Khs (X : List UInt8) (q : Lb) : Option (List Nat) := match Kan X with
 | .error _ => none
 | .ok I => Kia I q
theorem Kvm (n : Nat) (w : World) : Calls Tryz.prog 89 #[.int .u64 (n : Int)] w fun e w' => e = .returned (.tuple #[]) ∧ w = w' := by
 go_enter Tryz.func89, Tryz.ntmps89
 go_wp2
 go_end0
 exact ⟨rfl, rfl⟩
theorem Qbk {I : List UInt8} {S : List (List Lb)} {i : Nat} (h : Kcx (fun S l => S ++ [l]) (fun S _ => some S) I [] = some (S, i)) : Kew S ∧ S.length ≤ I.length := by
 have := Kip (P := fun (S : List (List Lb)) i => Kew S ∧ S.length ≤ i) (fun s i j h h1 h2 => ⟨h.1, by omega⟩) (fun s i j l h h1 h2 hl => ⟨fun x hx => ?_, ?_⟩) (fun s i n s' h h1 hp => by injection hp with hp; rw [← hp]; exact h) (s := []) ⟨fun x hx => by simp at hx, Nat.le_refl _⟩ h
 ·exact ⟨this.1.1, by have h1 := this.1.2; have h2 := this.2; omega⟩
 ·rcases List.mem_append.1 hx with h9 | h9
  ·exact h.1 x h9
  ·rw [List.mem_singleton.1 h9]; exact ⟨hl.1, hl.2.1⟩
 ·show (s ++ [l]).length ≤ j
  rw [List.length_append, List.length_singleton]; omega
theorem Kwm (X N V : ByteArray) (w : World) (h0 : bSz X) (hN : Kbz w) :
  Calls Tryz.prog 32 #[.string X, .string N, .string V] w fun e w' => Qbu w' (Khs X.data.toList ⟨N.data.toList, V.data.toList⟩) (Kau [X.data.toList]) e ∧ Below w.heap.size w w' := by
 have hmf : ∀ (fn : Fn) (first cap : Array Value) (w : World), (Instr.makeFunc fn first cap).run Tryz.prog w = .ok (.func fn first cap) w := fun _ _ _ _ => rfl
 have hmm := @run_makeMap Tryz.prog; obtain ⟨r, hr⟩ : ∃ r, Khs X.data.toList ⟨N.data.toList, V.data.toList⟩ = r := ⟨_, rfl⟩; rw [hr]; have H0 := Jh h0; have HN := Jh hN; have HR := Jh hr; obtain ⟨q, hq⟩ : ∃ q, w.heap.size = q := ⟨_, rfl⟩; have HQ := Jh hq; have hX : X.size ≤ 140737488351232 := by unfold bSz at h0; omega
 clear h0 hN hr; go_enter_defers Tryz.func32, Tryz.ntmps32
 go_upto_region 2 with fail
 have hb0 : Below q w (((w.alloc (.cells #[.string X] 9)).alloc (.cells #[.slice none 0 0] 69)).alloc (.cells #[.int .i64 0] 29)) := (((Below.refl _ _).alloc (Nat.le_of_eq hq.symm) _).alloc (by simp; omega) _).alloc (by simp; omega) _; have hf : Blk (((w.alloc (.cells #[.string X] 9)).alloc (.cells #[.slice none 0 0] 69)).alloc (.cells #[.int .i64 0] 29)) q 9 #[.string X] := ((Blk.newAt hq.symm).alloc _).alloc _; have hc : Blk (((w.alloc (.cells #[.string X] 9)).alloc (.cells #[.slice none 0 0] 69)).alloc (.cells #[.int .i64 0] 29)) (q + 1) 69 #[.slice none 0 0] := (Blk.newAt (by simp; omega)).alloc _; have he : Blk (((w.alloc (.cells #[.string X] 9)).alloc (.cells #[.slice none 0 0] 69)).alloc (.cells #[.int .i64 0] 29)) (q + 2) 29 #[.int .i64 0] := Blk.newAt (by simp; omega); have hz0 : (((w.alloc (.cells #[.string X] 9)).alloc (.cells #[.slice none 0 0] 69)).alloc (.cells #[.int .i64 0] 29)).heap.size = q + 3 := by simp; omega
 obtain ⟨W0, hW0⟩ : ∃ W0, ((w.alloc (.cells #[.string X] 9)).alloc (.cells #[.slice none 0 0] 69)).alloc (.cells #[.int .i64 0] 29) = W0 := ⟨_, rfl⟩; rw [hW0] at hb0 hf hc he hz0
 try rw [hW0]
 try rw [hq]
 try rw [show q + 1 + 1 = q + 2 from rfl]
 have hpn0 : PSN w q X W0 := ⟨hf, ⟨_, hc⟩, he, hb0⟩; have HPN := Jh hpn0; have HCN := Jh hc; have hn0 : Kbz W0 := HN.out.below HN.out.lt (by rw [HQ.out]; exact hb0); have ho := Kgo X hX W0 hn0; have a0 : W0.cell? ⟨q, 0, none⟩ = some (.string X) := hf.cell 0; have hql := hf.lt; obtain ⟨R0, hR0⟩ : ∃ R, Kan X.data.toList = R := ⟨_, rfl⟩; rw [hR0] at ho; clear hb0 hf hc he hW0 hq hpn0 hn0 hX
 cases R0 with
 | error c0 =>
  have HNONE : Hid (r = none) := Jh (by rw [← HR.out]; unfold Khs; rw [hR0]); have HO := Jh ho; clear ho hR0; go_wp2_with fail
  refine HO.out.mono ?_; rintro e w1 ⟨⟨f, hf, rfl⟩, hb1⟩; have hpn := HPN.out.below hb1; unfold Kar; go_wp2_with fail
  refine leaves_cons (f := 87) (args := #[.pointer (some ⟨q, 0, none⟩), .pointer (some ⟨q + 1, 0, none⟩), .pointer (some ⟨q + 2, 0, none⟩)]) (by simp) (by simp [go_sem]) ?_; refine (Kcl w1 hpn H0.out HN.out HQ.out _ _).mono ?_; rintro e u' w'' ⟨rfl, rfl, k1, k2, k3⟩; refine Ked k1 k2 k3 HNONE.out ?_ ?_ HQ.out
  all_goals rfl
 | ok bb =>
 obtain ⟨B, hB⟩ : ∃ B : ByteArray, (⟨bb.toArray⟩ : ByteArray) = B := ⟨_, rfl⟩; unfold OpenO at ho; dsimp only at ho; rw [hB] at ho; have hBd : B.data.toList = bb := by rw [← hB]
 have hsz : B.size ≤ 268435456 := by
  have a := Khf hR0; have b := H0.out; unfold bSz at b; rw [← hBd] at a; have h1 : B.data.toList.length = B.size := rfl; have h2 : X.data.toList.length = X.size := rfl; omega
 have hrr : Kia B.data.toList ⟨N.data.toList, V.data.toList⟩ = r := by rw [← HR.out]; unfold Khs; rw [hR0, hBd]
 have hblv : Kau [X.data.toList] = 190 := by rw [Kau, hR0]; rfl
 rw [Qer] at hrr; have HRR := Jh hrr; have HO := Jh ho; clear ho hR0 hB hBd hrr; go_wp2_with fail
 refine HO.out.mono ?_; rintro e w1 ⟨pr, rfl, hprq, hrd, hb1⟩; have hprl := Rdr.lt hrd; have hpn1 := HPN.out.below hb1; have hcn1 := HCN.out.below hb1 HCN.out.lt; have HRD := Jh hrd; have HPN1 := Jh hpn1; have HCN1 := Jh hcn1; have HB1 := Jh hb1; clear hpn1 hcn1 hb1 a0 hblv; go_upto_region 5 with fail
 obtain ⟨m, hm⟩ : ∃ m, w1.heap.size = m := ⟨_, rfl⟩; have hb4 : Below w1.heap.size w1 (((w1.alloc (.map #[] 0)).alloc (.cells #[.map (some w1.heap.size)] 104)).alloc (.cells #[.int .i64 0] 3)) := (((Below.refl _ _).alloc (Nat.le_refl _) _).alloc (by simp) _).alloc (by simp; omega) _
 have hmp4 : LMap (((w1.alloc (.map #[] 0)).alloc (.cells #[.map (some w1.heap.size)] 104)).alloc (.cells #[.int .i64 0] 3)) (m + 3) m (fun _ => []) 0 #[] 0 := by
  have h1 := LMap.new w1 (m + 3); rw [hm] at h1; refine h1.below (((Below.refl _ _).alloc (Nat.le_refl _) _).alloc (by simp) _)
 have hpb4 : Blk (((w1.alloc (.map #[] 0)).alloc (.cells #[.map (some w1.heap.size)] 104)).alloc (.cells #[.int .i64 0] 3)) (m + 1) 104 #[.map (some w1.heap.size)] := (Blk.newAt (by simp; omega)).alloc _; have hnb4 : Blk (((w1.alloc (.map #[] 0)).alloc (.cells #[.map (some w1.heap.size)] 104)).alloc (.cells #[.int .i64 0] 3)) (m + 2) 3 #[.int .i64 0] := Blk.newAt (by simp; omega); have hz4 : (((w1.alloc (.map #[] 0)).alloc (.cells #[.map (some w1.heap.size)] 104)).alloc (.cells #[.int .i64 0] 3)).heap.size = m + 3 := by simp; omega
 obtain ⟨w4, hw4⟩ : ∃ w4, ((w1.alloc (.map #[] 0)).alloc (.cells #[.map (some w1.heap.size)] 104)).alloc (.cells #[.int .i64 0] 3) = w4 := ⟨_, rfl⟩; rw [hw4] at hb4 hmp4 hpb4 hnb4 hz4
 try rw [hw4]
 rw [hm] at hpb4
 try rw [hm]
 try rw [show m + 1 + 1 = m + 2 from rfl]
 have hpn4 := HPN1.out.below hb4; have hcn4 := HCN1.out.below hb4 HCN1.out.lt; have hrd4 := HRD.out.below hb4; obtain ⟨L, hL⟩ : ∃ L : QLoc, (⟨w, q, pr, m, m + 1, m + 2, X⟩ : QLoc) = L := ⟨_, rfl⟩; have hql4 := HPN.out.e.lt; have hok : Knw L := by rw [← hL]; exact ⟨by show q + 2 < pr; omega, by show pr < m; omega, by show m < m + 1; omega, by show m + 1 < m + 2; omega, HQ.out⟩
 have hqm : QM L [] (qOwn L #[]) w4 := by
  refine ⟨#[], 0, ?_⟩; rw [← hL]; exact ⟨hpn4.f, hcn4, hpn4.e, hpb4, hnb4, hmp4, rfl, hpn4.bl⟩
 have hlq : L.q = q := by rw [← hL]
 have hlr : L.pr = pr := by rw [← hL]
 have hlm : L.m = m := by rw [← hL]
 have hlp : L.pb = m + 1 := by rw [← hL]
 have hln : L.nb = m + 2 := by rw [← hL]
 have hlw : L.w0 = w := by rw [← hL]
 have hlx : L.X = X := by rw [← hL]
 have hE : Ksz (fun st : List (List Lb) => st.length) 1099511627776 pr (QM L) (QN L) (fun S l => S ++ [l]) (fun S _ => some S) 88 89 #[.pointer (some ⟨m + 1, 0, none⟩), .pointer (some ⟨m + 2, 0, none⟩)] #[] := by
  refine ⟨fun _ _ => rfl, fun _ _ => rfl, fun s O W h k hk => h.lt k hk, fun s O W h => ?_, fun s O W W' h hk => h.keep hok (by rw [hlr]; exact hk), fun s O W h => h.bad, fun s l => by show (s ++ [l]).length = _; rw [List.length_append]; rfl, fun s n s' h1 h2 => by injection h2 with h2; rw [h2], fun s O W A n c l h hz hE hc h8 hl hA => ?_, fun s O W n h h0 hz hn => ?_⟩
  ·rw [← hlr]; exact h.no hok
  ·have := Kzi hok W h hz A n c l hE hl (fun a ha => (hA a ha).1); rw [hlp, hln] at this; exact this
  ·refine (Kvm n W).mono ?_; rintro e w' ⟨rfl, rfl⟩; exact ⟨rfl, O, h, Grow.refl _ _⟩
 have hser := Kkr hE B [] _ w4 hqm hrd4 (by omega) (by omega) rfl; obtain ⟨G, hG⟩ : ∃ G, Kcx (fun S l => S ++ [l]) (fun S _ => some S) B.data.toList ([] : List (List Lb)) = G := ⟨_, rfl⟩; have hrr := HRR.out; rw [hG] at hser hrr; have HSER := Jh hser; have HL := Jh hL; have HOK := Jh hok; have HG := Jh hG; have HRR2 := Jh hrr; have HE1 := Jh hlq; have HE2 := Jh hlr; have HE3 := Jh hlm; have HE4 := Jh hlp; have HE5 := Jh hln; have HE6 := Jh hlw; have HE7 := Jh hlx; have HM := Jh hm; clear hser hL hok hG hrr hE hlq hlr hlm hlp hln hlw hlx hm hqm hpn4 hcn4 hrd4 hb4 hmp4 hpb4 hnb4 hz4 hw4 HRR; go_wp2_with fail
 refine HSER.out.mono ?_; intro e w6 h6
 cases G with
 | none =>
  obtain ⟨⟨tt, xx, rfl⟩, hn⟩ := h6; have HNONE : Hid (r = none) := Jh HRR2.out.symm; have hpn := hn.p; rw [HE6.out, HE1.out, HE7.out] at hpn; clear hmf hmm; go_wp2_with fail
  refine leaves_cons (f := 87) (args := #[.pointer (some ⟨q, 0, none⟩), .pointer (some ⟨q + 1, 0, none⟩), .pointer (some ⟨q + 2, 0, none⟩)]) (by simp) (by simp [go_sem]) ?_; refine (Kcl w6 hpn H0.out HN.out HQ.out _ _).mono ?_; rintro e u' w'' ⟨rfl, rfl, k1, k2, k3⟩; refine Ked k1 k2 k3 HNONE.out ?_ ?_ HQ.out
  all_goals rfl
 | some x =>
 obtain ⟨S, i2⟩ := x; obtain ⟨rfl, O6, ⟨es, clock, hqx⟩, hrd6, _, _, _⟩ := h6; have hsn := Qbk HG.out; have hi2 := Qbf HG.out
 have hp6 : PLoop w q pr (m + 1) m (m + 2) X B S es clock [] i2 w6 := by
  have hb := (QM.bad ⟨es, clock, hqx⟩).p; rw [HE6.out, HE1.out, HE7.out] at hb; have ho := hqx.o; rw [HE1.out] at ho; have hpb := hqx.pb; rw [HE4.out, HE3.out] at hpb; have hmp := hqx.mp; rw [HE5.out, HE3.out] at hmp; exact ⟨hb, ⟨_, ho, World.ownsRow_nil _ _ _ _⟩, hrd6, hpb, hmp⟩
 have HP6 := Jh hp6; have HSN := Jh hsn; have HI2 := Jh hi2; have hsnl : S.length ≤ 268435456 := by have h1 := hsn.2; have h2 : B.data.toList.length = B.size := rfl; omega
 have HSL := Jh hsnl; have c1 : w6.cell? ⟨pr, 1, none⟩ = some (.int .i64 (i2 : Int)) := (show Blk w6 _ _ _ from hrd6).cell 1; have hmeq := HM.out; have HORD := Jh (show q + 2 < pr ∧ pr < m from ⟨by omega, by omega⟩); have HU6 := Jh (Kdk pr i2 B w6 hrd6 (by omega)); clear hqx hrd6 hp6 hsn hi2 hsnl; go_upto_region 7 with fail
 clear c1; go_wp2_with fail
 refine HU6.out.mono ?_; intro e w7 h7
 cases hru : ruAt B.data.toList i2 with
 | none =>
  rw [hru] at h7; obtain ⟨⟨f, hf, rfl⟩, hb7⟩ := h7; have HNONE : Hid (r = none) := Jh (by rw [← HRR2.out, hru] <;> rfl); have hpn := HP6.out.p.below hb7; clear hmf hmm hru hb7 HU6; unfold Kar; go_wp2_with fail
  refine leaves_cons (f := 87) (args := #[.pointer (some ⟨q, 0, none⟩), .pointer (some ⟨q + 1, 0, none⟩), .pointer (some ⟨q + 2, 0, none⟩)]) (by simp) (by simp [go_sem]) ?_; refine (Kcl w7 hpn H0.out HN.out HQ.out _ _).mono ?_; rintro e u' w'' ⟨rfl, rfl, k1, k2, k3⟩; refine Ked k1 k2 k3 HNONE.out ?_ ?_ HQ.out
  all_goals rfl
 | some x =>
 obtain ⟨k, i3⟩ := x; rw [hru] at h7; obtain ⟨rfl, hr7, hk7⟩ := h7; have hk64 := Kdz hru; have hp7 := HP6.out.kept HORD.out.1 HORD.out.2 hk7 hr7
 have HRK : Hid ((match keysR B.data.toList ⟨N.data.toList, V.data.toList⟩ k [] i3 with
    | none => none
    | some (out, i4) => if i4 = B.data.toList.length ∧ Kbj S = B.data.toList.drop i2 then some out else none) = r) := Jh (by rw [← HRR2.out, hru] <;> rfl)
 have HP7 := Jh hp7; have HI3 := Jh (Khb hru); clear hru hr7 hk7 hp7 HRR2 HU6; have HSB := Jh hsz; clear hmf hmm; obtain ⟨Q, hQ⟩ : ∃ Q : Lb, (⟨N.data.toList, V.data.toList⟩ : Lb) = Q := ⟨_, rfl⟩; rw [hQ] at HRK; have HQQ := Jh hQ; clear hQ; go_wp2_with fail
 go_loopg [12] k (fun g s12 wr => ∃ (l : List Nat) (i : Nat), s12 = .int .u64 (g : Int) ∧ g < 2 ^ 64 ∧ PLoop w q pr (m + 1) m (m + 2) X B S es clock l i wr ∧ (match keysR B.data.toList Q g l i with
    | none => none
    | some (out, i4) => if i4 = B.data.toList.length ∧ Kbj S = B.data.toList.drop i2 then some out else none) = r)
 case atStart => exact ⟨[], i3, rfl, hk64, HP7.out, HRK.out⟩
 case round =>
  obtain ⟨l, i, rfl, hg64, hp9, hrr⟩ := hrel; obtain ⟨wo, rfl⟩ : ∃ x, x = wr := ⟨_, rfl⟩; have HP9 := Jh hp9; have HRR9 := Jh hrr; clear hp9 hrr
  cases gk with
  | zero =>
   have hfin : (if i = B.data.toList.length ∧ Kbj S = B.data.toList.drop i2 then some l else none) = r := by rw [← HRR9.out]; rfl
   have HFIN := Jh hfin; clear hfin; have hpb := HP9.out.b; have hpr := HP9.out.r; have b0 : wo.cell? ⟨m + 1, 0, none⟩ = some (.map (some m)) := hpb.cell 0; have r0 : wo.cell? ⟨pr, 0, none⟩ = some (.string B) := (show Blk wo _ _ _ from hpr).cell 0; have r1 : wo.cell? ⟨pr, 1, none⟩ = some (.int .i64 (i : Int)) := (show Blk wo _ _ _ from hpr).cell 1; have hb1 := hpb.lt; have hb2 := hpr.lt; have HLI : Hid (∀ W, Below wo.heap.size wo W → Calls Tryz.prog 45 #[.map (some m)] W fun e w' => e = .returned (.string ⟨(Kbj S).toArray⟩) ∧ Below W.heap.size W w') := Jh fun W hb => Kme S m (8 * S.length) (m + 3) es clock W (HP9.out.mp.below hb) (by have := HSL.out; omega) (by have := HSL.out; omega) (by have := Knu HSN.out.1; have := HSL.out; omega)
   obtain ⟨T, hT⟩ : ∃ T : ByteArray, (⟨(Kbj S).toArray⟩ : ByteArray) = T := ⟨_, rfl⟩; rw [hT] at HLI; have HTT := Jh hT; have hBl : B.data.toList.length = B.size := rfl; have HBL := Jh hBl; have hi2 := HI2.out; rw [hBl] at hi2; clear hpb hpr hT hBl; go_upto_region 14 with fail
   by_cases hie : i = B.size
   ·have e1 : decide ((i : Int) = (B.size : Int)) = true := by rw [decide_eq_true_eq]; omega
    obtain ⟨dl, hdl⟩ : ∃ d, decide (Kbj S = B.data.toList.drop i2) = d := ⟨_, rfl⟩
    have e3 : (T.toList == (B.extract i2 B.size).toList) = dl := by
     rw [← hdl, ByteArray.toList_eq, ByteArray.toList_eq, ← HTT.out, Kkv]; show (Kbj S == _) = _
     rw [List.take_of_length_le (by rw [List.length_drop]; exact Nat.le_refl _)]
     by_cases h : Kbj S = B.data.toList.drop i2
     ·rw [h]; simp
     ·rw [decide_eq_false h]; simpa using h
    have HDL := Jh hdl; clear hdl; refine Kaj (by kernel_rfl) (by kernel_rfl) ?_
    repeat (go_big_quiet_step ((go_at_call 45; exact Kal _ (HLI.out _ (Later.h _)))))
    refine wpQuiet_nil ?_; rintro wz ⟨⟨_, hbz⟩, rfl⟩; have hpz := HP9.out.below HORD.out.1 HORD.out.2 hbz; have HPZ := Jh hpz; have hrr := HFIN.out; have hiB : i = B.data.toList.length := hie
    cases dl with
    | false =>
     have HNONE : Hid (r = none) := Jh (by rw [← hrr]; exact if_neg fun h => of_decide_eq_false HDL.out h.2); have hpn := hpz.p; clear hrr hbz hpz HLI b0 r0 r1 hb1 hb2; go_wp2_with fail
     refine leaves_cons (f := 87) (args := #[.pointer (some ⟨q, 0, none⟩), .pointer (some ⟨q + 1, 0, none⟩), .pointer (some ⟨q + 2, 0, none⟩)]) (by simp) (by simp [go_sem]) ?_; refine (Kcl wz hpn H0.out HN.out HQ.out _ _).mono ?_; rintro e u' w'' ⟨rfl, rfl, k1, k2, k3⟩; refine Ked k1 k2 k3 HNONE.out ?_ ?_ HQ.out
     all_goals rfl
    | true =>
     have HSOM : Hid (r = some l) := Jh (by rw [← hrr]; exact if_pos ⟨hiB, of_decide_eq_true HDL.out⟩); obtain ⟨v, ho, hown⟩ := hpz.o; obtain ⟨A, cp, rfl, hel, _, _⟩ := Elems.of_own (enc := encN) (fun _ _ => rfl) rfl hown rfl; have c0 : wz.cell? ⟨q + 1, 0, none⟩ = some (.slice A l.length cp) := ho.cell 0; have cf := ho.frozen 0; have d0 : wz.cell? ⟨q + 2, 0, none⟩ = some (.int .i64 0) := hpz.p.e.cell 0; have df := hpz.p.e.frozen 0; have HO2 := Jh ho; have HEL := Jh hel; clear hrr hbz hpz HLI b0 r0 r1 hb1 hb2 ho hown hel; go_wp2_with fail
     refine leaves_cons (f := 87) (args := #[.pointer (some ⟨q, 0, none⟩), .pointer (some ⟨q + 1, 0, none⟩), .pointer (some ⟨q + 2, 0, none⟩)]) (by simp) (by simp [go_sem]) ?_; refine (Kxh _ _ _ _).mono ?_; rintro e u' w'' ⟨rfl, rfl, rfl⟩; have s0 : wz.setCell ⟨q + 1, 0, none⟩ (.slice A l.length cp) = wz := Key HO2.out (i := 0) rfl; have s4 : wz.setCell ⟨q + 2, 0, none⟩ (.int .i64 0) = wz := Key HPZ.out.p.e (i := 0) rfl; rw [s0, s4]; refine ⟨_, qres _ HO2.out HPZ.out.p.e (by rfl) (by rfl), ?_, by rw [HQ.out]; exact HPZ.out.p.bl⟩; rw [HSOM.out]; exact ⟨A, cp, rfl, HEL.out⟩
   ·have e1 : decide ((i : Int) = (B.size : Int)) = false := by rw [decide_eq_false_iff_not]; omega
    have e2 : ((i : Int) == (B.size : Int)) = false := by rw [beq_eq_false_iff_ne]; omega
    have e4 : ((i : Int) != (B.size : Int)) = true := by rw [bne_iff_ne]; omega
    refine Kaj (by kernel_rfl) (by kernel_rfl) ?_
    repeat (go_big_quiet_step ((go_at_call 45; exact Kal _ (HLI.out _ (Later.h _)))))
    refine wpQuiet_nil ?_; rintro wz ⟨⟨_, hbz⟩, rfl⟩; have hpn := (HP9.out.below HORD.out.1 HORD.out.2 hbz).p; have hrr := HFIN.out; have HNONE : Hid (r = none) := Jh (by rw [← hrr]; exact if_neg fun h => hie h.1); clear hrr hbz HLI b0 r0 r1 hb1 hb2; go_wp2_with fail
    refine leaves_cons (f := 87) (args := #[.pointer (some ⟨q, 0, none⟩), .pointer (some ⟨q + 1, 0, none⟩), .pointer (some ⟨q + 2, 0, none⟩)]) (by simp) (by simp [go_sem]) ?_; refine (Kcl wz hpn H0.out HN.out HQ.out _ _).mono ?_; rintro e u' w'' ⟨rfl, rfl, k1, k2, k3⟩; refine Ked k1 k2 k3 HNONE.out ?_ ?_ HQ.out
    all_goals rfl
  | succ g =>
   have el : decide (0 < g + 1) = true := by rw [decide_eq_true_eq]; omega
   have hg1 : IntKind.u64.wrap (((g + 1 : Nat) : Int) - 1) = (g : Int) := by
    rw [show ((g + 1 : Nat) : Int) - 1 = (g : Int) by omega]; exact IntWalk.u64_in _ (by omega)
   have HG1 := Jh hg1; have hrr := HRR9.out; rw [keysR] at hrr; obtain ⟨nx, nj, ne, hn9⟩ : ∃ x j e, Kbf B.data.toList (i : Int) = (x, j, e) := ⟨_, _, _, rfl⟩; have hT1 := Khq pr i B wo HP9.out.r (by omega); rw [hn9] at hrr hT1; dsimp only at hrr hT1; have HT1 := Jh hT1; have HRRa := Jh hrr; clear hg1 hrr hT1 hn9; go_wp2_with fail
   refine HT1.out.mono ?_; intro e w1 h1
   by_cases hne : ne = 0
   rotate_left
   ·rw [if_neg hne] at h1; obtain ⟨⟨f, hf, rfl⟩, hb1⟩ := h1; have hrr := HRRa.out; rw [if_pos hne] at hrr; have HNONE : Hid (r = none) := Jh hrr.symm; have hpn := HP9.out.p.below hb1; clear hrr hb1; unfold Kar; go_wp2_with fail
    refine leaves_cons (f := 87) (args := #[.pointer (some ⟨q, 0, none⟩), .pointer (some ⟨q + 1, 0, none⟩), .pointer (some ⟨q + 2, 0, none⟩)]) (by simp) (by simp [go_sem]) ?_; refine (Kcl w1 hpn H0.out HN.out HQ.out _ _).mono ?_; rintro e u' w'' ⟨rfl, rfl, k1, k2, k3⟩; refine Ked k1 k2 k3 HNONE.out ?_ ?_ HQ.out
    all_goals rfl
   subst hne; have hrr := HRRa.out; rw [if_neg (by simp)] at hrr; rw [if_pos rfl] at h1; obtain ⟨rfl, hr1, hk1⟩ := h1; have hp1 := HP9.out.kept HORD.out.1 HORD.out.2 hk1 hr1; have HP1 := Jh hp1; obtain ⟨vx, vj, ve, hv9⟩ : ∃ x j e, Kbf B.data.toList (nj : Int) = (x, j, e) := ⟨_, _, _, rfl⟩; have hT2 := Khq pr nj B w1 hr1 (by omega); rw [hv9] at hrr hT2; dsimp only at hrr hT2; have HT2 := Jh hT2; have HVJ := Jh hv9; have HRRb := Jh hrr; clear hrr hT2 hv9 hr1 hk1 hp1 HT1 HRRa; obtain ⟨SX, hSX⟩ : ∃ S : ByteArray, (⟨nx.toArray⟩ : ByteArray) = S := ⟨_, rfl⟩; have HSX := Jh hSX; unfold txtV; rw [hSX]; clear hSX; go_wp2_with fail
   refine HT2.out.mono ?_; intro e w2 h2
   by_cases hve : ve = 0
   rotate_left
   ·rw [if_neg hve] at h2; obtain ⟨⟨f, hf, rfl⟩, hb2⟩ := h2; have hrr := HRRb.out; rw [if_pos hve] at hrr; have HNONE : Hid (r = none) := Jh hrr.symm; have hpn := HP1.out.p.below hb2; clear hrr hb2; unfold Kar; go_wp2_with fail
    refine leaves_cons (f := 87) (args := #[.pointer (some ⟨q, 0, none⟩), .pointer (some ⟨q + 1, 0, none⟩), .pointer (some ⟨q + 2, 0, none⟩)]) (by simp) (by simp [go_sem]) ?_; refine (Kcl w2 hpn H0.out HN.out HQ.out _ _).mono ?_; rintro e u' w'' ⟨rfl, rfl, k1, k2, k3⟩; refine Ked k1 k2 k3 HNONE.out ?_ ?_ HQ.out
    all_goals rfl
   subst hve; have hrr := HRRb.out; rw [if_neg (by simp)] at hrr; rw [if_pos rfl] at h2; obtain ⟨rfl, hr2, hk2⟩ := h2; have HP2 := Jh (HP1.out.kept HORD.out.1 HORD.out.2 hk2 hr2); have HRRc := Jh hrr; clear hrr hr2 hk2 HT2 HRRb; obtain ⟨SV, hSV⟩ : ∃ S : ByteArray, (⟨vx.toArray⟩ : ByteArray) = S := ⟨_, rfl⟩; have HSV := Jh hSV; unfold txtV; rw [hSV]; clear hSV; have hvj : vj ≤ B.size := (Kic HVJ.out).2.1; have HVL := Jh hvj; have hb3 : Below w2.heap.size w2 (w2.alloc (.cells #[.string SX, .string SV] 99)) := (Below.refl _ _).alloc (Nat.le_refl _) _; have hp3 : Blk (w2.alloc (.cells #[.string SX, .string SV] 99)) w2.heap.size 99 #[.string SX, .string SV] := Blk.new _ _ _; go_upto_region 11 with fail
   obtain ⟨w3, hw3⟩ : ∃ w3, w2.alloc (.cells #[.string SX, .string SV] 99) = w3 := ⟨_, rfl⟩; obtain ⟨pl, hpl⟩ : ∃ pl, w2.heap.size = pl := ⟨_, rfl⟩; have HPL := Jh hpl; rw [hw3] at hb3 hp3; rw [hpl] at hp3
   try rw [hw3]
   try rw [hpl]
   have hP3 := HP2.out.below HORD.out.1 HORD.out.2 hb3; have HP3 := Jh hP3; have HPL3 := Jh hp3; have hr3 := hP3.r; have hplr : pr < pl := by rw [← hpl]; exact HP2.out.r.lt
   clear hb3 hw3 hP3 hp3 hpl hvj
   cases hpo : postR B.data.toList vj with
   | none =>
    have hT := Kjd B vj w3.drew (by omega) HVL.out; rw [hpo] at hT
    have HT := Jh (Klm pr vj B w3 hr3 (fun _ _ _ => False) True (hT.mono (by
     rintro e w' ⟨f, hf, rfl, hb⟩
     exact ⟨Kbv hb, .inr ⟨trivial, _, _, f, hf, rfl⟩⟩)))
    have HNONE : Hid (r = none) := Jh (by rw [← HRRc.out, hpo]); clear hT hr3 hpo; go_wp2_with fail
    refine HT.out.mono ?_; rintro e w5 (⟨v, j, w6, rfl, hno, _⟩ | ⟨_, f, hf, rfl, hb⟩)
    ·exact hno.elim
    have hpn := HP3.out.p.below hb; clear hb; unfold Kar; go_wp2_with fail
    refine leaves_cons (f := 87) (args := #[.pointer (some ⟨q, 0, none⟩), .pointer (some ⟨q + 1, 0, none⟩), .pointer (some ⟨q + 2, 0, none⟩)]) (by simp) (by simp [go_sem]) ?_; refine (Kcl w5 hpn H0.out HN.out HQ.out _ _).mono ?_; rintro e u' w'' ⟨rfl, rfl, k1, k2, k3⟩; refine Ked k1 k2 k3 HNONE.out ?_ ?_ HQ.out
    all_goals rfl
   | some x =>
    obtain ⟨l3, i4⟩ := x; have hT := Kjd B vj w3.drew (by omega) HVL.out; rw [hpo] at hT
    have HT := Jh (Klm pr vj B w3 hr3 (fun v j w' => j = i4 ∧ w'.ownsRow w3.heap.size 3 1 v l3.length (l3.flatMap encN)) False (hT.mono (by
     rintro e w' ⟨v, rfl, hown, hb⟩
     exact ⟨Kbv hb, .inl ⟨_, i4, rfl, rfl, hown⟩⟩)))
    have hrr := HRRc.out; rw [hpo] at hrr; dsimp only at hrr; have HRRd := Jh hrr; clear hT hr3 hpo hrr; go_wp2_with fail
    refine HT.out.mono ?_; rintro e w5 (⟨v, j, w6, rfl, ⟨rfl, hown⟩, hb6, rfl⟩ | ⟨hno, _⟩)
    rotate_left
    ·exact hno.elim
    have hk7 := Kig (pr := pr) (v := .int .i64 (j : Int)) hb6; have hr7 : Rdr pr B j (w6.setCell ⟨pr, 1, none⟩ (.int .i64 (j : Int))) := HP3.out.r.set hb6; have hown7 := Kcg (p := pr) (i := 1) (u := .int .i64 (j : Int)) hown (show Blk w6 pr _ _ from HP3.out.r.below hb6) (by decide); have hp7 := HP3.out.kept HORD.out.1 HORD.out.2 hk7 hr7; have hpl7 := HPL3.out.kept hk7 HPL3.out.lt (by simp; omega); obtain ⟨A, cp, rfl, _, _, _⟩ := Elems.of_own (enc := encN) (fun _ _ => rfl) rfl hown7 rfl; have hown8 := hown7.mono (base' := m + 3) (by have h1 := HPL3.out.lt; have h2 := HP2.out.b.lt; have h3 := HPL.out; omega); obtain ⟨w7, hw7⟩ : ∃ w7, w6.setCell ⟨pr, 1, none⟩ (.int .i64 (j : Int)) = w7 := ⟨_, rfl⟩; rw [hw7] at hp7 hpl7 hown8; rw [hw7]; obtain ⟨dq, hdq⟩ : ∃ d, decide ((⟨nx, vx⟩ : Lb) = Q) = d := ⟨_, rfl⟩; have eF : ∀ F : ByteArray, (⟨F.data.toList.toArray⟩ : ByteArray) = F := fun F => by cases F; simp
    have heq : ∀ W : World, (binOp .eql 99 (.agg #[.string SX, .string SV]) (.agg #[.string N, .string V])).run Tryz.prog W = .ok (.bool dq) W := fun W => by
     have h1 := Qhb ⟨nx, vx⟩ ⟨N.data.toList, V.data.toList⟩ W; rw [show decide ((⟨nx, vx⟩ : Lb) = ⟨N.data.toList, V.data.toList⟩) = dq from by rw [HQQ.out]; exact hdq] at h1; dsimp only at h1; rw [HSX.out, HSV.out] at h1; exact h1
    have p0 : w7.cell? ⟨pl, 0, none⟩ = some (.string SX) := hpl7.cell 0; have p1 : w7.cell? ⟨pl, 1, none⟩ = some (.string SV) := hpl7.cell 1; obtain ⟨vo, hvo, _⟩ := hp7.o; have c0 : w7.cell? ⟨q + 1, 0, none⟩ = some vo := hvo.cell 0; have cf := hvo.frozen 0; have HP7 := Jh hp7; have HOWN8 := Jh hown8; have HDQ := Jh hdq; clear hk7 hr7 hown7 hp7 hpl7 hown8 hw7 hb6 hown hdq eF hvo
    cases dq with
    | true =>
     have hrr := HRRd.out; rw [if_pos (of_decide_eq_true HDQ.out)] at hrr; have HRRe := Jh hrr; clear hrr; go_wp2_with fail
     go_roundg g
     case measure => omega
     case rel => exact ⟨l3, j, by first | rfl | exact vi HG1.out, by omega, HP7.out.put HORD.out.1 HORD.out.2 HOWN8.out, HRRe.out⟩
    | false =>
     have hrr := HRRd.out; rw [if_neg (of_decide_eq_false HDQ.out)] at hrr; have HRRe := Jh hrr; clear hrr; go_wp2_with fail
     go_roundg g
     case measure => omega
     case rel => exact ⟨l, j, by first | rfl | exact vi HG1.out, by omega, HP7.out, HRRe.out⟩
end
section
open Go.RowKit
open List renaming length_append → Jd
def labsS (S : List (List Lb)) : Nat := (S.map List.length).sum
def labsN (l : List Ser) : Nat := (l.map fun s => s.labels.length).sum
theorem Kyv (c : Cont) : labsS (Kad c) = labsN c.series := by
 unfold labsS labsN Kad; rw [List.map_map]; rfl
theorem Kqf : ∀ S : List (List Lb), (allS S).length = 2 * labsS S
 | [] => rfl
 | l :: S => by
  have h2 := Kqf S; have h3 := Kgf l; unfold allS labsS at *; rw [List.flatMap_cons, Jd, List.map_cons, List.sum_cons]; omega
theorem Ktw {S : List (List Lb)} (h : Kew S) : (tabT (tabOf S)).length ≤ 11 + 150 * labsS S := by
 have h1 : (tabOf S).length ≤ 2 * labsS S := by
  refine Nat.le_trans (Kkt _) ?_; rw [List.length_mergeSort, Kqf]; exact Nat.le_refl _
 have h3 := Kfo 64 (tabOf S) (Kiy h).2; have h4 := (Kab (tabOf S).length).2; unfold tabT; rw [Jd]; omega
theorem Kvn (S : List (List Lb)) : S.flatten.length = labsS S := by
 unfold labsS; rw [List.length_flatten]
theorem Kvz (S : List (List Lb)) : (keysOf S).length ≤ labsS S := by
 have h1 : ∀ l : List Lb, (l.foldr insK []).length ≤ l.length := by
  intro l
  induction l with
  | nil => exact Nat.le_refl _
  | cons y l ih => rw [List.foldr_cons, List.length_cons]; exact Nat.le_trans (Kmt y _) (by omega)
 rw [← Kvn]; exact h1 _
theorem Kzz (T : List (List Lb)) (l : List Lb) : labsS (T ++ [l]) = labsS T + l.length := by
 unfold labsS; rw [List.map_append, List.sum_append, List.map_cons, List.map_nil, List.sum_cons, List.sum_nil]; omega
theorem Kyz (K : List Lb) (hK : K.Nodup) : ∀ (n : Nat) (S : List (List Lb)), S.length = n → (K.map fun x => (Kai S x).length).sum ≤ labsS S := by
 intro n
 induction n with
 | zero =>
  intro S h; have h0 : S = [] := List.eq_nil_of_length_eq_zero h; subst h0
  have : ∀ K : List Lb, (K.map fun x => (Kai [] x).length).sum = 0 := by
   intro K
   induction K with
   | nil => rfl
   | cons y K ih => rw [List.map_cons, List.sum_cons, ih]; rfl
  rw [this]; exact Nat.zero_le _
 | succ n ih =>
  intro S h; have hne : S ≠ [] := by intro e; rw [e] at h; cases h
  obtain ⟨T, l, rfl⟩ : ∃ T l, S = T ++ [l] := ⟨S.dropLast, S.getLast hne, (List.dropLast_concat_getLast hne).symm⟩; have h1 := ih T (by rw [Jd, List.length_singleton] at h; omega); have h3 := Kmw l K hK
  have e : ∀ K : List Lb, (K.map fun x => (Kai (T ++ [l]) x).length).sum = (K.map fun x => (Kai T x).length).sum + (K.filter fun x => decide (x ∈ l)).length := by
   intro K
   induction K with
   | nil => rfl
   | cons y K ih =>
    rw [List.map_cons, List.sum_cons, List.map_cons, List.sum_cons, ih, Kgu, List.filter_cons]
    by_cases hy : y ∈ l
    ·rw [if_pos hy, if_pos (decide_eq_true hy), Jd, List.length_cons]; simp; omega
    ·rw [if_neg hy, if_neg (by simpa using hy)]; omega
  rw [e, Kzz]; omega
theorem Kwa {S : List (List Lb)} (h : Kew S) : (Kbj S).length ≤ 11 + 140 * labsS S := by
 have h1 := (Kab (keysOf S).length).2; have h2 := Kvz S; have h3 := Kyz (keysOf S) ((Kec S).1.imp fun hab e => by subst e; exact Kea _ hab) S.length S rfl
 have h4 : ∀ K : List Lb, (∀ x ∈ K, x.n.length ≤ 32 ∧ x.v.length ≤ 64) → (K.flatMap (keyT S)).length ≤ 129 * K.length + 11 * (K.map fun x => (Kai S x).length).sum := by
  intro K
  induction K with
  | nil => intro _; simp
  | cons y K ih =>
   intro hk; have k1 := Kty S y (hk y (by simp)); have k2 := ih (fun x hx => hk x (by simp [hx])); rw [List.flatMap_cons, Jd, List.length_cons, List.map_cons, List.sum_cons]; omega
 have h5 := h4 (keysOf S) (Khc h); unfold Kbj; rw [Jd]; omega
theorem Qcl (t : List Txt) (s : Ser) : (serT t s).length ≤ 33 + 22 * s.labels.length + 11 * s.samples.length := by
 unfold serT; rw [Jd, Jd]; have h1 := Qaq t s.labels; have h2 := (Kab (Kak s).length).2; have h3 := Ktn (Kak s); have h4 := Kln s; omega
theorem Kpa (t : List Txt) : ∀ l : List Ser, (l.flatMap (serT t)).length ≤ 33 * l.length + 22 * labsN l + 11 * smpsN l
 | [] => by simp [smpsN, labsN]
 | s :: l => by
  have h1 := Qcl t s; have h2 := Kpa t l; simp only [smpsN, labsN, List.map_cons, List.sum_cons, List.flatMap_cons, Jd, List.length_cons] at *; omega
theorem Kzc {c : Cont} (h : fitB c = true) : (Kax c).length ≤ 33 + 312 * labsN c.series + 33 * c.series.length + 11 * smpsN c.series := by
 have hs := Khg h; have h1 := Ktw hs; have h2 := (Kab c.series.length).2; have h3 := Kpa (tabOf (Kad c)) c.series; have h4 := Kwa hs; rw [Kyv] at h1 h4; unfold Kax; simp only [Jd]; omega
theorem Kwu {c : Cont} (h : fitB c = true) (hn : c.series.length ≤ 1048576) (hm : smpsN c.series + wndsN c.series ≤ 1048576) (hk : labsN c.series ≤ 349525) : (sealT (metaB c)).length ≤ 200000000 ∧ (sealT (Kbw c)).length ≤ 200000000 ∧ (sealT (Kax c)).length ≤ 200000000 := by
 have h1 := Krj h; have h2 := Kzc h
 have h3 : ∀ l : List UInt8, (sealT l).length = l.length + 4 := fun l => by
  unfold sealT; rw [Jd]; rfl
 rw [h3, h3, h3]; omega
end
section
open Go.RowKit
open Lib renaming hid → Jh
attribute [local go_sem ↓] Go.wp_at_zero Go.wp_at_succ
attribute [local go_sem] Later.cell
structure BEnv (w : World) : Prop where
 n : Kbz w
 d : DbTab w
theorem BEnv.below {w w' : World} (h : BEnv w) (hb : Below w.heap.size w w') : BEnv w' := ⟨h.n.below h.n.lt hb, h.d.below hb⟩
def wakeC : Cont := ⟨0, 0, 10, [⟨[⟨[97], [120]⟩], [⟨3, 4⟩, ⟨9, 1⟩], []⟩]⟩
theorem Kgr : fitB wakeC = true := by kernel_rfl
theorem Qgk : Kde ⟨[], [], []⟩ = none := by kernel_rfl
theorem Qdp : Kau [[], [], []] = 20 := by kernel_rfl
theorem Kuz : Kfp wakeC := Qhh Kgr (fun s hs => by
 rw [List.mem_singleton.1 hs]; refine ⟨fun x hx => ?_, fun x hx => ?_⟩
 ·rcases List.mem_cons.1 hx with rfl | hx
  ·decide
  ·rw [List.mem_singleton.1 hx]; decide
 ·cases hx) (by decide) (by decide) (by decide)
theorem Qca : Kai (Kad wakeC) ⟨[97], [120]⟩ = [0] := by kernel_rfl
theorem Kjl {c : Cont} (h : fitB c = true) (hn : c.series.length ≤ 1048576) (hm : smpsN c.series + wndsN c.series ≤ 1048576) (hk : labsN c.series ≤ 349525) : (Kaz c).mt.length ≤ 200000000 ∧ (Kaz c).ck.length ≤ 200000000 ∧ (Kaz c).ix.length ≤ 200000000 := Kwu h hn hm hk
theorem Khh : (Kaz wakeC).mt.length ≤ 200000000 ∧ (Kaz wakeC).ck.length ≤ 200000000 ∧ (Kaz wakeC).ix.length ≤ 200000000 := Kjl Kgr (by decide) (by decide) (by decide)
theorem Qbr {c : Cont} (hf : fitB c = true) (hb : Kfp c) (hn : c.series.length ≤ 1099511627776) (q : Lb) : Khs (Kaz c).ix q = some (Kai (Kad c) q) := by
 unfold Khs; rw [show (Kaz c).ix = sealT (Kax c) from rfl, Keu]; have hs := Khg hf; have h1 := Kok hs; have hl : (Kad c).length = c.series.length := by simp [Kad]
 exact Kzo hf hb (fun x hx => by have := Khc hs x hx; omega) (by omega) q
theorem Qdf {w : World} {q : Nat} (h0 : Blk w q 99 #[.string ⟨#[97]⟩, .string ⟨#[120]⟩]) (h1 : Blk w (q + 1) 102 #[.int .i64 3, .int .u64 4, .int .i64 9, .int .u64 1]) (h2 : Blk w (q + 2) 58 #[.slice (some ⟨q, 0, none⟩) 1 1, .slice (some ⟨q + 1, 0, none⟩) 2 2, .slice none 0 0]) :
  Kbq w (some ⟨q + 2, 0, none⟩) 1 wakeC.series := by
 refine ⟨⟨[⟨⟨some ⟨q, 0, none⟩, 1, 1⟩, ⟨some ⟨q + 1, 0, none⟩, 2, 2⟩, ⟨none, 0, 0⟩⟩], ⟨rfl, fun _ => ⟨q + 2, 0, rfl, h2.lt, fun i x hx j v hv => ?_⟩⟩, rfl, fun i h hi => ?_⟩, by decide, fun s hs => ?_⟩
 ·match i, hx with
  | 0, hx =>
   injection hx with hx; subst hx
   match j, hv with
   | 0, hv => injection hv with hv; subst hv; exact h2.cell 0
   | 1, hv => injection hv with hv; subst hv; exact h2.cell 1
   | 2, hv => injection hv with hv; subst hv; exact h2.cell 2
 ·match i, hi with
  | 0, hi =>
   injection hi with hi; subst hi; refine ⟨⟨rfl, fun _ => ⟨q, 0, rfl, h0.lt, fun i x hx j v hv => ?_⟩⟩, Nat.le_refl _, ⟨rfl, fun _ => ⟨q + 1, 0, rfl, h1.lt, fun i x hx j v hv => ?_⟩⟩, Nat.le_refl _, Elems.nil_, Nat.le_refl _⟩
   ·match i, hx with
    | 0, hx =>
     injection hx with hx; subst hx
     match j, hv with
     | 0, hv => injection hv with hv; subst hv; exact h0.cell 0
     | 1, hv => injection hv with hv; subst hv; exact h0.cell 1
   ·match i, hx with
    | 0, hx =>
     injection hx with hx; subst hx
     match j, hv with
     | 0, hv => injection hv with hv; subst hv; exact h1.cell 0
     | 1, hv => injection hv with hv; subst hv; exact h1.cell 1
    | 1, hx =>
     injection hx with hx; subst hx
     match j, hv with
     | 0, hv => injection hv with hv; subst hv; exact h1.cell 2
     | 1, hv => injection hv with hv; subst hv; exact h1.cell 3
 ·rw [List.mem_singleton.1 hs]; refine ⟨by decide, by decide, by decide, fun x hx => ?_, fun x hx => ?_, fun x hx => ?_⟩
  ·rcases List.mem_cons.1 hx with rfl | hx
   ·decide
   ·rw [List.mem_singleton.1 hx]; decide
  ·cases hx
  ·rw [List.mem_singleton.1 hx]; decide
theorem Kqo (c : Cont) (hd : Hd) (w : World) (hS : Kbq w hd.A hd.n c.series) (hE : BEnv w) (hsz : fitB c = true → (Kbw c).length ≤ 35184372088832 ∧ (Kax c).length ≤ 35184372088832) :
  Calls Tryz.prog 19 #[contV c.res c.frm c.to_ hd] w fun e w' => e = .returned (.tuple #[filV (Kcf c), .int .i64 (if fitB c = true then 0 else 190)]) ∧ Below w.heap.size w w' :=
 Kmg c hd w hS.s hS.z (by have h1 : c.series.length = hd.n := hS.s.len; have := hS.n; omega) hE.d hE.n hsz
theorem Kwc {c : Cont} (hf : fitB c = true) (hb : Kfp c) {S0 S1 S2 : ByteArray} (hfil : filOf S0 S1 S2 = Kaz c) (h0 : bSz S0) (h1 : bSz S1) (h2 : bSz S2) (w : World) (hE : BEnv w) :
  Calls Tryz.prog 29 #[.agg #[.string S0, .string S1, .string S2]] w fun e w' => (∃ A n k, e = .returned (.tuple #[.agg #[.int .i64 c.res, .int .i64 c.frm, .int .i64 c.to_, .slice A n k], .int .i64 0]) ∧ Kbq w' A n c.series) ∧ Below w.heap.size w w' := by
 have := Kfs S0 S1 S2 w h0 h1 h2 hE.n hE.d; rw [hfil, Qaf hf hb] at this; refine this.mono ?_; rintro e w' ⟨⟨⟨A, n, k⟩, rfl, hs, _⟩, hb⟩; exact ⟨⟨A, n, k, rfl, hs⟩, hb⟩
theorem Kwx (w : World) (hE : BEnv w) :
  Calls Tryz.prog 29 #[.agg #[.string ⟨#[]⟩, .string ⟨#[]⟩, .string ⟨#[]⟩]] w fun e w' => e = .returned (.tuple #[.agg #[.int .i64 0, .int .i64 0, .int .i64 0, .slice none 0 0], .int .i64 20]) ∧ Below w.heap.size w w' := by
 have := Kfs ⟨#[]⟩ ⟨#[]⟩ ⟨#[]⟩ w (by unfold bSz; decide) (by unfold bSz; decide) (by unfold bSz; decide) hE.n hE.d; rw [show Kde (filOf ⟨#[]⟩ ⟨#[]⟩ ⟨#[]⟩) = none from Qgk, show Kau [(⟨#[]⟩ : ByteArray).data.toList, (⟨#[]⟩ : ByteArray).data.toList, (⟨#[]⟩ : ByteArray).data.toList] = 20 from Qdp] at this; exact this
theorem Kjh (w : World) (hE : BEnv w) : Calls Tryz.prog 26 #[] w fun e w' => e = .returned (.bool true) ∧ Below w.heap.size w w' := by
 have HE := Jh hE; clear hE; go_enter Tryz.func26, Tryz.ntmps26
 go_upto_region 2 with fail
 have hb1 : Below w.heap.size w ((((w.alloc (.cells #[.string ⟨#[97]⟩, .string ⟨#[120]⟩] 99)).alloc (.cells #[.int .i64 3, .int .u64 4, .int .i64 9, .int .u64 1] 102)).alloc (.cells #[.slice (some ⟨w.heap.size, 0, none⟩) 1 1, .slice (some ⟨w.heap.size + 1, 0, none⟩) 2 2, .slice none 0 0] 58)).alloc (.cells #[.int .i64 0, .int .i64 0, .int .i64 10, .slice (some ⟨w.heap.size + 1 + 1, 0, none⟩) 1 1] 28)) := ((((Below.refl _ _).alloc (Nat.le_refl _) _).alloc (by simp) _).alloc (by simp; omega) _).alloc (by simp; omega) _; have k0 : Blk ((((w.alloc (.cells #[.string ⟨#[97]⟩, .string ⟨#[120]⟩] 99)).alloc (.cells #[.int .i64 3, .int .u64 4, .int .i64 9, .int .u64 1] 102)).alloc (.cells #[.slice (some ⟨w.heap.size, 0, none⟩) 1 1, .slice (some ⟨w.heap.size + 1, 0, none⟩) 2 2, .slice none 0 0] 58)).alloc (.cells #[.int .i64 0, .int .i64 0, .int .i64 10, .slice (some ⟨w.heap.size + 1 + 1, 0, none⟩) 1 1] 28)) w.heap.size 99 #[.string ⟨#[97]⟩, .string ⟨#[120]⟩] := (((Blk.new _ _ _).alloc _).alloc _).alloc _; have k1 : Blk ((((w.alloc (.cells #[.string ⟨#[97]⟩, .string ⟨#[120]⟩] 99)).alloc (.cells #[.int .i64 3, .int .u64 4, .int .i64 9, .int .u64 1] 102)).alloc (.cells #[.slice (some ⟨w.heap.size, 0, none⟩) 1 1, .slice (some ⟨w.heap.size + 1, 0, none⟩) 2 2, .slice none 0 0] 58)).alloc (.cells #[.int .i64 0, .int .i64 0, .int .i64 10, .slice (some ⟨w.heap.size + 1 + 1, 0, none⟩) 1 1] 28)) (w.heap.size + 1) 102 #[.int .i64 3, .int .u64 4, .int .i64 9, .int .u64 1] := ((Blk.newAt (by simp)).alloc _).alloc _; have k2 : Blk ((((w.alloc (.cells #[.string ⟨#[97]⟩, .string ⟨#[120]⟩] 99)).alloc (.cells #[.int .i64 3, .int .u64 4, .int .i64 9, .int .u64 1] 102)).alloc (.cells #[.slice (some ⟨w.heap.size, 0, none⟩) 1 1, .slice (some ⟨w.heap.size + 1, 0, none⟩) 2 2, .slice none 0 0] 58)).alloc (.cells #[.int .i64 0, .int .i64 0, .int .i64 10, .slice (some ⟨w.heap.size + 1 + 1, 0, none⟩) 1 1] 28)) (w.heap.size + 1 + 1) 58 #[.slice (some ⟨w.heap.size, 0, none⟩) 1 1, .slice (some ⟨w.heap.size + 1, 0, none⟩) 2 2, .slice none 0 0] := (Blk.newAt (by simp)).alloc _; have k3 : Blk ((((w.alloc (.cells #[.string ⟨#[97]⟩, .string ⟨#[120]⟩] 99)).alloc (.cells #[.int .i64 3, .int .u64 4, .int .i64 9, .int .u64 1] 102)).alloc (.cells #[.slice (some ⟨w.heap.size, 0, none⟩) 1 1, .slice (some ⟨w.heap.size + 1, 0, none⟩) 2 2, .slice none 0 0] 58)).alloc (.cells #[.int .i64 0, .int .i64 0, .int .i64 10, .slice (some ⟨w.heap.size + 1 + 1, 0, none⟩) 1 1] 28)) (w.heap.size + 1 + 1 + 1) 28 #[.int .i64 0, .int .i64 0, .int .i64 10, .slice (some ⟨w.heap.size + 1 + 1, 0, none⟩) 1 1] := Blk.newAt (by simp); obtain ⟨w1, hw1⟩ : ∃ w1, (((w.alloc (.cells #[.string ⟨#[97]⟩, .string ⟨#[120]⟩] 99)).alloc (.cells #[.int .i64 3, .int .u64 4, .int .i64 9, .int .u64 1] 102)).alloc (.cells #[.slice (some ⟨w.heap.size, 0, none⟩) 1 1, .slice (some ⟨w.heap.size + 1, 0, none⟩) 2 2, .slice none 0 0] 58)).alloc (.cells #[.int .i64 0, .int .i64 0, .int .i64 10, .slice (some ⟨w.heap.size + 1 + 1, 0, none⟩) 1 1] 28) = w1 := ⟨_, rfl⟩; rw [hw1] at hb1 k0 k1 k2 k3
 try rw [hw1]
 obtain ⟨q, hq⟩ : ∃ q, w.heap.size = q := ⟨_, rfl⟩; rw [hq] at k0 k1 k2 k3 ⊢; have hb1q : Below q w w1 := by rw [← hq]; exact hb1
 have HQ := Jh hq; have HSO := Jh (Qdf k0 k1 k2); have HK3 := Jh k3; have HB1 := Jh hb1q; have HE1 := Jh (HE.out.below hb1); have x0 := k3.cell 0; have x1 := k3.cell 1; have x2 := k3.cell 2; have x3 := k3.cell 3; simp at x0 x1 x2 x3; have hbl := Kqo wakeC ⟨some ⟨q + 2, 0, none⟩, 1, 1⟩ w1 HSO.out HE1.out (fun _ => by have h1 := Khh; have h2 : ∀ l : List UInt8, (sealT l).length = l.length + 4 := (fun l => by unfold sealT; rw [List.length_append]; rfl); have h3 := h2 (Kbw wakeC); have h4 := h2 (Kax wakeC); have h5 : (Kaz wakeC).ck = sealT (Kbw wakeC) := rfl; have h6 : (Kaz wakeC).ix = sealT (Kax wakeC) := rfl; rw [h5, h6] at h1; omega); unfold Kcf at hbl; rw [if_pos Kgr, if_pos Kgr] at hbl; obtain ⟨S0, hS0⟩ : ∃ S : ByteArray, (⟨(Kaz wakeC).mt.toArray⟩ : ByteArray) = S := ⟨_, rfl⟩; obtain ⟨S1, hS1⟩ : ∃ S : ByteArray, (⟨(Kaz wakeC).ck.toArray⟩ : ByteArray) = S := ⟨_, rfl⟩; obtain ⟨S2, hS2⟩ : ∃ S : ByteArray, (⟨(Kaz wakeC).ix.toArray⟩ : ByteArray) = S := ⟨_, rfl⟩; unfold filV txtV at hbl; rw [hS0, hS1, hS2] at hbl; have hbl2 : Calls Tryz.prog 19 #[.agg #[.int .i64 0, .int .i64 0, .int .i64 10, .slice (some ⟨q + 1 + 1, 0, none⟩) 1 1]] w1 fun e w' => e = .returned (.tuple #[.agg #[.string S0, .string S1, .string S2], .int .i64 0]) ∧ Below w1.heap.size w1 w' := hbl
 have HBL := Jh hbl2; have e0 : S0.data.toList = (Kaz wakeC).mt := by rw [← hS0]
 have e1 : S1.data.toList = (Kaz wakeC).ck := by rw [← hS1]
 have e2 : S2.data.toList = (Kaz wakeC).ix := by rw [← hS2]
 have hfil : filOf S0 S1 S2 = Kaz wakeC := by unfold filOf; rw [e0, e1, e2]
 have HZ0 : Hid (bSz S0) := Jh (by have h := Khh.1; rw [← e0] at h; have h1 : S0.data.toList.length = S0.size := rfl; unfold bSz; omega); have HZ1 : Hid (bSz S1) := Jh (by have h := Khh.2.1; rw [← e1] at h; have h1 : S1.data.toList.length = S1.size := rfl; unfold bSz; omega); have HZ2 : Hid (bSz S2) := Jh (by have h := Khh.2.2; rw [← e2] at h; have h1 : S2.data.toList.length = S2.size := rfl; unfold bSz; omega); have HFI := Jh hfil; have HE2 := Jh e2; clear hbl hbl2 hS0 hS1 hS2 e0 e1 e2 hfil hw1 hb1 hb1q hq k0 k1 k2 k3; go_wp2_with fail
 refine HBL.out.mono ?_; rintro _ w2 ⟨rfl, hb2⟩; go_upto_region 3 with fail
 have HK3b := Jh (HK3.out.below hb2 HK3.out.lt); have HSOb := Jh (HSO.out.below hb2); have HB2 := Jh (HB1.out.trans (hb2.mono (by have := HB1.out.size; have := HQ.out; omega))); have HEb := Jh (HE1.out.below hb2); clear x0 x1 x2 x3 hb2; obtain ⟨p2, hp2⟩ : ∃ p, w2.heap.size = p := ⟨_, rfl⟩; have hb3 : Below w2.heap.size w2 (w2.alloc (.cells #[.string S0, .string S1, .string S2] 44)) := (Below.refl _ _).alloc (Nat.le_refl _) _; have kf : Blk (w2.alloc (.cells #[.string S0, .string S1, .string S2] 44)) p2 44 #[.string S0, .string S1, .string S2] := by rw [← hp2]; exact Blk.new _ _ _
 obtain ⟨w3, hw3⟩ : ∃ w3, w2.alloc (.cells #[.string S0, .string S1, .string S2] 44) = w3 := ⟨_, rfl⟩; rw [hw3] at hb3 kf; rw [hw3, hp2]; have HK3c := Jh (HK3b.out.below hb3 HK3b.out.lt); have HSOc := Jh (HSOb.out.below hb3); have HB3 := Jh (HB2.out.trans (hb3.mono (by have := HB2.out.size; have := HQ.out; omega))); have HEc := Jh (HEb.out.below hb3); have HKF := Jh kf; have f0 := kf.cell 0; have f1 := kf.cell 1; have f2 := kf.cell 2; simp at f0 f1 f2; have hpa := Kwc Kgr Kuz HFI.out HZ0.out HZ1.out HZ2.out w3 HEc.out; have hpa2 : Calls Tryz.prog 29 #[.agg #[.string S0, .string S1, .string S2]] w3 fun e w' => (∃ A n k, e = .returned (.tuple #[.agg #[.int .i64 0, .int .i64 0, .int .i64 10, .slice A n k], .int .i64 0]) ∧ Kbq w' A n wakeC.series) ∧ Below w3.heap.size w3 w' := hpa
 have HPA := Jh hpa2; clear hpa hpa2 hb3 hw3 hp2 kf; go_wp2_with fail
 refine HPA.out.mono ?_; rintro _ w4 ⟨⟨A4, n4, k4, rfl, hs4⟩, hb4⟩; go_upto_region 4 with fail
 have HK3d := Jh (HK3c.out.below hb4 HK3c.out.lt); have HSOd := Jh (HSOc.out.below hb4); have HB4 := Jh (HB3.out.trans (hb4.mono (by have := HB3.out.size; have := HQ.out; omega))); have HEd := Jh (HEc.out.below hb4); have HKFd := Jh (HKF.out.below hb4 HKF.out.lt); have HS4 := Jh hs4; clear f0 f1 f2 hb4 hs4; obtain ⟨p4, hp4⟩ : ∃ p, w4.heap.size = p := ⟨_, rfl⟩; have hb5 : Below w4.heap.size w4 (w4.alloc (.cells #[.int .i64 0, .int .i64 0, .int .i64 10, .slice A4 n4 k4] 28)) := (Below.refl _ _).alloc (Nat.le_refl _) _; have kc : Blk (w4.alloc (.cells #[.int .i64 0, .int .i64 0, .int .i64 10, .slice A4 n4 k4] 28)) p4 28 #[.int .i64 0, .int .i64 0, .int .i64 10, .slice A4 n4 k4] := by rw [← hp4]; exact Blk.new _ _ _
 obtain ⟨w5, hw5⟩ : ∃ w5, w4.alloc (.cells #[.int .i64 0, .int .i64 0, .int .i64 10, .slice A4 n4 k4] 28) = w5 := ⟨_, rfl⟩; rw [hw5] at hb5 kc; rw [hw5, hp4]; have HK3e := Jh (HK3d.out.below hb5 HK3d.out.lt); have HSOe := Jh (HSOd.out.below hb5); have HB5 := Jh (HB4.out.trans (hb5.mono (by have := HB4.out.size; have := HQ.out; omega))); have HEe := Jh (HEd.out.below hb5); have hkfe := HKFd.out.below hb5 HKFd.out.lt; have HS5 := Jh (HS4.out.below hb5); have HKC := Jh kc; have f2 := hkfe.cell 2; simp at f2; have hpo := Kwm S2 ⟨#[97]⟩ ⟨#[120]⟩ w5 HZ2.out HEe.out.n; rw [HE2.out, Qbr Kgr Kuz (by decide) _, show Kai (Kad wakeC) ⟨(⟨#[97]⟩ : ByteArray).data.toList, (⟨#[120]⟩ : ByteArray).data.toList⟩ = [0] from Qca] at hpo; have HPO := Jh hpo; clear hpo hb5 hw5 hp4 kc hkfe; go_wp2_with fail
 refine HPO.out.mono ?_; rintro _ w6 ⟨⟨A6, k6, rfl, hE6⟩, hb6⟩; go_upto_region 5 with fail
 have HK3f := Jh (HK3e.out.below hb6 HK3e.out.lt); have HSOf := Jh (HSOe.out.below hb6); have HB6 := Jh (HB5.out.trans (hb6.mono (by have := HB5.out.size; have := HQ.out; omega))); have HEf := Jh (HEe.out.below hb6); have HS6 := Jh (HS5.out.below hb6); have HKCf := Jh (HKC.out.below hb6 HKC.out.lt); have HE6 := Jh hE6; have HPE := Jh (Kwx w6 HEf.out); clear f2 hb6 hE6; go_wp2_with fail
 refine HPE.out.mono ?_; rintro _ w7 ⟨rfl, hb7⟩; go_upto_region 6 with fail
 have HK3g := Jh (HK3f.out.below hb7 HK3f.out.lt); have HSOg := Jh (HSOf.out.below hb7); have HB7 := Jh (HB6.out.trans (hb7.mono (by have := HB6.out.size; have := HQ.out; omega))); have HS7 := Jh (HS6.out.below hb7); have HKCg := Jh (HKCf.out.below hb7 HKCf.out.lt); have HE7 := Jh ((HE6.out.below hb7).more hb7.size); clear hb7; have hb8 : Below w7.heap.size w7 (w7.alloc (.cells #[.int .i64 0, .int .i64 0, .int .i64 0, .slice none 0 0] 28)) := (Below.refl _ _).alloc (Nat.le_refl _) _; obtain ⟨w8, hw8⟩ : ∃ w8, w7.alloc (.cells #[.int .i64 0, .int .i64 0, .int .i64 0, .slice none 0 0] 28) = w8 := ⟨_, rfl⟩; rw [hw8] at hb8; rw [hw8]; have hk3 := HK3g.out.below hb8 HK3g.out.lt; have hkc := HKCg.out.below hb8 HKCg.out.lt; have hso := HSOg.out.below hb8; have hs8 := HS7.out.below hb8; have HB8 := Jh (HB7.out.trans (hb8.mono (by have := HB7.out.size; have := HQ.out; omega))); have he8 := (HE7.out.below hb8).more hb8.size; obtain ⟨b6, o6, rfl, hl6, hg6⟩ := he8.get (i := 0) (by simp); have HG6 := Jh (show w8.cell? ⟨b6, o6 + 0 * 1 + 0, none⟩ = some (.int .i64 0) from hg6 0 _ rfl); have x0 := hk3.cell 0; have x1 := hk3.cell 1; have x2 := hk3.cell 2; have x3 := hk3.cell 3; have y0 := hkc.cell 0; have y1 := hkc.cell 1; have y2 := hkc.cell 2; have y3 := hkc.cell 3; simp at x0 x1 x2 x3 y0 y1 y2 y3; have hal := Kgi wakeC wakeC ⟨some ⟨q + 2, 0, none⟩, 1, 1⟩ ⟨A4, n4, k4⟩ w8 hso hs8; rw [show decide (wakeC = wakeC) = true by simp] at hal; have hal2 : Calls Tryz.prog 30 #[.agg #[.int .i64 0, .int .i64 0, .int .i64 10, .slice (some ⟨q + 1 + 1, 0, none⟩) 1 1], .agg #[.int .i64 0, .int .i64 0, .int .i64 10, .slice A4 n4 k4]] w8 fun e w' => e = .returned (.bool true) ∧ Below w8.heap.size w8 w' := hal
 have HAL := Jh hal2; have HL6 := Jh hl6; clear hal hal2 hb8 hw8 hk3 hkc hso hs8 he8 hg6 hl6; go_wp2_with fail
 refine HAL.out.mono ?_; rintro _ w9 ⟨rfl, hb9⟩; have g0 : w9.cell? ⟨b6, o6, none⟩ = some (.int .i64 0) := (hb9.cell HL6.out).trans HG6.out; have HB9 := Jh (HB8.out.trans (hb9.mono (by have := HB8.out.size; have := HQ.out; omega))); clear hb9 x0 x1 x2 x3 y0 y1 y2 y3; go_wp2_with fail
 go_ret
 exact ⟨rfl, by rw [HQ.out]; exact HB9.out⟩
end
section
open Go.ChangeShapes Go.WideShapes Go.ChangeAt Go.RowKit
theorem Tryz.own : ownKnob Tryz.prog.godebug = none := by kernel_rfl
theorem Tryz.laidOut : laidOutB Tryz.prog = true := by kernel_rfl
end
section
open Go.ChangeShapes Go.WideShapes Go.ChangeAt Go.RowKit Go.Deep
section
variable {H : Type} {enc : TypeId × Value → H} {P : Program} {w : World} {base : Nat} {spare : Nat → Bool} {held : Bool}
theorem Khk {α : Type} [Inhabited α] {t e : TypeId} {sz : Nat} {ea : α → List Value} {Q : DataW H → α → Prop} (ht : P.underlying t = some (.slice e)) (hc : P.cellsOf e = sz) (h0 : 0 < sz) (hz : ∀ y, (ea y).length = sz)
  (ho : ∀ (fuel : Nat) (l : List Value) (x : DataW H × List MemPlace), DataW.trod enc P w base spare held fuel e l = some x → ∃ y, l = ea y ∧ Q x.1 y)
  {fuel : Nat} {v : Value} {x : DataW H × List MemPlace} (h : DataW.trod enc P w base spare held fuel t [v] = some x) :
  ∃ A n c ys, v = .slice A n c ∧ (A = none → c = 0) ∧ n ≤ c ∧ Elems w w.heap.size sz ea A n ys ∧ ∃ ds sp, (x.1 = .slice ds sp ∨ (x.1 = .nil ∧ ds = [])) ∧ ds.length = ys.length ∧ ∀ (i : Nat) d y, ds[i]? = some d → ys[i]? = some y → Q d y := by
 rcases open_slice ht h with ⟨hcs, hx⟩ | ⟨a, len, cap, m, n, D, Pl, hcs, _, hl, _, hmm, hx, hi⟩
 ·simp at hcs; subst hcs; exact ⟨none, 0, 0, [], rfl, fun _ => rfl, Nat.le_refl _, Elems.nil_, [], [], .inr ⟨by rw [hx], rfl⟩, rfl, fun i d y hd => by simp at hd⟩
 ·simp at hcs; subst hcs; rw [hc] at hi; have hlm : len ≤ m := by rw [hmm]; split <;> omega
  obtain ⟨f, hf⟩ := choose_lt (α := α) (n := len) (p := fun i y => (∀ j u, (ea y)[j]? = some u → w.cell? (a.add (i * sz + j)) = some u) ∧ Q (D i) y) (by
   intro i hlt; obtain ⟨cs', hc', ht'⟩ := hi i (by omega); obtain ⟨y, rfl, hq⟩ := ho _ _ _ ht'; obtain ⟨_, hcl, hat⟩ := World.cells?_some hc'; refine ⟨y, fun j u hu => ?_, hq⟩; have hj : j < sz := by have := (List.getElem?_eq_some_iff.1 hu).1; rw [hz] at this; exact this
   have := hat j hj; rw [Go.Deep.add_add] at this
   rw [this, hu])
  refine ⟨some a, len, cap, (List.range len).map f, rfl, (fun h => by cases h), hl, ⟨by simp, fun h0' => ?_⟩, (List.range len).map D, _, .inl (by rw [hx]), by simp, fun i d y hd hy => ?_⟩
  ·obtain ⟨b, off, spot⟩ := a; have hp : 0 < (ea (f 0)).length := by rw [hz]; exact h0
   have h00 := (hf 0 h0').1 0 _ (List.getElem?_eq_getElem hp); have hspot : spot = none := by simpa [Addr.add] using World.cell?_spot h00
   subst hspot; refine ⟨b, off, rfl, by simpa [Addr.add] using Keo h00, fun i x hx j u hu => ?_⟩; have hil : i < len := by have := (List.getElem?_eq_some_iff.1 hx).1; simpa using this
   have hxe : f i = x := by simpa [hil] using hx
   subst hxe; have := (hf i hil).1 j u hu; rw [add_plain] at this; rw [← this, Nat.add_assoc]
  ·have hil : i < len := by have := (List.getElem?_eq_some_iff.1 hd).1; simpa using this
   have h1 : D i = d := by simpa [hil] using hd
   have h2 : f i = y := by simpa [hil] using hy
   rw [← h1, ← h2]; exact (hf i hil).2
end
theorem Ktu {H : Type} (d : DataW H) : 1 ≤ Rows.uptoBulk d := by
 cases d with
 | lit l => cases l <;> simp [Rows.uptoBulk]
 | nil => simp [Rows.uptoBulk]
 | ptr d => simp [Rows.uptoBulk]
 | slice elems spare => simp [Rows.uptoBulk]
 | agg parts => simp [Rows.uptoBulk]
 | iface t d => simp [Rows.uptoBulk]
 | map entries => simp [Rows.uptoBulk]
 | held h => simp [Rows.uptoBulk]
theorem Kzl {H : Type} (l sp : List (DataW H)) : Rows.uptoBulkAll l + 1 ≤ Rows.uptoBulk (.slice l sp) := by simp only [Rows.uptoBulk]; omega
theorem Qeg {H : Type} {l : List (DataW H)} (hk : Rows.uptoSmall H l = true) : Rows.uptoBulkAll l ≤ 1048576 := of_decide_eq_true hk
theorem Ktg {H α : Type} (mu : α → Nat) : ∀ (ds : List (DataW H)) (ys : List α), ds.length = ys.length → (∀ (i : Nat) d y, ds[i]? = some d → ys[i]? = some y → mu y ≤ Rows.uptoBulk d) → (ys.map mu).sum ≤ Rows.uptoBulkAll ds
 | [], [], _, _ => by simp
 | d :: ds, y :: ys, hl, h => by
  have h1 := h 0 d y rfl rfl; have h2 := Ktg mu ds ys (by simpa using hl) (fun i d' y' hd hy => h (i + 1) d' y' (by simpa using hd) (by simpa using hy)); simp only [List.map_cons, List.sum_cons, Rows.uptoBulkAll]; omega
 | [], _ :: _, hl, _ => by simp at hl
 | _ :: _, [], hl, _ => by simp at hl
theorem Kih {H α : Type} (mu : α → Nat) {d : DataW H} {ds sp : List (DataW H)} {ys : List α} (hd : d = .slice ds sp ∨ (d = .nil ∧ ds = [])) (hl : ds.length = ys.length) (h : ∀ (i : Nat) d y, ds[i]? = some d → ys[i]? = some y → mu y ≤ Rows.uptoBulk d) : (ys.map mu).sum + 1 ≤ Rows.uptoBulk d := by
 have := Ktg mu ds ys hl h; rcases hd with rfl | ⟨rfl, rfl⟩
 ·have := Kzl ds sp; omega
 ·obtain rfl : ys = [] := List.eq_nil_of_length_eq_zero (by simpa using hl.symm); simp [Rows.uptoBulk]
section
variable {H : Type} {enc : TypeId × Value → H} {w : World} {base : Nat} {spare : Nat → Bool} {held : Bool}
theorem Ktq : Tryz.prog.cellsOf 9 = 1 := by kernel_rfl
def litT (s : Txt) : DataW H := .lit (.string s)
theorem Kts {fuel : Nat} {l : List Value} {x : DataW H × List MemPlace} (h : DataW.trod enc Tryz.prog w base spare held fuel 9 l = some x) : ∃ s : Txt, l = [txtV s] ∧ x.1 = litT s := by
 obtain ⟨s, rfl, rfl, _⟩ := DataW.trod_string Tryz.underlying9 h; exact ⟨s.data.toList, rfl, rfl⟩
end
section
variable {H : Type} {enc : TypeId × Value → H} {w : World} {base : Nat} {spare : Nat → Bool} {held : Bool}
theorem Krt : Tryz.prog.cellsOf 99 = 2 := by kernel_rfl
theorem Qeu {fuel : Nat} {l : List Value} {x : DataW H × List MemPlace} (h : DataW.trod enc Tryz.prog w base spare held fuel 99 l = some x) : ∃ y : Lb, l = encLb y ∧ x.1 = .agg [litT y.n, litT y.v] := by
 obtain ⟨xs, n, _, hx, hcl, hlen, hg⟩ := DataW.trod_struct Tryz.underlying99 h; rw [Krt] at hcl
 match l, hcl, xs, hlen with
 | [c0, c1], _, [x0, x1], _ =>
  have g0 := hg 0 _ rfl; have g1 := hg 1 _ rfl; simp [Ktq] at g0 g1; obtain ⟨a, e0, f0⟩ := Kts g0; obtain ⟨b, e1, f1⟩ := Kts g1; simp at e0 e1; subst e0 e1; refine ⟨⟨a, b⟩, rfl, ?_⟩; rw [hx]; simp [f0, f1]
end
section
variable {H : Type} {enc : TypeId × Value → H} {w : World} {base : Nat} {spare : Nat → Bool} {held : Bool}
def Lb.mass (x : Lb) : Nat := x.n.length + x.v.length + 3
def massL (l : List Lb) : Nat := (l.map Lb.mass).sum + 1
theorem Kra : ∀ l : List Lb, 2 * l.length + 1 ≤ massL l
 | [] => by simp [massL]
 | x :: l => by have := Kra l; simp only [massL, List.map_cons, List.sum_cons, List.length_cons, Lb.mass] at *; omega
theorem Qds {l : List Lb} {x : Lb} (h : x ∈ l) : x.n.length ≤ massL l ∧ x.v.length ≤ massL l := by
 induction l with
 | nil => cases h
 | cons y l ih =>
  simp only [massL, List.map_cons, List.sum_cons, Lb.mass] at *; rcases List.mem_cons.1 h with rfl | h
  ·omega
  ·have := ih h; omega
theorem Kyp : Tryz.prog.cellsOf 54 = 1 := by kernel_rfl
theorem Ktx {fuel : Nat} {v : Value} {x : DataW H × List MemPlace} (h : DataW.trod enc Tryz.prog w base spare held fuel 54 [v] = some x) :
  ∃ A n c l, v = .slice A n c ∧ n ≤ c ∧ Elems w w.heap.size 2 encLb A n l ∧ massL l ≤ Rows.uptoBulk x.1 := by
 obtain ⟨A, n, c, l, rfl, _, h2, h3, ds, sp, hx, hl, hQ⟩ := Khk (ea := encLb) (Q := fun d s => d = .agg [litT s.n, litT s.v]) Tryz.underlying54 Krt (by omega) (fun _ => rfl) (fun _ _ _ h => Qeu h) h; refine ⟨A, n, c, l, rfl, h2, h3, Kih Lb.mass hx hl fun i d y hd hy => ?_⟩; rw [hQ i d y hd hy]; simp [Rows.uptoBulk, Rows.uptoBulkAll, litT, Lb.mass]; omega
theorem Kxs {α : Type} (f : α → Nat) : ∀ {l : List α} {x : α}, x ∈ l → f x ≤ (l.map f).sum
 | y :: l, x, h => by
  simp only [List.map_cons, List.sum_cons]; rcases List.mem_cons.1 h with rfl | h
  ·omega
  ·have := Kxs f h; omega
end
theorem Kii : Tryz.prog.cellsOf 2 = 1 := by kernel_rfl
theorem Kon : Tryz.prog.cellsOf 100 = 1 := by kernel_rfl
theorem Knq : Tryz.prog.cellsOf 3 = 1 := by kernel_rfl
theorem Krc : Tryz.prog.cellsOf 102 = 2 := by kernel_rfl
theorem Kqr : Tryz.prog.cellsOf 135 = 6 := by kernel_rfl
theorem Kzt : Tryz.prog.cellsOf 55 = 1 := by kernel_rfl
theorem Kym : Tryz.prog.cellsOf 56 = 1 := by kernel_rfl
theorem Krs : Tryz.prog.cellsOf 58 = 3 := by kernel_rfl
theorem Kzk : Tryz.prog.cellsOf 26 = 1 := by kernel_rfl
theorem Kzu : Tryz.prog.cellsOf 28 = 4 := by kernel_rfl
def i64B (v : Int) : Prop := -9223372036854775808 ≤ v ∧ v ≤ 9223372036854775807
theorem Kld {n : Int} (h : (Lit.int .i64 n).wf = true) : i64B n := by
 have h1 : IntKind.i64.min = -9223372036854775808 := rfl; have h2 : IntKind.i64.max = 9223372036854775807 := rfl; simp only [Lit.wf, Bool.and_eq_true, decide_eq_true_eq] at h; unfold i64B; omega
theorem Kjt {z : Int} (h : (Lit.int .u64 z).wf = true) : ∃ n : Nat, z = (n : Int) ∧ n < 2 ^ 64 := by
 have h1 : IntKind.u64.min = 0 := rfl; have h2 : IntKind.u64.max = 18446744073709551615 := rfl; simp only [Lit.wf, Bool.and_eq_true, decide_eq_true_eq] at h; exact ⟨z.toNat, by omega, by omega⟩
section
variable {H : Type} {enc : TypeId × Value → H} {w : World} {base : Nat} {spare : Nat → Bool} {held : Bool}
theorem Qfb {fuel : Nat} {l : List Value} {x : DataW H × List MemPlace} (h : DataW.trod enc Tryz.prog w base spare held fuel 102 l = some x) : ∃ y : Smp, l = Kbg y ∧ (y.v < 2 ^ 64 ∧ 1 ≤ Rows.uptoBulk x.1) := by
 obtain ⟨xs, n, _, hx, hcl, hlen, hg⟩ := DataW.trod_struct Tryz.underlying102 h; rw [Krc] at hcl
 match l, hcl, xs, hlen with
 | [c0, c1], _, [x0, x1], _ =>
  have g0 := hg 0 _ rfl; have g1 := hg 1 _ rfl; simp [Kii, Kon] at g0 g1; obtain ⟨a, e0, _, _⟩ := DataW.trod_int Tryz.underlying2 g0; obtain ⟨b, e1, _, wb⟩ := DataW.trod_int Tryz.underlying100 g1; simp at e0 e1; subst e0 e1; obtain ⟨v, rfl, hv⟩ := Kjt wb; exact ⟨⟨a, v⟩, rfl, hv, Ktu _⟩
theorem Qee {fuel : Nat} {l : List Value} {x : DataW H × List MemPlace} (h : DataW.trod enc Tryz.prog w base spare held fuel 135 l = some x) : ∃ y : Wnd, l = Kay y ∧ (Kbb y ∧ 1 ≤ Rows.uptoBulk x.1) := by
 obtain ⟨xs, n, _, hx, hcl, hlen, hg⟩ := DataW.trod_struct Tryz.underlying135 h; rw [Kqr] at hcl
 match l, hcl, xs, hlen with
 | [c0, c1, c2, c3, c4, c5], _, [x0, x1, x2, x3, x4, x5], _ =>
  have g0 := hg 0 _ rfl; have g1 := hg 1 _ rfl; have g2 := hg 2 _ rfl; have g3 := hg 3 _ rfl; have g4 := hg 4 _ rfl; have g5 := hg 5 _ rfl; simp [Kii, Kon, Knq] at g0 g1 g2 g3 g4 g5; obtain ⟨a, e0, _, _⟩ := DataW.trod_int Tryz.underlying2 g0; obtain ⟨b, e1, _, _⟩ := DataW.trod_int Tryz.underlying3 g1; obtain ⟨c, e2, _, wc⟩ := DataW.trod_int Tryz.underlying100 g2; obtain ⟨d, e3, _, wd⟩ := DataW.trod_int Tryz.underlying100 g3; obtain ⟨e, e4, _, we⟩ := DataW.trod_int Tryz.underlying100 g4; obtain ⟨f, e5, _, wf⟩ := DataW.trod_int Tryz.underlying100 g5; simp at e0 e1 e2 e3 e4 e5; subst e0 e1 e2 e3 e4 e5; obtain ⟨c, rfl, hc⟩ := Kjt wc; obtain ⟨d, rfl, hd⟩ := Kjt wd; obtain ⟨e, rfl, he⟩ := Kjt we; obtain ⟨f, rfl, hf⟩ := Kjt wf; exact ⟨⟨a, b, c, d, e, f⟩, rfl, ⟨hc, hd, he, hf⟩, Ktu _⟩
theorem Kmz {α : Type} : ∀ l : List α, (l.map fun _ => 1).sum = l.length
 | [] => rfl
 | x :: l => by rw [List.map_cons, List.sum_cons, Kmz l, List.length_cons]; omega
theorem Qdn {fuel : Nat} {v : Value} {x : DataW H × List MemPlace} (h : DataW.trod enc Tryz.prog w base spare held fuel 55 [v] = some x) :
  ∃ A n c l, v = .slice A n c ∧ n ≤ c ∧ Elems w w.heap.size 2 Kbg A n l ∧ (∀ y ∈ l, y.v < 2 ^ 64) ∧ l.length + 1 ≤ Rows.uptoBulk x.1 := by
 obtain ⟨A, n, c, l, rfl, _, h2, h3, ds, sp, hx, hl, hQ⟩ := Khk (ea := Kbg) (Q := fun d (y : Smp) => y.v < 2 ^ 64 ∧ 1 ≤ Rows.uptoBulk d) Tryz.underlying55 Krc (by omega) (fun _ => rfl) (fun _ _ _ h => Qfb h) h; refine ⟨A, n, c, l, rfl, h2, h3, fun y hy => ?_, ?_⟩
 ·obtain ⟨i, hi, rfl⟩ := List.mem_iff_getElem.1 hy; exact (hQ i (ds[i]'(by omega)) l[i] (List.getElem?_eq_getElem _) (List.getElem?_eq_getElem hi)).1
 ·have := Kih (fun _ : Smp => 1) hx hl fun i d y hd hy => (hQ i d y hd hy).2
  rwa [Kmz] at this
theorem Qbt {fuel : Nat} {v : Value} {x : DataW H × List MemPlace} (h : DataW.trod enc Tryz.prog w base spare held fuel 56 [v] = some x) :
  ∃ A n c l, v = .slice A n c ∧ n ≤ c ∧ Elems w w.heap.size 6 Kay A n l ∧ (∀ y ∈ l, Kbb y) ∧ l.length + 1 ≤ Rows.uptoBulk x.1 := by
 obtain ⟨A, n, c, l, rfl, _, h2, h3, ds, sp, hx, hl, hQ⟩ := Khk (ea := Kay) (Q := fun d (y : Wnd) => Kbb y ∧ 1 ≤ Rows.uptoBulk d) Tryz.underlying56 Kqr (by omega) (fun _ => rfl) (fun _ _ _ h => Qee h) h; refine ⟨A, n, c, l, rfl, h2, h3, fun y hy => ?_, ?_⟩
 ·obtain ⟨i, hi, rfl⟩ := List.mem_iff_getElem.1 hy; exact (hQ i (ds[i]'(by omega)) l[i] (List.getElem?_eq_getElem _) (List.getElem?_eq_getElem hi)).1
 ·have := Kih (fun _ : Wnd => 1) hx hl fun i d y hd hy => (hQ i d y hd hy).2
  rwa [Kmz] at this
def Ser.mass (s : Ser) : Nat := massL s.labels + s.samples.length + s.windows.length + 2
structure SerIn (w : World) (y : Hd3) (s : Ser) : Prop where
 at_ : SerAt w y s
 v : ∀ x ∈ s.samples, x.v < 2 ^ 64
 b : ∀ x ∈ s.windows, Kbb x
theorem Qea {fuel : Nat} {l : List Value} {x : DataW H × List MemPlace} (h : DataW.trod enc Tryz.prog w base spare held fuel 58 l = some x) : ∃ y : Hd3, l = encH3 y ∧ ∃ s, SerIn w y s ∧ Ser.mass s ≤ Rows.uptoBulk x.1 := by
 obtain ⟨xs, n, _, hx, hcl, hlen, hg⟩ := DataW.trod_struct Tryz.underlying58 h; rw [Krs] at hcl
 match l, hcl, xs, hlen with
 | [c0, c1, c2], _, [x0, x1, x2], _ =>
  have g0 := hg 0 _ rfl; have g1 := hg 1 _ rfl; have g2 := hg 2 _ rfl; simp [Kyp, Kzt, Kym] at g0 g1 g2; obtain ⟨A0, n0, k0, l0, rfl, a1, a2, a3⟩ := Ktx g0; obtain ⟨A1, n1, k1, l1, rfl, b1, b2, b3, b4⟩ := Qdn g1; obtain ⟨A2, n2, k2, l2, rfl, d1, d2, d3, d4⟩ := Qbt g2; refine ⟨⟨⟨A0, n0, k0⟩, ⟨A1, n1, k1⟩, ⟨A2, n2, k2⟩⟩, rfl, ⟨l0, l1, l2⟩, ⟨⟨a2, a1, b2, b1, d2, d1⟩, b3, d3⟩, ?_⟩; rw [hx]; simp only [List.map_cons, List.map_nil, Rows.uptoBulk, Rows.uptoBulkAll, Ser.mass]; omega
theorem Koa : ∀ l : List Lb, 3 * l.length + 1 ≤ massL l
 | [] => by simp [massL]
 | x :: l => by have := Koa l; simp only [massL, List.map_cons, List.sum_cons, List.length_cons, Lb.mass] at *; omega
theorem Kqw : ∀ L : List Ser, smpsN L + wndsN L + L.length + 3 * labsN L ≤ (L.map Ser.mass).sum
 | [] => by simp [smpsN, wndsN, labsN]
 | s :: L => by
  have := Kqw L; have := Koa s.labels; simp only [smpsN, wndsN, labsN, List.map_cons, List.sum_cons, List.length_cons, Ser.mass] at *; omega
structure Kog (w : World) (A : Option Addr) (n : Nat) (L : List Ser) : Prop where
 s : Sers w A n L
 n : L.length ≤ 1048576
 m : smpsN L + wndsN L ≤ 1048576
 k : labsN L ≤ 349525
 z : ∀ s ∈ L, SerSz s
theorem Qam {fuel : Nat} {v : Value} {x : DataW H × List MemPlace} (h : DataW.trod enc Tryz.prog w base spare held fuel 26 [v] = some x) :
  ∃ A n c L, v = .slice A n c ∧ n ≤ c ∧ Sers w A n L ∧ (Rows.uptoBulk x.1 ≤ 1048576 → Kog w A n L) := by
 obtain ⟨A, n, c, hs, rfl, _, h2, h3, ds, sp, hx, hl, hQ⟩ := Khk (ea := encH3) (Q := fun d y => ∃ s, SerIn w y s ∧ Ser.mass s ≤ Rows.uptoBulk d) Tryz.underlying26 Krs (by omega) (fun _ => rfl) (fun _ _ _ h => Qea h) h; have hn := h3.len
 obtain ⟨f, hf⟩ := choose_lt (α := Ser) (n := n) (p := fun i s => ∀ d y, ds[i]? = some d → hs[i]? = some y → SerIn w y s ∧ Ser.mass s ≤ Rows.uptoBulk d) (by
  intro i hi; have h1 : i < hs.length := by omega
  have h4 : i < ds.length := by omega
  obtain ⟨l, hl'⟩ := hQ i ds[i] hs[i] (List.getElem?_eq_getElem h4) (List.getElem?_eq_getElem h1); refine ⟨l, fun d y hd hy => ?_⟩; rw [List.getElem?_eq_getElem h4] at hd; rw [List.getElem?_eq_getElem h1] at hy; injection hd with hd; injection hy with hy; subst hd hy
  exact hl')
 have hS : Sers w A n ((List.range n).map f) := ⟨hs, h3, by simp, fun i y hy => by
  have hi : i < n := by have := (List.getElem?_eq_some_iff.1 hy).1; omega
  have h4 : i < ds.length := by omega
  obtain ⟨a1, a2⟩ := hf i hi ds[i] y (List.getElem?_eq_getElem h4) hy; rw [getElem!_pos _ i (by simpa using hi)]
  simpa using a1.at_⟩
 refine ⟨A, n, c, (List.range n).map f, rfl, h2, hS, fun hb => ?_⟩
 have hsum : (((List.range n).map f).map Ser.mass).sum + 1 ≤ Rows.uptoBulk x.1 := by
  refine Kih Ser.mass hx (by simp; omega) fun i d l hd hl' => ?_
  have hi : i < n := by have := (List.getElem?_eq_some_iff.1 hl').1; simpa using this
  have e : f i = l := by simpa [hi] using hl'
  have h1 : i < hs.length := by omega
  rw [← e]; exact (hf i hi d hs[i] hd (List.getElem?_eq_getElem h1)).2
 have hm := Kqw ((List.range n).map f); refine ⟨hS, by omega, by omega, by omega, fun s hs9 => ?_⟩; have h5 := Kxs Ser.mass hs9; obtain ⟨i, hi, rfl⟩ := List.mem_map.1 hs9; have hi : i < n := List.mem_range.1 hi; have h1 : i < hs.length := by omega
 have h4 : i < ds.length := by omega
 obtain ⟨a1, a2⟩ := hf i hi ds[i] hs[i] (List.getElem?_eq_getElem h4) (List.getElem?_eq_getElem h1); have h7 : massL (f i).labels + (f i).samples.length + (f i).windows.length + 2 ≤ (((List.range n).map f).map Ser.mass).sum := h5; have h6 := Kra (f i).labels; refine ⟨by omega, by omega, by omega, a1.v, a1.b, fun y hy => ?_⟩; have := Qds hy; omega
theorem Qan {r : Reach} {b0 : Nat} {v : Value} {d : DataW H} {ps : List MemPlace} (hv : Value.okWide Tryz.prog w r b0 28 v) (h : DataW.Trod enc Tryz.prog w base spare held 28 v d ps) :
  ∃ (c : Cont) (hd : Hd), v = contV c.res c.frm c.to_ hd ∧ hd.n ≤ hd.c ∧ Sers w hd.A hd.n c.series ∧ i64B c.res ∧ i64B c.frm ∧ i64B c.to_ ∧ (Rows.uptoBulk d ≤ 1048576 → Kog w hd.A hd.n c.series) := by
 obtain ⟨cs, rfl, hsz⟩ := okWide_struct Tryz.underlying28 hv; obtain ⟨l⟩ := cs; obtain ⟨fuel, hf⟩ := h; obtain ⟨xs, n, _, hx, hcl, hlen, hg⟩ := DataW.trod_struct Tryz.underlying28 hf; rw [Kzu] at hcl; have hcl2 : l.length = 4 := by simpa [Value.cells] using hcl
 match l, hcl2, xs, hlen with
 | [c0, c1, c2, c3], _, [x0, x1, x2, x3], _ =>
  have g0 := hg 0 _ rfl; have g1 := hg 1 _ rfl; have g2 := hg 2 _ rfl; have g3 := hg 3 _ rfl; simp [Kii, Knq, Kzk, Value.cells] at g0 g1 g2 g3; obtain ⟨a, e0, _, wa⟩ := DataW.trod_int Tryz.underlying3 g0; obtain ⟨b, e1, _, wb⟩ := DataW.trod_int Tryz.underlying2 g1; obtain ⟨c, e2, _, wc⟩ := DataW.trod_int Tryz.underlying2 g2; obtain ⟨A, k, cp, L, rfl, k1, k2, k3⟩ := Qam g3; simp at e0 e1 e2; subst e0 e1 e2; refine ⟨⟨a, b, c, L⟩, ⟨A, k, cp⟩, rfl, k1, k2, Kld wa, Kld wb, Kld wc, fun hb => k3 ?_⟩; have hx2 : d = _ := congrArg Prod.fst hx; rw [hx2] at hb; simp only [List.map_cons, List.map_nil, Rows.uptoBulk, Rows.uptoBulkAll] at hb; omega
end
end
section
open Go.RowKit
def FBox (p : Nat) (S0 S1 S2 : ByteArray) (w : World) : Prop := Blk w p 44 #[.string S0, .string S1, .string S2]
theorem FBox.below {p : Nat} {S0 S1 S2 : ByteArray} {w w' : World} (h : FBox p S0 S1 S2 w) (hb : Below w.heap.size w w') : FBox p S0 S1 S2 w' := Blk.below (show Blk w _ _ _ from h) hb (Blk.lt (show Blk w _ _ _ from h))
def sel {α : Type} (i : Nat) (a b c : α) : α := match i with
 | 0 => a
 | 1 => b
 | _ => c
end
section
open Go.RowKit
attribute [local go_sem ↓] Go.wp_at_zero Go.wp_at_succ
attribute [local go_sem] Later.cell
structure CSz (c : Cont) : Prop where
 n : c.series.length ≤ 1048576
 m : smpsN c.series + wndsN c.series ≤ 1048576
 k : labsN c.series ≤ 349525
 z : ∀ s ∈ c.series, SerSz s
structure LW (w0 w : World) : Prop where
 b : Below w0.heap.size w0 w
 e : BEnv w
theorem LW.below {w0 w w' : World} (h : LW w0 w) (hb : Below w.heap.size w w') : LW w0 w' := ⟨h.b.trans (hb.mono h.b.size), h.e.below hb⟩
theorem LW.start {w : World} (h : BEnv w) : LW w w := ⟨Below.refl _ _, h⟩
structure CBox (q : Nat) (r f t : Int) (A : Option Addr) (n k : Nat) (L : List Ser) (w : World) : Prop where
 k : Blk w q 28 #[.int .i64 r, .int .i64 f, .int .i64 t, .slice A n k]
 s : Kbq w A n L
theorem CBox.below {q : Nat} {r f t : Int} {A : Option Addr} {n k : Nat} {L : List Ser} {w w' : World} (h : CBox q r f t A n k L w) (hb : Below w.heap.size w w') : CBox q r f t A n k L w' := ⟨h.k.below hb h.k.lt, h.s.below hb⟩
structure Built (c : Cont) (S0 S1 S2 : ByteArray) : Prop where
 f : filOf S0 S1 S2 = Kcf c
 z0 : S0.size ≤ 200000000
 z1 : S1.size ≤ 200000000
 z2 : S2.size ≤ 200000000
theorem Qga (c : Cont) (A : Option Addr) (n k : Nat) (w : World) (hS : Kbq w A n c.series) (hc : CSz c) (hE : BEnv w) :
  Calls Tryz.prog 19 #[.agg #[.int .i64 c.res, .int .i64 c.frm, .int .i64 c.to_, .slice A n k]] w fun e w' => (∃ S0 S1 S2, e = .returned (.tuple #[.agg #[.string S0, .string S1, .string S2], .int .i64 (if fitB c = true then 0 else 190)]) ∧ Built c S0 S1 S2) ∧ Below w.heap.size w w' := by
 have hsm := fun hf => Kjl (c := c) hf hc.n hc.m hc.k
 refine (Kqo c ⟨A, n, k⟩ w hS hE (fun hf => ?_)).mono ?_
 ·have h1 := hsm hf; have h2 : (Kaz c).ck = sealT (Kbw c) := rfl; have h3 : (Kaz c).ix = sealT (Kax c) := rfl; rw [h2, h3, Kdc, Kdc] at h1; omega
 ·rintro e w' ⟨rfl, hb⟩
  have h1 : (Kcf c).mt.length ≤ 200000000 ∧ (Kcf c).ck.length ≤ 200000000 ∧ (Kcf c).ix.length ≤ 200000000 := by
   unfold Kcf
   by_cases hf : fitB c = true
   ·rw [if_pos hf]; exact hsm hf
   ·rw [if_neg hf]; exact ⟨by decide, by decide, by decide⟩
  refine ⟨⟨⟨(Kcf c).mt.toArray⟩, ⟨(Kcf c).ck.toArray⟩, ⟨(Kcf c).ix.toArray⟩, rfl, ⟨rfl, ?_, ?_, ?_⟩⟩, hb⟩
  ·exact h1.1
  ·exact h1.2.1
  ·exact h1.2.2
theorem Kog.ok {w : World} {A : Option Addr} {n : Nat} {L : List Ser} (h : Kog w A n L) : Kbq w A n L := ⟨h.s, by have := h.n; omega, h.z⟩
theorem Kyq {c : Cont} (h : fitB c = true) : Kcf c = Kaz c := by unfold Kcf; rw [if_pos h]
end
section
open Go.RowKit
def nilK : Cont := ⟨0, 0, 0, []⟩
theorem Kqy (S0 S1 S2 : ByteArray) (w : World) (h0 : S0.size ≤ 201048576) (h1 : S1.size ≤ 201048576) (h2 : S2.size ≤ 201048576) (hE : BEnv w) :
  Calls Tryz.prog 29 #[.agg #[.string S0, .string S1, .string S2]] w fun e w' => ((∃ c A n k, (fitB c = true ∧ Kaz c = filOf S0 S1 S2) ∧ e = .returned (.tuple #[.agg #[.int .i64 c.res, .int .i64 c.frm, .int .i64 c.to_, .slice A n k], .int .i64 0]) ∧ Kbq w' A n c.series) ∨ ∃ h : Int, e = .returned (.tuple #[.agg #[.int .i64 0, .int .i64 0, .int .i64 0, .slice none 0 0], .int .i64 h]) ∧ (h = 20 ∨ h = 22 ∨ h = 190)) ∧ Below w.heap.size w w' := by
 refine (Kfs S0 S1 S2 w (by unfold bSz; omega) (by unfold bSz; omega) (by unfold bSz; omega) hE.n hE.d).mono ?_; rintro e w' ⟨hp, hb⟩; refine ⟨?_, hb⟩
 cases hr : Kde (filOf S0 S1 S2) with
 | some c =>
  rw [hr] at hp; obtain ⟨⟨A, n, k⟩, rfl, hs, _⟩ := hp; exact .inl ⟨c, A, n, k, Qcg hr, rfl, hs⟩
 | none =>
  rw [hr] at hp; refine .inr ⟨(Kau [S0.data.toList, S1.data.toList, S2.data.toList] : Int), hp, ?_⟩; rcases Klk [S0.data.toList, S1.data.toList, S2.data.toList] with h | h | h <;> rw [h] <;> simp
def BRow (w : World) (b : Nat) (cs : Array Value) (m : Nat) : Prop := w.heap[b]? = some (.cells cs 5 (m, m + 1))
theorem BRow.lt {w : World} {b m : Nat} {cs : Array Value} (h : BRow w b cs m) : b < w.heap.size := by
 rcases Nat.lt_or_ge b w.heap.size with h1 | h1
 ·exact h1
 ·unfold BRow at h; rw [Array.getElem?_eq_none h1] at h; cases h
theorem BRow.cell {w : World} {b m : Nat} {cs : Array Value} (h : BRow w b cs m) (i : Nat) : w.cell? ⟨b, i, none⟩ = cs[i]? := cell_of_row w b i cs _ _ h
theorem BRow.frozen {w : World} {b m : Nat} {cs : Array Value} (h : BRow w b cs m) {i : Nat} (hi : i < m) : w.frozen? ⟨b, i, none⟩ = false := by
 unfold BRow at h; simp [World.frozen?, h]; omega
theorem BRow.set_ {w : World} {b m : Nat} {cs : Array Value} (h : BRow w b cs m) (i : Nat) (u : Value) : BRow (w.setCell ⟨b, i, none⟩ u) b (cs.setIfInBounds i u) m := by
 unfold BRow at h ⊢; simp [World.setCell, Array.getElem?_modify, h]
theorem BRow.below {w w' : World} {b m : Nat} {cs : Array Value} (h : BRow w b cs m) (hb : Below w.heap.size w w') : BRow w' b cs m := (hb.block b h.lt).trans h
def Bytes (w : World) (b : Nat) (l : List UInt8) : Prop := ∃ cs m, BRow w b cs m ∧ l.length ≤ m ∧ ∀ i (h : i < l.length), cs[i]? = some (.int .u8 (l[i].toNat : Int))
theorem Bytes.lt {w : World} {b : Nat} {l : List UInt8} (h : Bytes w b l) : b < w.heap.size := h.choose_spec.choose_spec.1.lt
theorem Bytes.below {w w' : World} {b : Nat} {l : List UInt8} (h : Bytes w b l) (hb : Below w.heap.size w w') : Bytes w' b l := by
 obtain ⟨cs, m, h1, h2⟩ := h; exact ⟨cs, m, h1.below hb, h2⟩
theorem Bytes.cell {w : World} {b : Nat} {l : List UInt8} (h : Bytes w b l) {i : Nat} (hi : i < l.length) : w.cell? ⟨b, i, none⟩ = some (.int .u8 (l[i].toNat : Int)) := by
 obtain ⟨cs, m, h1, h2, h3⟩ := h; rw [h1.cell, h3 i hi]
theorem Bytes.frozen {w : World} {b : Nat} {l : List UInt8} (h : Bytes w b l) {i : Nat} (hi : i < l.length) : w.frozen? ⟨b, i, none⟩ = false := by
 obtain ⟨cs, m, h1, h2, h3⟩ := h; exact h1.frozen (by omega)
theorem Bytes.set_ {w : World} {b : Nat} {l : List UInt8} (h : Bytes w b l) {i : Nat} (hi : i < l.length) (x : UInt8) : Bytes (w.setCell ⟨b, i, none⟩ (.int .u8 (x.toNat : Int))) b (l.set i x) := by
 obtain ⟨cs, m, h1, h2, h3⟩ := h; refine ⟨_, m, h1.set_ i _, by simpa using h2, fun j hj => ?_⟩; have hj2 : j < l.length := by simpa using hj
 rw [Array.getElem?_setIfInBounds, List.getElem_set]
 have hcs : i < cs.size := by
  have := h3 i hi; exact (Array.getElem?_eq_some_iff.1 this).1
 by_cases e : i = j
 ·subst e; rw [if_pos rfl, if_pos hcs, if_pos rfl]
 ·rw [if_neg e, if_neg e]; exact h3 j hj2
theorem Bytes.made (w : World) (s : ByteArray) : Bytes (w.drew.alloc (.cells (bytesRow s (grownCap w s.size 0 5)) 5 ((bytesRow s (grownCap w s.size 0 5)).size, (bytesRow s (grownCap w s.size 0 5)).size + 1))) w.heap.size s.data.toList := by
 refine ⟨bytesRow s (grownCap w s.size 0 5), (bytesRow s (grownCap w s.size 0 5)).size, ?_, ?_, fun i hi => ?_⟩
 ·unfold BRow; show (w.heap.push _)[w.heap.size]? = _
  rw [Array.getElem?_push_size]
 ·unfold bytesRow; rw [Array.size_append, Array.size_map]; have : s.data.toList.length = s.data.size := rfl; omega
 ·unfold bytesRow; have hi2 : i < s.data.size := hi; rw [Array.getElem?_append_left (by simpa using hi2), Array.getElem?_map, Array.getElem?_eq_getElem hi2]; rfl
theorem Qch (w : World) (s : ByteArray) : (convert 9 76 (.string s)).run Tryz.prog w = .ok (.slice (some ⟨w.heap.size, 0, none⟩) s.size (grownCap w s.size 0 5))
   (w.drew.alloc (.cells (bytesRow s (grownCap w s.size 0 5)) 5 ((bytesRow s (grownCap w s.size 0 5)).size, (bytesRow s (grownCap w s.size 0 5)).size + 1))) :=
 run_bytes_of_string w 9 76 5 s Tryz.underlying9 Tryz.underlying76 Tryz.underlying5
theorem Ksk {w : World} {b : Nat} {l : List UInt8} (h : Bytes w b l) (n c : Nat) (hn : l.length = n) : (convert 76 9 (.slice (some ⟨b, 0, none⟩) n c)).run Tryz.prog w = .ok (.string ⟨l.toArray⟩) w := by
 subst hn; refine run_convert_bytes_back w 76 9 5 ⟨b, 0, none⟩ c l Tryz.underlying76 Tryz.underlying5 Tryz.underlying9 (fun j hj => ?_); have hplain : (⟨b, 0, none⟩ : Addr).add j = ⟨b, j, none⟩ := by unfold Addr.add; simp; intro h; exact h.symm
 rw [hplain]; exact h.cell hj
theorem Kxg (x y : UInt8) : bits .xor .u8 (x.toNat : Int) (y.toNat : Int) = ((x ^^^ y).toNat : Int) := by
 have hx := x.toNat_lt; have hy := y.toNat_lt; have h0 : x.toNat ^^^ y.toNat < 2 ^ 8 := Nat.xor_lt_two_pow (by omega) (by omega); have h1 : (BitVec.ofInt 8 (x.toNat : Int)).toNat = x.toNat := by rw [BitVec.ofInt_natCast, BitVec.toNat_ofNat]; exact Nat.mod_eq_of_lt (by omega)
 have h2 : (BitVec.ofInt 8 (y.toNat : Int)).toNat = y.toNat := by rw [BitVec.ofInt_natCast, BitVec.toNat_ofNat]; exact Nat.mod_eq_of_lt (by omega)
 show IntKind.u8.wrap ((BitVec.ofInt 8 (x.toNat : Int) ^^^ BitVec.ofInt 8 (y.toNat : Int)).toNat : Int) = _
 rw [BitVec.toNat_xor, h1, h2, UInt8.toNat_xor]; simp [IntKind.wrap, IntKind.bits, IntKind.signed]; omega
def mb (m j : Nat) : UInt8 := UInt8.ofNat (m / 256 ^ j % 256)
def spl (S : List UInt8) (k m j : Nat) : List UInt8 := S.mapIdx fun i x => if k ≤ i ∧ i < k + j then x ^^^ mb m (i - k) else x
def anyM (m j : Nat) : Bool := (List.range j).any fun i => decide (mb m i ≠ 0)
theorem Kcu (S : List UInt8) (k m j : Nat) : (spl S k m j).length = S.length := by unfold spl; simp
theorem Khw (S : List UInt8) (k m j i : Nat) (hi : i < S.length) : (spl S k m j)[i]'(by rw [Kcu]; exact hi) = if k ≤ i ∧ i < k + j then S[i] ^^^ mb m (i - k) else S[i] := by
 unfold spl; rw [List.getElem_mapIdx]
theorem Qfu (S : List UInt8) (k m : Nat) : spl S k m 0 = S := by
 apply List.ext_getElem (Kcu _ _ _ _); intro i h1 h2; rw [Khw _ _ _ _ _ h2, if_neg (by omega)]
theorem Qfs (S : List UInt8) (k m j : Nat) (hi : k + j < S.length) : spl S k m (j + 1) = (spl S k m j).set (k + j) (S[k + j] ^^^ mb m j) := by
 apply List.ext_getElem (by rw [List.length_set, Kcu, Kcu]); intro i h1 h2; rw [Kcu] at h1; rw [Khw _ _ _ _ _ h1, List.getElem_set]
 by_cases h : k + j = i
 ·subst h; rw [if_pos rfl, if_pos (by omega), show k + j - k = j by omega]
 ·rw [if_neg h, Khw _ _ _ _ _ h1]
  by_cases hc : k ≤ i ∧ i < k + j
  ·rw [if_pos hc, if_pos (by omega)]
  ·rw [if_neg hc, if_neg (by omega)]
theorem Qcm (m j : Nat) : anyM m (j + 1) = (anyM m j || decide (mb m j ≠ 0)) := by
 unfold anyM; rw [List.range_succ, List.any_append]; simp
theorem Qhm (S : List UInt8) (k m n : Nat) (h : k + n ≤ S.length) : ∃ P Q : List UInt8, ∃ l : List (UInt8 × UInt8), S = P ++ l.map Prod.fst ++ Q ∧ spl S k m n = P ++ l.map Prod.snd ++ Q ∧ l.length = n ∧ ∀ i, i < n → ∃ x, (x, x ^^^ mb m i) ∈ l := by
 refine ⟨S.take k, S.drop (k + n), ((S.drop k).take n).mapIdx fun i x => (x, x ^^^ mb m i), ?_, ?_, ?_, ?_⟩
 ·have e : (((S.drop k).take n).mapIdx fun i x => (x, x ^^^ mb m i)).map Prod.fst = (S.drop k).take n := by
   apply List.ext_getElem (by simp); intro i h1 h2; simp
  rw [e, List.append_assoc, ← List.drop_drop, List.take_append_drop, List.take_append_drop]
 ·apply List.ext_getElem
  ·rw [Kcu]; simp; omega
  intro i h1 h2; rw [Kcu] at h1; rw [Khw _ _ _ _ _ h1]
  by_cases h3 : i < k
  ·rw [if_neg (by omega), List.getElem_append_left (by simp; omega), List.getElem_append_left (by simp; omega), List.getElem_take]
  ·by_cases h4 : i < k + n
   ·rw [if_pos ⟨by omega, h4⟩, List.getElem_append_left (by simp; omega), List.getElem_append_right (by simp; omega)]; simp only [List.getElem_map, List.getElem_mapIdx, List.getElem_take, List.getElem_drop, List.length_take]; have e : k + (i - min k S.length) = i := by omega
    have e2 : i - min k S.length = i - k := by omega
    have e3 : k + (i - k) = i := by omega
    simp only [e, e2, e3]
   ·rw [if_neg (by omega), List.getElem_append_right (by simp; omega)]; simp only [List.length_append, List.length_map, List.length_mapIdx, List.length_take, List.length_drop, List.getElem_drop]; congr 1; omega
 ·simp; omega
 ·intro i hi; refine ⟨S[k + i], ?_⟩; rw [List.mem_iff_getElem]; refine ⟨i, by simp; omega, ?_⟩; simp
theorem Kpo (body : List UInt8) (k m n : Nat) (hn : n ≤ 4) (h : k + n ≤ (sealT body).length) (ha : anyM m n = true) : Kan (spl (sealT body) k m n) = .error 22 := by
 obtain ⟨P, Q, l, h1, h2, h3, h4⟩ := Qhm (sealT body) k m n h; rw [h2]; refine Kxj body h1 (by omega) ?_; unfold anyM at ha; rw [List.any_eq_true] at ha; obtain ⟨i, hi, hd⟩ := ha; obtain ⟨x, hx⟩ := h4 i (List.mem_range.1 hi); refine ⟨_, hx, fun e => ?_⟩; have e : x = x ^^^ mb m i := e; have h0 : mb m i ≠ 0 := of_decide_eq_true hd; apply h0; have : x ^^^ x = x ^^^ (x ^^^ mb m i) := by rw [← e]
 rw [UInt8.xor_self, ← UInt8.xor_assoc, UInt8.xor_self, UInt8.zero_xor] at this; exact this.symm
theorem Kwo (f : Fil) (i : Nat) (hi : i < 3) (b0 b1 b2 : List UInt8) (h0 : Kan f.mt = if i = 0 then .error 22 else .ok b0) (h1 : Kan f.ck = if i = 1 then .error 22 else .ok b1) (h2 : Kan f.ix = if i = 2 then .error 22 else .ok b2) : Kde f = none ∧ Kau [f.mt, f.ck, f.ix] = 22 := by
 match i, hi with
 | 0, _ => exact ⟨Kfv (.inl ⟨22, h0⟩), by unfold Kau; rw [h0]; rfl⟩
 | 1, _ => exact ⟨Kfv (.inr (.inl ⟨22, h1⟩)), by unfold Kau; rw [h0]; unfold Kau; rw [h1]; rfl⟩
 | 2, _ => exact ⟨Kfv (.inr (.inr ⟨22, h2⟩)), by unfold Kau; rw [h0]; unfold Kau; rw [h1]; unfold Kau; rw [h2]; rfl⟩
end
end Go.Proofs.YtdoiekknhnbepaaGreatDoor
