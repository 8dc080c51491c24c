/- Merged (what the claim wants of): BlkPostsB, BlkSize3, BlkLawA, OpenS, OpenBulk, OpenSym, OpenLab, OpenSets, BlkOpenC, BlkBox, BlkLawB, BlkLawC, BlkD, BlkProofAF, BlkProofA. -/
import Derived.Test.YtdoiekknhnbepaaGreatDoorBap11
import Derived.Test.YtdoiekknhnbepaaGreatDoorBap14
import Derived.Test.YtdoiekknhnbepaaGreatDoorBap13
import Derived.Test.YtdoiekknhnbepaaGreatDoorBap02
import Derived.Test.YtdoiekknhnbepaaGreatDoorBap05
import Derived.Laws.Bits64
import Derived.Test.YtdoiekknhnbepaaGreatDoorBap03
import Derived.Test.YtdoiekknhnbepaaGreatDoorBap12
import Derived.Test.YtdoiekknhnbepaaGreatDoorRows
import Derived.ProofKit
import Derived.SizedLaws
import Derived.OpenShut
import Derived.ChangeMaps5
import Derived.Test.YtdoiekknhnbepaaGreatDoorBap01
import Derived.Deep.Slices
import Derived.Test.YtdoiekknhnbepaaGreatDoorBap09
import Derived.Test.YtdoiekknhnbepaaGreatDoorCards
import Derived.Test.YtdoiekknhnbepaaGreatDoorTie
import Derived.WalkKit
import Derived.Deep.DeepHandedRow
import Derived.Deep.DeepWitnessRowRef
import Derived.Lib.LaidTab
import Derived.Stop.LaidTwo
set_option linter.unusedVariables false
set_option linter.unusedSimpArgs false
set_option maxRecDepth 100000
set_option maxHeartbeats 8000000
namespace Go.Proofs.YtdoiekknhnbepaaGreatDoor
section
open Go.RowKit
open Lib renaming hid → Jh
attribute [local go_sem ↓] Go.wp_at_zero Go.wp_at_succ
attribute [local go_sem] Later.cell
structure PSN (w0 : World) (q : Nat) (X : ByteArray) (w : World) : Prop where
 f : Blk w q 9 #[.string X]
 o : ∃ v, Blk w (q + 1) 69 #[v]
 e : Blk w (q + 2) 29 #[.int .i64 0]
 bl : Below q w0 w
theorem QN.p {L : QLoc} {w : World} (h : QN L w) : PSN L.w0 L.q L.X w := ⟨h.f, ⟨_, h.o⟩, h.e, h.bl⟩
theorem PSN.below {w0 w w' : World} {q : Nat} {X : ByteArray} (h : PSN w0 q X w) (hb : Below w.heap.size w w') : PSN w0 q X w' := by
 obtain ⟨v, ho⟩ := h.o; exact ⟨h.f.below hb h.f.lt, ⟨v, ho.below hb ho.lt⟩, h.e.below hb h.e.lt, h.bl.trans (hb.mono (by have := h.f.lt; omega))⟩
theorem PSN.kept {w0 w w' : World} {q p : Nat} {X : ByteArray} (h : PSN w0 q X w) (hk : Kept w.heap.size [p] w w') (hp : q + 3 ≤ p) : PSN w0 q X w' := by
 obtain ⟨v, ho⟩ := h.o; exact ⟨h.f.kept hk h.f.lt (by simp; omega), ⟨v, ho.kept hk ho.lt (by simp; omega)⟩, h.e.kept hk h.e.lt (by simp; omega), h.bl.trans ⟨hk.os, hk.tape, hk.output, hk.size, fun k hlt => hk.block k (by have := h.f.lt; omega) (by simp; omega)⟩⟩
structure PLoop (w0 : World) (q pr pb m nb : Nat) (X B : ByteArray) (S : List (List Lb)) (es : Array MapEntry) (clock : Nat) (l : List Nat) (i : Nat) (w : World) : Prop where
 p : PSN w0 q X w
 o : ∃ v, Blk w (q + 1) 69 #[v] ∧ w.ownsRow (nb + 1) 3 1 v l.length (l.flatMap encN)
 r : Rdr pr B i w
 b : Blk w pb 104 #[.map (some m)]
 mp : LMap w (nb + 1) m (Kaj S) (8 * S.length) es clock
theorem PLoop.kept {w0 w w' : World} {q pr m : Nat} {X B : ByteArray} {S : List (List Lb)} {es : Array MapEntry} {clock : Nat} {l : List Nat} {i j : Nat} (h : PLoop w0 q pr (m + 1) m (m + 2) X B S es clock l i w) (ha : q + 2 < pr) (hb : pr < m) (hk : Kept w.heap.size [pr] w w') (hr : Rdr pr B j w') : PLoop w0 q pr (m + 1) m (m + 2) X B S es clock l j w' := by
 obtain ⟨v, h1, h2⟩ := h.o; have hg : w.grownBy w' (some pr) := ⟨hk.os, hk.tape, hk.output, hk.size, fun k h1 h2 => hk.block k h1 (by simpa using fun e => h2 (by rw [e]))⟩; exact ⟨h.p.kept hk (by omega), ⟨v, h1.kept hk h1.lt (by simp; omega), Kfb h2 hk (fun e => Kbx (show Blk w pr _ _ from h.r) h2 (by decide) e.symm)⟩, hr, h.b.kept hk h.b.lt (by simp; omega), h.mp.far hg (by omega) (by omega)⟩
theorem PLoop.below {w0 w w' : World} {q pr m : Nat} {X B : ByteArray} {S : List (List Lb)} {es : Array MapEntry} {clock : Nat} {l : List Nat} {i : Nat} (h : PLoop w0 q pr (m + 1) m (m + 2) X B S es clock l i w) (ha : q + 2 < pr) (hb : pr < m) (hk : Below w.heap.size w w') : PLoop w0 q pr (m + 1) m (m + 2) X B S es clock l i w' := h.kept ha hb (Kept.of_below hk) (h.r.below hk)
theorem PLoop.put {w0 w : World} {q pr m : Nat} {X B : ByteArray} {S : List (List Lb)} {es : Array MapEntry} {clock : Nat} {l l' : List Nat} {i : Nat} {v : Value} (h : PLoop w0 q pr (m + 1) m (m + 2) X B S es clock l i w) (ha : q + 2 < pr) (hb : pr < m) (hv : w.ownsRow (m + 3) 3 1 v l'.length (l'.flatMap encN)) : PLoop w0 q pr (m + 1) m (m + 2) X B S es clock l' i (w.setCell ⟨q + 1, 0, none⟩ v) := by
 obtain ⟨v0, h1, h2⟩ := h.o; have hg : w.grownBy (w.setCell ⟨q + 1, 0, none⟩ v) (some (q + 1)) := ⟨rfl, rfl, rfl, by simp [World.setCell], fun k _ hk => Below.heap_setCell _ _ _ _ (fun e => hk (by rw [e]))⟩; refine ⟨⟨h.p.f.far (by simp) _, ⟨v, h1.set_ 0 v⟩, h.p.e.far (by simp) _, h.p.bl.setCell (p := ⟨q + 1, 0, none⟩) (Nat.le_succ q) v⟩, ⟨v, h1.set_ 0 v, Kcf hv h1 (by decide)⟩, Blk.far (show Blk w pr _ _ from h.r) (p := ⟨q + 1, 0, none⟩) (by show pr ≠ q + 1; omega) _, h.b.far (by show m + 1 ≠ q + 1; omega) _, h.mp.far hg (by omega) (by omega)⟩
theorem Qba {I : List UInt8} {S : List (List Lb)} {i : Nat} (h : Kcv (fun S l => S ++ [l]) (fun S _ => some S) I [] = some (S, i)) : i ≤ I.length :=
 (Kid (P := fun _ _ => True) (fun _ _ _ _ _ _ => trivial) (fun _ _ _ _ _ _ _ _ => trivial) (fun _ _ _ _ _ _ _ => trivial) trivial h).2
theorem strs1 {w : World} {A : ByteArray} : Strs (w.alloc (.cells #[.string A] 9)) (some ⟨w.heap.size, 0, none⟩) 1 [A.data.toList] := by
 refine ⟨rfl, fun _ => ⟨w.heap.size, 0, rfl, by simp, fun i x hx j v hv => ?_⟩⟩; have hb : Blk (w.alloc (.cells #[.string A] 9)) w.heap.size 9 #[.string A] := Blk.new _ _ _
 match i, hx with
 | 0, hx => injection hx with hx; subst hx; match j, hv with | 0, hv => injection hv with hv; subst hv; exact hb.cell 0
theorem Kco {w0 : World} {q : Nat} {X : ByteArray} (w : World) (h : PSN w0 q X w) (h0 : bSz X) (hN : Kbz w0) (hq : w0.heap.size = q) (tt : TypeId) (xx : Value) :
  CallsD Tryz.prog 87 #[.pointer (some ⟨q, 0, none⟩), .pointer (some ⟨q + 1, 0, none⟩), .pointer (some ⟨q + 2, 0, none⟩)] (.panicking [{ v := .iface tt xx, recovered := false }]) w fun e u' w' =>
   e = .returned (.tuple #[]) ∧ u' = .panicking [{ v := .iface tt xx, recovered := true }] ∧ Blk w' (q + 1) 69 #[.slice none 0 0] ∧ Blk w' (q + 2) 29 #[.int .i64 (Kbp [X.data.toList] : Nat)] ∧ Below q w0 w' := by
 obtain ⟨v, hc⟩ := h.o; have f0 : w.cell? ⟨q, 0, none⟩ = some (.string X) := h.f.cell 0; refine callsD_of_wpS Tryz.func87 rfl fun c₀ cs hu => ?_
 apply wpS_seq; apply wpS_region; simp [wpOpsS, go_sem, recoverD, hu, Tryz.ntmps87, Exit.thenS]; refine wpS_cond (t := true) (by simp [Act.eval, Array.replicate]) ?_; simp only [if_true]; refine wpS_of_wp ?_; have hs := @strs1 w X
 have hbl := fun W (hb : Below w.heap.size w W) (hS : Strs W (some ⟨w.heap.size, 0, none⟩) 1 [X.data.toList]) => Kle [X.data.toList] (some ⟨w.heap.size, 0, none⟩) 1 1 W hS (by omega) (fun x hx => by
  unfold bSz at h0; simp at hx; rcases hx with rfl; rw [Array.length_toList]; show ByteArray.size _ ≤ _
  omega) (hN.below (by rw [← hq]; exact hN.lt) (h.bl.trans (hb.mono (by have := h.f.lt; omega))))
 simp [Array.replicate]; go_upto_region 2 with fail
 refine (hbl _ ((Below.refl _ _).alloc (Nat.le_refl _) _) hs).mono ?_; rintro _ w2 ⟨rfl, hb2⟩; have hb2' := ((Below.refl w.heap.size w).alloc (Nat.le_refl _) (.cells #[.string X] 9)).trans (hb2.mono (by simp)); have hc2 := hc.below hb2' hc.lt; have he2 := h.e.below hb2' h.e.lt; have HC2 := Jh hc2; have HE2 := Jh he2; have HB2 := Jh (h.bl.trans (hb2'.mono (by have := h.f.lt; omega))); have c0 : w2.cell? ⟨q + 1, 0, none⟩ = some v := hc2.cell 0; have g0 := hc2.frozen 0; have e0 : w2.cell? ⟨q + 2, 0, none⟩ = some (.int .i64 0) := he2.cell 0; have ef := he2.frozen 0; clear hb2 hb2' hc2 he2 hbl hs f0 h hc; go_wp2_with fail
 have k1 := (HC2.out.set_ 0 (.slice none 0 0)).far (p := ⟨q + 2, 0, none⟩) (by simp) (.int .i64 (Kbp [X.data.toList] : Nat)); have k2 := (HE2.out.far (p := ⟨q + 1, 0, none⟩) (by simp) (.slice none 0 0)).set_ 0 (.int .i64 (Kbp [X.data.toList] : Nat)); have k3 := (HB2.out.setCell (p := ⟨q + 1, 0, none⟩) (Nat.le_succ q) (.slice none 0 0)).setCell (p := ⟨q + 2, 0, none⟩) (Nat.le_add_right q 2) (.int .i64 (Kbp [X.data.toList] : Nat))
 revert k1 k2 k3
 generalize (w2.setCell ⟨q + 1, 0, none⟩ (.slice none 0 0)).setCell ⟨q + 2, 0, none⟩ (.int .i64 (Kbp [X.data.toList] : Nat)) = wz; intro k1 k2 k3; simp [bodyPostS, results, Tryz.results87]; exact ⟨k1, k2, k3⟩
theorem Kvy (a b c : Addr) (w : World) :
  CallsD Tryz.prog 87 #[.pointer (some a), .pointer (some b), .pointer (some c)] .returning w fun e u' w' => e = .returned (.tuple #[]) ∧ u' = .returning ∧ w' = w := by
 refine callsD_of_wpS Tryz.func87 rfl fun c₀ cs hu => ?_
 apply wpS_seq; apply wpS_region; simp [wpOpsS, go_sem, recoverD, hu, Tryz.ntmps87, Exit.thenS]; refine wpS_cond (t := false) (by simp [Act.eval, Array.replicate]) ?_; simp only [Bool.false_eq_true, if_false]; refine wpS_of_wp (wp_skip ?_); cases c₀
 simp_all [bodyPostS, results, Tryz.results87]
def Qal (w' : World) (r : Option (List Nat)) (bl : Nat) (e : Ending) : Prop := match r with
 | some l => ∃ A c, e = .returned (.tuple #[.slice A l.length c, .int .i64 0]) ∧ Elems w' w'.heap.size 1 encN A l.length l
 | none => e = .returned (.tuple #[.slice none 0 0, .int .i64 (bl : Int)])
theorem qres {w : World} {q : Nat} {x u : Value} (tmps : Array Value) (h1 : Blk w (q + 1) 69 #[x]) (h2 : Blk w (q + 2) 29 #[u]) (hp : tmps.getD 6 undef = .pointer (some ⟨q + 1, 0, none⟩)) (hq : tmps.getD 7 undef = .pointer (some ⟨q + 2, 0, none⟩)) :
  (results Tryz.f32 tmps).run Tryz.prog w = .ok (.tuple #[x, u]) w := by
 refine Khk rfl tmps w ⟨q + 1, 0, none⟩ ⟨q + 2, 0, none⟩ x u hp hq ?_ ?_
 ·have e5 : w.cell? ⟨q + 1, 0, none⟩ = some x := h1.cell 0; simp [loadVar, run_underlying Tryz.underlying69, go_sem, e5]
 ·have e5 : w.cell? ⟨q + 2, 0, none⟩ = some u := h2.cell 0; simp [loadVar, run_underlying Tryz.underlying29, go_sem, e5]
theorem Keb {w0 w : World} {q : Nat} {bl : Nat} {tmps : Array Value} {r : Option (List Nat)} (k1 : Blk w (q + 1) 69 #[.slice none 0 0]) (k2 : Blk w (q + 2) 29 #[.int .i64 (bl : Int)]) (k3 : Below q w0 w) (hr : r = none)
  (hp : tmps.getD 6 undef = .pointer (some ⟨q + 1, 0, none⟩)) (hq : tmps.getD 7 undef = .pointer (some ⟨q + 2, 0, none⟩)) (hw : w0.heap.size = q) :
  ∃ v, (results Tryz.f32 tmps).run Tryz.prog w = .ok v w ∧ (Qal w r bl (.returned v) ∧ Below w0.heap.size w0 w) := by
 subst hr; exact ⟨_, qres tmps k1 k2 hp hq, rfl, by rw [hw]; exact k3⟩
def Kht (X : List UInt8) (q : Lb) : Option (List Nat) := match Kat X with
 | .error _ => none
 | .ok I => Khm I q
theorem Ktn (n : Nat) (w : World) : Calls Tryz.prog 89 #[.int .u64 (n : Int)] w fun e w' => e = .returned (.tuple #[]) ∧ w = w' := by
 go_enter Tryz.func89, Tryz.ntmps89
 go_wp2
 go_end0
 exact ⟨rfl, rfl⟩
theorem Qcd {I : List UInt8} {S : List (List Lb)} {i : Nat} (h : Kcv (fun S l => S ++ [l]) (fun S _ => some S) I [] = some (S, i)) : Keo S ∧ S.length ≤ I.length := by
 have := Kid (P := fun (S : List (List Lb)) i => Keo S ∧ S.length ≤ i) (fun s i j h h1 h2 => ⟨h.1, by omega⟩) (fun s i j l h h1 h2 hl => ⟨fun x hx => ?_, ?_⟩) (fun s i n s' h h1 hp => by injection hp with hp; rw [← hp]; exact h) (s := []) ⟨fun x hx => by simp at hx, Nat.le_refl _⟩ h
 ·exact ⟨this.1.1, by have h1 := this.1.2; have h2 := this.2; omega⟩
 ·rcases List.mem_append.1 hx with h9 | h9
  ·exact h.1 x h9
  ·rw [List.mem_singleton.1 h9]; exact ⟨hl.1, hl.2.1⟩
 ·show (s ++ [l]).length ≤ j
  rw [List.length_append, List.length_singleton]; omega
theorem Kuz (X N V : ByteArray) (w : World) (h0 : bSz X) (hN : Kbz w) :
  Calls Tryz.prog 32 #[.string X, .string N, .string V] w fun e w' => Qal w' (Kht X.data.toList ⟨N.data.toList, V.data.toList⟩) (Kbp [X.data.toList]) e ∧ Below w.heap.size w w' := by
 have hmf : ∀ (fn : Fn) (first cap : Array Value) (w : World), (Instr.makeFunc fn first cap).run Tryz.prog w = .ok (.func fn first cap) w := fun _ _ _ _ => rfl
 have hmm := @run_makeMap Tryz.prog; obtain ⟨r, hr⟩ : ∃ r, Kht X.data.toList ⟨N.data.toList, V.data.toList⟩ = r := ⟨_, rfl⟩; rw [hr]; have H0 := Jh h0; have HN := Jh hN; have HR := Jh hr; obtain ⟨q, hq⟩ : ∃ q, w.heap.size = q := ⟨_, rfl⟩; have HQ := Jh hq; have hX : X.size ≤ 140737488351232 := by unfold bSz at h0; omega
 clear h0 hN hr; go_enter_defers Tryz.func32, Tryz.ntmps32
 go_upto_region 2 with fail
 have hb0 : Below q w (((w.alloc (.cells #[.string X] 9)).alloc (.cells #[.slice none 0 0] 69)).alloc (.cells #[.int .i64 0] 29)) := (((Below.refl _ _).alloc (Nat.le_of_eq hq.symm) _).alloc (by simp; omega) _).alloc (by simp; omega) _; have hf : Blk (((w.alloc (.cells #[.string X] 9)).alloc (.cells #[.slice none 0 0] 69)).alloc (.cells #[.int .i64 0] 29)) q 9 #[.string X] := ((Blk.newAt hq.symm).alloc _).alloc _; have hc : Blk (((w.alloc (.cells #[.string X] 9)).alloc (.cells #[.slice none 0 0] 69)).alloc (.cells #[.int .i64 0] 29)) (q + 1) 69 #[.slice none 0 0] := (Blk.newAt (by simp; omega)).alloc _; have he : Blk (((w.alloc (.cells #[.string X] 9)).alloc (.cells #[.slice none 0 0] 69)).alloc (.cells #[.int .i64 0] 29)) (q + 2) 29 #[.int .i64 0] := Blk.newAt (by simp; omega); have hz0 : (((w.alloc (.cells #[.string X] 9)).alloc (.cells #[.slice none 0 0] 69)).alloc (.cells #[.int .i64 0] 29)).heap.size = q + 3 := by simp; omega
 obtain ⟨W0, hW0⟩ : ∃ W0, ((w.alloc (.cells #[.string X] 9)).alloc (.cells #[.slice none 0 0] 69)).alloc (.cells #[.int .i64 0] 29) = W0 := ⟨_, rfl⟩; rw [hW0] at hb0 hf hc he hz0
 try rw [hW0]
 try rw [hq]
 try rw [show q + 1 + 1 = q + 2 from rfl]
 have hpn0 : PSN w q X W0 := ⟨hf, ⟨_, hc⟩, he, hb0⟩; have HPN := Jh hpn0; have HCN := Jh hc; have hn0 : Kbz W0 := HN.out.below HN.out.lt (by rw [HQ.out]; exact hb0); have ho := Kge X hX W0 hn0; have a0 : W0.cell? ⟨q, 0, none⟩ = some (.string X) := hf.cell 0; have hql := hf.lt; obtain ⟨R0, hR0⟩ : ∃ R, Kat X.data.toList = R := ⟨_, rfl⟩; rw [hR0] at ho; clear hb0 hf hc he hW0 hq hpn0 hn0 hX
 cases R0 with
 | error c0 =>
  have HNONE : Hid (r = none) := Jh (by rw [← HR.out]; unfold Kht; rw [hR0]); have HO := Jh ho; clear ho hR0; go_wp2_with fail
  refine HO.out.mono ?_; rintro e w1 ⟨⟨f, hf, rfl⟩, hb1⟩; have hpn := HPN.out.below hb1; unfold Kaq; go_wp2_with fail
  refine leaves_cons (f := 87) (args := #[.pointer (some ⟨q, 0, none⟩), .pointer (some ⟨q + 1, 0, none⟩), .pointer (some ⟨q + 2, 0, none⟩)]) (by simp) (by simp [go_sem]) ?_; refine (Kco w1 hpn H0.out HN.out HQ.out _ _).mono ?_; rintro e u' w'' ⟨rfl, rfl, k1, k2, k3⟩; refine Keb k1 k2 k3 HNONE.out ?_ ?_ HQ.out
  all_goals rfl
 | ok bb =>
 obtain ⟨B, hB⟩ : ∃ B : ByteArray, (⟨bb.toArray⟩ : ByteArray) = B := ⟨_, rfl⟩; unfold OpenO at ho; dsimp only at ho; rw [hB] at ho; have hBd : B.data.toList = bb := by rw [← hB]
 have hsz : B.size ≤ 268435456 := by
  have a := Khd hR0; have b := H0.out; unfold bSz at b; rw [← hBd] at a; have h1 : B.data.toList.length = B.size := rfl; have h2 : X.data.toList.length = X.size := rfl; omega
 have hrr : Khm B.data.toList ⟨N.data.toList, V.data.toList⟩ = r := by rw [← HR.out]; unfold Kht; rw [hR0, hBd]
 have hblv : Kbp [X.data.toList] = 190 := by rw [Kbp, hR0]; rfl
 rw [Qcv] at hrr; have HRR := Jh hrr; have HO := Jh ho; clear ho hR0 hB hBd hrr; go_wp2_with fail
 refine HO.out.mono ?_; rintro e w1 ⟨pr, rfl, hprq, hrd, hb1⟩; have hprl := Rdr.lt hrd; have hpn1 := HPN.out.below hb1; have hcn1 := HCN.out.below hb1 HCN.out.lt; have HRD := Jh hrd; have HPN1 := Jh hpn1; have HCN1 := Jh hcn1; have HB1 := Jh hb1; clear hpn1 hcn1 hb1 a0 hblv; go_upto_region 5 with fail
 obtain ⟨m, hm⟩ : ∃ m, w1.heap.size = m := ⟨_, rfl⟩; have hb4 : Below w1.heap.size w1 (((w1.alloc (.map #[] 0)).alloc (.cells #[.map (some w1.heap.size)] 104)).alloc (.cells #[.int .i64 0] 3)) := (((Below.refl _ _).alloc (Nat.le_refl _) _).alloc (by simp) _).alloc (by simp; omega) _
 have hmp4 : LMap (((w1.alloc (.map #[] 0)).alloc (.cells #[.map (some w1.heap.size)] 104)).alloc (.cells #[.int .i64 0] 3)) (m + 3) m (fun _ => []) 0 #[] 0 := by
  have h1 := LMap.new w1 (m + 3); rw [hm] at h1; refine h1.below (((Below.refl _ _).alloc (Nat.le_refl _) _).alloc (by simp) _)
 have hpb4 : Blk (((w1.alloc (.map #[] 0)).alloc (.cells #[.map (some w1.heap.size)] 104)).alloc (.cells #[.int .i64 0] 3)) (m + 1) 104 #[.map (some w1.heap.size)] := (Blk.newAt (by simp; omega)).alloc _; have hnb4 : Blk (((w1.alloc (.map #[] 0)).alloc (.cells #[.map (some w1.heap.size)] 104)).alloc (.cells #[.int .i64 0] 3)) (m + 2) 3 #[.int .i64 0] := Blk.newAt (by simp; omega); have hz4 : (((w1.alloc (.map #[] 0)).alloc (.cells #[.map (some w1.heap.size)] 104)).alloc (.cells #[.int .i64 0] 3)).heap.size = m + 3 := by simp; omega
 obtain ⟨w4, hw4⟩ : ∃ w4, ((w1.alloc (.map #[] 0)).alloc (.cells #[.map (some w1.heap.size)] 104)).alloc (.cells #[.int .i64 0] 3) = w4 := ⟨_, rfl⟩; rw [hw4] at hb4 hmp4 hpb4 hnb4 hz4
 try rw [hw4]
 rw [hm] at hpb4
 try rw [hm]
 try rw [show m + 1 + 1 = m + 2 from rfl]
 have hpn4 := HPN1.out.below hb4; have hcn4 := HCN1.out.below hb4 HCN1.out.lt; have hrd4 := HRD.out.below hb4; obtain ⟨L, hL⟩ : ∃ L : QLoc, (⟨w, q, pr, m, m + 1, m + 2, X⟩ : QLoc) = L := ⟨_, rfl⟩; have hql4 := HPN.out.e.lt; have hok : Knn L := by rw [← hL]; exact ⟨by show q + 2 < pr; omega, by show pr < m; omega, by show m < m + 1; omega, by show m + 1 < m + 2; omega, HQ.out⟩
 have hqm : QM L [] (qOwn L #[]) w4 := by
  refine ⟨#[], 0, ?_⟩; rw [← hL]; exact ⟨hpn4.f, hcn4, hpn4.e, hpb4, hnb4, hmp4, rfl, hpn4.bl⟩
 have hlq : L.q = q := by rw [← hL]
 have hlr : L.pr = pr := by rw [← hL]
 have hlm : L.m = m := by rw [← hL]
 have hlp : L.pb = m + 1 := by rw [← hL]
 have hln : L.nb = m + 2 := by rw [← hL]
 have hlw : L.w0 = w := by rw [← hL]
 have hlx : L.X = X := by rw [← hL]
 have hE : Kru (fun st : List (List Lb) => st.length) 1099511627776 pr (QM L) (QN L) (fun S l => S ++ [l]) (fun S _ => some S) 88 89 #[.pointer (some ⟨m + 1, 0, none⟩), .pointer (some ⟨m + 2, 0, none⟩)] #[] := by
  refine ⟨fun _ _ => rfl, fun _ _ => rfl, fun s O W h k hk => h.lt k hk, fun s O W h => ?_, fun s O W W' h hk => h.keep hok (by rw [hlr]; exact hk), fun s O W h => h.bad, fun s l => by show (s ++ [l]).length = _; rw [List.length_append]; rfl, fun s n s' h1 h2 => by injection h2 with h2; rw [h2], fun s O W A n c l h hz hE hc h8 hl hA => ?_, fun s O W n h h0 hz hn => ?_⟩
  ·rw [← hlr]; exact h.no hok
  ·have := Kyk hok W h hz A n c l hE hl (fun a ha => (hA a ha).1); rw [hlp, hln] at this; exact this
  ·refine (Ktn n W).mono ?_; rintro e w' ⟨rfl, rfl⟩; exact ⟨rfl, O, h, Grow.refl _ _⟩
 have hser := Kjp hE B [] _ w4 hqm hrd4 (by omega) (by omega) rfl; obtain ⟨G, hG⟩ : ∃ G, Kcv (fun S l => S ++ [l]) (fun S _ => some S) B.data.toList ([] : List (List Lb)) = G := ⟨_, rfl⟩; have hrr := HRR.out; rw [hG] at hser hrr; have HSER := Jh hser; have HL := Jh hL; have HOK := Jh hok; have HG := Jh hG; have HRR2 := Jh hrr; have HE1 := Jh hlq; have HE2 := Jh hlr; have HE3 := Jh hlm; have HE4 := Jh hlp; have HE5 := Jh hln; have HE6 := Jh hlw; have HE7 := Jh hlx; have HM := Jh hm; clear hser hL hok hG hrr hE hlq hlr hlm hlp hln hlw hlx hm hqm hpn4 hcn4 hrd4 hb4 hmp4 hpb4 hnb4 hz4 hw4 HRR; go_wp2_with fail
 refine HSER.out.mono ?_; intro e w6 h6
 cases G with
 | none =>
  obtain ⟨⟨tt, xx, rfl⟩, hn⟩ := h6; have HNONE : Hid (r = none) := Jh HRR2.out.symm; have hpn := hn.p; rw [HE6.out, HE1.out, HE7.out] at hpn; clear hmf hmm; go_wp2_with fail
  refine leaves_cons (f := 87) (args := #[.pointer (some ⟨q, 0, none⟩), .pointer (some ⟨q + 1, 0, none⟩), .pointer (some ⟨q + 2, 0, none⟩)]) (by simp) (by simp [go_sem]) ?_; refine (Kco w6 hpn H0.out HN.out HQ.out _ _).mono ?_; rintro e u' w'' ⟨rfl, rfl, k1, k2, k3⟩; refine Keb k1 k2 k3 HNONE.out ?_ ?_ HQ.out
  all_goals rfl
 | some x =>
 obtain ⟨S, i2⟩ := x; obtain ⟨rfl, O6, ⟨es, clock, hqx⟩, hrd6, _, _, _⟩ := h6; have hsn := Qcd HG.out; have hi2 := Qba HG.out
 have hp6 : PLoop w q pr (m + 1) m (m + 2) X B S es clock [] i2 w6 := by
  have hb := (QM.bad ⟨es, clock, hqx⟩).p; rw [HE6.out, HE1.out, HE7.out] at hb; have ho := hqx.o; rw [HE1.out] at ho; have hpb := hqx.pb; rw [HE4.out, HE3.out] at hpb; have hmp := hqx.mp; rw [HE5.out, HE3.out] at hmp; exact ⟨hb, ⟨_, ho, World.ownsRow_nil _ _ _ _⟩, hrd6, hpb, hmp⟩
 have HP6 := Jh hp6; have HSN := Jh hsn; have HI2 := Jh hi2; have hsnl : S.length ≤ 268435456 := by have h1 := hsn.2; have h2 : B.data.toList.length = B.size := rfl; omega
 have HSL := Jh hsnl; have c1 : w6.cell? ⟨pr, 1, none⟩ = some (.int .i64 (i2 : Int)) := (show Blk w6 _ _ _ from hrd6).cell 1; have hmeq := HM.out; have HORD := Jh (show q + 2 < pr ∧ pr < m from ⟨by omega, by omega⟩); have HU6 := Jh (Kdg pr i2 B w6 hrd6 (by omega)); clear hqx hrd6 hp6 hsn hi2 hsnl; go_upto_region 7 with fail
 clear c1; go_wp2_with fail
 refine HU6.out.mono ?_; intro e w7 h7
 cases hru : ruAt B.data.toList i2 with
 | none =>
  rw [hru] at h7; obtain ⟨⟨f, hf, rfl⟩, hb7⟩ := h7; have HNONE : Hid (r = none) := Jh (by rw [← HRR2.out, hru] <;> rfl); have hpn := HP6.out.p.below hb7; clear hmf hmm hru hb7 HU6; unfold Kaq; go_wp2_with fail
  refine leaves_cons (f := 87) (args := #[.pointer (some ⟨q, 0, none⟩), .pointer (some ⟨q + 1, 0, none⟩), .pointer (some ⟨q + 2, 0, none⟩)]) (by simp) (by simp [go_sem]) ?_; refine (Kco w7 hpn H0.out HN.out HQ.out _ _).mono ?_; rintro e u' w'' ⟨rfl, rfl, k1, k2, k3⟩; refine Keb k1 k2 k3 HNONE.out ?_ ?_ HQ.out
  all_goals rfl
 | some x =>
 obtain ⟨k, i3⟩ := x; rw [hru] at h7; obtain ⟨rfl, hr7, hk7⟩ := h7; have hk64 := Kdu hru; have hp7 := HP6.out.kept HORD.out.1 HORD.out.2 hk7 hr7
 have HRK : Hid ((match keysR B.data.toList ⟨N.data.toList, V.data.toList⟩ k [] i3 with
    | none => none
    | some (out, i4) => if i4 = B.data.toList.length ∧ Kbi S = B.data.toList.drop i2 then some out else none) = r) := Jh (by rw [← HRR2.out, hru] <;> rfl)
 have HP7 := Jh hp7; have HI3 := Jh (Kgr hru); clear hru hr7 hk7 hp7 HRR2 HU6; have HSB := Jh hsz; clear hmf hmm; obtain ⟨Q, hQ⟩ : ∃ Q : Lb, (⟨N.data.toList, V.data.toList⟩ : Lb) = Q := ⟨_, rfl⟩; rw [hQ] at HRK; have HQQ := Jh hQ; clear hQ; go_wp2_with fail
 go_loopg [12] k (fun g s12 wr => ∃ (l : List Nat) (i : Nat), s12 = .int .u64 (g : Int) ∧ g < 2 ^ 64 ∧ PLoop w q pr (m + 1) m (m + 2) X B S es clock l i wr ∧ (match keysR B.data.toList Q g l i with
    | none => none
    | some (out, i4) => if i4 = B.data.toList.length ∧ Kbi S = B.data.toList.drop i2 then some out else none) = r)
 case atStart => exact ⟨[], i3, rfl, hk64, HP7.out, HRK.out⟩
 case round =>
  obtain ⟨l, i, rfl, hg64, hp9, hrr⟩ := hrel; obtain ⟨wo, rfl⟩ : ∃ x, x = wr := ⟨_, rfl⟩; have HP9 := Jh hp9; have HRR9 := Jh hrr; clear hp9 hrr
  cases gk with
  | zero =>
   have hfin : (if i = B.data.toList.length ∧ Kbi S = B.data.toList.drop i2 then some l else none) = r := by rw [← HRR9.out]; rfl
   have HFIN := Jh hfin; clear hfin; have hpb := HP9.out.b; have hpr := HP9.out.r; have b0 : wo.cell? ⟨m + 1, 0, none⟩ = some (.map (some m)) := hpb.cell 0; have r0 : wo.cell? ⟨pr, 0, none⟩ = some (.string B) := (show Blk wo _ _ _ from hpr).cell 0; have r1 : wo.cell? ⟨pr, 1, none⟩ = some (.int .i64 (i : Int)) := (show Blk wo _ _ _ from hpr).cell 1; have hb1 := hpb.lt; have hb2 := hpr.lt; have HLI : Hid (∀ W, Below wo.heap.size wo W → Calls Tryz.prog 45 #[.map (some m)] W fun e w' => e = .returned (.string ⟨(Kbi S).toArray⟩) ∧ Below W.heap.size W w') := Jh fun W hb => Kkv S m (8 * S.length) (m + 3) es clock W (HP9.out.mp.below hb) (by have := HSL.out; omega) (by have := HSL.out; omega) (by have := Kod HSN.out.1; have := HSL.out; omega)
   obtain ⟨T, hT⟩ : ∃ T : ByteArray, (⟨(Kbi S).toArray⟩ : ByteArray) = T := ⟨_, rfl⟩; rw [hT] at HLI; have HTT := Jh hT; have hBl : B.data.toList.length = B.size := rfl; have HBL := Jh hBl; have hi2 := HI2.out; rw [hBl] at hi2; clear hpb hpr hT hBl; go_upto_region 14 with fail
   by_cases hie : i = B.size
   ·have e1 : decide ((i : Int) = (B.size : Int)) = true := by rw [decide_eq_true_eq]; omega
    obtain ⟨dl, hdl⟩ : ∃ d, decide (Kbi S = B.data.toList.drop i2) = d := ⟨_, rfl⟩
    have e3 : (T.toList == (B.extract i2 B.size).toList) = dl := by
     rw [← hdl, ByteArray.toList_eq, ByteArray.toList_eq, ← HTT.out, Kka]; show (Kbi S == _) = _
     rw [List.take_of_length_le (by rw [List.length_drop]; exact Nat.le_refl _)]
     by_cases h : Kbi S = B.data.toList.drop i2
     ·rw [h]; simp
     ·rw [decide_eq_false h]; simpa using h
    have HDL := Jh hdl; clear hdl; refine Kai (by kernel_rfl) (by kernel_rfl) ?_
    repeat (go_big_quiet_step ((go_at_call 45; exact Kal _ (HLI.out _ (Later.h _)))))
    refine wpQuiet_nil ?_; rintro wz ⟨⟨_, hbz⟩, rfl⟩; have hpz := HP9.out.below HORD.out.1 HORD.out.2 hbz; have HPZ := Jh hpz; have hrr := HFIN.out; have hiB : i = B.data.toList.length := hie
    cases dl with
    | false =>
     have HNONE : Hid (r = none) := Jh (by rw [← hrr]; exact if_neg fun h => of_decide_eq_false HDL.out h.2); have hpn := hpz.p; clear hrr hbz hpz HLI b0 r0 r1 hb1 hb2; go_wp2_with fail
     refine leaves_cons (f := 87) (args := #[.pointer (some ⟨q, 0, none⟩), .pointer (some ⟨q + 1, 0, none⟩), .pointer (some ⟨q + 2, 0, none⟩)]) (by simp) (by simp [go_sem]) ?_; refine (Kco wz hpn H0.out HN.out HQ.out _ _).mono ?_; rintro e u' w'' ⟨rfl, rfl, k1, k2, k3⟩; refine Keb k1 k2 k3 HNONE.out ?_ ?_ HQ.out
     all_goals rfl
    | true =>
     have HSOM : Hid (r = some l) := Jh (by rw [← hrr]; exact if_pos ⟨hiB, of_decide_eq_true HDL.out⟩); obtain ⟨v, ho, hown⟩ := hpz.o; obtain ⟨A, cp, rfl, hel, _, _⟩ := Elems.of_own (enc := encN) (fun _ _ => rfl) rfl hown rfl; have c0 : wz.cell? ⟨q + 1, 0, none⟩ = some (.slice A l.length cp) := ho.cell 0; have cf := ho.frozen 0; have d0 : wz.cell? ⟨q + 2, 0, none⟩ = some (.int .i64 0) := hpz.p.e.cell 0; have df := hpz.p.e.frozen 0; have HO2 := Jh ho; have HEL := Jh hel; clear hrr hbz hpz HLI b0 r0 r1 hb1 hb2 ho hown hel; go_wp2_with fail
     refine leaves_cons (f := 87) (args := #[.pointer (some ⟨q, 0, none⟩), .pointer (some ⟨q + 1, 0, none⟩), .pointer (some ⟨q + 2, 0, none⟩)]) (by simp) (by simp [go_sem]) ?_; refine (Kvy _ _ _ _).mono ?_; rintro e u' w'' ⟨rfl, rfl, rfl⟩; have s0 : wz.setCell ⟨q + 1, 0, none⟩ (.slice A l.length cp) = wz := Key HO2.out (i := 0) rfl; have s4 : wz.setCell ⟨q + 2, 0, none⟩ (.int .i64 0) = wz := Key HPZ.out.p.e (i := 0) rfl; rw [s0, s4]; refine ⟨_, qres _ HO2.out HPZ.out.p.e (by rfl) (by rfl), ?_, by rw [HQ.out]; exact HPZ.out.p.bl⟩; rw [HSOM.out]; exact ⟨A, cp, rfl, HEL.out⟩
   ·have e1 : decide ((i : Int) = (B.size : Int)) = false := by rw [decide_eq_false_iff_not]; omega
    have e2 : ((i : Int) == (B.size : Int)) = false := by rw [beq_eq_false_iff_ne]; omega
    have e4 : ((i : Int) != (B.size : Int)) = true := by rw [bne_iff_ne]; omega
    refine Kai (by kernel_rfl) (by kernel_rfl) ?_
    repeat (go_big_quiet_step ((go_at_call 45; exact Kal _ (HLI.out _ (Later.h _)))))
    refine wpQuiet_nil ?_; rintro wz ⟨⟨_, hbz⟩, rfl⟩; have hpn := (HP9.out.below HORD.out.1 HORD.out.2 hbz).p; have hrr := HFIN.out; have HNONE : Hid (r = none) := Jh (by rw [← hrr]; exact if_neg fun h => hie h.1); clear hrr hbz HLI b0 r0 r1 hb1 hb2; go_wp2_with fail
    refine leaves_cons (f := 87) (args := #[.pointer (some ⟨q, 0, none⟩), .pointer (some ⟨q + 1, 0, none⟩), .pointer (some ⟨q + 2, 0, none⟩)]) (by simp) (by simp [go_sem]) ?_; refine (Kco wz hpn H0.out HN.out HQ.out _ _).mono ?_; rintro e u' w'' ⟨rfl, rfl, k1, k2, k3⟩; refine Keb k1 k2 k3 HNONE.out ?_ ?_ HQ.out
    all_goals rfl
  | succ g =>
   have el : decide (0 < g + 1) = true := by rw [decide_eq_true_eq]; omega
   have hg1 : IntKind.u64.wrap (((g + 1 : Nat) : Int) - 1) = (g : Int) := by
    rw [show ((g + 1 : Nat) : Int) - 1 = (g : Int) by omega]; exact IntWalk.u64_in _ (by omega)
   have HG1 := Jh hg1; have hrr := HRR9.out; rw [keysR] at hrr; obtain ⟨nx, nj, ne, hn9⟩ : ∃ x j e, Kbe B.data.toList (i : Int) = (x, j, e) := ⟨_, _, _, rfl⟩; have hT1 := Khl pr i B wo HP9.out.r (by omega); rw [hn9] at hrr hT1; dsimp only at hrr hT1; have HT1 := Jh hT1; have HRRa := Jh hrr; clear hg1 hrr hT1 hn9; go_wp2_with fail
   refine HT1.out.mono ?_; intro e w1 h1
   by_cases hne : ne = 0
   rotate_left
   ·rw [if_neg hne] at h1; obtain ⟨⟨f, hf, rfl⟩, hb1⟩ := h1; have hrr := HRRa.out; rw [if_pos hne] at hrr; have HNONE : Hid (r = none) := Jh hrr.symm; have hpn := HP9.out.p.below hb1; clear hrr hb1; unfold Kaq; go_wp2_with fail
    refine leaves_cons (f := 87) (args := #[.pointer (some ⟨q, 0, none⟩), .pointer (some ⟨q + 1, 0, none⟩), .pointer (some ⟨q + 2, 0, none⟩)]) (by simp) (by simp [go_sem]) ?_; refine (Kco w1 hpn H0.out HN.out HQ.out _ _).mono ?_; rintro e u' w'' ⟨rfl, rfl, k1, k2, k3⟩; refine Keb k1 k2 k3 HNONE.out ?_ ?_ HQ.out
    all_goals rfl
   subst hne; have hrr := HRRa.out; rw [if_neg (by simp)] at hrr; rw [if_pos rfl] at h1; obtain ⟨rfl, hr1, hk1⟩ := h1; have hp1 := HP9.out.kept HORD.out.1 HORD.out.2 hk1 hr1; have HP1 := Jh hp1; obtain ⟨vx, vj, ve, hv9⟩ : ∃ x j e, Kbe B.data.toList (nj : Int) = (x, j, e) := ⟨_, _, _, rfl⟩; have hT2 := Khl pr nj B w1 hr1 (by omega); rw [hv9] at hrr hT2; dsimp only at hrr hT2; have HT2 := Jh hT2; have HVJ := Jh hv9; have HRRb := Jh hrr; clear hrr hT2 hv9 hr1 hk1 hp1 HT1 HRRa; obtain ⟨SX, hSX⟩ : ∃ S : ByteArray, (⟨nx.toArray⟩ : ByteArray) = S := ⟨_, rfl⟩; have HSX := Jh hSX; unfold txtV; rw [hSX]; clear hSX; go_wp2_with fail
   refine HT2.out.mono ?_; intro e w2 h2
   by_cases hve : ve = 0
   rotate_left
   ·rw [if_neg hve] at h2; obtain ⟨⟨f, hf, rfl⟩, hb2⟩ := h2; have hrr := HRRb.out; rw [if_pos hve] at hrr; have HNONE : Hid (r = none) := Jh hrr.symm; have hpn := HP1.out.p.below hb2; clear hrr hb2; unfold Kaq; go_wp2_with fail
    refine leaves_cons (f := 87) (args := #[.pointer (some ⟨q, 0, none⟩), .pointer (some ⟨q + 1, 0, none⟩), .pointer (some ⟨q + 2, 0, none⟩)]) (by simp) (by simp [go_sem]) ?_; refine (Kco w2 hpn H0.out HN.out HQ.out _ _).mono ?_; rintro e u' w'' ⟨rfl, rfl, k1, k2, k3⟩; refine Keb k1 k2 k3 HNONE.out ?_ ?_ HQ.out
    all_goals rfl
   subst hve; have hrr := HRRb.out; rw [if_neg (by simp)] at hrr; rw [if_pos rfl] at h2; obtain ⟨rfl, hr2, hk2⟩ := h2; have HP2 := Jh (HP1.out.kept HORD.out.1 HORD.out.2 hk2 hr2); have HRRc := Jh hrr; clear hrr hr2 hk2 HT2 HRRb; obtain ⟨SV, hSV⟩ : ∃ S : ByteArray, (⟨vx.toArray⟩ : ByteArray) = S := ⟨_, rfl⟩; have HSV := Jh hSV; unfold txtV; rw [hSV]; clear hSV; have hvj : vj ≤ B.size := (Kih HVJ.out).2.1; have HVL := Jh hvj; have hb3 : Below w2.heap.size w2 (w2.alloc (.cells #[.string SX, .string SV] 99)) := (Below.refl _ _).alloc (Nat.le_refl _) _; have hp3 : Blk (w2.alloc (.cells #[.string SX, .string SV] 99)) w2.heap.size 99 #[.string SX, .string SV] := Blk.new _ _ _; go_upto_region 11 with fail
   obtain ⟨w3, hw3⟩ : ∃ w3, w2.alloc (.cells #[.string SX, .string SV] 99) = w3 := ⟨_, rfl⟩; obtain ⟨pl, hpl⟩ : ∃ pl, w2.heap.size = pl := ⟨_, rfl⟩; have HPL := Jh hpl; rw [hw3] at hb3 hp3; rw [hpl] at hp3
   try rw [hw3]
   try rw [hpl]
   have hP3 := HP2.out.below HORD.out.1 HORD.out.2 hb3; have HP3 := Jh hP3; have HPL3 := Jh hp3; have hr3 := hP3.r; have hplr : pr < pl := by rw [← hpl]; exact HP2.out.r.lt
   clear hb3 hw3 hP3 hp3 hpl hvj
   cases hpo : postR B.data.toList vj with
   | none =>
    have hT := Kiz B vj w3.drew (by omega) HVL.out; rw [hpo] at hT
    have HT := Jh (Kln pr vj B w3 hr3 (fun _ _ _ => False) True (hT.mono (by
     rintro e w' ⟨f, hf, rfl, hb⟩
     exact ⟨Kbv hb, .inr ⟨trivial, _, _, f, hf, rfl⟩⟩)))
    have HNONE : Hid (r = none) := Jh (by rw [← HRRc.out, hpo]); clear hT hr3 hpo; go_wp2_with fail
    refine HT.out.mono ?_; rintro e w5 (⟨v, j, w6, rfl, hno, _⟩ | ⟨_, f, hf, rfl, hb⟩)
    ·exact hno.elim
    have hpn := HP3.out.p.below hb; clear hb; unfold Kaq; go_wp2_with fail
    refine leaves_cons (f := 87) (args := #[.pointer (some ⟨q, 0, none⟩), .pointer (some ⟨q + 1, 0, none⟩), .pointer (some ⟨q + 2, 0, none⟩)]) (by simp) (by simp [go_sem]) ?_; refine (Kco w5 hpn H0.out HN.out HQ.out _ _).mono ?_; rintro e u' w'' ⟨rfl, rfl, k1, k2, k3⟩; refine Keb k1 k2 k3 HNONE.out ?_ ?_ HQ.out
    all_goals rfl
   | some x =>
    obtain ⟨l3, i4⟩ := x; have hT := Kiz B vj w3.drew (by omega) HVL.out; rw [hpo] at hT
    have HT := Jh (Kln pr vj B w3 hr3 (fun v j w' => j = i4 ∧ w'.ownsRow w3.heap.size 3 1 v l3.length (l3.flatMap encN)) False (hT.mono (by
     rintro e w' ⟨v, rfl, hown, hb⟩
     exact ⟨Kbv hb, .inl ⟨_, i4, rfl, rfl, hown⟩⟩)))
    have hrr := HRRc.out; rw [hpo] at hrr; dsimp only at hrr; have HRRd := Jh hrr; clear hT hr3 hpo hrr; go_wp2_with fail
    refine HT.out.mono ?_; rintro e w5 (⟨v, j, w6, rfl, ⟨rfl, hown⟩, hb6, rfl⟩ | ⟨hno, _⟩)
    rotate_left
    ·exact hno.elim
    have hk7 := Khx (pr := pr) (v := .int .i64 (j : Int)) hb6; have hr7 : Rdr pr B j (w6.setCell ⟨pr, 1, none⟩ (.int .i64 (j : Int))) := HP3.out.r.set hb6; have hown7 := Kcf (p := pr) (i := 1) (u := .int .i64 (j : Int)) hown (show Blk w6 pr _ _ from HP3.out.r.below hb6) (by decide); have hp7 := HP3.out.kept HORD.out.1 HORD.out.2 hk7 hr7; have hpl7 := HPL3.out.kept hk7 HPL3.out.lt (by simp; omega); obtain ⟨A, cp, rfl, _, _, _⟩ := Elems.of_own (enc := encN) (fun _ _ => rfl) rfl hown7 rfl; have hown8 := hown7.mono (base' := m + 3) (by have h1 := HPL3.out.lt; have h2 := HP2.out.b.lt; have h3 := HPL.out; omega); obtain ⟨w7, hw7⟩ : ∃ w7, w6.setCell ⟨pr, 1, none⟩ (.int .i64 (j : Int)) = w7 := ⟨_, rfl⟩; rw [hw7] at hp7 hpl7 hown8; rw [hw7]; obtain ⟨dq, hdq⟩ : ∃ d, decide ((⟨nx, vx⟩ : Lb) = Q) = d := ⟨_, rfl⟩; have eF : ∀ F : ByteArray, (⟨F.data.toList.toArray⟩ : ByteArray) = F := fun F => by cases F; simp
    have heq : ∀ W : World, (binOp .eql 99 (.agg #[.string SX, .string SV]) (.agg #[.string N, .string V])).run Tryz.prog W = .ok (.bool dq) W := fun W => by
     have h1 := Qft ⟨nx, vx⟩ ⟨N.data.toList, V.data.toList⟩ W; rw [show decide ((⟨nx, vx⟩ : Lb) = ⟨N.data.toList, V.data.toList⟩) = dq from by rw [HQQ.out]; exact hdq] at h1; dsimp only at h1; rw [HSX.out, HSV.out] at h1; exact h1
    have p0 : w7.cell? ⟨pl, 0, none⟩ = some (.string SX) := hpl7.cell 0; have p1 : w7.cell? ⟨pl, 1, none⟩ = some (.string SV) := hpl7.cell 1; obtain ⟨vo, hvo, _⟩ := hp7.o; have c0 : w7.cell? ⟨q + 1, 0, none⟩ = some vo := hvo.cell 0; have cf := hvo.frozen 0; have HP7 := Jh hp7; have HOWN8 := Jh hown8; have HDQ := Jh hdq; clear hk7 hr7 hown7 hp7 hpl7 hown8 hw7 hb6 hown hdq eF hvo
    cases dq with
    | true =>
     have hrr := HRRd.out; rw [if_pos (of_decide_eq_true HDQ.out)] at hrr; have HRRe := Jh hrr; clear hrr; go_wp2_with fail
     go_roundg g
     case measure => omega
     case rel => exact ⟨l3, j, by first | rfl | exact vi HG1.out, by omega, HP7.out.put HORD.out.1 HORD.out.2 HOWN8.out, HRRe.out⟩
    | false =>
     have hrr := HRRd.out; rw [if_neg (of_decide_eq_false HDQ.out)] at hrr; have HRRe := Jh hrr; clear hrr; go_wp2_with fail
     go_roundg g
     case measure => omega
     case rel => exact ⟨l, j, by first | rfl | exact vi HG1.out, by omega, HP7.out, HRRe.out⟩
end
section
open Go.RowKit
open List renaming length_append → Jd
def labsS (S : List (List Lb)) : Nat := (S.map List.length).sum
def labsN (l : List Ser) : Nat := (l.map fun s => s.labels.length).sum
theorem Kyo (c : Cont) : labsS (Kad c) = labsN c.series := by
 unfold labsS labsN Kad; rw [List.map_map]; rfl
theorem Kpk : ∀ S : List (List Lb), (allS S).length = 2 * labsS S
 | [] => rfl
 | l :: S => by
  have h2 := Kpk S; have h3 := Kfs l; unfold allS labsS at *; rw [List.flatMap_cons, Jd, List.map_cons, List.sum_cons]; omega
theorem Ktu {S : List (List Lb)} (h : Keo S) : (tabT (tabOf S)).length ≤ 11 + 150 * labsS S := by
 have h1 : (tabOf S).length ≤ 2 * labsS S := by
  refine Nat.le_trans (Kjw _) ?_; rw [List.length_mergeSort, Kpk]; exact Nat.le_refl _
 have h3 := Kfl 64 (tabOf S) (Kib h).2; have h4 := (Kab (tabOf S).length).2; unfold tabT; rw [Jd]; omega
theorem Ktv (S : List (List Lb)) : S.flatten.length = labsS S := by
 unfold labsS; rw [List.length_flatten]
theorem Kwi (S : List (List Lb)) : (keysOf S).length ≤ labsS S := by
 have h1 : ∀ l : List Lb, (l.foldr insK []).length ≤ l.length := by
  intro l
  induction l with
  | nil => exact Nat.le_refl _
  | cons y l ih => rw [List.foldr_cons, List.length_cons]; exact Nat.le_trans (Kmf y _) (by omega)
 rw [← Ktv]; exact h1 _
theorem Kxr (T : List (List Lb)) (l : List Lb) : labsS (T ++ [l]) = labsS T + l.length := by
 unfold labsS; rw [List.map_append, List.sum_append, List.map_cons, List.map_nil, List.sum_cons, List.sum_nil]; omega
theorem Kyy (K : List Lb) (hK : K.Nodup) : ∀ (n : Nat) (S : List (List Lb)), S.length = n → (K.map fun x => (Kaj S x).length).sum ≤ labsS S := by
 intro n
 induction n with
 | zero =>
  intro S h; have h0 : S = [] := List.eq_nil_of_length_eq_zero h; subst h0
  have : ∀ K : List Lb, (K.map fun x => (Kaj [] x).length).sum = 0 := by
   intro K
   induction K with
   | nil => rfl
   | cons y K ih => rw [List.map_cons, List.sum_cons, ih]; rfl
  rw [this]; exact Nat.zero_le _
 | succ n ih =>
  intro S h; have hne : S ≠ [] := by intro e; rw [e] at h; cases h
  obtain ⟨T, l, rfl⟩ : ∃ T l, S = T ++ [l] := ⟨S.dropLast, S.getLast hne, (List.dropLast_concat_getLast hne).symm⟩; have h1 := ih T (by rw [Jd, List.length_singleton] at h; omega); have h3 := Klx l K hK
  have e : ∀ K : List Lb, (K.map fun x => (Kaj (T ++ [l]) x).length).sum = (K.map fun x => (Kaj T x).length).sum + (K.filter fun x => decide (x ∈ l)).length := by
   intro K
   induction K with
   | nil => rfl
   | cons y K ih =>
    rw [List.map_cons, List.sum_cons, List.map_cons, List.sum_cons, ih, Kgl, List.filter_cons]
    by_cases hy : y ∈ l
    ·rw [if_pos hy, if_pos (decide_eq_true hy), Jd, List.length_cons]; simp; omega
    ·rw [if_neg hy, if_neg (by simpa using hy)]; omega
  rw [e, Kxr]; omega
theorem Kux {S : List (List Lb)} (h : Keo S) : (Kbi S).length ≤ 11 + 140 * labsS S := by
 have h1 := (Kab (keysOf S).length).2; have h2 := Kwi S; have h3 := Kyy (keysOf S) ((Kee S).1.imp fun hab e => by subst e; exact Kdx _ hab) S.length S rfl
 have h4 : ∀ K : List Lb, (∀ x ∈ K, x.n.length ≤ 32 ∧ x.v.length ≤ 64) → (K.flatMap (keyT S)).length ≤ 129 * K.length + 11 * (K.map fun x => (Kaj S x).length).sum := by
  intro K
  induction K with
  | nil => intro _; simp
  | cons y K ih =>
   intro hk; have k1 := Kte S y (hk y (by simp)); have k2 := ih (fun x hx => hk x (by simp [hx])); rw [List.flatMap_cons, Jd, List.length_cons, List.map_cons, List.sum_cons]; omega
 have h5 := h4 (keysOf S) (Kgq h); unfold Kbi; rw [Jd]; omega
theorem Qbi (t : List Txt) (s : Ser) : (serT t s).length ≤ 33 + 22 * s.labels.length + 11 * s.samples.length := by
 unfold serT; rw [Jd, Jd]; have h1 := Qai t s.labels; have h2 := (Kab (Kak s).length).2; have h3 := Ksu (Kak s); have h4 := Klk s; omega
theorem Knd (t : List Txt) : ∀ l : List Ser, (l.flatMap (serT t)).length ≤ 33 * l.length + 22 * labsN l + 11 * smpsN l
 | [] => by simp [smpsN, labsN]
 | s :: l => by
  have h1 := Qbi t s; have h2 := Knd t l; simp only [smpsN, labsN, List.map_cons, List.sum_cons, List.flatMap_cons, Jd, List.length_cons] at *; omega
theorem Kyu {c : Cont} (h : fitB c = true) : (Kbd c).length ≤ 33 + 312 * labsN c.series + 33 * c.series.length + 11 * smpsN c.series := by
 have hs := Khc h; have h1 := Ktu hs; have h2 := (Kab c.series.length).2; have h3 := Knd (tabOf (Kad c)) c.series; have h4 := Kux hs; rw [Kyo] at h1 h4; unfold Kbd; simp only [Jd]; omega
theorem Kwl {c : Cont} (h : fitB c = true) (hn : c.series.length ≤ 1048576) (hm : smpsN c.series + wndsN c.series ≤ 1048576) (hk : labsN c.series ≤ 349525) : (sealT (metaB c)).length ≤ 200000000 ∧ (sealT (Kch c)).length ≤ 200000000 ∧ (sealT (Kbd c)).length ≤ 200000000 := by
 have h1 := Kps h; have h2 := Kyu h
 have h3 : ∀ l : List UInt8, (sealT l).length = l.length + 4 := fun l => by
  unfold sealT; rw [Jd]; rfl
 rw [h3, h3, h3]; omega
end
section
open Go.RowKit
open Lib renaming hid → Jh
attribute [local go_sem ↓] Go.wp_at_zero Go.wp_at_succ
attribute [local go_sem] Later.cell
structure BEnv (w : World) : Prop where
 n : Kbz w
 d : DbTab w
theorem BEnv.below {w w' : World} (h : BEnv w) (hb : Below w.heap.size w w') : BEnv w' := ⟨h.n.below h.n.lt hb, h.d.below hb⟩
def wakeC : Cont := ⟨0, 0, 10, [⟨[⟨[97], [120]⟩], [⟨3, 4⟩, ⟨9, 1⟩], []⟩]⟩
theorem Kgj : fitB wakeC = true := by kernel_rfl
theorem Qfe : Keq ⟨[], [], []⟩ = none := by kernel_rfl
theorem Kzz : Kbp [[], [], []] = 20 := by kernel_rfl
theorem Ksh : Kdn wakeC := Kxb Kgj (fun s hs => by
 rw [List.mem_singleton.1 hs]; refine ⟨fun x hx => ?_, fun x hx => ?_⟩
 ·rcases List.mem_cons.1 hx with rfl | hx
  ·decide
  ·rw [List.mem_singleton.1 hx]; decide
 ·cases hx) (by decide) (by decide) (by decide)
theorem Qbb : Kaj (Kad wakeC) ⟨[97], [120]⟩ = [0] := by kernel_rfl
theorem Kkf {c : Cont} (h : fitB c = true) (hn : c.series.length ≤ 1048576) (hm : smpsN c.series + wndsN c.series ≤ 1048576) (hk : labsN c.series ≤ 349525) : (Kbc c).mt.length ≤ 200000000 ∧ (Kbc c).ck.length ≤ 200000000 ∧ (Kbc c).ix.length ≤ 200000000 := Kwl h hn hm hk
theorem Kha : (Kbc wakeC).mt.length ≤ 200000000 ∧ (Kbc wakeC).ck.length ≤ 200000000 ∧ (Kbc wakeC).ix.length ≤ 200000000 := Kkf Kgj (by decide) (by decide) (by decide)
theorem Qaz {c : Cont} (hf : fitB c = true) (hb : Kdn c) (hn : c.series.length ≤ 1099511627776) (q : Lb) : Kht (Kbc c).ix q = some (Kaj (Kad c) q) := by
 unfold Kht; rw [show (Kbc c).ix = sealT (Kbd c) from rfl, Klq]; have hs := Khc hf; have h1 := Kni hs; have hl : (Kad c).length = c.series.length := by simp [Kad]
 exact Kyi hf hb (fun x hx => by have := Kgq hs x hx; omega) (by omega) q
theorem Qbq {w : World} {q : Nat} (h0 : Blk w q 99 #[.string ⟨#[97]⟩, .string ⟨#[120]⟩]) (h1 : Blk w (q + 1) 102 #[.int .i64 3, .int .u64 4, .int .i64 9, .int .u64 1]) (h2 : Blk w (q + 2) 58 #[.slice (some ⟨q, 0, none⟩) 1 1, .slice (some ⟨q + 1, 0, none⟩) 2 2, .slice none 0 0]) :
  Kbu w (some ⟨q + 2, 0, none⟩) 1 wakeC.series := by
 refine ⟨⟨[⟨⟨some ⟨q, 0, none⟩, 1, 1⟩, ⟨some ⟨q + 1, 0, none⟩, 2, 2⟩, ⟨none, 0, 0⟩⟩], ⟨rfl, fun _ => ⟨q + 2, 0, rfl, h2.lt, fun i x hx j v hv => ?_⟩⟩, rfl, fun i h hi => ?_⟩, by decide, fun s hs => ?_⟩
 ·match i, hx with
  | 0, hx =>
   injection hx with hx; subst hx
   match j, hv with
   | 0, hv => injection hv with hv; subst hv; exact h2.cell 0
   | 1, hv => injection hv with hv; subst hv; exact h2.cell 1
   | 2, hv => injection hv with hv; subst hv; exact h2.cell 2
 ·match i, hi with
  | 0, hi =>
   injection hi with hi; subst hi; refine ⟨⟨rfl, fun _ => ⟨q, 0, rfl, h0.lt, fun i x hx j v hv => ?_⟩⟩, Nat.le_refl _, ⟨rfl, fun _ => ⟨q + 1, 0, rfl, h1.lt, fun i x hx j v hv => ?_⟩⟩, Nat.le_refl _, Elems.nil_, Nat.le_refl _⟩
   ·match i, hx with
    | 0, hx =>
     injection hx with hx; subst hx
     match j, hv with
     | 0, hv => injection hv with hv; subst hv; exact h0.cell 0
     | 1, hv => injection hv with hv; subst hv; exact h0.cell 1
   ·match i, hx with
    | 0, hx =>
     injection hx with hx; subst hx
     match j, hv with
     | 0, hv => injection hv with hv; subst hv; exact h1.cell 0
     | 1, hv => injection hv with hv; subst hv; exact h1.cell 1
    | 1, hx =>
     injection hx with hx; subst hx
     match j, hv with
     | 0, hv => injection hv with hv; subst hv; exact h1.cell 2
     | 1, hv => injection hv with hv; subst hv; exact h1.cell 3
 ·rw [List.mem_singleton.1 hs]; refine ⟨by decide, by decide, by decide, fun x hx => ?_, fun x hx => ?_, fun x hx => ?_⟩
  ·rcases List.mem_cons.1 hx with rfl | hx
   ·decide
   ·rw [List.mem_singleton.1 hx]; decide
  ·cases hx
  ·rw [List.mem_singleton.1 hx]; decide
theorem Kql (c : Cont) (hd : Hd) (w : World) (hS : Kbu w hd.A hd.n c.series) (hE : BEnv w) (hsz : fitB c = true → (Kch c).length ≤ 35184372088832 ∧ (Kbd c).length ≤ 35184372088832) :
  Calls Tryz.prog 19 #[contV c.res c.frm c.to_ hd] w fun e w' => e = .returned (.tuple #[filV (Kby c), .int .i64 (if fitB c = true then 0 else 190)]) ∧ Below w.heap.size w w' :=
 Klf c hd w hS.s hS.z (by have h1 : c.series.length = hd.n := hS.s.len; have := hS.n; omega) hE.d hE.n hsz
theorem Kuu {c : Cont} (hf : fitB c = true) (hb : Kdn c) {S0 S1 S2 : ByteArray} (hfil : filOf S0 S1 S2 = Kbc c) (h0 : bSz S0) (h1 : bSz S1) (h2 : bSz S2) (w : World) (hE : BEnv w) :
  Calls Tryz.prog 29 #[.agg #[.string S0, .string S1, .string S2]] w fun e w' => (∃ A n k, e = .returned (.tuple #[.agg #[.int .i64 c.res, .int .i64 c.frm, .int .i64 c.to_, .slice A n k], .int .i64 0]) ∧ Kbu w' A n c.series) ∧ Below w.heap.size w w' := by
 have := Klc S0 S1 S2 w h0 h1 h2 hE.n hE.d; rw [hfil, Kip hf hb] at this; refine this.mono ?_; rintro e w' ⟨⟨⟨A, n, k⟩, rfl, hs, _⟩, hb⟩; exact ⟨⟨A, n, k, rfl, hs⟩, hb⟩
theorem Kvr (w : World) (hE : BEnv w) :
  Calls Tryz.prog 29 #[.agg #[.string ⟨#[]⟩, .string ⟨#[]⟩, .string ⟨#[]⟩]] w fun e w' => e = .returned (.tuple #[.agg #[.int .i64 0, .int .i64 0, .int .i64 0, .slice none 0 0], .int .i64 20]) ∧ Below w.heap.size w w' := by
 have := Klc ⟨#[]⟩ ⟨#[]⟩ ⟨#[]⟩ w (by unfold bSz; decide) (by unfold bSz; decide) (by unfold bSz; decide) hE.n hE.d; rw [show Keq (filOf ⟨#[]⟩ ⟨#[]⟩ ⟨#[]⟩) = none from Qfe, show Kbp [(⟨#[]⟩ : ByteArray).data.toList, (⟨#[]⟩ : ByteArray).data.toList, (⟨#[]⟩ : ByteArray).data.toList] = 20 from Kzz] at this; exact this
theorem Kfz (w : World) (hE : BEnv w) : Calls Tryz.prog 26 #[] w fun e w' => e = .returned (.bool true) ∧ Below w.heap.size w w' := by
 have HE := Jh hE; clear hE; go_enter Tryz.func26, Tryz.ntmps26
 go_upto_region 2 with fail
 have hb1 : Below w.heap.size w ((((w.alloc (.cells #[.string ⟨#[97]⟩, .string ⟨#[120]⟩] 99)).alloc (.cells #[.int .i64 3, .int .u64 4, .int .i64 9, .int .u64 1] 102)).alloc (.cells #[.slice (some ⟨w.heap.size, 0, none⟩) 1 1, .slice (some ⟨w.heap.size + 1, 0, none⟩) 2 2, .slice none 0 0] 58)).alloc (.cells #[.int .i64 0, .int .i64 0, .int .i64 10, .slice (some ⟨w.heap.size + 1 + 1, 0, none⟩) 1 1] 28)) := ((((Below.refl _ _).alloc (Nat.le_refl _) _).alloc (by simp) _).alloc (by simp; omega) _).alloc (by simp; omega) _; have k0 : Blk ((((w.alloc (.cells #[.string ⟨#[97]⟩, .string ⟨#[120]⟩] 99)).alloc (.cells #[.int .i64 3, .int .u64 4, .int .i64 9, .int .u64 1] 102)).alloc (.cells #[.slice (some ⟨w.heap.size, 0, none⟩) 1 1, .slice (some ⟨w.heap.size + 1, 0, none⟩) 2 2, .slice none 0 0] 58)).alloc (.cells #[.int .i64 0, .int .i64 0, .int .i64 10, .slice (some ⟨w.heap.size + 1 + 1, 0, none⟩) 1 1] 28)) w.heap.size 99 #[.string ⟨#[97]⟩, .string ⟨#[120]⟩] := (((Blk.new _ _ _).alloc _).alloc _).alloc _; have k1 : Blk ((((w.alloc (.cells #[.string ⟨#[97]⟩, .string ⟨#[120]⟩] 99)).alloc (.cells #[.int .i64 3, .int .u64 4, .int .i64 9, .int .u64 1] 102)).alloc (.cells #[.slice (some ⟨w.heap.size, 0, none⟩) 1 1, .slice (some ⟨w.heap.size + 1, 0, none⟩) 2 2, .slice none 0 0] 58)).alloc (.cells #[.int .i64 0, .int .i64 0, .int .i64 10, .slice (some ⟨w.heap.size + 1 + 1, 0, none⟩) 1 1] 28)) (w.heap.size + 1) 102 #[.int .i64 3, .int .u64 4, .int .i64 9, .int .u64 1] := ((Blk.newAt (by simp)).alloc _).alloc _; have k2 : Blk ((((w.alloc (.cells #[.string ⟨#[97]⟩, .string ⟨#[120]⟩] 99)).alloc (.cells #[.int .i64 3, .int .u64 4, .int .i64 9, .int .u64 1] 102)).alloc (.cells #[.slice (some ⟨w.heap.size, 0, none⟩) 1 1, .slice (some ⟨w.heap.size + 1, 0, none⟩) 2 2, .slice none 0 0] 58)).alloc (.cells #[.int .i64 0, .int .i64 0, .int .i64 10, .slice (some ⟨w.heap.size + 1 + 1, 0, none⟩) 1 1] 28)) (w.heap.size + 1 + 1) 58 #[.slice (some ⟨w.heap.size, 0, none⟩) 1 1, .slice (some ⟨w.heap.size + 1, 0, none⟩) 2 2, .slice none 0 0] := (Blk.newAt (by simp)).alloc _; have k3 : Blk ((((w.alloc (.cells #[.string ⟨#[97]⟩, .string ⟨#[120]⟩] 99)).alloc (.cells #[.int .i64 3, .int .u64 4, .int .i64 9, .int .u64 1] 102)).alloc (.cells #[.slice (some ⟨w.heap.size, 0, none⟩) 1 1, .slice (some ⟨w.heap.size + 1, 0, none⟩) 2 2, .slice none 0 0] 58)).alloc (.cells #[.int .i64 0, .int .i64 0, .int .i64 10, .slice (some ⟨w.heap.size + 1 + 1, 0, none⟩) 1 1] 28)) (w.heap.size + 1 + 1 + 1) 28 #[.int .i64 0, .int .i64 0, .int .i64 10, .slice (some ⟨w.heap.size + 1 + 1, 0, none⟩) 1 1] := Blk.newAt (by simp); obtain ⟨w1, hw1⟩ : ∃ w1, (((w.alloc (.cells #[.string ⟨#[97]⟩, .string ⟨#[120]⟩] 99)).alloc (.cells #[.int .i64 3, .int .u64 4, .int .i64 9, .int .u64 1] 102)).alloc (.cells #[.slice (some ⟨w.heap.size, 0, none⟩) 1 1, .slice (some ⟨w.heap.size + 1, 0, none⟩) 2 2, .slice none 0 0] 58)).alloc (.cells #[.int .i64 0, .int .i64 0, .int .i64 10, .slice (some ⟨w.heap.size + 1 + 1, 0, none⟩) 1 1] 28) = w1 := ⟨_, rfl⟩; rw [hw1] at hb1 k0 k1 k2 k3
 try rw [hw1]
 obtain ⟨q, hq⟩ : ∃ q, w.heap.size = q := ⟨_, rfl⟩; rw [hq] at k0 k1 k2 k3 ⊢; have hb1q : Below q w w1 := by rw [← hq]; exact hb1
 have HQ := Jh hq; have HSO := Jh (Qbq k0 k1 k2); have HK3 := Jh k3; have HB1 := Jh hb1q; have HE1 := Jh (HE.out.below hb1); have x0 := k3.cell 0; have x1 := k3.cell 1; have x2 := k3.cell 2; have x3 := k3.cell 3; simp at x0 x1 x2 x3; have hbl := Kql wakeC ⟨some ⟨q + 2, 0, none⟩, 1, 1⟩ w1 HSO.out HE1.out (fun _ => by have h1 := Kha; have h2 : ∀ l : List UInt8, (sealT l).length = l.length + 4 := (fun l => by unfold sealT; rw [List.length_append]; rfl); have h3 := h2 (Kch wakeC); have h4 := h2 (Kbd wakeC); have h5 : (Kbc wakeC).ck = sealT (Kch wakeC) := rfl; have h6 : (Kbc wakeC).ix = sealT (Kbd wakeC) := rfl; rw [h5, h6] at h1; omega); unfold Kby at hbl; rw [if_pos Kgj, if_pos Kgj] at hbl; obtain ⟨S0, hS0⟩ : ∃ S : ByteArray, (⟨(Kbc wakeC).mt.toArray⟩ : ByteArray) = S := ⟨_, rfl⟩; obtain ⟨S1, hS1⟩ : ∃ S : ByteArray, (⟨(Kbc wakeC).ck.toArray⟩ : ByteArray) = S := ⟨_, rfl⟩; obtain ⟨S2, hS2⟩ : ∃ S : ByteArray, (⟨(Kbc wakeC).ix.toArray⟩ : ByteArray) = S := ⟨_, rfl⟩; unfold filV txtV at hbl; rw [hS0, hS1, hS2] at hbl; have hbl2 : Calls Tryz.prog 19 #[.agg #[.int .i64 0, .int .i64 0, .int .i64 10, .slice (some ⟨q + 1 + 1, 0, none⟩) 1 1]] w1 fun e w' => e = .returned (.tuple #[.agg #[.string S0, .string S1, .string S2], .int .i64 0]) ∧ Below w1.heap.size w1 w' := hbl
 have HBL := Jh hbl2; have e0 : S0.data.toList = (Kbc wakeC).mt := by rw [← hS0]
 have e1 : S1.data.toList = (Kbc wakeC).ck := by rw [← hS1]
 have e2 : S2.data.toList = (Kbc wakeC).ix := by rw [← hS2]
 have hfil : filOf S0 S1 S2 = Kbc wakeC := by unfold filOf; rw [e0, e1, e2]
 have HZ0 : Hid (bSz S0) := Jh (by have h := Kha.1; rw [← e0] at h; have h1 : S0.data.toList.length = S0.size := rfl; unfold bSz; omega); have HZ1 : Hid (bSz S1) := Jh (by have h := Kha.2.1; rw [← e1] at h; have h1 : S1.data.toList.length = S1.size := rfl; unfold bSz; omega); have HZ2 : Hid (bSz S2) := Jh (by have h := Kha.2.2; rw [← e2] at h; have h1 : S2.data.toList.length = S2.size := rfl; unfold bSz; omega); have HFI := Jh hfil; have HE2 := Jh e2; clear hbl hbl2 hS0 hS1 hS2 e0 e1 e2 hfil hw1 hb1 hb1q hq k0 k1 k2 k3; go_wp2_with fail
 refine HBL.out.mono ?_; rintro _ w2 ⟨rfl, hb2⟩; go_upto_region 3 with fail
 have HK3b := Jh (HK3.out.below hb2 HK3.out.lt); have HSOb := Jh (HSO.out.below hb2); have HB2 := Jh (HB1.out.trans (hb2.mono (by have := HB1.out.size; have := HQ.out; omega))); have HEb := Jh (HE1.out.below hb2); clear x0 x1 x2 x3 hb2; obtain ⟨p2, hp2⟩ : ∃ p, w2.heap.size = p := ⟨_, rfl⟩; have hb3 : Below w2.heap.size w2 (w2.alloc (.cells #[.string S0, .string S1, .string S2] 44)) := (Below.refl _ _).alloc (Nat.le_refl _) _; have kf : Blk (w2.alloc (.cells #[.string S0, .string S1, .string S2] 44)) p2 44 #[.string S0, .string S1, .string S2] := by rw [← hp2]; exact Blk.new _ _ _
 obtain ⟨w3, hw3⟩ : ∃ w3, w2.alloc (.cells #[.string S0, .string S1, .string S2] 44) = w3 := ⟨_, rfl⟩; rw [hw3] at hb3 kf; rw [hw3, hp2]; have HK3c := Jh (HK3b.out.below hb3 HK3b.out.lt); have HSOc := Jh (HSOb.out.below hb3); have HB3 := Jh (HB2.out.trans (hb3.mono (by have := HB2.out.size; have := HQ.out; omega))); have HEc := Jh (HEb.out.below hb3); have HKF := Jh kf; have f0 := kf.cell 0; have f1 := kf.cell 1; have f2 := kf.cell 2; simp at f0 f1 f2; have hpa := Kuu Kgj Ksh HFI.out HZ0.out HZ1.out HZ2.out w3 HEc.out; have hpa2 : Calls Tryz.prog 29 #[.agg #[.string S0, .string S1, .string S2]] w3 fun e w' => (∃ A n k, e = .returned (.tuple #[.agg #[.int .i64 0, .int .i64 0, .int .i64 10, .slice A n k], .int .i64 0]) ∧ Kbu w' A n wakeC.series) ∧ Below w3.heap.size w3 w' := hpa
 have HPA := Jh hpa2; clear hpa hpa2 hb3 hw3 hp2 kf; go_wp2_with fail
 refine HPA.out.mono ?_; rintro _ w4 ⟨⟨A4, n4, k4, rfl, hs4⟩, hb4⟩; go_upto_region 4 with fail
 have HK3d := Jh (HK3c.out.below hb4 HK3c.out.lt); have HSOd := Jh (HSOc.out.below hb4); have HB4 := Jh (HB3.out.trans (hb4.mono (by have := HB3.out.size; have := HQ.out; omega))); have HEd := Jh (HEc.out.below hb4); have HKFd := Jh (HKF.out.below hb4 HKF.out.lt); have HS4 := Jh hs4; clear f0 f1 f2 hb4 hs4; obtain ⟨p4, hp4⟩ : ∃ p, w4.heap.size = p := ⟨_, rfl⟩; have hb5 : Below w4.heap.size w4 (w4.alloc (.cells #[.int .i64 0, .int .i64 0, .int .i64 10, .slice A4 n4 k4] 28)) := (Below.refl _ _).alloc (Nat.le_refl _) _; have kc : Blk (w4.alloc (.cells #[.int .i64 0, .int .i64 0, .int .i64 10, .slice A4 n4 k4] 28)) p4 28 #[.int .i64 0, .int .i64 0, .int .i64 10, .slice A4 n4 k4] := by rw [← hp4]; exact Blk.new _ _ _
 obtain ⟨w5, hw5⟩ : ∃ w5, w4.alloc (.cells #[.int .i64 0, .int .i64 0, .int .i64 10, .slice A4 n4 k4] 28) = w5 := ⟨_, rfl⟩; rw [hw5] at hb5 kc; rw [hw5, hp4]; have HK3e := Jh (HK3d.out.below hb5 HK3d.out.lt); have HSOe := Jh (HSOd.out.below hb5); have HB5 := Jh (HB4.out.trans (hb5.mono (by have := HB4.out.size; have := HQ.out; omega))); have HEe := Jh (HEd.out.below hb5); have hkfe := HKFd.out.below hb5 HKFd.out.lt; have HS5 := Jh (HS4.out.below hb5); have HKC := Jh kc; have f2 := hkfe.cell 2; simp at f2; have hpo := Kuz S2 ⟨#[97]⟩ ⟨#[120]⟩ w5 HZ2.out HEe.out.n; rw [HE2.out, Qaz Kgj Ksh (by decide) _, show Kaj (Kad wakeC) ⟨(⟨#[97]⟩ : ByteArray).data.toList, (⟨#[120]⟩ : ByteArray).data.toList⟩ = [0] from Qbb] at hpo; have HPO := Jh hpo; clear hpo hb5 hw5 hp4 kc hkfe; go_wp2_with fail
 refine HPO.out.mono ?_; rintro _ w6 ⟨⟨A6, k6, rfl, hE6⟩, hb6⟩; go_upto_region 5 with fail
 have HK3f := Jh (HK3e.out.below hb6 HK3e.out.lt); have HSOf := Jh (HSOe.out.below hb6); have HB6 := Jh (HB5.out.trans (hb6.mono (by have := HB5.out.size; have := HQ.out; omega))); have HEf := Jh (HEe.out.below hb6); have HS6 := Jh (HS5.out.below hb6); have HKCf := Jh (HKC.out.below hb6 HKC.out.lt); have HE6 := Jh hE6; have HPE := Jh (Kvr w6 HEf.out); clear f2 hb6 hE6; go_wp2_with fail
 refine HPE.out.mono ?_; rintro _ w7 ⟨rfl, hb7⟩; go_upto_region 6 with fail
 have HK3g := Jh (HK3f.out.below hb7 HK3f.out.lt); have HSOg := Jh (HSOf.out.below hb7); have HB7 := Jh (HB6.out.trans (hb7.mono (by have := HB6.out.size; have := HQ.out; omega))); have HS7 := Jh (HS6.out.below hb7); have HKCg := Jh (HKCf.out.below hb7 HKCf.out.lt); have HE7 := Jh ((HE6.out.below hb7).more hb7.size); clear hb7; have hb8 : Below w7.heap.size w7 (w7.alloc (.cells #[.int .i64 0, .int .i64 0, .int .i64 0, .slice none 0 0] 28)) := (Below.refl _ _).alloc (Nat.le_refl _) _; obtain ⟨w8, hw8⟩ : ∃ w8, w7.alloc (.cells #[.int .i64 0, .int .i64 0, .int .i64 0, .slice none 0 0] 28) = w8 := ⟨_, rfl⟩; rw [hw8] at hb8; rw [hw8]; have hk3 := HK3g.out.below hb8 HK3g.out.lt; have hkc := HKCg.out.below hb8 HKCg.out.lt; have hso := HSOg.out.below hb8; have hs8 := HS7.out.below hb8; have HB8 := Jh (HB7.out.trans (hb8.mono (by have := HB7.out.size; have := HQ.out; omega))); have he8 := (HE7.out.below hb8).more hb8.size; obtain ⟨b6, o6, rfl, hl6, hg6⟩ := he8.get (i := 0) (by simp); have HG6 := Jh (show w8.cell? ⟨b6, o6 + 0 * 1 + 0, none⟩ = some (.int .i64 0) from hg6 0 _ rfl); have x0 := hk3.cell 0; have x1 := hk3.cell 1; have x2 := hk3.cell 2; have x3 := hk3.cell 3; have y0 := hkc.cell 0; have y1 := hkc.cell 1; have y2 := hkc.cell 2; have y3 := hkc.cell 3; simp at x0 x1 x2 x3 y0 y1 y2 y3; have hal := Kjb wakeC wakeC ⟨some ⟨q + 2, 0, none⟩, 1, 1⟩ ⟨A4, n4, k4⟩ w8 hso hs8; rw [show decide (wakeC = wakeC) = true by simp] at hal; have hal2 : Calls Tryz.prog 30 #[.agg #[.int .i64 0, .int .i64 0, .int .i64 10, .slice (some ⟨q + 1 + 1, 0, none⟩) 1 1], .agg #[.int .i64 0, .int .i64 0, .int .i64 10, .slice A4 n4 k4]] w8 fun e w' => e = .returned (.bool true) ∧ Below w8.heap.size w8 w' := hal
 have HAL := Jh hal2; have HL6 := Jh hl6; clear hal hal2 hb8 hw8 hk3 hkc hso hs8 he8 hg6 hl6; go_wp2_with fail
 refine HAL.out.mono ?_; rintro _ w9 ⟨rfl, hb9⟩; have g0 : w9.cell? ⟨b6, o6, none⟩ = some (.int .i64 0) := (hb9.cell HL6.out).trans HG6.out; have HB9 := Jh (HB8.out.trans (hb9.mono (by have := HB8.out.size; have := HQ.out; omega))); clear hb9 x0 x1 x2 x3 y0 y1 y2 y3; go_wp2_with fail
 go_ret
 exact ⟨rfl, by rw [HQ.out]; exact HB9.out⟩
end
section
open Go.ChangeShapes Go.WideShapes Go.ChangeAt Go.RowKit
theorem Tryz.own : ownKnob Tryz.prog.godebug = none := by kernel_rfl
theorem Tryz.laidOut : laidOutB Tryz.prog = true := by kernel_rfl
end
section
open Go.ChangeShapes Go.WideShapes Go.ChangeAt Go.RowKit Go.Deep
section
variable {H : Type} {enc : TypeId × Value → H} {P : Program} {w : World} {base : Nat} {spare : Nat → Bool} {held : Bool}
theorem Kgw {α : Type} [Inhabited α] {t e : TypeId} {sz : Nat} {ea : α → List Value} {Q : DataW H → α → Prop} (ht : P.underlying t = some (.slice e)) (hc : P.cellsOf e = sz) (h0 : 0 < sz) (hz : ∀ y, (ea y).length = sz)
  (ho : ∀ (fuel : Nat) (l : List Value) (x : DataW H × List MemPlace), DataW.trod enc P w base spare held fuel e l = some x → ∃ y, l = ea y ∧ Q x.1 y)
  {fuel : Nat} {v : Value} {x : DataW H × List MemPlace} (h : DataW.trod enc P w base spare held fuel t [v] = some x) :
  ∃ A n c ys, v = .slice A n c ∧ (A = none → c = 0) ∧ n ≤ c ∧ Elems w w.heap.size sz ea A n ys ∧ ∃ ds sp, (x.1 = .slice ds sp ∨ (x.1 = .nil ∧ ds = [])) ∧ ds.length = ys.length ∧ ∀ (i : Nat) d y, ds[i]? = some d → ys[i]? = some y → Q d y := by
 rcases open_slice ht h with ⟨hcs, hx⟩ | ⟨a, len, cap, m, n, D, Pl, hcs, _, hl, _, hmm, hx, hi⟩
 ·simp at hcs; subst hcs; exact ⟨none, 0, 0, [], rfl, fun _ => rfl, Nat.le_refl _, Elems.nil_, [], [], .inr ⟨by rw [hx], rfl⟩, rfl, fun i d y hd => by simp at hd⟩
 ·simp at hcs; subst hcs; rw [hc] at hi; have hlm : len ≤ m := by rw [hmm]; split <;> omega
  obtain ⟨f, hf⟩ := choose_lt (α := α) (n := len) (p := fun i y => (∀ j u, (ea y)[j]? = some u → w.cell? (a.add (i * sz + j)) = some u) ∧ Q (D i) y) (by
   intro i hlt; obtain ⟨cs', hc', ht'⟩ := hi i (by omega); obtain ⟨y, rfl, hq⟩ := ho _ _ _ ht'; obtain ⟨_, hcl, hat⟩ := World.cells?_some hc'; refine ⟨y, fun j u hu => ?_, hq⟩; have hj : j < sz := by have := (List.getElem?_eq_some_iff.1 hu).1; rw [hz] at this; exact this
   have := hat j hj; rw [Go.Deep.add_add] at this
   rw [this, hu])
  refine ⟨some a, len, cap, (List.range len).map f, rfl, (fun h => by cases h), hl, ⟨by simp, fun h0' => ?_⟩, (List.range len).map D, _, .inl (by rw [hx]), by simp, fun i d y hd hy => ?_⟩
  ·obtain ⟨b, off, spot⟩ := a; have hp : 0 < (ea (f 0)).length := by rw [hz]; exact h0
   have h00 := (hf 0 h0').1 0 _ (List.getElem?_eq_getElem hp); have hspot : spot = none := by simpa [Addr.add] using World.cell?_spot h00
   subst hspot; refine ⟨b, off, rfl, by simpa [Addr.add] using Kek h00, fun i x hx j u hu => ?_⟩; have hil : i < len := by have := (List.getElem?_eq_some_iff.1 hx).1; simpa using this
   have hxe : f i = x := by simpa [hil] using hx
   subst hxe; have := (hf i hil).1 j u hu; rw [add_plain] at this; rw [← this, Nat.add_assoc]
  ·have hil : i < len := by have := (List.getElem?_eq_some_iff.1 hd).1; simpa using this
   have h1 : D i = d := by simpa [hil] using hd
   have h2 : f i = y := by simpa [hil] using hy
   rw [← h1, ← h2]; exact (hf i hil).2
end
theorem Ktw {H : Type} (d : DataW H) : 1 ≤ Rows.uptoBulk d := by
 cases d with
 | lit l => cases l <;> simp [Rows.uptoBulk]
 | nil => simp [Rows.uptoBulk]
 | ptr d => simp [Rows.uptoBulk]
 | slice elems spare => simp [Rows.uptoBulk]
 | agg parts => simp [Rows.uptoBulk]
 | iface t d => simp [Rows.uptoBulk]
 | map entries => simp [Rows.uptoBulk]
 | held h => simp [Rows.uptoBulk]
theorem Kxq {H : Type} (l sp : List (DataW H)) : Rows.uptoBulkAll l + 1 ≤ Rows.uptoBulk (.slice l sp) := by simp only [Rows.uptoBulk]; omega
theorem Qde {H : Type} {l : List (DataW H)} (hk : Rows.uptoSmall H l = true) : Rows.uptoBulkAll l ≤ 1048576 := of_decide_eq_true hk
theorem Ksv {H α : Type} (mu : α → Nat) : ∀ (ds : List (DataW H)) (ys : List α), ds.length = ys.length → (∀ (i : Nat) d y, ds[i]? = some d → ys[i]? = some y → mu y ≤ Rows.uptoBulk d) → (ys.map mu).sum ≤ Rows.uptoBulkAll ds
 | [], [], _, _ => by simp
 | d :: ds, y :: ys, hl, h => by
  have h1 := h 0 d y rfl rfl; have h2 := Ksv mu ds ys (by simpa using hl) (fun i d' y' hd hy => h (i + 1) d' y' (by simpa using hd) (by simpa using hy)); simp only [List.map_cons, List.sum_cons, Rows.uptoBulkAll]; omega
 | [], _ :: _, hl, _ => by simp at hl
 | _ :: _, [], hl, _ => by simp at hl
theorem Kif {H α : Type} (mu : α → Nat) {d : DataW H} {ds sp : List (DataW H)} {ys : List α} (hd : d = .slice ds sp ∨ (d = .nil ∧ ds = [])) (hl : ds.length = ys.length) (h : ∀ (i : Nat) d y, ds[i]? = some d → ys[i]? = some y → mu y ≤ Rows.uptoBulk d) : (ys.map mu).sum + 1 ≤ Rows.uptoBulk d := by
 have := Ksv mu ds ys hl h; rcases hd with rfl | ⟨rfl, rfl⟩
 ·have := Kxq ds sp; omega
 ·obtain rfl : ys = [] := List.eq_nil_of_length_eq_zero (by simpa using hl.symm); simp [Rows.uptoBulk]
section
variable {H : Type} {enc : TypeId × Value → H} {w : World} {base : Nat} {spare : Nat → Bool} {held : Bool}
theorem Kth : Tryz.prog.cellsOf 9 = 1 := by kernel_rfl
def litT (s : Txt) : DataW H := .lit (.string s)
theorem Kti {fuel : Nat} {l : List Value} {x : DataW H × List MemPlace} (h : DataW.trod enc Tryz.prog w base spare held fuel 9 l = some x) : ∃ s : Txt, l = [txtV s] ∧ x.1 = litT s := by
 obtain ⟨s, rfl, rfl, _⟩ := DataW.trod_string Tryz.underlying9 h; exact ⟨s.data.toList, rfl, rfl⟩
end
section
variable {H : Type} {enc : TypeId × Value → H} {w : World} {base : Nat} {spare : Nat → Bool} {held : Bool}
theorem Krd : Tryz.prog.cellsOf 99 = 2 := by kernel_rfl
theorem Qei {fuel : Nat} {l : List Value} {x : DataW H × List MemPlace} (h : DataW.trod enc Tryz.prog w base spare held fuel 99 l = some x) : ∃ y : Lb, l = encLb y ∧ x.1 = .agg [litT y.n, litT y.v] := by
 obtain ⟨xs, n, _, hx, hcl, hlen, hg⟩ := DataW.trod_struct Tryz.underlying99 h; rw [Krd] at hcl
 match l, hcl, xs, hlen with
 | [c0, c1], _, [x0, x1], _ =>
  have g0 := hg 0 _ rfl; have g1 := hg 1 _ rfl; simp [Kth] at g0 g1; obtain ⟨a, e0, f0⟩ := Kti g0; obtain ⟨b, e1, f1⟩ := Kti g1; simp at e0 e1; subst e0 e1; refine ⟨⟨a, b⟩, rfl, ?_⟩; rw [hx]; simp [f0, f1]
end
section
variable {H : Type} {enc : TypeId × Value → H} {w : World} {base : Nat} {spare : Nat → Bool} {held : Bool}
def Lb.mass (x : Lb) : Nat := x.n.length + x.v.length + 3
def massL (l : List Lb) : Nat := (l.map Lb.mass).sum + 1
theorem Kqb : ∀ l : List Lb, 2 * l.length + 1 ≤ massL l
 | [] => by simp [massL]
 | x :: l => by have := Kqb l; simp only [massL, List.map_cons, List.sum_cons, List.length_cons, Lb.mass] at *; omega
theorem Qah {l : List Lb} {x : Lb} (h : x ∈ l) : x.n.length ≤ massL l ∧ x.v.length ≤ massL l := by
 induction l with
 | nil => cases h
 | cons y l ih =>
  simp only [massL, List.map_cons, List.sum_cons, Lb.mass] at *; rcases List.mem_cons.1 h with rfl | h
  ·omega
  ·have := ih h; omega
theorem Kyd : Tryz.prog.cellsOf 54 = 1 := by kernel_rfl
theorem Kta {fuel : Nat} {v : Value} {x : DataW H × List MemPlace} (h : DataW.trod enc Tryz.prog w base spare held fuel 54 [v] = some x) :
  ∃ A n c l, v = .slice A n c ∧ n ≤ c ∧ Elems w w.heap.size 2 encLb A n l ∧ massL l ≤ Rows.uptoBulk x.1 := by
 obtain ⟨A, n, c, l, rfl, _, h2, h3, ds, sp, hx, hl, hQ⟩ := Kgw (ea := encLb) (Q := fun d s => d = .agg [litT s.n, litT s.v]) Tryz.underlying54 Krd (by omega) (fun _ => rfl) (fun _ _ _ h => Qei h) h; refine ⟨A, n, c, l, rfl, h2, h3, Kif Lb.mass hx hl fun i d y hd hy => ?_⟩; rw [hQ i d y hd hy]; simp [Rows.uptoBulk, Rows.uptoBulkAll, litT, Lb.mass]; omega
theorem Kws {α : Type} (f : α → Nat) : ∀ {l : List α} {x : α}, x ∈ l → f x ≤ (l.map f).sum
 | y :: l, x, h => by
  simp only [List.map_cons, List.sum_cons]; rcases List.mem_cons.1 h with rfl | h
  ·omega
  ·have := Kws f h; omega
end
theorem Kio : Tryz.prog.cellsOf 2 = 1 := by kernel_rfl
theorem Kor : Tryz.prog.cellsOf 100 = 1 := by kernel_rfl
theorem Koo : Tryz.prog.cellsOf 3 = 1 := by kernel_rfl
theorem Kqt : Tryz.prog.cellsOf 102 = 2 := by kernel_rfl
theorem Kpz : Tryz.prog.cellsOf 135 = 6 := by kernel_rfl
theorem Kyr : Tryz.prog.cellsOf 55 = 1 := by kernel_rfl
theorem Kzd : Tryz.prog.cellsOf 56 = 1 := by kernel_rfl
theorem Kpn : Tryz.prog.cellsOf 58 = 3 := by kernel_rfl
theorem Kyh : Tryz.prog.cellsOf 26 = 1 := by kernel_rfl
theorem Kxp : Tryz.prog.cellsOf 28 = 4 := by kernel_rfl
def i64B (v : Int) : Prop := -9223372036854775808 ≤ v ∧ v ≤ 9223372036854775807
theorem Kou {n : Int} (h : (Lit.int .i64 n).wf = true) : i64B n := by
 have h1 : IntKind.i64.min = -9223372036854775808 := rfl; have h2 : IntKind.i64.max = 9223372036854775807 := rfl; simp only [Lit.wf, Bool.and_eq_true, decide_eq_true_eq] at h; unfold i64B; omega
theorem Kjt {z : Int} (h : (Lit.int .u64 z).wf = true) : ∃ n : Nat, z = (n : Int) ∧ n < 2 ^ 64 := by
 have h1 : IntKind.u64.min = 0 := rfl; have h2 : IntKind.u64.max = 18446744073709551615 := rfl; simp only [Lit.wf, Bool.and_eq_true, decide_eq_true_eq] at h; exact ⟨z.toNat, by omega, by omega⟩
section
variable {H : Type} {enc : TypeId × Value → H} {w : World} {base : Nat} {spare : Nat → Bool} {held : Bool}
theorem Qen {fuel : Nat} {l : List Value} {x : DataW H × List MemPlace} (h : DataW.trod enc Tryz.prog w base spare held fuel 102 l = some x) : ∃ y : Smp, l = Kbf y ∧ (y.v < 2 ^ 64 ∧ 1 ≤ Rows.uptoBulk x.1) := by
 obtain ⟨xs, n, _, hx, hcl, hlen, hg⟩ := DataW.trod_struct Tryz.underlying102 h; rw [Kqt] at hcl
 match l, hcl, xs, hlen with
 | [c0, c1], _, [x0, x1], _ =>
  have g0 := hg 0 _ rfl; have g1 := hg 1 _ rfl; simp [Kio, Kor] at g0 g1; obtain ⟨a, e0, _, _⟩ := DataW.trod_int Tryz.underlying2 g0; obtain ⟨b, e1, _, wb⟩ := DataW.trod_int Tryz.underlying100 g1; simp at e0 e1; subst e0 e1; obtain ⟨v, rfl, hv⟩ := Kjt wb; exact ⟨⟨a, v⟩, rfl, hv, Ktw _⟩
theorem Qcw {fuel : Nat} {l : List Value} {x : DataW H × List MemPlace} (h : DataW.trod enc Tryz.prog w base spare held fuel 135 l = some x) : ∃ y : Wnd, l = Kaw y ∧ (Kay y ∧ 1 ≤ Rows.uptoBulk x.1) := by
 obtain ⟨xs, n, _, hx, hcl, hlen, hg⟩ := DataW.trod_struct Tryz.underlying135 h; rw [Kpz] at hcl
 match l, hcl, xs, hlen with
 | [c0, c1, c2, c3, c4, c5], _, [x0, x1, x2, x3, x4, x5], _ =>
  have g0 := hg 0 _ rfl; have g1 := hg 1 _ rfl; have g2 := hg 2 _ rfl; have g3 := hg 3 _ rfl; have g4 := hg 4 _ rfl; have g5 := hg 5 _ rfl; simp [Kio, Kor, Koo] at g0 g1 g2 g3 g4 g5; obtain ⟨a, e0, _, _⟩ := DataW.trod_int Tryz.underlying2 g0; obtain ⟨b, e1, _, _⟩ := DataW.trod_int Tryz.underlying3 g1; obtain ⟨c, e2, _, wc⟩ := DataW.trod_int Tryz.underlying100 g2; obtain ⟨d, e3, _, wd⟩ := DataW.trod_int Tryz.underlying100 g3; obtain ⟨e, e4, _, we⟩ := DataW.trod_int Tryz.underlying100 g4; obtain ⟨f, e5, _, wf⟩ := DataW.trod_int Tryz.underlying100 g5; simp at e0 e1 e2 e3 e4 e5; subst e0 e1 e2 e3 e4 e5; obtain ⟨c, rfl, hc⟩ := Kjt wc; obtain ⟨d, rfl, hd⟩ := Kjt wd; obtain ⟨e, rfl, he⟩ := Kjt we; obtain ⟨f, rfl, hf⟩ := Kjt wf; exact ⟨⟨a, b, c, d, e, f⟩, rfl, ⟨hc, hd, he, hf⟩, Ktw _⟩
theorem Kme {α : Type} : ∀ l : List α, (l.map fun _ => 1).sum = l.length
 | [] => rfl
 | x :: l => by rw [List.map_cons, List.sum_cons, Kme l, List.length_cons]; omega
theorem Qag {fuel : Nat} {v : Value} {x : DataW H × List MemPlace} (h : DataW.trod enc Tryz.prog w base spare held fuel 55 [v] = some x) :
  ∃ A n c l, v = .slice A n c ∧ n ≤ c ∧ Elems w w.heap.size 2 Kbf A n l ∧ (∀ y ∈ l, y.v < 2 ^ 64) ∧ l.length + 1 ≤ Rows.uptoBulk x.1 := by
 obtain ⟨A, n, c, l, rfl, _, h2, h3, ds, sp, hx, hl, hQ⟩ := Kgw (ea := Kbf) (Q := fun d (y : Smp) => y.v < 2 ^ 64 ∧ 1 ≤ Rows.uptoBulk d) Tryz.underlying55 Kqt (by omega) (fun _ => rfl) (fun _ _ _ h => Qen h) h; refine ⟨A, n, c, l, rfl, h2, h3, fun y hy => ?_, ?_⟩
 ·obtain ⟨i, hi, rfl⟩ := List.mem_iff_getElem.1 hy; exact (hQ i (ds[i]'(by omega)) l[i] (List.getElem?_eq_getElem _) (List.getElem?_eq_getElem hi)).1
 ·have := Kif (fun _ : Smp => 1) hx hl fun i d y hd hy => (hQ i d y hd hy).2
  rwa [Kme] at this
theorem Kzp {fuel : Nat} {v : Value} {x : DataW H × List MemPlace} (h : DataW.trod enc Tryz.prog w base spare held fuel 56 [v] = some x) :
  ∃ A n c l, v = .slice A n c ∧ n ≤ c ∧ Elems w w.heap.size 6 Kaw A n l ∧ (∀ y ∈ l, Kay y) ∧ l.length + 1 ≤ Rows.uptoBulk x.1 := by
 obtain ⟨A, n, c, l, rfl, _, h2, h3, ds, sp, hx, hl, hQ⟩ := Kgw (ea := Kaw) (Q := fun d (y : Wnd) => Kay y ∧ 1 ≤ Rows.uptoBulk d) Tryz.underlying56 Kpz (by omega) (fun _ => rfl) (fun _ _ _ h => Qcw h) h; refine ⟨A, n, c, l, rfl, h2, h3, fun y hy => ?_, ?_⟩
 ·obtain ⟨i, hi, rfl⟩ := List.mem_iff_getElem.1 hy; exact (hQ i (ds[i]'(by omega)) l[i] (List.getElem?_eq_getElem _) (List.getElem?_eq_getElem hi)).1
 ·have := Kif (fun _ : Wnd => 1) hx hl fun i d y hd hy => (hQ i d y hd hy).2
  rwa [Kme] at this
def Ser.mass (s : Ser) : Nat := massL s.labels + s.samples.length + s.windows.length + 2
structure SerIn (w : World) (y : Hd3) (s : Ser) : Prop where
 at_ : SerAt w y s
 v : ∀ x ∈ s.samples, x.v < 2 ^ 64
 b : ∀ x ∈ s.windows, Kay x
theorem Qcz {fuel : Nat} {l : List Value} {x : DataW H × List MemPlace} (h : DataW.trod enc Tryz.prog w base spare held fuel 58 l = some x) : ∃ y : Hd3, l = encH3 y ∧ ∃ s, SerIn w y s ∧ Ser.mass s ≤ Rows.uptoBulk x.1 := by
 obtain ⟨xs, n, _, hx, hcl, hlen, hg⟩ := DataW.trod_struct Tryz.underlying58 h; rw [Kpn] at hcl
 match l, hcl, xs, hlen with
 | [c0, c1, c2], _, [x0, x1, x2], _ =>
  have g0 := hg 0 _ rfl; have g1 := hg 1 _ rfl; have g2 := hg 2 _ rfl; simp [Kyd, Kyr, Kzd] at g0 g1 g2; obtain ⟨A0, n0, k0, l0, rfl, a1, a2, a3⟩ := Kta g0; obtain ⟨A1, n1, k1, l1, rfl, b1, b2, b3, b4⟩ := Qag g1; obtain ⟨A2, n2, k2, l2, rfl, d1, d2, d3, d4⟩ := Kzp g2; refine ⟨⟨⟨A0, n0, k0⟩, ⟨A1, n1, k1⟩, ⟨A2, n2, k2⟩⟩, rfl, ⟨l0, l1, l2⟩, ⟨⟨a2, a1, b2, b1, d2, d1⟩, b3, d3⟩, ?_⟩; rw [hx]; simp only [List.map_cons, List.map_nil, Rows.uptoBulk, Rows.uptoBulkAll, Ser.mass]; omega
theorem Knb : ∀ l : List Lb, 3 * l.length + 1 ≤ massL l
 | [] => by simp [massL]
 | x :: l => by have := Knb l; simp only [massL, List.map_cons, List.sum_cons, List.length_cons, Lb.mass] at *; omega
theorem Krf : ∀ L : List Ser, smpsN L + wndsN L + L.length + 3 * labsN L ≤ (L.map Ser.mass).sum
 | [] => by simp [smpsN, wndsN, labsN]
 | s :: L => by
  have := Krf L; have := Knb s.labels; simp only [smpsN, wndsN, labsN, List.map_cons, List.sum_cons, List.length_cons, Ser.mass] at *; omega
structure Kno (w : World) (A : Option Addr) (n : Nat) (L : List Ser) : Prop where
 s : Sers w A n L
 n : L.length ≤ 1048576
 m : smpsN L + wndsN L ≤ 1048576
 k : labsN L ≤ 349525
 z : ∀ s ∈ L, SerSz s
theorem Qck {fuel : Nat} {v : Value} {x : DataW H × List MemPlace} (h : DataW.trod enc Tryz.prog w base spare held fuel 26 [v] = some x) :
  ∃ A n c L, v = .slice A n c ∧ n ≤ c ∧ Sers w A n L ∧ (Rows.uptoBulk x.1 ≤ 1048576 → Kno w A n L) := by
 obtain ⟨A, n, c, hs, rfl, _, h2, h3, ds, sp, hx, hl, hQ⟩ := Kgw (ea := encH3) (Q := fun d y => ∃ s, SerIn w y s ∧ Ser.mass s ≤ Rows.uptoBulk d) Tryz.underlying26 Kpn (by omega) (fun _ => rfl) (fun _ _ _ h => Qcz h) h; have hn := h3.len
 obtain ⟨f, hf⟩ := choose_lt (α := Ser) (n := n) (p := fun i s => ∀ d y, ds[i]? = some d → hs[i]? = some y → SerIn w y s ∧ Ser.mass s ≤ Rows.uptoBulk d) (by
  intro i hi; have h1 : i < hs.length := by omega
  have h4 : i < ds.length := by omega
  obtain ⟨l, hl'⟩ := hQ i ds[i] hs[i] (List.getElem?_eq_getElem h4) (List.getElem?_eq_getElem h1); refine ⟨l, fun d y hd hy => ?_⟩; rw [List.getElem?_eq_getElem h4] at hd; rw [List.getElem?_eq_getElem h1] at hy; injection hd with hd; injection hy with hy; subst hd hy
  exact hl')
 have hS : Sers w A n ((List.range n).map f) := ⟨hs, h3, by simp, fun i y hy => by
  have hi : i < n := by have := (List.getElem?_eq_some_iff.1 hy).1; omega
  have h4 : i < ds.length := by omega
  obtain ⟨a1, a2⟩ := hf i hi ds[i] y (List.getElem?_eq_getElem h4) hy; rw [getElem!_pos _ i (by simpa using hi)]
  simpa using a1.at_⟩
 refine ⟨A, n, c, (List.range n).map f, rfl, h2, hS, fun hb => ?_⟩
 have hsum : (((List.range n).map f).map Ser.mass).sum + 1 ≤ Rows.uptoBulk x.1 := by
  refine Kif Ser.mass hx (by simp; omega) fun i d l hd hl' => ?_
  have hi : i < n := by have := (List.getElem?_eq_some_iff.1 hl').1; simpa using this
  have e : f i = l := by simpa [hi] using hl'
  have h1 : i < hs.length := by omega
  rw [← e]; exact (hf i hi d hs[i] hd (List.getElem?_eq_getElem h1)).2
 have hm := Krf ((List.range n).map f); refine ⟨hS, by omega, by omega, by omega, fun s hs9 => ?_⟩; have h5 := Kws Ser.mass hs9; obtain ⟨i, hi, rfl⟩ := List.mem_map.1 hs9; have hi : i < n := List.mem_range.1 hi; have h1 : i < hs.length := by omega
 have h4 : i < ds.length := by omega
 obtain ⟨a1, a2⟩ := hf i hi ds[i] hs[i] (List.getElem?_eq_getElem h4) (List.getElem?_eq_getElem h1); have h7 : massL (f i).labels + (f i).samples.length + (f i).windows.length + 2 ≤ (((List.range n).map f).map Ser.mass).sum := h5; have h6 := Kqb (f i).labels; refine ⟨by omega, by omega, by omega, a1.v, a1.b, fun y hy => ?_⟩; have := Qah hy; omega
theorem Kqa {r : Reach} {b0 : Nat} {v : Value} {d : DataW H} {ps : List MemPlace} (hv : Value.okWide Tryz.prog w r b0 28 v) (h : DataW.Trod enc Tryz.prog w base spare held 28 v d ps) :
  ∃ (c : Cont) (hd : Hd), v = contV c.res c.frm c.to_ hd ∧ hd.n ≤ hd.c ∧ Sers w hd.A hd.n c.series ∧ i64B c.res ∧ i64B c.frm ∧ i64B c.to_ ∧ (Rows.uptoBulk d ≤ 1048576 → Kno w hd.A hd.n c.series) := by
 obtain ⟨cs, rfl, hsz⟩ := okWide_struct Tryz.underlying28 hv; obtain ⟨l⟩ := cs; obtain ⟨fuel, hf⟩ := h; obtain ⟨xs, n, _, hx, hcl, hlen, hg⟩ := DataW.trod_struct Tryz.underlying28 hf; rw [Kxp] at hcl; have hcl2 : l.length = 4 := by simpa [Value.cells] using hcl
 match l, hcl2, xs, hlen with
 | [c0, c1, c2, c3], _, [x0, x1, x2, x3], _ =>
  have g0 := hg 0 _ rfl; have g1 := hg 1 _ rfl; have g2 := hg 2 _ rfl; have g3 := hg 3 _ rfl; simp [Kio, Koo, Kyh, Value.cells] at g0 g1 g2 g3; obtain ⟨a, e0, _, wa⟩ := DataW.trod_int Tryz.underlying3 g0; obtain ⟨b, e1, _, wb⟩ := DataW.trod_int Tryz.underlying2 g1; obtain ⟨c, e2, _, wc⟩ := DataW.trod_int Tryz.underlying2 g2; obtain ⟨A, k, cp, L, rfl, k1, k2, k3⟩ := Qck g3; simp at e0 e1 e2; subst e0 e1 e2; refine ⟨⟨a, b, c, L⟩, ⟨A, k, cp⟩, rfl, k1, k2, Kou wa, Kou wb, Kou wc, fun hb => k3 ?_⟩; have hx2 : d = _ := congrArg Prod.fst hx; rw [hx2] at hb; simp only [List.map_cons, List.map_nil, Rows.uptoBulk, Rows.uptoBulkAll] at hb; omega
end
end
section
open Go.RowKit
def FBox (p : Nat) (S0 S1 S2 : ByteArray) (w : World) : Prop := Blk w p 44 #[.string S0, .string S1, .string S2]
theorem FBox.below {p : Nat} {S0 S1 S2 : ByteArray} {w w' : World} (h : FBox p S0 S1 S2 w) (hb : Below w.heap.size w w') : FBox p S0 S1 S2 w' := Blk.below (show Blk w _ _ _ from h) hb (Blk.lt (show Blk w _ _ _ from h))
end
section
open Go.RowKit
attribute [local go_sem ↓] Go.wp_at_zero Go.wp_at_succ
attribute [local go_sem] Later.cell
structure CSz (c : Cont) : Prop where
 n : c.series.length ≤ 1048576
 m : smpsN c.series + wndsN c.series ≤ 1048576
 k : labsN c.series ≤ 349525
 z : ∀ s ∈ c.series, SerSz s
theorem CSz.bits {c : Cont} (h : CSz c) (hf : fitB c = true) : Kdn c := Kxb hf (fun s hs => ⟨(h.z s hs).v, (h.z s hs).b⟩) (by have := h.n; omega) (by have := h.m; omega) (by have := h.m; omega)
structure LW (w0 w : World) : Prop where
 b : Below w0.heap.size w0 w
 e : BEnv w
theorem LW.below {w0 w w' : World} (h : LW w0 w) (hb : Below w.heap.size w w') : LW w0 w' := ⟨h.b.trans (hb.mono h.b.size), h.e.below hb⟩
theorem LW.start {w : World} (h : BEnv w) : LW w w := ⟨Below.refl _ _, h⟩
structure CBox (q : Nat) (r f t : Int) (A : Option Addr) (n k : Nat) (L : List Ser) (w : World) : Prop where
 k : Blk w q 28 #[.int .i64 r, .int .i64 f, .int .i64 t, .slice A n k]
 s : Kbu w A n L
theorem CBox.below {q : Nat} {r f t : Int} {A : Option Addr} {n k : Nat} {L : List Ser} {w w' : World} (h : CBox q r f t A n k L w) (hb : Below w.heap.size w w') : CBox q r f t A n k L w' := ⟨h.k.below hb h.k.lt, h.s.below hb⟩
structure Built (c : Cont) (S0 S1 S2 : ByteArray) : Prop where
 f : filOf S0 S1 S2 = Kby c
 z0 : S0.size ≤ 200000000
 z1 : S1.size ≤ 200000000
 z2 : S2.size ≤ 200000000
theorem Ktc (c : Cont) (A : Option Addr) (n k : Nat) (w : World) (hS : Kbu w A n c.series) (hc : CSz c) (hE : BEnv w) :
  Calls Tryz.prog 19 #[.agg #[.int .i64 c.res, .int .i64 c.frm, .int .i64 c.to_, .slice A n k]] w fun e w' => (∃ S0 S1 S2, e = .returned (.tuple #[.agg #[.string S0, .string S1, .string S2], .int .i64 (if fitB c = true then 0 else 190)]) ∧ Built c S0 S1 S2) ∧ Below w.heap.size w w' := by
 have hsm := fun hf => Kkf (c := c) hf hc.n hc.m hc.k
 refine (Kql c ⟨A, n, k⟩ w hS hE (fun hf => ?_)).mono ?_
 ·have h1 := hsm hf; have h2 : (Kbc c).ck = sealT (Kch c) := rfl; have h3 : (Kbc c).ix = sealT (Kbd c) := rfl; rw [h2, h3, Kfu, Kfu] at h1; omega
 ·rintro e w' ⟨rfl, hb⟩
  have h1 : (Kby c).mt.length ≤ 200000000 ∧ (Kby c).ck.length ≤ 200000000 ∧ (Kby c).ix.length ≤ 200000000 := by
   unfold Kby
   by_cases hf : fitB c = true
   ·rw [if_pos hf]; exact hsm hf
   ·rw [if_neg hf]; exact ⟨by decide, by decide, by decide⟩
  refine ⟨⟨⟨(Kby c).mt.toArray⟩, ⟨(Kby c).ck.toArray⟩, ⟨(Kby c).ix.toArray⟩, rfl, ⟨rfl, ?_, ?_, ?_⟩⟩, hb⟩
  ·exact h1.1
  ·exact h1.2.1
  ·exact h1.2.2
theorem Kno.ok {w : World} {A : Option Addr} {n : Nat} {L : List Ser} (h : Kno w A n L) : Kbu w A n L := ⟨h.s, by have := h.n; omega, h.z⟩
end
section
open Go.RowKit
open Lib renaming hid → Jh
attribute [local go_sem ↓] Go.wp_at_zero Go.wp_at_succ
attribute [local go_sem] Later.cell
theorem Qem (S0 S1 S2 T0 T1 T2 : ByteArray) (W : World) : (binOp .eql 44 (.agg #[.string S0, .string S1, .string S2]) (.agg #[.string T0, .string T1, .string T2])).run Tryz.prog W = .ok (.bool (decide (filOf S0 S1 S2 = filOf T0 T1 T2))) W := Qfv (filOf S0 S1 S2) (filOf T0 T1 T2) W
theorem Knf {c : Cont} (h : fitB c = true) : Kby c = Kbc c := by unfold Kby; rw [if_pos h]
theorem Kvc {c d : Cont} (hc : fitB c = true) (hd : fitB d = true) (zc : CSz c) (zd : CSz d) {S0 S1 S2 T0 T1 T2 : ByteArray} (b1 : filOf S0 S1 S2 = Kby c) (b2 : filOf T0 T1 T2 = Kby d) : decide (filOf S0 S1 S2 = filOf T0 T1 T2) = decide (c = d) := by
 rw [b1, b2, Knf hc, Knf hd]; apply decide_eq_decide.2; exact ⟨fun h => Qcm hc hd (zc.bits hc) (zd.bits hd) h, fun h => by rw [h]⟩
theorem Kmk (c d : Cont) (A : Option Addr) (n k : Nat) (A2 : Option Addr) (n2 k2 : Nat) (w : World) (hS : Kbu w A n c.series) (hS2 : Kbu w A2 n2 d.series) (hc : CSz c) (hd : CSz d) (hE : BEnv w) :
  Calls Tryz.prog 9 #[.agg #[.int .i64 c.res, .int .i64 c.frm, .int .i64 c.to_, .slice A n k], .agg #[.int .i64 d.res, .int .i64 d.frm, .int .i64 d.to_, .slice A2 n2 k2]] w fun e w' => e = .returned (.bool true) ∧ Below w.heap.size w w' := by
 have hbuild := fun W hs he => Ktc c A n k W hs hc he
 have hbuild2 := fun W hs he => Ktc d A2 n2 k2 W hs hd he
 have halk := fun (h1 h2 : Hd) W s1 s2 => Kjb c d h1 h2 W s1 s2
 obtain ⟨r, hr⟩ : ∃ r, c.res = r := ⟨_, rfl⟩; obtain ⟨f, hf⟩ : ∃ f, c.frm = f := ⟨_, rfl⟩; obtain ⟨t, ht⟩ : ∃ t, c.to_ = t := ⟨_, rfl⟩; obtain ⟨r2, hr2⟩ : ∃ r, d.res = r := ⟨_, rfl⟩; obtain ⟨f2, hf2⟩ : ∃ f, d.frm = f := ⟨_, rfl⟩; obtain ⟨t2, ht2⟩ : ∃ t, d.to_ = t := ⟨_, rfl⟩; unfold contV at halk; rw [hr, hf, ht] at hbuild halk ⊢; rw [hr2, hf2, ht2] at hbuild2 halk ⊢; have HLW := Jh (LW.start hE); have HS := Jh hS; have HS2 := Jh hS2; have HZ1 := Jh hc; have HZ2 := Jh hd; have HBU := Jh hbuild; have HBU2 := Jh hbuild2; have HAL := Jh halk; clear hr hf ht hr2 hf2 ht2 hS hS2 hbuild hbuild2 halk hE hc hd; go_enter Tryz.func9, Tryz.ntmps9
 go_upto_region 1 with fail
 obtain ⟨q, hz_q⟩ : ∃ p, w.heap.size = p := ⟨_, rfl⟩; have hbx : Below w.heap.size w (w.alloc (.cells #[.int .i64 r, .int .i64 f, .int .i64 t, .slice A n k] 28)) := (Below.refl _ _).alloc (Nat.le_refl _) _; have hkx : Blk (w.alloc (.cells #[.int .i64 r, .int .i64 f, .int .i64 t, .slice A n k] 28)) q 28 #[.int .i64 r, .int .i64 f, .int .i64 t, .slice A n k] := by rw [← hz_q]; exact Blk.new _ _ _
 have hz_q1 : (w.alloc (.cells #[.int .i64 r, .int .i64 f, .int .i64 t, .slice A n k] 28)).heap.size = q + 1 := by rw [World.alloc, Array.size_push, hz_q]
 obtain ⟨w1, hw_w1⟩ : ∃ x, w.alloc (.cells #[.int .i64 r, .int .i64 f, .int .i64 t, .slice A n k] 28) = x := ⟨_, rfl⟩; rw [hw_w1] at hbx hkx hz_q1; rw [hw_w1, hz_q]; replace HLW := Jh (HLW.out.below hbx); replace HS2 := Jh (HS2.out.below hbx); have HC := Jh (CBox.mk hkx (HS.out.below hbx)); clear hbx hkx hw_w1 hz_q; have hbx : Below w1.heap.size w1 (w1.alloc (.cells #[.int .i64 r2, .int .i64 f2, .int .i64 t2, .slice A2 n2 k2] 28)) := (Below.refl _ _).alloc (Nat.le_refl _) _; have hkx : Blk (w1.alloc (.cells #[.int .i64 r2, .int .i64 f2, .int .i64 t2, .slice A2 n2 k2] 28)) (q + 1) 28 #[.int .i64 r2, .int .i64 f2, .int .i64 t2, .slice A2 n2 k2] := by rw [← hz_q1]; exact Blk.new _ _ _
 have hz_q2 : (w1.alloc (.cells #[.int .i64 r2, .int .i64 f2, .int .i64 t2, .slice A2 n2 k2] 28)).heap.size = q + 2 := by rw [World.alloc, Array.size_push, hz_q1]
 obtain ⟨w2, hw_w2⟩ : ∃ x, w1.alloc (.cells #[.int .i64 r2, .int .i64 f2, .int .i64 t2, .slice A2 n2 k2] 28) = x := ⟨_, rfl⟩; rw [hw_w2] at hbx hkx hz_q2; rw [hw_w2]; replace HLW := Jh (HLW.out.below hbx); replace HC := Jh (HC.out.below hbx); have HD := Jh (CBox.mk hkx (HS2.out.below hbx)); clear hbx hkx hw_w2 hz_q1; clear hz_q2; have x0 := HC.out.k.cell 0; have x1 := HC.out.k.cell 1; have x2 := HC.out.k.cell 2; have x3 := HC.out.k.cell 3; simp at x0 x1 x2 x3; go_wp2_with fail
 refine (HBU.out w2 HC.out.s HLW.out.e).mono ?_; rintro _ w3 ⟨⟨S0, S1, S2, rfl, hbt⟩, hb3⟩; have HBT := Jh hbt; clear hbt x0 x1 x2 x3; obtain ⟨fi, hfi⟩ : ∃ b, fitB c = b := ⟨_, rfl⟩; obtain ⟨er, her⟩ : ∃ z : Int, (if fitB c = true then (0 : Int) else 190) = z := ⟨_, rfl⟩; rw [her]; rw [hfi] at her; have HFB := Jh hfi; have HER := Jh her; clear hfi her; go_upto_region 2 with fail
 replace HLW := Jh (HLW.out.below hb3); replace HC := Jh (HC.out.below hb3); replace HD := Jh (HD.out.below hb3); clear hb3; obtain ⟨p, hp_p⟩ : ∃ p, w3.heap.size = p := ⟨_, rfl⟩; have HGEp := Jh (show w.heap.size ≤ p by rw [← hp_p]; exact HLW.out.b.size); have hbx : Below w3.heap.size w3 (w3.alloc (.cells #[.string S0, .string S1, .string S2] 44)) := (Below.refl _ _).alloc (Nat.le_refl _) _; have hkx : Blk (w3.alloc (.cells #[.string S0, .string S1, .string S2] 44)) p 44 #[.string S0, .string S1, .string S2] := by rw [← hp_p]; exact Blk.new _ _ _
 obtain ⟨w4, hw_w4⟩ : ∃ x, w3.alloc (.cells #[.string S0, .string S1, .string S2] 44) = x := ⟨_, rfl⟩; rw [hw_w4] at hbx hkx; rw [hw_w4, hp_p]; replace HLW := Jh (HLW.out.below hbx); replace HC := Jh (HC.out.below hbx); replace HD := Jh (HD.out.below hbx); have HF := Jh ((show FBox p S0 S1 S2 _ from hkx)); clear hbx hkx hw_w4 hp_p; have x0 := HD.out.k.cell 0; have x1 := HD.out.k.cell 1; have x2 := HD.out.k.cell 2; have x3 := HD.out.k.cell 3; simp at x0 x1 x2 x3; go_wp2_with fail
 refine (HBU2.out w4 HD.out.s HLW.out.e).mono ?_; rintro _ w5 ⟨⟨T0, T1, T2, rfl, hbt⟩, hb5⟩; have HBT2 := Jh hbt; clear hbt x0 x1 x2 x3; obtain ⟨fj, hfi⟩ : ∃ b, fitB d = b := ⟨_, rfl⟩; obtain ⟨es, her⟩ : ∃ z : Int, (if fitB d = true then (0 : Int) else 190) = z := ⟨_, rfl⟩; rw [her]; rw [hfi] at her; have HFB2 := Jh hfi; have HER2 := Jh her; clear hfi her; go_upto_region 3 with fail
 replace HLW := Jh (HLW.out.below hb5); replace HC := Jh (HC.out.below hb5); replace HD := Jh (HD.out.below hb5); replace HF := Jh (HF.out.below hb5); clear hb5; obtain ⟨p2, hp_p2⟩ : ∃ p, w5.heap.size = p := ⟨_, rfl⟩; have HGEp2 := Jh (show w.heap.size ≤ p2 by rw [← hp_p2]; exact HLW.out.b.size); have hbx : Below w5.heap.size w5 (w5.alloc (.cells #[.string T0, .string T1, .string T2] 44)) := (Below.refl _ _).alloc (Nat.le_refl _) _; have hkx : Blk (w5.alloc (.cells #[.string T0, .string T1, .string T2] 44)) p2 44 #[.string T0, .string T1, .string T2] := by rw [← hp_p2]; exact Blk.new _ _ _
 obtain ⟨w6, hw_w6⟩ : ∃ x, w5.alloc (.cells #[.string T0, .string T1, .string T2] 44) = x := ⟨_, rfl⟩; rw [hw_w6] at hbx hkx; rw [hw_w6, hp_p2]; replace HLW := Jh (HLW.out.below hbx); replace HC := Jh (HC.out.below hbx); replace HD := Jh (HD.out.below hbx); replace HF := Jh (HF.out.below hbx); have HG := Jh ((show FBox p2 T0 T1 T2 _ from hkx)); clear hbx hkx hw_w6 hp_p2; have HWK := Jh (Kfz w6 HLW.out.e); go_wp2_with fail
 refine HWK.out.mono ?_; rintro _ w7 ⟨rfl, hb7⟩; replace HLW := Jh (HLW.out.below hb7); replace HC := Jh (HC.out.below hb7); replace HD := Jh (HD.out.below hb7); replace HF := Jh (HF.out.below hb7); replace HG := Jh (HG.out.below hb7); clear hb7 HWK
 cases fi with
 | false =>
  have her : er = 190 := HER.out.symm; subst her; have HWK := Jh (Kfz w7 HLW.out.e); go_wp2_with fail
  refine HWK.out.mono ?_; rintro _ w8 ⟨rfl, hb8⟩; replace HLW := Jh (HLW.out.below hb8); clear hb8 HWK; go_wp2_with fail
  go_ret
  exact ⟨rfl, HLW.out.b⟩
 | true =>
  have her : er = 0 := HER.out.symm; subst her
  cases fj with
  | false =>
   have her2 : es = 190 := HER2.out.symm; subst her2; have HWK := Jh (Kfz w7 HLW.out.e); go_wp2_with fail
   refine HWK.out.mono ?_; rintro _ w8 ⟨rfl, hb8⟩; replace HLW := Jh (HLW.out.below hb8); clear hb8 HWK; go_wp2_with fail
   go_ret
   exact ⟨rfl, HLW.out.b⟩
  | true =>
   have her2 : es = 0 := HER2.out.symm; subst her2; have hpl := Kvc HFB.out HFB2.out HZ1.out HZ2.out HBT.out.f HBT2.out.f; obtain ⟨R, hR⟩ : ∃ R, decide (c = d) = R := ⟨_, rfl⟩; rw [hR] at hpl HAL; have heq : ∀ W, (binOp .eql 44 (.agg #[.string S0, .string S1, .string S2]) (.agg #[.string T0, .string T1, .string T2])).run Tryz.prog W = .ok (.bool R) W := fun W => by rw [Qem, hpl]
   have HAK := Jh (fun u : Later w7 => HAL.out ⟨A, n, k⟩ ⟨A2, n2, k2⟩ u.w (HC.out.s.below u.h) (HD.out.s.below u.h)); clear hpl hR; have l1 := HC.out.k.lt; have l2 := HD.out.k.lt; have l3 := Blk.lt (show Blk w7 _ _ _ from HF.out); have l4 := Blk.lt (show Blk w7 _ _ _ from HG.out); have x0 := HC.out.k.cell 0; have x1 := HC.out.k.cell 1; have x2 := HC.out.k.cell 2; have x3 := HC.out.k.cell 3; simp at x0 x1 x2 x3; have y0 := HD.out.k.cell 0; have y1 := HD.out.k.cell 1; have y2 := HD.out.k.cell 2; have y3 := HD.out.k.cell 3; simp at y0 y1 y2 y3; have u0 := (show Blk w7 _ _ _ from HF.out).cell 0; have u1 := (show Blk w7 _ _ _ from HF.out).cell 1; have u2 := (show Blk w7 _ _ _ from HF.out).cell 2; simp at u0 u1 u2; have v0 := (show Blk w7 _ _ _ from HG.out).cell 0; have v1 := (show Blk w7 _ _ _ from HG.out).cell 1; have v2 := (show Blk w7 _ _ _ from HG.out).cell 2; simp at v0 v1 v2; go_upto_region 5 with fail
   refine Kai (by kernel_rfl) (by kernel_rfl) ?_
   repeat (go_big_quiet_step ((go_at_call 30; exact Kal _ (HAK.out _))))
   refine wpQuiet_nil ?_; rintro w8 ⟨⟨_, hb8⟩, rfl⟩; replace HLW := Jh (HLW.out.below hb8); clear hb8 x0 x1 x2 x3 y0 y1 y2 y3 u0 u1 u2 v0 v1 v2 l1 l2 l3 l4; go_wp2_with fail
   go_ret
   exact ⟨rfl, HLW.out.b⟩
end
section
open Go.ChangeShapes Go.WideShapes Go.ChangeAt Go.RowKit Go.ChangeMaps
theorem Ksw {P : Program} {W : World} {x : String × DataW Unit} {r : List (String × DataW Unit)} (h : laidMet P (x :: r) W) : laidMet P r W := by
 obtain ⟨ps, ⟨g, t, cs, f, p, q, hg, ht, hv, hd, hr, e⟩, hnd, hrows⟩ := h; subst e; refine ⟨q, hr, ?_, fun b off hm => hrows b off (by simp [hm])⟩
 first | exact (List.nodup_append.1 hnd).2.1 | exact (List.nodup_append.1 (List.nodup_append.1 hnd).2.1).2.1
theorem Kzy {W : World} (h : laidMet Tryz.prog Rows.blockBackRow.laid W) : BEnv W := by
 have h1 := Ksw h; have hdbT : Lib.TabIs Tryz.prog W "math/bits.deBruijn64tab" .u8 (Lib.deBruijn64tab.map fun n : Nat => (n : Int)) := Lib.tabIs_of_head (g := 2) (t := 348) (e := 5) (n := 64) (by kernel_rfl) (by kernel_rfl) (by kernel_rfl) (by kernel_rfl) (by kernel_rfl) (by kernel_rfl) h; have hnibT : Lib.TabIs Tryz.prog W "almanac/enc.nibbles" .u32 [0, 274646895, 549293790, 820201905, 1098587580, 1361435347, 1640403810, 1905808397, 2197175160, 2460548119, 2722870694, 2987750089, 3280807620, 3553878443, 3811616794, 4084100981] := Lib.tabIs_of_head (g := 0) (t := 276) (e := 74) (n := 16) (by kernel_rfl) (by kernel_rfl) (by kernel_rfl) (by kernel_rfl) (by kernel_rfl) (by kernel_rfl) h1; refine ⟨fun i hi => ?_, fun i hi => ?_⟩
 ·rw [hnibT.cell (by kernel_rfl) i hi]; rcases (by omega : i = 0 ∨ i = 1 ∨ i = 2 ∨ i = 3 ∨ i = 4 ∨ i = 5 ∨ i = 6 ∨ i = 7 ∨ i = 8 ∨ i = 9 ∨ i = 10 ∨ i = 11 ∨ i = 12 ∨ i = 13 ∨ i = 14 ∨ i = 15) with rfl | rfl | rfl | rfl | rfl | rfl | rfl | rfl | rfl | rfl | rfl | rfl | rfl | rfl | rfl | rfl <;> rfl
 ·rw [hdbT.cell (by kernel_rfl) i (by rw [List.length_map]; exact hi)]; congr 2; rw [List.getD_eq_getElem?_getD, List.getElem?_map, List.getD_eq_getElem?_getD, List.getElem?_eq_getElem hi]; rfl
def Qds : DataW Unit → Array Value
 | .agg l => (l.map fun | .lit (.int k v) => Value.int k v | _ => undef).toArray
 | _ => #[]
noncomputable def Kly (os : Os) : World :=
 let w0 := World.settled Tryz.prog os
 let tab (h : Array Obj) (g : Nat) (d : DataW Unit) : Array Obj := h.modify g fun
  | .cells _ t frozen => .cells (Qds d) t frozen
  | o => o
 { w0 with heap := tab (tab w0.heap 2 Rows.laid_math_bits_deBruijn64tab) 0 Rows.laid_almanac_enc_nibbles }
set_option maxRecDepth 1000000 in
theorem Qgb (os : Os) (args : Array Value) : laidMet Tryz.prog Rows.blockBackRow.laid ((Kly os).forCall (fun _ _ => 0) ⟨#[], args, []⟩).memory :=
 laidMet_of_run' 8 (by kernel_rfl) (by kernel_rfl)
theorem Qad : (Rows.blockApartUptoRow.inPlace == Tryz.pinned.checked.prog.inPlace 9) = true := by kernel_rfl
theorem Qbu : (Rows.blockApartUptoRow.unfollowed == Tryz.pinned.checked.prog.unfollowed 9) = true := by kernel_rfl
theorem Qaw : (Rows.blockApartUptoRow.recurses == Tryz.pinned.checked.prog.recurses 9) = true := by kernel_rfl
theorem Qan : (Rows.blockApartUptoRow.named == Tryz.pinned.checked.prog.varsNamed 9) = true := by kernel_rfl
theorem Ksn : joinedFacts Tryz.pinned.checked.prog 9 Tryz.f9 (Rows.OpenSpec.upto Rows.blockApartSpec).bare Rows.blockApartUptoRow = true := by
 unfold joinedFacts; simp only [Bool.and_eq_true]
 repeat' apply And.intro
 all_goals first | with_reducible exact Qad | with_reducible exact Qbu | with_reducible exact Qaw | with_reducible exact Qan | kernel_rfl
theorem Krv (os : Os) {H : Type} (enc : TypeId × Value → H) : ∃ places, DataW.whole enc Tryz.prog ((Kly os).forCall (fun _ _ => 0) ⟨#[], #[.agg #[.int .i64 0, .int .i64 0, .int .i64 0, .slice none 0 0], .agg #[.int .i64 0, .int .i64 0, .int .i64 0, .slice none 0 0]], []⟩).memory Tryz.f9.params.toList Rows.blockApartSpec.vars false #[Value.agg #[.int .i64 0, .int .i64 0, .int .i64 0, .slice none 0 0], .agg #[.int .i64 0, .int .i64 0, .int .i64 0, .slice none 0 0]].toList 8 = some ([.agg [.lit (.int .i64 0), .lit (.int .i64 0), .lit (.int .i64 0), .nil], .agg [.lit (.int .i64 0), .lit (.int .i64 0), .lit (.int .i64 0), .nil]], [], places) :=
 ⟨[], by kernel_rfl⟩
theorem Kmu (H : Type) (enc : TypeId × Value → H) (W : World) (base : Nat) (args : Array Value) (ds gs : List (DataW H)) (before : List MemPlace)
  (hval0 : ∀ (j : Nat) t v, Tryz.f9.params[j]? = some t → args[j]? = some v → Value.okWide Tryz.prog W .any base t v)
  (hW : DataW.Whole enc Tryz.prog Tryz.f9.params.toList Rows.blockApartSpec.vars false W args.toList ds gs before) (hsz0 : (DataW.weightsEach Tryz.prog (Tryz.f9.params.toList ++ Rows.blockApartSpec.plain.varTypes Tryz.prog) (ds ++ gs)).all (· ≤ reachBytes) = true) (hk0 : Rows.uptoSmall H (ds ++ gs) = true) (hL : laidMetH Tryz.prog Rows.blockApartRow.laid W) :
  Calls Tryz.prog 9 args W fun e W' => ∃ v, e = .returned v ∧ Rows.blockApartSpec.post enc Tryz.prog Tryz.f9 false true false false W args v W' := by
 have hval := hval0; have hW' := hW; have hsz := hsz0; obtain ⟨p, q, hA0, hV, rfl, _, _⟩ := hW; have hA : DataW.TrodAll enc Tryz.prog W 0 (fun _ => true) true Tryz.f9.params.toList args.toList ds p := hA0; rw [Tryz.params9] at hA hval hsz; obtain ⟨v0, v1, d0, d1, p0, p1, rfl, rfl, rfl, h0, h1⟩ := trodAll_two hA; obtain ⟨rfl, rfl⟩ := trodVars_none hV; clear hA0 hval0 hsz0; simp only [List.append_nil] at hW'; simp only [List.append_nil] at hk0; have hbulk := Qde hk0; simp only [Rows.uptoBulkAll, Nat.add_zero] at hbulk; have hlt : ∀ x ∈ p0 ++ p1, x.block < W.heap.size := fun x hx => by simpa using hW'.lt x (by simpa using hx)
 have hargs : ∀ (W' : World), Below W.heap.size W W' → DataW.TrodAll enc Tryz.prog W' 0 (fun b => decide (b < W.heap.size)) true [28, 28] [v0, v1] [d0, d1] (p0 ++ p1) :=
  fun W' hn => trodAll_mk2 (Below.trod Tryz.laidOut (by kernel_rfl) (of_decide_eq_true (by kernel_rfl)) h0 hn (fun x hx => hlt x (by simp [hx]))) (Below.trod Tryz.laidOut (by kernel_rfl) (of_decide_eq_true (by kernel_rfl)) h1 hn (fun x hx => hlt x (by simp [hx])))
 obtain ⟨c0, hd0, rfl, hnc0, hS0, hr0, hf0, ht0, hb0⟩ := Kqa (hval 0 28 v0 rfl rfl) h0; have hI0 := hb0 (by omega); have hZ0 : CSz c0 := ⟨hI0.n, hI0.m, hI0.k, hI0.z⟩; obtain ⟨c1, hd1, rfl, hnc1, hS1, hr1, hf1, ht1, hb1⟩ := Kqa (hval 1 28 v1 rfl rfl) h1; have hI1 := hb1 (by omega); have hZ1 : CSz c1 := ⟨hI1.n, hI1.m, hI1.k, hI1.z⟩; have hE := Kzy hL; refine (Kmk c0 c1 hd0.A hd0.n hd0.c hd1.A hd1.n hd1.c W hI0.ok hI1.ok hZ0 hZ1 hE).mono fun e W' ⟨he, hb⟩ => ?_
 subst he; exact ⟨_, rfl, _, _, _, [], _, [], hW', trodAll_mk1 (shut_bool Tryz.underlying4 true), hargs _ hb, rfl, hb.frame _, fun h => by cases h⟩
theorem Krn (os : Os) (started : os.Started) (H : Type) (enc : TypeId × Value → H) (F : Stop.Interp) :
  ReturnsInHanded {} Tryz.checked os 9 .any ((Rows.OpenSpec.upto Rows.blockApartSpec).preRow enc Tryz.prog Tryz.f9 Rows.blockApartUptoRow.domain false Rows.blockApartUptoRow.laid) (((Rows.OpenSpec.upto Rows.blockApartSpec).at F).post enc Tryz.prog Tryz.f9 false true false false) := by
 obtain ⟨places, hx⟩ := Krv os enc
 refine returnsInHanded_of_row (C := Tryz.checked) (s := Rows.OpenSpec.upto Rows.blockApartSpec) Tryz.own started (by kernel_rfl) Tryz.func9
  (witness_row_atRef (enc := enc) (C := Tryz.checked) false (Kly os) #[.agg #[.int .i64 0, .int .i64 0, .int .i64 0, .slice none 0 0], .agg #[.int .i64 0, .int .i64 0, .int .i64 0, .slice none 0 0]] rfl (by kernel_rfl) (by kernel_rfl) (by kernel_rfl)
   (OpenSpec.preRow_of_cond 8 hx (by kernel_rfl) (fun k hk => by cases hk; kernel_rfl) (by kernel_rfl) (Qgb os _))) ?_
 intro W base args ds gs before hval hW _ hcond hsz hL _ _; exact Kmu H enc W base args ds gs before hval hW hsz (hcond _ rfl) hL
theorem Kvm : Rows.BlockApartUptoSaid :=
 OpenClaim.holds_of_cond 9 Tryz.f9 rfl rfl rfl rfl rfl rfl rfl ⟨rfl, rfl, rfl, rfl, rfl⟩ rfl rfl rfl rfl rfl (by kernel_rfl) Tryz.func9 Ksn
  (of_decide_eq_true (by kernel_rfl)) (by unfold Func.isWrapper; first | (rw [if_pos (by decide +kernel)]; kernel_rfl) | (rw [if_neg (by decide +kernel)]; exact ⟨rfl, rfl⟩))
  (fun os started H enc _ F => by rw [OpenClaim.pre_eq_preRow]; exact Krn os started H enc F)
theorem Kuf (f : FuncId) (fn : Func) (hf : Tryz.pinned.checked.prog.funcNamed "almanac/almanaclaw19.BlockApart" = some f) (hfn : Tryz.pinned.checked.prog.funcs[f]? = some fn) :
  true = Tryz.pinned.checked.prog.looks [] ∧ ∀ (j : Nat) t, fn.params[j]? = some t → Tryz.pinned.checked.prog.wantsStandIn t = false := by
 obtain rfl : f = 9 := Option.some.inj ((show Tryz.prog.funcNamed "almanac/almanaclaw19.BlockApart" = some 9 by kernel_rfl).symm.trans hf) |>.symm; obtain rfl : fn = Tryz.f9 := (Option.some.inj (Tryz.func9.symm.trans hfn)).symm; refine ⟨by kernel_rfl, fun j t ht => ?_⟩; rw [Tryz.params9] at ht; have hm : t = 28 ∨ t = 28 := by simpa using Array.mem_of_getElem? ht
 rcases hm with rfl | rfl
 ·exact (show Tryz.prog.wantsStandIn 28 = false by kernel_rfl)
 ·exact (show Tryz.prog.wantsStandIn 28 = false by kernel_rfl)
theorem blockApart_holds : Rows.BlockApartUptoCardSaid :=
 Claim7.holds_tied_plain_at .later [] _ _ _ _ Kvm (fun _ h => by cases h) (by kernel_rfl) (fun _ h => by cases h) blockApartUpto_row_tie rfl ⟨rfl, rfl⟩ (by kernel_rfl) rfl Kuf (by kernel_rfl)
end
end Go.Proofs.YtdoiekknhnbepaaGreatDoor
