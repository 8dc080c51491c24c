/- Merged (what the claim wants of): BlkPostsB, RefB3, RefB4, RefB7, BlkSize3. -/
import Derived.Test.YtdoiekknhnbepaaGreatDoorBon11
import Derived.Test.YtdoiekknhnbepaaGreatDoorBon14
import Derived.Test.YtdoiekknhnbepaaGreatDoorBon13
import Derived.Test.YtdoiekknhnbepaaGreatDoorBon01
import Derived.Test.YtdoiekknhnbepaaGreatDoorBon04
import Derived.Laws.Bits64
import Derived.Test.YtdoiekknhnbepaaGreatDoorBon02
import Derived.Test.YtdoiekknhnbepaaGreatDoorBon12
set_option linter.unusedVariables false
set_option linter.unusedSimpArgs false
set_option maxRecDepth 100000
set_option maxHeartbeats 8000000
namespace Go.Proofs.YtdoiekknhnbepaaGreatDoor
section
open Go.RowKit
open Lib renaming hid → Jh
attribute [local go_sem ↓] Go.wp_at_zero Go.wp_at_succ
attribute [local go_sem] Later.cell
structure PSN (w0 : World) (q : Nat) (X : ByteArray) (w : World) : Prop where
 f : Blk w q 9 #[.string X]
 o : ∃ v, Blk w (q + 1) 69 #[v]
 e : Blk w (q + 2) 29 #[.int .i64 0]
 bl : Below q w0 w
theorem QN.p {L : QLoc} {w : World} (h : QN L w) : PSN L.w0 L.q L.X w := ⟨h.f, ⟨_, h.o⟩, h.e, h.bl⟩
theorem PSN.below {w0 w w' : World} {q : Nat} {X : ByteArray} (h : PSN w0 q X w) (hb : Below w.heap.size w w') : PSN w0 q X w' := by
 obtain ⟨v, ho⟩ := h.o; exact ⟨h.f.below hb h.f.lt, ⟨v, ho.below hb ho.lt⟩, h.e.below hb h.e.lt, h.bl.trans (hb.mono (by have := h.f.lt; omega))⟩
theorem PSN.kept {w0 w w' : World} {q p : Nat} {X : ByteArray} (h : PSN w0 q X w) (hk : Kept w.heap.size [p] w w') (hp : q + 3 ≤ p) : PSN w0 q X w' := by
 obtain ⟨v, ho⟩ := h.o; exact ⟨h.f.kept hk h.f.lt (by simp; omega), ⟨v, ho.kept hk ho.lt (by simp; omega)⟩, h.e.kept hk h.e.lt (by simp; omega), h.bl.trans ⟨hk.os, hk.tape, hk.output, hk.size, fun k hlt => hk.block k (by have := h.f.lt; omega) (by simp; omega)⟩⟩
structure PLoop (w0 : World) (q pr pb m nb : Nat) (X B : ByteArray) (S : List (List Lb)) (es : Array MapEntry) (clock : Nat) (l : List Nat) (i : Nat) (w : World) : Prop where
 p : PSN w0 q X w
 o : ∃ v, Blk w (q + 1) 69 #[v] ∧ w.ownsRow (nb + 1) 3 1 v l.length (l.flatMap encN)
 r : Rdr pr B i w
 b : Blk w pb 104 #[.map (some m)]
 mp : LMap w (nb + 1) m (Kaj S) (8 * S.length) es clock
theorem PLoop.kept {w0 w w' : World} {q pr m : Nat} {X B : ByteArray} {S : List (List Lb)} {es : Array MapEntry} {clock : Nat} {l : List Nat} {i j : Nat} (h : PLoop w0 q pr (m + 1) m (m + 2) X B S es clock l i w) (ha : q + 2 < pr) (hb : pr < m) (hk : Kept w.heap.size [pr] w w') (hr : Rdr pr B j w') : PLoop w0 q pr (m + 1) m (m + 2) X B S es clock l j w' := by
 obtain ⟨v, h1, h2⟩ := h.o; have hg : w.grownBy w' (some pr) := ⟨hk.os, hk.tape, hk.output, hk.size, fun k h1 h2 => hk.block k h1 (by simpa using fun e => h2 (by rw [e]))⟩; exact ⟨h.p.kept hk (by omega), ⟨v, h1.kept hk h1.lt (by simp; omega), Kfi h2 hk (fun e => Kbz (show Blk w pr _ _ from h.r) h2 (by decide) e.symm)⟩, hr, h.b.kept hk h.b.lt (by simp; omega), h.mp.far hg (by omega) (by omega)⟩
theorem PLoop.below {w0 w w' : World} {q pr m : Nat} {X B : ByteArray} {S : List (List Lb)} {es : Array MapEntry} {clock : Nat} {l : List Nat} {i : Nat} (h : PLoop w0 q pr (m + 1) m (m + 2) X B S es clock l i w) (ha : q + 2 < pr) (hb : pr < m) (hk : Below w.heap.size w w') : PLoop w0 q pr (m + 1) m (m + 2) X B S es clock l i w' := h.kept ha hb (Kept.of_below hk) (h.r.below hk)
theorem PLoop.put {w0 w : World} {q pr m : Nat} {X B : ByteArray} {S : List (List Lb)} {es : Array MapEntry} {clock : Nat} {l l' : List Nat} {i : Nat} {v : Value} (h : PLoop w0 q pr (m + 1) m (m + 2) X B S es clock l i w) (ha : q + 2 < pr) (hb : pr < m) (hv : w.ownsRow (m + 3) 3 1 v l'.length (l'.flatMap encN)) : PLoop w0 q pr (m + 1) m (m + 2) X B S es clock l' i (w.setCell ⟨q + 1, 0, none⟩ v) := by
 obtain ⟨v0, h1, h2⟩ := h.o; have hg : w.grownBy (w.setCell ⟨q + 1, 0, none⟩ v) (some (q + 1)) := ⟨rfl, rfl, rfl, by simp [World.setCell], fun k _ hk => Below.heap_setCell _ _ _ _ (fun e => hk (by rw [e]))⟩; refine ⟨⟨h.p.f.far (by simp) _, ⟨v, h1.set_ 0 v⟩, h.p.e.far (by simp) _, h.p.bl.setCell (p := ⟨q + 1, 0, none⟩) (Nat.le_succ q) v⟩, ⟨v, h1.set_ 0 v, Kcj hv h1 (by decide)⟩, Blk.far (show Blk w pr _ _ from h.r) (p := ⟨q + 1, 0, none⟩) (by show pr ≠ q + 1; omega) _, h.b.far (by show m + 1 ≠ q + 1; omega) _, h.mp.far hg (by omega) (by omega)⟩
theorem Qbn {I : List UInt8} {S : List (List Lb)} {i : Nat} (h : Kdc (fun S l => S ++ [l]) (fun S _ => some S) I [] = some (S, i)) : i ≤ I.length :=
 (Kij (P := fun _ _ => True) (fun _ _ _ _ _ _ => trivial) (fun _ _ _ _ _ _ _ _ => trivial) (fun _ _ _ _ _ _ _ => trivial) trivial h).2
theorem strs1 {w : World} {A : ByteArray} : Strs (w.alloc (.cells #[.string A] 9)) (some ⟨w.heap.size, 0, none⟩) 1 [A.data.toList] := by
 refine ⟨rfl, fun _ => ⟨w.heap.size, 0, rfl, by simp, fun i x hx j v hv => ?_⟩⟩; have hb : Blk (w.alloc (.cells #[.string A] 9)) w.heap.size 9 #[.string A] := Blk.new _ _ _
 match i, hx with
 | 0, hx => injection hx with hx; subst hx; match j, hv with | 0, hv => injection hv with hv; subst hv; exact hb.cell 0
theorem Kcs {w0 : World} {q : Nat} {X : ByteArray} (w : World) (h : PSN w0 q X w) (h0 : bSz X) (hN : Kca w0) (hq : w0.heap.size = q) (tt : TypeId) (xx : Value) :
  CallsD Tryz.prog 87 #[.pointer (some ⟨q, 0, none⟩), .pointer (some ⟨q + 1, 0, none⟩), .pointer (some ⟨q + 2, 0, none⟩)] (.panicking [{ v := .iface tt xx, recovered := false }]) w fun e u' w' =>
   e = .returned (.tuple #[]) ∧ u' = .panicking [{ v := .iface tt xx, recovered := true }] ∧ Blk w' (q + 1) 69 #[.slice none 0 0] ∧ Blk w' (q + 2) 29 #[.int .i64 (Kbi [X.data.toList] : Nat)] ∧ Below q w0 w' := by
 obtain ⟨v, hc⟩ := h.o; have f0 : w.cell? ⟨q, 0, none⟩ = some (.string X) := h.f.cell 0; refine callsD_of_wpS Tryz.func87 rfl fun c₀ cs hu => ?_
 apply wpS_seq; apply wpS_region; simp [wpOpsS, go_sem, recoverD, hu, Tryz.ntmps87, Exit.thenS]; refine wpS_cond (t := true) (by simp [Act.eval, Array.replicate]) ?_; simp only [if_true]; refine wpS_of_wp ?_; have hs := @strs1 w X
 have hbl := fun W (hb : Below w.heap.size w W) (hS : Strs W (some ⟨w.heap.size, 0, none⟩) 1 [X.data.toList]) => Kme [X.data.toList] (some ⟨w.heap.size, 0, none⟩) 1 1 W hS (by omega) (fun x hx => by
  unfold bSz at h0; simp at hx; rcases hx with rfl; rw [Array.length_toList]; show ByteArray.size _ ≤ _
  omega) (hN.below (by rw [← hq]; exact hN.lt) (h.bl.trans (hb.mono (by have := h.f.lt; omega))))
 simp [Array.replicate]; go_upto_region 2 with fail
 refine (hbl _ ((Below.refl _ _).alloc (Nat.le_refl _) _) hs).mono ?_; rintro _ w2 ⟨rfl, hb2⟩; have hb2' := ((Below.refl w.heap.size w).alloc (Nat.le_refl _) (.cells #[.string X] 9)).trans (hb2.mono (by simp)); have hc2 := hc.below hb2' hc.lt; have he2 := h.e.below hb2' h.e.lt; have HC2 := Jh hc2; have HE2 := Jh he2; have HB2 := Jh (h.bl.trans (hb2'.mono (by have := h.f.lt; omega))); have c0 : w2.cell? ⟨q + 1, 0, none⟩ = some v := hc2.cell 0; have g0 := hc2.frozen 0; have e0 : w2.cell? ⟨q + 2, 0, none⟩ = some (.int .i64 0) := he2.cell 0; have ef := he2.frozen 0; clear hb2 hb2' hc2 he2 hbl hs f0 h hc; go_wp2_with fail
 have k1 := (HC2.out.set_ 0 (.slice none 0 0)).far (p := ⟨q + 2, 0, none⟩) (by simp) (.int .i64 (Kbi [X.data.toList] : Nat)); have k2 := (HE2.out.far (p := ⟨q + 1, 0, none⟩) (by simp) (.slice none 0 0)).set_ 0 (.int .i64 (Kbi [X.data.toList] : Nat)); have k3 := (HB2.out.setCell (p := ⟨q + 1, 0, none⟩) (Nat.le_succ q) (.slice none 0 0)).setCell (p := ⟨q + 2, 0, none⟩) (Nat.le_add_right q 2) (.int .i64 (Kbi [X.data.toList] : Nat))
 revert k1 k2 k3
 generalize (w2.setCell ⟨q + 1, 0, none⟩ (.slice none 0 0)).setCell ⟨q + 2, 0, none⟩ (.int .i64 (Kbi [X.data.toList] : Nat)) = wz; intro k1 k2 k3; simp [bodyPostS, results, Tryz.results87]; exact ⟨k1, k2, k3⟩
theorem Kxm (a b c : Addr) (w : World) :
  CallsD Tryz.prog 87 #[.pointer (some a), .pointer (some b), .pointer (some c)] .returning w fun e u' w' => e = .returned (.tuple #[]) ∧ u' = .returning ∧ w' = w := by
 refine callsD_of_wpS Tryz.func87 rfl fun c₀ cs hu => ?_
 apply wpS_seq; apply wpS_region; simp [wpOpsS, go_sem, recoverD, hu, Tryz.ntmps87, Exit.thenS]; refine wpS_cond (t := false) (by simp [Act.eval, Array.replicate]) ?_; simp only [Bool.false_eq_true, if_false]; refine wpS_of_wp (wp_skip ?_); cases c₀
 simp_all [bodyPostS, results, Tryz.results87]
def Qbh (w' : World) (r : Option (List Nat)) (bl : Nat) (e : Ending) : Prop := match r with
 | some l => ∃ A c, e = .returned (.tuple #[.slice A l.length c, .int .i64 0]) ∧ Elems w' w'.heap.size 1 encN A l.length l
 | none => e = .returned (.tuple #[.slice none 0 0, .int .i64 (bl : Int)])
theorem qres {w : World} {q : Nat} {x u : Value} (tmps : Array Value) (h1 : Blk w (q + 1) 69 #[x]) (h2 : Blk w (q + 2) 29 #[u]) (hp : tmps.getD 6 undef = .pointer (some ⟨q + 1, 0, none⟩)) (hq : tmps.getD 7 undef = .pointer (some ⟨q + 2, 0, none⟩)) :
  (results Tryz.f32 tmps).run Tryz.prog w = .ok (.tuple #[x, u]) w := by
 refine Kie rfl tmps w ⟨q + 1, 0, none⟩ ⟨q + 2, 0, none⟩ x u hp hq ?_ ?_
 ·have e5 : w.cell? ⟨q + 1, 0, none⟩ = some x := h1.cell 0; simp [loadVar, run_underlying Tryz.underlying69, go_sem, e5]
 ·have e5 : w.cell? ⟨q + 2, 0, none⟩ = some u := h2.cell 0; simp [loadVar, run_underlying Tryz.underlying29, go_sem, e5]
theorem Kel {w0 w : World} {q : Nat} {bl : Nat} {tmps : Array Value} {r : Option (List Nat)} (k1 : Blk w (q + 1) 69 #[.slice none 0 0]) (k2 : Blk w (q + 2) 29 #[.int .i64 (bl : Int)]) (k3 : Below q w0 w) (hr : r = none)
  (hp : tmps.getD 6 undef = .pointer (some ⟨q + 1, 0, none⟩)) (hq : tmps.getD 7 undef = .pointer (some ⟨q + 2, 0, none⟩)) (hw : w0.heap.size = q) :
  ∃ v, (results Tryz.f32 tmps).run Tryz.prog w = .ok v w ∧ (Qbh w r bl (.returned v) ∧ Below w0.heap.size w0 w) := by
 subst hr; exact ⟨_, qres tmps k1 k2 hp hq, rfl, by rw [hw]; exact k3⟩
def Kih (X : List UInt8) (q : Lb) : Option (List Nat) := match Kas X with
 | .error _ => none
 | .ok I => Kic I q
theorem Ktv (n : Nat) (w : World) : Calls Tryz.prog 89 #[.int .u64 (n : Int)] w fun e w' => e = .returned (.tuple #[]) ∧ w = w' := by
 go_enter Tryz.func89, Tryz.ntmps89
 go_wp2
 go_end0
 exact ⟨rfl, rfl⟩
theorem Qcl {I : List UInt8} {S : List (List Lb)} {i : Nat} (h : Kdc (fun S l => S ++ [l]) (fun S _ => some S) I [] = some (S, i)) : Keq S ∧ S.length ≤ I.length := by
 have := Kij (P := fun (S : List (List Lb)) i => Keq S ∧ S.length ≤ i) (fun s i j h h1 h2 => ⟨h.1, by omega⟩) (fun s i j l h h1 h2 hl => ⟨fun x hx => ?_, ?_⟩) (fun s i n s' h h1 hp => by injection hp with hp; rw [← hp]; exact h) (s := []) ⟨fun x hx => by simp at hx, Nat.le_refl _⟩ h
 ·exact ⟨this.1.1, by have h1 := this.1.2; have h2 := this.2; omega⟩
 ·rcases List.mem_append.1 hx with h9 | h9
  ·exact h.1 x h9
  ·rw [List.mem_singleton.1 h9]; exact ⟨hl.1, hl.2.1⟩
 ·show (s ++ [l]).length ≤ j
  rw [List.length_append, List.length_singleton]; omega
theorem Kxf (X N V : ByteArray) (w : World) (h0 : bSz X) (hN : Kca w) :
  Calls Tryz.prog 32 #[.string X, .string N, .string V] w fun e w' => Qbh w' (Kih X.data.toList ⟨N.data.toList, V.data.toList⟩) (Kbi [X.data.toList]) e ∧ Below w.heap.size w w' := by
 have hmf : ∀ (fn : Fn) (first cap : Array Value) (w : World), (Instr.makeFunc fn first cap).run Tryz.prog w = .ok (.func fn first cap) w := fun _ _ _ _ => rfl
 have hmm := @run_makeMap Tryz.prog; obtain ⟨r, hr⟩ : ∃ r, Kih X.data.toList ⟨N.data.toList, V.data.toList⟩ = r := ⟨_, rfl⟩; rw [hr]; have H0 := Jh h0; have HN := Jh hN; have HR := Jh hr; obtain ⟨q, hq⟩ : ∃ q, w.heap.size = q := ⟨_, rfl⟩; have HQ := Jh hq; have hX : X.size ≤ 140737488351232 := by unfold bSz at h0; omega
 clear h0 hN hr; go_enter_defers Tryz.func32, Tryz.ntmps32
 go_upto_region 2 with fail
 have hb0 : Below q w (((w.alloc (.cells #[.string X] 9)).alloc (.cells #[.slice none 0 0] 69)).alloc (.cells #[.int .i64 0] 29)) := (((Below.refl _ _).alloc (Nat.le_of_eq hq.symm) _).alloc (by simp; omega) _).alloc (by simp; omega) _; have hf : Blk (((w.alloc (.cells #[.string X] 9)).alloc (.cells #[.slice none 0 0] 69)).alloc (.cells #[.int .i64 0] 29)) q 9 #[.string X] := ((Blk.newAt hq.symm).alloc _).alloc _; have hc : Blk (((w.alloc (.cells #[.string X] 9)).alloc (.cells #[.slice none 0 0] 69)).alloc (.cells #[.int .i64 0] 29)) (q + 1) 69 #[.slice none 0 0] := (Blk.newAt (by simp; omega)).alloc _; have he : Blk (((w.alloc (.cells #[.string X] 9)).alloc (.cells #[.slice none 0 0] 69)).alloc (.cells #[.int .i64 0] 29)) (q + 2) 29 #[.int .i64 0] := Blk.newAt (by simp; omega); have hz0 : (((w.alloc (.cells #[.string X] 9)).alloc (.cells #[.slice none 0 0] 69)).alloc (.cells #[.int .i64 0] 29)).heap.size = q + 3 := by simp; omega
 obtain ⟨W0, hW0⟩ : ∃ W0, ((w.alloc (.cells #[.string X] 9)).alloc (.cells #[.slice none 0 0] 69)).alloc (.cells #[.int .i64 0] 29) = W0 := ⟨_, rfl⟩; rw [hW0] at hb0 hf hc he hz0
 try rw [hW0]
 try rw [hq]
 try rw [show q + 1 + 1 = q + 2 from rfl]
 have hpn0 : PSN w q X W0 := ⟨hf, ⟨_, hc⟩, he, hb0⟩; have HPN := Jh hpn0; have HCN := Jh hc; have hn0 : Kca W0 := HN.out.below HN.out.lt (by rw [HQ.out]; exact hb0); have ho := Kgq X hX W0 hn0; have a0 : W0.cell? ⟨q, 0, none⟩ = some (.string X) := hf.cell 0; have hql := hf.lt; obtain ⟨R0, hR0⟩ : ∃ R, Kas X.data.toList = R := ⟨_, rfl⟩; rw [hR0] at ho; clear hb0 hf hc he hW0 hq hpn0 hn0 hX
 cases R0 with
 | error c0 =>
  have HNONE : Hid (r = none) := Jh (by rw [← HR.out]; unfold Kih; rw [hR0]); have HO := Jh ho; clear ho hR0; go_wp2_with fail
  refine HO.out.mono ?_; rintro e w1 ⟨⟨f, hf, rfl⟩, hb1⟩; have hpn := HPN.out.below hb1; unfold Kaq; go_wp2_with fail
  refine leaves_cons (f := 87) (args := #[.pointer (some ⟨q, 0, none⟩), .pointer (some ⟨q + 1, 0, none⟩), .pointer (some ⟨q + 2, 0, none⟩)]) (by simp) (by simp [go_sem]) ?_; refine (Kcs w1 hpn H0.out HN.out HQ.out _ _).mono ?_; rintro e u' w'' ⟨rfl, rfl, k1, k2, k3⟩; refine Kel k1 k2 k3 HNONE.out ?_ ?_ HQ.out
  all_goals rfl
 | ok bb =>
 obtain ⟨B, hB⟩ : ∃ B : ByteArray, (⟨bb.toArray⟩ : ByteArray) = B := ⟨_, rfl⟩; unfold OpenO at ho; dsimp only at ho; rw [hB] at ho; have hBd : B.data.toList = bb := by rw [← hB]
 have hsz : B.size ≤ 268435456 := by
  have a := Khk hR0; have b := H0.out; unfold bSz at b; rw [← hBd] at a; have h1 : B.data.toList.length = B.size := rfl; have h2 : X.data.toList.length = X.size := rfl; omega
 have hrr : Kic B.data.toList ⟨N.data.toList, V.data.toList⟩ = r := by rw [← HR.out]; unfold Kih; rw [hR0, hBd]
 have hblv : Kbi [X.data.toList] = 190 := by rw [Kbi, hR0]; rfl
 rw [Qfn] at hrr; have HRR := Jh hrr; have HO := Jh ho; clear ho hR0 hB hBd hrr; go_wp2_with fail
 refine HO.out.mono ?_; rintro e w1 ⟨pr, rfl, hprq, hrd, hb1⟩; have hprl := Rdr.lt hrd; have hpn1 := HPN.out.below hb1; have hcn1 := HCN.out.below hb1 HCN.out.lt; have HRD := Jh hrd; have HPN1 := Jh hpn1; have HCN1 := Jh hcn1; have HB1 := Jh hb1; clear hpn1 hcn1 hb1 a0 hblv; go_upto_region 5 with fail
 obtain ⟨m, hm⟩ : ∃ m, w1.heap.size = m := ⟨_, rfl⟩; have hb4 : Below w1.heap.size w1 (((w1.alloc (.map #[] 0)).alloc (.cells #[.map (some w1.heap.size)] 104)).alloc (.cells #[.int .i64 0] 3)) := (((Below.refl _ _).alloc (Nat.le_refl _) _).alloc (by simp) _).alloc (by simp; omega) _
 have hmp4 : LMap (((w1.alloc (.map #[] 0)).alloc (.cells #[.map (some w1.heap.size)] 104)).alloc (.cells #[.int .i64 0] 3)) (m + 3) m (fun _ => []) 0 #[] 0 := by
  have h1 := LMap.new w1 (m + 3); rw [hm] at h1; refine h1.below (((Below.refl _ _).alloc (Nat.le_refl _) _).alloc (by simp) _)
 have hpb4 : Blk (((w1.alloc (.map #[] 0)).alloc (.cells #[.map (some w1.heap.size)] 104)).alloc (.cells #[.int .i64 0] 3)) (m + 1) 104 #[.map (some w1.heap.size)] := (Blk.newAt (by simp; omega)).alloc _; have hnb4 : Blk (((w1.alloc (.map #[] 0)).alloc (.cells #[.map (some w1.heap.size)] 104)).alloc (.cells #[.int .i64 0] 3)) (m + 2) 3 #[.int .i64 0] := Blk.newAt (by simp; omega); have hz4 : (((w1.alloc (.map #[] 0)).alloc (.cells #[.map (some w1.heap.size)] 104)).alloc (.cells #[.int .i64 0] 3)).heap.size = m + 3 := by simp; omega
 obtain ⟨w4, hw4⟩ : ∃ w4, ((w1.alloc (.map #[] 0)).alloc (.cells #[.map (some w1.heap.size)] 104)).alloc (.cells #[.int .i64 0] 3) = w4 := ⟨_, rfl⟩; rw [hw4] at hb4 hmp4 hpb4 hnb4 hz4
 try rw [hw4]
 rw [hm] at hpb4
 try rw [hm]
 try rw [show m + 1 + 1 = m + 2 from rfl]
 have hpn4 := HPN1.out.below hb4; have hcn4 := HCN1.out.below hb4 HCN1.out.lt; have hrd4 := HRD.out.below hb4; obtain ⟨L, hL⟩ : ∃ L : QLoc, (⟨w, q, pr, m, m + 1, m + 2, X⟩ : QLoc) = L := ⟨_, rfl⟩; have hql4 := HPN.out.e.lt; have hok : Kog L := by rw [← hL]; exact ⟨by show q + 2 < pr; omega, by show pr < m; omega, by show m < m + 1; omega, by show m + 1 < m + 2; omega, HQ.out⟩
 have hqm : QM L [] (qOwn L #[]) w4 := by
  refine ⟨#[], 0, ?_⟩; rw [← hL]; exact ⟨hpn4.f, hcn4, hpn4.e, hpb4, hnb4, hmp4, rfl, hpn4.bl⟩
 have hlq : L.q = q := by rw [← hL]
 have hlr : L.pr = pr := by rw [← hL]
 have hlm : L.m = m := by rw [← hL]
 have hlp : L.pb = m + 1 := by rw [← hL]
 have hln : L.nb = m + 2 := by rw [← hL]
 have hlw : L.w0 = w := by rw [← hL]
 have hlx : L.X = X := by rw [← hL]
 have hE : Kup (fun st : List (List Lb) => st.length) 1099511627776 pr (QM L) (QN L) (fun S l => S ++ [l]) (fun S _ => some S) 88 89 #[.pointer (some ⟨m + 1, 0, none⟩), .pointer (some ⟨m + 2, 0, none⟩)] #[] := by
  refine ⟨fun _ _ => rfl, fun _ _ => rfl, fun s O W h k hk => h.lt k hk, fun s O W h => ?_, fun s O W W' h hk => h.keep hok (by rw [hlr]; exact hk), fun s O W h => h.bad, fun s l => by show (s ++ [l]).length = _; rw [List.length_append]; rfl, fun s n s' h1 h2 => by injection h2 with h2; rw [h2], fun s O W A n c l h hz hE hc h8 hl hA => ?_, fun s O W n h h0 hz hn => ?_⟩
  ·rw [← hlr]; exact h.no hok
  ·have := Kzv hok W h hz A n c l hE hl (fun a ha => (hA a ha).1); rw [hlp, hln] at this; exact this
  ·refine (Ktv n W).mono ?_; rintro e w' ⟨rfl, rfl⟩; exact ⟨rfl, O, h, Grow.refl _ _⟩
 have hser := Kka hE B [] _ w4 hqm hrd4 (by omega) (by omega) rfl; obtain ⟨G, hG⟩ : ∃ G, Kdc (fun S l => S ++ [l]) (fun S _ => some S) B.data.toList ([] : List (List Lb)) = G := ⟨_, rfl⟩; have hrr := HRR.out; rw [hG] at hser hrr; have HSER := Jh hser; have HL := Jh hL; have HOK := Jh hok; have HG := Jh hG; have HRR2 := Jh hrr; have HE1 := Jh hlq; have HE2 := Jh hlr; have HE3 := Jh hlm; have HE4 := Jh hlp; have HE5 := Jh hln; have HE6 := Jh hlw; have HE7 := Jh hlx; have HM := Jh hm; clear hser hL hok hG hrr hE hlq hlr hlm hlp hln hlw hlx hm hqm hpn4 hcn4 hrd4 hb4 hmp4 hpb4 hnb4 hz4 hw4 HRR; go_wp2_with fail
 refine HSER.out.mono ?_; intro e w6 h6
 cases G with
 | none =>
  obtain ⟨⟨tt, xx, rfl⟩, hn⟩ := h6; have HNONE : Hid (r = none) := Jh HRR2.out.symm; have hpn := hn.p; rw [HE6.out, HE1.out, HE7.out] at hpn; clear hmf hmm; go_wp2_with fail
  refine leaves_cons (f := 87) (args := #[.pointer (some ⟨q, 0, none⟩), .pointer (some ⟨q + 1, 0, none⟩), .pointer (some ⟨q + 2, 0, none⟩)]) (by simp) (by simp [go_sem]) ?_; refine (Kcs w6 hpn H0.out HN.out HQ.out _ _).mono ?_; rintro e u' w'' ⟨rfl, rfl, k1, k2, k3⟩; refine Kel k1 k2 k3 HNONE.out ?_ ?_ HQ.out
  all_goals rfl
 | some x =>
 obtain ⟨S, i2⟩ := x; obtain ⟨rfl, O6, ⟨es, clock, hqx⟩, hrd6, _, _, _⟩ := h6; have hsn := Qcl HG.out; have hi2 := Qbn HG.out
 have hp6 : PLoop w q pr (m + 1) m (m + 2) X B S es clock [] i2 w6 := by
  have hb := (QM.bad ⟨es, clock, hqx⟩).p; rw [HE6.out, HE1.out, HE7.out] at hb; have ho := hqx.o; rw [HE1.out] at ho; have hpb := hqx.pb; rw [HE4.out, HE3.out] at hpb; have hmp := hqx.mp; rw [HE5.out, HE3.out] at hmp; exact ⟨hb, ⟨_, ho, World.ownsRow_nil _ _ _ _⟩, hrd6, hpb, hmp⟩
 have HP6 := Jh hp6; have HSN := Jh hsn; have HI2 := Jh hi2; have hsnl : S.length ≤ 268435456 := by have h1 := hsn.2; have h2 : B.data.toList.length = B.size := rfl; omega
 have HSL := Jh hsnl; have c1 : w6.cell? ⟨pr, 1, none⟩ = some (.int .i64 (i2 : Int)) := (show Blk w6 _ _ _ from hrd6).cell 1; have hmeq := HM.out; have HORD := Jh (show q + 2 < pr ∧ pr < m from ⟨by omega, by omega⟩); have HU6 := Jh (Kdq pr i2 B w6 hrd6 (by omega)); clear hqx hrd6 hp6 hsn hi2 hsnl; go_upto_region 7 with fail
 clear c1; go_wp2_with fail
 refine HU6.out.mono ?_; intro e w7 h7
 cases hru : ruAt B.data.toList i2 with
 | none =>
  rw [hru] at h7; obtain ⟨⟨f, hf, rfl⟩, hb7⟩ := h7; have HNONE : Hid (r = none) := Jh (by rw [← HRR2.out, hru] <;> rfl); have hpn := HP6.out.p.below hb7; clear hmf hmm hru hb7 HU6; unfold Kaq; go_wp2_with fail
  refine leaves_cons (f := 87) (args := #[.pointer (some ⟨q, 0, none⟩), .pointer (some ⟨q + 1, 0, none⟩), .pointer (some ⟨q + 2, 0, none⟩)]) (by simp) (by simp [go_sem]) ?_; refine (Kcs w7 hpn H0.out HN.out HQ.out _ _).mono ?_; rintro e u' w'' ⟨rfl, rfl, k1, k2, k3⟩; refine Kel k1 k2 k3 HNONE.out ?_ ?_ HQ.out
  all_goals rfl
 | some x =>
 obtain ⟨k, i3⟩ := x; rw [hru] at h7; obtain ⟨rfl, hr7, hk7⟩ := h7; have hk64 := Keb hru; have hp7 := HP6.out.kept HORD.out.1 HORD.out.2 hk7 hr7
 have HRK : Hid ((match keysR B.data.toList ⟨N.data.toList, V.data.toList⟩ k [] i3 with
    | none => none
    | some (out, i4) => if i4 = B.data.toList.length ∧ Kbl S = B.data.toList.drop i2 then some out else none) = r) := Jh (by rw [← HRR2.out, hru] <;> rfl)
 have HP7 := Jh hp7; have HI3 := Jh (Khf hru); clear hru hr7 hk7 hp7 HRR2 HU6; have HSB := Jh hsz; clear hmf hmm; obtain ⟨Q, hQ⟩ : ∃ Q : Lb, (⟨N.data.toList, V.data.toList⟩ : Lb) = Q := ⟨_, rfl⟩; rw [hQ] at HRK; have HQQ := Jh hQ; clear hQ; go_wp2_with fail
 go_loopg [12] k (fun g s12 wr => ∃ (l : List Nat) (i : Nat), s12 = .int .u64 (g : Int) ∧ g < 2 ^ 64 ∧ PLoop w q pr (m + 1) m (m + 2) X B S es clock l i wr ∧ (match keysR B.data.toList Q g l i with
    | none => none
    | some (out, i4) => if i4 = B.data.toList.length ∧ Kbl S = B.data.toList.drop i2 then some out else none) = r)
 case atStart => exact ⟨[], i3, rfl, hk64, HP7.out, HRK.out⟩
 case round =>
  obtain ⟨l, i, rfl, hg64, hp9, hrr⟩ := hrel; obtain ⟨wo, rfl⟩ : ∃ x, x = wr := ⟨_, rfl⟩; have HP9 := Jh hp9; have HRR9 := Jh hrr; clear hp9 hrr
  cases gk with
  | zero =>
   have hfin : (if i = B.data.toList.length ∧ Kbl S = B.data.toList.drop i2 then some l else none) = r := by rw [← HRR9.out]; rfl
   have HFIN := Jh hfin; clear hfin; have hpb := HP9.out.b; have hpr := HP9.out.r; have b0 : wo.cell? ⟨m + 1, 0, none⟩ = some (.map (some m)) := hpb.cell 0; have r0 : wo.cell? ⟨pr, 0, none⟩ = some (.string B) := (show Blk wo _ _ _ from hpr).cell 0; have r1 : wo.cell? ⟨pr, 1, none⟩ = some (.int .i64 (i : Int)) := (show Blk wo _ _ _ from hpr).cell 1; have hb1 := hpb.lt; have hb2 := hpr.lt; have HLI : Hid (∀ W, Below wo.heap.size wo W → Calls Tryz.prog 45 #[.map (some m)] W fun e w' => e = .returned (.string ⟨(Kbl S).toArray⟩) ∧ Below W.heap.size W w') := Jh fun W hb => Klt S m (8 * S.length) (m + 3) es clock W (HP9.out.mp.below hb) (by have := HSL.out; omega) (by have := HSL.out; omega) (by have := Koq HSN.out.1; have := HSL.out; omega)
   obtain ⟨T, hT⟩ : ∃ T : ByteArray, (⟨(Kbl S).toArray⟩ : ByteArray) = T := ⟨_, rfl⟩; rw [hT] at HLI; have HTT := Jh hT; have hBl : B.data.toList.length = B.size := rfl; have HBL := Jh hBl; have hi2 := HI2.out; rw [hBl] at hi2; clear hpb hpr hT hBl; go_upto_region 14 with fail
   by_cases hie : i = B.size
   ·have e1 : decide ((i : Int) = (B.size : Int)) = true := by rw [decide_eq_true_eq]; omega
    obtain ⟨dl, hdl⟩ : ∃ d, decide (Kbl S = B.data.toList.drop i2) = d := ⟨_, rfl⟩
    have e3 : (T.toList == (B.extract i2 B.size).toList) = dl := by
     rw [← hdl, ByteArray.toList_eq, ByteArray.toList_eq, ← HTT.out, Klf]; show (Kbl S == _) = _
     rw [List.take_of_length_le (by rw [List.length_drop]; exact Nat.le_refl _)]
     by_cases h : Kbl S = B.data.toList.drop i2
     ·rw [h]; simp
     ·rw [decide_eq_false h]; simpa using h
    have HDL := Jh hdl; clear hdl; refine Kad (by kernel_rfl) (by kernel_rfl) ?_
    repeat (go_big_quiet_step ((go_at_call 45; exact Kal _ (HLI.out _ (Later.h _)))))
    refine wpQuiet_nil ?_; rintro wz ⟨⟨_, hbz⟩, rfl⟩; have hpz := HP9.out.below HORD.out.1 HORD.out.2 hbz; have HPZ := Jh hpz; have hrr := HFIN.out; have hiB : i = B.data.toList.length := hie
    cases dl with
    | false =>
     have HNONE : Hid (r = none) := Jh (by rw [← hrr]; exact if_neg fun h => of_decide_eq_false HDL.out h.2); have hpn := hpz.p; clear hrr hbz hpz HLI b0 r0 r1 hb1 hb2; go_wp2_with fail
     refine leaves_cons (f := 87) (args := #[.pointer (some ⟨q, 0, none⟩), .pointer (some ⟨q + 1, 0, none⟩), .pointer (some ⟨q + 2, 0, none⟩)]) (by simp) (by simp [go_sem]) ?_; refine (Kcs wz hpn H0.out HN.out HQ.out _ _).mono ?_; rintro e u' w'' ⟨rfl, rfl, k1, k2, k3⟩; refine Kel k1 k2 k3 HNONE.out ?_ ?_ HQ.out
     all_goals rfl
    | true =>
     have HSOM : Hid (r = some l) := Jh (by rw [← hrr]; exact if_pos ⟨hiB, of_decide_eq_true HDL.out⟩); obtain ⟨v, ho, hown⟩ := hpz.o; obtain ⟨A, cp, rfl, hel, _, _⟩ := Elems.of_own (enc := encN) (fun _ _ => rfl) rfl hown rfl; have c0 : wz.cell? ⟨q + 1, 0, none⟩ = some (.slice A l.length cp) := ho.cell 0; have cf := ho.frozen 0; have d0 : wz.cell? ⟨q + 2, 0, none⟩ = some (.int .i64 0) := hpz.p.e.cell 0; have df := hpz.p.e.frozen 0; have HO2 := Jh ho; have HEL := Jh hel; clear hrr hbz hpz HLI b0 r0 r1 hb1 hb2 ho hown hel; go_wp2_with fail
     refine leaves_cons (f := 87) (args := #[.pointer (some ⟨q, 0, none⟩), .pointer (some ⟨q + 1, 0, none⟩), .pointer (some ⟨q + 2, 0, none⟩)]) (by simp) (by simp [go_sem]) ?_; refine (Kxm _ _ _ _).mono ?_; rintro e u' w'' ⟨rfl, rfl, rfl⟩; have s0 : wz.setCell ⟨q + 1, 0, none⟩ (.slice A l.length cp) = wz := Kex HO2.out (i := 0) rfl; have s4 : wz.setCell ⟨q + 2, 0, none⟩ (.int .i64 0) = wz := Kex HPZ.out.p.e (i := 0) rfl; rw [s0, s4]; refine ⟨_, qres _ HO2.out HPZ.out.p.e (by rfl) (by rfl), ?_, by rw [HQ.out]; exact HPZ.out.p.bl⟩; rw [HSOM.out]; exact ⟨A, cp, rfl, HEL.out⟩
   ·have e1 : decide ((i : Int) = (B.size : Int)) = false := by rw [decide_eq_false_iff_not]; omega
    have e2 : ((i : Int) == (B.size : Int)) = false := by rw [beq_eq_false_iff_ne]; omega
    have e4 : ((i : Int) != (B.size : Int)) = true := by rw [bne_iff_ne]; omega
    refine Kad (by kernel_rfl) (by kernel_rfl) ?_
    repeat (go_big_quiet_step ((go_at_call 45; exact Kal _ (HLI.out _ (Later.h _)))))
    refine wpQuiet_nil ?_; rintro wz ⟨⟨_, hbz⟩, rfl⟩; have hpn := (HP9.out.below HORD.out.1 HORD.out.2 hbz).p; have hrr := HFIN.out; have HNONE : Hid (r = none) := Jh (by rw [← hrr]; exact if_neg fun h => hie h.1); clear hrr hbz HLI b0 r0 r1 hb1 hb2; go_wp2_with fail
    refine leaves_cons (f := 87) (args := #[.pointer (some ⟨q, 0, none⟩), .pointer (some ⟨q + 1, 0, none⟩), .pointer (some ⟨q + 2, 0, none⟩)]) (by simp) (by simp [go_sem]) ?_; refine (Kcs wz hpn H0.out HN.out HQ.out _ _).mono ?_; rintro e u' w'' ⟨rfl, rfl, k1, k2, k3⟩; refine Kel k1 k2 k3 HNONE.out ?_ ?_ HQ.out
    all_goals rfl
  | succ g =>
   have el : decide (0 < g + 1) = true := by rw [decide_eq_true_eq]; omega
   have hg1 : IntKind.u64.wrap (((g + 1 : Nat) : Int) - 1) = (g : Int) := by
    rw [show ((g + 1 : Nat) : Int) - 1 = (g : Int) by omega]; exact IntWalk.u64_in _ (by omega)
   have HG1 := Jh hg1; have hrr := HRR9.out; rw [keysR] at hrr; obtain ⟨nx, nj, ne, hn9⟩ : ∃ x j e, Kbh B.data.toList (i : Int) = (x, j, e) := ⟨_, _, _, rfl⟩; have hT1 := Khy pr i B wo HP9.out.r (by omega); rw [hn9] at hrr hT1; dsimp only at hrr hT1; have HT1 := Jh hT1; have HRRa := Jh hrr; clear hg1 hrr hT1 hn9; go_wp2_with fail
   refine HT1.out.mono ?_; intro e w1 h1
   by_cases hne : ne = 0
   rotate_left
   ·rw [if_neg hne] at h1; obtain ⟨⟨f, hf, rfl⟩, hb1⟩ := h1; have hrr := HRRa.out; rw [if_pos hne] at hrr; have HNONE : Hid (r = none) := Jh hrr.symm; have hpn := HP9.out.p.below hb1; clear hrr hb1; unfold Kaq; go_wp2_with fail
    refine leaves_cons (f := 87) (args := #[.pointer (some ⟨q, 0, none⟩), .pointer (some ⟨q + 1, 0, none⟩), .pointer (some ⟨q + 2, 0, none⟩)]) (by simp) (by simp [go_sem]) ?_; refine (Kcs w1 hpn H0.out HN.out HQ.out _ _).mono ?_; rintro e u' w'' ⟨rfl, rfl, k1, k2, k3⟩; refine Kel k1 k2 k3 HNONE.out ?_ ?_ HQ.out
    all_goals rfl
   subst hne; have hrr := HRRa.out; rw [if_neg (by simp)] at hrr; rw [if_pos rfl] at h1; obtain ⟨rfl, hr1, hk1⟩ := h1; have hp1 := HP9.out.kept HORD.out.1 HORD.out.2 hk1 hr1; have HP1 := Jh hp1; obtain ⟨vx, vj, ve, hv9⟩ : ∃ x j e, Kbh B.data.toList (nj : Int) = (x, j, e) := ⟨_, _, _, rfl⟩; have hT2 := Khy pr nj B w1 hr1 (by omega); rw [hv9] at hrr hT2; dsimp only at hrr hT2; have HT2 := Jh hT2; have HVJ := Jh hv9; have HRRb := Jh hrr; clear hrr hT2 hv9 hr1 hk1 hp1 HT1 HRRa; obtain ⟨SX, hSX⟩ : ∃ S : ByteArray, (⟨nx.toArray⟩ : ByteArray) = S := ⟨_, rfl⟩; have HSX := Jh hSX; unfold txtV; rw [hSX]; clear hSX; go_wp2_with fail
   refine HT2.out.mono ?_; intro e w2 h2
   by_cases hve : ve = 0
   rotate_left
   ·rw [if_neg hve] at h2; obtain ⟨⟨f, hf, rfl⟩, hb2⟩ := h2; have hrr := HRRb.out; rw [if_pos hve] at hrr; have HNONE : Hid (r = none) := Jh hrr.symm; have hpn := HP1.out.p.below hb2; clear hrr hb2; unfold Kaq; go_wp2_with fail
    refine leaves_cons (f := 87) (args := #[.pointer (some ⟨q, 0, none⟩), .pointer (some ⟨q + 1, 0, none⟩), .pointer (some ⟨q + 2, 0, none⟩)]) (by simp) (by simp [go_sem]) ?_; refine (Kcs w2 hpn H0.out HN.out HQ.out _ _).mono ?_; rintro e u' w'' ⟨rfl, rfl, k1, k2, k3⟩; refine Kel k1 k2 k3 HNONE.out ?_ ?_ HQ.out
    all_goals rfl
   subst hve; have hrr := HRRb.out; rw [if_neg (by simp)] at hrr; rw [if_pos rfl] at h2; obtain ⟨rfl, hr2, hk2⟩ := h2; have HP2 := Jh (HP1.out.kept HORD.out.1 HORD.out.2 hk2 hr2); have HRRc := Jh hrr; clear hrr hr2 hk2 HT2 HRRb; obtain ⟨SV, hSV⟩ : ∃ S : ByteArray, (⟨vx.toArray⟩ : ByteArray) = S := ⟨_, rfl⟩; have HSV := Jh hSV; unfold txtV; rw [hSV]; clear hSV; have hvj : vj ≤ B.size := (Kix HVJ.out).2.1; have HVL := Jh hvj; have hb3 : Below w2.heap.size w2 (w2.alloc (.cells #[.string SX, .string SV] 99)) := (Below.refl _ _).alloc (Nat.le_refl _) _; have hp3 : Blk (w2.alloc (.cells #[.string SX, .string SV] 99)) w2.heap.size 99 #[.string SX, .string SV] := Blk.new _ _ _; go_upto_region 11 with fail
   obtain ⟨w3, hw3⟩ : ∃ w3, w2.alloc (.cells #[.string SX, .string SV] 99) = w3 := ⟨_, rfl⟩; obtain ⟨pl, hpl⟩ : ∃ pl, w2.heap.size = pl := ⟨_, rfl⟩; have HPL := Jh hpl; rw [hw3] at hb3 hp3; rw [hpl] at hp3
   try rw [hw3]
   try rw [hpl]
   have hP3 := HP2.out.below HORD.out.1 HORD.out.2 hb3; have HP3 := Jh hP3; have HPL3 := Jh hp3; have hr3 := hP3.r; have hplr : pr < pl := by rw [← hpl]; exact HP2.out.r.lt
   clear hb3 hw3 hP3 hp3 hpl hvj
   cases hpo : postR B.data.toList vj with
   | none =>
    have hT := Kjk B vj w3.drew (by omega) HVL.out; rw [hpo] at hT
    have HT := Jh (Klr pr vj B w3 hr3 (fun _ _ _ => False) True (hT.mono (by
     rintro e w' ⟨f, hf, rfl, hb⟩
     exact ⟨Kbw hb, .inr ⟨trivial, _, _, f, hf, rfl⟩⟩)))
    have HNONE : Hid (r = none) := Jh (by rw [← HRRc.out, hpo]); clear hT hr3 hpo; go_wp2_with fail
    refine HT.out.mono ?_; rintro e w5 (⟨v, j, w6, rfl, hno, _⟩ | ⟨_, f, hf, rfl, hb⟩)
    ·exact hno.elim
    have hpn := HP3.out.p.below hb; clear hb; unfold Kaq; go_wp2_with fail
    refine leaves_cons (f := 87) (args := #[.pointer (some ⟨q, 0, none⟩), .pointer (some ⟨q + 1, 0, none⟩), .pointer (some ⟨q + 2, 0, none⟩)]) (by simp) (by simp [go_sem]) ?_; refine (Kcs w5 hpn H0.out HN.out HQ.out _ _).mono ?_; rintro e u' w'' ⟨rfl, rfl, k1, k2, k3⟩; refine Kel k1 k2 k3 HNONE.out ?_ ?_ HQ.out
    all_goals rfl
   | some x =>
    obtain ⟨l3, i4⟩ := x; have hT := Kjk B vj w3.drew (by omega) HVL.out; rw [hpo] at hT
    have HT := Jh (Klr pr vj B w3 hr3 (fun v j w' => j = i4 ∧ w'.ownsRow w3.heap.size 3 1 v l3.length (l3.flatMap encN)) False (hT.mono (by
     rintro e w' ⟨v, rfl, hown, hb⟩
     exact ⟨Kbw hb, .inl ⟨_, i4, rfl, rfl, hown⟩⟩)))
    have hrr := HRRc.out; rw [hpo] at hrr; dsimp only at hrr; have HRRd := Jh hrr; clear hT hr3 hpo hrr; go_wp2_with fail
    refine HT.out.mono ?_; rintro e w5 (⟨v, j, w6, rfl, ⟨rfl, hown⟩, hb6, rfl⟩ | ⟨hno, _⟩)
    rotate_left
    ·exact hno.elim
    have hk7 := Kiv (pr := pr) (v := .int .i64 (j : Int)) hb6; have hr7 : Rdr pr B j (w6.setCell ⟨pr, 1, none⟩ (.int .i64 (j : Int))) := HP3.out.r.set hb6; have hown7 := Kcj (p := pr) (i := 1) (u := .int .i64 (j : Int)) hown (show Blk w6 pr _ _ from HP3.out.r.below hb6) (by decide); have hp7 := HP3.out.kept HORD.out.1 HORD.out.2 hk7 hr7; have hpl7 := HPL3.out.kept hk7 HPL3.out.lt (by simp; omega); obtain ⟨A, cp, rfl, _, _, _⟩ := Elems.of_own (enc := encN) (fun _ _ => rfl) rfl hown7 rfl; have hown8 := hown7.mono (base' := m + 3) (by have h1 := HPL3.out.lt; have h2 := HP2.out.b.lt; have h3 := HPL.out; omega); obtain ⟨w7, hw7⟩ : ∃ w7, w6.setCell ⟨pr, 1, none⟩ (.int .i64 (j : Int)) = w7 := ⟨_, rfl⟩; rw [hw7] at hp7 hpl7 hown8; rw [hw7]; obtain ⟨dq, hdq⟩ : ∃ d, decide ((⟨nx, vx⟩ : Lb) = Q) = d := ⟨_, rfl⟩; have eF : ∀ F : ByteArray, (⟨F.data.toList.toArray⟩ : ByteArray) = F := fun F => by cases F; simp
    have heq : ∀ W : World, (binOp .eql 99 (.agg #[.string SX, .string SV]) (.agg #[.string N, .string V])).run Tryz.prog W = .ok (.bool dq) W := fun W => by
     have h1 := Qhl ⟨nx, vx⟩ ⟨N.data.toList, V.data.toList⟩ W; rw [show decide ((⟨nx, vx⟩ : Lb) = ⟨N.data.toList, V.data.toList⟩) = dq from by rw [HQQ.out]; exact hdq] at h1; dsimp only at h1; rw [HSX.out, HSV.out] at h1; exact h1
    have p0 : w7.cell? ⟨pl, 0, none⟩ = some (.string SX) := hpl7.cell 0; have p1 : w7.cell? ⟨pl, 1, none⟩ = some (.string SV) := hpl7.cell 1; obtain ⟨vo, hvo, _⟩ := hp7.o; have c0 : w7.cell? ⟨q + 1, 0, none⟩ = some vo := hvo.cell 0; have cf := hvo.frozen 0; have HP7 := Jh hp7; have HOWN8 := Jh hown8; have HDQ := Jh hdq; clear hk7 hr7 hown7 hp7 hpl7 hown8 hw7 hb6 hown hdq eF hvo
    cases dq with
    | true =>
     have hrr := HRRd.out; rw [if_pos (of_decide_eq_true HDQ.out)] at hrr; have HRRe := Jh hrr; clear hrr; go_wp2_with fail
     go_roundg g
     case measure => omega
     case rel => exact ⟨l3, j, by first | rfl | exact vi HG1.out, by omega, HP7.out.put HORD.out.1 HORD.out.2 HOWN8.out, HRRe.out⟩
    | false =>
     have hrr := HRRd.out; rw [if_neg (of_decide_eq_false HDQ.out)] at hrr; have HRRe := Jh hrr; clear hrr; go_wp2_with fail
     go_roundg g
     case measure => omega
     case rel => exact ⟨l, j, by first | rfl | exact vi HG1.out, by omega, HP7.out, HRRe.out⟩
theorem Qcx : (Tryz.prog.info? 2).map (fun i => (i.zero, i.size, i.bytes)) = some (some (.int .i64 0), 1, 8) := by kernel_rfl
def Kfk (w a : Wnd) (first : Bool) : Nat :=
 if w.start < 0 ∨ 1125899906842624 < w.start then 91 else if first = false ∧ w.start ≤ a.start then 90 else if w.count < 1 ∨ 4611686018427387904 < w.count then 110 else 0
theorem Kwe (w a : Wnd) (first : Bool) : Kfk w a first = 0 ↔ Kcw w a first = 0 := by
 unfold Kfk Kcw
 repeat' split
 all_goals simp
def prevW (W : List Wnd) (i : Nat) : Wnd := if i = 0 then wnd0 else W[i - 1]!
theorem Kse (W : List Wnd) (A : Option Addr) (n c i : Nat) (w : World) (hE : Elems w w.heap.size 6 Kau A n W) (hn : n ≤ 1099511627776) (hi : i < n) :
  Calls Tryz.prog 144 #[.slice A n c, .int .i64 (i : Int)] w fun e w' => e = .returned (.int .i64 ((Kfk W[i]! (prevW W i) (decide (i = 0)) : Nat) : Int)) ∧ Below w.heap.size w w' := by
 obtain ⟨b, off, rfl, hbl, hg⟩ := hE.get hi; obtain ⟨R, hR⟩ : ∃ R, Kfk W[i]! (prevW W i) (decide (i = 0)) = R := ⟨_, rfl⟩; rw [hR]; obtain ⟨x, hx⟩ : ∃ x, W[i]! = x := ⟨_, rfl⟩; rw [hx] at hg hR; have e0 : w.cell? ⟨b, off + i * 6, none⟩ = some _ := hg 0 _ rfl; have e1 : w.cell? ⟨b, off + i * 6 + 1, none⟩ = some _ := hg 1 _ rfl; have e2 : w.cell? ⟨b, off + i * 6 + 2, none⟩ = some _ := hg 2 _ rfl; have e3 : w.cell? ⟨b, off + i * 6 + 3, none⟩ = some _ := hg 3 _ rfl; have e4 : w.cell? ⟨b, off + i * 6 + 4, none⟩ = some _ := hg 4 _ rfl; have e5 : w.cell? ⟨b, off + i * 6 + 5, none⟩ = some _ := hg 5 _ rfl; have HR := Jh hR; clear hg hx hR; go_enter Tryz.func144, Tryz.ntmps144
 go_upto_region 2 with fail
 have hb1 : Below w.heap.size w (w.alloc (.cells #[.int .i64 x.start, .int .i64 x.count, .int .u64 (x.sum : Int), .int .u64 (x.min : Int), .int .u64 (x.max : Int), .int .u64 (x.last : Int)] 136)) := (Below.refl _ _).alloc (Nat.le_refl _) _; have hp : Blk (w.alloc (.cells #[.int .i64 x.start, .int .i64 x.count, .int .u64 (x.sum : Int), .int .u64 (x.min : Int), .int .u64 (x.max : Int), .int .u64 (x.last : Int)] 136)) w.heap.size 136 #[.int .i64 x.start, .int .i64 x.count, .int .u64 (x.sum : Int), .int .u64 (x.min : Int), .int .u64 (x.max : Int), .int .u64 (x.last : Int)] := Blk.new _ _ _; obtain ⟨w1, hw1⟩ : ∃ w1, w.alloc (.cells #[.int .i64 x.start, .int .i64 x.count, .int .u64 (x.sum : Int), .int .u64 (x.min : Int), .int .u64 (x.max : Int), .int .u64 (x.last : Int)] 136) = w1 := ⟨_, rfl⟩; obtain ⟨p, hpe⟩ : ∃ p, w.heap.size = p := ⟨_, rfl⟩; rw [hw1] at hb1 hp ⊢; have HB1 := Jh hb1; rw [hpe] at hp ⊢; have HPE := Jh hpe; have q0 : w1.cell? ⟨p, 0, none⟩ = some _ := hp.cell 0; have q1 : w1.cell? ⟨p, 1, none⟩ = some _ := hp.cell 1; have hpl := hp.lt; have HP := Jh hp; clear hw1 hpe e0 e1 e2 e3 e4 e5 hb1 hp
 by_cases h1 : x.start < 0 ∨ 1125899906842624 < x.start
 ·have hre : 91 = R := by rw [← HR.out]; unfold Kfk; rw [if_pos h1]
  have HRE := Jh hre
  by_cases h2 : x.start < 0
  ·have el : decide (x.start < 0) = true := decide_eq_true h2; clear hre h1; go_wp2_with fail
   go_ret
   rw [← HRE.out]; exact ⟨rfl, HB1.out⟩
  ·have el : decide (x.start < 0) = false := decide_eq_false h2; have el2 : decide (1125899906842624 < x.start) = true := decide_eq_true (h1.resolve_left h2); clear hre h1; go_wp2_with fail
   go_ret
   rw [← HRE.out]; exact ⟨rfl, HB1.out⟩
 ·have el : decide (x.start < 0) = false := by rw [decide_eq_false_iff_not]; omega
  have el2 : decide (1125899906842624 < x.start) = false := by rw [decide_eq_false_iff_not]; omega
  cases i with
  | zero =>
   have hR2 : (if x.count < 1 ∨ 4611686018427387904 < x.count then 110 else 0) = R := by
    rw [← HR.out]; unfold Kfk; rw [if_neg h1, if_neg (show ¬ (decide (0 = 0) = false ∧ x.start ≤ (prevW W 0).start) by simp)]
   have HR2 := Jh hR2; clear hR2 h1; go_upto_region 4 with fail
   refine Kad (by kernel_rfl) (by kernel_rfl) ?_
   repeat (go_big_quiet_step (fail))
   refine wpQuiet_nil ?_; rintro w2 ⟨⟨_, hb2⟩, rfl⟩; have hp2 := HP.out.below hb2 HP.out.lt; have q1 : w2.cell? ⟨p, 1, none⟩ = some _ := hp2.cell 1; have hpl2 := hp2.lt; have hB2 := Jh (then_ HB1.out hb2); clear hp2 hb2
   by_cases h5 : x.count < 1
   ·have el5 : decide (x.count < 1) = true := decide_eq_true h5; have hre : 110 = R := by rw [← HR2.out]; simp [h5]
    have HRE := Jh hre; clear hre; go_wp2_with fail
    go_ret
    rw [← HRE.out]; exact ⟨rfl, hB2.out⟩
   ·have el5 : decide (x.count < 1) = false := decide_eq_false h5
    by_cases h6 : 4611686018427387904 < x.count
    ·have el6 : decide (4611686018427387904 < x.count) = true := decide_eq_true h6; have hre : 110 = R := by rw [← HR2.out]; simp [h6]
     have HRE := Jh hre; clear hre; go_wp2_with fail
     go_ret
     rw [← HRE.out]; exact ⟨rfl, hB2.out⟩
    ·have el6 : decide (4611686018427387904 < x.count) = false := decide_eq_false h6; have hre : 0 = R := by rw [← HR2.out]; simp [h5, h6]
     have HRE := Jh hre; clear hre; go_wp2_with fail
     go_ret
     rw [← HRE.out]; exact ⟨rfl, hB2.out⟩
  | succ j =>
   obtain ⟨b', off', e', _, hg'⟩ := hE.get (i := j) (by omega); injection e' with e'; injection e' with e' e2; subst e' e2; obtain ⟨y, hy⟩ : ∃ y, W[j]! = y := ⟨_, rfl⟩; rw [hy] at hg'; have hpw : prevW W (j + 1) = y := by unfold prevW; rw [if_neg (by omega), Nat.add_sub_cancel]; exact hy
   have y0 : w1.cell? ⟨b, off + j * 6, none⟩ = some _ := later HB1.out (hg' 0 _ rfl); have hbl1 : b < w1.heap.size := by have := HB1.out.size; omega
   obtain ⟨F, hF⟩ : ∃ F : Bool, decide (x.start ≤ y.start) = F := ⟨_, rfl⟩
   have hR2 : (if F = true then 90 else if x.count < 1 ∨ 4611686018427387904 < x.count then 110 else 0) = R := by
    rw [← HR.out]; unfold Kfk; rw [if_neg h1, ← hF, hpw]; simp
   have HR2 := Jh hR2; have z1 : IntKind.i64.wrap ((j : Int) + 1 - 1) = (j : Int) := by rw [show (j : Int) + 1 - 1 = (j : Int) by omega]; exact IntWalk.i64_in _ (by omega)
   have z2 : (0 : Int) ≤ (j : Int) + 1 := by omega
   have z3 : ((j : Int) + 1).toNat = j + 1 := by omega
   have z4 : (j : Int) + 1 < (n : Int) := by omega
   have z5 : (j : Int) < (n : Int) := by omega
   have z6 : decide (0 < (j : Int) + 1) = true := by rw [decide_eq_true_eq]; omega
   clear hR2 h1 hg' hy hpw; go_upto_region 4 with fail
   refine Kad (by kernel_rfl) (by kernel_rfl) ?_
   repeat (go_big_quiet_step (fail))
   refine wpQuiet_nil ?_; rintro w2 ⟨⟨_, hb2⟩, rfl⟩; have hp2 := HP.out.below hb2 HP.out.lt; have q1 : w2.cell? ⟨p, 1, none⟩ = some _ := hp2.cell 1; have hpl2 := hp2.lt; have hB2 := Jh (then_ HB1.out hb2); clear hp2 hb2 z1 z2 z3 z4 z5 z6 y0 hF
   cases F with
   | true =>
    have hre : 90 = R := by rw [← HR2.out]; rfl
    have HRE := Jh hre; clear hre; go_wp2_with fail
    go_ret
    rw [← HRE.out]; exact ⟨rfl, hB2.out⟩
   | false =>
    by_cases h5 : x.count < 1
    ·have el5 : decide (x.count < 1) = true := decide_eq_true h5; have hre : 110 = R := by rw [← HR2.out]; simp [h5]
     have HRE := Jh hre; clear hre; go_wp2_with fail
     go_ret
     rw [← HRE.out]; exact ⟨rfl, hB2.out⟩
    ·have el5 : decide (x.count < 1) = false := decide_eq_false h5
     by_cases h6 : 4611686018427387904 < x.count
     ·have el6 : decide (4611686018427387904 < x.count) = true := decide_eq_true h6; have hre : 110 = R := by rw [← HR2.out]; simp [h6]
      have HRE := Jh hre; clear hre; go_wp2_with fail
      go_ret
      rw [← HRE.out]; exact ⟨rfl, hB2.out⟩
     ·have el6 : decide (4611686018427387904 < x.count) = false := decide_eq_false h6; have hre : 0 = R := by rw [← HR2.out]; simp [h5, h6]
      have HRE := Jh hre; clear hre; go_wp2_with fail
      go_ret
      rw [← HRE.out]; exact ⟨rfl, hB2.out⟩
theorem Kxk (S : List Smp) (W : List Wnd) (SA WA : Option Addr) (sn wn sc wc : Nat) (w : World) (hS : Elems w w.heap.size 2 Kbg SA sn S) (hW : Elems w w.heap.size 6 Kau WA wn W) (hs : sn ≤ 1099511627776) (hw : wn ≤ 1099511627776) :
  Calls Tryz.prog 72 #[.slice SA sn sc, .slice WA wn wc] w fun e w' => ∃ A c, e = .returned (.slice A (sn + wn) c) ∧ w'.ownsRow w.heap.size 2 1 (.slice A (sn + wn) c) (sn + wn) ((S.map Smp.t ++ W.map Wnd.start).map fun z => Value.int .i64 z) ∧ Below w.heap.size w w' := by
 obtain ⟨i6, hi6, hz0, hz1, hz2⟩ := info_parts Qcx; obtain ⟨q, hq⟩ : ∃ q, w.heap.size = q := ⟨_, rfl⟩; have HQ := Jh hq; rw [hq]; clear hq; go_enter Tryz.func72, Tryz.ntmps72
 go_wp2_with fail
 go_loopg [5, 6] sn (fun g s5 s6 wr => ∃ (i : Nat) (v5 : Value), v5 = s5 ∧ i + g = sn ∧ s6 = .int .i64 (i : Int) ∧ wr.ownsRow q 2 1 v5 (i) (((S.take i).map Smp.t).map fun z => Value.int .i64 z) ∧ Below q w wr)
 case atStart => exact ⟨0, _, rfl, by omega, rfl, World.ownsRow_nil _ _ _ _, Below.refl _ _⟩
 case round =>
  obtain ⟨i, v5, rfl, hig, rfl, hrow, hB⟩ := hrel; have HIG := Jh hig; have HROW := Jh hrow; have HB := Jh hB; clear hig hB
  by_cases hi : i < sn
  ·have el : decide (i < sn) = true := by rw [decide_eq_true_eq]; exact hi
   obtain ⟨wk, rfl⟩ : ∃ x, x = wr := ⟨_, rfl⟩; have hBw : Below w.heap.size w wk := by rw [HQ.out]; exact HB.out
   obtain ⟨b, off, rfl, hbl, hg⟩ := (hS.below hBw).get hi; have hil : i < S.length := by have := hS.len; omega
   obtain ⟨x, hx⟩ : ∃ x, S[i]! = x := ⟨_, rfl⟩; rw [hx] at hg; have e0 : wk.cell? ⟨b, off + i * 2, none⟩ = some _ := hg 0 _ rfl; have htk : S.take (i + 1) = S.take i ++ [x] := by rw [List.take_succ_eq_append_getElem hil, ← hx, getElem!_pos _ i hil]
   have hbk : b < wk.heap.size := by have := hBw.size; omega
   have hqz : q ≤ wk.heap.size := by have := HQ.out; have := hBw.size; omega
   have HTK := Jh htk; clear hx hg htk hBw; go_wp2_with (at_builtin; refine wpList_append_own_at _ rfl _ _ 125 rfl q 2 i6 (.int .i64 0) 1 8 Tryz.underlying125 hi6 hz0 hz1 hz2 rfl (by decide) _ _ _ rfl (hrow.alloc _) ⟨wk.heap.size, 0, none⟩ 1 1 [.int .i64 x.t] rfl rfl (Kaw (l := [.int .i64 x.t]) (Blk.new wk _ _)) ?p2 ?p3 ?p4 ?p5 ?_)
   case p2 => intro u hu; rw [List.mem_singleton.1 hu]; rfl
   case p3 => unfold maxLen; omega
   case p4 => omega
   case p5 => simp; omega
   intro v' w5 hown' hgrow0 _ _; have hgrow := (World.grownBy_alloc wk _ _).trans hgrow0; have hB5 : Below q w w5 := HB.out.trans ⟨hgrow.os, hgrow.tape, hgrow.output, hgrow.size, fun j hj => hgrow.block j (by omega) (fun e => by have := (HROW.out.lt j e.symm).1; omega)⟩
   have hrow5 : w5.ownsRow q 2 1 v' (i + 1) (((S.take (i + 1)).map Smp.t).map fun z => Value.int .i64 z) := by
    rw [HTK.out]; simpa [List.map_map, List.map_take, List.append_assoc] using hown'
   have HROW5 := Jh hrow5; have HB5 := Jh hB5; clear hown' hgrow0 hgrow hB5 hrow5 hrow; go_wp2_with fail
   go_roundg (gk - 1)
   case measure => have := HIG.out; omega
   case rel => exact ⟨i + 1, _, rfl, by have := HIG.out; omega, by go_num, HROW5.out, HB5.out⟩
  ·have el : decide (i < sn) = false := by rw [decide_eq_false_iff_not]; exact hi
   have hin : i = sn := by have := HIG.out; omega
   have htk : S.take i = S := List.take_of_length_le (by have := hS.len; omega); have hrow := HROW.out; rw [htk, hin] at hrow; have HROWF := Jh hrow; have HBF := Jh HB.out; clear hrow htk hin; go_wp2_with fail
   go_loopg [5, 7] wn (fun g s5 s7 wr => ∃ (i : Nat) (v5 : Value), v5 = s5 ∧ i + g = wn ∧ s7 = .int .i64 (i : Int) ∧ wr.ownsRow q 2 1 v5 (sn + i) ((S.map Smp.t ++ (W.take i).map Wnd.start).map fun z => Value.int .i64 z) ∧ Below q w wr)
   case atStart => exact ⟨0, _, rfl, by omega, rfl, by simpa using HROWF.out, HBF.out⟩
   case round =>
    obtain ⟨i, v5, rfl, hig, rfl, hrow, hB⟩ := hrel; have HIG := Jh hig; have HROW := Jh hrow; have HB := Jh hB; clear hig hB
    by_cases hi : i < wn
    ·have el : decide (i < wn) = true := by rw [decide_eq_true_eq]; exact hi
     obtain ⟨wk, rfl⟩ : ∃ x, x = wr := ⟨_, rfl⟩; have hBw : Below w.heap.size w wk := by rw [HQ.out]; exact HB.out
     obtain ⟨b, off, rfl, hbl, hg⟩ := (hW.below hBw).get hi; have hil : i < W.length := by have := hW.len; omega
     obtain ⟨x, hx⟩ : ∃ x, W[i]! = x := ⟨_, rfl⟩; rw [hx] at hg; have e0 : wk.cell? ⟨b, off + i * 6, none⟩ = some _ := hg 0 _ rfl; have htk : W.take (i + 1) = W.take i ++ [x] := by rw [List.take_succ_eq_append_getElem hil, ← hx, getElem!_pos _ i hil]
     have hbk : b < wk.heap.size := by have := hBw.size; omega
     have hqz : q ≤ wk.heap.size := by have := HQ.out; have := hBw.size; omega
     have HTK := Jh htk; clear hx hg htk hBw; go_wp2_with (at_builtin; refine wpList_append_own_at _ rfl _ _ 125 rfl q 2 i6 (.int .i64 0) 1 8 Tryz.underlying125 hi6 hz0 hz1 hz2 rfl (by decide) _ _ _ rfl (hrow.alloc _) ⟨wk.heap.size, 0, none⟩ 1 1 [.int .i64 x.start] rfl rfl (Kaw (l := [.int .i64 x.start]) (Blk.new wk _ _)) ?p2 ?p3 ?p4 ?p5 ?_)
     case p2 => intro u hu; rw [List.mem_singleton.1 hu]; rfl
     case p3 => unfold maxLen; omega
     case p4 => omega
     case p5 => simp; omega
     intro v' w5 hown' hgrow0 _ _; have hgrow := (World.grownBy_alloc wk _ _).trans hgrow0; have hB5 : Below q w w5 := HB.out.trans ⟨hgrow.os, hgrow.tape, hgrow.output, hgrow.size, fun j hj => hgrow.block j (by omega) (fun e => by have := (HROW.out.lt j e.symm).1; omega)⟩
     have hrow5 : w5.ownsRow q 2 1 v' (sn + i + 1) ((S.map Smp.t ++ (W.take (i + 1)).map Wnd.start).map fun z => Value.int .i64 z) := by
      rw [HTK.out]; simpa [List.map_map, List.map_take, List.append_assoc] using hown'
     have HROW5 := Jh hrow5; have HB5 := Jh hB5; clear hown' hgrow0 hgrow hB5 hrow5 hrow; go_wp2_with fail
     go_roundg (gk - 1)
     case measure => have := HIG.out; omega
     case rel => exact ⟨i + 1, _, rfl, by have := HIG.out; omega, by go_num, HROW5.out, HB5.out⟩
    ·have el : decide (i < wn) = false := by rw [decide_eq_false_iff_not]; exact hi
     have hin : i = wn := by have := HIG.out; omega
     have htk : W.take i = W := List.take_of_length_le (by have := hW.len; omega); have hrow := HROW.out; rw [htk, hin] at hrow; have HROWZ := Jh hrow; have HBZ := Jh HB.out; clear hrow htk hin; obtain ⟨AF, cF, rfl⟩ := Kbq HROWZ.out; go_wp2_with fail
     go_ret
     exact ⟨AF, cF, rfl, HROWZ.out, HBZ.out⟩
theorem Kjx {W : List Wnd} {i : Nat} : prevW W (i + 1) = W[i]! := by unfold prevW; rw [if_neg (by omega), Nat.add_sub_cancel]
theorem Qca (W : List Wnd) : prevW W 0 = wnd0 := rfl
theorem Kdu (v : Nat) : (⟨(uintT v).toArray⟩ : ByteArray).size ≤ 11 := (Kab v).2
theorem Kpw (W : List Wnd) (A : Option Addr) (n c : Nat) (w : World) (hE : Elems w w.heap.size 6 Kau A n W) (hn : n ≤ 1099511627776) (hv : ∀ x ∈ W, Kaz x) :
  Calls Tryz.prog 71 #[.slice A n c] w fun e w' => (∃ (S : ByteArray) (k : Nat), e = .returned (.tuple #[.string S, .int .i64 (k : Int)]) ∧ (k = 0 ↔ Kbx wnd0 true W = true)) ∧ Below w.heap.size w w' := by
 have HE := Jh hE; have HV := Jh hv; have HLEN := Jh hE.len; obtain ⟨R, hR⟩ : ∃ R, Kbx wnd0 true W = R := ⟨_, rfl⟩; rw [hR]; have HR := Jh hR; have HUN := Jh (fun w => Kdn n (by omega) w); clear hE hv hR; go_enter Tryz.func71, Tryz.ntmps71
 go_wp2_with fail
 refine (HUN.out w).mono ?_; rintro _ w1 ⟨rfl, hb1⟩; obtain ⟨Z, hZ⟩ : ∃ Z : ByteArray, (⟨(uintT n).toArray⟩ : ByteArray) = Z := ⟨_, rfl⟩; have hzs : Z.size ≤ 11 := by rw [← hZ]; exact Kdu n
 rw [hZ]; go_upto_region 3 with fail
 have hb2 : Below w.heap.size w (w1.alloc (.cells #[.int .i64 0, .int .i64 0, .int .u64 0, .int .u64 0, .int .u64 0, .int .u64 0] 136)) := hb1.alloc hb1.size _; have hp : Blk (w1.alloc (.cells #[.int .i64 0, .int .i64 0, .int .u64 0, .int .u64 0, .int .u64 0, .int .u64 0] 136)) w1.heap.size 136 #[.int .i64 wnd0.start, .int .i64 wnd0.count, .int .u64 (wnd0.sum : Int), .int .u64 (wnd0.min : Int), .int .u64 (wnd0.max : Int), .int .u64 (wnd0.last : Int)] := Blk.new _ _ _; obtain ⟨w2, hw2⟩ : ∃ w2, w1.alloc (.cells #[.int .i64 0, .int .i64 0, .int .u64 0, .int .u64 0, .int .u64 0, .int .u64 0] 136) = w2 := ⟨_, rfl⟩; obtain ⟨p, hpe⟩ : ∃ p, w1.heap.size = p := ⟨_, rfl⟩; have hpq : w.heap.size ≤ p := by rw [← hpe]; exact hb1.size
 rw [hw2] at hb2 hp
 try rw [hw2]
 rw [hpe] at hp
 try rw [hpe]
 have HB2 := Jh hb2; have HP := Jh hp; obtain ⟨q, hq⟩ : ∃ q, w.heap.size = q := ⟨_, rfl⟩; have HQ := Jh hq; rw [hq] at HB2 hpq; clear hw2 hpe hb1 hb2 hp hZ hq; go_wp2_with fail
 go_loopg [4, 6] n (fun g s4 s6 wr => ∃ (i : Nat) (Z : ByteArray), i + g = n ∧ s6 = .int .i64 (i : Int) ∧ s4 = .string Z ∧ Z.size ≤ 11 + 66 * i ∧ Kbx (prevW W i) (decide (i = 0)) (W.drop i) = R ∧ (0 ≤ (prevW W i).start ∧ (prevW W i).start ≤ 1125899906842624 ∧ Kaz (prevW W i)) ∧ Blk wr p 136 #[.int .i64 (prevW W i).start, .int .i64 (prevW W i).count, .int .u64 ((prevW W i).sum : Int), .int .u64 ((prevW W i).min : Int), .int .u64 ((prevW W i).max : Int), .int .u64 ((prevW W i).last : Int)] ∧ Below q w wr)
 case atStart => exact ⟨0, Z, by omega, rfl, rfl, by omega, HR.out, by rw [Qca]; exact Kpn, HP.out, HB2.out⟩
 case round =>
  obtain ⟨i, Z, hig, rfl, rfl, hzl, hfo, hpb, hbk, hB⟩ := hrel; have HIG := Jh hig; have HZL := Jh hzl; have HFO := Jh hfo; have HPB := Jh hpb; have HBK := Jh hbk; have HB := Jh hB; clear hig hzl hfo hpb hbk hB
  by_cases hi : i < n
  ·have el : decide (i < n) = true := by rw [decide_eq_true_eq]; exact hi
   obtain ⟨wk, rfl⟩ : ∃ x, x = wr := ⟨_, rfl⟩; have hBw : Below w.heap.size w wk := by rw [HQ.out]; exact HB.out
   have hEk := (HE.out.below hBw).more hBw.size; have HFA := Jh (Kse W A n c i wk hEk hn hi); have hil : i < W.length := by have := HLEN.out; omega
   have hdr : W.drop i = W[i]! :: W.drop (i + 1) := by rw [getElem!_pos W i hil]; exact List.drop_eq_getElem_cons hil
   have hfo := HFO.out; rw [hdr, Kbx] at hfo; have hbx := HV.out W[i]! (by rw [getElem!_pos W i hil]; exact List.getElem_mem hil); obtain ⟨b, off, hA, hbl, hg⟩ := hEk.get hi; subst hA; obtain ⟨x, hx⟩ : ∃ x, W[i]! = x := ⟨_, rfl⟩; obtain ⟨a, ha⟩ : ∃ a, prevW W i = a := ⟨_, rfl⟩; rw [hx] at hfo hbx hg HFA; rw [ha] at hfo HPB HBK HFA; obtain ⟨f, hf⟩ : ∃ f, Kfk x a (decide (i = 0)) = f := ⟨_, rfl⟩; rw [hf] at HFA; have hfz := Kwe x a (decide (i = 0)); rw [hf] at hfz
   have hf110 : f ≤ 110 := by
    rw [← hf]; unfold Kfk
    repeat' split
    all_goals omega
   have HFO2 := Jh hfo; have HFZ := Jh hfz; have HX := Jh hx; have HBX := Jh hbx; have HAA := Jh ha; have HG := Jh hg; have hqk : q ≤ wk.heap.size := by have := HB.out.size; have := HQ.out; omega
   clear hfo hfz hx hbx ha hg hf hdr hEk hBw; go_wp2_with fail
   refine HFA.out.mono ?_; rintro _ w3 ⟨rfl, hb3⟩; have HB3 := Jh (HB.out.trans (hb3.mono hqk)); have HBK3 := Jh (HBK.out.below hb3 HBK.out.lt); have hbl3 : b < w3.heap.size := by have := hb3.size; omega
   have hq3 : q ≤ w3.heap.size := by have := hb3.size; omega
   have m0 : w3.cell? ⟨b, off + i * 6, none⟩ = some _ := later hb3 (HG.out 0 _ rfl); have m1 : w3.cell? ⟨b, off + i * 6 + 1, none⟩ = some _ := later hb3 (HG.out 1 _ rfl); have m2 : w3.cell? ⟨b, off + i * 6 + 2, none⟩ = some _ := later hb3 (HG.out 2 _ rfl); have m3 : w3.cell? ⟨b, off + i * 6 + 3, none⟩ = some _ := later hb3 (HG.out 3 _ rfl); have m4 : w3.cell? ⟨b, off + i * 6 + 4, none⟩ = some _ := later hb3 (HG.out 4 _ rfl); have m5 : w3.cell? ⟨b, off + i * 6 + 5, none⟩ = some _ := later hb3 (HG.out 5 _ rfl); clear hb3
   by_cases hf0 : f = 0
   ·subst hf0; have hfol := HFZ.out.1 rfl; have hfo2 : Kbx x false (W.drop (i + 1)) = R := by rw [← HFO2.out, hfol]; simp
    obtain ⟨⟨k1, k2, k3, k4⟩, k5⟩ := (Kew x a _).1 hfol
    have hge : a.start ≤ x.start := by
     rcases k5 with h | h
     ·have hi0 : i = 0 := of_decide_eq_true h; have := HAA.out; rw [hi0] at this; rw [← this]; exact k1
     ·omega
    have HFN := Jh hfo2; have HKX := Jh (And.intro k1 k2); clear hfol hfo2 k5; go_upto_region 10 with fail
    have hb4 : Below w3.heap.size w3 (w3.alloc (.cells #[.int .i64 x.start, .int .i64 x.count, .int .u64 (x.sum : Int), .int .u64 (x.min : Int), .int .u64 (x.max : Int), .int .u64 (x.last : Int)] 136)) := (Below.refl _ _).alloc (Nat.le_refl _) _; have hr : Blk (w3.alloc (.cells #[.int .i64 x.start, .int .i64 x.count, .int .u64 (x.sum : Int), .int .u64 (x.min : Int), .int .u64 (x.max : Int), .int .u64 (x.last : Int)] 136)) w3.heap.size 136 #[.int .i64 x.start, .int .i64 x.count, .int .u64 (x.sum : Int), .int .u64 (x.min : Int), .int .u64 (x.max : Int), .int .u64 (x.last : Int)] := Blk.new _ _ _; obtain ⟨w4, hw4⟩ : ∃ w4, w3.alloc (.cells #[.int .i64 x.start, .int .i64 x.count, .int .u64 (x.sum : Int), .int .u64 (x.min : Int), .int .u64 (x.max : Int), .int .u64 (x.last : Int)] 136) = w4 := ⟨_, rfl⟩; obtain ⟨r, hre⟩ : ∃ r, w3.heap.size = r := ⟨_, rfl⟩; have hqr : q ≤ r := by omega
    rw [hw4] at hb4 hr ⊢; have HB4 := Jh (HB3.out.trans (hb4.mono hq3)); have HBK4 := Jh (HBK3.out.below hb4 HBK3.out.lt); rw [hre] at hr ⊢; have HR4 := Jh hr; have hpr : p ≠ r := by have := HBK3.out.lt; omega
    have hq4 : q ≤ w4.heap.size := by have := hb4.size; omega
    clear hw4 hre hr hb4 m0 m1 m2 m3 m4 m5; obtain ⟨y0, hy0⟩ : ∃ y0, (x.start - a.start).toNat = y0 := ⟨_, rfl⟩; obtain ⟨y1, hy1⟩ : ∃ y1, x.count.toNat = y1 := ⟨_, rfl⟩; have hw0 : wrap64 (x.start - a.start) = (y0 : Int) := by unfold wrap64; have := HPB.out; omega
    have hu0 : IntKind.u64.wrap (y0 : Int) = (y0 : Int) := by rw [IntKind.wrap_u64]; have := HPB.out; omega
    have hy1i : x.count = (y1 : Int) := by omega
    have hu1 : IntKind.u64.wrap (y1 : Int) = (y1 : Int) := by rw [IntKind.wrap_u64]; omega
    have HU0 := Jh (fun w => Kdn y0 (by have := HPB.out; omega) w); have HU1 := Jh (fun w => Kdn y1 (by omega) w); have HY1 := Jh hy1i; clear hy0 hy1 hy1i k1 k2 k3 k4 hge; have c0 : w4.cell? ⟨r, 0, none⟩ = some (.int .i64 x.start) := HR4.out.cell 0; have d0 : w4.cell? ⟨p, 0, none⟩ = some (.int .i64 a.start) := HBK4.out.cell 0; go_wp2_with fail
    refine (HU0.out w4).mono ?_; rintro _ w5 ⟨rfl, hb5⟩; obtain ⟨Y0, hY0⟩ : ∃ Y : ByteArray, (⟨(uintT y0).toArray⟩ : ByteArray) = Y := ⟨_, rfl⟩; have hys0 : Y0.size ≤ 11 := by rw [← hY0]; exact Kdu _
    rw [hY0]; have HB5 := Jh (HB4.out.trans (hb5.mono hq4)); have HBK5 := Jh (HBK4.out.below hb5 HBK4.out.lt); have HR5 := Jh (HR4.out.below hb5 HR4.out.lt); have hq5 : q ≤ w5.heap.size := by have := hb5.size; omega
    clear hb5 hY0; have c1 : w5.cell? ⟨r, 1, none⟩ = some (.int .i64 (y1 : Int)) := (HR5.out.cell 1).trans (by rw [← HY1.out]; rfl); clear c0 d0; go_wp2_with fail
    refine (HU1.out w5).mono ?_; rintro _ w6 ⟨rfl, hb6⟩; obtain ⟨Y1, hY1⟩ : ∃ Y : ByteArray, (⟨(uintT y1).toArray⟩ : ByteArray) = Y := ⟨_, rfl⟩; have hys1 : Y1.size ≤ 11 := by rw [← hY1]; exact Kdu _
    rw [hY1]; have HB6 := Jh (HB5.out.trans (hb6.mono hq5)); have HBK6 := Jh (HBK5.out.below hb6 HBK5.out.lt); have HR6 := Jh (HR5.out.below hb6 HR5.out.lt); have hq6 : q ≤ w6.heap.size := by have := hb6.size; omega
    clear hb6 hY1; have hxo2 : bits .xor .u64 (x.sum : Int) (a.sum : Int) = ((x.sum ^^^ a.sum : Nat) : Int) := bits_xor_u64_nat _ _ (by have := HBX.out.1; omega) (by have := HPB.out.2.2.1; omega); have hxl2 : x.sum ^^^ a.sum < 2 ^ 64 := Nat.xor_lt_two_pow HBX.out.1 HPB.out.2.2.1; obtain ⟨y2, hy2⟩ : ∃ y, x.sum ^^^ a.sum = y := ⟨_, rfl⟩; rw [hy2] at hxo2 hxl2; have HU2 := Jh (fun w => Kdn y2 hxl2 w); clear c1 hy2; have c2 : w6.cell? ⟨r, 2, none⟩ = some (.int .u64 (x.sum : Int)) := HR6.out.cell 2; have d2 : w6.cell? ⟨p, 2, none⟩ = some (.int .u64 (a.sum : Int)) := HBK6.out.cell 2; go_wp2_with fail
    refine (HU2.out w6).mono ?_; rintro _ w7 ⟨rfl, hb7⟩; obtain ⟨Y2, hY2⟩ : ∃ Y : ByteArray, (⟨(uintT y2).toArray⟩ : ByteArray) = Y := ⟨_, rfl⟩; have hys2 : Y2.size ≤ 11 := by rw [← hY2]; exact Kdu _
    rw [hY2]; have HB7 := Jh (HB6.out.trans (hb7.mono hq6)); have HBK7 := Jh (HBK6.out.below hb7 HBK6.out.lt); have HR7 := Jh (HR6.out.below hb7 HR6.out.lt); have hq7 : q ≤ w7.heap.size := by have := hb7.size; omega
    clear hb7 hY2; have hxo3 : bits .xor .u64 (x.min : Int) (a.min : Int) = ((x.min ^^^ a.min : Nat) : Int) := bits_xor_u64_nat _ _ (by have := HBX.out.2.1; omega) (by have := HPB.out.2.2.2.1; omega); have hxl3 : x.min ^^^ a.min < 2 ^ 64 := Nat.xor_lt_two_pow HBX.out.2.1 HPB.out.2.2.2.1; obtain ⟨y3, hy3⟩ : ∃ y, x.min ^^^ a.min = y := ⟨_, rfl⟩; rw [hy3] at hxo3 hxl3; have HU3 := Jh (fun w => Kdn y3 hxl3 w); clear c2 d2 hxo2 hxl2 hy3; have c3 : w7.cell? ⟨r, 3, none⟩ = some (.int .u64 (x.min : Int)) := HR7.out.cell 3; have d3 : w7.cell? ⟨p, 3, none⟩ = some (.int .u64 (a.min : Int)) := HBK7.out.cell 3; go_wp2_with fail
    refine (HU3.out w7).mono ?_; rintro _ w8 ⟨rfl, hb8⟩; obtain ⟨Y3, hY3⟩ : ∃ Y : ByteArray, (⟨(uintT y3).toArray⟩ : ByteArray) = Y := ⟨_, rfl⟩; have hys3 : Y3.size ≤ 11 := by rw [← hY3]; exact Kdu _
    rw [hY3]; have HB8 := Jh (HB7.out.trans (hb8.mono hq7)); have HBK8 := Jh (HBK7.out.below hb8 HBK7.out.lt); have HR8 := Jh (HR7.out.below hb8 HR7.out.lt); have hq8 : q ≤ w8.heap.size := by have := hb8.size; omega
    clear hb8 hY3; have hxo4 : bits .xor .u64 (x.max : Int) (a.max : Int) = ((x.max ^^^ a.max : Nat) : Int) := bits_xor_u64_nat _ _ (by have := HBX.out.2.2.1; omega) (by have := HPB.out.2.2.2.2.1; omega); have hxl4 : x.max ^^^ a.max < 2 ^ 64 := Nat.xor_lt_two_pow HBX.out.2.2.1 HPB.out.2.2.2.2.1; obtain ⟨y4, hy4⟩ : ∃ y, x.max ^^^ a.max = y := ⟨_, rfl⟩; rw [hy4] at hxo4 hxl4; have HU4 := Jh (fun w => Kdn y4 hxl4 w); clear c3 d3 hxo3 hxl3 hy4; have c4 : w8.cell? ⟨r, 4, none⟩ = some (.int .u64 (x.max : Int)) := HR8.out.cell 4; have d4 : w8.cell? ⟨p, 4, none⟩ = some (.int .u64 (a.max : Int)) := HBK8.out.cell 4; go_wp2_with fail
    refine (HU4.out w8).mono ?_; rintro _ w9 ⟨rfl, hb9⟩; obtain ⟨Y4, hY4⟩ : ∃ Y : ByteArray, (⟨(uintT y4).toArray⟩ : ByteArray) = Y := ⟨_, rfl⟩; have hys4 : Y4.size ≤ 11 := by rw [← hY4]; exact Kdu _
    rw [hY4]; have HB9 := Jh (HB8.out.trans (hb9.mono hq8)); have HBK9 := Jh (HBK8.out.below hb9 HBK8.out.lt); have HR9 := Jh (HR8.out.below hb9 HR8.out.lt); have hq9 : q ≤ w9.heap.size := by have := hb9.size; omega
    clear hb9 hY4; have hxo5 : bits .xor .u64 (x.last : Int) (a.last : Int) = ((x.last ^^^ a.last : Nat) : Int) := bits_xor_u64_nat _ _ (by have := HBX.out.2.2.2; omega) (by have := HPB.out.2.2.2.2.2; omega); have hxl5 : x.last ^^^ a.last < 2 ^ 64 := Nat.xor_lt_two_pow HBX.out.2.2.2 HPB.out.2.2.2.2.2; obtain ⟨y5, hy5⟩ : ∃ y, x.last ^^^ a.last = y := ⟨_, rfl⟩; rw [hy5] at hxo5 hxl5; have HU5 := Jh (fun w => Kdn y5 hxl5 w); clear c4 d4 hxo4 hxl4 hy5; have c5 : w9.cell? ⟨r, 5, none⟩ = some (.int .u64 (x.last : Int)) := HR9.out.cell 5; have d5 : w9.cell? ⟨p, 5, none⟩ = some (.int .u64 (a.last : Int)) := HBK9.out.cell 5; go_wp2_with fail
    refine (HU5.out w9).mono ?_; rintro _ w10 ⟨rfl, hb10⟩; obtain ⟨Y5, hY5⟩ : ∃ Y : ByteArray, (⟨(uintT y5).toArray⟩ : ByteArray) = Y := ⟨_, rfl⟩; have hys5 : Y5.size ≤ 11 := by rw [← hY5]; exact Kdu _
    rw [hY5]; have HB10 := Jh (HB9.out.trans (hb10.mono hq9)); have HBK10 := Jh (HBK9.out.below hb10 HBK9.out.lt); have HR10 := Jh (HR9.out.below hb10 HR9.out.lt); have hq10 : q ≤ w10.heap.size := by have := hb10.size; omega
    clear hb10 hY5; clear c5 d5 hxo5 hxl5; have c0 : w10.cell? ⟨r, 0, none⟩ = some _ := HR10.out.cell 0; have f0 := HBK10.out.frozen 0; have g0 : w10.cell? ⟨p, 0, none⟩ = some _ := HBK10.out.cell 0; have c1 : w10.cell? ⟨r, 1, none⟩ = some _ := HR10.out.cell 1; have f1 := HBK10.out.frozen 1; have g1 : w10.cell? ⟨p, 1, none⟩ = some _ := HBK10.out.cell 1; have c2 : w10.cell? ⟨r, 2, none⟩ = some _ := HR10.out.cell 2; have f2 := HBK10.out.frozen 2; have g2 : w10.cell? ⟨p, 2, none⟩ = some _ := HBK10.out.cell 2; have c3 : w10.cell? ⟨r, 3, none⟩ = some _ := HR10.out.cell 3; have f3 := HBK10.out.frozen 3; have g3 : w10.cell? ⟨p, 3, none⟩ = some _ := HBK10.out.cell 3; have c4 : w10.cell? ⟨r, 4, none⟩ = some _ := HR10.out.cell 4; have f4 := HBK10.out.frozen 4; have g4 : w10.cell? ⟨p, 4, none⟩ = some _ := HBK10.out.cell 4; have c5 : w10.cell? ⟨r, 5, none⟩ = some _ := HR10.out.cell 5; have f5 := HBK10.out.frozen 5; have g5 : w10.cell? ⟨p, 5, none⟩ = some _ := HBK10.out.cell 5; have hpl := HBK10.out.lt; have hrl := HR10.out.lt; have z0 : Z.size ≤ 11 + 66 * 1099511627776 := by have := HZL.out; omega
    go_wp2_with fail
    go_roundg (gk - 1)
    case measure => have := HIG.out; omega
    case rel =>
     refine ⟨i + 1, _, by have := HIG.out; omega, by go_num, rfl, ?_, ?_, ?_, ?_, ?_⟩
     ·simp only [ByteArray.size_append]; have := HZL.out; omega
     ·rw [Kjx, HX.out, decide_eq_false (by omega)]; exact HFN.out
     ·rw [Kjx, HX.out]; exact ⟨HKX.out.1, HKX.out.2, HBX.out⟩
     ·rw [Kjx, HX.out]; exact (((((HBK10.out.set_ 0 (.int .i64 x.start)).set_ 1 (.int .i64 x.count)).set_ 2 (.int .u64 (x.sum : Int))).set_ 3 (.int .u64 (x.min : Int))).set_ 4 (.int .u64 (x.max : Int))).set_ 5 (.int .u64 (x.last : Int))
     ·exact (((((HB10.out.setCell (p := ⟨p, 0, none⟩) hpq (.int .i64 x.start)).setCell (p := ⟨p, 1, none⟩) hpq (.int .i64 x.count)).setCell (p := ⟨p, 2, none⟩) hpq (.int .u64 (x.sum : Int))).setCell (p := ⟨p, 3, none⟩) hpq (.int .u64 (x.min : Int))).setCell (p := ⟨p, 4, none⟩) hpq (.int .u64 (x.max : Int))).setCell (p := ⟨p, 5, none⟩) hpq (.int .u64 (x.last : Int))
   ·have hre : R = false := by
     have h1 := HFO2.out; have h2 : Kcw x a (decide (i = 0)) ≠ 0 := fun h => hf0 (HFZ.out.2 h)
     rw [← h1, decide_eq_false h2]; rfl
    have ef : ((f : Int) != 0) = true := by simp; omega
    have HRE := Jh hre; clear hre; go_wp2_with fail
    go_ret2
    exact ⟨⟨_, _, rfl, by rw [HRE.out]; exact ⟨fun h => absurd h hf0, fun h => by cases h⟩⟩, by rw [HQ.out]; exact HB3.out⟩
  ·have el : decide (i < n) = false := by rw [decide_eq_false_iff_not]; exact hi
   have hre : R = true := by
    have h1 := HFO.out; rw [List.drop_eq_nil_of_le (by have := HLEN.out; omega)] at h1; exact h1.symm
   have HRE := Jh hre; clear hre; go_wp2_with fail
   go_ret2
   exact ⟨⟨_, _, rfl, by rw [HRE.out]; exact ⟨fun _ => rfl, fun _ => rfl⟩⟩, by rw [HQ.out]; exact HB.out⟩
theorem Ktm : ∀ l : List Int, riseI l = true ↔ ∀ i, i + 1 < l.length → l[i]! < l[i + 1]!
 | [] => by simp [riseI]
 | [_] => by simp [riseI]
 | a :: b :: l => by
  rw [riseI, Bool.and_eq_true, decide_eq_true_eq, Ktm (b :: l)]; constructor
  ·rintro ⟨h1, h2⟩ i hi
   cases i with
   | zero => simpa using h1
   | succ i => simpa using h2 i (by simpa using hi)
  ·intro h; refine ⟨by simpa using h 0 (by simp), fun i hi => ?_⟩; simpa using h (i + 1) (by simpa using hi)
def Khx (f t : Int) (l : List Int) (k : Nat) : Prop := f ≤ l[k]! ∧ l[k]! < t ∧ (0 < k → l[k - 1]! < l[k]!)
theorem Kkf {f t : Int} {l : List Int} : Kcm f t l = true ↔ l ≠ [] ∧ ∀ k, k < l.length → Khx f t l k := by
 unfold Kcm; rw [Bool.and_eq_true, Bool.and_eq_true, decide_eq_true_eq, List.all_eq_true, Ktm]; constructor
 ·rintro ⟨⟨h1, h2⟩, h3⟩; refine ⟨h1, fun k hk => ?_⟩; have h4 := h2 l[k] (List.getElem_mem hk); simp only [Bool.and_eq_true, decide_eq_true_eq] at h4; rw [← getElem!_pos l k hk] at h4; refine ⟨h4.1, h4.2, fun h0 => ?_⟩; have := h3 (k - 1) (by omega); rwa [show k - 1 + 1 = k by omega] at this
 ·rintro ⟨h1, h2⟩; refine ⟨⟨h1, fun x hx => ?_⟩, fun i hi => ?_⟩
  ·obtain ⟨k, hk, rfl⟩ := List.mem_iff_getElem.1 hx; have h4 := h2 k hk; unfold Khx at h4; rw [getElem!_pos l k hk] at h4; simp only [Bool.and_eq_true, decide_eq_true_eq]; exact ⟨h4.1, h4.2.1⟩
  ·have h4 := (h2 (i + 1) hi).2.2 (by omega); rwa [Nat.add_sub_cancel] at h4
def Kgt (s : Ser) : List Int := s.samples.map Smp.t ++ s.windows.map Wnd.start
def mixB (r : Int) (s : Ser) : Bool := (decide (r = 0) && decide (0 < s.windows.length)) || (decide (0 < r) && decide (0 < s.samples.length))
def cmpAt (c : Cont) (i : Nat) : Bool := decide (i = 0) || decide (cmpL (c.series[i - 1]!).labels (c.series[i]!).labels < 0)
theorem Qgn {c : Cont} (h : 0 ≤ c.res) (i : Nat) : okAt c i = (Kcl (c.series[i]!).labels && (cmpAt c i && (Kbx wnd0 true (c.series[i]!).windows && !mixB c.res (c.series[i]!) && Kcm c.frm c.to_ (Kgt (c.series[i]!))))) := by
 unfold okAt cmpAt; rw [Qbw h]; rfl
theorem Qcw {w : World} {B n : Nat} {A : Option Addr} {c : Nat} {l : List Int} (h : w.ownsRow B 2 1 (.slice A n c) n (l.map fun z => Value.int .i64 z)) (hl : l.length = n) {k : Nat} (hk : k < n) : ∃ g, A = some ⟨g, 0, none⟩ ∧ g < w.heap.size ∧ w.cell? ⟨g, k, none⟩ = some (.int .i64 l[k]!) := by
 rcases h.2 with ⟨h1, h0⟩ | ⟨g, cap, cur, h1, _, hg, _⟩
 ·omega
 ·injection h1 with h1 _ h3; subst h1 h3; refine ⟨g, rfl, (Array.getElem?_eq_some_iff.1 hg).1, ?_⟩; rw [h.cellAt k (by omega), List.getElem?_map, List.getElem?_eq_getElem (by omega), getElem!_pos l k (by omega)]; rfl
theorem Kzz (c : Cont) (hd : Hd) (w : World) (hS : Kbo w hd.A hd.n c.series) :
  Calls Tryz.prog 27 #[contV c.res c.frm c.to_ hd] w fun e w' => e = .returned (.bool (fitB c)) ∧ Below w.heap.size w w' := by
 obtain ⟨R, hR⟩ : ∃ R, fitB c = R := ⟨_, rfl⟩; rw [hR]; obtain ⟨r, hr⟩ : ∃ r, c.res = r := ⟨_, rfl⟩; obtain ⟨f, hf⟩ : ∃ f, c.frm = f := ⟨_, rfl⟩; obtain ⟨t, ht⟩ : ∃ t, c.to_ = t := ⟨_, rfl⟩; obtain ⟨A, n, cc⟩ := hd; have HR := Jh hR; have HRR := Jh hr; have HRF := Jh hf; have HRT := Jh ht; have HSO := Jh hS; have HLN := Jh hS.s.len; have hnz : n ≤ 1073741824 := by have h1 : c.series.length = n := hS.s.len; have := hS.n; omega
 unfold contV; rw [hr, hf, ht]; dsimp only; clear hr hf ht hR hS; go_enter Tryz.func27, Tryz.ntmps27
 go_upto_region 1 with fail
 have hb0 : Below w.heap.size w (w.alloc (.cells #[.int .i64 r, .int .i64 f, .int .i64 t, .slice A n cc] 34)) := (Below.refl _ _).alloc (Nat.le_refl _) _; have hk0 : Blk (w.alloc (.cells #[.int .i64 r, .int .i64 f, .int .i64 t, .slice A n cc] 34)) w.heap.size 34 #[.int .i64 r, .int .i64 f, .int .i64 t, .slice A n cc] := Blk.new _ _ _; obtain ⟨w1, hw1⟩ : ∃ w1, w.alloc (.cells #[.int .i64 r, .int .i64 f, .int .i64 t, .slice A n cc] 34) = w1 := ⟨_, rfl⟩; rw [hw1] at hb0 hk0 ⊢; have HSO1 := Jh (HSO.out.below hb0); obtain ⟨q, hq⟩ : ∃ q, w.heap.size = q := ⟨_, rfl⟩; rw [hq] at hb0 hk0 ⊢; have HB0 := Jh hb0; have HK0 := Jh hk0; have HQ := Jh hq; have k0 : w1.cell? ⟨q, 0, none⟩ = some (.int .i64 r) := hk0.cell 0; have k1 : w1.cell? ⟨q, 1, none⟩ = some (.int .i64 f) := hk0.cell 1; have k2 : w1.cell? ⟨q, 2, none⟩ = some (.int .i64 t) := hk0.cell 2; have hql := hk0.lt
 have hbad : ¬ (0 ≤ r ∧ r < 3 ∧ 0 ≤ f ∧ f < t ∧ t ≤ 1125899906842625) → R = false := fun h => by
  rw [← HR.out, Bool.eq_false_iff]; intro h2; have := (Kpt c).1 h2; rw [HRR.out, HRF.out, HRT.out] at this; exact h this.1
 have HBAD := Jh hbad; clear hw1 hb0 hk0 hq hbad
 by_cases g1 : r < 0
 ·have e1 : decide (r < 0) = true := decide_eq_true g1; have hre : R = false := HBAD.out (by omega); subst hre; go_wp2_with fail
  go_ret
  exact ⟨rfl, by rw [HQ.out]; exact HB0.out⟩
 have e1 : decide (r < 0) = false := decide_eq_false g1
 by_cases g2 : 2 < r
 ·have e2 : decide (2 < r) = true := decide_eq_true g2; have hre : R = false := HBAD.out (by omega); subst hre; go_wp2_with fail
  go_ret
  exact ⟨rfl, by rw [HQ.out]; exact HB0.out⟩
 have e2 : decide (2 < r) = false := decide_eq_false g2
 by_cases g3 : f < 0
 ·have e3 : decide (f < 0) = true := decide_eq_true g3; have hre : R = false := HBAD.out (by omega); subst hre; go_wp2_with fail
  go_ret
  exact ⟨rfl, by rw [HQ.out]; exact HB0.out⟩
 have e3 : decide (f < 0) = false := decide_eq_false g3
 by_cases g4 : t ≤ f
 ·have e4 : decide (t ≤ f) = true := decide_eq_true g4; have hre : R = false := HBAD.out (by omega); subst hre; go_wp2_with fail
  go_ret
  exact ⟨rfl, by rw [HQ.out]; exact HB0.out⟩
 have e4 : decide (t ≤ f) = false := decide_eq_false g4
 by_cases g5 : 1125899906842625 < t
 ·have e5 : decide (1125899906842625 < t) = true := decide_eq_true g5; have hre : R = false := HBAD.out (by omega); subst hre; go_wp2_with fail
  go_ret
  exact ⟨rfl, by rw [HQ.out]; exact HB0.out⟩
 have e5 : decide (1125899906842625 < t) = false := decide_eq_false g5
 have hall : R = true ↔ ∀ i, i < n → okAt c i = true := by
  rw [← HR.out, Kpt, HRR.out, HRF.out, HRT.out, HLN.out]; exact ⟨fun h => h.2, fun h => ⟨by omega, h⟩⟩
 have HALL := Jh hall
 have hok : ∀ i, i < n → okAt c i = false → R = false := fun i hi h => by
  rw [Bool.eq_false_iff]; intro h2; have := hall.1 h2 i hi; rw [h] at this; cases this
 have HOK := Jh hok; have HG1 := Jh g1; clear hall hok; go_upto_block 0 with fail
 clear k0 k1 k2 e1 e2 e3 e4 e5 g2 g3 g4 g5 g1 hql; go_wp2_with fail
 go_loopg [3] n (fun g s3 wr => ∃ i : Nat, i + g = n ∧ s3 = .int .i64 (i : Int) ∧ (∀ j, j < i → okAt c j = true) ∧ Below q w wr ∧ Below w1.heap.size w1 wr)
 case atStart => exact ⟨0, by omega, rfl, fun j hj => by omega, HB0.out, Below.refl _ _⟩
 case round =>
  obtain ⟨i, hig, rfl, hoks, hbr, hb1⟩ := hrel; have HIG := Jh hig; have HOKS := Jh hoks; have HBR := Jh hbr; have HB1 := Jh hb1; clear hig hoks hbr hb1; obtain ⟨wo, rfl⟩ : ∃ x, x = wr := ⟨_, rfl⟩; have hko := HK0.out.below HB1.out HK0.out.lt; have k3 : wo.cell? ⟨q, 3, none⟩ = some (.slice A n cc) := hko.cell 3; have hqo := hko.lt; clear hko
  by_cases hi : i < n
  ·have el : decide (i < n) = true := by rw [decide_eq_true_eq]; exact hi
   obtain ⟨b, off, x, rfl, hbl, c0, c1, c2, hsa⟩ := (HSO1.out.s.below HB1.out).at_ hi; obtain ⟨⟨LA, ln, lc⟩, ⟨SA, sn, sc⟩, ⟨WA, wn, wc9⟩⟩ := x; have hil : i < c.series.length := by have := HLN.out; omega
   have hzi := HSO.out.z c.series[i]! (by rw [getElem!_pos _ i hil]; exact List.getElem_mem hil); obtain ⟨sr, hsr⟩ : ∃ sr, c.series[i]! = sr := ⟨_, rfl⟩
   have hoki : okAt c i = (Kcl sr.labels && (cmpAt c i && (Kbx wnd0 true sr.windows && !mixB r sr && Kcm f t (Kgt sr)))) := by
    rw [Qgn (by rw [HRR.out]; have := HG1.out; omega), hsr, HRR.out, HRF.out, HRT.out]
   rw [hsr] at hsa hzi; have HSR := Jh hsr; have HZI := Jh hzi; have HOKI := Jh hoki; clear hoki hsr; go_upto_region 7 with fail
   have hb4 : Below wo.heap.size wo (wo.alloc (.cells #[.slice LA ln lc, .slice SA sn sc, .slice WA wn wc9] 132)) := (Below.refl _ _).alloc (Nat.le_refl _) _; have hp4 : Blk (wo.alloc (.cells #[.slice LA ln lc, .slice SA sn sc, .slice WA wn wc9] 132)) wo.heap.size 132 #[.slice LA ln lc, .slice SA sn sc, .slice WA wn wc9] := Blk.new _ _ _; obtain ⟨w4, hw4⟩ : ∃ w4, wo.alloc (.cells #[.slice LA ln lc, .slice SA sn sc, .slice WA wn wc9] 132) = w4 := ⟨_, rfl⟩; obtain ⟨p, hp⟩ : ∃ p, wo.heap.size = p := ⟨_, rfl⟩; rw [hw4] at hb4 hp4 ⊢; have hsa4 := hsa.below hb4; have HB4 := Jh (HBR.out.trans (hb4.mono (by have := HBR.out.size; have := HQ.out; omega))); have HB14 := Jh (then_ HB1.out hb4); rw [hp] at hp4 ⊢; have HP4 := Jh hp4; have HSA4 := Jh hsa4; have s0 : w4.cell? ⟨p, 0, none⟩ = some (.slice LA ln lc) := hp4.cell 0; have hpl := hp4.lt; obtain ⟨V, hV⟩ : ∃ V, Kcl sr.labels = V := ⟨_, rfl⟩; rw [hV] at HOKI; have hln : ln ≤ 140737488351232 := by have h1 : sr.labels.length = ln := hsa4.l.len; have := HZI.out.l; omega
   have HVA := Jh (Kva sr.labels LA ln lc w4 V hV hsa4.l hln (fun x hx => by have := HZI.out.z x hx; omega)); clear hw4 hp hb4 hp4 hsa4 hsa c0 c1 c2 hV k3 hqo; go_wp2_with fail
   refine HVA.out.mono ?_; rintro _ w5 ⟨rfl, hb5⟩; have HP5 := Jh (HP4.out.below hb5 HP4.out.lt); have HSA5 := Jh (HSA4.out.below hb5); have HB5 := Jh (HB4.out.trans (hb5.mono (by have := HB4.out.size; have := HQ.out; omega))); have HB15 := Jh (then_ HB14.out hb5); have s2 : w5.cell? ⟨p, 2, none⟩ = some (.slice WA wn wc9) := HP5.out.cell 2; have hwn : wn ≤ 1099511627776 := by have h1 : sr.windows.length = wn := HSA5.out.w.len; have := HZI.out.m; omega
   have HEN := Jh (Kpw sr.windows WA wn wc9 w5 HSA5.out.w hwn HZI.out.b); clear hb5 s0; go_wp2_with fail
   refine HEN.out.mono ?_; rintro _ w6 ⟨⟨ES, ek, rfl, hek⟩, hb6⟩; have HP6 := Jh (HP5.out.below hb6 HP5.out.lt); have HSA6 := Jh (HSA5.out.below hb6); have HB6 := Jh (HB5.out.trans (hb6.mono (by have := HB5.out.size; have := HQ.out; omega))); have HB16 := Jh (then_ HB15.out hb6); have HEK := Jh hek; clear hb6 s2 hek
   cases V with
   | false =>
    have hre : R = false := HOK.out i hi (by rw [HOKI.out]; rfl); subst hre; go_wp2_with fail
    go_ret
    exact ⟨rfl, by rw [HQ.out]; exact HB6.out⟩
   | true =>
    by_cases hek0 : ek = 0
    rotate_left
    ·have hre : R = false := HOK.out i hi (by
      rw [HOKI.out]; have : Kbx wnd0 true sr.windows = false := by rw [Bool.eq_false_iff]; exact fun h => hek0 (HEK.out.2 h)
      rw [this]
      simp)
     have ee : ((ek : Int) != 0) = true := by simp; omega
     subst hre; go_wp2_with fail
     go_ret
     exact ⟨rfl, by rw [HQ.out]; exact HB6.out⟩
    ·subst hek0; have hfo := HEK.out.1 rfl; have hoki := HOKI.out; rw [hfo, Bool.true_and, Bool.true_and] at hoki; have HOK2 := Jh hoki; clear hoki hfo; go_upto_region 11 with fail
     have hp6 := HP6.out; have hpl6 := hp6.lt; have hk6 := HK0.out.below HB16.out HK0.out.lt; have k3 : w6.cell? ⟨q, 3, none⟩ = some (.slice (some ⟨b, off, none⟩) n cc) := hk6.cell 3; have hql6 := hk6.lt; have s0 : w6.cell? ⟨p, 0, none⟩ = some (.slice LA ln lc) := hp6.cell 0; clear hp6 hk6; go_cut [64] (fun s64 wz => s64 = .bool (decide (0 < i)) ∧ w6 = wz)
     case first =>
      obtain ⟨d0, hd0⟩ : ∃ d, decide (0 < i) = d := ⟨_, rfl⟩; have hd1 : decide (0 < (i : Int)) = d0 := by rw [← hd0]; congr 1; exact propext (by omega)
      go_wp2_with fail
      go_meet
      exact ⟨by rw [hd0], rfl⟩
     obtain ⟨rfl, rfl⟩ := hcut
     apply_assumption
     go_cut [] (fun wz => cmpAt c i = true ∧ Blk wz p 132 #[.slice LA ln lc, .slice SA sn sc, .slice WA wn wc9] ∧ SerAt wz ⟨⟨LA, ln, lc⟩, ⟨SA, sn, sc⟩, ⟨WA, wn, wc9⟩⟩ sr ∧ Below q w wz ∧ Below w1.heap.size w1 wz)
     case first =>
      cases i with
      | zero =>
       go_wp2_with fail
       go_meet
       exact ⟨rfl, HP6.out, HSA6.out, HB6.out, HB16.out⟩
      | succ j =>
       have hd0 : decide (0 < j + 1) = true := by rw [decide_eq_true_eq]; omega
       obtain ⟨b', off', y, hA', hbl', d0, d1, d2, hsy⟩ := (HSO1.out.s.below HB16.out).at_ (i := j) (by omega); injection hA' with hA'; injection hA' with hA' hA2; subst hA' hA2; obtain ⟨⟨LA', ln', lc'⟩, ⟨SA', sn', sc'⟩, ⟨WA', wn', wc9'⟩⟩ := y; have hjl : j < c.series.length := by have := HLN.out; omega
       have hzj := HSO.out.z c.series[j]! (by rw [getElem!_pos _ j hjl]; exact List.getElem_mem hjl); obtain ⟨sy, hsy9⟩ : ∃ s, c.series[j]! = s := ⟨_, rfl⟩; rw [hsy9] at hsy hzj; obtain ⟨rr, hrr⟩ : ∃ r, cmpL sy.labels sr.labels = r := ⟨_, rfl⟩
       have hcmp : cmpAt c (j + 1) = decide (rr < 0) := by
        unfold cmpAt; rw [Nat.add_sub_cancel, hsy9, HSR.out, hrr]; simp
       have hl1 : ln' ≤ 140737488351232 := by have h1 : sy.labels.length = ln' := hsy.l.len; have := hzj.l; omega
       have hl2 : ln ≤ 140737488351232 := by have h1 : sr.labels.length = ln := HSA6.out.l.len; have := HZI.out.l; omega
       have HCM := Jh (fun u : Later w6 => Kia sy.labels sr.labels LA' LA ln' ln lc' lc u.w rr hrr ((hsy.l.below u.h).more u.h.size) ((HSA6.out.l.below u.h).more u.h.size) hl1 hl2); have HCMP := Jh hcmp; have z1 : IntKind.i64.wrap ((j : Int) + 1 - 1) = (j : Int) := by rw [show (j : Int) + 1 - 1 = (j : Int) by omega]; exact IntWalk.i64_in _ (by omega)
       have z1' : IntKind.i64.wrap (((j + 1 : Nat) : Int) - 1) = (j : Int) := by rw [show ((j + 1 : Nat) : Int) - 1 = (j : Int) by omega]; exact IntWalk.i64_in _ (by omega)
       have z5 : (j : Int) < (n : Int) := by omega
       have z6 : j < n := by omega
       clear hrr hsy9 hcmp hsy hzj d1 d2; go_upto_region 12 with fail
       refine Kad (by kernel_rfl) (by kernel_rfl) ?_
       repeat (go_big_quiet_step ((go_at_call 69; exact Kal _ (HCM.out _))))
       refine wpQuiet_nil ?_; rintro w7 ⟨⟨_, hb7⟩, rfl⟩; have HP7 := Jh (HP6.out.below hb7 HP6.out.lt); have HSA7 := Jh (HSA6.out.below hb7); have HB7 := Jh (HB6.out.trans (hb7.mono (by have := HB6.out.size; have := HQ.out; omega))); have HB17 := Jh (then_ HB16.out hb7)
       by_cases hr0 : rr < 0
       ·have er : decide (0 ≤ rr) = false := by rw [decide_eq_false_iff_not]; omega
        go_wp2_with fail
        go_meet
        exact ⟨by rw [HCMP.out]; exact decide_eq_true hr0, HP7.out, HSA7.out, HB7.out, HB17.out⟩
       ·have er : decide (0 ≤ rr) = true := by rw [decide_eq_true_eq]; omega
        have hre : R = false := HOK.out (j + 1) hi (by rw [HOK2.out, HCMP.out, decide_eq_false hr0]; rfl); subst hre; go_wp2_with fail
        go_ret
        exact ⟨rfl, by rw [HQ.out]; exact HB7.out⟩
     obtain ⟨hcm, hpb, hsa8, hB8, hB18⟩ := hcut; obtain ⟨w8, rfl⟩ : ∃ x, x = wc := ⟨_, rfl⟩; have hok3 := HOK2.out; rw [hcm, Bool.true_and] at hok3; have HOK3 := Jh hok3; have HP8 := Jh hpb; have HSA8 := Jh hsa8; have HB8 := Jh hB8; have HB18 := Jh hB18; clear hok3 hcm hpb hsa8 hB8 hB18 k3 s0 hql6 hpl6; have hk8 := HK0.out.below HB18.out HK0.out.lt; have k0 : w8.cell? ⟨q, 0, none⟩ = some (.int .i64 r) := hk8.cell 0; have hql8 := hk8.lt; have s1 : w8.cell? ⟨p, 1, none⟩ = some (.slice SA sn sc) := HP8.out.cell 1; have s2 : w8.cell? ⟨p, 2, none⟩ = some (.slice WA wn wc9) := HP8.out.cell 2; have hpl8 := HP8.out.lt; have hsnl : sr.samples.length = sn := HSA8.out.s.len; have hwnl : sr.windows.length = wn := HSA8.out.w.len; have hmx : mixB r sr = ((decide (r = 0) && decide (0 < wn)) || (decide (0 < r) && decide (0 < sn))) := by unfold mixB; rw [hsnl, hwnl]
     have HMX := Jh hmx; have HSNL := Jh hsnl; have HWNL := Jh hwnl; have hsnz : sn ≤ 1099511627776 := by have := HZI.out.n; omega
     have hwnz : wn ≤ 1099511627776 := by have := HZI.out.m; omega
     have HTM := Jh (Kxk sr.samples sr.windows SA WA sn wn sc wc9 w8 HSA8.out.s HSA8.out.w hsnz hwnz); clear hmx hsnl hwnl hk8; have hr0 := HG1.out; go_upto_region 15 with fail
     go_cut [96] (fun s96 wz => s96 = .bool (mixB r sr) ∧ w8 = wz)
     case first =>
      have hm := HMX.out; obtain ⟨M, hM⟩ : ∃ M, mixB r sr = M := ⟨_, rfl⟩; rw [hM] at hm
      try rw [hM]
      by_cases q1 : r = 0
      ·have e1 : (r == 0) = true := by simpa using q1
       have e1' : decide (r = 0) = true := decide_eq_true q1; have e4 : decide (0 < r) = false := by rw [decide_eq_false_iff_not]; omega
       by_cases q2 : 0 < wn
       ·have e2 : decide (0 < wn) = true := decide_eq_true q2; have e3 : decide (0 < (wn : Int)) = true := by rw [decide_eq_true_eq]; omega
        have hm1 : M = true := by rw [hm, e1', e2]; rfl
        subst hm1; clear hm q1; go_wp2_with fail
        go_meet
        exact ⟨by rw [hM], rfl⟩
       ·have e2 : decide (0 < wn) = false := decide_eq_false q2; have e3 : decide (0 < (wn : Int)) = false := by rw [decide_eq_false_iff_not]; omega
        have hm1 : M = false := by rw [hm, e1', e2, e4]; rfl
        subst hm1; clear hm q1; go_wp2_with fail
        go_meet
        exact ⟨by rw [hM], rfl⟩
      ·have e1 : (r == 0) = false := by simpa using q1
       have e1' : decide (r = 0) = false := decide_eq_false q1; have e4 : decide (0 < r) = true := by rw [decide_eq_true_eq]; omega
       by_cases q2 : 0 < sn
       ·have e2 : decide (0 < sn) = true := decide_eq_true q2; have e3 : decide (0 < (sn : Int)) = true := by rw [decide_eq_true_eq]; omega
        have hm1 : M = true := by rw [hm, e1', e4, e2]; rfl
        subst hm1; clear hm; go_wp2_with fail
        go_meet
        exact ⟨by rw [hM], rfl⟩
       ·have e2 : decide (0 < sn) = false := decide_eq_false q2; have e3 : decide (0 < (sn : Int)) = false := by rw [decide_eq_false_iff_not]; omega
        have hm1 : M = false := by rw [hm, e1', e4, e2]; rfl
        subst hm1; clear hm; go_wp2_with fail
        go_meet
        exact ⟨by rw [hM], rfl⟩
     obtain ⟨h96, rfl⟩ := hcut
     by_cases hmix : mixB r sr = true
     ·have hre : R = false := HOK.out i hi (by rw [HOK3.out, hmix]; simp); rw [hmix] at h96; subst h96; subst hre; go_wp2_with fail
      go_ret
      exact ⟨rfl, by rw [HQ.out]; exact HB8.out⟩
     have hmixf : mixB r sr = false := by simpa using hmix
     rw [hmixf] at h96; subst h96; have hok4 := HOK3.out; rw [hmixf, Bool.not_false, Bool.true_and] at hok4; have HOK4 := Jh hok4; clear hok4 hmix hmixf k0; go_upto_region 17 with fail
     go_wp2_with fail
     refine HTM.out.mono ?_; rintro _ w9 ⟨TA, tc, rfl, hrt, hb9⟩; have hkt := HK0.out.below HB18.out HK0.out.lt; have HK9 := Jh (hkt.below hb9 hkt.lt); have HB9 := Jh (HB8.out.trans (hb9.mono (by have := HB8.out.size; have := HQ.out; omega))); have HB19 := Jh (then_ HB18.out hb9); have hlt : (Kgt sr).length = sn + wn := by unfold Kgt; rw [List.length_append, List.length_map, List.length_map, HSNL.out, HWNL.out]
     have hrt2 : w9.ownsRow w8.heap.size 2 1 (.slice TA (sn + wn) tc) (sn + wn) ((Kgt sr).map fun z => Value.int .i64 z) := hrt; obtain ⟨T, hT⟩ : ∃ T, Kgt sr = T := ⟨_, rfl⟩; obtain ⟨tn, htn⟩ : ∃ tn, sn + wn = tn := ⟨_, rfl⟩; have htnz : tn ≤ 2199023255552 := by omega
     have HTN0 := Jh htn; rw [hT] at hrt2 hlt HOK4; rw [htn] at hrt2 hlt; have HRT2 := Jh hrt2; have HLT := Jh hlt
     try rw [htn]
     clear hb9 hrt hrt2 hlt hT s1 s2 hkt; go_upto_region 18 with fail
     by_cases ht0 : tn = 0
     ·have hre : R = false := HOK.out i hi (by
       rw [HOK4.out, Bool.eq_false_iff]; intro h
       exact (Kkf.1 h).1 (List.eq_nil_of_length_eq_zero (by rw [HLT.out, ht0])))
      have e0 : ((tn : Int) == 0) = true := by simp [ht0]
      subst hre; go_wp2_with fail
      go_ret
      exact ⟨rfl, by rw [HQ.out]; exact HB9.out⟩
     have e0 : ((tn : Int) == 0) = false := by simpa using ht0
     have hbadT : (∃ k, k < tn ∧ ¬ Khx f t T k) → R = false := fun ⟨k, hk, hno⟩ => HOK.out i hi (by
      rw [HOK4.out, Bool.eq_false_iff]; intro h
      exact hno ((Kkf.1 h).2 k (by rw [HLT.out]; exact hk)))
     have HBADT := Jh hbadT; clear hbadT; go_wp2_with fail
     go_loopg [10] tn (fun g s10 wr => ∃ k : Nat, k + g = tn ∧ s10 = .int .i64 (k : Int) ∧ (∀ j, j < k → Khx f t T j) ∧ Below q w wr ∧ Below w9.heap.size w9 wr)
     case atStart => exact ⟨0, by omega, rfl, fun j hj => by omega, HB9.out, Below.refl _ _⟩
     case round =>
      obtain ⟨k, hkg, rfl, hallt, hbl, hb1l⟩ := hrel; have HKG := Jh hkg; have HALLT := Jh hallt; have HBL := Jh hbl; have HB1L := Jh hb1l; clear hkg hallt hbl hb1l; obtain ⟨wk, rfl⟩ : ∃ x, x = wr := ⟨_, rfl⟩
      by_cases hk : k < tn
      ·have elk : decide (k < tn) = true := by rw [decide_eq_true_eq]; exact hk
       have hrtk := Kcn HRT2.out HB1L.out; obtain ⟨g, hTA, hgl, ck⟩ := Qcw hrtk HLT.out hk; subst hTA; have hkk := HK9.out.below HB1L.out HK9.out.lt; have k1 : wk.cell? ⟨q, 1, none⟩ = some (.int .i64 f) := hkk.cell 1; have k2 : wk.cell? ⟨q, 2, none⟩ = some (.int .i64 t) := hkk.cell 2; have hqk := hkk.lt; obtain ⟨x, hx⟩ : ∃ x, T[k]! = x := ⟨_, rfl⟩; rw [hx] at ck; have HX := Jh hx; have HRK := Jh hrtk; clear hx hkk hrtk
       by_cases g1 : x < f
       ·have a1 : decide (x < f) = true := decide_eq_true g1; have hre : R = false := HBADT.out ⟨k, hk, fun h => by have := h.1; rw [HX.out] at this; omega⟩; go_upto_region 23 with fail
        refine Kad (by kernel_rfl) (by kernel_rfl) ?_
        repeat (go_big_quiet_step (fail))
        refine wpQuiet_nil ?_; rintro wz ⟨⟨_, hbz⟩, rfl⟩; have HBZ := Jh (HBL.out.trans (hbz.mono (by have := HBL.out.size; have := HQ.out; omega))); subst hre; go_wp2_with fail
        go_ret
        exact ⟨rfl, by rw [HQ.out]; exact HBZ.out⟩
       have a1 : decide (x < f) = false := decide_eq_false g1
       by_cases g2 : t ≤ x
       ·have a2 : decide (t ≤ x) = true := decide_eq_true g2; have hre : R = false := HBADT.out ⟨k, hk, fun h => by have := h.2.1; rw [HX.out] at this; omega⟩; go_upto_region 23 with fail
        refine Kad (by kernel_rfl) (by kernel_rfl) ?_
        repeat (go_big_quiet_step (fail))
        refine wpQuiet_nil ?_; rintro wz ⟨⟨_, hbz⟩, rfl⟩; have HBZ := Jh (HBL.out.trans (hbz.mono (by have := HBL.out.size; have := HQ.out; omega))); subst hre; go_wp2_with fail
        go_ret
        exact ⟨rfl, by rw [HQ.out]; exact HBZ.out⟩
       have a2 : decide (t ≤ x) = false := decide_eq_false g2
       cases k with
       | zero =>
        go_upto_region 23 with fail
        refine Kad (by kernel_rfl) (by kernel_rfl) ?_
        repeat (go_big_quiet_step (fail))
        refine wpQuiet_nil ?_; rintro wz ⟨⟨_, hbz⟩, rfl⟩; have HBZ := Jh (HBL.out.trans (hbz.mono (by have := HBL.out.size; have := HQ.out; omega))); have HB1Z := Jh (then_ HB1L.out hbz)
        have HNEW := Jh (show ∀ jj, jj < 0 + 1 → Khx f t T jj from fun j' hj' => by
         by_cases hjk : j' = 0
         ·subst hjk; exact ⟨by rw [HX.out]; omega, by rw [HX.out]; omega, fun h => by omega⟩
         ·exact HALLT.out j' (by omega))
        clear hbz; go_wp2_with fail
        go_roundg (gk - 1)
        case measure => have := HKG.out; omega
        case rel => exact ⟨0 + 1, by have := HKG.out; omega, by first | rfl | go_num, HNEW.out, HBZ.out, HB1Z.out⟩
       | succ j =>
        obtain ⟨g', hTA', _, cj⟩ := Qcw HRK.out HLT.out (k := j) (by omega); injection hTA' with hTA'; injection hTA' with hTA'; subst hTA'; obtain ⟨y, hy⟩ : ∃ y, T[j]! = y := ⟨_, rfl⟩; rw [hy] at cj; have HY := Jh hy; clear hy; have z1 : IntKind.i64.wrap ((j : Int) + 1 - 1) = (j : Int) := by rw [show (j : Int) + 1 - 1 = (j : Int) by omega]; exact IntWalk.i64_in _ (by omega)
        have z1' : IntKind.i64.wrap (((j + 1 : Nat) : Int) - 1) = (j : Int) := by rw [show ((j + 1 : Nat) : Int) - 1 = (j : Int) by omega]; exact IntWalk.i64_in _ (by omega)
        have z6 : decide (0 < j + 1) = true := by rw [decide_eq_true_eq]; omega
        have z7 : j < tn := by omega
        have z8 : (j : Int) < (tn : Int) := by omega
        by_cases g3 : x ≤ y
        ·have a3 : decide (x ≤ y) = true := decide_eq_true g3; have hre : R = false := HBADT.out ⟨j + 1, hk, fun h => by have h1 := h.2.2 (by omega); rw [HX.out, Nat.add_sub_cancel, HY.out] at h1; omega⟩; go_upto_region 23 with fail
         refine Kad (by kernel_rfl) (by kernel_rfl) ?_
         repeat (go_big_quiet_step (fail))
         refine wpQuiet_nil ?_; rintro wz ⟨⟨_, hbz⟩, rfl⟩; have HBZ := Jh (HBL.out.trans (hbz.mono (by have := HBL.out.size; have := HQ.out; omega))); subst hre; go_wp2_with fail
         go_ret
         exact ⟨rfl, by rw [HQ.out]; exact HBZ.out⟩
        have a3 : decide (x ≤ y) = false := decide_eq_false g3; go_upto_region 23 with fail
        refine Kad (by kernel_rfl) (by kernel_rfl) ?_
        repeat (go_big_quiet_step (fail))
        refine wpQuiet_nil ?_; rintro wz ⟨⟨_, hbz⟩, rfl⟩; have HBZ := Jh (HBL.out.trans (hbz.mono (by have := HBL.out.size; have := HQ.out; omega))); have HB1Z := Jh (then_ HB1L.out hbz)
        have HNEW := Jh (show ∀ jj, jj < j + 1 + 1 → Khx f t T jj from fun j' hj' => by
         by_cases hjk : j' = j + 1
         ·subst hjk; exact ⟨by rw [HX.out]; omega, by rw [HX.out]; omega, fun h => by rw [HX.out, Nat.add_sub_cancel, HY.out]; omega⟩
         ·exact HALLT.out j' (by omega))
        clear hbz; go_wp2_with fail
        go_roundg (gk - 1)
        case measure => have := HKG.out; omega
        case rel => exact ⟨j + 1 + 1, by have := HKG.out; omega, by first | rfl | go_num, HNEW.out, HBZ.out, HB1Z.out⟩
      ·have elk : decide (k < tn) = false := by rw [decide_eq_false_iff_not]; exact hk
       have hokk : okAt c i = true := by
        rw [HOK4.out, Kkf]; exact ⟨fun h => ht0 (by rw [← HLT.out, h]; rfl), fun j hj => HALLT.out j (by rw [HLT.out] at hj; omega)⟩
       have HNEW := Jh (show ∀ j, j < i + 1 → okAt c j = true from fun j hj => by
        by_cases hji : j = i
        ·subst hji; exact hokk
        ·exact HOKS.out j (by omega))
       have HB1Z := Jh ((HB19.out.trans (HB1L.out.mono (by have := HB19.out.size; omega)))); clear hokk; go_wp2_with fail
       go_roundg (n - i - 1)
       case measure => have := HIG.out; omega
       case rel => exact ⟨i + 1, by have := HIG.out; omega, by go_num, HNEW.out, HBL.out, HB1Z.out⟩
  ·have el : decide (i < n) = false := by rw [decide_eq_false_iff_not]; exact hi
   have hre : R = true := HALL.out.2 (fun j hj => HOKS.out j (by have := HIG.out; omega)); subst hre; go_wp2_with fail
   go_ret
   exact ⟨rfl, by rw [HQ.out]; exact HBR.out⟩
end
section
open Go.RowKit
open List renaming length_append → Jd
def labsS (S : List (List Lb)) : Nat := (S.map List.length).sum
def labsN (l : List Ser) : Nat := (l.map fun s => s.labels.length).sum
theorem Qah (c : Cont) : labsS (Kae c) = labsN c.series := by
 unfold labsS labsN Kae; rw [List.map_map]; rfl
theorem Kqy : ∀ S : List (List Lb), (allS S).length = 2 * labsS S
 | [] => rfl
 | l :: S => by
  have h2 := Kqy S; have h3 := Kfz l; unfold allS labsS at *; rw [List.flatMap_cons, Jd, List.map_cons, List.sum_cons]; omega
theorem Kuv {S : List (List Lb)} (h : Keq S) : (tabT (tabOf S)).length ≤ 11 + 150 * labsS S := by
 have h1 : (tabOf S).length ≤ 2 * labsS S := by
  refine Nat.le_trans (Kkq _) ?_; rw [List.length_mergeSort, Kqy]; exact Nat.le_refl _
 have h3 := Kfq 64 (tabOf S) (Kiu h).2; have h4 := (Kab (tabOf S).length).2; unfold tabT; rw [Jd]; omega
theorem Kvp (S : List (List Lb)) : S.flatten.length = labsS S := by
 unfold labsS; rw [List.length_flatten]
theorem Kwi (S : List (List Lb)) : (keysOf S).length ≤ labsS S := by
 have h1 : ∀ l : List Lb, (l.foldr insK []).length ≤ l.length := by
  intro l
  induction l with
  | nil => exact Nat.le_refl _
  | cons y l ih => rw [List.foldr_cons, List.length_cons]; exact Nat.le_trans (Kmz y _) (by omega)
 rw [← Kvp]; exact h1 _
theorem Kzm (T : List (List Lb)) (l : List Lb) : labsS (T ++ [l]) = labsS T + l.length := by
 unfold labsS; rw [List.map_append, List.sum_append, List.map_cons, List.map_nil, List.sum_cons, List.sum_nil]; omega
theorem Kyy (K : List Lb) (hK : K.Nodup) : ∀ (n : Nat) (S : List (List Lb)), S.length = n → (K.map fun x => (Kaj S x).length).sum ≤ labsS S := by
 intro n
 induction n with
 | zero =>
  intro S h; have h0 : S = [] := List.eq_nil_of_length_eq_zero h; subst h0
  have : ∀ K : List Lb, (K.map fun x => (Kaj [] x).length).sum = 0 := by
   intro K
   induction K with
   | nil => rfl
   | cons y K ih => rw [List.map_cons, List.sum_cons, ih]; rfl
  rw [this]; exact Nat.zero_le _
 | succ n ih =>
  intro S h; have hne : S ≠ [] := by intro e; rw [e] at h; cases h
  obtain ⟨T, l, rfl⟩ : ∃ T l, S = T ++ [l] := ⟨S.dropLast, S.getLast hne, (List.dropLast_concat_getLast hne).symm⟩; have h1 := ih T (by rw [Jd, List.length_singleton] at h; omega); have h3 := Kmp l K hK
  have e : ∀ K : List Lb, (K.map fun x => (Kaj (T ++ [l]) x).length).sum = (K.map fun x => (Kaj T x).length).sum + (K.filter fun x => decide (x ∈ l)).length := by
   intro K
   induction K with
   | nil => rfl
   | cons y K ih =>
    rw [List.map_cons, List.sum_cons, List.map_cons, List.sum_cons, ih, Khc, List.filter_cons]
    by_cases hy : y ∈ l
    ·rw [if_pos hy, if_pos (decide_eq_true hy), Jd, List.length_cons]; simp; omega
    ·rw [if_neg hy, if_neg (by simpa using hy)]; omega
  rw [e, Kzm]; omega
theorem Kwk {S : List (List Lb)} (h : Keq S) : (Kbl S).length ≤ 11 + 140 * labsS S := by
 have h1 := (Kab (keysOf S).length).2; have h2 := Kwi S; have h3 := Kyy (keysOf S) ((Kem S).1.imp fun hab e => by subst e; exact Kec _ hab) S.length S rfl
 have h4 : ∀ K : List Lb, (∀ x ∈ K, x.n.length ≤ 32 ∧ x.v.length ≤ 64) → (K.flatMap (keyT S)).length ≤ 129 * K.length + 11 * (K.map fun x => (Kaj S x).length).sum := by
  intro K
  induction K with
  | nil => intro _; simp
  | cons y K ih =>
   intro hk; have k1 := Kvj S y (hk y (by simp)); have k2 := ih (fun x hx => hk x (by simp [hx])); rw [List.flatMap_cons, Jd, List.length_cons, List.map_cons, List.sum_cons]; omega
 have h5 := h4 (keysOf S) (Khd h); unfold Kbl; rw [Jd]; omega
theorem Qau (t : List Txt) (s : Ser) : (serT t s).length ≤ 33 + 22 * s.labels.length + 11 * s.samples.length := by
 unfold serT; rw [Jd, Jd]; have h1 := Qbr t s.labels; have h2 := (Kab (Kak s).length).2; have h3 := Ksx (Kak s); have h4 := Kly s; omega
theorem Knz (t : List Txt) : ∀ l : List Ser, (l.flatMap (serT t)).length ≤ 33 * l.length + 22 * labsN l + 11 * smpsN l
 | [] => by simp [smpsN, labsN]
 | s :: l => by
  have h1 := Qau t s; have h2 := Knz t l; simp only [smpsN, labsN, List.map_cons, List.sum_cons, List.flatMap_cons, Jd, List.length_cons] at *; omega
theorem Kyw {c : Cont} (h : fitB c = true) : (Kba c).length ≤ 33 + 312 * labsN c.series + 33 * c.series.length + 11 * smpsN c.series := by
 have hs := Khn h; have h1 := Kuv hs; have h2 := (Kab c.series.length).2; have h3 := Knz (tabOf (Kae c)) c.series; have h4 := Kwk hs; rw [Qah] at h1 h4; unfold Kba; simp only [Jd]; omega
theorem Kxo {c : Cont} (h : fitB c = true) (hn : c.series.length ≤ 1048576) (hm : smpsN c.series + wndsN c.series ≤ 1048576) (hk : labsN c.series ≤ 349525) : (sealT (metaB c)).length ≤ 200000000 ∧ (sealT (Kce c)).length ≤ 200000000 ∧ (sealT (Kba c)).length ≤ 200000000 := by
 have h1 := Krw h; have h2 := Kyw h
 have h3 : ∀ l : List UInt8, (sealT l).length = l.length + 4 := fun l => by
  unfold sealT; rw [Jd]; rfl
 rw [h3, h3, h3]; omega
end
end Go.Proofs.YtdoiekknhnbepaaGreatDoor
