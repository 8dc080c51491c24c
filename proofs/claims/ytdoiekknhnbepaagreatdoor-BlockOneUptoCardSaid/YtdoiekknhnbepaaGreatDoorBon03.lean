/- Merged (what the claim wants of): ColWalks, AggPlain, BitPlain, ChkPlain, ChkPlain2, ChkPlain3, LabCmp, BlkPlain, BlkMem, UnpPlain, BackPlain, PostPlain, CrcPlain, SpnPlain2, BlkPlain2, BlkPlain3, PostWalksA, ResRow. -/
import Derived.Test.YtdoiekknhnbepaaGreatDoorBon02
import Derived.StringKeys
import Derived.Maps.OwnOps
import Derived.Maps.Views
import Derived.Test.YtdoiekknhnbepaaGreatDoorBon01
import Derived.Test.YtdoiekknhnbepaaGreatDoorProg
import Derived.WalkKit
set_option linter.unusedVariables false
set_option linter.unusedSimpArgs false
set_option maxRecDepth 100000
set_option maxHeartbeats 8000000
namespace Go.Proofs.YtdoiekknhnbepaaGreatDoor
section
open Go.RowKit Go.Sort Go.Maps
open Lib renaming hid → Jh
open List renaming length_append → Jd
attribute [local go_sem ↓] Go.wp_at_zero Go.wp_at_succ
attribute [local go_sem] Later.cell
structure Hd where
 A : Option Addr
 n : Nat
 c : Nat
instance : Inhabited Hd := ⟨⟨none, 0, 0⟩⟩
def encH (h : Hd) : List Value := [.slice h.A h.n h.c]
def Sets (w : World) (A : Option Addr) (n : Nat) (L : List (List Lb)) : Prop :=
 ∃ hs : List Hd, Elems w w.heap.size 1 encH A n hs ∧ L.length = n ∧ ∀ (i : Nat) (h : Hd), hs[i]? = some h → Elems w w.heap.size 2 encLb h.A h.n L[i]! ∧ h.n ≤ h.c
section
variable {w w' : World} {A : Option Addr} {n : Nat} {L : List (List Lb)}
theorem Sets.len (h : Sets w A n L) : L.length = n := by obtain ⟨_, _, h2, _⟩ := h; exact h2
theorem Sets.at_ (h : Sets w A n L) {i : Nat} (hi : i < n) : ∃ b off B m c, A = some ⟨b, off, none⟩ ∧ b < w.heap.size ∧ w.cell? ⟨b, off + i, none⟩ = some (.slice B m c) ∧ Elems w w.heap.size 2 encLb B m L[i]! ∧ m ≤ c := by
 obtain ⟨hs, h1, h2, h3⟩ := h; obtain ⟨b, off, e, hb, hc⟩ := h1.2 (by omega); have hl : i < hs.length := by have := h1.len; omega
 obtain ⟨a1, a2⟩ := h3 i hs[i] (List.getElem?_eq_getElem hl); have := hc i hs[i] (List.getElem?_eq_getElem hl) 0 _ rfl; exact ⟨b, off, _, _, _, e, hb, by simpa using this, a1, a2⟩
end
def allT (L : List (List Lb)) : List Txt := L.flatMap texts
theorem Kqz (l : List Lb) (L : List (List Lb)) : allT (l :: L) = texts l ++ allT L := rfl
theorem Kmy (L M : List (List Lb)) : allT (L ++ M) = allT L ++ allT M := by simp [allT]
theorem Kfz (l : List Lb) : (texts l).length = 2 * l.length := by
 induction l with
 | nil => rfl
 | cons x l ih => rw [Kgm, List.length_cons, List.length_cons, ih, List.length_cons]; omega
theorem Qat (l m : List Lb) : texts (l ++ m) = texts l ++ texts m := by simp [texts]
theorem Qcs {L : List (List Lb)} {i : Nat} (h : i < L.length) : (texts L[i]!).length ≤ (allT L).length := by
 rw [getElem!_pos L i h]; have hL : L = L.take i ++ L[i] :: L.drop (i + 1) := by rw [← List.drop_eq_getElem_cons h, List.take_append_drop]
 have e : allT L = allT (L.take i) ++ (texts L[i] ++ allT (L.drop (i + 1))) := by
  conv => lhs; rw [hL]
  rw [Kmy, Kqz]
 rw [e, Jd, Jd]; omega
theorem Qbs {L : List (List Lb)} {i : Nat} (h : i < L.length) : allT (L.take (i + 1)) = allT (L.take i) ++ texts L[i]! := by
 rw [List.take_succ_eq_append_getElem h, Kmy, getElem!_pos L i h]; simp [allT]
theorem Kjl {L : List (List Lb)} (i : Nat) : (allT (L.take i)).length ≤ (allT L).length := by
 have : allT L = allT (L.take i) ++ allT (L.drop i) := by rw [← Kmy, List.take_append_drop]
 rw [this]; simp
theorem Qfa {L : List (List Lb)} {i k : Nat} (h : i < L.length) (hk : k < L[i]!.length) : L[i]![k]!.n ∈ allT L ∧ L[i]![k]!.v ∈ allT L := by
 rw [getElem!_pos L i h] at hk ⊢; rw [getElem!_pos _ k hk]; constructor
 ·refine List.mem_flatMap.2 ⟨L[i], List.getElem_mem h, List.mem_flatMap.2 ⟨L[i][k], List.getElem_mem hk, by simp⟩⟩
 ·refine List.mem_flatMap.2 ⟨L[i], List.getElem_mem h, List.mem_flatMap.2 ⟨L[i][k], List.getElem_mem hk, by simp⟩⟩
theorem Kzc {l : List Lb} {k : Nat} (h : k < l.length) : texts (l.take (k + 1)) = texts (l.take k) ++ [l[k]!.n] ++ [l[k]!.v] := by
 rw [List.take_succ_eq_append_getElem h, Qat, getElem!_pos l k h]; simp [texts]
theorem law5 : Keyed Tryz.prog 9 := string_keyed Tryz.underlying9
theorem zero5 (w : World) : (zeroValue 3).run Tryz.prog w = .ok (.int .i64 0) w := by kernel_rfl
def Ked (w : World) (b : Nat) (D : DataW Unit) (l : List Txt) : Prop := w.ownsMap Tryz.prog 9 (plainElem Tryz.prog 3) b l.length D ∧ ∀ x : Txt, Maps.has D (.string x) = true ↔ x ∈ l
theorem Ked.put {w w' : World} {b : Nat} {D : DataW Unit} {l : List Txt} {x : Txt} {d : DataW Unit} (h : Ked w b D l) (hown : w'.ownsMap Tryz.prog 9 (plainElem Tryz.prog 3) b (l.length + 1) (D.put (.string x) d)) : Ked w' b (D.put (.string x) d) (l ++ [x]) := by
 refine ⟨by rw [Jd]; exact hown, fun y => ?_⟩
 by_cases e : y = x
 ·subst e; rw [has_put_same (k := .string y) (h.1.tidy law5).isMap trivial]; simp
 ·rw [has_put_other (by intro h; injection h with h; exact e h), h.2 y]; simp [e]
theorem Qej {D : DataW Unit} {w : World} {b n : Nat} {l ss : List Txt} (hown : w.ownsMap Tryz.prog 9 (plainElem Tryz.prog 3) b n D) (hk : ∀ x : Txt, Maps.has D (.string x) = true ↔ x ∈ l) (hp : ss.Perm (strKeys D)) : IsTab l (ss.mergeSort fun x y => decide (x ≤ y)) := by
 obtain ⟨es, rfl, hpw⟩ := hown.tidy law5; obtain ⟨es', e', hko⟩ := hown.keysOf; injection e' with e'; subst e'
 have hstr : ∀ p ∈ es, ∃ x, p.1 = .string x := fun p hp => by
  obtain ⟨v, hv⟩ := hko p hp; obtain ⟨x, _, hx, _⟩ := Maps.keyOf_str Tryz.underlying9 hv; exact ⟨x, hx⟩
 have hnd : (strKeys (.map es)).Nodup := by
  show (es.map fun p => strOf p.1).Nodup
  refine List.pairwise_map.2 (hpw.imp_of_mem fun {p q} hp' hq' hne e => hne ?_); obtain ⟨a, ha⟩ := hstr p hp'; obtain ⟨b, hb⟩ := hstr q hq'; rw [ha, hb] at e ⊢; exact congrArg _ e
 have hmem : ∀ x, x ∈ strKeys (.map es) ↔ x ∈ l := by
  intro x; rw [← hk x, has_eq, List.any_eq_true]; show x ∈ es.map (fun p => strOf p.1) ↔ _
  rw [List.mem_map]; constructor
  ·rintro ⟨p, hp, rfl⟩; obtain ⟨a, ha⟩ := hstr p hp; exact ⟨p, hp, by rw [ha]; simp [strOf, Lit.sameKey]⟩
  ·rintro ⟨p, hp, e⟩; obtain ⟨a, ha⟩ := hstr p hp; rw [ha] at e; exact ⟨p, hp, by rw [ha]; simpa [strOf, Lit.sameKey] using e⟩
 have hsorted : (ss.mergeSort fun x y => decide (x ≤ y)).Pairwise (fun a b => a ≤ b) := by
  have := List.pairwise_mergeSort (le := fun x y : Txt => decide (x ≤ y)) (by intro a b c; simp; exact List.le_trans) (by intro a b; simp; exact List.le_total a b) ss; simpa using this
 have hperm := (List.mergeSort_perm ss fun x y => decide (x ≤ y)).trans hp; have hnd' := (hperm.nodup_iff).2 hnd; refine ⟨?_, fun x => ?_⟩
 ·unfold Asc; refine (hsorted.and hnd').imp ?_; rintro a b ⟨h1, h2⟩; exact Kry h1 (Ne.symm h2)
 ·rw [← hmem x]; exact hperm.mem_iff
theorem Ked.below {w w' : World} {b : Nat} {D : DataW Unit} {l : List Txt} (h : Ked w b D l) (hb : Below w.heap.size w w') : Ked w' b D l :=
 ⟨h.1.kept (row := none) ⟨hb.os, hb.tape, hb.output, hb.size, fun k hk _ => hb.block k hk⟩ (by simp), h.2⟩
theorem Kqq {w w0 w' : World} {B b : Nat} (h : Below B w w0) (hg : w0.grownBy w' (some b)) (hb : B ≤ b) (hB : B ≤ w0.heap.size) : Below B w w' :=
 h.trans ⟨hg.os, hg.tape, hg.output, hg.size, fun k hk => hg.block k (by omega) (fun e => by injection e with e; omega)⟩
theorem Ksd (L : List (List Lb)) (A : Option Addr) (n c : Nat) (w : World) (hS : Sets w A n L) (hn : n ≤ 1099511627776) (hall : (allT L).length ≤ 1099511627776) (hz : ∀ x ∈ allT L, x.length ≤ 1099511627776) :
  Calls Tryz.prog 39 #[.slice A n c] w (OfOut w (allT L)) := by
 have hmm := @run_makeMap Tryz.prog; have hL := hS.len; have HL := Jh hL; have HZ := Jh hz; clear hL hz; go_enter Tryz.func39, Tryz.ntmps39
 go_upto_block 0 with fail
 go_cut [3] (fun s3 wz => ∃ D, s3 = .map (some w.heap.size) ∧ Ked wz w.heap.size D (allT L) ∧ Below w.heap.size w wz)
 case first =>
  go_wp2_with fail
  go_loopg [11] n (fun g s11 wr => ∃ (i : Nat) (D : DataW Unit), i + g = n ∧ s11 = .int .i64 (i : Int) ∧ Ked wr w.heap.size D (allT (L.take i)) ∧ Below w.heap.size w wr)
  case atStart => exact ⟨0, _, by omega, rfl, ⟨World.ownsMap_made _ _ _ _, fun x => by simp [allT, Maps.has]⟩, (Below.refl _ _).alloc (Nat.le_refl _) _⟩
  case round =>
   obtain ⟨i, D, hig, rfl, hkm, hB⟩ := hrel; have HIG := Jh hig; clear hig
   by_cases hi : i < n
   ·have el : decide ((i : Int) < (n : Int)) = true := by simp; omega
    have el' : decide (i < n) = true := by simp; omega
    have hiL : i < L.length := by have := HL.out; omega
    obtain ⟨b, off, C, m, d, rfl, hbl, hcell, hE, hmd⟩ := hS.at_ hi; have hcr := (hB.cell (p := ⟨b, off + i, none⟩) hbl).trans hcell; have htl := Kjl (L := L) i; have htk := Qbs hiL; have hpart := Qcs hiL; have hmem := fun k hk => Qfa (L := L) (i := i) (k := k) hiL hk
    obtain ⟨l, hl⟩ : ∃ l, L[i]! = l := ⟨_, rfl⟩; rw [hl] at hE htk hpart hmem; have hll := hE.len; rw [Kfz, hll] at hpart
    have hsum : (allT (L.take i)).length + 2 * m ≤ 1099511627776 := by
     have h1 := Kjl (L := L) (i + 1); rw [htk, Jd, Kfz, hll] at h1; omega
    obtain ⟨T, hT⟩ : ∃ T, allT (L.take i) = T := ⟨_, rfl⟩; rw [hT] at hkm htk hsum; have HTK := Jh htk; have HLL := Jh hll; have HMEM := Jh hmem; clear hcell htl htk hmem hl hll hT hiL; go_upto_block 1 with fail
    go_cut [] (fun wz => ∃ D, Ked wz w.heap.size D (T ++ texts l) ∧ Below w.heap.size w wz)
    case first =>
     go_wp2_with fail
     go_loopg [17] m (fun g s17 wz => ∃ (k : Nat) (D : DataW Unit), k + g = m ∧ s17 = .int .i64 (k : Int) ∧ Ked wz w.heap.size D (T ++ texts (l.take k)) ∧ Below w.heap.size w wz)
     case atStart => exact ⟨0, D, by omega, rfl, by simpa [texts] using hkm, hB⟩
     case round =>
      obtain ⟨k, D, hkg, rfl, hkm, hB⟩ := hrel; have HKG := Jh hkg; clear hkg
      by_cases hk : k < m
      ·have ek : decide ((k : Int) < (m : Int)) = true := by simp; omega
       have ek' : decide (k < m) = true := by simp; omega
       have hkl : k < l.length := by have := HLL.out; omega
       obtain ⟨bb, oo, rfl, _, _⟩ := hE.2 (by omega); obtain ⟨hbl2, c0, c1⟩ := Kbn hE (by omega) hB k hkl; obtain ⟨hm1, hm2⟩ := HMEM.out k hkl; have z1 := HZ.out _ hm1; have z2 := HZ.out _ hm2; have htk := Kzc hkl; obtain ⟨x, hx⟩ : ∃ x, l[k]! = x := ⟨_, rfl⟩; rw [hx] at c0 c1 z1 z2 htk; obtain ⟨N, hN⟩ : ∃ N : ByteArray, (⟨x.n.toArray⟩ : ByteArray) = N := ⟨_, rfl⟩; obtain ⟨V, hV⟩ : ∃ N : ByteArray, (⟨x.v.toArray⟩ : ByteArray) = N := ⟨_, rfl⟩; rw [hN] at c0; rw [hV] at c1; have hNn : N.data.toList = x.n := by rw [← hN]
       have hVv : V.data.toList = x.v := by rw [← hV]
       have hNz : N.size ≤ maxLen := by rw [← Kaf, hNn]; unfold maxLen; omega
       have hVz : V.size ≤ maxLen := by rw [← Kaf, hVv]; unfold maxLen; omega
       have kN := Go.WideMaps.keyOf_string_mk (P := Tryz.prog) Tryz.underlying9 hNz; have kV := Go.WideMaps.keyOf_string_mk (P := Tryz.prog) Tryz.underlying9 hVz; rw [hNn] at kN; rw [hVv] at kV
       have hUl : (T ++ texts (l.take k)).length + 2 ≤ 1099511627776 := by
        rw [Jd, Kfz, List.length_take]; omega
       obtain ⟨U, hU⟩ : ∃ U, T ++ texts (l.take k) = U := ⟨_, rfl⟩; have hnext : T ++ texts (l.take (k + 1)) = U ++ [x.n] ++ [x.v] := by rw [htk, ← hU]; simp
       rw [hU] at hkm hUl; have HNEXT := Jh hnext; have KN := Jh kN; have KV := Jh kV; clear hx hN hV hNn hVv hNz hVz kN kV hU hnext htk hm1 hm2 z1 z2; go_upto_region 8 with fail
       have hB1 : Below w.heap.size w (wr.alloc (.cells #[.string N, .string V] 99)) := hB.alloc hB.size _; have hq : Blk (wr.alloc (.cells #[.string N, .string V] 99)) wr.heap.size 99 #[.string N, .string V] := Blk.new _ _ _; have hkm1 : Ked (wr.alloc (.cells #[.string N, .string V] 99)) w.heap.size D U := hkm.below ((Below.refl _ _).alloc (Nat.le_refl _) _); have hqne : w.heap.size ≠ wr.heap.size := by have := hkm.1.lt; omega
       obtain ⟨v1, hv1⟩ : ∃ w1, wr.alloc (.cells #[.string N, .string V] 99) = w1 := ⟨_, rfl⟩; obtain ⟨q, hqq⟩ : ∃ p, wr.heap.size = p := ⟨_, rfl⟩; rw [hv1] at hB1 hq hkm1 ⊢; rw [hqq] at hq hqne ⊢; clear hv1 hqq c0 c1 hB hkm; have q0 : _ = some (Value.string N) := hq.cell 0; have q1 : _ = some (Value.string V) := hq.cell 1; go_wp2_with (at_lookup; refine wpList_lookup_own_int _ rfl _ _ 191 rfl 9 3 .i64 law5 Tryz.underlying191 Tryz.underlying3 (zero5 _) w.heap.size U.length D rfl hkm1.1 _ _ rfl KN.out ?_)
       intro cn _ hwc; go_wp2_with (at_mapUpdate; refine wpList_mapUpdate_own _ rfl _ _ _ 191 rfl 9 3 law5 Tryz.underlying191 _ w.heap.size U.length D rfl hkm1.1 (by unfold maxLen; omega) _ _ _ rfl rfl KN.out _ [] (plainElem_int Tryz.underlying3 (wrap64_wf _)) ?_)
       intro v2 hown2 hgrow2; have hkm2 := hkm1.put hown2; have hq2 := hq.grown hgrow2 (by simpa using Ne.symm hqne); have hB2 := Kqq hB1 hgrow2 (Nat.le_refl _) hB1.size; have q1' : _ = some (Value.string V) := hq2.cell 1; clear hown2 hgrow2 hkm1 q0 q1 hq hB1; go_wp2_with (at_lookup; refine wpList_lookup_own_int _ rfl _ _ 191 rfl 9 3 .i64 law5 Tryz.underlying191 Tryz.underlying3 (zero5 _) w.heap.size (U ++ [x.n]).length _ rfl hkm2.1 _ _ rfl KV.out ?_)
       intro cv _ hwv; go_wp2_with (at_mapUpdate; refine wpList_mapUpdate_own _ rfl _ _ _ 191 rfl 9 3 law5 Tryz.underlying191 _ w.heap.size (U ++ [x.n]).length _ rfl hkm2.1 (by unfold maxLen; simp; omega) _ _ _ rfl rfl KV.out _ [] (plainElem_int Tryz.underlying3 (wrap64_wf _)) ?_)
       intro v3 hown3 hgrow3; have hkm3 := hkm2.put (by rw [Jd]; exact hown3); have hB3 := Kqq hB2 hgrow3 (Nat.le_refl _) hB2.size; clear hown3 hgrow3 hkm2 q1' hq2 hB2; go_wp2_with fail
       go_roundg (gk - 1)
       case measure => have := HKG.out; omega
       case rel => exact ⟨k + 1, _, by have := HKG.out; omega, by go_num, by rw [HNEXT.out]; exact hkm3, hB3⟩
      ·have ek : decide ((k : Int) < (m : Int)) = false := by simp; omega
       have ek' : decide (k < m) = false := by simp; omega
       have htk : l.take k = l := List.take_of_length_le (by have := HLL.out; omega); rw [htk] at hkm; clear htk; go_wp2_with fail
       go_meet
       exact ⟨D, hkm, hB⟩
    case rest =>
     obtain ⟨D', hkm', hB'⟩ := hcut; obtain ⟨wx, rfl⟩ : ∃ x, x = wc := ⟨_, rfl⟩; go_wp2_with fail
     go_roundg (gk - 1)
     case measure => have := HIG.out; omega
     case rel => exact ⟨i + 1, D', by have := HIG.out; omega, by go_num, by rw [HTK.out]; exact hkm', hB'⟩
   ·have el : decide ((i : Int) < (n : Int)) = false := by simp; omega
    have el' : decide (i < n) = false := by simp; omega
    have htk : L.take i = L := List.take_of_length_le (by have := HL.out; omega); rw [htk] at hkm; clear htk; go_wp2_with fail
    go_meet
    exact ⟨D, rfl, hkm, hB⟩
 case rest =>
  obtain ⟨D, rfl, hkm, hB⟩ := hcut; obtain ⟨w1, rfl⟩ : ∃ x, x = wc := ⟨_, rfl⟩; have hkeys := callsIn_wide.1 (Tryz.maps_Keys_108 (some w.heap.size) w1)
  have hsz : Maps.size D ≤ 1099511627776 := by
   obtain ⟨es, clock, _, _, hs, hD⟩ := hkm.1; rw [hD, size_eq, length_sorted, List.length_map, Array.length_toList]; omega
  have hsorted := callsIn_wide.1 (Tryz.slices_Sorted_keys_107_108 w.heap.size (allT L).length D _ w1 hkm.1 (by unfold maxLen; omega) (by omega)); have HK := Jh hkeys; have HSO := Jh hsorted; clear hkeys hsorted; go_wp2_with fail
  refine HK.out.mono ?_; rintro e w2 ⟨rfl, rfl⟩; go_wp2_with fail
  refine HSO.out.mono ?_; rintro e w3 ⟨v, ss, rfl, hP, hrow, _, hb3⟩; have htab := Qej hkm.1 hkm.2 hP; have hB2 : Below w.heap.size w (w1.alloc (.cells #[.map (some w.heap.size)] 191)) := hB.alloc hB.size _; have hB3 := then_ hB2 hb3
  have hlen : (ss.mergeSort fun x y => decide (x ≤ y)).length ≤ (allT L).length := by
   rw [List.length_mergeSort, hP.length_eq]; obtain ⟨es, clock, _, _, hs, hD⟩ := hkm.1; rw [hD]; show (List.map _ _).length ≤ _
   rw [List.length_map, length_sorted, List.length_map, Array.length_toList]; exact hs
  have hml : (ss.mergeSort fun x y => decide (x ≤ y)).length = ss.length := List.length_mergeSort _; obtain ⟨z, hz⟩ : ∃ z, ss.mergeSort (fun x y => decide (x ≤ y)) = z := ⟨_, rfl⟩; rw [hz] at htab hlen hml hrow; rw [← hml] at hrow; obtain ⟨A', c', rfl, hs3, _, hc3⟩ := Strs.of_own hrow rfl; obtain ⟨q, hq⟩ : ∃ m, z.length = m := ⟨_, rfl⟩; rw [hq] at hs3 hc3 ⊢; have HLEN := Jh hlen; clear hz hml hrow hkm hB hb3 hB2 hP hsz hq hlen; go_wp2_with fail
  go_ret
  exact ⟨_, z, rfl, ⟨_, q, c', .inr ⟨_, rfl, Blk.new _ _ _⟩, hs3.below ((Below.refl _ _).alloc (Nat.le_refl _) _), hc3⟩, htab, HLEN.out, hB3.alloc hB3.size _, hB3.size⟩
end
section
structure Wnd where
 start : Int
 count : Int
 sum : Nat
 min : Nat
 max : Nat
 last : Nat
def wnd0 : Wnd := ⟨0, 0, 0, 0, 0, 0⟩
def Kcw (w a : Wnd) (first : Bool) : Nat :=
 if w.start < 0 ∨ 1125899906842624 < w.start then 1 else if first = false ∧ w.start ≤ a.start then 2 else if w.count < 1 ∨ 4611686018427387904 < w.count then 3 else 0
def WndOk (w : Wnd) : Prop := 0 ≤ w.start ∧ w.start ≤ 1125899906842624 ∧ 1 ≤ w.count ∧ w.count ≤ 4611686018427387904
def Kaz (w : Wnd) : Prop := w.sum < 2 ^ 64 ∧ w.min < 2 ^ 64 ∧ w.max < 2 ^ 64 ∧ w.last < 2 ^ 64
theorem Kew (w a : Wnd) (first : Bool) : Kcw w a first = 0 ↔ WndOk w ∧ (first = true ∨ a.start < w.start) := by
 unfold Kcw WndOk; cases first <;> simp <;> split <;> (try split) <;> (try split) <;> simp <;> omega
def wndT (a w : Wnd) : List UInt8 := uintT (w.start - a.start).toNat ++ uintT w.count.toNat ++ uintT (w.sum ^^^ a.sum) ++ uintT (w.min ^^^ a.min) ++ uintT (w.max ^^^ a.max) ++ uintT (w.last ^^^ a.last)
def wndsT : Wnd → List Wnd → List UInt8
 | _, [] => []
 | a, w :: l => wndT a w ++ wndsT w l
def aggT (l : List Wnd) : List UInt8 := uintT l.length ++ wndsT wnd0 l
def Kbx : Wnd → Bool → List Wnd → Bool
 | _, _, [] => true
 | a, first, w :: l => decide (Kcw w a first = 0) && Kbx w false l
def ruAt (s : List UInt8) (i : Nat) : Option (Nat × Nat) := match readU (s.drop i) with
 | .ok (v, k) => some (v, i + k)
 | .error _ => none
theorem ru_of {s r : List UInt8} {i v : Nat} (hv : v < 2 ^ 64) (h : s.drop i = uintT v ++ r) : ruAt s i = some (v, i + (uintT v).length) ∧ s.drop (i + (uintT v).length) = r := by
 refine ⟨?_, ?_⟩
 ·unfold ruAt; rw [h, Kep hv]
 ·rw [← List.drop_drop, h, List.drop_left]
def wndR (a : Wnd) (first : Bool) (s : List UInt8) (i : Nat) : Option (Wnd × Nat) :=
 match ruAt s i with
 | none => none
 | some (st, i1) => match ruAt s i1 with
  | none => none
  | some (ct, i2) => match ruAt s i2 with
   | none => none
   | some (a1, i3) => match ruAt s i3 with
    | none => none
    | some (a2, i4) => match ruAt s i4 with
     | none => none
     | some (a3, i5) => match ruAt s i5 with
      | none => none
      | some (a4, i6) =>
       if st ≤ 1125899906842624 ∧ Kcw ⟨a.start + st, (Nat.min ct 4611686018427387905 : Nat), a.sum ^^^ a1, a.min ^^^ a2, a.max ^^^ a3, a.last ^^^ a4⟩ a first = 0 then
        some (⟨a.start + st, (Nat.min ct 4611686018427387905 : Nat), a.sum ^^^ a1, a.min ^^^ a2, a.max ^^^ a3, a.last ^^^ a4⟩, i6) else none
def wndsR (s : List UInt8) : Nat → Wnd → Bool → Nat → Option (List Wnd × Nat)
 | 0, _, _, i => some ([], i)
 | n + 1, a, first, i => match wndR a first s i with
  | none => none
  | some (w, i') => match wndsR s n w false i' with
   | none => none
   | some (l, i2) => some (w :: l, i2)
def aggR (s : List UInt8) : Option (List Wnd) := match ruAt s 0 with
 | none => none
 | some (n, i) => match wndsR s n wnd0 true i with
  | none => none
  | some (l, j) => if j = s.length then some l else none
theorem Qfy {s r : List UInt8} {i : Nat} {a w : Wnd} {first : Bool} (ha : 0 ≤ a.start) (hb : Kaz a) (hw : Kaz w) (hf : Kcw w a first = 0) (hz : first = true → a.start = 0) (h : s.drop i = wndT a w ++ r) :
  wndR a first s i = some (w, i + (wndT a w).length) ∧ s.drop (i + (wndT a w).length) = r := by
 obtain ⟨⟨w1, w2, w3, w4⟩, wf⟩ := (Kew w a first).1 hf
 have hle : a.start ≤ w.start := by
  rcases wf with e | e
  ·rw [hz e]; exact w1
  ·omega
 have hst : (w.start - a.start).toNat < 2 ^ 64 := by omega
 have hct : w.count.toNat < 2 ^ 64 := by omega
 have hx : ∀ {x y : Nat}, x < 2 ^ 64 → y < 2 ^ 64 → x ^^^ y < 2 ^ 64 := fun h1 h2 => Nat.xor_lt_two_pow h1 h2
 have hxx : ∀ x y : Nat, y ^^^ (x ^^^ y) = x := fun x y => by rw [Nat.xor_comm x, ← Nat.xor_assoc, Nat.xor_self, Nat.zero_xor]
 unfold wndT at h ⊢; simp only [List.append_assoc] at h; obtain ⟨e1, k1⟩ := ru_of hst h; obtain ⟨e2, k2⟩ := ru_of hct k1; obtain ⟨e3, k3⟩ := ru_of (hx hw.1 hb.1) k2; obtain ⟨e4, k4⟩ := ru_of (hx hw.2.1 hb.2.1) k3; obtain ⟨e5, k5⟩ := ru_of (hx hw.2.2.1 hb.2.2.1) k4; obtain ⟨e6, k6⟩ := ru_of (hx hw.2.2.2 hb.2.2.2) k5; have hs : a.start + ((w.start - a.start).toNat : Int) = w.start := by omega
 have hm : ((Nat.min w.count.toNat 4611686018427387905 : Nat) : Int) = w.count := by
  rw [show Nat.min w.count.toNat 4611686018427387905 = w.count.toNat from Nat.min_eq_left (by omega)]; omega
 have hcond : (w.start - a.start).toNat ≤ 1125899906842624 := by omega
 refine ⟨?_, ?_⟩
 ·unfold wndR; simp only [e1, e2, e3, e4, e5, e6, hxx, hs, hm]; rw [if_pos ⟨hcond, hf⟩]; simp [Nat.add_assoc]
 ·simpa [Nat.add_assoc] using k6
theorem Kql {s : List UInt8} : ∀ (l : List Wnd) {i : Nat} {a : Wnd} {first : Bool}, 0 ≤ a.start → Kaz a → (∀ w ∈ l, Kaz w) → Kbx a first l = true → (first = true → a.start = 0) → s.drop i = wndsT a l → wndsR s l.length a first i = some (l, i + (wndsT a l).length)
 | [], _, _, _, _, _, _, _, _, _ => rfl
 | w :: l, i, a, first, ha, hb, hw, hf, hz, h => by
  rw [Kbx, Bool.and_eq_true, decide_eq_true_eq] at hf; rw [wndsT] at h; obtain ⟨e1, k1⟩ := Qfy ha hb (hw w (List.mem_cons_self ..)) hf.1 hz h; have hw0 := ((Kew w a first).1 hf.1).1.1; have ih := Kql l hw0 (hw w (List.mem_cons_self ..)) (fun x hx => hw x (List.mem_cons_of_mem _ hx)) hf.2 (fun h => by cases h) k1; rw [List.length_cons, wndsR, e1]; dsimp only; rw [ih]; simp [wndsT, Nat.add_assoc]
theorem Qfp {l : List Wnd} (hw : ∀ w ∈ l, Kaz w) (hf : Kbx wnd0 true l = true) (hn : l.length < 2 ^ 64) : aggR (aggT l) = some l := by
 have h0 : (aggT l).drop 0 = uintT l.length ++ wndsT wnd0 l := rfl; obtain ⟨e1, k1⟩ := ru_of hn h0; have e2 := Kql l (a := wnd0) (first := true) (Int.le_refl _) ⟨by decide, by decide, by decide, by decide⟩ hw hf (fun _ => rfl) k1; unfold aggR; rw [e1]; dsimp only; rw [e2]; dsimp only; rw [if_pos]; simp [aggT]
def bitAt (s : List UInt8) (i : Nat) : Bool := (s.getD (i / 8) 0).toNat.testBit (7 - i % 8)
def roomB (s : List UInt8) (n : Nat) : List UInt8 := if n % 8 = 0 then s ++ [0] else s
def pushB (s : List UInt8) (n : Nat) (b : Bool) : List UInt8 :=
 if b then (roomB s n).set (n / 8) ((roomB s n).getD (n / 8) 0 ||| UInt8.ofNat (128 >>> (n % 8))) else roomB s n
structure Kct (s : List UInt8) (l : List Bool) : Prop where
 len : s.length = (l.length + 7) / 8
 bit : ∀ i, bitAt s i = l.getD i false
theorem Kct.nil : Kct [] [] := ⟨rfl, fun i => by simp [bitAt]⟩
theorem Kkn {s : List UInt8} {n : Nat} (h : s.length = (n + 7) / 8) : (roomB s n).length = n / 8 + 1 := by
 unfold roomB
 split
 ·rw [List.length_append, List.length_singleton]; omega
 ·omega
theorem Kkj {s : List UInt8} {n : Nat} (h : s.length = (n + 7) / 8) (i : Nat) : bitAt (roomB s n) i = bitAt s i := by
 unfold roomB
 split
 ·unfold bitAt; congr 2; simp only [List.getD_eq_getElem?_getD]
  by_cases hi : i / 8 < s.length
  ·rw [List.getElem?_append_left hi]
  ·rw [List.getElem?_append_right (by omega), List.getElem?_eq_none (l := s) (by omega)]
   by_cases h0 : i / 8 - s.length = 0
   ·rw [h0]; rfl
   ·rw [List.getElem?_eq_none (by simp; omega)]
 ·rfl
theorem Qid (k j : Nat) (hk : k < 8) (hj : j < 8) : (UInt8.ofNat (128 >>> k)).toNat.testBit (7 - j) = decide (j = k) := by
 rcases (by omega : k = 0 ∨ k = 1 ∨ k = 2 ∨ k = 3 ∨ k = 4 ∨ k = 5 ∨ k = 6 ∨ k = 7) with rfl | rfl | rfl | rfl | rfl | rfl | rfl | rfl <;>
 rcases (by omega : j = 0 ∨ j = 1 ∨ j = 2 ∨ j = 3 ∨ j = 4 ∨ j = 5 ∨ j = 6 ∨ j = 7) with rfl | rfl | rfl | rfl | rfl | rfl | rfl | rfl <;> rfl
theorem Kct.push {s : List UInt8} {l : List Bool} (h : Kct s l) (b : Bool) : Kct (pushB s l.length b) (l ++ [b]) := by
 have hr := Kkn h.len; refine ⟨?_, fun i => ?_⟩
 ·unfold pushB
  split
  ·rw [List.length_set, hr, List.length_append, List.length_singleton]; omega
  ·rw [hr, List.length_append, List.length_singleton]; omega
 ·have h0 : (l ++ [b]).getD i false = if i = l.length then b else l.getD i false := by
   simp only [List.getD_eq_getElem?_getD]
   by_cases hi : i < l.length
   ·rw [List.getElem?_append_left hi, if_neg (by omega)]
   ·rw [List.getElem?_append_right (by omega)]
    by_cases he : i = l.length
    ·subst he; simp
    ·rw [if_neg he, List.getElem?_eq_none (by simp; omega), List.getElem?_eq_none (by omega)]
  rw [h0, ← h.bit i]; unfold pushB
  cases b with
  | false =>
   rw [if_neg (by simp), Kkj h.len]
   split
   ·rename_i he
    rw [he, h.bit]; simp
   ·rfl
  | true =>
   rw [if_pos rfl]
   by_cases hq : i / 8 = l.length / 8
   ·have e1 : bitAt ((roomB s l.length).set (l.length / 8) ((roomB s l.length).getD (l.length / 8) 0 ||| UInt8.ofNat (128 >>> (l.length % 8)))) i = (bitAt (roomB s l.length) i || decide (i % 8 = l.length % 8)) := by
     unfold bitAt; rw [hq]
     have e2 : ((roomB s l.length).set (l.length / 8) ((roomB s l.length).getD (l.length / 8) 0 ||| UInt8.ofNat (128 >>> (l.length % 8)))).getD (l.length / 8) 0 = ((roomB s l.length).getD (l.length / 8) 0 ||| UInt8.ofNat (128 >>> (l.length % 8))) := by
      simp only [List.getD_eq_getElem?_getD]; rw [List.getElem?_set_self (by omega)]; rfl
     rw [e2, UInt8.toNat_or, Nat.testBit_or, Qid _ _ (Nat.mod_lt _ (by omega)) (Nat.mod_lt _ (by omega))]
    rw [e1, Kkj h.len]
    by_cases he : i = l.length
    ·rw [if_pos he, he]; simp
    ·have : i % 8 ≠ l.length % 8 := by omega
     rw [if_neg he, decide_eq_false this, Bool.or_false]
   ·have e1 : bitAt ((roomB s l.length).set (l.length / 8) ((roomB s l.length).getD (l.length / 8) 0 ||| UInt8.ofNat (128 >>> (l.length % 8)))) i = bitAt (roomB s l.length) i := by
     unfold bitAt; congr 2; simp only [List.getD_eq_getElem?_getD]; rw [List.getElem?_set_ne (by omega)]
    rw [e1, Kkj h.len, if_neg (by rintro rfl; exact hq rfl)]
def packFrom (s : List UInt8) (n : Nat) : List Bool → List UInt8
 | [] => s
 | b :: l => packFrom (pushB s n b) (n + 1) l
theorem Kct.packFrom {s : List UInt8} {l : List Bool} (h : Kct s l) : ∀ k : List Bool, Kct (packFrom s l.length k) (l ++ k)
 | [] => by rw [List.append_nil]; exact h
 | b :: k => by
  have := (h.push b).packFrom k; rw [List.length_append, List.length_singleton, List.append_assoc] at this; exact this
 termination_by k => k.length
def packB (l : List Bool) : List UInt8 := packFrom [] 0 l
theorem Key (l : List Bool) : Kct (packB l) l := Kct.nil.packFrom l
theorem Qhc {a b : UInt8} (h : ∀ j, j < 8 → a.toNat.testBit (7 - j) = b.toNat.testBit (7 - j)) : a = b := by
 apply UInt8.toNat_inj.1; apply Nat.eq_of_testBit_eq; intro i
 by_cases hi : i < 8
 ·have := h (7 - i) (by omega); rwa [show 7 - (7 - i) = i by omega] at this
 ·have ha := UInt8.toNat_lt a; have hb := UInt8.toNat_lt b; have h2 : 2 ^ 8 ≤ 2 ^ i := Nat.pow_le_pow_right (by omega) (by omega); rw [Nat.testBit_lt_two_pow (by omega), Nat.testBit_lt_two_pow (by omega)]
theorem Kct.unique {s t : List UInt8} {l : List Bool} (h : Kct s l) (h' : Kct t l) : s = t := by
 apply List.ext_getElem (h.len.trans h'.len.symm); intro i h1 h2; apply Qhc; intro j hj; have a := h.bit (8 * i + j); have b := h'.bit (8 * i + j); rw [← b] at a; unfold bitAt at a; rw [show (8 * i + j) / 8 = i by omega, show (8 * i + j) % 8 = j by omega] at a; simpa [List.getD_eq_getElem?_getD, List.getElem?_eq_getElem h1, List.getElem?_eq_getElem h2] using a
theorem Koa (l : List Bool) (b : Bool) : packB (l ++ [b]) = pushB (packB l) l.length b := (Key (l ++ [b])).unique ((Key l).push b)
def putN (v : Nat) : Nat → List Bool
 | 0 => []
 | n + 1 => v.testBit n :: putN v n
theorem Kar (v : Nat) : ∀ n, (putN v n).length = n
 | 0 => rfl
 | n + 1 => by rw [putN, List.length_cons, Kar v n]
def valB (l : List Bool) : Nat := l.foldl (fun v b => 2 * v + b.toNat) 0
theorem Qcy (l : List Bool) : ∀ v : Nat, l.foldl (fun v b => 2 * v + b.toNat) v = v * 2 ^ l.length + valB l := by
 unfold valB
 induction l with
 | nil => intro v; simp
 | cons b l ih =>
  intro v; rw [List.foldl_cons, List.foldl_cons, ih, ih (2 * 0 + b.toNat), List.length_cons, Nat.pow_succ]
  have : (2 * v + b.toNat) * 2 ^ l.length = v * (2 ^ l.length * 2) + b.toNat * 2 ^ l.length := by
   rw [Nat.add_mul, Nat.mul_comm 2 v, Nat.mul_assoc, Nat.mul_comm 2]
  rw [this]; simp only [Nat.mul_zero, Nat.zero_add]; omega
theorem Krb (b : Bool) (l : List Bool) : valB (b :: l) = b.toNat * 2 ^ l.length + valB l := by
 have := Qcy l (2 * 0 + b.toNat); simpa [valB] using this
theorem Krc (v : Nat) : ∀ n, valB (putN v n) = v % 2 ^ n
 | 0 => by simp [putN, valB, Nat.mod_one]
 | n + 1 => by
  rw [putN, Krb, Kar, Krc v n, Nat.pow_succ, Nat.mod_mul, Nat.testBit_eq_decide_div_mod_eq]; rcases Nat.mod_two_eq_zero_or_one (v / 2 ^ n) with h | h <;> rw [h] <;> simp <;> omega
theorem Klh : ∀ l : List Bool, valB l < 2 ^ l.length
 | [] => by simp [valB]
 | b :: l => by
  have := Klh l; rw [Krb, List.length_cons, Nat.pow_succ]; cases b <;> simp <;> omega
theorem Qdb (l : List Bool) (b : Bool) : valB (l ++ [b]) = 2 * valB l + b.toNat := by
 unfold valB; rw [List.foldl_append]; rfl
def Kco (s : List UInt8) (i n : Nat) : List Bool := (List.range n).map fun k => bitAt s (i + k)
theorem Kfn (s : List UInt8) (i n : Nat) : (Kco s i n).length = n := by simp [Kco]
theorem Qdn {s : List UInt8} {a k c : List Bool} (h : Kct s (a ++ k ++ c)) : Kco s a.length k.length = k := by
 apply List.ext_getElem (Kfn _ _ _); intro i h1 h2; have e : (Kco s a.length k.length)[i] = bitAt s (a.length + i) := by simp [Kco]
 rw [e, h.bit]; rw [List.getD_eq_getElem?_getD, List.append_assoc, List.getElem?_append_right (by omega), Nat.add_sub_cancel_left, List.getElem?_append_left h2, List.getElem?_eq_getElem h2]; rfl
def Kap (s : List UInt8) (i : Nat) (k : List Bool) : Prop := Kco s i k.length = k ∧ i + k.length ≤ 8 * s.length
theorem Kpi (s : List UInt8) (i n m : Nat) : Kco s i (n + m) = Kco s i n ++ Kco s (i + n) m := by
 unfold Kco; rw [List.range_add, List.map_append, List.map_map]; congr 1; exact List.map_congr_left fun k _ => by simp [Nat.add_assoc]
theorem Kap.app {s : List UInt8} {i : Nat} {a b : List Bool} (h : Kap s i (a ++ b)) : Kap s i a ∧ Kap s (i + a.length) b := by
 obtain ⟨h1, h2⟩ := h; rw [List.length_append, Kpi] at h1; rw [List.length_append] at h2; obtain ⟨e1, e2⟩ := List.append_inj h1 (Kfn _ _ _); exact ⟨⟨e1, by omega⟩, e2, by omega⟩
theorem Kct.holds {s : List UInt8} {a k c : List Bool} (h : Kct s (a ++ k ++ c)) : Kap s a.length k := by
 refine ⟨Qdn h, ?_⟩; have := h.len; simp only [List.length_append] at this; omega
def readN (s : List UInt8) (i n : Nat) : Option (Nat × Nat) := if i + n ≤ 8 * s.length then some (valB (Kco s i n), i + n) else none
theorem Kap.read {s : List UInt8} {i n : Nat} {k : List Bool} (h : Kap s i k) (hn : k.length = n) : readN s i n = some (valB k, i + n) := by
 subst hn; unfold readN; rw [if_pos h.2, h.1]
theorem Kap.put {s : List UInt8} {i v n : Nat} (h : Kap s i (putN v n)) : readN s i n = some (v % 2 ^ n, i + n) := by
 rw [h.read (Kar v n), Krc]
structure Smp where
 t : Int
 v : Nat
structure Cst where
 n : Nat
 last : Smp
 step : Int
 lead : Nat
 tail : Nat
 window : Bool
def cst0 : Cst := ⟨0, ⟨0, 0⟩, 0, 0, 0, false⟩
def u64N (c : Int) : Nat := (c % 18446744073709551616).toNat
def Kcd (c : Int) : List Bool :=
 if c = 0 then [false] else
 if -64 ≤ c ∧ c < 64 then putN 2 2 ++ putN (u64N c) 7 else
 if -256 ≤ c ∧ c < 256 then putN 6 3 ++ putN (u64N c) 9 else
 if -2048 ≤ c ∧ c < 2048 then putN 14 4 ++ putN (u64N c) 12 else putN 15 4 ++ putN (u64N c) 64
def clzN (x : Nat) : Nat := 64 - (if x = 0 then 0 else x.log2 + 1)
def ctzF (x : Nat) : Nat → Nat
 | 0 => 0
 | f + 1 => if x % 2 = 1 then 0 else ctzF (x / 2) f + 1
def ctzN (x : Nat) : Nat := ctzF x 64
def Kbj (c : Cst) (x : Nat) : List Bool × Cst :=
 if x = 0 then ([false], c) else
 if c.window = true ∧ c.lead ≤ min (clzN x) 31 ∧ c.tail ≤ ctzN x then (putN 2 2 ++ putN (x >>> c.tail) (64 - c.lead - c.tail), c) else
 (putN 3 2 ++ putN (min (clzN x) 31) 5 ++ putN (63 - min (clzN x) 31 - ctzN x) 6 ++ putN (x >>> ctzN x) (64 - min (clzN x) 31 - ctzN x), { c with lead := min (clzN x) 31, tail := ctzN x, window := true })
def Kbk (c : Cst) (s : Smp) : List Bool × Cst :=
 if c.n = 0 then (putN (u64N s.t) 64 ++ putN s.v 64, { c with n := 1, last := s }) else
 (Kcd (s.t - c.last.t - c.step) ++ (Kbj { c with step := s.t - c.last.t } (s.v ^^^ c.last.v)).1, { (Kbj { c with step := s.t - c.last.t } (s.v ^^^ c.last.v)).2 with last := s, n := c.n + 1 })
def Kbm : Cst → List Smp → List Bool
 | _, [] => []
 | c, s :: l => (Kbk c s).1 ++ Kbm (Kbk c s).2 l
def Kdx (s : List UInt8) : Nat → Nat → Option (Nat × Nat)
 | 0, i => some (0, i)
 | k + 1, i => match readN s i 1 with
  | none => none
  | some (b, i') => if b = 1 then (match Kdx s k i' with | none => none | some (m, i2) => some (m + 1, i2)) else some (0, i')
def Kdk (m : Nat) : Nat := if m = 1 then 7 else if m = 2 then 9 else if m = 3 then 12 else 64
def signW (w v : Nat) : Int := if v < 2 ^ (w - 1) then (v : Int) else (v : Int) - 2 ^ w
def Kbr (s : List UInt8) (i : Nat) : Option (Int × Nat) := match Kdx s 4 i with
 | none => none
 | some (0, i') => some (0, i')
 | some (m + 1, i') => match readN s i' (Kdk (m + 1)) with
  | none => none
  | some (v, i2) => some (signW (Kdk (m + 1)) v, i2)
def Kbd (c : Cst) (s : List UInt8) (i : Nat) : Option (Nat × Cst × Nat) := match readN s i 1 with
 | none => none
 | some (0, i') => some (0, c, i')
 | some (_ + 1, i') => match readN s i' 1 with
  | none => none
  | some (0, i2) => if c.window = true then (match readN s i2 (64 - c.lead - c.tail) with | none => none | some (v, i3) => some (v <<< c.tail, c, i3)) else none
  | some (_ + 1, i2) => match readN s i2 5 with
   | none => none
   | some (ld, i3) => match readN s i3 6 with
    | none => none
    | some (k, i4) => if ld + k ≤ 63 then (match readN s i4 (k + 1) with | none => none | some (v, i5) => some (v <<< (63 - ld - k), { c with lead := ld, tail := 63 - ld - k, window := true }, i5)) else none
theorem Kgv {w : Nat} {c : Int} (hw : w = 7 ∨ w = 9 ∨ w = 12 ∨ w = 64) (h1 : -(2 ^ (w - 1) : Nat) ≤ c) (h2 : c < (2 ^ (w - 1) : Nat)) : signW w (u64N c % 2 ^ w) = c := by
 unfold signW u64N; rcases hw with rfl | rfl | rfl | rfl <;> simp at h1 h2 ⊢ <;> split <;> omega
theorem Kxc {s : List UInt8} {i : Nat} {c : Int} (h : Kap s i (Kcd c)) (h1 : -9223372036854775808 ≤ c) (h2 : c < 9223372036854775808) : Kbr s i = some (c, i + (Kcd c).length) := by
 have hb : ∀ (k : List Bool) (j : Nat), Kap s j (true :: k) → readN s j 1 = some (1, j + 1) ∧ Kap s (j + 1) k := fun k j h => by
  have := Kap.app (a := [true]) (b := k) h; exact ⟨this.1.read rfl, this.2⟩
 have hz : ∀ (k : List Bool) (j : Nat), Kap s j (false :: k) → readN s j 1 = some (0, j + 1) ∧ Kap s (j + 1) k := fun k j h => by
  have := Kap.app (a := [false]) (b := k) h; exact ⟨this.1.read rfl, this.2⟩
 unfold Kcd at h ⊢; unfold Kbr
 by_cases c0 : c = 0
 ·rw [if_pos c0] at h ⊢; obtain ⟨e, _⟩ := hz [] i h; subst c0; simp [Kdx, e]
 rw [if_neg c0] at h ⊢
 by_cases c1 : -64 ≤ c ∧ c < 64
 ·rw [if_pos c1] at h ⊢; have hp : putN 2 2 = [true, false] := rfl; rw [hp] at h ⊢; obtain ⟨e1, k1⟩ := hb _ _ h; obtain ⟨e2, k2⟩ := hz _ _ k1; have e3 := Kap.put k2; simp only [Kdx, e1, e2, if_pos, if_neg, reduceCtorEq, Kdk, Nat.reduceAdd, Nat.zero_ne_one, if_true, if_false, e3]; rw [Kgv (.inl rfl) (by simpa using c1.1) (by simpa using c1.2)]; simp [Kar]
 rw [if_neg c1] at h ⊢
 by_cases c2 : -256 ≤ c ∧ c < 256
 ·rw [if_pos c2] at h ⊢; have hp : putN 6 3 = [true, true, false] := rfl; rw [hp] at h ⊢; obtain ⟨e1, k1⟩ := hb _ _ h; obtain ⟨e2, k2⟩ := hb _ _ k1; obtain ⟨e3, k3⟩ := hz _ _ k2; have e4 := Kap.put k3; simp only [Kdx, e1, e2, e3, Kdk, Nat.reduceAdd, Nat.zero_ne_one, if_true, if_false, Nat.reduceEqDiff, e4]; rw [Kgv (.inr (.inl rfl)) (by simpa using c2.1) (by simpa using c2.2)]; simp [Kar]
 rw [if_neg c2] at h ⊢
 by_cases c3 : -2048 ≤ c ∧ c < 2048
 ·rw [if_pos c3] at h ⊢; have hp : putN 14 4 = [true, true, true, false] := rfl; rw [hp] at h ⊢; obtain ⟨e1, k1⟩ := hb _ _ h; obtain ⟨e2, k2⟩ := hb _ _ k1; obtain ⟨e3, k3⟩ := hb _ _ k2; obtain ⟨e4, k4⟩ := hz _ _ k3; have e5 := Kap.put k4; simp only [Kdx, e1, e2, e3, e4, Kdk, Nat.reduceAdd, Nat.zero_ne_one, if_true, if_false, Nat.reduceEqDiff, e5]; rw [Kgv (.inr (.inr (.inl rfl))) (by simpa using c3.1) (by simpa using c3.2)]; simp [Kar]
 rw [if_neg c3] at h ⊢; have hp : putN 15 4 = [true, true, true, true] := rfl; rw [hp] at h ⊢; obtain ⟨e1, k1⟩ := hb _ _ h; obtain ⟨e2, k2⟩ := hb _ _ k1; obtain ⟨e3, k3⟩ := hb _ _ k2; obtain ⟨e4, k4⟩ := hb _ _ k3; have e5 := Kap.put k4; simp only [Kdx, e1, e2, e3, e4, Kdk, Nat.reduceAdd, Nat.zero_ne_one, if_true, if_false, Nat.reduceEqDiff, e5]; rw [Kgv (.inr (.inr (.inr rfl))) (by simpa using h1) (by simpa using h2)]; simp [Kar]
theorem Qbl {x : Nat} (h0 : x ≠ 0) (h : x < 2 ^ 64) : clzN x ≤ 63 ∧ x < 2 ^ (64 - clzN x) := by
 unfold clzN; rw [if_neg h0]; have h1 := (Nat.log2_lt h0).2 h; refine ⟨by omega, ?_⟩; rw [show 64 - (64 - (x.log2 + 1)) = x.log2 + 1 by omega]; exact Nat.lt_log2_self
theorem Kju : ∀ (f x : Nat), x ≠ 0 → x < 2 ^ f → 2 ^ ctzF x f ∣ x ∧ ctzF x f < f ∧ (x >>> ctzF x f) % 2 = 1
 | 0, x, h0, h => by simp at h; omega
 | f + 1, x, h0, h => by
  rw [ctzF]
  by_cases hx : x % 2 = 1
  ·rw [if_pos hx]; exact ⟨by simp, by omega, by simpa using hx⟩
  ·rw [if_neg hx]; obtain ⟨⟨q, hq⟩, h2, h3⟩ := Kju f (x / 2) (by omega) (by rw [Nat.pow_succ] at h; omega); refine ⟨⟨q, ?_⟩, by omega, ?_⟩
   ·rw [Nat.pow_succ, Nat.mul_right_comm, ← hq]; omega
   ·rw [Nat.shiftRight_succ_inside]; exact h3
theorem Ktj {x : Nat} (h0 : x ≠ 0) (h : x < 2 ^ 64) : 2 ^ ctzN x ∣ x ∧ ctzN x < 64 := ⟨(Kju 64 x h0 h).1, (Kju 64 x h0 h).2.1⟩
theorem Kqc {x : Nat} (h0 : x ≠ 0) (h : x < 2 ^ 64) : clzN x + ctzN x ≤ 63 := by
 obtain ⟨h1, h2⟩ := Qbl h0 h; obtain ⟨⟨q, hq⟩, h4⟩ := Ktj h0 h; have hle : 2 ^ ctzN x ≤ x := Nat.le_of_dvd (by omega) ⟨q, hq⟩; have : 2 ^ ctzN x < 2 ^ (64 - clzN x) := Nat.lt_of_le_of_lt hle h2; have := (Nat.pow_lt_pow_iff_right (by omega : 1 < 2)).1 this; omega
theorem Knk {x ld tl : Nat} (h0 : x < 2 ^ (64 - ld)) (hd : 2 ^ tl ∣ x) (hl : ld + tl ≤ 64) : ((x >>> tl) % 2 ^ (64 - ld - tl)) <<< tl = x := by
 obtain ⟨q, rfl⟩ := hd; have hp : 0 < 2 ^ tl := Nat.pow_pos (by omega); rw [Nat.shiftRight_eq_div_pow, Nat.mul_div_cancel_left _ hp, Nat.shiftLeft_eq]
 have hq : q < 2 ^ (64 - ld - tl) := by
  have e : 2 ^ (64 - ld) = 2 ^ tl * 2 ^ (64 - ld - tl) := by rw [← Nat.pow_add]; congr 1; omega
  rw [e] at h0; exact Nat.lt_of_mul_lt_mul_left h0
 rw [Nat.mod_eq_of_lt hq, Nat.mul_comm]
def Cst.Ok (c : Cst) : Prop := c.lead ≤ 31 ∧ c.lead + c.tail ≤ 63
theorem Cst.ok0 : cst0.Ok := ⟨by decide, by decide⟩
theorem Qdd {c : Cst} (h : c.Ok) {x : Nat} (hx : x < 2 ^ 64) : (Kbj c x).2.Ok := by
 unfold Kbj
 split
 ·exact h
 ·rename_i h0
  split
  ·exact h
  ·have := Kqc h0 hx; exact ⟨Nat.min_le_right _ _, by show min (clzN x) 31 + ctzN x ≤ 63; omega⟩
theorem Kwj {s : List UInt8} {i : Nat} {c : Cst} {x : Nat} (hc : c.Ok) (hx : x < 2 ^ 64) (h : Kap s i (Kbj c x).1) : Kbd c s i = some (x, (Kbj c x).2, i + (Kbj c x).1.length) := by
 have hb : ∀ (k : List Bool) (j : Nat), Kap s j (true :: k) → readN s j 1 = some (1, j + 1) ∧ Kap s (j + 1) k := fun k j h => by
  have := Kap.app (a := [true]) (b := k) h; exact ⟨this.1.read rfl, this.2⟩
 have hz : ∀ (k : List Bool) (j : Nat), Kap s j (false :: k) → readN s j 1 = some (0, j + 1) ∧ Kap s (j + 1) k := fun k j h => by
  have := Kap.app (a := [false]) (b := k) h; exact ⟨this.1.read rfl, this.2⟩
 unfold Kbj at h ⊢; unfold Kbd
 by_cases x0 : x = 0
 ·rw [if_pos x0] at h ⊢; obtain ⟨e, _⟩ := hz [] i h; subst x0; simp [e]
 rw [if_neg x0] at h ⊢; have hcl := Qbl x0 hx; have hct := Ktj x0 hx; have hcc := Kqc x0 hx
 by_cases w : c.window = true ∧ c.lead ≤ min (clzN x) 31 ∧ c.tail ≤ ctzN x
 ·rw [if_pos w] at h ⊢; have hp : putN 2 2 = [true, false] := rfl; rw [hp] at h ⊢; obtain ⟨e1, k1⟩ := hb _ _ h; obtain ⟨e2, k2⟩ := hz _ _ k1; have e3 := Kap.put k2; simp only [e1, e2, w.1, if_true, e3]; have hd : 2 ^ c.tail ∣ x := Nat.dvd_trans (Nat.pow_dvd_pow 2 w.2.2) hct.1; have hlt : x < 2 ^ (64 - c.lead) := Nat.lt_of_lt_of_le hcl.2 (Nat.pow_le_pow_right (by omega) (by omega)); rw [Knk hlt hd (by have := hc.2; omega)]; simp [Kar]; omega
 rw [if_neg w] at h ⊢; have hp : putN 3 2 = [true, true] := rfl; rw [hp] at h ⊢; obtain ⟨ld, hld⟩ : ∃ ld, min (clzN x) 31 = ld := ⟨_, rfl⟩; obtain ⟨tl, htl⟩ : ∃ tl, ctzN x = tl := ⟨_, rfl⟩; rw [hld, htl] at h ⊢; rw [htl] at hct hcc; have hl31 : ld ≤ 31 := by omega
 have hlt2 : ld + tl ≤ 63 := by omega
 simp only [List.append_assoc, List.cons_append, List.nil_append] at h; obtain ⟨e1, k1⟩ := hb _ _ h; obtain ⟨e2, k2⟩ := hb _ _ k1; obtain ⟨k3, k4⟩ := Kap.app k2; have e3 := Kap.put k3; rw [Kar] at k4; obtain ⟨k5, k6⟩ := Kap.app k4; have e5 := Kap.put k5; rw [Kar] at k6; have e6 := Kap.put k6; have m1 : ld % 2 ^ 5 = ld := Nat.mod_eq_of_lt (by omega); have m2 : (63 - ld - tl) % 2 ^ 6 = 63 - ld - tl := Nat.mod_eq_of_lt (by omega); rw [m1] at e3; rw [m2] at e5; have hk : 63 - ld - tl + 1 = 64 - ld - tl := by omega
 have ht2 : 63 - ld - (63 - ld - tl) = tl := by omega
 have hle : ld + (63 - ld - tl) ≤ 63 := by omega
 simp only [e1, e2, e3, e5, if_pos hle, hk, e6, ht2]; have hlt : x < 2 ^ (64 - ld) := Nat.lt_of_lt_of_le hcl.2 (Nat.pow_le_pow_right (by omega) (by omega)); rw [Knk hlt hct.1 (by omega)]; simp [Kar]; omega
end
section
open Go.RowKit
def SmpOk (s : Smp) : Prop := 0 ≤ s.t ∧ s.t ≤ 1125899906842624 ∧ s.v < 2 ^ 64
def Rises : List Smp → Prop
 | [] => True
 | [_] => True
 | a :: b :: l => a.t < b.t ∧ Rises (b :: l)
structure Cst.Good (c : Cst) : Prop where
 ok : c.Ok
 t0 : 0 ≤ c.last.t
 t1 : c.last.t ≤ 1125899906842624
 v : c.last.v < 2 ^ 64
 s0 : -1125899906842624 ≤ c.step
 s1 : c.step ≤ 1125899906842624
theorem Cst.good0 : cst0.Good := ⟨Cst.ok0, by decide, by decide, by decide, by decide, by decide⟩
theorem Cst.Ok.step {c : Cst} (h : c.Ok) (z : Int) : Cst.Ok { c with step := z } := h
theorem Kvs (c : Cst) (x : Nat) : (Kbj c x).2.step = c.step := by
 unfold Kbj
 split
 ·rfl
 ·split <;> rfl
theorem Kmf {c : Cst} (h : c.Good) {s : Smp} (hs : SmpOk s) : (Kbk c s).2.Good := by
 unfold Kbk
 split
 ·exact ⟨h.ok, hs.1, hs.2.1, hs.2.2, h.s0, h.s1⟩
 ·have hx : s.v ^^^ c.last.v < 2 ^ 64 := Nat.xor_lt_two_pow hs.2.2 h.v; have hd := Qdd (h.ok.step (s.t - c.last.t)) hx; have hst := Kvs { c with step := s.t - c.last.t } (s.v ^^^ c.last.v); dsimp only at hst; refine ⟨hd, hs.1, hs.2.1, hs.2.2, ?_, ?_⟩
  ·show _ ≤ (Kbj { c with step := s.t - c.last.t } (s.v ^^^ c.last.v)).2.step
   rw [hst]; have := hs.1; have := h.t1; omega
  ·show (Kbj { c with step := s.t - c.last.t } (s.v ^^^ c.last.v)).2.step ≤ _
   rw [hst]; have := hs.2.1; have := h.t0; omega
def Kbe (c : Cst) (s : List UInt8) (i : Nat) : Option (Smp × Cst × Nat) :=
 if c.n = 0 then (match readN s i 64 with
  | none => none
  | some (tv, i1) => if 0 ≤ signW 64 tv ∧ signW 64 tv ≤ 1125899906842624 then (match readN s i1 64 with
   | none => none
   | some (v, i2) => some (⟨signW 64 tv, v⟩, { c with n := 1, last := ⟨signW 64 tv, v⟩ }, i2)) else none)
 else (match Kbr s i with
  | none => none
  | some (ch, i1) => if 0 ≤ wrap64 (c.last.t + wrap64 (c.step + ch)) ∧ wrap64 (c.last.t + wrap64 (c.step + ch)) ≤ 1125899906842624 ∧ c.last.t < wrap64 (c.last.t + wrap64 (c.step + ch)) then (match Kbd { c with step := wrap64 (c.step + ch) } s i1 with
   | none => none
   | some (x, c', i2) => some (⟨wrap64 (c.last.t + wrap64 (c.step + ch)), c.last.v ^^^ x⟩, { c' with last := ⟨wrap64 (c.last.t + wrap64 (c.step + ch)), c.last.v ^^^ x⟩, n := c.n + 1 }, i2)) else none)
theorem Kra {z : Int} (h1 : -9223372036854775808 ≤ z) (h2 : z < 9223372036854775808) : wrap64 z = z := by
 unfold wrap64; omega
theorem Kxe {s : List UInt8} {i : Nat} {c : Cst} (hc : c.Good) {x : Smp} (hx : SmpOk x) (hr : c.n = 0 ∨ c.last.t < x.t) (h : Kap s i (Kbk c x).1) : Kbe c s i = some (x, (Kbk c x).2, i + (Kbk c x).1.length) := by
 obtain ⟨t0, t1, v1⟩ := hx; unfold Kbk at h ⊢; unfold Kbe
 by_cases h0 : c.n = 0
 ·rw [if_pos h0] at h ⊢; rw [if_pos h0]; obtain ⟨k1, k2⟩ := Kap.app h; have e1 := Kap.put k1; rw [Kar] at k2; have e2 := Kap.put k2; have m1 : signW 64 (u64N x.t % 2 ^ 64) = x.t := Kgv (.inr (.inr (.inr rfl))) (by simp; omega) (by simp; omega); have m2 : x.v % 2 ^ 64 = x.v := Nat.mod_eq_of_lt v1; simp only [e1, m1, e2, m2, if_pos (And.intro t0 t1)]; simp [Kar, Nat.add_assoc]
 ·have hlt : c.last.t < x.t := hr.resolve_left h0; rw [if_neg h0] at h ⊢; rw [if_neg h0]; obtain ⟨k1, k2⟩ := Kap.app h; have := hc.t0; have := hc.t1; have := hc.s0; have := hc.s1; have e1 := Kxc k1 (by omega) (by omega); have w1 : wrap64 (c.step + (x.t - c.last.t - c.step)) = x.t - c.last.t := by rw [Kra (by omega) (by omega)]; omega
  have w2 : wrap64 (c.last.t + (x.t - c.last.t)) = x.t := by rw [Kra (by omega) (by omega)]; omega
  have hxv : x.v ^^^ c.last.v < 2 ^ 64 := Nat.xor_lt_two_pow v1 hc.v; have e2 := Kwj (hc.ok.step (x.t - c.last.t)) hxv k2; have w3 : c.last.v ^^^ (x.v ^^^ c.last.v) = x.v := by rw [Nat.xor_comm x.v, ← Nat.xor_assoc, Nat.xor_self, Nat.zero_xor]
  simp only [e1, w1, w2, e2, w3, if_pos (And.intro t0 (And.intro t1 hlt))]; simp [Nat.add_assoc]
def Kcb (s : List UInt8) : Nat → Cst → Nat → List Smp × Bool
 | 0, _, _ => ([], true)
 | k + 1, c, i => match Kbe c s i with
  | none => ([], false)
  | some (x, c', i') => (x :: (Kcb s k c' i').1, (Kcb s k c' i').2)
theorem Kge (c : Cst) (s : Smp) : (Kbk c s).2.n = c.n + 1 ∧ (Kbk c s).2.last = s := by
 unfold Kbk
 split
 ·rename_i h
  exact ⟨by rw [h], rfl⟩
 ·exact ⟨rfl, rfl⟩
theorem Kkk {s : List UInt8} : ∀ (l : List Smp) {i : Nat} {c : Cst}, c.Good → (∀ x ∈ l, SmpOk x) → Rises l → (∀ x, l.head? = some x → c.n = 0 ∨ c.last.t < x.t) → Kap s i (Kbm c l) → Kcb s l.length c i = (l, true)
 | [], _, _, _, _, _, _, _ => rfl
 | x :: l, i, c, hc, ho, hr, hh, h => by
  rw [Kbm] at h; obtain ⟨k1, k2⟩ := Kap.app h; have hx := ho x (List.mem_cons_self ..); have e := Kxe hc hx (hh x rfl) k1; have hn := Kge c x
  have ih := Kkk l (Kmf hc hx) (fun y hy => ho y (List.mem_cons_of_mem _ hy)) (by
   cases l with
   | nil => trivial
   | cons y l => exact hr.2) (fun y hy => .inr (by
   cases l with
   | nil => cases hy
   | cons z l =>
    obtain rfl := Option.some.inj hy; rw [hn.2]
    exact hr.1)) k2
  rw [List.length_cons, Kcb, e]; dsimp only; rw [ih]
theorem Kgp {c : Cst} {s : List UInt8} {i : Nat} (hc : c.Ok) {x : Nat} {c' : Cst} {j : Nat} (h : Kbd c s i = some (x, c', j)) : x < 2 ^ 64 ∧ c'.Ok := by
 have hrd : ∀ (n i v j : Nat), readN s i n = some (v, j) → v < 2 ^ n := fun n i v j h => by
  unfold readN at h
  split at h
  ·injection h with h; injection h with h1 h2; rw [← h1]; have := Klh (Kco s i n); rwa [Kfn] at this
  ·cases h
 have hsh : ∀ (v k t : Nat), v < 2 ^ k → k + t ≤ 64 → v <<< t < 2 ^ 64 := fun v k t hv hk => by
  rw [Nat.shiftLeft_eq]; have h1 : v * 2 ^ t < 2 ^ k * 2 ^ t := Nat.mul_lt_mul_of_pos_right hv (Nat.pow_pos (by omega)); rw [← Nat.pow_add] at h1; exact Nat.lt_of_lt_of_le h1 (Nat.pow_le_pow_right (by omega) hk)
 unfold Kbd at h
 split at h
 ·cases h
 ·injection h with h; injection h with h1 h2; injection h2 with h2 h3; subst h1 h2; exact ⟨by decide, hc⟩
 ·split at h
  ·cases h
  ·split at h
   ·split at h
    ·cases h
    ·rename_i v i3 hv
     injection h with h; injection h with h1 h2; injection h2 with h2 h3; subst h1 h2; exact ⟨hsh _ _ _ (hrd _ _ _ _ hv) (by have := hc.2; omega), hc⟩
   ·cases h
  ·split at h
   ·cases h
   ·rename_i ld i3 hld
    split at h
    ·cases h
    ·rename_i k i4 hk
     split at h
     ·rename_i hle
      split at h
      ·cases h
      ·rename_i v i5 hv
       injection h with h; injection h with h1 h2; injection h2 with h2 h3; subst h1 h2; have := hrd _ _ _ _ hld; exact ⟨hsh _ _ _ (hrd _ _ _ _ hv) (by omega), ⟨by show ld ≤ 31; omega, by show ld + (63 - ld - k) ≤ 63; omega⟩⟩
     ·cases h
end
section
def Kid (l : List Smp) : Prop := (∀ x ∈ l, SmpOk x) ∧ Rises l ∧ l.length ≤ 120
def Kcf (l : List Smp) : List UInt8 := uintT l.length ++ packB (Kbm cst0 l)
def readC (s : List UInt8) : List Smp × Bool := match readU s with
 | .error _ => ([], false)
 | .ok (n, i) => if n ≤ 120 then Kcb (s.drop i) n cst0 0 else ([], false)
theorem Qao {l : List Smp} (h : Kid l) : readC (Kcf l) = (l, true) := by
 have hn : l.length < 2 ^ 64 := Nat.lt_of_le_of_lt h.2.2 (by decide); unfold readC Kcf; rw [Kep hn]; dsimp only; rw [if_pos h.2.2, List.drop_left]; have hb := Key (Kbm cst0 l); have hh : Kap (packB (Kbm cst0 l)) 0 (Kbm cst0 l) := Kct.holds (a := []) (c := []) (by simpa using hb); exact Kkk l Cst.good0 h.1 h.2.1 (fun _ _ => .inl rfl) hh
def fitC : Option Smp → Nat → List Smp → Bool
 | _, _, [] => true
 | prev, n, x :: l => decide (0 ≤ x.t) && decide (x.t ≤ 1125899906842624) && (match prev with | none => true | some y => decide (y.t < x.t)) && decide (n < 120) && fitC (some x) (n + 1) l
theorem Kzw {x : Smp} : ∀ {l : List Smp}, Rises (x :: l) ↔ (∀ y, l.head? = some y → x.t < y.t) ∧ Rises l
 | [] => ⟨fun _ => ⟨fun y h => (by cases h), trivial⟩, fun _ => trivial⟩
 | z :: l => ⟨fun h => ⟨fun y hy => (by obtain rfl := Option.some.inj hy; exact h.1), h.2⟩, fun h => ⟨h.1 z rfl, h.2⟩⟩
theorem Kmv : ∀ (l : List Smp) (prev : Option Smp) (n : Nat), fitC prev n l = true ↔ (∀ x ∈ l, 0 ≤ x.t ∧ x.t ≤ 1125899906842624) ∧ Rises l ∧ (∀ y x, prev = some y → l.head? = some x → y.t < x.t) ∧ (l = [] ∨ n + l.length ≤ 120)
 | [], prev, n => by simp [fitC, Rises]
 | x :: l, prev, n => by
  have ih := Kmv l (some x) (n + 1); rw [show fitC prev n (x :: l) = (decide (0 ≤ x.t) && decide (x.t ≤ 1125899906842624) && (match prev with | none => true | some y => decide (y.t < x.t)) && decide (n < 120) && fitC (some x) (n + 1) l) from by cases prev <;> rfl, Bool.and_eq_true, ih, Kzw]; simp only [Bool.and_eq_true, decide_eq_true_eq, List.mem_cons, forall_eq_or_imp, List.length_cons, reduceCtorEq, false_or, List.head?_cons, Option.some.injEq]; constructor
  ·rintro ⟨⟨⟨⟨h1, h2⟩, h3⟩, h4⟩, h5, h6, h7, h8⟩; refine ⟨⟨⟨h1, h2⟩, h5⟩, ⟨fun y hy => h7 x y rfl hy, h6⟩, ?_, ?_⟩
   ·rintro y _ rfl rfl; simpa using h3
   ·rcases h8 with rfl | h8
    ·simp; omega
    ·omega
  ·rintro ⟨⟨⟨h1, h2⟩, h5⟩, ⟨h7, h6⟩, h3, h8⟩; refine ⟨⟨⟨⟨h1, h2⟩, ?_⟩, by omega⟩, h5, h6, ?_, .inr (by omega)⟩
   ·cases prev with
    | none => rfl
    | some y => simpa using h3 y x rfl rfl
   ·rintro y z hy hz; exact hy ▸ h7 z hz
def cmpL : List Lb → List Lb → Int
 | [], [] => 0
 | [], _ :: _ => -1
 | _ :: _, [] => 1
 | x :: a, y :: b => if x.n < y.n then -1 else if y.n < x.n then 1 else if x.v < y.v then -1 else if y.v < x.v then 1 else cmpL a b
theorem Kei {a b : Txt} (h1 : ¬ a < b) (h2 : ¬ b < a) : a = b := List.le_antisymm (List.not_lt.1 h2) (List.not_lt.1 h1)
theorem Kqn : ∀ a : List Lb, cmpL a a = 0
 | [] => rfl
 | x :: a => by
  have h1 : ¬ x.n < x.n := List.lt_irrefl _; have h2 : ¬ x.v < x.v := List.lt_irrefl _; rw [cmpL, if_neg h1, if_neg h1, if_neg h2, if_neg h2, Kqn a]
theorem Krf : ∀ {a b : List Lb}, cmpL a b = 0 → a = b
 | [], [], _ => rfl
 | [], _ :: _, h => by simp [cmpL] at h
 | _ :: _, [], h => by simp [cmpL] at h
 | x :: a, y :: b, h => by
  rw [cmpL] at h
  split at h
  ·simp at h
  ·rename_i h1
   split at h
   ·simp at h
   ·rename_i h2
    split at h
    ·simp at h
    ·rename_i h3
     split at h
     ·simp at h
     ·rename_i h4
      have e1 := Kei h1 h2; have e2 := Kei h3 h4; rw [Krf h]; cases x; cases y
      simp_all
def ltB (x y : Lb) : Prop := x.n < y.n ∨ (x.n = y.n ∧ x.v < y.v)
theorem Kgh {x y z : Lb} (h1 : ltB x y) (h2 : ltB y z) : ltB x z := by
 rcases h1 with h1 | ⟨e1, h1⟩
 ·rcases h2 with h2 | ⟨e2, _⟩
  ·exact .inl (List.lt_trans h1 h2)
  ·exact .inl (e2 ▸ h1)
 ·rcases h2 with h2 | ⟨e2, h2⟩
  ·exact .inl (e1 ▸ h2)
  ·exact .inr ⟨e1.trans e2, List.lt_trans h1 h2⟩
theorem Qev {x y : Lb} {a b : List Lb} : cmpL (x :: a) (y :: b) < 0 ↔ ltB x y ∨ (x = y ∧ cmpL a b < 0) := by
 rw [cmpL]; unfold ltB
 by_cases h1 : x.n < y.n
 ·rw [if_pos h1]; exact ⟨fun _ => .inl (.inl h1), fun _ => by decide⟩
 ·rw [if_neg h1]
  by_cases h2 : y.n < x.n
  ·rw [if_pos h2]; refine ⟨fun h => by simp at h, ?_⟩; rintro ((h | ⟨e, _⟩) | ⟨e, _⟩)
   ·exact absurd h h1
   ·rw [e] at h2; exact absurd h2 (List.lt_irrefl _)
   ·rw [e] at h2; exact absurd h2 (List.lt_irrefl _)
  ·rw [if_neg h2]; have en := Kei h1 h2
   by_cases h3 : x.v < y.v
   ·rw [if_pos h3]; exact ⟨fun _ => .inl (.inr ⟨en, h3⟩), fun _ => by decide⟩
   ·rw [if_neg h3]
    by_cases h4 : y.v < x.v
    ·rw [if_pos h4]; refine ⟨fun h => by simp at h, ?_⟩; rintro ((h | ⟨_, h⟩) | ⟨e, _⟩)
     ·exact absurd h h1
     ·exact absurd h h3
     ·rw [e] at h4; exact absurd h4 (List.lt_irrefl _)
    ·rw [if_neg h4]; have ev := Kei h3 h4; have exy : x = y := by cases x; cases y; simp_all
     constructor
     ·exact fun h => .inr ⟨exy, h⟩
     ·rintro ((h | ⟨_, h⟩) | ⟨_, h⟩)
      ·exact absurd h h1
      ·exact absurd h h3
      ·exact h
structure Ser where
 labels : List Lb
 samples : List Smp
 windows : List Wnd
structure Cont where
 res : Int
 frm : Int
 to_ : Int
 series : List Ser
def riseI : List Int → Bool
 | [] => true
 | [_] => true
 | a :: b :: l => decide (a < b) && riseI (b :: l)
def Kcm (f t : Int) (l : List Int) : Bool := decide (l ≠ []) && l.all (fun x => decide (f ≤ x) && decide (x < t)) && riseI l
def Kdd (c : Cont) (s : Ser) : Bool :=
 if c.res = 0 then decide (s.windows.length = 0) && Kcm c.frm c.to_ (s.samples.map Smp.t)
 else Kbx wnd0 true s.windows && decide (s.samples.length = 0) && Kcm c.frm c.to_ (s.windows.map Wnd.start)
def Kyj (c : Cont) (s : Ser) : Bool :=
 Kbx wnd0 true s.windows && !((decide (c.res = 0) && decide (0 < s.windows.length)) || (decide (0 < c.res) && decide (0 < s.samples.length))) && Kcm c.frm c.to_ (s.samples.map Smp.t ++ s.windows.map Wnd.start)
theorem Qbw {c : Cont} (h : 0 ≤ c.res) (s : Ser) : Kdd c s = Kyj c s := by
 unfold Kdd Kyj
 by_cases h0 : c.res = 0
 ·rw [if_pos h0]; have h1 : ¬ 0 < c.res := by omega
  cases hw : s.windows with
  | nil => simp [h0, Kbx]
  | cons w l => simp [h0]
 ·rw [if_neg h0]; have h1 : 0 < c.res := by omega
  cases hs : s.samples with
  | nil => simp [h0, h1]
  | cons x l => simp [h0, h1]
end
section
open Go.RowKit
def Kbg (x : Smp) : List Value := [.int .i64 x.t, .int .u64 (x.v : Int)]
def Kau (x : Wnd) : List Value := [.int .i64 x.start, .int .i64 x.count, .int .u64 (x.sum : Int), .int .u64 (x.min : Int), .int .u64 (x.max : Int), .int .u64 (x.last : Int)]
instance smpIn : Inhabited Smp := ⟨⟨0, 0⟩⟩
instance wndIn : Inhabited Wnd := ⟨wnd0⟩
instance serIn : Inhabited Ser := ⟨⟨[], [], []⟩⟩
structure Hd3 where
 l : Hd
 s : Hd
 w : Hd
instance hd3In : Inhabited Hd3 := ⟨⟨default, default, default⟩⟩
def encH3 (h : Hd3) : List Value := [.slice h.l.A h.l.n h.l.c, .slice h.s.A h.s.n h.s.c, .slice h.w.A h.w.n h.w.c]
structure SerAt (w : World) (h : Hd3) (x : Ser) : Prop where
 l : Elems w w.heap.size 2 encLb h.l.A h.l.n x.labels
 lc : h.l.n ≤ h.l.c
 s : Elems w w.heap.size 2 Kbg h.s.A h.s.n x.samples
 sc : h.s.n ≤ h.s.c
 w : Elems w w.heap.size 6 Kau h.w.A h.w.n x.windows
 wc : h.w.n ≤ h.w.c
theorem SerAt.below {w w' : World} {h : Hd3} {x : Ser} (hs : SerAt w h x) (hb : Below w.heap.size w w') : SerAt w' h x :=
 ⟨(hs.l.below hb).more hb.size, hs.lc, (hs.s.below hb).more hb.size, hs.sc, (hs.w.below hb).more hb.size, hs.wc⟩
def Sers (w : World) (A : Option Addr) (n : Nat) (L : List Ser) : Prop :=
 ∃ hs : List Hd3, Elems w w.heap.size 3 encH3 A n hs ∧ L.length = n ∧ ∀ (i : Nat) (h : Hd3), hs[i]? = some h → SerAt w h L[i]!
section
variable {w w' : World} {A : Option Addr} {n : Nat} {L : List Ser}
theorem Sers.below (h : Sers w A n L) (hb : Below w.heap.size w w') : Sers w' A n L := by
 obtain ⟨hs, h1, h2, h3⟩ := h; exact ⟨hs, (h1.below hb).more hb.size, h2, fun i x hx => (h3 i x hx).below hb⟩
theorem Sers.len (h : Sers w A n L) : L.length = n := by obtain ⟨_, _, h2, _⟩ := h; exact h2
theorem Sers.nil (w : World) : Sers w none 0 [] := ⟨[], Elems.nil_, rfl, fun i h hi => by simp at hi⟩
theorem Sers.at_ (h : Sers w A n L) {i : Nat} (hi : i < n) : ∃ b off x, A = some ⟨b, off, none⟩ ∧ b < w.heap.size ∧
  w.cell? ⟨b, off + i * 3, none⟩ = some (.slice x.l.A x.l.n x.l.c) ∧ w.cell? ⟨b, off + i * 3 + 1, none⟩ = some (.slice x.s.A x.s.n x.s.c) ∧ w.cell? ⟨b, off + i * 3 + 2, none⟩ = some (.slice x.w.A x.w.n x.w.c) ∧ SerAt w x L[i]! := by
 obtain ⟨hs, h1, h2, h3⟩ := h; obtain ⟨b, off, e, hb, hc⟩ := h1.2 (by omega); have hl : i < hs.length := by have := h1.len; omega
 have a1 := h3 i hs[i] (List.getElem?_eq_getElem hl); have c0 := hc i hs[i] (List.getElem?_eq_getElem hl) 0 _ rfl; have c1 := hc i hs[i] (List.getElem?_eq_getElem hl) 1 _ rfl; have c2 := hc i hs[i] (List.getElem?_eq_getElem hl) 2 _ rfl; exact ⟨b, off, hs[i], e, hb, by simpa using c0, c1, c2, a1⟩
end
end
section
def symR (t : List Txt) (s : List UInt8) (k : Int) : Txt × Nat × Nat :=
 if (Kan s k).2.2 ≠ 0 then ([], 0, (Kan s k).2.2) else if t.length ≤ (Kan s k).1 then ([], 0, 50) else (t[(Kan s k).1]!, (Kan s k).2.1, 0)
def Kfj (out : List Lb) (x : Txt) : Bool := decide (0 < out.length ∧ ¬ (out[out.length - 1]!).n < x)
def unpL (t : List Txt) (s : List UInt8) : Nat → List Lb → Nat → List Lb × Nat × Nat
 | 0, out, p => (out, p, 0)
 | g + 1, out, p =>
  if (symR t s p).2.2 ≠ 0 then ([], 0, (symR t s p).2.2) else
  if (symR t s (symR t s p).2.1).2.2 ≠ 0 then ([], 0, (symR t s (symR t s p).2.1).2.2) else
  if fitN (symR t s p).1 = false then ([], 0, 40) else
  if fitV (symR t s (symR t s p).2.1).1 = false then ([], 0, 41) else
  if Kfj out (symR t s p).1 = true then ([], 0, 42) else
  unpL t s g (out ++ [⟨(symR t s p).1, (symR t s (symR t s p).2.1).1⟩]) (symR t s (symR t s p).2.1).2.1
def unpR (t : List Txt) (s : List UInt8) (k : Int) : List Lb × Nat × Nat :=
 if (Kan s k).2.2 ≠ 0 then ([], 0, (Kan s k).2.2) else if (Kan s k).1 = 0 then ([], 0, 43) else if 8 < (Kan s k).1 then ([], 0, 44) else unpL t s (Kan s k).1 [] (Kan s k).2.1
theorem Ktn {t : List Txt} {s : List UInt8} {k : Int} {x : Txt} {n e : Nat} (h : symR t s k = (x, n, e)) : x = [] ∨ x ∈ t := by
 unfold symR at h
 split at h
 ·injection h with h _; exact .inl h.symm
 ·split at h
  ·injection h with h _; exact .inl h.symm
  ·rename_i hlt
   injection h with h _; right; rw [← h, getElem!_pos t _ (by omega)]; exact List.getElem_mem _
theorem Kwu (x : Lb) : Kav [x] = if fitN x.n = false then 40 else if fitV x.v = false then 41 else 0 := by
 simp [Kav, Kcc]
end
section
open List renaming length_append → Jd
theorem Kve {t : List Txt} (ha : Asc t) {x : Txt} (hx : x ∈ t) : t[below t x]? = some x := by
 obtain ⟨i, hi, e⟩ := List.getElem_of_mem hx; have h1 : t[i]? = some x := by rw [List.getElem?_eq_getElem hi, e]
 rw [Qfo ha h1]; exact h1
theorem Kwc {t : List Txt} (ha : Asc t) {x : Txt} (hx : x ∈ t) : numR t x = (below t x, 0) := by rw [numR, if_pos (Kve ha hx)]
def pkS (t : List Txt) (xs : List Txt) : List UInt8 := xs.flatMap fun x => uintT (below t x)
def pk (t : List Txt) (l : List Lb) : List UInt8 := uintT l.length ++ pkS t (texts l)
theorem Kil (t : List Txt) (x : Txt) (r : List Txt) : pkS t (x :: r) = uintT (below t x) ++ pkS t r := rfl
theorem Krz {t : List Txt} (ha : Asc t) : ∀ xs : List Txt, (∀ x ∈ xs, x ∈ t) → packS t xs = some (pkS t xs)
 | [], _ => rfl
 | x :: r, h => by
  rw [packS, Kwc ha (h x (by simp)), Krz ha r (fun y hy => h y (by simp [hy]))]; simp [Kil]
theorem Qbp {t : List Txt} (ha : Asc t) {l : List Lb} (he : Kcp l = 0) (h : ∀ x ∈ texts l, x ∈ t) : packR t l = (pk t l, 0) := by
 rw [packR, he, Krz ha _ h]; simp [pk]
theorem Kml (pre post : List UInt8) {v : Nat} (hv : v < 2 ^ 64) : Kan (pre ++ (uintT v ++ post)) (pre.length : Int) = (v, pre.length + (uintT v).length, 0) := by
 rw [Kdh, List.drop_left, Kep hv]; rfl
theorem Krm {t : List Txt} (ha : Asc t) (ht : t.length < 2 ^ 64) (pre post : List UInt8) {x : Txt} (hx : x ∈ t) : symR t (pre ++ (uintT (below t x) ++ post)) (pre.length : Int) = (x, pre.length + (uintT (below t x)).length, 0) := by
 have hb := Kve ha hx; have hl : below t x < t.length := (List.getElem?_eq_some_iff.1 hb).1; have hr := Kml pre post (v := below t x) (by omega); unfold symR; rw [hr]; simp only [ne_eq, not_true_eq_false, if_false]; rw [if_neg (by omega), getElem!_pos t _ hl]; rw [List.getElem?_eq_getElem hl] at hb; injection hb with hb; rw [hb]
theorem Kwr {out l : List Lb} {x : Lb} (h : (names (out ++ x :: l)).Pairwise (· < ·)) : Kfj out x.n = false := by
 unfold Kfj; rw [decide_eq_false_iff_not]; rintro ⟨h0, h1⟩; apply h1; rw [getElem!_pos out _ (by omega)]; unfold names at h; rw [List.map_append, List.pairwise_append] at h; exact h.2.2 _ (List.mem_map_of_mem (List.getElem_mem _)) _ (by simp)
theorem Kqh {t : List Txt} (ha : Asc t) (ht : t.length < 2 ^ 64) : ∀ (l out : List Lb) (pre post : List UInt8), (∀ x ∈ l, fitN x.n = true ∧ fitV x.v = true) → (names (out ++ l)).Pairwise (· < ·) → (∀ x ∈ texts l, x ∈ t) →
  unpL t (pre ++ (pkS t (texts l) ++ post)) l.length out pre.length = (out ++ l, pre.length + (pkS t (texts l)).length, 0)
 | [], out, pre, post, _, _, _ => by simp [unpL, texts, pkS]
 | x :: l, out, pre, post, hf, hn, hm => by
  rw [Kgm] at hm ⊢; rw [Kil, Kil, List.length_cons, unpL]; have hx1 : x.n ∈ t := hm _ (by simp); have hx2 : x.v ∈ t := hm _ (by simp); have e1 : pre ++ ((uintT (below t x.n) ++ (uintT (below t x.v) ++ pkS t (texts l))) ++ post) = pre ++ (uintT (below t x.n) ++ (uintT (below t x.v) ++ (pkS t (texts l) ++ post))) := by simp
  have s1 := Krm ha ht pre (uintT (below t x.v) ++ (pkS t (texts l) ++ post)) hx1; have e2 : pre ++ (uintT (below t x.n) ++ (uintT (below t x.v) ++ (pkS t (texts l) ++ post))) = (pre ++ uintT (below t x.n)) ++ (uintT (below t x.v) ++ (pkS t (texts l) ++ post)) := by simp
  have s2 := Krm ha ht (pre ++ uintT (below t x.n)) (pkS t (texts l) ++ post) hx2; rw [← e2, Jd] at s2; have e3 : pre ++ (uintT (below t x.n) ++ (uintT (below t x.v) ++ (pkS t (texts l) ++ post))) = (pre ++ uintT (below t x.n) ++ uintT (below t x.v)) ++ (pkS t (texts l) ++ post) := by simp
  have ih := Kqh ha ht l (out ++ [x]) (pre ++ uintT (below t x.n) ++ uintT (below t x.v)) post (fun y hy => hf y (by simp [hy])) (by simpa using hn) (fun y hy => hm y (by simp [hy])); rw [← e3, Jd, Jd] at ih; obtain ⟨f1, f2⟩ := hf x (by simp); have htl := Kwr hn; rw [e1, s1]; simp only []; rw [s2]; simp only [ne_eq, not_true_eq_false, if_false, f1, f2, htl, Bool.false_eq_true, Bool.true_eq_false]; rw [ih]; simp [Nat.add_assoc]
theorem Qbi {t : List Txt} (ha : Asc t) (ht : t.length < 2 ^ 64) {l : List Lb} (he : Kcp l = 0) (hm : ∀ x ∈ texts l, x ∈ t) (pre post : List UInt8) :
  unpR t (pre ++ (pk t l ++ post)) (pre.length : Int) = (l, pre.length + (pk t l).length, 0) := by
 have hmk : Kav l = 0 := by
  rcases Khh l with ⟨h1, h2⟩ | ⟨h1, _⟩ | ⟨h1, _⟩
  ·rw [h2] at he; exact he
  ·exact h1
  ·exact h1
 have hpw : (names l).Pairwise (· < ·) := by
  unfold Kcp at he; rw [if_neg (by simp [hmk])] at he
  split at he
  ·assumption
  ·omega
 obtain ⟨h0, h8, hf, _⟩ := Kdt hmk; have hr := Kml pre (pkS t (texts l) ++ post) (v := l.length) (by omega); unfold pk; rw [List.append_assoc, unpR, hr]; simp only [ne_eq, not_true_eq_false, if_false]; rw [if_neg h0, if_neg (by omega)]; have := Kqh ha ht l [] (pre ++ uintT l.length) post hf (by simpa using hpw) hm; rw [Jd, List.append_assoc] at this; rw [this]; simp [Nat.add_assoc]
theorem Kxy (t : List Txt) : ∀ xs : List Txt, (pkS t xs).length ≤ 11 * xs.length
 | [] => by simp [pkS]
 | x :: r => by
  have h1 := Kxy t r; have h2 := Kab (below t x); rw [Kil, Jd, List.length_cons]; omega
theorem Qbr (t : List Txt) (l : List Lb) : (pk t l).length ≤ 11 + 22 * l.length := by
 have h1 := Kxy t (texts l); have h2 := Kab l.length
 have h3 : (texts l).length = 2 * l.length := by
  clear h1 h2
  induction l with
  | nil => rfl
  | cons x l ih => rw [Kgm, List.length_cons, List.length_cons, ih, List.length_cons]; omega
 unfold pk; rw [Jd]; omega
end
section
def Kby : Nat → List Nat → List UInt8
 | _, [] => []
 | a, x :: l => uintT (x - a) ++ Kby x l
def postT (l : List Nat) : List UInt8 := uintT l.length ++ Kby 0 l
def Khg : Nat → Bool → List Nat → Prop
 | _, _, [] => True
 | a, first, x :: l => (a < x ∨ (first = true ∧ a ≤ x)) ∧ x ≤ 4611686018427387904 ∧ Khg x false l
def Ker (s : List UInt8) : Nat → Nat → Bool → Nat → Option (List Nat × Nat)
 | 0, _, _, i => some ([], i)
 | n + 1, a, first, i => match ruAt s i with
  | none => none
  | some (st, i') => if (first = false ∧ st = 0) ∨ 4611686018427387904 - a < st then none else match Ker s n (a + st) false i' with
   | none => none
   | some (l, i2) => some ((a + st) :: l, i2)
def postR (s : List UInt8) (i : Nat) : Option (List Nat × Nat) := match ruAt s i with
 | none => none
 | some (n, i') => Ker s n 0 true i'
theorem Kpd {s r : List UInt8} : ∀ (l : List Nat) {i a : Nat} {first : Bool}, Khg a first l → s.drop i = Kby a l ++ r → Ker s l.length a first i = some (l, i + (Kby a l).length) ∧ s.drop (i + (Kby a l).length) = r
 | [], i, a, first, _, h => ⟨rfl, h⟩
 | x :: l, i, a, first, hr, h => by
  obtain ⟨h1, h2, h3⟩ := hr; rw [Kby, List.append_assoc] at h; obtain ⟨e1, k1⟩ := ru_of (v := x - a) (by omega) h; obtain ⟨e2, k2⟩ := Kpd l h3 k1; have ha : a + (x - a) = x := by omega
  rw [List.length_cons, Ker, e1]; dsimp only
  have hc : ¬ ((first = false ∧ x - a = 0) ∨ 4611686018427387904 - a < x - a) := by
   rintro (⟨hf, h0⟩ | h0)
   ·rcases h1 with h1 | ⟨h1, _⟩
    ·omega
    ·rw [h1] at hf; cases hf
   ·rcases h1 with h1 | ⟨_, h1⟩ <;> omega
  rw [if_neg hc, ha, e2]; simp only [Kby, List.length_append, Nat.add_assoc] at k2 ⊢; exact ⟨trivial, k2⟩
theorem Qco {s r : List UInt8} {i : Nat} {l : List Nat} (hr : Khg 0 true l) (hn : l.length < 2 ^ 64) (h : s.drop i = postT l ++ r) : postR s i = some (l, i + (postT l).length) ∧ s.drop (i + (postT l).length) = r := by
 unfold postT at h ⊢; rw [List.append_assoc] at h; obtain ⟨e1, k1⟩ := ru_of hn h; obtain ⟨e2, k2⟩ := Kpd l hr k1; unfold postR; rw [e1]; dsimp only; rw [e2]; simp only [List.length_append, Nat.add_assoc] at k2 ⊢; exact ⟨trivial, k2⟩
def zig (v : Int) : Nat := if 0 ≤ v then (2 * v).toNat else (-2 * v - 1).toNat
def unzig (n : Nat) : Int := if n % 2 = 0 then ((n / 2 : Nat) : Int) else -((n / 2 : Nat) : Int) - 1
theorem Qav (v : Int) : unzig (zig v) = v := by
 unfold unzig zig
 split <;> split <;> omega
theorem Knp {v : Int} (h1 : -9223372036854775808 ≤ v) (h2 : v ≤ 9223372036854775807) : zig v < 2 ^ 64 := by
 unfold zig
 split <;> omega
def intT (v : Int) : List UInt8 := uintT (zig v)
def readI (l : List UInt8) : Except Nat (Int × Nat) := match readU l with | .error e => .error e | .ok (v, k) => .ok (unzig v, k)
theorem Qcn {v : Int} (h1 : -9223372036854775808 ≤ v) (h2 : v ≤ 9223372036854775807) (l : List UInt8) : readI (intT v ++ l) = .ok (v, (intT v).length) := by
 unfold readI intT; rw [Kep (Knp h1 h2)]; simp only [Qav]
def nibs : List Nat := [0x00000000, 0x105ec76f, 0x20bd8ede, 0x30e349b1, 0x417b1dbc, 0x5125dad3, 0x61c69362, 0x7198540d, 0x82f63b78, 0x92a8fc17, 0xa24bb5a6, 0xb21572c9, 0xc38d26c4, 0xd3d3e1ab, 0xe330a81a, 0xf36e6f75]
def nibN (c : Nat) : Nat := nibs.getD (c % 16) 0 ^^^ (c / 16)
def crcB (c : Nat) (b : UInt8) : Nat := nibN (nibN (c ^^^ b.toNat))
def crcF (c : Nat) (l : List UInt8) : Nat := l.foldl crcB c
def crcL (l : List UInt8) : Nat := crcF 4294967295 l ^^^ 4294967295
theorem Kyl : ∀ i, nibs.getD i 0 < 4294967296 := by
 intro i
 by_cases h : i < 16
 ·revert i
  decide
 ·have : nibs.length ≤ i := by simp [nibs]; omega
  rw [List.getD_eq_getElem?_getD, List.getElem?_eq_none this]; decide
theorem Khi {a b : Nat} (ha : a < 4294967296) (hb : b < 4294967296) : a ^^^ b < 4294967296 := Nat.xor_lt_two_pow (n := 32) ha hb
theorem Klj {c : Nat} (h : c < 4294967296) : nibN c < 4294967296 := Khi (Kyl _) (by omega)
theorem Qgi {c : Nat} (h : c < 4294967296) (b : UInt8) : crcB c b < 4294967296 := Klj (Klj (Khi h (by have := UInt8.toNat_lt b; omega)))
theorem Kxu : ∀ (l : List UInt8) {c : Nat}, c < 4294967296 → crcF c l < 4294967296
 | [], _, h => h
 | b :: l, _, h => Kxu l (Qgi h b)
theorem Kyh (l : List UInt8) : crcL l < 4294967296 := Khi (Kxu l (by decide)) (by decide)
theorem Kwz (c : Nat) (l m : List UInt8) : crcF c (l ++ m) = crcF (crcF c l) m := by unfold crcF; rw [List.foldl_append]
theorem Qdi (c : Nat) (l : List UInt8) (b : UInt8) : crcF c (l ++ [b]) = crcB (crcF c l) b := by rw [Kwz]; rfl
def fourT (v : Nat) : List UInt8 := [UInt8.ofNat v, UInt8.ofNat (v / 256), UInt8.ofNat (v / 65536), UInt8.ofNat (v / 16777216)]
def numT (l : List UInt8) : Nat := match l with | a :: b :: c :: d :: _ => a.toNat + 256 * b.toNat + 65536 * c.toNat + 16777216 * d.toNat | _ => 0
theorem Qdf {v : Nat} (h : v < 4294967296) (r : List UInt8) : numT (fourT v ++ r) = v := by
 simp only [fourT, List.cons_append, numT, UInt8.toNat_ofNat']; omega
def sealT (b : List UInt8) : List UInt8 := b ++ fourT (crcL b)
def Kas (s : List UInt8) : Except Nat (List UInt8) := if s.length < 4 then .error 20 else if crcL (s.take (s.length - 4)) = numT (s.drop (s.length - 4)) then .ok (s.take (s.length - 4)) else .error 22
theorem Kej (b : List UInt8) : (sealT b).length = b.length + 4 := by simp [sealT, fourT]
theorem Kmj (b : List UInt8) : Kas (sealT b) = .ok b := by
 unfold Kas; have h1 : (sealT b).length - 4 = b.length := by rw [Kej]; omega
 rw [h1, if_neg (by rw [Kej]; omega)]; have h2 : (sealT b).take b.length = b := by simp [sealT]
 have h3 : (sealT b).drop b.length = fourT (crcL b) := by simp [sealT]
 rw [h2, h3]; have h4 := Qdf (Kyh b) []; rw [List.append_nil] at h4; rw [if_pos h4.symm]
def riAt (s : List UInt8) (i : Nat) : Option (Int × Nat) := match readI (s.drop i) with
 | .ok (v, k) => some (v, i + k)
 | .error _ => none
theorem ri_of {s r : List UInt8} {i : Nat} {v : Int} (h1 : -9223372036854775808 ≤ v) (h2 : v ≤ 9223372036854775807) (h : s.drop i = intT v ++ r) : riAt s i = some (v, i + (intT v).length) ∧ s.drop (i + (intT v).length) = r := by
 refine ⟨?_, ?_⟩
 ·unfold riAt; rw [h, Qcn h1 h2]
 ·rw [← List.drop_drop, h, List.drop_left]
end
section
open Go.RowKit
def Kbs : Nat → List Smp → List (List Smp)
 | 0, _ => []
 | _ + 1, [] => []
 | f + 1, x :: l => (x :: l).take 120 :: Kbs f ((x :: l).drop 120)
theorem Kkc : ∀ (f : Nat) (l : List Smp), l.length ≤ f → (Kbs f l).flatten = l
 | 0, l, h => by
  have h0 : l = [] := List.eq_nil_of_length_eq_zero (by omega); rw [h0]; rfl
 | _ + 1, [], _ => rfl
 | f + 1, x :: l, h => by
  have h2 : ((x :: l).drop 120).length ≤ f := by rw [List.length_drop]; rw [List.length_cons] at h ⊢; omega
  rw [Kbs, List.flatten_cons, Kkc f _ h2, List.take_append_drop]
theorem Kmh : ∀ (f : Nat) (l p : List Smp), p ∈ Kbs f l → p ≠ [] ∧ p.length ≤ 120 ∧ p.Sublist l
 | 0, _, _, h => by simp [Kbs] at h
 | _ + 1, [], _, h => by simp [Kbs] at h
 | f + 1, x :: l, p, h => by
  rw [Kbs, List.mem_cons] at h; rcases h with rfl | h
  ·exact ⟨by simp, by rw [List.length_take]; omega, List.take_sublist _ _⟩
  ·obtain ⟨h1, h2, h3⟩ := Kmh f _ p h; exact ⟨h1, h2, h3.trans (List.drop_sublist _ _)⟩
theorem Kdw : ∀ (f : Nat) (l : List Smp), (Kbs f l).length ≤ f
 | 0, _ => Nat.le_refl _
 | _ + 1, [] => Nat.zero_le _
 | f + 1, x :: l => by rw [Kbs, List.length_cons]; have := Kdw f ((x :: l).drop 120); omega
def aggsT : List Wnd → List (List UInt8)
 | [] => []
 | w :: l => [aggT (w :: l)]
def Kak (s : Ser) : List (List UInt8) := (Kbs s.samples.length s.samples).map Kcf ++ aggsT s.windows
def lensT (P : List (List UInt8)) : List UInt8 := P.flatMap fun p => uintT p.length
def serT (t : List Txt) (s : Ser) : List UInt8 := pk t s.labels ++ (uintT (Kak s).length ++ lensT (Kak s))
def decC (s : List UInt8) : Option (List Smp) := if (readC s).2 = true ∧ fitC none 0 (readC s).1 = true ∧ Kcf (readC s).1 = s then some (readC s).1 else none
def decP (res : Nat) (a : Ser) (s : List UInt8) : Option Ser := if res = 0 then (match decC s with | none => none | some l => some { a with samples := a.samples ++ l }) else (match aggR s with | none => none | some l => some { a with windows := a.windows ++ l })
def Kgx (res : Nat) (I C : List UInt8) : Nat → Ser → Nat → Nat → Option (Ser × Nat × Nat)
 | 0, a, i, j => some (a, i, j)
 | k + 1, a, i, j => match ruAt I i with
  | none => none
  | some (n, i') => if j + n ≤ C.length then (match decP res a ((C.drop j).take n) with | none => none | some a' => Kgx res I C k a' i' (j + n)) else none
def sersR (t : List Txt) (res : Nat) (I C : List UInt8) : Nat → List Ser → Nat → Nat → Option (List Ser × Nat × Nat)
 | 0, out, i, j => some (out, i, j)
 | g + 1, out, i, j => if (unpR t I i).2.2 ≠ 0 then none else match ruAt I (unpR t I i).2.1 with
  | none => none
  | some (k, i2) => match Kgx res I C k ⟨(unpR t I i).1, [], []⟩ i2 j with
   | none => none
   | some (s, i3, j3) => sersR t res I C g (out ++ [s]) i3 j3
def lowT (out : List Txt) (x : Txt) : Bool := decide (0 < out.length ∧ ¬ out[out.length - 1]! < x)
def Kev (I : List UInt8) : Nat → List Txt → Nat → Option (List Txt × Nat)
 | 0, out, i => some (out, i)
 | g + 1, out, i => if (Kbh I i).2.2 ≠ 0 then none else if lowT out (Kbh I i).1 = true then none else Kev I g (out ++ [(Kbh I i).1]) (Kbh I i).2.1
def tabR (I : List UInt8) (i : Nat) : Option (List Txt × Nat) := if (Kan I i).2.2 ≠ 0 then none else Kev I (Kan I i).1 [] (Kan I i).2.1
theorem Kgn : ∀ {l : List Smp}, Rises l ↔ l.Pairwise fun a b => a.t < b.t
 | [] => ⟨fun _ => List.Pairwise.nil, fun _ => trivial⟩
 | [x] => ⟨fun _ => List.pairwise_singleton _ _, fun _ => trivial⟩
 | x :: y :: l => by
  have ih := Kgn (l := y :: l); rw [Rises, List.pairwise_cons, ih]; constructor
  ·rintro ⟨h1, h2⟩; refine ⟨fun z hz => ?_, h2⟩; rcases List.mem_cons.1 hz with rfl | hz
   ·exact h1
   ·have := (List.pairwise_cons.1 h2).1 z hz; omega
  ·rintro ⟨h1, h2⟩; exact ⟨h1 y (by simp), h2⟩
theorem Knv : ∀ {l : List Int}, riseI l = true ↔ l.Pairwise fun a b => a < b
 | [] => ⟨fun _ => List.Pairwise.nil, fun _ => rfl⟩
 | [x] => ⟨fun _ => List.pairwise_singleton _ _, fun _ => rfl⟩
 | x :: y :: l => by
  have ih := Knv (l := y :: l); rw [riseI, Bool.and_eq_true, List.pairwise_cons, ih, decide_eq_true_eq]; constructor
  ·rintro ⟨h1, h2⟩; refine ⟨fun z hz => ?_, h2⟩; rcases List.mem_cons.1 hz with rfl | hz
   ·exact h1
   ·have := (List.pairwise_cons.1 h2).1 z hz; omega
  ·rintro ⟨h1, h2⟩; exact ⟨h1 y (by simp), h2⟩
theorem Kmk {f t : Int} {l : List Int} : Kcm f t l = true ↔ l ≠ [] ∧ (∀ x ∈ l, f ≤ x ∧ x < t) ∧ l.Pairwise fun a b => a < b := by
 unfold Kcm; simp only [Bool.and_eq_true, decide_eq_true_eq, List.all_eq_true, Knv, and_assoc]
theorem Knd {f t : Int} {l : List Smp} : Kcm f t (l.map Smp.t) = true ↔ l ≠ [] ∧ (∀ x ∈ l, f ≤ x.t ∧ x.t < t) ∧ Rises l := by
 rw [Kmk, Kgn, List.pairwise_map]; simp
theorem Ksw {l : List Smp} (h : ∀ x ∈ l, SmpOk x) (hr : Rises l) {f : Nat} {p : List Smp} (hp : p ∈ Kbs f l) : Kid p := by
 obtain ⟨h1, h2, h3⟩ := Kmh f l p hp; exact ⟨fun x hx => h x (h3.subset hx), Kgn.2 ((Kgn.1 hr).sublist h3), h2⟩
theorem Qgj {p : List Smp} (h : Kid p) : decC (Kcf p) = some p := by
 unfold decC; rw [Qao h]; have : fitC none 0 p = true := (Kmv p none 0).2 ⟨fun x hx => ⟨(h.1 x hx).1, (h.1 x hx).2.1⟩, h.2.1, fun y x hy => (by cases hy), .inr (by have := h.2.2; omega)⟩; rw [if_pos ⟨rfl, this, rfl⟩]
def foldP (res : Nat) : Ser → List (List UInt8) → Option Ser
 | a, [] => some a
 | a, p :: P => match decP res a p with | none => none | some a' => foldP res a' P
theorem Klw {res : Nat} {I C : List UInt8} : ∀ (P : List (List UInt8)) {a a' : Ser} {i j : Nat} {r r' : List UInt8}, foldP res a P = some a' → (∀ p ∈ P, p.length < 2 ^ 64) → I.drop i = lensT P ++ r → C.drop j = P.flatten ++ r' → j ≤ C.length →
  Kgx res I C P.length a i j = some (a', i + (lensT P).length, j + P.flatten.length) ∧ I.drop (i + (lensT P).length) = r ∧ C.drop (j + P.flatten.length) = r' ∧ j + P.flatten.length ≤ C.length
 | [], a, a', i, j, r, r', hf, _, hI, hC, hj => by
  injection hf with hf; subst hf; exact ⟨rfl, by simpa [lensT] using hI, by simpa using hC, by simpa using hj⟩
 | p :: P, a, a', i, j, r, r', hf, hn, hI, hC, hj => by
  rw [foldP] at hf; have hI' : I.drop i = uintT p.length ++ (lensT P ++ r) := by rw [hI]; simp [lensT]
  obtain ⟨e1, e2⟩ := ru_of (hn p (by simp)) hI'; have hC' : C.drop j = p ++ (P.flatten ++ r') := by rw [hC]; simp
  have hlen : j + p.length ≤ C.length := by
   have := congrArg List.length hC'; rw [List.length_drop, List.length_append] at this; omega
  have htk : (C.drop j).take p.length = p := by rw [hC', List.take_left]
  have hdr : C.drop (j + p.length) = P.flatten ++ r' := by rw [← List.drop_drop, hC', List.drop_left]
  cases hd : decP res a p with
  | none => rw [hd] at hf; cases hf
  | some a1 =>
   rw [hd] at hf; obtain ⟨g1, g2, g3, g4⟩ := Klw P hf (fun q hq => hn q (by simp [hq])) e2 hdr hlen; have hl : (lensT (p :: P)).length = (uintT p.length).length + (lensT P).length := by simp [lensT]
   have hfl : (p :: P).flatten.length = p.length + P.flatten.length := by simp
   rw [List.length_cons, Kgx, e1]; dsimp only; rw [if_pos hlen, htk, hd]; dsimp only; rw [g1, hl, hfl, ← Nat.add_assoc, ← Nat.add_assoc]; exact ⟨rfl, g2, g3, g4⟩
theorem Kkg : ∀ (P : List (List Smp)) (a : Ser), (∀ p ∈ P, Kid p) → foldP 0 a (P.map Kcf) = some { a with samples := a.samples ++ P.flatten }
 | [], a, _ => by simp [foldP]
 | p :: P, a, h => by
  rw [List.map_cons, foldP, decP, if_pos rfl, Qgj (h p (by simp))]; dsimp only; rw [Kkg P _ (fun q hq => h q (by simp [hq]))]; simp
structure Kpr (s : Ser) : Prop where
 smp : ∀ x ∈ s.samples, x.v < 2 ^ 64
 wnd : ∀ w ∈ s.windows, Kaz w
 n : s.samples.length < 2 ^ 58
 m : s.windows.length < 2 ^ 58
theorem Kwn {c : Cont} {s : Ser} {res : Nat} (hres : c.res = (res : Int)) (hf : Kdd c s = true) (hb : Kpr s) (h0 : 0 ≤ c.frm) (h1 : c.to_ ≤ 1125899906842625) : foldP res ⟨s.labels, [], []⟩ (Kak s) = some s := by
 unfold Kdd at hf
 by_cases h : c.res = 0
 ·rw [if_pos h, Bool.and_eq_true, decide_eq_true_eq, Knd] at hf; obtain ⟨hw, hne, hr, hs⟩ := hf; have hz : res = 0 := by omega
  subst hz; have hw' : s.windows = [] := List.eq_nil_of_length_eq_zero hw; have hp : ∀ p ∈ Kbs s.samples.length s.samples, Kid p := fun p hp => Ksw (fun x hx => ⟨by have := hr x hx; omega, by have := hr x hx; omega, hb.smp x hx⟩) hs hp
  unfold Kak; rw [hw', aggsT, List.append_nil, Kkg _ _ hp, Kkc _ _ (Nat.le_refl _)]; cases s
  simp_all
 ·rw [if_neg h, Bool.and_eq_true, Bool.and_eq_true, decide_eq_true_eq, Kmk] at hf; obtain ⟨⟨hfo, hs⟩, hne, _⟩ := hf; have hs' : s.samples = [] := List.eq_nil_of_length_eq_zero hs; have hz : res ≠ 0 := by omega
  unfold Kak; rw [hs']
  cases hw : s.windows with
  | nil => rw [hw] at hne; exact absurd rfl hne
  | cons w l =>
   have hag : aggR (aggT (w :: l)) = some (w :: l) := by
    rw [← hw]; exact Qfp hb.wnd hfo (Nat.lt_trans hb.m (by decide))
   show foldP res _ ([] ++ aggsT (w :: l)) = _
   rw [List.nil_append, aggsT, foldP, decP, if_neg hz, hag]; dsimp only; rw [foldP]; cases s
   simp_all
theorem Kri {t : List Txt} (ha : Asc t) (ht : t.length < 2 ^ 64) {l : List Lb} (he : Kcp l = 0) (hm : ∀ x ∈ texts l, x ∈ t) {I r : List UInt8} {i : Nat} (hi : i ≤ I.length) (h : I.drop i = pk t l ++ r) :
  unpR t I (i : Int) = (l, i + (pk t l).length, 0) ∧ I.drop (i + (pk t l).length) = r := by
 have e : I = I.take i ++ (pk t l ++ r) := by rw [← h, List.take_append_drop]
 have hl : (I.take i).length = i := by rw [List.length_take]; omega
 have := Qbi ha ht he hm (I.take i) r; rw [← e, hl] at this; exact ⟨this, by rw [← List.drop_drop, h, List.drop_left]⟩
theorem Koj {t : List Txt} (ha : Asc t) (ht : t.length < 2 ^ 64) {c : Cont} {res : Nat} (hres : c.res = (res : Int)) (h0 : 0 ≤ c.frm) (h1 : c.to_ ≤ 1125899906842625) {I C : List UInt8} :
  ∀ (L out : List Ser) {i j : Nat} {r r' : List UInt8}, (∀ s ∈ L, Kcp s.labels = 0 ∧ (∀ x ∈ texts s.labels, x ∈ t) ∧ Kdd c s = true ∧ Kpr s ∧ ∀ p ∈ Kak s, p.length < 2 ^ 64) → i ≤ I.length → j ≤ C.length → I.drop i = L.flatMap (serT t) ++ r → C.drop j = L.flatMap (fun s => (Kak s).flatten) ++ r' →
  sersR t res I C L.length out i j = some (out ++ L, i + (L.flatMap (serT t)).length, j + (L.flatMap (fun s => (Kak s).flatten)).length) ∧ I.drop (i + (L.flatMap (serT t)).length) = r
 | [], out, i, j, r, r', _, _, _, hI, hC => ⟨by simp [sersR], by simpa using hI⟩
 | s :: L, out, i, j, r, r', hs, hi, hj, hI, hC => by
  obtain ⟨he, hm, hf, hb, hp⟩ := hs s (by simp); have hI1 : I.drop i = pk t s.labels ++ (uintT (Kak s).length ++ (lensT (Kak s) ++ (L.flatMap (serT t) ++ r))) := by rw [hI]; simp [serT]
  obtain ⟨e1, e2⟩ := Kri ha ht he hm hi hI1
  have hc : (Kak s).length < 2 ^ 64 := by
   have a1 := Kdw s.samples.length s.samples; have a2 : (aggsT s.windows).length ≤ 1 := by cases s.windows <;> simp [aggsT]
   have a3 := hb.n; unfold Kak; rw [List.length_append, List.length_map]; omega
  obtain ⟨e3, e4⟩ := ru_of hc e2; have hC1 : C.drop j = (Kak s).flatten ++ (L.flatMap (fun s => (Kak s).flatten) ++ r') := by rw [hC]; simp
  obtain ⟨e5, e6, e7, e8⟩ := Klw (Kak s) (Kwn hres hf hb h0 h1) hp e4 hC1 hj
  have hi2 : i + (pk t s.labels).length + (uintT (Kak s).length).length + (lensT (Kak s)).length ≤ I.length := by
   have := congrArg List.length hI1; simp only [List.length_drop, List.length_append] at this; have h3 := (Kab (Kak s).length).1; omega
  obtain ⟨e9, e10⟩ := Koj ha ht hres h0 h1 L (out ++ [s]) (fun q hq => hs q (by simp [hq])) hi2 e8 e6 e7; have hl : ((s :: L).flatMap (serT t)).length = (pk t s.labels).length + (uintT (Kak s).length).length + (lensT (Kak s)).length + (L.flatMap (serT t)).length := by simp [serT]; omega
  have hl2 : ((s :: L).flatMap (fun s => (Kak s).flatten)).length = (Kak s).flatten.length + (L.flatMap (fun s => (Kak s).flatten)).length := by simp
  rw [List.length_cons, sersR, e1]; dsimp only; rw [if_neg (by simp), e3]; dsimp only; rw [e5]; dsimp only; rw [e9, hl, hl2]; refine ⟨?_, ?_⟩
  ·rw [List.append_assoc]; simp only [List.singleton_append, Option.some.injEq, Prod.mk.injEq, true_and]; omega
  ·rw [← e10]; congr 1; omega
theorem Kgy {I r : List UInt8} {i : Nat} {s : Txt} (hs : s.length < 2 ^ 64) (h : I.drop i = textT s ++ r) : Kbh I (i : Int) = (s, i + (textT s).length, 0) ∧ I.drop (i + (textT s).length) = r := by
 refine ⟨?_, by rw [← List.drop_drop, h, List.drop_left]⟩; unfold Kbh; rw [if_neg (by omega), Int.toNat_natCast, h, Qaa hs]
theorem Kvz {I r : List UInt8} {i v : Nat} (hv : v < 2 ^ 64) (h : I.drop i = uintT v ++ r) : Kan I (i : Int) = (v, i + (uintT v).length, 0) ∧ I.drop (i + (uintT v).length) = r := by
 refine ⟨?_, by rw [← List.drop_drop, h, List.drop_left]⟩; unfold Kan; rw [if_neg (by omega), Int.toNat_natCast, h, Kep hv]
theorem Kmm {I : List UInt8} : ∀ (l out : List Txt) {i : Nat} {r : List UInt8}, (out ++ l).Pairwise (· < ·) → (∀ x ∈ l, x.length < 2 ^ 64) → I.drop i = l.flatMap textT ++ r → Kev I l.length out i = some (out ++ l, i + (l.flatMap textT).length) ∧ I.drop (i + (l.flatMap textT).length) = r
 | [], out, i, r, _, _, h => ⟨by simp [Kev], by simpa using h⟩
 | x :: l, out, i, r, hp, hz, h => by
  have h' : I.drop i = textT x ++ (l.flatMap textT ++ r) := by rw [h]; simp
  obtain ⟨e1, e2⟩ := Kgy (hz x (by simp)) h'
  have hlow : lowT out x = false := by
   unfold lowT; rw [decide_eq_false_iff_not]; rintro ⟨h1, h2⟩; apply h2; rw [getElem!_pos out _ (by omega)]; exact (List.pairwise_append.1 hp).2.2 _ (List.getElem_mem _) x (by simp)
  obtain ⟨e3, e4⟩ := Kmm l (out ++ [x]) (by simpa using hp) (fun y hy => hz y (by simp [hy])) e2; rw [List.length_cons, Kev, e1]; dsimp only; rw [if_neg (by simp), hlow, if_neg (by simp), e3]; refine ⟨?_, ?_⟩
  ·simp [Nat.add_assoc]
  ·rw [← e4]; congr 1; simp [Nat.add_assoc]
theorem Kre {t : List Txt} (ha : Asc t) (ht : t.length < 2 ^ 64) (hz : ∀ x ∈ t, x.length < 2 ^ 64) {I r : List UInt8} {i : Nat} (h : I.drop i = tabT t ++ r) : tabR I i = some (t, i + (tabT t).length) ∧ I.drop (i + (tabT t).length) = r := by
 have h' : I.drop i = uintT t.length ++ (t.flatMap textT ++ r) := by rw [h]; simp [tabT]
 obtain ⟨e1, e2⟩ := Kvz ht h'; obtain ⟨e3, e4⟩ := Kmm t [] ha hz e2; unfold tabR; rw [e1]; dsimp only; rw [if_neg (by simp), e3]; refine ⟨?_, ?_⟩
 ·simp [tabT, Nat.add_assoc]
 ·rw [← e4]; congr 1; simp [tabT, Nat.add_assoc]
instance lbEq : DecidableEq Lb := fun a b => by
 cases a with
 | mk n v =>
  cases b with
  | mk n' v' => exact if h : n = n' ∧ v = v' then isTrue (by rw [h.1, h.2]) else isFalse fun e => h (by injection e with e1 e2; exact ⟨e1, e2⟩)
instance ltBDec : DecidableRel ltB := fun x y => by unfold ltB; infer_instance
theorem Kec (x : Lb) : ¬ ltB x x := by
 rintro (h | ⟨_, h⟩) <;> exact List.lt_irrefl _ h
theorem Kpk {x y : Lb} (h1 : ¬ ltB x y) (h2 : ¬ ltB y x) : x = y := by
 unfold ltB at h1 h2; have hn : x.n = y.n := Kei (fun h => h1 (.inl h)) (fun h => h2 (.inl h)); have hv : x.v = y.v := Kei (fun h => h1 (.inr ⟨hn, h⟩)) (fun h => h2 (.inr ⟨hn.symm, h⟩)); cases x; cases y
 simp_all
def Qhy (S : List (List Lb)) (K : List Lb) : Prop := K.Pairwise ltB ∧ ∀ x, x ∈ K ↔ ∃ s ∈ S, x ∈ s
theorem Ktw : ∀ {t t' : List Lb}, t.Pairwise ltB → t'.Pairwise ltB → (∀ x, x ∈ t ↔ x ∈ t') → t = t'
 | [], [], _, _, _ => rfl
 | [], b :: s', _, _, h => by have := (h b).2 (by simp); simp at this
 | a :: s, [], _, _, h => by have := (h a).1 (by simp); simp at this
 | a :: s, b :: s', h1, h2, h => by
  have ha := List.pairwise_cons.1 h1; have hb := List.pairwise_cons.1 h2
  have hab : a = b := by
   apply Kpk
   ·intro hlt; rcases List.mem_cons.1 ((h a).1 (by simp)) with e | e
    ·exact Kec a (by rw [e] at hlt ⊢; exact hlt)
    ·exact Kec a (Kgh hlt (hb.1 a e))
   ·intro hlt; rcases List.mem_cons.1 ((h b).2 (by simp)) with e | e
    ·exact Kec b (by rw [e] at hlt ⊢; exact hlt)
    ·exact Kec b (Kgh hlt (ha.1 b e))
  subst hab; rw [Ktw ha.2 hb.2 fun x => ?_]; constructor
  ·intro hx; rcases List.mem_cons.1 ((h x).1 (by simp [hx])) with e | e
   ·subst e; exact absurd (ha.1 x hx) (Kec x)
   ·exact e
  ·intro hx; rcases List.mem_cons.1 ((h x).2 (by simp [hx])) with e | e
   ·subst e; exact absurd (hb.1 x hx) (Kec x)
   ·exact e
def insK (x : Lb) : List Lb → List Lb
 | [] => [x]
 | y :: l => if ltB x y then x :: y :: l else if ltB y x then y :: insK x l else y :: l
theorem Kmx (x : Lb) : ∀ (l : List Lb) (z : Lb), z ∈ insK x l ↔ z = x ∨ z ∈ l
 | [], z => by simp [insK]
 | y :: l, z => by
  rw [insK]
  split
  ·simp
  ·split
   ·rw [List.mem_cons, Kmx x l z, List.mem_cons]; constructor
    ·rintro (h | h | h)
     ·exact .inr (.inl h)
     ·exact .inl h
     ·exact .inr (.inr h)
    ·rintro (h | h | h)
     ·exact .inr (.inl h)
     ·exact .inl h
     ·exact .inr (.inr h)
   ·rename_i h1 h2
    have e := Kpk h1 h2; subst e; simp
theorem Krn (x : Lb) : ∀ (l : List Lb), l.Pairwise ltB → (insK x l).Pairwise ltB
 | [], _ => List.pairwise_singleton _ _
 | y :: l, h => by
  have hc := List.pairwise_cons.1 h; rw [insK]
  split
  ·rename_i h1
   refine List.pairwise_cons.2 ⟨fun z hz => ?_, h⟩; rcases List.mem_cons.1 hz with rfl | hz
   ·exact h1
   ·exact Kgh h1 (hc.1 z hz)
  ·split
   ·rename_i h1 h2
    refine List.pairwise_cons.2 ⟨fun z hz => ?_, Krn x l hc.2⟩; rcases (Kmx x l z).1 hz with rfl | hz
    ·exact h2
    ·exact hc.1 z hz
   ·exact h
def keysOf (S : List (List Lb)) : List Lb := S.flatten.foldr insK []
theorem Kem (S : List (List Lb)) : Qhy S (keysOf S) := by
 have key : ∀ l : List Lb, (l.foldr insK []).Pairwise ltB ∧ ∀ x, x ∈ l.foldr insK [] ↔ x ∈ l := by
  intro l
  induction l with
  | nil => exact ⟨List.Pairwise.nil, fun _ => Iff.rfl⟩
  | cons y l ih => exact ⟨Krn y _ ih.1, fun x => by rw [List.foldr_cons, Kmx, ih.2, List.mem_cons]⟩
 obtain ⟨h1, h2⟩ := key S.flatten; exact ⟨h1, fun x => (h2 x).trans (by rw [List.mem_flatten])⟩
def Kaj (S : List (List Lb)) (x : Lb) : List Nat := (List.range S.length).filter fun i => decide (x ∈ S.getD i [])
theorem Kls : ∀ (l : List Nat) (a : Nat) (first : Bool), l.Pairwise (· < ·) → (∀ x ∈ l, x ≤ 4611686018427387904) → (∀ x ∈ l, a < x ∨ (first = true ∧ a ≤ x)) → Khg a first l
 | [], _, _, _, _, _ => trivial
 | x :: l, a, first, hp, hm, ha => by
  have hc := List.pairwise_cons.1 hp; exact ⟨ha x (by simp), hm x (by simp), Kls l x false hc.2 (fun y hy => hm y (by simp [hy])) (fun y hy => .inl (hc.1 y hy))⟩
theorem Kvq {S : List (List Lb)} (h : S.length ≤ 4611686018427387904) (x : Lb) : Khg 0 true (Kaj S x) := by
 refine Kls _ 0 true ?_ ?_ (fun x _ => .inr ⟨rfl, Nat.zero_le _⟩)
 ·exact List.Pairwise.sublist List.filter_sublist List.pairwise_lt_range
 ·intro y hy; have := List.mem_range.1 (List.mem_filter.1 hy).1; omega
theorem Kft (S : List (List Lb)) (x : Lb) : (Kaj S x).length ≤ S.length := by
 have := List.length_filter_le (fun i => decide (x ∈ S.getD i [])) (List.range S.length); rwa [List.length_range] at this
def keyT (S : List (List Lb)) (x : Lb) : List UInt8 := textT x.n ++ (textT x.v ++ postT (Kaj S x))
def Kbl (S : List (List Lb)) : List UInt8 := uintT (keysOf S).length ++ (keysOf S).flatMap (keyT S)
structure Fil where
 mt : List UInt8
 ck : List UInt8
 ix : List UInt8
instance filEq : DecidableEq Fil := fun a b => by
 cases a with
 | mk m c i =>
  cases b with
  | mk m' c' i' => exact if h : m = m' ∧ c = c' ∧ i = i' then isTrue (by rw [h.1, h.2.1, h.2.2]) else isFalse fun e => h (by injection e with e1 e2 e3; exact ⟨e1, e2, e3⟩)
def Kae (c : Cont) : List (List Lb) := c.series.map Ser.labels
def allS (S : List (List Lb)) : List Txt := S.flatMap texts
def tabOf (S : List (List Lb)) : List Txt := Lib.compact ((allS S).mergeSort fun x y => decide (x ≤ y))
theorem Keh (S : List (List Lb)) : IsTab (allS S) (tabOf S) := Qef _
def metaB (c : Cont) : List UInt8 := uintT c.res.toNat ++ (intT c.frm ++ intT c.to_)
def Kce (c : Cont) : List UInt8 := c.series.flatMap fun s => (Kak s).flatten
def Kba (c : Cont) : List UInt8 := tabT (tabOf (Kae c)) ++ (uintT c.series.length ++ (c.series.flatMap (serT (tabOf (Kae c))) ++ Kbl (Kae c)))
def Kbc (c : Cont) : Fil := ⟨sealT (metaB c), sealT (Kce c), sealT (Kba c)⟩
def ordS : List Ser → Bool
 | [] => true
 | [_] => true
 | a :: b :: l => decide (cmpL a.labels b.labels < 0) && ordS (b :: l)
def fitB (c : Cont) : Bool := decide (0 ≤ c.res) && decide (c.res < 3) && decide (0 ≤ c.frm) && decide (c.frm < c.to_) && decide (c.to_ ≤ 1125899906842625) && c.series.all (fun s => Kcl s.labels && Kdd c s) && ordS c.series
theorem Kez {c : Cont} : fitB c = true ↔ 0 ≤ c.res ∧ c.res < 3 ∧ 0 ≤ c.frm ∧ c.frm < c.to_ ∧ c.to_ ≤ 1125899906842625 ∧ (∀ s ∈ c.series, Kcl s.labels = true ∧ Kdd c s = true) ∧ ordS c.series = true := by
 unfold fitB; simp only [Bool.and_eq_true, decide_eq_true_eq, List.all_eq_true, and_assoc]
def Kgb (f : Fil) : Option Cont := match Kas f.mt, Kas f.ck, Kas f.ix with
 | .ok M, .ok C, .ok I => match ruAt M 0 with
  | none => none
  | some (r, m1) => match riAt M m1 with
   | none => none
   | some (a, m2) => match riAt M m2 with
    | none => none
    | some (b, _) => match tabR I 0 with
     | none => none
     | some (t, i0) => match ruAt I i0 with
      | none => none
      | some (n, i1) => match sersR t (min r 9) I C n [] i1 0 with
       | none => none
       | some (out, _, _) => some ⟨(min r 9 : Nat), a, b, out⟩
 | _, _, _ => none
def Kds (f : Fil) : Option Cont := match Kgb f with
 | none => none
 | some c => if fitB c = true ∧ Kbc c = f then some c else none
structure Kfr (c : Cont) : Prop where
 ser : ∀ s ∈ c.series, Kpr s
 n : c.series.length < 2 ^ 58
 t : ∀ x ∈ tabOf (Kae c), x.length < 2 ^ 64
 tn : (tabOf (Kae c)).length < 2 ^ 64
 p : ∀ s ∈ c.series, ∀ p ∈ Kak s, p.length < 2 ^ 64
theorem Kje {l : List Lb} (h : Kcl l = true) : Kcp l = 0 := by
 unfold Kcl at h; rw [Bool.and_eq_true, decide_eq_true_eq, decide_eq_true_eq] at h; unfold Kcp; rw [if_neg (by simp [h.1]), if_pos h.2]
theorem Kzu {c : Cont} (hf : fitB c = true) (hb : Kfr c) : Kds (Kbc c) = some c := by
 obtain ⟨h0, h1, h2, h3, h4, h5, h6⟩ := Kez.1 hf
 have hmem : ∀ s ∈ c.series, ∀ x ∈ texts s.labels, x ∈ tabOf (Kae c) := by
  intro s hs x hx; rw [(Keh (Kae c)).2]; exact List.mem_flatMap.2 ⟨s.labels, List.mem_map.2 ⟨s, hs, rfl⟩, hx⟩
 obtain ⟨res, hres⟩ : ∃ res : Nat, c.res = (res : Int) := ⟨c.res.toNat, by omega⟩; have hm0 : (metaB c).drop 0 = uintT res ++ (intT c.frm ++ intT c.to_) := by rw [List.drop_zero, metaB, hres, Int.toNat_natCast]
 obtain ⟨e1, k1⟩ := ru_of (by omega) hm0; obtain ⟨e2, k2⟩ := ri_of (by omega) (by omega) k1; have k2' : (metaB c).drop (0 + (uintT res).length + (intT c.frm).length) = intT c.to_ ++ [] := by rw [k2, List.append_nil]
 obtain ⟨e3, k3⟩ := ri_of (by omega) (by omega) k2'; have hi0 : (Kba c).drop 0 = tabT (tabOf (Kae c)) ++ (uintT c.series.length ++ (c.series.flatMap (serT (tabOf (Kae c))) ++ Kbl (Kae c))) := rfl; obtain ⟨e4, k4⟩ := Kre (Keh (Kae c)).1 hb.tn hb.t hi0; obtain ⟨e5, k5⟩ := ru_of (Nat.lt_trans hb.n (by decide)) k4
 have hle : 0 + (tabT (tabOf (Kae c))).length + (uintT c.series.length).length ≤ (Kba c).length := by
  unfold Kba; simp only [List.length_append]; omega
 have hck : (Kce c).drop 0 = c.series.flatMap (fun s => (Kak s).flatten) ++ [] := by rw [List.drop_zero, List.append_nil]; rfl
 have hmin : min res 9 = res := by omega
 obtain ⟨e6, _⟩ := Koj (Keh (Kae c)).1 hb.tn hres h2 h4 (I := Kba c) (C := Kce c) c.series [] (fun s hs => ⟨Kje (h5 s hs).1, hmem s hs, (h5 s hs).2, hb.ser s hs, hb.p s hs⟩) hle (Nat.zero_le _) k5 hck
 have hp : Kgb (Kbc c) = some c := by
  unfold Kgb Kbc; simp only [Kmj]; rw [e1]; dsimp only; rw [e2]; dsimp only; rw [e3]; dsimp only; rw [e4]; dsimp only; rw [e5, hmin]; dsimp only; rw [e6]; dsimp only; rw [← hres]; rfl
 unfold Kds; rw [hp]; dsimp only; rw [if_pos ⟨hf, rfl⟩]
theorem Qaw {f : Fil} {c : Cont} (h : Kds f = some c) : fitB c = true ∧ Kbc c = f := by
 unfold Kds at h
 split at h
 ·cases h
 ·split at h
  ·rename_i hh
   injection h with h; subst h; exact hh
  ·cases h
def Kbi : List (List UInt8) → Nat
 | [] => 190
 | s :: l => match Kas s with
  | .error e => e
  | .ok _ => Kbi l
end
section
open Go.RowKit
open Lib renaming hid → Jh
attribute [local go_sem ↓] Go.wp_at_zero Go.wp_at_succ
attribute [local go_sem] Later.cell
def encN (x : Nat) : List Value := [.int .i64 (x : Int)]
def lastN : Nat → List Nat → Nat
 | a, [] => a
 | _, x :: l => lastN x l
theorem Kiq : ∀ (l : List Nat) (a x : Nat), lastN a (l ++ [x]) = x
 | [], _, _ => rfl
 | _ :: l, _, x => Kiq l _ x
theorem Khu : ∀ (l : List Nat) (a x : Nat), Kby a (l ++ [x]) = Kby a l ++ uintT (x - lastN a l)
 | [], a, x => by simp [Kby, lastN]
 | w :: l, a, x => by rw [List.cons_append, Kby, Kby, Khu l, lastN, List.append_assoc]
theorem Kvi : ∀ (l : List Nat) (a x : Nat), (l ++ [x]).Pairwise (· < ·) → l ≠ [] → lastN a l < x
 | [], _, _, _, h => absurd rfl h
 | [y], a, x, h, _ => by
  have := List.pairwise_cons.1 h; exact this.1 x (by simp)
 | y :: z :: l, a, x, h, _ => Kvi (z :: l) y x (List.pairwise_cons.1 h).2 (by simp)
theorem Ksl (l : List Nat) (A : Option Addr) (n cap : Nat) (w : World) (hE : Elems w w.heap.size 1 encN A n l) (hn : n ≤ 1099511627776) (hp : l.Pairwise (· < ·)) (hv : ∀ x ∈ l, x ≤ 1099511627776) :
  Calls Tryz.prog 121 #[.slice A n cap] w fun e w' => e = .returned (.tuple #[.string ⟨(postT l).toArray⟩, .int .i64 0]) ∧ Below w.heap.size w w' := by
 have hlen := hE.len; have HE := Jh hE; have HV := Jh hv; have HP := Jh hp; have HLEN := Jh hlen; have HUN := Jh (fun w => Kax n (by omega) w); have h0 : Bld w.heap.size w.heap.size [] (w.alloc (.cells #[.pointer none, .slice none 0 0] 109)) := Bld.new w (Nat.le_refl _); have hb0 : Below w.heap.size w (w.alloc (.cells #[.pointer none, .slice none 0 0] 109)) := (Below.refl _ _).alloc (Nat.le_refl _) _; clear hE hv hp hlen; go_enter Tryz.func121, Tryz.ntmps121
 go_upto_region 2 with fail
 obtain ⟨w1, hw1⟩ : ∃ w1, w.alloc (.cells #[.pointer none, .slice none 0 0] 109) = w1 := ⟨_, rfl⟩; rw [hw1] at h0 hb0; rw [hw1]; obtain ⟨b, hb⟩ : ∃ b, w.heap.size = b := ⟨_, rfl⟩; rw [hb] at h0 hb0 HE ⊢; have HB := Jh hb; have HL1 := Jh h0; have HB1 := Jh hb0; have hB1 : b ≤ w1.heap.size := by have := hb0.size; omega
 clear hw1 h0 hb0 hb; go_wp2_with fail
 refine (HUN.out w1).mono ?_; rintro _ w2 ⟨rfl, hb2⟩; have HL2 := Jh (HL1.out.below hb2); have HB2 := Jh (HB1.out.trans (hb2.mono hB1)); have hB2 : b ≤ w2.heap.size := Nat.le_trans hB1 hb2.size; clear hb2; go_wp2_with fail
 refine (Kbb b b [] ⟨(uintT n).toArray⟩ w2 HL2.out (by show 0 + (uintT n).toArray.size ≤ _; have := (Kab n).2; simp only [List.size_toArray]; omega) hB2).mono ?_; rintro _ w3 ⟨rfl, h5, h6, _⟩; have HL3 : Hid (Bld b b (uintT n) w3) := Jh h5; have HB3 := Jh (HB2.out.trans h6); clear h5 h6; go_wp2_with fail
 go_loopg [5, 15] n (fun g s5 s15 wr => ∃ i : Nat, i + g = n ∧ s15 = .int .i64 (i : Int) ∧ s5 = .int .i64 ((lastN 0 (l.take i) : Nat) : Int) ∧ Bld b b (uintT n ++ Kby 0 (l.take i)) wr ∧ Below b w wr ∧ (uintT n ++ Kby 0 (l.take i)).length ≤ 11 + 11 * i ∧ lastN 0 (l.take i) ≤ 1099511627776)
 case atStart => exact ⟨0, by omega, rfl, rfl, by simpa [Kby] using HL3.out, HB3.out, by have := (Kab n).2; simp [Kby]; omega, Nat.zero_le _⟩
 case round =>
  obtain ⟨i, hi, rfl, rfl, hld, hbr, hle, hla⟩ := hrel; have HI := Jh hi; have HL := Jh hld; have HR := Jh hbr; have HLE := Jh hle; have hBr : b ≤ wr.heap.size := Nat.le_trans (by rw [HB.out]; exact Nat.le_refl _) hbr.size; clear hld hbr hle
  by_cases hin : i < n
  ·have hil : i < l.length := by have := HLEN.out; omega
   obtain ⟨bk, off, rfl, hbk, hcell⟩ := HE.out.2 (by omega); have m0 : wr.cell? ⟨bk, off + i, none⟩ = some (.int .i64 ((l[i] : Nat) : Int)) := (HR.out.cell (p := ⟨bk, off + i, none⟩) hbk).trans (by simpa using hcell i l[i] (List.getElem?_eq_getElem hil) 0 _ rfl); have hvi := HV.out l[i] (List.getElem_mem hil); have htk : l.take (i + 1) = l.take i ++ [l[i]] := List.take_succ_eq_append_getElem hil
   have hlt : i ≠ 0 → lastN 0 (l.take i) < l[i] := by
    intro h0; refine Kvi _ _ _ ?_ ?_
    ·rw [← htk]; exact HP.out.sublist (List.take_sublist _ _)
    ·intro he; have := congrArg List.length he; rw [List.length_take, List.length_nil] at this; omega
   obtain ⟨x, hxx⟩ : ∃ x, l[i] = x := ⟨_, rfl⟩; rw [hxx] at m0 hvi htk hlt; obtain ⟨a, haa⟩ : ∃ a, lastN 0 (l.take i) = a := ⟨_, rfl⟩; rw [haa] at hlt hla ⊢; obtain ⟨T, hT⟩ : ∃ T, uintT n ++ Kby 0 (l.take i) = T := ⟨_, rfl⟩; rw [hT] at HL HLE; have HTK := Jh htk; have HAA := Jh haa; have HT := Jh hT
   have hax : a ≤ x := by
    by_cases h0 : i = 0
    ·subst h0; have : a = 0 := by rw [← haa]; rfl
     omega
    ·have := hlt h0; omega
   have el : (i : Int) < (n : Int) := by omega
   have e1 : decide ((x : Int) < 0) = false := by rw [decide_eq_false_iff_not]; omega
   obtain ⟨y, hy⟩ : ∃ y, x - a = y := ⟨_, rfl⟩; have hyi : (x : Int) - (a : Int) = (y : Int) := by omega
   have hyw : wrap64 ((x : Int) - (a : Int)) = (y : Int) := by unfold wrap64; omega
   have hyu : IntKind.u64.wrap (y : Int) = (y : Int) := by rw [IntKind.wrap_u64]; omega
   have HY := Jh hy; have HU := Jh (fun w => Kax y (by omega) w); have HIN := Jh hin; clear hi htk hxx haa hT hcell hy hil
   by_cases h0 : i = 0
   ·subst h0; rw [Nat.add_zero] at m0; clear hlt hin; go_wp2_with fail
    refine (HU.out wr).mono ?_; rintro _ w5 ⟨rfl, h5⟩; have HL5 := Jh (HL.out.below h5); have HR5 := Jh (HR.out.trans (h5.mono hBr)); have hB5 : b ≤ w5.heap.size := Nat.le_trans hBr h5.size; clear h5; go_wp2_with fail
    refine (Kbb b b T ⟨(uintT y).toArray⟩ w5 HL5.out (by show _ + (uintT y).toArray.size ≤ _; have := (Kab y).2; have := HLE.out; have := HI.out; simp only [List.size_toArray]; omega) hB5).mono ?_; rintro _ w6 ⟨rfl, h6, h7, _⟩; have HL6 := Jh h6; have HR6 := Jh (HR5.out.trans h7); clear h6 h7; go_wp2_with fail
    go_roundg (gk - 1)
    case measure => have := HI.out; omega
    case rel =>
     have hlx : lastN 0 (l.take (0 + 1)) = x := by rw [HTK.out, Kiq]
     have hst : uintT n ++ Kby 0 (l.take (0 + 1)) = T ++ uintT y := by rw [HTK.out, Khu, HAA.out, HY.out, ← HT.out, List.append_assoc]
     refine ⟨1, by have := HI.out; omega, by go_num, by rw [hlx], by rw [hst]; exact HL6.out, HR6.out, ?_, by rw [hlx]; exact hvi⟩; rw [hst, List.length_append]; have := (Kab y).2; have := HLE.out; omega
   ·have hlt' := hlt h0; have e2 : decide ((0 : Int) < (i : Int)) = true := by rw [decide_eq_true_eq]; omega
    have e2' : decide (0 < i) = true := by rw [decide_eq_true_eq]; omega
    have e3 : decide ((x : Int) ≤ (a : Int)) = false := by rw [decide_eq_false_iff_not]; omega
    have e3' : decide (x ≤ a) = false := by rw [decide_eq_false_iff_not]; omega
    clear hlt hin; go_wp2_with fail
    refine (HU.out wr).mono ?_; rintro _ w5 ⟨rfl, h5⟩; have HL5 := Jh (HL.out.below h5); have HR5 := Jh (HR.out.trans (h5.mono hBr)); have hB5 : b ≤ w5.heap.size := Nat.le_trans hBr h5.size; clear h5; go_wp2_with fail
    refine (Kbb b b T ⟨(uintT y).toArray⟩ w5 HL5.out (by show _ + (uintT y).toArray.size ≤ _; have := (Kab y).2; have := HLE.out; have := HI.out; simp only [List.size_toArray]; omega) hB5).mono ?_; rintro _ w6 ⟨rfl, h6, h7, _⟩; have HL6 := Jh h6; have HR6 := Jh (HR5.out.trans h7); clear h6 h7; go_wp2_with fail
    go_roundg (gk - 1)
    case measure => have := HI.out; omega
    case rel =>
     have hlx : lastN 0 (l.take (i + 1)) = x := by rw [HTK.out, Kiq]
     have hst : uintT n ++ Kby 0 (l.take (i + 1)) = T ++ uintT y := by rw [HTK.out, Khu, HAA.out, HY.out, ← HT.out, List.append_assoc]
     refine ⟨i + 1, by have := HI.out; omega, by go_num, by rw [hlx], by rw [hst]; exact HL6.out, HR6.out, ?_, by rw [hlx]; exact hvi⟩; rw [hst, List.length_append]; have := (Kab y).2; have := HLE.out; omega
  ·have hi3 : i = n := by have := HI.out; omega
   subst hi3; have htk : l.take i = l := List.take_of_length_le (by have := HLEN.out; omega); rw [htk] at HL; have HPT : Hid (uintT i ++ Kby 0 l = postT l) := Jh (by unfold postT; rw [HLEN.out]); rw [HPT.out] at HL; have HST2 := Jh (Kdv b b _ wr HL.out hBr); obtain ⟨S, hS⟩ : ∃ S : ByteArray, (⟨(postT l).toArray⟩ : ByteArray) = S := ⟨_, rfl⟩; rw [hS] at HST2; have HS := Jh hS; clear htk hS; go_wp2_with fail
   refine HST2.out.mono ?_; rintro _ w3 ⟨rfl, h6⟩; go_wp2_with fail
   go_ret2
   rw [← HS.out]; exact ⟨rfl, by rw [HB.out]; exact HR.out.trans h6⟩
end
section
open Go.RowKit
theorem Kie {fn : Func} {p q : Tmp} {t u : TypeId} (h : fn.results = #[.cell p t, .cell q u]) (tmps : Array Value) (w : World) (a b : Addr) (x y : Value)
  (hp : tmps.getD p undef = .pointer (some a)) (hq : tmps.getD q undef = .pointer (some b))
  (hx : (loadVar t a).run Tryz.prog w = .ok x w) (hy : (loadVar u b).run Tryz.prog w = .ok y w) :
  (results fn tmps).run Tryz.prog w = .ok (.tuple #[x, y]) w := by
 have hp' : tmps[p]?.getD undef = .pointer (some a) := by simpa using hp
 have hq' : tmps[q]?.getD undef = .pointer (some b) := by simpa using hq
 simp only [results, h]; simp [Sem.run_bind, Result.andThen, asAddr, hp', hq', hx, hy]
theorem Kdg {fn : Func} {p : Tmp} {t : TypeId} (h : fn.results = #[.cell p t]) (tmps : Array Value) (w : World) (a : Addr) (x : Value)
  (hp : tmps.getD p undef = .pointer (some a)) (hx : (loadVar t a).run Tryz.prog w = .ok x w) :
  (results fn tmps).run Tryz.prog w = .ok x w := by
 have hp' : tmps[p]?.getD undef = .pointer (some a) := by simpa using hp
 simp only [results, h]; simp [Sem.run_bind, Result.andThen, asAddr, hp', hx]
theorem Kjn {fn : Func} {p q : Tmp} {t : TypeId} (h : fn.results = #[.cell p t, .tmp q]) (tmps : Array Value) (w : World) (a : Addr) (x : Value)
  (hp : tmps.getD p undef = .pointer (some a)) (hx : (loadVar t a).run Tryz.prog w = .ok x w) :
  (results fn tmps).run Tryz.prog w = .ok (.tuple #[x, tmps.getD q undef]) w := by
 have hp' : tmps[p]?.getD undef = .pointer (some a) := by simpa using hp
 simp only [results, h]; simp [Sem.run_bind, Result.andThen, asAddr, hp', hx]
end
end Go.Proofs.YtdoiekknhnbepaaGreatDoor
