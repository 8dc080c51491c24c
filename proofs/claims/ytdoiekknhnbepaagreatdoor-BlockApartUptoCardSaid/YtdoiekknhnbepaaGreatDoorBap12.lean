/- Merged (what the claim wants of): BlkParseB, BlkSize, BlkSize2, BlkLawP, BlkParseC, RefB2, RefBPlain, RefBEq, RefB5. -/
import Derived.Test.YtdoiekknhnbepaaGreatDoorBap11
import Derived.Laws.PanicsMore
import Derived.Test.YtdoiekknhnbepaaGreatDoorBap05
import Derived.Test.YtdoiekknhnbepaaGreatDoorBap04
import Derived.Test.YtdoiekknhnbepaaGreatDoorBap03
import Derived.Test.YtdoiekknhnbepaaGreatDoorBap08
import Derived.Laws.StructEq
import Derived.WalkKit
set_option linter.unusedVariables false
set_option linter.unusedSimpArgs false
set_option maxRecDepth 100000
set_option maxHeartbeats 8000000
namespace Go.Proofs.YtdoiekknhnbepaaGreatDoor
section
open Go.RowKit
open Lib renaming hid → Jh
attribute [local go_sem ↓] Go.wp_at_zero Go.wp_at_succ
attribute [local go_sem] Later.cell
def Kkh (st : List Ser × Nat) (j : Nat) : Option (List Smp) → Option (List Ser × Nat)
 | none => none
 | some l => some (st.1.dropLast ++ [{ st.1.getLast?.getD ⟨[], [], []⟩ with samples := (st.1.getLast?.getD ⟨[], [], []⟩).samples ++ l }], j)
def Kkb (st : List Ser × Nat) (j : Nat) : Option (List Wnd) → Option (List Ser × Nat)
 | none => none
 | some l => some (st.1.dropLast ++ [{ st.1.getLast?.getD ⟨[], [], []⟩ with windows := (st.1.getLast?.getD ⟨[], [], []⟩).windows ++ l }], j)
theorem Qbx {C : List UInt8} {st : List Ser × Nat} {n : Nat} (h : st.2 + n ≤ C.length) : partP 0 C st n = Kkh st (st.2 + n) (decC ((C.drop st.2).take n)) := by
 unfold partP decP; rw [if_pos h, if_pos rfl]; cases decC ((C.drop st.2).take n) <;> rfl
theorem Qay {C : List UInt8} {st : List Ser × Nat} {n res : Nat} (hr : res ≠ 0) (h : st.2 + n ≤ C.length) : partP res C st n = Kkb st (st.2 + n) (aggR ((C.drop st.2).take n)) := by
 unfold partP decP; rw [if_pos h, if_neg hr]; cases aggR ((C.drop st.2).take n) <;> rfl
theorem Kur (w : World) : Calls Tryz.prog 85 #[.int .i64 0] w fun e w' => e = .returned (.tuple #[]) ∧ w = w' := by
 go_enter Tryz.func85, Tryz.ntmps85
 go_wp2
 go_end0
 exact ⟨rfl, rfl⟩
theorem Ktt (c : Nat) (hc : c ≠ 0) (w : World) : Calls Tryz.prog 85 #[.int .i64 (c : Int)] w fun e w' => e = Kaq c ∧ w = w' := by
 have e0 : ((c : Int) != 0) = true := by simp; omega
 go_enter Tryz.func85, Tryz.ntmps85
 go_wp2
 exact Kae rfl ⟨rfl, rfl⟩
theorem Qcq {s : List UInt8} {l : List Smp} (h : decC s = some l) : l.length ≤ 120 * s.length := by
 unfold decC at h
 split at h
 ·rename_i h1
  injection h with h; subst h; have h2 := (Kkr s).2; have h3 : 0 < s.length := List.length_pos_iff.2 (Kmh h1.1); omega
 ·cases h
theorem Klv : ∀ (hs : List Hd3) (m r : Nat) (h : Hd3) (v : Value), hs[m]? = some h → (encH3 h)[r]? = some v → (hs.flatMap encH3)[m * 3 + r]? = some v
 | [], m, r, h, v, h1, _ => by simp at h1
 | x :: l, 0, r, h, v, h1, h2 => by
  have e : x = h := by simpa using h1
  subst e; have h3 := (List.getElem?_eq_some_iff.1 h2).1; rw [List.flatMap_cons, Nat.zero_mul, Nat.zero_add, List.getElem?_append_left h3]; exact h2
 | x :: l, m + 1, r, h, v, h1, h2 => by
  have e : (encH3 x).length = 3 := rfl; rw [List.flatMap_cons, List.getElem?_append_right (by rw [e]; omega), e, show (m + 1) * 3 + r - 3 = m * 3 + r by omega]; exact Klv l m r h v (by simpa using h1) h2
theorem Kug (l : List Smp) : (l.flatMap Kbf).length = l.length * 2 := by
 induction l with
 | nil => rfl
 | cons x l ih => rw [List.flatMap_cons, List.length_append, ih, Kil, List.length_cons]; omega
theorem Qcj {α : Type} {enc : α → List Value} {sz : Nat} (l : List α) (hl : ∀ x ∈ l, (enc x).length = sz) {j : Nat} {u : Value} (h : (l.flatMap enc)[j]? = some u) :
  ∃ i x r, l[i]? = some x ∧ (enc x)[r]? = some u ∧ j = i * sz + r := by
 induction l generalizing j with
 | nil => simp at h
 | cons y l ih =>
  rw [List.flatMap_cons] at h
  by_cases hj : j < (enc y).length
  ·rw [List.getElem?_append_left hj] at h; exact ⟨0, y, j, rfl, h, by simp⟩
  ·rw [List.getElem?_append_right (by omega)] at h; obtain ⟨i, x, r, h1, h2, h3⟩ := ih (fun z hz => hl z (by simp [hz])) h; have hy := hl y (by simp); exact ⟨i + 1, x, r, by simpa using h1, h2, by rw [Nat.succ_mul]; omega⟩
theorem Elems.cellsB {α : Type} {enc : α → List Value} {sz n B : Nat} {w : World} {ad : Addr} {xs : List α} (hl : ∀ x ∈ xs, (enc x).length = sz) (h : Elems w B sz enc (some ad) n xs) :
  ∀ j u, (xs.flatMap enc)[j]? = some u → w.cell? (ad.add j) = some u := by
 intro j u hu; obtain ⟨i, x, r, h1, h2, rfl⟩ := Qcj xs hl hu
 have hi : 0 < n := by
  have := (List.getElem?_eq_some_iff.1 h1).1; have := h.1; omega
 obtain ⟨b, off, e, _, hc⟩ := h.2 hi; injection e with e; subst e; have := hc i x h1 r u h2
 have ea : (⟨b, off, none⟩ : Addr).add (i * sz + r) = ⟨b, off + i * sz + r, none⟩ := by
  unfold Addr.add
  split
  ·rename_i h0; simp at h0 ⊢; (try omega)
  ·simp; (try omega)
 rw [ea]; exact this
theorem Kvs {P : Program} {α : Type} (k : IntKind) (x y : Int) (code : BoundsCode) (w : World) :
  ∃ s w', (boundsPanic k x y code : Sem α).run P w = .halt (.panic (boundsValue P (IntKind.i64.wrap x) y s code.toNat)) w' ∧ Below w.heap.size w w' := by
 unfold boundsPanic boundsValue
 split
 ·refine ⟨(w.tape w.drawn (.extern "runtime.boundsError.signed" 2) % 2 == 1), w.drew, ?_, (Below.refl _ _).drew⟩; simp [Question.forced, Question.cut, runtimePanic, goPanic, go_sem]
  try rfl
 ·refine ⟨(k != .u64), w, ?_, Below.refl _ _⟩; simp [runtimePanic, goPanic, go_sem]
  try rfl
theorem Kpb {P : Program} (t : TypeId) (s : ByteArray) (h : P.underlying t = some .string) (lo hi : Int) (ho : (s.size : Int) < hi) (w : World) :
  ∃ tt xx w', (Instr.slice t (.string s) (some (.int .i64 lo)) (some (.int .i64 hi)) none).run P w = .halt (.panic (.iface tt xx)) w' ∧ Below w.heap.size w w' := by
 obtain ⟨sg, w', e, hb⟩ := Kvs (P := P) (α := Nat) .i64 hi s.size .sliceAlen w; have hn : ¬ (0 ≤ hi ∧ hi ≤ (s.size : Int)) := by omega
 have e2 : (Instr.sliceBounds false s.size s.size (some (.int .i64 lo)) (some (.int .i64 hi)) none).run P w = .halt (.panic (boundsValue P (IntKind.i64.wrap hi) s.size sg (BoundsCode.sliceAlen).toNat)) w' := by
  simp [Instr.sliceBounds, Instr.sliceBound, asIntOf, go_sem, hn, e]
 exact ⟨_, _, w', run_slice_string_of_bounds t s _ _ h e2, hb⟩
theorem Kvf {L : PLoc} (ok : Kes L) {st : List Ser × Nat} {O : Nat → Prop} (w : World) (h : PM L st O w) (hsz : 0 < st.1.length) (hsb : st.1.length ≤ 1099511627776) (n : Nat) (hn : n < 2 ^ 64) (hDb : DbTab L.w0) :
  Calls Tryz.prog 83 #[.int .u64 (n : Int), .pointer (some ⟨L.q + 1, 0, none⟩), .pointer (some ⟨L.b5, 0, none⟩)] w fun e w' => match partP L.res L.C.data.toList st n with
   | some st' => e = .returned (.tuple #[]) ∧ ∃ O', PM L st' O' w' ∧ Grow O O' w w'
   | none => BadE e ∧ PN L w' := by
 obtain ⟨R, hR⟩ : ∃ R, partP L.res L.C.data.toList st n = R := ⟨_, rfl⟩; rw [hR]; obtain ⟨hs, v, h⟩ := h; obtain ⟨hO, hcb, hv, hl, hp, hd⟩ := h.ex; obtain ⟨q, hq⟩ : ∃ q, L.q = q := ⟨_, rfl⟩; have HQ := Jh hq; obtain ⟨m, hm⟩ : ∃ m, hs.length = m + 1 := ⟨hs.length - 1, by omega⟩; rw [hm] at hv
 obtain ⟨g, cV, hvv⟩ : ∃ g cV, v = .slice (some ⟨g, 0, none⟩) (m + 1) cV := by
  rcases hv.2 with ⟨_, h0⟩ | ⟨g, cap, cur, h1, _⟩
  ·omega
  ·exact ⟨g, cap, h1⟩
 subst hvv; have H := Jh h; obtain ⟨pc, hpc⟩ : ∃ pc, L.pc = pc := ⟨_, rfl⟩; obtain ⟨b5, hb5⟩ : ∃ b5, L.b5 = b5 := ⟨_, rfl⟩; obtain ⟨C, hC⟩ : ∃ C, L.C = C := ⟨_, rfl⟩; obtain ⟨j, hj⟩ : ∃ j, st.2 = j := ⟨_, rfl⟩
 have hck : Blk w pc 167 #[.string C, .int .i64 (j : Int)] := by
  have := h.ck; rw [hpc, hC, hj] at this; exact this
 have hbb : Blk w b5 157 #[.pointer (some ⟨pc, 0, none⟩)] := by
  have := h.b5; rw [hpc, hb5] at this; exact this
 have hjC : j ≤ C.size := by rw [← hj, ← hC]; exact h.jc
 have hCz : C.size ≤ 68719476736 := by rw [← hC]; exact ok.cz
 have c3 : w.cell? ⟨q + 1, 3, none⟩ = some (.slice (some ⟨g, 0, none⟩) (m + 1 : Nat) cV) := by rw [← hq]; exact hcb.cell 3
 have hqq : q + 1 < w.heap.size := by rw [← hq]; exact hcb.lt
 have b0 : w.cell? ⟨b5, 0, none⟩ = some (.pointer (some ⟨pc, 0, none⟩)) := hbb.cell 0; have r0 : w.cell? ⟨pc, 0, none⟩ = some (.string C) := hck.cell 0; have r1 : w.cell? ⟨pc, 1, none⟩ = some (.int .i64 (j : Int)) := hck.cell 1; have hpl := hck.lt; have hbl := hbb.lt; have hm9 : m < 1099511627776 := by have := hl; omega
 have HV := Jh hv; have HCB := Jh hcb; have HO := Jh hO; have HP := Jh hp; have HD := Jh hd; have HL := Jh hl; have HM := Jh hm; have HR := Jh hR; have HPC := Jh hpc; have HB5 := Jh hb5; have HC := Jh hC; have HJ := Jh hj; have HCK := Jh hck; have HBB := Jh hbb; rw [hq, hb5]; have HDB := Jh hDb; clear hO hl hp hd hm hq h hcb hv hR hpc hb5 hC hj hck hbb hDb
 by_cases hfit : j + n ≤ C.size
 ·have htx : (C.extract j ((j : Int) + min (n : Int) ((C.size : Int) + 1)).toNat).data.toList = (C.data.toList.drop j).take n := by
   rw [Kka, show (((j : Int) + min (n : Int) ((C.size : Int) + 1)).toNat) - j = n by omega]
  have HTX := Jh htx; clear htx; have hw1 : IntKind.u64.wrap ((C.size : Int) + 1) = (C.size : Int) + 1 := by rw [IntKind.wrap_u64]; omega
  have hmin : decide ((n : Int) < (C.size : Int) + 1) = true := by rw [decide_eq_true_eq]; omega
  have hmin2 : decide ((n : Int) ≤ (C.size : Int) + 1) = true := by rw [decide_eq_true_eq]; omega
  go_enter Tryz.func83, Tryz.ntmps83
  go_upto_region 1 with fail
  refine Kai (by kernel_rfl) (by kernel_rfl) ?_
  repeat (go_big_quiet_step (fail))
  refine wpQuiet_nil ?_; rintro w1 ⟨⟨_, hb1⟩, rfl⟩; have hTT := HTX.out; obtain ⟨T, hT⟩ : ∃ T, C.extract j ((j : Int) + min (n : Int) ((C.size : Int) + 1)).toNat = T := ⟨_, rfl⟩; obtain ⟨mn, hmn⟩ : ∃ mn, min (n : Int) ((C.size : Int) + 1) = mn := ⟨_, rfl⟩; rw [hT] at hTT
  try rw [hmn] at hT
  rw [hmn]; rw [hT]; have hTd : T.data.toList = (C.data.toList.drop j).take n := hTT; have hTs : T.size = n := by rw [← Kah, hTd, List.length_take, List.length_drop]; have : C.data.toList.length = C.size := rfl; omega
  have HTD := Jh hTd; have HTS := Jh hTs; have HB1 := Jh hb1; have hck1 := HCK.out.below hb1 HCK.out.lt; have r1 : w1.cell? ⟨pc, 1, none⟩ = some (.int .i64 (j : Int)) := hck1.cell 1; have f1 := hck1.frozen 1; have hbb1 := HBB.out.below hb1 HBB.out.lt; have b0 : w1.cell? ⟨b5, 0, none⟩ = some (.pointer (some ⟨pc, 0, none⟩)) := hbb1.cell 0; have hcb1 := HCB.out.below hb1 HCB.out.lt; rw [HQ.out] at hcb1; have c0 : w1.cell? ⟨q + 1, 0, none⟩ = some (.int .i64 (L.res : Int)) := hcb1.cell 0; have hjT : j + T.size ≤ 1099511627776 := by omega
  clear hTT hT hTd hTs hb1 hck1 hbb1 hcb1 hmn c3; go_upto_region 3 with fail
  have hX1 := H.out.below ok HB1.out; obtain ⟨hX2, hg2⟩ := hX1.reader ok (j := j + n) (by rw [HJ.out]; omega) (by rw [HC.out]; exact hfit); have hwe : w1.setCell ⟨pc, 1, none⟩ (.int .i64 ((j : Int) + (T.size : Int))) = w1.setCell ⟨L.pc, 1, none⟩ (.int .i64 ((j + n : Nat) : Int)) := by rw [HPC.out, HTS.out, Int.natCast_add]
  have hg2' := Grow.below HB1.out hg2; rw [hwe]; obtain ⟨w2, hw2⟩ : ∃ w2, w1.setCell ⟨L.pc, 1, none⟩ (.int .i64 ((j + n : Nat) : Int)) = w2 := ⟨_, rfl⟩; rw [hw2] at hX2 hg2' ⊢; have HX2 := Jh hX2; have HG2 := Jh hg2'; obtain ⟨_, hcb2, hv2, _⟩ := hX2.ex; rw [HQ.out] at hcb2; rw [HM.out] at hv2; have c0 : w2.cell? ⟨q + 1, 0, none⟩ = some (.int .i64 (L.res : Int)) := hcb2.cell 0; have HDB2 : Hid (DbTab w2) := Jh (HDB.out.below (by rw [ok.qw]; exact hX2.bl)); have HV2 := Jh hv2; clear hX1 hX2 hg2 hg2' hwe hw2 hcb2 hv2 r1 f1 b0; obtain ⟨rs, hrs⟩ : ∃ rs, L.res = rs := ⟨_, rfl⟩; have HRS := Jh hrs; rw [hrs] at c0; clear hrs
  by_cases hr0 : rs = 0
  ·subst hr0; have hdc := Kro T w2 (by omega) HDB2.out; obtain ⟨D, hD⟩ : ∃ D, decC T.data.toList = D := ⟨_, rfl⟩; rw [hD] at hdc; have HDC := Jh hdc; have HDD := Jh hD
   have hRR : R = Kkh st (j + n) D := by
    have hlen : L.C.data.toList.length = C.size := by rw [HC.out]; rfl
    rw [← HR.out, HRS.out, Qbx (by rw [HJ.out, hlen]; exact hfit), HJ.out, show (L.C.data.toList.drop j).take n = T.data.toList by rw [HTD.out, HC.out], HDD.out]
   have HRR := Jh hRR; clear hdc hD hRR
   cases D with
   | none =>
    have hre : R = none := HRR.out.trans rfl; subst hre; go_wp2_with fail
    refine HDC.out.mono ?_; intro e w3 h3; obtain ⟨f, hf, rfl, hb3⟩ := h3; have HB3 := Jh hb3; clear hb3; go_wp2_with fail
    refine (Ktt f hf w3).mono ?_; rintro _ _ ⟨rfl, rfl⟩; unfold Kaq; go_wp2_with fail
    refine Kae rfl ?_; exact ⟨BadE.fault _, PM.bad ⟨_, _, HX2.out.below ok HB3.out⟩⟩
   | some l9 =>
    have hre : R = Kkh st (j + n) (some l9) := HRR.out; subst hre; go_wp2_with fail
    refine HDC.out.mono ?_; intro e w3 h3; obtain ⟨A9, rfl, hE9, hb3⟩ := h3; have hX3 := HX2.out.below ok hb3; have HX3 := Jh hX3; have HE9 := Jh hE9; have HB3 := Jh hb3; clear hX3 hE9 hb3; go_wp2_with fail
    refine (Kur w3).mono ?_; rintro _ _ ⟨rfl, rfl⟩; obtain ⟨_, hcb3, hv3, hl3, hp3, hd3⟩ := HX3.out.ex; rw [HQ.out] at hcb3; rw [HM.out] at hv3; obtain ⟨h9, hh9⟩ : ∃ h9, hs[m]? = some h9 := ⟨hs[m]'(by have := HM.out; omega), List.getElem?_eq_getElem _⟩; have hp9 := hp3 m h9 hh9
    have hcell : w3.cell? ⟨g, m * 3 + 1, none⟩ = some (spV h9) := by
     have h1 := hv3.cells (g := g) rfl (m * 3 + 1) (spV h9) (Klv hs m 1 h9 _ hh9 rfl)
     have ea : (⟨g, 0, none⟩ : Addr).add (m * 3 + 1) = ⟨g, m * 3 + 1, none⟩ := by
      unfold Addr.add; simp
     rw [ea] at h1; exact h1
    have HP9 := Jh hp9; have HV3 := Jh hv3; have HCB3 := Jh hcb3; clear hcb3 hv3 hl3 hp3 hd3 hp9; unfold spV at hcell; have hl120 : l9.length ≤ 120 * n := by have h1 := Qcq HDD.out; rw [show T.data.toList.length = T.size from rfl, HTS.out] at h1; exact h1
    have hjn : j + n ≤ 68719476736 := by omega
    obtain ⟨ib, hib, hz0, hz1, hz2⟩ := info_parts Ktk
    cases A9 with
    | none =>
     have hl0 : l9 = [] := by
      cases l9 with
      | nil => rfl
      | cons x l =>
       obtain ⟨b, off, e, _⟩ := HE9.out.2 (by simp); cases e
     subst hl0; have hsr := HP9.out.sr; go_wp2_with (at_builtin; refine wpList_append_own_none rfl _ _ 55 rfl L.q 102 ib 2 Tryz.underlying55 hib (spV h9) _ _ rfl hsr rfl ?_)
     have hns := HP9.out.ns
     have hsr2 : w3.ownsRow L.q 102 2 (.slice h9.s.A h9.s.n h9.s.c) (st.1[m]!.samples.length + ([] : List Smp).length) (st.1[m]!.samples.flatMap Kbf ++ ([] : List Smp).flatMap Kbf) := by
      have h := hsr; unfold spV at h; simpa using h
     obtain ⟨O', hX5, hg5⟩ := HX3.out.moreS ok HM.out hh9 (s9 := st.1[m]!) rfl hsr2 (Koa w3 _) (.inl rfl) (by simpa using hns); have HX5 := Jh hX5; have HG5 := Jh hg5; obtain ⟨cur, hgb⟩ := Kce HV3.out (r := g) rfl; have hgb4 : Blk w3 g 58 cur := hgb; have hgz := hgb4.lt; have hf4 := hgb4.frozen (m * 3 + 1); clear hX5 hg5 hgb hgb4 hsr hsr2 hns; unfold spV; go_wp2_with fail
     go_end0
     have hlast : st.1.getLast?.getD ⟨[], [], []⟩ = st.1[m]! := Kks (m := m) (by rw [← HL.out]; exact HM.out)
     rename_i heq9
     unfold Kkh at heq9; injection heq9 with heq9; rw [hlast] at heq9; subst heq9; exact ⟨rfl, O', ⟨_, _, HX5.out⟩, by first | exact HG2.out.trans (Grow.below HB3.out HG5.out) | (rw [← HO.out]; exact HG2.out.trans (Grow.below HB3.out HG5.out))⟩
    | some a9 =>
     have hns := (HP.out m h9 hh9).ns; rw [HJ.out] at hns; have hsr := HP9.out.sr; rw [HQ.out] at hsr; have HSR := Jh hsr; have hqz : q ≤ w3.heap.size := by have := HX3.out.f.lt; rw [HQ.out] at this; omega
     obtain ⟨s9, hs9⟩ : ∃ s9, st.1[m]! = s9 := ⟨_, rfl⟩; have hnsb : s9.samples.length ≤ 120 * j := by rw [← hs9]; exact hns
     rw [hs9] at hsr; have HS9 := Jh hs9; clear hs9 hns; go_wp2_with (at_builtin; refine wpList_append_own_at _ rfl _ _ 55 rfl q 102 ib (.agg #[.int .i64 0, .int .u64 0]) 2 16 Tryz.underlying55 hib hz0 hz1 hz2 rfl (by decide) (spV h9) s9.samples.length (s9.samples.flatMap Kbf) rfl hsr a9 l9.length l9.length (l9.flatMap Kbf) rfl ?c0 ?c1 ?c2 ?c3 ?c4 ?c5 ?_)
     case c3 => unfold maxLen; omega
     case c4 => omega
     case c5 => exact hqz
     case c0 => exact Kug l9
     case c1 => exact HE9.out.cellsB (fun x _ => Kil x)
     case c2 =>
      intro u hu; obtain ⟨x, _, hx⟩ := List.mem_flatMap.1 hu; simp [Kbf] at hx; rcases hx with rfl | rfl <;> rfl
     intro v' w4 hown' hgrow _ hat; obtain ⟨A', c', rfl⟩ := Kbo hown'; obtain ⟨cur, hgb⟩ := Kce HV3.out (r := g) rfl; have hrne : some g ≠ (spV h9).ownBlock := Kbx (show Blk w3 g 58 cur from hgb) HSR.out (by decide); have hsame : w4.heap[g]? = w3.heap[g]? := hgrow.block g (HV3.out.lt g rfl).2 hrne; have hgb4 : Blk w4 g 58 cur := hsame.trans hgb; have hown2 : w4.ownsRow L.q 102 2 (.slice A' (s9.samples.length + l9.length) c') (s9.samples.length + l9.length) (s9.samples.flatMap Kbf ++ l9.flatMap Kbf) := by rw [HQ.out]; exact hown'
     obtain ⟨O', hX5, hg5⟩ := HX3.out.moreS ok HM.out hh9 (s9 := s9) HS9.out hown2 hgrow hat (by show _ ≤ 120 * (j + n); omega); have HX5 := Jh hX5; have HG5 := Jh hg5; have hgz := hgb4.lt; have hf4 := hgb4.frozen (m * 3 + 1); have hcell4 : w4.cell? ⟨g, m * 3 + 1, none⟩ = some (.slice h9.s.A h9.s.n h9.s.c) := (World.cell?_of_block hsame).trans hcell; clear hown' hown2 hgrow hat hX5 hg5 hgb hgb4 hsame hrne; go_wp2_with fail
     go_end0
     have hlast : st.1.getLast?.getD ⟨[], [], []⟩ = s9 := (Kks (m := m) (by rw [← HL.out]; exact HM.out)).trans HS9.out
     rename_i heq9
     unfold Kkh at heq9; injection heq9 with heq9; rw [hlast] at heq9; subst heq9; exact ⟨rfl, O', ⟨_, _, HX5.out⟩, by first | exact HG2.out.trans (Grow.below HB3.out HG5.out) | (rw [← HO.out]; exact HG2.out.trans (Grow.below HB3.out HG5.out))⟩
  ·have hac := Krj T w2 (by omega); obtain ⟨D, hD⟩ : ∃ D, aggR T.data.toList = D := ⟨_, rfl⟩; rw [hD] at hac; have HAC := Jh hac; have HDD := Jh hD
   have hRR : R = Kkb st (j + n) D := by
    have hlen : L.C.data.toList.length = C.size := by rw [HC.out]; rfl
    rw [← HR.out, HRS.out, Qay hr0 (by rw [HJ.out, hlen]; exact hfit), HJ.out, show (L.C.data.toList.drop j).take n = T.data.toList by rw [HTD.out, HC.out], HDD.out]
   have HRR := Jh hRR; have er : ((rs : Int) == 0) = false := by rw [beq_eq_false_iff_ne]; omega
   have er2 : decide ((rs : Int) = 0) = false := by rw [decide_eq_false_iff_not]; omega
   have er3 : ((rs : Int) != 0) = true := by rw [bne_iff_ne]; omega
   clear hac hD hRR
   cases D with
   | none =>
    have hre : R = none := HRR.out.trans rfl; subst hre; go_wp2_with fail
    refine HAC.out.mono ?_; intro e w3 h3; obtain ⟨f, hf, rfl, hb3⟩ := h3; have HB3 := Jh hb3; clear hb3; go_wp2_with fail
    refine (Ktt f hf w3).mono ?_; rintro _ _ ⟨rfl, rfl⟩; unfold Kaq; go_wp2_with fail
    refine Kae rfl ?_; exact ⟨BadE.fault _, PM.bad ⟨_, _, HX2.out.below ok HB3.out⟩⟩
   | some l9 =>
    have hre : R = Kkb st (j + n) (some l9) := HRR.out; subst hre; go_wp2_with fail
    refine HAC.out.mono ?_; intro e w3 h3; obtain ⟨v9, rfl, hE9, hb3⟩ := h3; have hX3 := HX2.out.below ok hb3; have HX3 := Jh hX3; have HE9 := Jh hE9; have HB3 := Jh hb3; clear hX3 hE9 hb3; go_wp2_with fail
    refine (Kur w3).mono ?_; rintro _ _ ⟨rfl, rfl⟩; obtain ⟨_, hcb3, hv3, hl3, hp3, hd3⟩ := HX3.out.ex; rw [HQ.out] at hcb3; rw [HM.out] at hv3; obtain ⟨h9, hh9⟩ : ∃ h9, hs[m]? = some h9 := ⟨hs[m]'(by have := HM.out; omega), List.getElem?_eq_getElem _⟩; have hp9 := hp3 m h9 hh9
    have hcell : w3.cell? ⟨g, m * 3 + 2, none⟩ = some (wpV h9) := by
     have h1 := hv3.cells (g := g) rfl (m * 3 + 2) (wpV h9) (Klv hs m 2 h9 _ hh9 rfl)
     have ea : (⟨g, 0, none⟩ : Addr).add (m * 3 + 2) = ⟨g, m * 3 + 2, none⟩ := by
      unfold Addr.add; simp
     rw [ea] at h1; exact h1
    have HP9 := Jh hp9; have HV3 := Jh hv3; have HCB3 := Jh hcb3; clear hcb3 hv3 hl3 hp3 hd3 hp9; unfold wpV at hcell; have hl9 : l9.length ≤ n := by have h1 := Ksr HDD.out; rw [show T.data.toList.length = T.size from rfl, HTS.out] at h1; exact h1
    have hjn : j + n ≤ 68719476736 := by omega
    obtain ⟨ib, hib, hz0, hz1, hz2⟩ := info_parts Kun; rcases HE9.out.2 with ⟨hv9, h0⟩ | ⟨g9, cap9, cur9, hv9, _⟩
    ·subst hv9; have hl0 : l9 = [] := List.eq_nil_of_length_eq_zero h0; subst hl0; have hsr := HP9.out.wr; go_wp2_with (at_builtin; refine wpList_append_own_none rfl _ _ 56 rfl L.q 135 ib 6 Tryz.underlying56 hib (wpV h9) _ _ rfl hsr rfl ?_)
     have hns := HP9.out.nw
     have hsr2 : w3.ownsRow L.q 135 6 (.slice h9.w.A h9.w.n h9.w.c) (st.1[m]!.windows.length + ([] : List Wnd).length) (st.1[m]!.windows.flatMap Kaw ++ ([] : List Wnd).flatMap Kaw) := by
      have h := hsr; unfold wpV at h; simpa using h
     obtain ⟨O', hX5, hg5⟩ := HX3.out.moreW ok HM.out hh9 (s9 := st.1[m]!) rfl hsr2 (Koa w3 _) (.inl rfl) (by simpa using hns); have HX5 := Jh hX5; have HG5 := Jh hg5; obtain ⟨cur, hgb⟩ := Kce HV3.out (r := g) rfl; have hgb4 : Blk w3 g 58 cur := hgb; have hgz := hgb4.lt; have hf4 := hgb4.frozen (m * 3 + 2); clear hX5 hg5 hgb hgb4 hsr hsr2 hns; unfold wpV; go_wp2_with fail
     go_end0
     have hlast : st.1.getLast?.getD ⟨[], [], []⟩ = st.1[m]! := Kks (m := m) (by rw [← HL.out]; exact HM.out)
     rename_i heq9
     unfold Kkb at heq9; injection heq9 with heq9; rw [hlast] at heq9; subst heq9; exact ⟨rfl, O', ⟨_, _, HX5.out⟩, by first | exact HG2.out.trans (Grow.below HB3.out HG5.out) | (rw [← HO.out]; exact HG2.out.trans (Grow.below HB3.out HG5.out))⟩
    ·subst hv9; have hns := (HP.out m h9 hh9).nw; rw [HJ.out] at hns; have hsr := HP9.out.wr; rw [HQ.out] at hsr; have HSR := Jh hsr; have hqz : q ≤ w3.heap.size := by have := HX3.out.f.lt; rw [HQ.out] at this; omega
     obtain ⟨s9, hs9⟩ : ∃ s9, st.1[m]! = s9 := ⟨_, rfl⟩; have hnsb : s9.windows.length ≤ j := by rw [← hs9]; exact hns
     rw [hs9] at hsr; have HS9 := Jh hs9; clear hs9 hns; go_wp2_with (at_builtin; refine wpList_append_own_at _ rfl _ _ 56 rfl q 135 ib (.agg #[.int .i64 0, .int .i64 0, .int .u64 0, .int .u64 0, .int .u64 0, .int .u64 0]) 6 48 Tryz.underlying56 hib hz0 hz1 hz2 rfl (by decide) (wpV h9) s9.windows.length (s9.windows.flatMap Kaw) rfl hsr ⟨g9, 0, none⟩ l9.length cap9 (l9.flatMap Kaw) rfl ?c0 ?c1 ?c2 ?c3 ?c4 ?c5 ?_)
     case c3 => unfold maxLen; omega
     case c4 => omega
     case c5 => exact hqz
     case c0 => exact Ksf l9
     case c1 => exact HE9.out.cells (g := g9) rfl
     case c2 =>
      intro u hu; obtain ⟨x, _, hx⟩ := List.mem_flatMap.1 hu; simp [Kaw] at hx; rcases hx with rfl | rfl | rfl | rfl | rfl | rfl <;> rfl
     intro v' w4 hown' hgrow _ hat; obtain ⟨A', c', rfl⟩ := Kbo hown'; obtain ⟨cur, hgb⟩ := Kce HV3.out (r := g) rfl; have hrne : some g ≠ (wpV h9).ownBlock := Kbx (show Blk w3 g 58 cur from hgb) HSR.out (by decide); have hsame : w4.heap[g]? = w3.heap[g]? := hgrow.block g (HV3.out.lt g rfl).2 hrne; have hgb4 : Blk w4 g 58 cur := hsame.trans hgb; have hown2 : w4.ownsRow L.q 135 6 (.slice A' (s9.windows.length + l9.length) c') (s9.windows.length + l9.length) (s9.windows.flatMap Kaw ++ l9.flatMap Kaw) := by rw [HQ.out]; exact hown'
     obtain ⟨O', hX5, hg5⟩ := HX3.out.moreW ok HM.out hh9 (s9 := s9) HS9.out hown2 hgrow hat (by show _ ≤ j + n; omega); have HX5 := Jh hX5; have HG5 := Jh hg5; have hgz := hgb4.lt; have hf4 := hgb4.frozen (m * 3 + 2); have hcell4 : w4.cell? ⟨g, m * 3 + 2, none⟩ = some (.slice h9.w.A h9.w.n h9.w.c) := (World.cell?_of_block hsame).trans hcell; clear hown' hown2 hgrow hat hX5 hg5 hgb hgb4 hsame hrne; go_wp2_with fail
     go_end0
     have hlast : st.1.getLast?.getD ⟨[], [], []⟩ = s9 := (Kks (m := m) (by rw [← HL.out]; exact HM.out)).trans HS9.out
     rename_i heq9
     unfold Kkb at heq9; injection heq9 with heq9; rw [hlast] at heq9; subst heq9; exact ⟨rfl, O', ⟨_, _, HX5.out⟩, by first | exact HG2.out.trans (Grow.below HB3.out HG5.out) | (rw [← HO.out]; exact HG2.out.trans (Grow.below HB3.out HG5.out))⟩
 ·have hw1 : IntKind.u64.wrap ((C.size : Int) + 1) = (C.size : Int) + 1 := by rw [IntKind.wrap_u64]; omega
  have hre : R = none := by
   have hlen : L.C.data.toList.length = C.size := by rw [HC.out]; rfl
   rw [← HR.out]; unfold partP; rw [if_neg (by rw [HJ.out, hlen]; exact hfit)]
  subst hre; obtain ⟨mn, hmn⟩ : ∃ mn, min (n : Int) ((C.size : Int) + 1) = mn := ⟨_, rfl⟩; have hmnn : 0 ≤ mn ∧ mn ≤ (C.size : Int) + 1 ∧ (C.size : Int) < (j : Int) + mn := by omega
  go_enter Tryz.func83, Tryz.ntmps83
  go_upto_region 1 with fail
  refine Kag 23 (by kernel_rfl) (by kernel_rfl) ?_; simp only [List.take_succ_cons, List.take_zero, List.drop_succ_cons, List.drop_zero]
  repeat (go_big_quiet_step (fail))
  refine wpQuiet_nil ?_; rintro w1 ⟨⟨_, hb1⟩, rfl⟩; obtain ⟨hm0, hm1, hm2⟩ := hmnn; obtain ⟨tt, xx, w2, hrun, hb2⟩ := Kpb (P := Tryz.prog) 9 C Tryz.underlying9 (j : Int) ((j : Int) + mn) hm2 w1; have HB12 := Jh (then_ hb1 hb2); clear hb1 hb2 hm0 hm1 hm2 hmn; go_wp2_with fail
  refine Kae rfl ?_; exact ⟨⟨_, _, rfl⟩, PM.bad ⟨_, _, H.out.below ok HB12.out⟩⟩
end
section
open Go.RowKit
open List renaming length_append → Jd
theorem Kwf (c : Int) : (Kcc c).length ≤ 68 := by
 unfold Kcc
 repeat' split
 all_goals simp [Kar]
theorem Kva (c : Cst) (x : Nat) : (Kbh c x).1.length ≤ 77 := by
 unfold Kbh
 repeat' split
 all_goals simp [Kar]
 all_goals omega
theorem Kwa (c : Cst) (s : Smp) : (Kbg c s).1.length ≤ 145 := by
 unfold Kbg
 split
 ·simp [Kar]
 ·have h1 := Kwf (s.t - c.last.t - c.step); have h2 := Kva { c with step := s.t - c.last.t } (s.v ^^^ c.last.v); simp only [Jd]; omega
theorem Kjr : ∀ (l : List Smp) (c : Cst), (Kbl c l).length ≤ 145 * l.length
 | [], _ => Nat.le_refl _
 | s :: l, c => by
  have h1 := Kwa c s; have h2 := Kjr l (Kbg c s).2; rw [Kbl, Jd, List.length_cons]; omega
theorem Kyc (p : List Smp) : (Kcd p).length ≤ 12 + 19 * p.length := by
 unfold Kcd; have h1 := (Kab p.length).2; have h2 := (Keu (Kbl cst0 p)).len; have h3 := Kjr p cst0; rw [Jd]; omega
theorem Kqw : ∀ (l : List Wnd) (a : Wnd), (wndsT a l).length ≤ 66 * l.length
 | [], _ => Nat.le_refl _
 | w :: l, a => by
  have h := Kqw l w; have h1 := (Kab (w.start - a.start).toNat).2; have h2 := (Kab w.count.toNat).2; have h3 := (Kab (w.sum ^^^ a.sum)).2; have h4 := (Kab (w.min ^^^ a.min)).2; have h5 := (Kab (w.max ^^^ a.max)).2; have h6 := (Kab (w.last ^^^ a.last)).2; rw [wndsT]; unfold wndT; simp only [Jd, List.length_cons]; omega
theorem Qbc (l : List Wnd) : (aggsT l).flatten.length ≤ 77 * l.length := by
 cases l with
 | nil => simp [aggsT]
 | cons w l =>
  have h1 := (Kab (w :: l).length).2; have h2 := Kqw (w :: l) wnd0; have e : (aggsT (w :: l)).flatten = uintT (w :: l).length ++ wndsT wnd0 (w :: l) := by simp [aggsT, aggT]
  rw [e, Jd]; rw [List.length_cons] at *; omega
theorem Kgy : ∀ (f : Nat) (l : List Smp), ((Kbq f l).map Kcd).flatten.length ≤ 31 * l.length
 | 0, l => by simp [Kbq]
 | f + 1, [] => by simp [Kbq]
 | f + 1, x :: l => by
  have h1 := Kyc ((x :: l).take 120); have h2 := Kgy f ((x :: l).drop 120); have h3 : ((x :: l).take 120).length = min 120 (l.length + 1) := by rw [List.length_take, List.length_cons]
  have h4 : ((x :: l).drop 120).length = l.length + 1 - 120 := by rw [List.length_drop, List.length_cons]
  rw [Kbq, List.map_cons, List.flatten_cons, Jd, List.length_cons]; omega
theorem Khi (s : Ser) : (Kak s).flatten.length ≤ 31 * s.samples.length + 77 * s.windows.length := by
 unfold Kak; rw [List.flatten_append, Jd]; have h1 := Kgy s.samples.length s.samples; have h2 := Qbc s.windows; omega
theorem Kzg {P : List (List UInt8)} {p : List UInt8} (h : p ∈ P) : p.length ≤ P.flatten.length := by
 induction P with
 | nil => simp at h
 | cons q P ih =>
  rw [List.flatten_cons, Jd]; rcases List.mem_cons.1 h with rfl | h
  ·omega
  ·have := ih h; omega
theorem Ksu (P : List (List UInt8)) : (lensT P).length ≤ 11 * P.length := by
 induction P with
 | nil => simp [lensT]
 | cons p P ih =>
  have h := (Kab p.length).2; have e : lensT (p :: P) = uintT p.length ++ lensT P := rfl; rw [e, Jd, List.length_cons]; omega
theorem Klk (s : Ser) : (Kak s).length ≤ s.samples.length + 1 := by
 have a1 := Kdr s.samples.length s.samples; have a2 : (aggsT s.windows).length ≤ 1 := by cases s.windows <;> simp [aggsT]
 unfold Kak; rw [Jd, List.length_map]; omega
def smpsN (l : List Ser) : Nat := (l.map fun s => s.samples.length).sum
def wndsN (l : List Ser) : Nat := (l.map fun s => s.windows.length).sum
theorem Kjg (a b : List Ser) : smpsN (a ++ b) = smpsN a + smpsN b := by simp [smpsN]
theorem Kkj (a b : List Ser) : wndsN (a ++ b) = wndsN a + wndsN b := by simp [wndsN]
theorem Khb {l : List Ser} {s : Ser} (h : s ∈ l) : s.samples.length ≤ smpsN l ∧ s.windows.length ≤ wndsN l := by
 induction l with
 | nil => simp at h
 | cons x l ih =>
  simp only [smpsN, wndsN, List.map_cons, List.sum_cons] at *; rcases List.mem_cons.1 h with rfl | h
  ·omega
  ·have := ih h; omega
theorem Kls : ∀ l : List Ser, (l.flatMap fun s => (Kak s).flatten).length ≤ 31 * smpsN l + 77 * wndsN l
 | [] => by simp [smpsN, wndsN]
 | s :: l => by
  have h1 := Khi s; have h2 := Kls l; simp only [smpsN, wndsN, List.map_cons, List.sum_cons, List.flatMap_cons, Jd] at *; omega
theorem Qdu (t : List Txt) (s : Ser) (h : s.labels.length ≤ 8) : (serT t s).length ≤ 209 + 11 * s.samples.length := by
 unfold serT; rw [Jd, Jd]; have h1 := Qai t s.labels; have h2 := (Kab (Kak s).length).2; have h3 := Ksu (Kak s); have h4 := Klk s; omega
theorem Kpr (t : List Txt) : ∀ l : List Ser, (∀ s ∈ l, s.labels.length ≤ 8) → (l.flatMap (serT t)).length ≤ 209 * l.length + 11 * smpsN l
 | [], _ => by simp [smpsN]
 | s :: l, h => by
  have h1 := Qdu t s (h s (by simp)); have h2 := Kpr t l (fun x hx => h x (by simp [hx])); simp only [smpsN, List.map_cons, List.sum_cons, List.flatMap_cons, Jd, List.length_cons] at *; omega
theorem Kfl (m : Nat) : ∀ l : List Txt, (∀ x ∈ l, x.length ≤ m) → (l.flatMap textT).length ≤ (11 + m) * l.length
 | [], _ => by simp
 | x :: l, h => by
  have h1 := h x (by simp); have h2 := Kfl m l (fun y hy => h y (by simp [hy])); have h3 := (Kab x.length).2; rw [List.flatMap_cons, Jd, List.length_cons, Nat.mul_succ]; unfold textT at *; rw [Jd]; omega
theorem Kjw (l : List Txt) : (Lib.compact l).length ≤ l.length := by
 unfold Lib.compact Lib.compactUpTo; rw [List.length_map]; exact Nat.le_trans (List.length_filter_le _ _) (by rw [List.length_range]; exact Nat.le_refl _)
theorem Krw : ∀ S : List (List Lb), (∀ l ∈ S, l.length ≤ 8) → (allS S).length ≤ 16 * S.length
 | [], _ => by simp [allS]
 | l :: S, h => by
  have h1 := h l (by simp); have h2 := Krw S (fun x hx => h x (by simp [hx]))
  have h3 : (texts l).length = 2 * l.length := by
   clear h1 h2 h
   induction l with
   | nil => rfl
   | cons x l ih => simp [texts] at *; omega
  unfold allS at *; rw [List.flatMap_cons, Jd, List.length_cons]; omega
theorem Qdk {l : List Lb} {x : Txt} (h : x ∈ texts l) : ∃ y ∈ l, x = y.n ∨ x = y.v := by
 unfold texts at h; obtain ⟨y, hy, hx⟩ := List.mem_flatMap.1 h; refine ⟨y, hy, ?_⟩; simpa using hx
def Keo (S : List (List Lb)) : Prop := ∀ l ∈ S, l.length ≤ 8 ∧ ∀ y ∈ l, y.n.length ≤ 32 ∧ y.v.length ≤ 64
theorem Kib {S : List (List Lb)} (h : Keo S) : (tabOf S).length ≤ 16 * S.length ∧ ∀ x ∈ tabOf S, x.length ≤ 64 := by
 refine ⟨?_, fun x hx => ?_⟩
 ·refine Nat.le_trans (Kjw _) ?_; rw [List.length_mergeSort]; exact Krw S fun l hl => (h l hl).1
 ·have h1 := ((Kdy S).2 x).1 hx; obtain ⟨l, hl, hx⟩ := List.mem_flatMap.1 h1; obtain ⟨y, hy, hh⟩ := Qdk hx; have := (h l hl).2 y hy; rcases hh with rfl | rfl <;> omega
theorem Kwn {S : List (List Lb)} (h : Keo S) : (tabT (tabOf S)).length ≤ 11 + 1200 * S.length := by
 obtain ⟨h1, h2⟩ := Kib h; have h3 := Kfl 64 (tabOf S) h2; have h4 := (Kab (tabOf S).length).2; unfold tabT; rw [Jd]; omega
theorem Kmf (x : Lb) : ∀ l : List Lb, (insK x l).length ≤ l.length + 1
 | [] => Nat.le_refl _
 | y :: l => by
  rw [insK]
  split
  ·simp
  ·split
   ·have := Kmf x l; simp only [List.length_cons]; omega
   ·simp
theorem Kni {S : List (List Lb)} (h : Keo S) : (keysOf S).length ≤ 8 * S.length := by
 have h1 : ∀ l : List Lb, (l.foldr insK []).length ≤ l.length := by
  intro l
  induction l with
  | nil => exact Nat.le_refl _
  | cons y l ih => rw [List.foldr_cons, List.length_cons]; exact Nat.le_trans (Kmf y _) (by omega)
 refine Nat.le_trans (h1 _) ?_
 induction S with
 | nil => simp
 | cons l S ih =>
  have := (h l (by simp)).1; have := ih (fun x hx => h x (by simp [hx])); rw [List.flatten_cons, Jd, List.length_cons]; omega
theorem Kgq {S : List (List Lb)} (h : Keo S) : ∀ x ∈ keysOf S, x.n.length ≤ 32 ∧ x.v.length ≤ 64 := fun x hx => by
 obtain ⟨l, hl, hm⟩ := ((Kee S).2 x).1 hx; exact (h l hl).2 x hm
theorem Klx : ∀ (l K : List Lb), K.Nodup → (K.filter fun x => decide (x ∈ l)).length ≤ l.length
 | [], K, _ => by simp
 | a :: l, K, hK => by
  have h1 := Klx l K hK
  have h2 : ∀ K : List Lb, K.Nodup → (K.filter fun x => decide (x ∈ a :: l)).length ≤ (K.filter fun x => decide (x ∈ l)).length + (if a ∈ K then 1 else 0) := by
   intro K
   induction K with
   | nil => intro _; simp
   | cons y K ih =>
    intro hn; have hc := List.nodup_cons.1 hn; have ih := ih hc.2
    by_cases hya : y = a
    ·subst hya; rw [if_neg hc.1] at ih; rw [if_pos (by simp), List.filter_cons_of_pos (by simp), List.length_cons]; rw [List.filter_cons]
     split
     ·rw [List.length_cons]; omega
     ·omega
    ·have e : decide (y ∈ a :: l) = decide (y ∈ l) := by simp [hya]
     have e2 : (a ∈ y :: K) ↔ a ∈ K := by simp [Ne.symm hya]
     rw [List.filter_cons, List.filter_cons, e]; simp only [e2]
     split
     ·simp only [List.length_cons]; omega
     ·omega
  have h3 := h2 K hK; rw [List.length_cons]
  split at h3 <;> omega
theorem Qbs (K : List Lb) (hK : K.Nodup) : ∀ (n : Nat) (S : List (List Lb)), S.length = n → (∀ l ∈ S, l.length ≤ 8) → (K.map fun x => (Kaj S x).length).sum ≤ 8 * S.length := by
 intro n
 induction n with
 | zero =>
  intro S h _; have h0 : S = [] := List.eq_nil_of_length_eq_zero h; subst h0
  have : ∀ K : List Lb, (K.map fun x => (Kaj [] x).length).sum = 0 := by
   intro K
   induction K with
   | nil => rfl
   | cons y K ih => rw [List.map_cons, List.sum_cons, ih]; rfl
  rw [this]; exact Nat.zero_le _
 | succ n ih =>
  intro S h h8; have hne : S ≠ [] := by intro e; rw [e] at h; cases h
  obtain ⟨T, l, rfl⟩ : ∃ T l, S = T ++ [l] := ⟨S.dropLast, S.getLast hne, (List.dropLast_concat_getLast hne).symm⟩; have h1 := ih T (by rw [Jd, List.length_singleton] at h; omega) (fun x hx => h8 x (by simp [hx])); have h2 := h8 l (by simp); have h3 := Klx l K hK
  have e : ∀ K : List Lb, (K.map fun x => (Kaj (T ++ [l]) x).length).sum = (K.map fun x => (Kaj T x).length).sum + (K.filter fun x => decide (x ∈ l)).length := by
   intro K
   induction K with
   | nil => rfl
   | cons y K ih =>
    rw [List.map_cons, List.sum_cons, List.map_cons, List.sum_cons, ih, Kgl, List.filter_cons]
    by_cases hy : y ∈ l
    ·rw [if_pos hy, if_pos (decide_eq_true hy), Jd, List.length_cons]; simp; omega
    ·rw [if_neg hy, if_neg (by simpa using hy)]; omega
  rw [e, Jd, List.length_singleton]; omega
theorem Koe : ∀ (l : List Nat) (a : Nat), (Kbw a l).length ≤ 11 * l.length
 | [], _ => by simp [Kbw]
 | x :: l, a => by
  have h := Koe l x; have h1 := (Kab (x - a)).2; rw [Kbw, Jd, List.length_cons]; omega
theorem Kte (S : List (List Lb)) (x : Lb) (h : x.n.length ≤ 32 ∧ x.v.length ≤ 64) : (keyT S x).length ≤ 129 + 11 * (Kaj S x).length := by
 have h1 := (Kab x.n.length).2; have h2 := (Kab x.v.length).2; have h3 := (Kab (Kaj S x).length).2; have h4 := Koe (Kaj S x) 0; unfold keyT textT postT; simp only [Jd]; omega
theorem Kod {S : List (List Lb)} (h : Keo S) : (Kbi S).length ≤ 11 + 1120 * S.length := by
 have h1 := (Kab (keysOf S).length).2; have h2 := Kni h; have h3 := Qbs (keysOf S) ((Kee S).1.imp fun hab e => by subst e; exact Kdx _ hab) S.length S rfl (fun l hl => (h l hl).1)
 have h4 : ∀ K : List Lb, (∀ x ∈ K, x.n.length ≤ 32 ∧ x.v.length ≤ 64) → (K.flatMap (keyT S)).length ≤ 129 * K.length + 11 * (K.map fun x => (Kaj S x).length).sum := by
  intro K
  induction K with
  | nil => intro _; simp
  | cons y K ih =>
   intro hk; have k1 := Kte S y (hk y (by simp)); have k2 := ih (fun x hx => hk x (by simp [hx])); rw [List.flatMap_cons, Jd, List.length_cons, List.map_cons, List.sum_cons]; omega
 have h5 := h4 (keysOf S) (Kgq h); unfold Kbi; rw [Jd]; omega
theorem Khc {c : Cont} (h : fitB c = true) : Keo (Kad c) := by
 intro l hl; obtain ⟨s, hs, rfl⟩ := List.mem_map.1 hl; have := Kfo ((Kew.1 h).2.2.2.2.2.1 s hs).1; exact ⟨this.2.2.1, this.2.2.2.1⟩
theorem Kps {c : Cont} (h : fitB c = true) : (metaB c).length ≤ 33 ∧ (Kch c).length ≤ 31 * smpsN c.series + 77 * wndsN c.series ∧ (Kbd c).length ≤ 33 + 2529 * c.series.length + 11 * smpsN c.series := by
 have hs := Khc h; have hn : (Kad c).length = c.series.length := by simp [Kad]
 refine ⟨?_, Kls c.series, ?_⟩
 ·have h1 := (Kab c.res.toNat).2; have h2 : (intT c.frm).length ≤ 11 := (Kab _).2; have h3 : (intT c.to_).length ≤ 11 := (Kab _).2; unfold metaB; simp only [Jd]; omega
 ·have h1 := Kwn hs; have h2 := (Kab c.series.length).2; have h3 := Kpr (tabOf (Kad c)) c.series (fun s hx => (hs s.labels (List.mem_map.2 ⟨s, hx, rfl⟩)).1); have h4 := Kod hs; unfold Kbd; simp only [Jd]; omega
theorem Kxb {c : Cont} (h : fitB c = true) (hv : ∀ s ∈ c.series, (∀ x ∈ s.samples, x.v < 2 ^ 64) ∧ ∀ w ∈ s.windows, Kay w) (hn : c.series.length ≤ 1099511627776) (hs : smpsN c.series ≤ 1099511627776) (hw : wndsN c.series ≤ 1099511627776) : Kdn c := by
 have hso := Khc h; have ht := Kib hso; have hl : (Kad c).length = c.series.length := by simp [Kad]
 refine ⟨fun s hx => ⟨(hv s hx).1, (hv s hx).2, ?_, ?_⟩, by omega, fun x hx => ?_, by omega, fun s hx p hp => ?_⟩
 ·have := (Khb hx).1; omega
 ·have := (Khb hx).2; omega
 ·have := ht.2 x hx; omega
 ·have h1 := Kzg hp; have h2 := Khi s; have h3 := Khb hx; omega
end
section
open Go.RowKit
theorem Kzu {s : List UInt8} {l : List Smp} (h : decC s = some l) : l.length ≤ 120 ∧ 0 < s.length ∧ ∀ x ∈ l, x.v < 2 ^ 64 := by
 unfold decC at h
 split at h
 ·rename_i h1
  injection h with h; subst h; exact ⟨(Kkr s).2, List.length_pos_iff.2 (Kmh h1.1), (Kkr s).1⟩
 ·cases h
theorem Qaf {a : Wnd} {first : Bool} {s : List UInt8} {i j : Nat} {w : Wnd} (h : wndR a first s i = some (w, j)) (ha : Kay a) : Kay w := by
 have hx : ∀ {x y : Nat}, x < 2 ^ 64 → y < 2 ^ 64 → x ^^^ y < 2 ^ 64 := fun h1 h2 => Nat.xor_lt_two_pow h1 h2
 unfold wndR at h
 split at h
 ·cases h
 split at h
 ·cases h
 split at h
 ·cases h
 rename_i h3
 split at h
 ·cases h
 rename_i h4
 split at h
 ·cases h
 rename_i h5
 split at h
 ·cases h
 rename_i h6
 split at h
 ·injection h with h; injection h with h _; subst h; exact ⟨hx ha.1 (Kdu h3), hx ha.2.1 (Kdu h4), hx ha.2.2.1 (Kdu h5), hx ha.2.2.2 (Kdu h6)⟩
 ·cases h
theorem Kob (s : List UInt8) : ∀ (n : Nat) (a : Wnd) (first : Bool) (i : Nat) {l : List Wnd} {j : Nat}, wndsR s n a first i = some (l, j) → Kay a → ∀ w ∈ l, Kay w
 | 0, a, first, i, l, j, h, _ => by
  injection h with h; injection h with h1 h2; subst h1; simp
 | n + 1, a, first, i, l, j, h, ha => by
  rw [wndsR] at h
  split at h
  ·cases h
  rename_i h1
  split at h
  ·cases h
  rename_i h2
  injection h with h; injection h with h3 h4; subst h3; have hb := Qaf h1 ha; intro w hw; rcases List.mem_cons.1 hw with rfl | hw
  ·exact hb
  ·exact Kob s n _ _ _ h2 hb w hw
theorem Qab {s : List UInt8} {l : List Wnd} (h : aggR s = some l) : ∀ w ∈ l, Kay w := by
 unfold aggR at h
 split at h
 ·cases h
 split at h
 ·cases h
 rename_i h2
 split at h
 ·injection h with h; subst h; exact Kob s _ _ _ _ h2 ⟨by decide, by decide, by decide, by decide⟩
 ·cases h
section
variable {σ : Type} {each : σ → List Lb → σ} {part : σ → Nat → Option σ} {I : List UInt8} (P : σ → Nat → Prop)
theorem Kol (hmono : ∀ s i j, P s i → i ≤ j → j ≤ I.length → P s j) (hp : ∀ s i n s', P s i → n < 2 ^ 64 → part s n = some s' → P s' i) : ∀ (k : Nat) {s s' : σ} {i j : Nat}, P s i → i ≤ I.length → Kdt part I k s i = some (s', j) → P s' j ∧ i ≤ j ∧ j ≤ I.length
 | 0, s, s', i, j, h, hi, he => by
  injection he with he; injection he with h1 h2; subst h1 h2; exact ⟨h, Nat.le_refl _, hi⟩
 | k + 1, s, s', i, j, h, hi, he => by
  rw [Kdt] at he
  split at he
  ·cases he
  rename_i hr
  split at he
  ·cases he
  rename_i hpp
  have k1 := Kbr hi hr; have := Kol hmono hp k (hp _ _ _ _ (hmono _ _ _ h (by omega) k1.2) (Kdu hr) hpp) k1.2 he; exact ⟨this.1, by omega, this.2.2⟩
theorem Ktx (hmono : ∀ s i j, P s i → i ≤ j → j ≤ I.length → P s j) (heach : ∀ s i j l, P s i → i < j → j ≤ I.length → LabOk l → P (each s l) j) (hp : ∀ s i n s', P s i → n < 2 ^ 64 → part s n = some s' → P s' i) (t : List Txt) :
  ∀ (g : Nat) {s s' : σ} {i j : Nat}, P s i → i ≤ I.length → serG each part t I g s i = some (s', j) → P s' j ∧ i ≤ j ∧ j ≤ I.length
 | 0, s, s', i, j, h, hi, he => by
  injection he with he; injection he with h1 h2; subst h1 h2; exact ⟨h, Nat.le_refl _, hi⟩
 | g + 1, s, s', i, j, h, hi, he => by
  rw [serG] at he
  split at he
  ·cases he
  rename_i h0
  obtain ⟨l, p, e, hu⟩ : ∃ l p e, unpR t I (i : Int) = (l, p, e) := ⟨_, _, _, rfl⟩; rw [hu] at he h0; have h0' : e = 0 := by simpa using h0
  subst h0'; dsimp only at he
  split at he
  ·cases he
  rename_i hr
  split at he
  ·cases he
  rename_i hs
  have k0 := Ksm hu hi; have k1 := Kbr k0.2 hr; have k2 := Kol P hmono hp _ (hmono _ _ _ (heach _ _ _ _ h k0.1 k0.2 (Kwv hu)) (by omega) k1.2) k1.2 hs; have k3 := Ktx hmono heach hp t g k2.1 k2.2.2 he; exact ⟨k3.1, by omega, k3.2.2⟩
theorem Kid (hmono : ∀ s i j, P s i → i ≤ j → j ≤ I.length → P s j) (heach : ∀ s i j l, P s i → i < j → j ≤ I.length → LabOk l → P (each s l) j) (hp : ∀ s i n s', P s i → n < 2 ^ 64 → part s n = some s' → P s' i)
  {s s' : σ} {j : Nat} (h : P s 0) (he : Kcv each part I s = some (s', j)) : P s' j ∧ j ≤ I.length := by
 unfold Kcv at he
 split at he
 ·cases he
 split at he
 ·cases he
 rename_i hr
 have k1 := Kgr hr; have := Ktx P hmono heach hp _ _ (hmono _ _ _ h (Nat.zero_le _) k1) k1 he; exact ⟨this.1, this.2.2⟩
end
structure Kfg (C : List UInt8) (st : List Ser × Nat) : Prop where
 s : smpsN st.1 ≤ 120 * st.2
 w : wndsN st.1 ≤ st.2
 j : st.2 ≤ C.length
 each : ∀ s ∈ st.1, LabOk s.labels ∧ (∀ x ∈ s.samples, x.v < 2 ^ 64) ∧ ∀ w ∈ s.windows, Kay w
theorem Kfg.new {C : List UInt8} {st : List Ser × Nat} (h : Kfg C st) {l : List Lb} (hl : LabOk l) : Kfg C (eachP st l) := by
 refine ⟨?_, ?_, h.j, fun s hs => ?_⟩
 ·show smpsN (st.1 ++ [_]) ≤ 120 * st.2
  rw [Kjg]; have := h.s; simpa [smpsN] using this
 ·show wndsN (st.1 ++ [_]) ≤ st.2
  rw [Kkj]; have := h.w; simpa [wndsN] using this
 ·rcases List.mem_append.1 hs with h1 | h1
  ·exact h.each s h1
  ·rw [List.mem_singleton.1 h1]; exact ⟨hl, by simp, by simp⟩
theorem Qas (l : List Ser) : smpsN l.dropLast + (l.getLast?.getD ⟨[], [], []⟩).samples.length = smpsN l ∧ wndsN l.dropLast + (l.getLast?.getD ⟨[], [], []⟩).windows.length = wndsN l ∧ (l.getLast?.getD ⟨[], [], []⟩ ∈ l ∨ l.getLast?.getD ⟨[], [], []⟩ = ⟨[], [], []⟩) := by
 rcases List.eq_nil_or_concat l with rfl | ⟨T, x, rfl⟩
 ·simp [smpsN, wndsN]
 ·simp [smpsN, wndsN]
theorem Kfg.part {C : List UInt8} {res : Nat} {st st' : List Ser × Nat} (h : Kfg C st) {n : Nat} (hp : partP res C st n = some st') : Kfg C st' := by
 unfold partP at hp
 split at hp
 rotate_left
 ·cases hp
 rename_i hn
 obtain ⟨k1, k2, k3⟩ := Qas st.1; obtain ⟨a, ha⟩ : ∃ a, st.1.getLast?.getD ⟨[], [], []⟩ = a := ⟨_, rfl⟩; rw [ha] at hp k1 k2 k3
 have hlast : LabOk a.labels ∧ (∀ x ∈ a.samples, x.v < 2 ^ 64) ∧ ∀ w ∈ a.windows, Kay w := by
  rcases k3 with k3 | rfl
  ·exact h.each a k3
  ·exact ⟨⟨by simp, by simp, List.Pairwise.nil⟩, by simp, by simp⟩
 have hold : ∀ s ∈ st.1.dropLast, LabOk s.labels ∧ (∀ x ∈ s.samples, x.v < 2 ^ 64) ∧ ∀ w ∈ s.windows, Kay w := fun s hs => h.each s (List.dropLast_subset _ hs)
 have hs1 := h.s; have hw1 := h.w; have htk : ((C.drop st.2).take n).length = n := by rw [List.length_take, List.length_drop]; omega
 by_cases hres : res = 0
 ·have hdp : decP res a ((C.drop st.2).take n) = (match decC ((C.drop st.2).take n) with | none => none | some l => some { a with samples := a.samples ++ l }) := by unfold decP; rw [if_pos hres]; rfl
  rw [hdp] at hp
  cases hd : decC ((C.drop st.2).take n) with
  | none => rw [hd] at hp; cases hp
  | some l =>
   rw [hd] at hp; injection hp with hp; subst hp; obtain ⟨b1, b2, b3⟩ := Kzu hd; rw [htk] at b2; refine ⟨?_, ?_, hn, fun s hs => ?_⟩
   ·show smpsN (st.1.dropLast ++ [_]) ≤ 120 * (st.2 + n)
    rw [Kjg]; simp only [smpsN, List.map_cons, List.map_nil, List.sum_cons, List.sum_nil, List.length_append] at *; omega
   ·show wndsN (st.1.dropLast ++ [_]) ≤ st.2 + n
    rw [Kkj]; simp only [wndsN, List.map_cons, List.map_nil, List.sum_cons, List.sum_nil] at *; omega
   ·rcases List.mem_append.1 hs with h1 | h1
    ·exact hold s h1
    ·rw [List.mem_singleton.1 h1]; refine ⟨hlast.1, fun x hx => ?_, hlast.2.2⟩; rcases List.mem_append.1 hx with h2 | h2
     ·exact hlast.2.1 x h2
     ·exact b3 x h2
 ·have hdp : decP res a ((C.drop st.2).take n) = (match aggR ((C.drop st.2).take n) with | none => none | some l => some { a with windows := a.windows ++ l }) := by unfold decP; rw [if_neg hres]; rfl
  rw [hdp] at hp
  cases hd : aggR ((C.drop st.2).take n) with
  | none => rw [hd] at hp; cases hp
  | some l =>
   rw [hd] at hp; injection hp with hp; subst hp; have b1 := Ksr hd; have b3 := Qab hd; rw [htk] at b1; refine ⟨?_, ?_, hn, fun s hs => ?_⟩
   ·show smpsN (st.1.dropLast ++ [_]) ≤ 120 * (st.2 + n)
    rw [Kjg]; simp only [smpsN, List.map_cons, List.map_nil, List.sum_cons, List.sum_nil] at *; omega
   ·show wndsN (st.1.dropLast ++ [_]) ≤ st.2 + n
    rw [Kkj]; simp only [wndsN, List.map_cons, List.map_nil, List.sum_cons, List.sum_nil, List.length_append] at *; omega
   ·rcases List.mem_append.1 hs with h1 | h1
    ·exact hold s h1
    ·rw [List.mem_singleton.1 h1]; refine ⟨hlast.1, hlast.2.1, fun x hx => ?_⟩; rcases List.mem_append.1 hx with h2 | h2
     ·exact hlast.2.2 x h2
     ·exact b3 x h2
theorem Kqp {C : List UInt8} {res : Nat} {st st' : List Ser × Nat} {n : Nat} (hp : partP res C st n = some st') : st'.1.length ≤ st.1.length + 1 ∧ (st.1 ≠ [] → st'.1.length = st.1.length) := by
 unfold partP at hp
 split at hp
 ·split at hp
  ·cases hp
  ·injection hp with hp; subst hp; refine ⟨?_, fun h => ?_⟩
   ·show (st.1.dropLast ++ [_]).length ≤ _
    rw [List.length_append, List.length_dropLast, List.length_singleton]; omega
   ·show (st.1.dropLast ++ [_]).length = _
    have := List.length_pos_iff.2 h; rw [List.length_append, List.length_dropLast, List.length_singleton]; omega
 ·cases hp
theorem Kzt {I C : List UInt8} {res : Nat} {st : List Ser × Nat} {i : Nat} (h : Kcv eachP (partP res C) I ([], 0) = some (st, i)) : Kfg C st ∧ st.1.length ≤ I.length + 1 := by
 have := Kid (P := fun st i => Kfg C st ∧ st.1.length ≤ i + 1) (fun s i j h h1 h2 => ⟨h.1, by omega⟩) (fun s i j l h h1 h2 hl => ⟨h.1.new hl, ?_⟩) (fun s i n s' h h1 hp => ⟨h.1.part hp, ?_⟩) (s := ([], 0)) ⟨⟨by simp [smpsN], by simp [wndsN], Nat.zero_le _, by simp⟩, by simp⟩ h
 ·exact ⟨this.1.1, by have := this.1.2; omega⟩
 ·show (s.1 ++ [_]).length ≤ j + 1
  rw [List.length_append, List.length_singleton]; omega
 ·obtain ⟨h1, h2⟩ := Kqp hp
  by_cases he : s.1 = []
  ·rw [he] at h1; simp at h1; omega
  ·rw [h2 he]; exact h.2
theorem Qdp {l : List UInt8} (h : l.length = 4) : fourT (numT l) = l := by
 obtain ⟨a, b, c, d, rfl⟩ : ∃ a b c d, l = [a, b, c, d] := by
  match l, h with
  | [a, b, c, d], _ => exact ⟨a, b, c, d, rfl⟩
 have ha := UInt8.toNat_lt a; have hb := UInt8.toNat_lt b; have hc := UInt8.toNat_lt c; have hd := UInt8.toNat_lt d; unfold fourT numT; dsimp only
 have e : ∀ (x : UInt8) (n : Nat), n % 256 = x.toNat → UInt8.ofNat n = x := fun x n h => by
  apply UInt8.toNat_inj.1; rw [UInt8.toNat_ofNat']; exact h
 rw [e a _ (by omega), e b _ (by omega), e c _ (by omega), e d _ (by omega)]
theorem Kuw {s b : List UInt8} (h : Kat s = .ok b) : sealT b = s := by
 unfold Kat at h
 split at h
 ·cases h
 rename_i h4
 split at h
 ·rename_i hc
  injection h with h; subst h; unfold sealT; rw [hc, Qdp (by rw [List.length_drop]; omega), List.take_append_drop]
 ·cases h
theorem Khd {s b : List UInt8} (h : Kat s = .ok b) : b.length + 4 = s.length := by
 rw [← Kuw h, Kfu]
theorem Kuy {f : Fil} (h : (∃ e, Kat f.mt = .error e) ∨ (∃ e, Kat f.ck = .error e) ∨ (∃ e, Kat f.ix = .error e)) : Keq f = none := by
 unfold Keq Kfr; rcases h with ⟨e, h⟩ | ⟨e, h⟩ | ⟨e, h⟩
 ·rw [h]
 ·rw [h]; cases Kat f.mt <;> rfl
 ·rw [h]
  cases Kat f.mt with
  | error _ => rfl
  | ok _ => cases Kat f.ck <;> rfl
end
section
open Go.RowKit
attribute [local go_sem ↓] Go.wp_at_zero Go.wp_at_succ
attribute [local go_sem] Later.cell
section
variable {P : Program} {Q : Exit → Act → World → Prop}
theorem Oper.wp_calledP {o : Oper} {a : Act} {w w1 : World} {g : FuncId} {args : Array Value} {d : Option Tmp} {K : Act → World → Prop} (hd : o.dst = d) (h : (execOp a.eval o).run P w = .ok (.enter g args) w1) {N : Value → World → Prop}
  (hc : Calls P g args w1 fun e w' => (∃ u, e = .returned u ∧ N u w') ∨ ∃ c, e = .panicked c ∧ Q (.panic c) a w') (hK : ∀ u w', N u w' → K (a.put d u) w') : OpW o P a w K Q := .of <| by
 subst hd; unfold Oper.wp; rw [h]; refine Calls.mono hc ?_; rintro e w' (⟨u, rfl, hn⟩ | ⟨c, rfl, hq⟩)
 ·exact hK u w' hn
 ·exact hq
end
structure PNq (w0 : World) (q : Nat) (F0 F1 F2 : ByteArray) (w : World) : Prop where
 f : Blk w q 44 #[.string F0, .string F1, .string F2]
 e : Blk w (q + 2) 29 #[.int .i64 0]
 c : ∃ x y z v, Blk w (q + 1) 28 #[x, y, z, v]
 bl : Below q w0 w
theorem PN.q {L : PLoc} {w : World} (h : PN L w) : PNq L.w0 L.q L.F0 L.F1 L.F2 w := ⟨h.f, h.e, h.c, h.bl⟩
theorem PNq.below {w0 w w' : World} {q : Nat} {F0 F1 F2 : ByteArray} (h : PNq w0 q F0 F1 F2 w) (hb : Below w.heap.size w w') : PNq w0 q F0 F1 F2 w' := by
 obtain ⟨x, y, z, v, hc⟩ := h.c; exact ⟨h.f.below hb h.f.lt, h.e.below hb h.e.lt, ⟨x, y, z, v, hc.below hb hc.lt⟩, h.bl.trans (hb.mono (by have := h.f.lt; omega))⟩
def bSz (F : ByteArray) : Prop := F.size ≤ 268435456
def nilC : Value := .agg #[.int .i64 0, .int .i64 0, .int .i64 0, .slice none 0 0]
theorem strs3 {w : World} {A B C : ByteArray} : Strs (w.alloc (.cells #[.string A, .string B, .string C] 9)) (some ⟨w.heap.size, 0, none⟩) 3 [A.data.toList, B.data.toList, C.data.toList] := by
 refine ⟨rfl, fun _ => ⟨w.heap.size, 0, rfl, by simp, fun i x hx j v hv => ?_⟩⟩; have hb : Blk (w.alloc (.cells #[.string A, .string B, .string C] 9)) w.heap.size 9 #[.string A, .string B, .string C] := Blk.new _ _ _
 match i, hx with
 | 0, hx => injection hx with hx; subst hx; match j, hv with | 0, hv => injection hv with hv; subst hv; exact hb.cell 0
 | 1, hx => injection hx with hx; subst hx; match j, hv with | 0, hv => injection hv with hv; subst hv; exact hb.cell 1
 | 2, hx => injection hx with hx; subst hx; match j, hv with | 0, hv => injection hv with hv; subst hv; exact hb.cell 2
theorem Kcl {w0 : World} {q : Nat} {F0 F1 F2 : ByteArray} (w : World) (h : PNq w0 q F0 F1 F2 w) (h0 : bSz F0) (h1 : bSz F1) (h2 : bSz F2) (hN : Kbz w0) (hq : w0.heap.size = q) (tt : TypeId) (xx : Value) :
  CallsD Tryz.prog 74 #[.pointer (some ⟨q, 0, none⟩), .pointer (some ⟨q + 1, 0, none⟩), .pointer (some ⟨q + 2, 0, none⟩)] (.panicking [{ v := .iface tt xx, recovered := false }]) w fun e u' w' =>
   e = .returned (.tuple #[]) ∧ u' = .panicking [{ v := .iface tt xx, recovered := true }] ∧ Blk w' (q + 1) 28 #[.int .i64 0, .int .i64 0, .int .i64 0, .slice none 0 0] ∧ Blk w' (q + 2) 29 #[.int .i64 (Kbp [F0.data.toList, F1.data.toList, F2.data.toList] : Nat)] ∧ Below q w0 w' := by
 obtain ⟨x, y, z, v, hc⟩ := h.c; have H := Lib.hid h; have HC := Lib.hid hc; have f0 : w.cell? ⟨q, 0, none⟩ = some (.string F0) := h.f.cell 0; have f1 : w.cell? ⟨q, 1, none⟩ = some (.string F1) := h.f.cell 1; have f2 : w.cell? ⟨q, 2, none⟩ = some (.string F2) := h.f.cell 2; refine callsD_of_wpS Tryz.func74 rfl fun c₀ cs hu => ?_
 apply wpS_seq; apply wpS_region; simp [wpOpsS, go_sem, recoverD, hu, Tryz.ntmps74, Exit.thenS]; refine wpS_cond (t := true) (by simp [Act.eval, Array.replicate]) ?_; simp only [if_true]; refine wpS_of_wp ?_; have hs := @strs3 w F0 F1 F2
 have hbl := fun W (hb : Below w.heap.size w W) (hS : Strs W (some ⟨w.heap.size, 0, none⟩) 3 [F0.data.toList, F1.data.toList, F2.data.toList]) => Kle [F0.data.toList, F1.data.toList, F2.data.toList] (some ⟨w.heap.size, 0, none⟩) 3 3 W hS (by omega) (fun x hx => by
  unfold bSz at h0 h1 h2; simp at hx
  rcases hx with rfl | rfl | rfl <;> (rw [Array.length_toList]; show ByteArray.size _ ≤ _; omega)) (hN.below (by rw [← hq]; exact hN.lt) (h.bl.trans (hb.mono (by have := h.f.lt; omega))))
 simp [Array.replicate]; go_upto_region 2 with fail
 refine (hbl _ ((Below.refl _ _).alloc (Nat.le_refl _) _) hs).mono ?_; rintro _ w2 ⟨rfl, hb2⟩; have hb2' := ((Below.refl w.heap.size w).alloc (Nat.le_refl _) (.cells #[.string F0, .string F1, .string F2] 9)).trans (hb2.mono (by simp)); have hc2 := hc.below hb2' hc.lt; have he2 := h.e.below hb2' h.e.lt; have HC2 := Lib.hid hc2; have HE2 := Lib.hid he2; have HB2 := Lib.hid (h.bl.trans (hb2'.mono (by have := h.f.lt; omega))); have c0 : w2.cell? ⟨q + 1, 0, none⟩ = some x := hc2.cell 0; have c1 : w2.cell? ⟨q + 1, 1, none⟩ = some y := hc2.cell 1; have c2 : w2.cell? ⟨q + 1, 2, none⟩ = some z := hc2.cell 2; have c3 : w2.cell? ⟨q + 1, 3, none⟩ = some v := hc2.cell 3; have g0 := hc2.frozen 0; have g1 := hc2.frozen 1; have g2 := hc2.frozen 2; have g3 := hc2.frozen 3; have e0 : w2.cell? ⟨q + 2, 0, none⟩ = some (.int .i64 0) := he2.cell 0; have ef := he2.frozen 0; clear hb2 hb2' hc2 he2 hbl hs f0 f1 f2 h hc; go_wp2_with fail
 have k1 := ((((HC2.out.set_ 0 (.int .i64 0)).set_ 1 (.int .i64 0)).set_ 2 (.int .i64 0)).set_ 3 (.slice none 0 0)).far (p := ⟨q + 2, 0, none⟩) (by simp) (.int .i64 (Kbp [F0.data.toList, F1.data.toList, F2.data.toList] : Nat)); have k2 := ((((HE2.out.far (p := ⟨q + 1, 0, none⟩) (by simp) (.int .i64 0)).far (p := ⟨q + 1, 1, none⟩) (by simp) (.int .i64 0)).far (p := ⟨q + 1, 2, none⟩) (by simp) (.int .i64 0)).far (p := ⟨q + 1, 3, none⟩) (by simp) (.slice none 0 0)).set_ 0 (.int .i64 (Kbp [F0.data.toList, F1.data.toList, F2.data.toList] : Nat)); have k3 := ((((HB2.out.setCell (p := ⟨q + 1, 0, none⟩) (Nat.le_succ q) (.int .i64 0)).setCell (p := ⟨q + 1, 1, none⟩) (Nat.le_succ q) (.int .i64 0)).setCell (p := ⟨q + 1, 2, none⟩) (Nat.le_succ q) (.int .i64 0)).setCell (p := ⟨q + 1, 3, none⟩) (Nat.le_succ q) (.slice none 0 0)).setCell (p := ⟨q + 2, 0, none⟩) (Nat.le_add_right q 2) (.int .i64 (Kbp [F0.data.toList, F1.data.toList, F2.data.toList] : Nat))
 revert k1 k2 k3
 generalize ((((w2.setCell ⟨q + 1, 0, none⟩ (.int .i64 0)).setCell ⟨q + 1, 1, none⟩ (.int .i64 0)).setCell ⟨q + 1, 2, none⟩ (.int .i64 0)).setCell ⟨q + 1, 3, none⟩ (.slice none 0 0)).setCell ⟨q + 2, 0, none⟩ (.int .i64 (Kbp [F0.data.toList, F1.data.toList, F2.data.toList] : Nat)) = wz; intro k1 k2 k3; simp [bodyPostS, results, Tryz.results74]; exact ⟨k1, k2, k3⟩
theorem Kvq (a b c : Addr) (w : World) :
  CallsD Tryz.prog 74 #[.pointer (some a), .pointer (some b), .pointer (some c)] .returning w fun e u' w' => e = .returned (.tuple #[]) ∧ u' = .returning ∧ w' = w := by
 refine callsD_of_wpS Tryz.func74 rfl fun c₀ cs hu => ?_
 apply wpS_seq; apply wpS_region; simp [wpOpsS, go_sem, recoverD, hu, Tryz.ntmps74, Exit.thenS]; refine wpS_cond (t := false) (by simp [Act.eval, Array.replicate]) ?_; simp only [Bool.false_eq_true, if_false]; refine wpS_of_wp (wp_skip ?_); cases c₀
 simp_all [bodyPostS, results, Tryz.results74]
end
section
open Go.RowKit
open Lib renaming hid → Jh
attribute [local go_sem ↓] Go.wp_at_zero Go.wp_at_succ
attribute [local go_sem] Later.cell
theorem Qdw (m : List Lb) : cmpL [] m = if m = [] then 0 else -1 := by cases m <;> rfl
theorem Qao (m : List Lb) : cmpL m [] = if m = [] then 0 else 1 := by cases m <;> rfl
theorem Kpa (l m : List Lb) (A B : Option Addr) (n k ca cb : Nat) (w : World) (r : Int) (hr : cmpL l m = r) (hA : Elems w w.heap.size 2 encLb A n l) (hB : Elems w w.heap.size 2 encLb B k m) (hn : n ≤ 140737488351232) (hk : k ≤ 140737488351232) :
  Calls Tryz.prog 69 #[.slice A n ca, .slice B k cb] w fun e w' => e = .returned (.int .i64 r) ∧ Below w.heap.size w w' := by
 have HR := Jh hr; have HLN := Jh hA.len; have HMK := Jh hB.len; clear hr; go_enter Tryz.func69, Tryz.ntmps69
 go_wp2_with fail
 go_loopg [5] n (fun g s5 wr => ∃ i : Nat, s5 = .int .i64 (i : Int) ∧ i + g = n ∧ i ≤ k ∧ cmpL (l.drop i) (m.drop i) = r ∧ Below w.heap.size w wr)
 case atStart => exact ⟨0, rfl, by omega, Nat.zero_le _, HR.out, Below.refl _ _⟩
 case round =>
  obtain ⟨i, rfl, hig, hik, hcm, hB0⟩ := hrel; have HIG := Jh hig; have HCM := Jh hcm; clear hig hcm
  by_cases hi : i < n
  ·have el : decide (i < n) = true := by rw [decide_eq_true_eq]; exact hi
   by_cases hi2 : i < k
   ·have el2 : decide (i < k) = true := by rw [decide_eq_true_eq]; exact hi2
    obtain ⟨w0, rfl⟩ : ∃ x, x = wr := ⟨_, rfl⟩; have hil : i < l.length := by have := HLN.out; omega
    have him : i < m.length := by have := HMK.out; omega
    have hn0 : 0 < n := by omega
    have hk0 : 0 < k := by omega
    obtain ⟨b, off, rfl, hbl, _⟩ := hA.2 hn0; obtain ⟨b', off', rfl, hbm, _⟩ := hB.2 hk0; obtain ⟨x, hx⟩ : ∃ x, l[i]! = x := ⟨_, rfl⟩; obtain ⟨y, hy⟩ : ∃ y, m[i]! = y := ⟨_, rfl⟩; obtain ⟨XN, hXN⟩ : ∃ N : ByteArray, (⟨x.n.toArray⟩ : ByteArray) = N := ⟨_, rfl⟩; obtain ⟨XV, hXV⟩ : ∃ N : ByteArray, (⟨x.v.toArray⟩ : ByteArray) = N := ⟨_, rfl⟩; obtain ⟨YN, hYN⟩ : ∃ N : ByteArray, (⟨y.n.toArray⟩ : ByteArray) = N := ⟨_, rfl⟩; obtain ⟨YV, hYV⟩ : ∃ N : ByteArray, (⟨y.v.toArray⟩ : ByteArray) = N := ⟨_, rfl⟩; have hdl : l.drop i = x :: l.drop (i + 1) := by rw [← hx, getElem!_pos l i hil]; exact List.drop_eq_getElem_cons hil
    have hdm : m.drop i = y :: m.drop (i + 1) := by rw [← hy, getElem!_pos m i him]; exact List.drop_eq_getElem_cons him
    have hcm := HCM.out; rw [hdl, hdm, cmpL] at hcm; obtain ⟨q1, hq1⟩ : ∃ q, Op.bytesLess XN.toList YN.toList = q := ⟨_, rfl⟩; obtain ⟨q2, hq2⟩ : ∃ q, (XN.toList == YN.toList) = q := ⟨_, rfl⟩; obtain ⟨q3, hq3⟩ : ∃ q, Op.bytesLess XV.toList YV.toList = q := ⟨_, rfl⟩; obtain ⟨q4, hq4⟩ : ∃ q, (XV.toList == YV.toList) = q := ⟨_, rfl⟩; have k1 : q1 = decide (x.n < y.n) := by rw [← hq1, ← hXN, Kir, ← hYN]
    have k2 : q2 = decide (x.n = y.n) := by rw [← hq2, ← hXN, ← hYN, ByteArray.toList_eq, ByteArray.toList_eq, Bool.eq_iff_iff]; simp
    have k3 : q3 = decide (x.v < y.v) := by rw [← hq3, ← hXV, Kir, ← hYV]
    have k4 : q4 = decide (x.v = y.v) := by rw [← hq4, ← hXV, ← hYV, ByteArray.toList_eq, ByteArray.toList_eq, Bool.eq_iff_iff]; simp
    have HQ1 : Hid (q1 = true → r = -1) := Jh (fun h => by rw [k1, decide_eq_true_eq] at h; rw [if_pos h] at hcm; exact hcm.symm); have HQ2 : Hid (q1 = false → q2 = false → r = 1) := Jh (fun h1 h => by rw [k1, decide_eq_false_iff_not] at h1; rw [k2, decide_eq_false_iff_not] at h; rw [if_neg h1, if_pos (Decidable.byContradiction fun h3 => h (Kea h1 h3))] at hcm; exact hcm.symm); have HQ3 : Hid (q1 = false → q2 = true → q3 = true → r = -1) := Jh (fun h1 h2 h => by rw [k1, decide_eq_false_iff_not] at h1; rw [k2, decide_eq_true_eq] at h2; rw [k3, decide_eq_true_eq] at h; rw [if_neg h1, if_neg (by rw [h2]; exact List.lt_irrefl _), if_pos h] at hcm; exact hcm.symm); have HQ4 : Hid (q1 = false → q2 = true → q3 = false → q4 = false → r = 1) := Jh (fun h1 h2 h3 h => by rw [k1, decide_eq_false_iff_not] at h1; rw [k2, decide_eq_true_eq] at h2; rw [k3, decide_eq_false_iff_not] at h3; rw [k4, decide_eq_false_iff_not] at h; rw [if_neg h1, if_neg (by rw [h2]; exact List.lt_irrefl _), if_neg h3, if_pos (Decidable.byContradiction fun h5 => h (Kea h3 h5))] at hcm; exact hcm.symm); have HQ5 : Hid (q1 = false → q2 = true → q3 = false → q4 = true → cmpL (l.drop (i + 1)) (m.drop (i + 1)) = r) := Jh (fun h1 h2 h3 h => by rw [k1, decide_eq_false_iff_not] at h1; rw [k2, decide_eq_true_eq] at h2; rw [k3, decide_eq_false_iff_not] at h3; rw [k4, decide_eq_true_eq] at h; rw [if_neg h1, if_neg (by rw [h2]; exact List.lt_irrefl _), if_neg h3, if_neg (by rw [h]; exact List.lt_irrefl _)] at hcm; exact hcm); have HX := Jh hx; have HY := Jh hy; have HXN := Jh hXN; have HXV := Jh hXV; have HYN := Jh hYN; have HYV := Jh hYV; obtain ⟨_, a0, a1⟩ := Kca hA hn0 hB0 i hil; obtain ⟨_, d0, d1⟩ := Kca hB hk0 hB0 i him; rw [hx, hXN] at a0; rw [hx, hXV] at a1; rw [hy, hYN] at d0; rw [hy, hYV] at d1; have hbl0 : b < w0.heap.size := by have := hB0.size; omega
    have hbm0 : b' < w0.heap.size := by have := hB0.size; omega
    clear k1 k2 k3 k4 hcm hdl hdm hx hy hXN hXV hYN hYV; go_upto_region 4 with fail
    refine Kai (by kernel_rfl) (by kernel_rfl) ?_
    repeat (go_big_quiet_step (fail))
    refine wpQuiet_nil ?_; rintro w1 ⟨⟨_, hb1⟩, rfl⟩; have hB1 : Below w.heap.size w w1 := then_ hB0 hb1; obtain ⟨_, a0, a1⟩ := Kca hA hn0 hB1 i hil; obtain ⟨_, d0, d1⟩ := Kca hB hk0 hB1 i him; rw [HX.out, HXN.out] at a0; rw [HX.out, HXV.out] at a1; rw [HY.out, HYN.out] at d0; rw [HY.out, HYV.out] at d1; have hbl1 : b < w1.heap.size := by have := hB1.size; omega
    have hbm1 : b' < w1.heap.size := by have := hB1.size; omega
    cases q1 with
    | true =>
     have hre : r = -1 := HQ1.out rfl; subst hre; go_wp2_with fail
     go_ret
     exact ⟨rfl, hB1⟩
    | false =>
     go_upto_region 6 with fail
     refine Kai (by kernel_rfl) (by kernel_rfl) ?_
     repeat (go_big_quiet_step (fail))
     refine wpQuiet_nil ?_; rintro w2 ⟨⟨_, hb2⟩, rfl⟩; have hB2 : Below w.heap.size w w2 := then_ hB1 hb2; obtain ⟨_, a0, a1⟩ := Kca hA hn0 hB2 i hil; obtain ⟨_, d0, d1⟩ := Kca hB hk0 hB2 i him; rw [HX.out, HXN.out] at a0; rw [HX.out, HXV.out] at a1; rw [HY.out, HYN.out] at d0; rw [HY.out, HYV.out] at d1; have hbl2 : b < w2.heap.size := by have := hB2.size; omega
     have hbm2 : b' < w2.heap.size := by have := hB2.size; omega
     cases q2 with
     | false =>
      have hre : r = 1 := HQ2.out rfl rfl; subst hre; go_wp2_with fail
      go_ret
      exact ⟨rfl, hB2⟩
     | true =>
      go_upto_region 8 with fail
      refine Kai (by kernel_rfl) (by kernel_rfl) ?_
      repeat (go_big_quiet_step (fail))
      refine wpQuiet_nil ?_; rintro w3 ⟨⟨_, hb3⟩, rfl⟩; have hB3 : Below w.heap.size w w3 := then_ hB2 hb3; obtain ⟨_, a0, a1⟩ := Kca hA hn0 hB3 i hil; obtain ⟨_, d0, d1⟩ := Kca hB hk0 hB3 i him; rw [HX.out, HXN.out] at a0; rw [HX.out, HXV.out] at a1; rw [HY.out, HYN.out] at d0; rw [HY.out, HYV.out] at d1; have hbl3 : b < w3.heap.size := by have := hB3.size; omega
      have hbm3 : b' < w3.heap.size := by have := hB3.size; omega
      cases q3 with
      | true =>
       have hre : r = -1 := HQ3.out rfl rfl rfl; subst hre; go_wp2_with fail
       go_ret
       exact ⟨rfl, hB3⟩
      | false =>
       go_upto_region 10 with fail
       refine Kai (by kernel_rfl) (by kernel_rfl) ?_
       repeat (go_big_quiet_step (fail))
       refine wpQuiet_nil ?_; rintro w4 ⟨⟨_, hb4⟩, rfl⟩; have hB4 : Below w.heap.size w w4 := then_ hB3 hb4; obtain ⟨_, a0, a1⟩ := Kca hA hn0 hB4 i hil; obtain ⟨_, d0, d1⟩ := Kca hB hk0 hB4 i him; rw [HX.out, HXN.out] at a0; rw [HX.out, HXV.out] at a1; rw [HY.out, HYN.out] at d0; rw [HY.out, HYV.out] at d1; have hbl4 : b < w4.heap.size := by have := hB4.size; omega
       have hbm4 : b' < w4.heap.size := by have := hB4.size; omega
       cases q4 with
       | false =>
        have hre : r = 1 := HQ4.out rfl rfl rfl rfl; subst hre; go_wp2_with fail
        go_ret
        exact ⟨rfl, hB4⟩
       | true =>
         go_wp2_with fail
         go_roundg (gk - 1)
         case measure => have := HIG.out; omega
         case rel => exact ⟨i + 1, by go_num, by have := HIG.out; omega, by omega, by first | exact HQ5.out rfl rfl rfl rfl | simpa using HQ5.out, hB4⟩
   ·have el2 : decide (i < k) = false := by rw [decide_eq_false_iff_not]; exact hi2
    have hik2 : i = k := by omega
    have hre : r = 1 := by
     have h1 := HCM.out; rw [List.drop_eq_nil_of_le (show m.length ≤ i by have := HMK.out; omega), Qao, if_neg (by rw [List.drop_eq_nil_iff]; have := HLN.out; omega)] at h1; exact h1.symm
    have e1 : decide (n < k) = false := by rw [decide_eq_false_iff_not]; omega
    have e2 : decide (k < n) = true := by rw [decide_eq_true_eq]; omega
    subst hre; go_wp2_with fail
    go_ret
    exact ⟨rfl, hB0⟩
  ·have el : decide (i < n) = false := by rw [decide_eq_false_iff_not]; exact hi
   have hin : i = n := by have := HIG.out; omega
   have h1 := HCM.out; rw [List.drop_eq_nil_of_le (show l.length ≤ i by have := HLN.out; omega), Qdw] at h1
   by_cases hnk : n < k
   ·have hre : r = -1 := by
     rw [if_neg (by rw [List.drop_eq_nil_iff]; have := HMK.out; omega)] at h1; exact h1.symm
    have e1 : decide (n < k) = true := by rw [decide_eq_true_eq]; exact hnk
    subst hre; clear h1; go_wp2_with fail
    go_ret
    exact ⟨rfl, hB0⟩
   ·have hre : r = 0 := by
     rw [if_pos (by rw [List.drop_eq_nil_iff]; have := HMK.out; omega)] at h1; exact h1.symm
    have e1 : decide (n < k) = false := by rw [decide_eq_false_iff_not]; exact hnk
    have e2 : decide (k < n) = false := by rw [decide_eq_false_iff_not]; omega
    subst hre; clear h1; go_wp2_with fail
    go_ret
    exact ⟨rfl, hB0⟩
end
section
open Go.RowKit
instance smpEq : DecidableEq Smp := fun a b => by
 cases a with
 | mk t v =>
  cases b with
  | mk t' v' => exact if h : t = t' ∧ v = v' then isTrue (by rw [h.1, h.2]) else isFalse fun e => h (by injection e with e1 e2; exact ⟨e1, e2⟩)
instance wndEq : DecidableEq Wnd := fun a b => by
 cases a with
 | mk a1 a2 a3 a4 a5 a6 =>
  cases b with
  | mk b1 b2 b3 b4 b5 b6 =>
   exact if h : a1 = b1 ∧ a2 = b2 ∧ a3 = b3 ∧ a4 = b4 ∧ a5 = b5 ∧ a6 = b6 then isTrue (by obtain ⟨rfl, rfl, rfl, rfl, rfl, rfl⟩ := h; rfl) else isFalse fun e => h (by injection e with e1 e2 e3 e4 e5 e6; exact ⟨e1, e2, e3, e4, e5, e6⟩)
instance serEq : DecidableEq Ser := fun a b => by
 cases a with
 | mk l s w =>
  cases b with
  | mk l' s' w' => exact if h : l = l' ∧ s = s' ∧ w = w' then isTrue (by rw [h.1, h.2.1, h.2.2]) else isFalse fun e => h (by injection e with e1 e2 e3; exact ⟨e1, e2, e3⟩)
instance contEq : DecidableEq Cont := fun a b => by
 cases a with
 | mk r f t s =>
  cases b with
  | mk r' f' t' s' => exact if h : r = r' ∧ f = f' ∧ t = t' ∧ s = s' then isTrue (by obtain ⟨rfl, rfl, rfl, rfl⟩ := h; rfl) else isFalse fun e => h (by injection e with e1 e2 e3 e4; exact ⟨e1, e2, e3, e4⟩)
theorem Kji {α : Type} [Inhabited α] {a b : List α} (h : a.length = b.length) (hi : ∀ i, i < a.length → a[i]! = b[i]!) : a = b := by
 apply List.ext_getElem h; intro i h1 h2; have := hi i h1; rwa [getElem!_pos a i h1, getElem!_pos b i h2] at this
theorem Kck {P : Program} {w : World} {d : Nat} {xs ys : Array Value} {f : Field} {fs : List Field} {t : TypeId} {o : Nat} {a b : Value} {r : Bool} (hf : (f.name != "_", f.type, f.offset) = (true, t, o)) (ha : (part t xs o).run P w = .ok a w) (hb : (part t ys o).run P w = .ok b w) (he : (Op.equalIn d t a b).run P w = .ok r w) :
  (Op.eqFields d xs ys (f :: fs)).run P w = if r then (Op.eqFields d xs ys fs).run P w else .ok false w := by
 injection hf with h1 h2; injection h2 with h2 h3; subst h2 h3; have h1' : f.name ≠ "_" := by simpa using h1
 rw [Op.eqFields]; simp only [ne_eq, h1', not_false_eq_true, if_true, Sem.run_bind, ha, hb, he, Result.andThen_ok]; cases r <;> simp
theorem Kkq {P : Program} {w : World} {d : Nat} {xs ys : Array Value} : (Op.eqFields d xs ys []).run P w = .ok true w := rfl
theorem Qfy (x y : Smp) (w : World) : (Op.equalIn 10000 133 (.agg #[.int .i64 x.t, .int .u64 (x.v : Int)]) (.agg #[.int .i64 y.t, .int .u64 (y.v : Int)])).run Tryz.prog w = .ok (decide (x = y)) w := by
 rw [run_equalIn_struct (d := 9999) w 133 _ _ (by kernel_rfl) (by kernel_rfl)]; obtain ⟨fs, hfs⟩ : ∃ fs, (Tryz.prog.fieldsOf 133).toList = fs := ⟨_, rfl⟩; have hf : fs.map (fun f => (f.name != "_", f.type, f.offset)) = [(true, 2, 0), (true, 100, 1)] := by rw [← hfs]; kernel_rfl
 rw [hfs]
 match fs, hf with
 | [f0, f1], hf =>
  simp only [List.map_cons, List.map_nil] at hf; injection hf with h0 hf; injection hf with h1 hf; rw [Kck (a := .int .i64 x.t) (b := .int .i64 y.t) h0 (by kernel_rfl) (by kernel_rfl) (run_equalIn_int w 9998 2 .i64 .i64 _ _ Tryz.underlying2)]; rw [Kck (a := .int .u64 (x.v : Int)) (b := .int .u64 (y.v : Int)) h1 (by kernel_rfl) (by kernel_rfl) (run_equalIn_int w 9998 100 .u64 .u64 _ _ Tryz.underlying100)]; rw [Kkq]; have k0 : (x.t == y.t) = decide (x.t = y.t) := by rw [Bool.eq_iff_iff]; simp
  have k1 : ((x.v : Int) == (y.v : Int)) = decide (x.v = y.v) := by rw [Bool.eq_iff_iff]; simp; omega
  rw [k0, k1]; cases x
  cases y
  simp only [Smp.mk.injEq]
  repeat' split
  all_goals simp_all
theorem Qfx (x y : Smp) (w : World) : (binOp .neq 133 (.agg #[.int .i64 x.t, .int .u64 (x.v : Int)]) (.agg #[.int .i64 y.t, .int .u64 (y.v : Int)])).run Tryz.prog w = .ok (.bool (!decide (x = y))) w := by
 rw [run_neq_struct, Qfy]; rfl
theorem Qfo (x y : Wnd) (w : World) : (Op.equalIn 10000 136 (.agg #[.int .i64 x.start, .int .i64 x.count, .int .u64 (x.sum : Int), .int .u64 (x.min : Int), .int .u64 (x.max : Int), .int .u64 (x.last : Int)]) (.agg #[.int .i64 y.start, .int .i64 y.count, .int .u64 (y.sum : Int), .int .u64 (y.min : Int), .int .u64 (y.max : Int), .int .u64 (y.last : Int)])).run Tryz.prog w = .ok (decide (x = y)) w := by
 rw [run_equalIn_struct (d := 9999) w 136 _ _ (by kernel_rfl) (by kernel_rfl)]; obtain ⟨fs, hfs⟩ : ∃ fs, (Tryz.prog.fieldsOf 136).toList = fs := ⟨_, rfl⟩; have hf : fs.map (fun f => (f.name != "_", f.type, f.offset)) = [(true, 2, 0), (true, 3, 1), (true, 100, 2), (true, 100, 3), (true, 100, 4), (true, 100, 5)] := by rw [← hfs]; kernel_rfl
 rw [hfs]
 match fs, hf with
 | [f0, f1, f2, f3, f4, f5], hf =>
  simp only [List.map_cons, List.map_nil] at hf; injection hf with h0 hf; injection hf with h1 hf; injection hf with h2 hf; injection hf with h3 hf; injection hf with h4 hf; injection hf with h5 hf; rw [Kck (a := .int .i64 x.start) (b := .int .i64 y.start) h0 (by kernel_rfl) (by kernel_rfl) (run_equalIn_int w 9998 2 .i64 .i64 _ _ Tryz.underlying2)]; rw [Kck (a := .int .i64 x.count) (b := .int .i64 y.count) h1 (by kernel_rfl) (by kernel_rfl) (run_equalIn_int w 9998 3 .i64 .i64 _ _ Tryz.underlying3)]; rw [Kck (a := .int .u64 (x.sum : Int)) (b := .int .u64 (y.sum : Int)) h2 (by kernel_rfl) (by kernel_rfl) (run_equalIn_int w 9998 100 .u64 .u64 _ _ Tryz.underlying100)]; rw [Kck (a := .int .u64 (x.min : Int)) (b := .int .u64 (y.min : Int)) h3 (by kernel_rfl) (by kernel_rfl) (run_equalIn_int w 9998 100 .u64 .u64 _ _ Tryz.underlying100)]; rw [Kck (a := .int .u64 (x.max : Int)) (b := .int .u64 (y.max : Int)) h4 (by kernel_rfl) (by kernel_rfl) (run_equalIn_int w 9998 100 .u64 .u64 _ _ Tryz.underlying100)]; rw [Kck (a := .int .u64 (x.last : Int)) (b := .int .u64 (y.last : Int)) h5 (by kernel_rfl) (by kernel_rfl) (run_equalIn_int w 9998 100 .u64 .u64 _ _ Tryz.underlying100)]; rw [Kkq]; have k0 : (x.start == y.start) = decide (x.start = y.start) := by rw [Bool.eq_iff_iff]; simp
  have k1 : (x.count == y.count) = decide (x.count = y.count) := by rw [Bool.eq_iff_iff]; simp
  have k2 : ((x.sum : Int) == (y.sum : Int)) = decide (x.sum = y.sum) := by rw [Bool.eq_iff_iff]; simp; omega
  have k3 : ((x.min : Int) == (y.min : Int)) = decide (x.min = y.min) := by rw [Bool.eq_iff_iff]; simp; omega
  have k4 : ((x.max : Int) == (y.max : Int)) = decide (x.max = y.max) := by rw [Bool.eq_iff_iff]; simp; omega
  have k5 : ((x.last : Int) == (y.last : Int)) = decide (x.last = y.last) := by rw [Bool.eq_iff_iff]; simp; omega
  rw [k0, k1, k2, k3, k4, k5]; cases x
  cases y
  simp only [Wnd.mk.injEq]
  repeat' split
  all_goals simp_all
theorem Qfg (x y : Wnd) (w : World) : (binOp .neq 136 (.agg #[.int .i64 x.start, .int .i64 x.count, .int .u64 (x.sum : Int), .int .u64 (x.min : Int), .int .u64 (x.max : Int), .int .u64 (x.last : Int)]) (.agg #[.int .i64 y.start, .int .i64 y.count, .int .u64 (y.sum : Int), .int .u64 (y.min : Int), .int .u64 (y.max : Int), .int .u64 (y.last : Int)])).run Tryz.prog w = .ok (.bool (!decide (x = y))) w := by
 rw [run_neq_struct, Qfo]; rfl
theorem Kxi (x y : Fil) (w : World) : (Op.equalIn 10000 44 (.agg #[.string ⟨x.mt.toArray⟩, .string ⟨x.ck.toArray⟩, .string ⟨x.ix.toArray⟩]) (.agg #[.string ⟨y.mt.toArray⟩, .string ⟨y.ck.toArray⟩, .string ⟨y.ix.toArray⟩])).run Tryz.prog w = .ok (decide (x = y)) w := by
 rw [run_equalIn_struct (d := 9999) w 44 _ _ (by kernel_rfl) (by kernel_rfl)]; obtain ⟨fs, hfs⟩ : ∃ fs, (Tryz.prog.fieldsOf 44).toList = fs := ⟨_, rfl⟩; have hf : fs.map (fun f => (f.name != "_", f.type, f.offset)) = [(true, 9, 0), (true, 9, 1), (true, 9, 2)] := by rw [← hfs]; kernel_rfl
 rw [hfs]
 match fs, hf with
 | [f0, f1, f2], hf =>
  simp only [List.map_cons, List.map_nil] at hf; injection hf with h0 hf; injection hf with h1 hf; injection hf with h2 hf; rw [Kck (a := .string ⟨x.mt.toArray⟩) (b := .string ⟨y.mt.toArray⟩) h0 (by kernel_rfl) (by kernel_rfl) (run_equalIn_string w 9998 9 _ _ Tryz.underlying9)]; rw [Kck (a := .string ⟨x.ck.toArray⟩) (b := .string ⟨y.ck.toArray⟩) h1 (by kernel_rfl) (by kernel_rfl) (run_equalIn_string w 9998 9 _ _ Tryz.underlying9)]; rw [Kck (a := .string ⟨x.ix.toArray⟩) (b := .string ⟨y.ix.toArray⟩) h2 (by kernel_rfl) (by kernel_rfl) (run_equalIn_string w 9998 9 _ _ Tryz.underlying9)]; rw [Kkq]; have k0 : ((⟨x.mt.toArray⟩ : ByteArray).toList == (⟨y.mt.toArray⟩ : ByteArray).toList) = decide (x.mt = y.mt) := by rw [ByteArray.toList_eq, ByteArray.toList_eq, Bool.eq_iff_iff]; simp
  have k1 : ((⟨x.ck.toArray⟩ : ByteArray).toList == (⟨y.ck.toArray⟩ : ByteArray).toList) = decide (x.ck = y.ck) := by rw [ByteArray.toList_eq, ByteArray.toList_eq, Bool.eq_iff_iff]; simp
  have k2 : ((⟨x.ix.toArray⟩ : ByteArray).toList == (⟨y.ix.toArray⟩ : ByteArray).toList) = decide (x.ix = y.ix) := by rw [ByteArray.toList_eq, ByteArray.toList_eq, Bool.eq_iff_iff]; simp
  rw [k0, k1, k2]; cases x
  cases y
  simp only [Fil.mk.injEq]
  repeat' split
  all_goals simp_all
theorem Qfk (x y : Fil) (w : World) : (binOp .neq 44 (.agg #[.string ⟨x.mt.toArray⟩, .string ⟨x.ck.toArray⟩, .string ⟨x.ix.toArray⟩]) (.agg #[.string ⟨y.mt.toArray⟩, .string ⟨y.ck.toArray⟩, .string ⟨y.ix.toArray⟩])).run Tryz.prog w = .ok (.bool (!decide (x = y))) w := by
 rw [run_neq_struct, Kxi]; rfl
theorem Qfv (x y : Fil) (w : World) : (binOp .eql 44 (.agg #[.string ⟨x.mt.toArray⟩, .string ⟨x.ck.toArray⟩, .string ⟨x.ix.toArray⟩]) (.agg #[.string ⟨y.mt.toArray⟩, .string ⟨y.ck.toArray⟩, .string ⟨y.ix.toArray⟩])).run Tryz.prog w = .ok (.bool (decide (x = y))) w := by
 rw [run_eql_struct, Kxi]; rfl
theorem Qge (x y : Lb) (w : World) : (Op.equalIn 10000 99 (.agg #[.string ⟨x.n.toArray⟩, .string ⟨x.v.toArray⟩]) (.agg #[.string ⟨y.n.toArray⟩, .string ⟨y.v.toArray⟩])).run Tryz.prog w = .ok (decide (x = y)) w := by
 rw [run_equalIn_struct (d := 9999) w 99 _ _ (by kernel_rfl) (by kernel_rfl)]; obtain ⟨fs, hfs⟩ : ∃ fs, (Tryz.prog.fieldsOf 99).toList = fs := ⟨_, rfl⟩; have hf : fs.map (fun f => (f.name != "_", f.type, f.offset)) = [(true, 9, 0), (true, 9, 1)] := by rw [← hfs]; kernel_rfl
 rw [hfs]
 match fs, hf with
 | [f0, f1], hf =>
  simp only [List.map_cons, List.map_nil] at hf; injection hf with h0 hf; injection hf with h1 hf; rw [Kck (a := .string ⟨x.n.toArray⟩) (b := .string ⟨y.n.toArray⟩) h0 (by kernel_rfl) (by kernel_rfl) (run_equalIn_string w 9998 9 _ _ Tryz.underlying9)]; rw [Kck (a := .string ⟨x.v.toArray⟩) (b := .string ⟨y.v.toArray⟩) h1 (by kernel_rfl) (by kernel_rfl) (run_equalIn_string w 9998 9 _ _ Tryz.underlying9)]; rw [Kkq]; have k0 : ((⟨x.n.toArray⟩ : ByteArray).toList == (⟨y.n.toArray⟩ : ByteArray).toList) = decide (x.n = y.n) := by rw [ByteArray.toList_eq, ByteArray.toList_eq, Bool.eq_iff_iff]; simp
  have k1 : ((⟨x.v.toArray⟩ : ByteArray).toList == (⟨y.v.toArray⟩ : ByteArray).toList) = decide (x.v = y.v) := by rw [ByteArray.toList_eq, ByteArray.toList_eq, Bool.eq_iff_iff]; simp
  rw [k0, k1]; cases x
  cases y
  simp only [Lb.mk.injEq]
  repeat' split
  all_goals simp_all
theorem Qft (x y : Lb) (w : World) : (binOp .eql 99 (.agg #[.string ⟨x.n.toArray⟩, .string ⟨x.v.toArray⟩]) (.agg #[.string ⟨y.n.toArray⟩, .string ⟨y.v.toArray⟩])).run Tryz.prog w = .ok (.bool (decide (x = y))) w := by
 rw [run_eql_struct, Qge]; rfl
end
section
open Go.RowKit
open Lib renaming hid → Jh
attribute [local go_sem ↓] Go.wp_at_zero Go.wp_at_succ
attribute [local go_sem] Later.cell
theorem Krh (La Lb : List Ser) (A B : Option Addr) (n m ca cb : Nat) (w : World) (hA : Sers w A n La) (hB : Sers w B m Lb) (hn : n ≤ 1099511627776) (hm : m ≤ 1099511627776)
  (hza : ∀ s ∈ La, s.samples.length ≤ 1099511627776 ∧ s.windows.length ≤ 1099511627776 ∧ s.labels.length ≤ 1099511627776) (hzb : ∀ s ∈ Lb, s.samples.length ≤ 1099511627776 ∧ s.windows.length ≤ 1099511627776 ∧ s.labels.length ≤ 1099511627776) :
  Calls Tryz.prog 25 #[.slice A n ca, .slice B m cb] w fun e w' => e = .returned (.bool (decide (La = Lb))) ∧ Below w.heap.size w w' := by
 have HLA := Jh hA.len; have HLB := Jh hB.len; have HSA0 := Jh hA; have HSB0 := Jh hB; have HZA := Jh hza; have HZB := Jh hzb; obtain ⟨R, hR⟩ : ∃ R, decide (La = Lb) = R := ⟨_, rfl⟩; rw [hR]; have HR := Jh hR; obtain ⟨q, hq⟩ : ∃ q, w.heap.size = q := ⟨_, rfl⟩; have HQ := Jh hq; rw [hq]; clear hR hq hA hB hza hzb
 by_cases hnm : n = m
 ·subst hnm; go_enter Tryz.func25, Tryz.ntmps25
  go_wp2_with fail
  go_loopg [5] n (fun g s5 wr => ∃ i : Nat, i + g = n ∧ s5 = .int .i64 (i : Int) ∧ (∀ j, j < i → La[j]! = Lb[j]!) ∧ Below q w wr)
  case atStart => exact ⟨0, by omega, rfl, fun j hj => by omega, Below.refl _ _⟩
  case round =>
   obtain ⟨i, hig, rfl, hsame, hbr⟩ := hrel; have HIG := Jh hig; have HSAME := Jh hsame; have HBR0 := Jh hbr; clear hig hsame hbr
   by_cases hi : i < n
   ·have el : decide (i < n) = true := by rw [decide_eq_true_eq]; exact hi
    obtain ⟨wo, rfl⟩ : ∃ x, x = wr := ⟨_, rfl⟩; have hBo : Below w.heap.size w wo := by rw [HQ.out]; exact HBR0.out
    have hila : i < La.length := by have := HLA.out; omega
    have hilb : i < Lb.length := by have := HLB.out; omega
    obtain ⟨b, off, x, rfl, hbl, c0, c1, c2, hsa⟩ := HSA0.out.at_ hi; obtain ⟨b', off', x', rfl, hbl', d0, d1, d2, hsb⟩ := HSB0.out.at_ hi; obtain ⟨⟨LA, ln, lc⟩, ⟨SA, sn, sc⟩, ⟨WA, wn, wc9⟩⟩ := x; obtain ⟨⟨LA', ln', lc'⟩, ⟨SA', sn', sc'⟩, ⟨WA', wn', wc9'⟩⟩ := x'; have hza := HZA.out La[i]! (by rw [getElem!_pos _ i hila]; exact List.getElem_mem hila); have hzb := HZB.out Lb[i]! (by rw [getElem!_pos _ i hilb]; exact List.getElem_mem hilb); obtain ⟨sra, hsra⟩ : ∃ s, La[i]! = s := ⟨_, rfl⟩; obtain ⟨srb, hsrb⟩ : ∃ s, Lb[i]! = s := ⟨_, rfl⟩; rw [hsra] at hsa hza; rw [hsrb] at hsb hzb; have a0 : wo.cell? ⟨b, off + i * 3, none⟩ = some _ := later hBo c0; have b0 : wo.cell? ⟨b', off' + i * 3, none⟩ = some _ := later hBo d0; have hlna : ln ≤ 140737488351232 := by have h1 : sra.labels.length = ln := hsa.l.len; omega
    have hlnb : ln' ≤ 140737488351232 := by have h1 : srb.labels.length = ln' := hsb.l.len; omega
    have hsnz : sn ≤ 1099511627776 := by have h1 : sra.samples.length = sn := hsa.s.len; omega
    have hwnz : wn ≤ 1099511627776 := by have h1 : sra.windows.length = wn := hsa.w.len; omega
    obtain ⟨r, hr⟩ : ∃ r, cmpL sra.labels srb.labels = r := ⟨_, rfl⟩; have HC := Jh (fun u : Later wo => Kpa sra.labels srb.labels LA LA' ln ln' lc lc' u.w r hr ((hsa.l.below (hBo.trans (u.h.mono hBo.size))).more (Nat.le_trans hBo.size u.h.size)) ((hsb.l.below (hBo.trans (u.h.mono hBo.size))).more (Nat.le_trans hBo.size u.h.size)) hlna hlnb); have HRC := Jh hr; have HSRA := Jh hsra; have HSRB := Jh hsrb; have HA1 := Jh c1; have HA2 := Jh c2; have HB1 := Jh d1; have HB2 := Jh d2; have HSA := Jh hsa.s; have HSB := Jh hsb.s; have HWA := Jh hsa.w; have HWB := Jh hsb.w; have hbo : b < wo.heap.size := by have := hBo.size; omega
    have hbo' : b' < wo.heap.size := by have := hBo.size; omega
    have hne : sra ≠ srb → R = false := fun h => by
     rw [← HR.out, decide_eq_false_iff_not]; intro e; apply h; rw [← HSRA.out, ← HSRB.out, e]
    have HNE := Jh hne; clear hr hsra hsrb c0 c1 c2 d0 d1 d2 hsa hsb hza hzb hBo hne; go_upto_region 6 with fail
    refine Kai (by kernel_rfl) (by kernel_rfl) ?_
    repeat (go_big_quiet_step ((go_at_call 69; exact Kal _ (HC.out _))))
    refine wpQuiet_nil ?_; rintro w2 ⟨⟨_, hb2⟩, rfl⟩; have hB2 : Below w.heap.size w w2 := then_ (by rw [HQ.out]; exact HBR0.out) hb2; have a1 : w2.cell? ⟨b, off + i * 3 + 1, none⟩ = some _ := later hB2 HA1.out; have a2 : w2.cell? ⟨b, off + i * 3 + 2, none⟩ = some _ := later hB2 HA2.out; have b1 : w2.cell? ⟨b', off' + i * 3 + 1, none⟩ = some _ := later hB2 HB1.out; have b2 : w2.cell? ⟨b', off' + i * 3 + 2, none⟩ = some _ := later hB2 HB2.out; have hbo2 : b < w2.heap.size := by have := hB2.size; omega
    have hbo2' : b' < w2.heap.size := by have := hB2.size; omega
    by_cases h1 : r = 0
    rotate_left
    ·have hre : R = false := HNE.out (fun e => h1 (by rw [← HRC.out, e]; exact Kpy _)); have e1 : (r != 0) = true := by rw [bne_iff_ne]; exact h1
     have e1' : decide (r = 0) = false := decide_eq_false h1; go_upto_region 7 with fail
     refine Kai (by kernel_rfl) (by kernel_rfl) ?_
     repeat (go_big_quiet_step (fail))
     refine wpQuiet_nil ?_; rintro w3 ⟨⟨_, hb3⟩, rfl⟩; have hB3 := Jh (then_ hB2 hb3); subst hre; go_wp2_with fail
     go_ret
     exact ⟨rfl, by rw [← HQ.out]; exact hB3.out⟩
    subst h1; have hlab : sra.labels = srb.labels := Kpq HRC.out
    by_cases h2 : sn = sn'
    rotate_left
    ·have hre : R = false := HNE.out (fun e => h2 (by have a := HSA.out.len; have b := HSB.out.len; rw [e] at a; exact a.symm.trans b)); have e2 : ((sn : Int) != (sn' : Int)) = true := by rw [bne_iff_ne]; omega
     have e2' : (sn != sn') = true := by rw [bne_iff_ne]; exact h2
     go_upto_region 7 with fail
     refine Kai (by kernel_rfl) (by kernel_rfl) ?_
     repeat (go_big_quiet_step (fail))
     refine wpQuiet_nil ?_; rintro w3 ⟨⟨_, hb3⟩, rfl⟩; have hB3 := Jh (then_ hB2 hb3); subst hre; go_wp2_with fail
     go_ret
     exact ⟨rfl, by rw [← HQ.out]; exact hB3.out⟩
    subst h2
    by_cases h3 : wn = wn'
    rotate_left
    ·have hre : R = false := HNE.out (fun e => h3 (by have a := HWA.out.len; have b := HWB.out.len; rw [e] at a; exact a.symm.trans b)); have e3 : ((wn : Int) != (wn' : Int)) = true := by rw [bne_iff_ne]; omega
     have e3' : (wn != wn') = true := by rw [bne_iff_ne]; exact h3
     go_upto_region 7 with fail
     refine Kai (by kernel_rfl) (by kernel_rfl) ?_
     repeat (go_big_quiet_step (fail))
     refine wpQuiet_nil ?_; rintro w3 ⟨⟨_, hb3⟩, rfl⟩; have hB3 := Jh (then_ hB2 hb3); subst hre; go_wp2_with fail
     go_ret
     exact ⟨rfl, by rw [← HQ.out]; exact hB3.out⟩
    subst h3; have HLAB := Jh hlab; go_upto_region 7 with fail
    refine Kai (by kernel_rfl) (by kernel_rfl) ?_
    repeat (go_big_quiet_step (fail))
    refine wpQuiet_nil ?_; rintro w3 ⟨⟨_, hb3⟩, rfl⟩; have hB3 := Jh (then_ hB2 hb3); have HBC := Jh (show Below q w w3 by rw [← HQ.out]; exact hB3.out); clear hlab hb3 a1 a2 b1 b2 a0 b0 hbo hbo' hbo2 hbo2'; go_upto_block 2 with fail
    go_cut [] (fun wz => sra.samples = srb.samples ∧ Below q w wz)
    case first =>
     go_wp2_with fail
     go_loopg [7] sn (fun g s7 wr => ∃ k : Nat, k + g = sn ∧ s7 = .int .i64 (k : Int) ∧ (∀ j, j < k → sra.samples[j]! = srb.samples[j]!) ∧ Below q w wr)
     case atStart => exact ⟨0, by omega, rfl, fun j hj => by omega, HBC.out⟩
     case round =>
      obtain ⟨k, hkg, rfl, hall, hbr⟩ := hrel; have HKG := Jh hkg; have HALL := Jh hall; have HBR := Jh hbr; clear hkg hall hbr; obtain ⟨wk, rfl⟩ : ∃ x, x = wr := ⟨_, rfl⟩; have hBk : Below w.heap.size w wk := by rw [HQ.out]; exact HBR.out
      have ba1 : wk.cell? ⟨b, off + i * 3 + 1, none⟩ = some _ := later hBk HA1.out; have bb1 : wk.cell? ⟨b', off' + i * 3 + 1, none⟩ = some _ := later hBk HB1.out; have hblk : b < wk.heap.size := by have := hBk.size; omega
      have hblk' : b' < wk.heap.size := by have := hBk.size; omega
      by_cases hk : k < sn
      ·have el : decide (k < sn) = true := by rw [decide_eq_true_eq]; exact hk
       obtain ⟨b1, o1, hA1, hb1, hg1⟩ := (HSA.out.below hBk).get hk; obtain ⟨b2, o2, hA2, hb2, hg2⟩ := (HSB.out.below hBk).get hk
       try dsimp only at hA1 hA2
       subst hA1 hA2; obtain ⟨x, hx⟩ : ∃ x, sra.samples[k]! = x := ⟨_, rfl⟩; obtain ⟨y, hy⟩ : ∃ y, srb.samples[k]! = y := ⟨_, rfl⟩; rw [hx] at hg1; rw [hy] at hg2; have cx0 : wk.cell? ⟨b1, o1 + k * 2, none⟩ = some (.int .i64 x.t) := hg1 0 _ rfl; have cx1 : wk.cell? ⟨b1, o1 + k * 2 + 1, none⟩ = some (.int .u64 (x.v : Int)) := hg1 1 _ rfl; have cy0 : wk.cell? ⟨b2, o2 + k * 2, none⟩ = some (.int .i64 y.t) := hg2 0 _ rfl; have cy1 : wk.cell? ⟨b2, o2 + k * 2 + 1, none⟩ = some (.int .u64 (y.v : Int)) := hg2 1 _ rfl; have HX := Jh hx; have HY := Jh hy; have hb1k : b1 < wk.heap.size := by have := hBk.size; omega
       have hb2k : b2 < wk.heap.size := by have := hBk.size; omega
       have hrun := Qfx x y; obtain ⟨dq, hdq⟩ : ∃ d, decide (x = y) = d := ⟨_, rfl⟩; rw [hdq] at hrun; have HDQ := Jh hdq; clear hx hy hg1 hg2 hdq; go_upto_region 12 with fail
       refine Kai (by kernel_rfl) (by kernel_rfl) ?_
       repeat (go_big_quiet_step (fail))
       refine wpQuiet_nil ?_; rintro w5 ⟨⟨_, hb5⟩, rfl⟩; have HB5 := Jh (HBR.out.trans (hb5.mono (by have := HBR.out.size; have := HQ.out; omega)))
       cases dq with
       | false =>
        have hre : R = false := HNE.out (fun e => of_decide_eq_false HDQ.out (by rw [← HX.out, ← HY.out, e])); subst hre; go_wp2_with fail
        go_ret
        exact ⟨rfl, HB5.out⟩
       | true =>
        have hnew : ∀ j, j < k + 1 → sra.samples[j]! = srb.samples[j]! := fun j hj => by
         by_cases hji : j = k
         ·subst hji; rw [HX.out, HY.out]; exact of_decide_eq_true HDQ.out
         ·exact HALL.out j (by omega)
        have HNEW := Jh hnew; clear hnew hb5; go_wp2_with fail
        go_roundg (gk - 1)
        case measure => have := HKG.out; omega
        case rel => exact ⟨k + 1, by have := HKG.out; omega, by go_num, HNEW.out, HB5.out⟩
      ·have el : decide (k < sn) = false := by rw [decide_eq_false_iff_not]; exact hk
       have heq : sra.samples = srb.samples := Kji (by have h1 : sra.samples.length = sn := HSA.out.len; have h2 : srb.samples.length = sn := HSB.out.len; omega) (fun j hj => HALL.out j (by have h1 : sra.samples.length = sn := HSA.out.len; have := HKG.out; omega)); have HEQs := Jh heq; clear heq; go_wp2_with fail
       go_meet
       exact ⟨HEQs.out, HBR.out⟩
    obtain ⟨heq, hBC⟩ := hcut; obtain ⟨ws9, rfl⟩ : ∃ x, x = wc := ⟨_, rfl⟩; have HEQs := Jh heq; have HBC := Jh hBC; clear heq hBC; go_wp2_with fail
    go_loopg [8] wn (fun g s8 wr => ∃ k : Nat, k + g = wn ∧ s8 = .int .i64 (k : Int) ∧ (∀ j, j < k → sra.windows[j]! = srb.windows[j]!) ∧ Below q w wr)
    case atStart => exact ⟨0, by omega, rfl, fun j hj => by omega, HBC.out⟩
    case round =>
     obtain ⟨k, hkg, rfl, hall, hbr⟩ := hrel; have HKG := Jh hkg; have HALL := Jh hall; have HBR := Jh hbr; clear hkg hall hbr; obtain ⟨wk, rfl⟩ : ∃ x, x = wr := ⟨_, rfl⟩; have hBk : Below w.heap.size w wk := by rw [HQ.out]; exact HBR.out
     have ba2 : wk.cell? ⟨b, off + i * 3 + 2, none⟩ = some _ := later hBk HA2.out; have bb2 : wk.cell? ⟨b', off' + i * 3 + 2, none⟩ = some _ := later hBk HB2.out; have hblk : b < wk.heap.size := by have := hBk.size; omega
     have hblk' : b' < wk.heap.size := by have := hBk.size; omega
     by_cases hk : k < wn
     ·have el : decide (k < wn) = true := by rw [decide_eq_true_eq]; exact hk
      obtain ⟨b1, o1, hA1, hb1, hg1⟩ := (HWA.out.below hBk).get hk; obtain ⟨b2, o2, hA2, hb2, hg2⟩ := (HWB.out.below hBk).get hk
      try dsimp only at hA1 hA2
      subst hA1 hA2; obtain ⟨x, hx⟩ : ∃ x, sra.windows[k]! = x := ⟨_, rfl⟩; obtain ⟨y, hy⟩ : ∃ y, srb.windows[k]! = y := ⟨_, rfl⟩; rw [hx] at hg1; rw [hy] at hg2; have cx0 : wk.cell? ⟨b1, o1 + k * 6, none⟩ = some (.int .i64 x.start) := hg1 0 _ rfl; have cx1 : wk.cell? ⟨b1, o1 + k * 6 + 1, none⟩ = some (.int .i64 x.count) := hg1 1 _ rfl; have cx2 : wk.cell? ⟨b1, o1 + k * 6 + 2, none⟩ = some (.int .u64 (x.sum : Int)) := hg1 2 _ rfl; have cx3 : wk.cell? ⟨b1, o1 + k * 6 + 3, none⟩ = some (.int .u64 (x.min : Int)) := hg1 3 _ rfl; have cx4 : wk.cell? ⟨b1, o1 + k * 6 + 4, none⟩ = some (.int .u64 (x.max : Int)) := hg1 4 _ rfl; have cx5 : wk.cell? ⟨b1, o1 + k * 6 + 5, none⟩ = some (.int .u64 (x.last : Int)) := hg1 5 _ rfl; have cy0 : wk.cell? ⟨b2, o2 + k * 6, none⟩ = some (.int .i64 y.start) := hg2 0 _ rfl; have cy1 : wk.cell? ⟨b2, o2 + k * 6 + 1, none⟩ = some (.int .i64 y.count) := hg2 1 _ rfl; have cy2 : wk.cell? ⟨b2, o2 + k * 6 + 2, none⟩ = some (.int .u64 (y.sum : Int)) := hg2 2 _ rfl; have cy3 : wk.cell? ⟨b2, o2 + k * 6 + 3, none⟩ = some (.int .u64 (y.min : Int)) := hg2 3 _ rfl; have cy4 : wk.cell? ⟨b2, o2 + k * 6 + 4, none⟩ = some (.int .u64 (y.max : Int)) := hg2 4 _ rfl; have cy5 : wk.cell? ⟨b2, o2 + k * 6 + 5, none⟩ = some (.int .u64 (y.last : Int)) := hg2 5 _ rfl; have HX := Jh hx; have HY := Jh hy; have hb1k : b1 < wk.heap.size := by have := hBk.size; omega
      have hb2k : b2 < wk.heap.size := by have := hBk.size; omega
      have hrun := Qfg x y; obtain ⟨dq, hdq⟩ : ∃ d, decide (x = y) = d := ⟨_, rfl⟩; rw [hdq] at hrun; have HDQ := Jh hdq; clear hx hy hg1 hg2 hdq; go_upto_region 17 with fail
      refine Kai (by kernel_rfl) (by kernel_rfl) ?_
      repeat (go_big_quiet_step (fail))
      refine wpQuiet_nil ?_; rintro w5 ⟨⟨_, hb5⟩, rfl⟩; have HB5 := Jh (HBR.out.trans (hb5.mono (by have := HBR.out.size; have := HQ.out; omega)))
      cases dq with
      | false =>
       have hre : R = false := HNE.out (fun e => of_decide_eq_false HDQ.out (by rw [← HX.out, ← HY.out, e])); subst hre; go_wp2_with fail
       go_ret
       exact ⟨rfl, HB5.out⟩
      | true =>
       have hnew : ∀ j, j < k + 1 → sra.windows[j]! = srb.windows[j]! := fun j hj => by
        by_cases hji : j = k
        ·subst hji; rw [HX.out, HY.out]; exact of_decide_eq_true HDQ.out
        ·exact HALL.out j (by omega)
       have HNEW := Jh hnew; clear hnew hb5; go_wp2_with fail
       go_roundg (gk - 1)
       case measure => have := HKG.out; omega
       case rel => exact ⟨k + 1, by have := HKG.out; omega, by go_num, HNEW.out, HB5.out⟩
     ·have el : decide (k < wn) = false := by rw [decide_eq_false_iff_not]; exact hk
      have heq : sra.windows = srb.windows := Kji (by have h1 : sra.windows.length = wn := HWA.out.len; have h2 : srb.windows.length = wn := HWB.out.len; omega) (fun j hj => HALL.out j (by have h1 : sra.windows.length = wn := HWA.out.len; have := HKG.out; omega)); have HEQw := Jh heq; clear heq
      have heq : sra = srb := by
       cases sra
       cases srb
       have h1 := HLAB.out; have h2 := HEQs.out; have h3 := HEQw.out; dsimp only at h1 h2 h3; rw [h1, h2, h3]
      have hnew : ∀ j, j < i + 1 → La[j]! = Lb[j]! := fun j hj => by
       by_cases hji : j = i
       ·subst hji; rw [HSRA.out, HSRB.out, heq]
       ·exact HSAME.out j (by omega)
      have HNEW := Jh hnew; clear heq hnew; go_wp2_with fail
      go_roundg (n - i - 1)
      case measure => have := HIG.out; omega
      case rel => exact ⟨i + 1, by have := HIG.out; omega, by go_num, HNEW.out, HBR.out⟩
   ·have el : decide (i < n) = false := by rw [decide_eq_false_iff_not]; exact hi
    have hre : R = true := by
     rw [← HR.out, decide_eq_true_eq]; exact Kji (by have := HLA.out; have := HLB.out; omega) (fun j hj => HSAME.out j (by have := HLA.out; omega))
    subst hre; go_wp2_with fail
    go_ret
    exact ⟨rfl, HBR0.out⟩
 ·have hre : R = false := by
   rw [← HR.out, decide_eq_false_iff_not]; intro e; apply hnm; rw [← HLA.out, ← HLB.out, e]
  have el : ((n : Int) != (m : Int)) = true := by rw [bne_iff_ne]; omega
  have el2 : (n != m) = true := by rw [bne_iff_ne]; omega
  subst hre; go_enter Tryz.func25, Tryz.ntmps25
  go_wp2_with fail
  go_ret
  exact ⟨rfl, Below.refl _ _⟩
end
end Go.Proofs.YtdoiekknhnbepaaGreatDoor
