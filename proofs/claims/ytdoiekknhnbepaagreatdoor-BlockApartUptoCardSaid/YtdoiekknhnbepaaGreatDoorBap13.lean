/- Merged (what the claim wants of): RefB1, RefB6. -/
import Derived.Test.YtdoiekknhnbepaaGreatDoorBap03
import Derived.Test.YtdoiekknhnbepaaGreatDoorBap08
import Derived.Test.YtdoiekknhnbepaaGreatDoorBap12
import Derived.Test.YtdoiekknhnbepaaGreatDoorBap09
import Derived.Test.YtdoiekknhnbepaaGreatDoorBap04
import Derived.Test.YtdoiekknhnbepaaGreatDoorBap06
import Derived.Test.YtdoiekknhnbepaaGreatDoorBap01
set_option linter.unusedVariables false
set_option linter.unusedSimpArgs false
set_option maxRecDepth 100000
set_option maxHeartbeats 8000000
namespace Go.Proofs.YtdoiekknhnbepaaGreatDoor
section
open Go.RowKit
open Lib renaming hid → Jh
attribute [local go_sem ↓] Go.wp_at_zero Go.wp_at_succ
attribute [local go_sem] Later.cell
theorem Krx (l : List Lb) (A : Option Addr) (n c : Nat) (w : World) (hE : Elems w w.heap.size 2 encLb A n l) (hnm : n * 32 ≤ 140737488351232) :
  Calls Tryz.prog 145 #[.slice A n c] w fun e w' => ∃ A c, e = .returned (.slice A l.length c) ∧ w'.ownsRow w.heap.size 180 2 (.slice A l.length c) l.length (l.flatMap encLb) ∧ Below w.heap.size w w' := by
 obtain ⟨i0, hi0, hz0, hz1, hz2⟩ := info_parts Qci; have hl := hE.len; have HL := Jh hl; clear hl; go_enter Tryz.func145, Tryz.ntmps145
 go_wp2_with fail
 go_loopg [3, 8] n (fun g s3 s8 wr => ∃ (i : Nat) (v3 : Value), v3 = s3 ∧ i + g = n ∧ s8 = .int .i64 (i : Int) ∧ RLabs w.heap.size wr v3 (l.take i) ∧ Below w.heap.size w wr)
 case atStart => exact ⟨0, _, rfl, by omega, rfl, World.ownsRow_nil _ _ _ _, Below.refl _ _⟩
 case round =>
  obtain ⟨i, v3, rfl, hig, rfl, hown, hB⟩ := hrel; have HIG := Jh hig; clear hig
  by_cases hi : i < n
  ·have hil : i < l.length := by have := HL.out; omega
   have el : decide ((i : Int) < (n : Int)) = true := by simp; omega
   have el' : decide (i < n) = true := by simp; omega
   obtain ⟨b, off, rfl, _, _⟩ := hE.2 (by omega); obtain ⟨hbl, c0, c1⟩ := Kca hE (by omega) hB i hil; obtain ⟨x, hx⟩ : ∃ x, l[i]! = x := ⟨_, rfl⟩; rw [hx] at c0 c1; obtain ⟨N, hN⟩ : ∃ N : ByteArray, (⟨x.n.toArray⟩ : ByteArray) = N := ⟨_, rfl⟩; obtain ⟨V, hV⟩ : ∃ N : ByteArray, (⟨x.v.toArray⟩ : ByteArray) = N := ⟨_, rfl⟩; rw [hN] at c0; rw [hV] at c1; have hbr : b < wr.heap.size := by have := hB.size; omega
   have htk : l.take (i + 1) = l.take i ++ [x] := by rw [List.take_succ_eq_append_getElem hil, ← hx, getElem!_pos l i hil]
   have htl : (l.take i).length = i := by rw [List.length_take]; omega
   obtain ⟨ys, hys⟩ : ∃ ys, l.take i = ys := ⟨_, rfl⟩; rw [hys] at htl hown htk; have hownY : wr.ownsRow w.heap.size 180 2 v3 i (ys.flatMap encLb) := by have := hown; unfold RLabs at this; rw [htl] at this; exact this
   have HTK := Jh htk; have HTL := Jh htl; have HN := Jh hN; have HV := Jh hV; clear hx hN hV htk htl hys hown; go_upto_region 5 with fail
   have hB1 : Below w.heap.size w (wr.alloc (.cells #[.string N, .string V] 99)) := hB.alloc hB.size _; have hq : Blk (wr.alloc (.cells #[.string N, .string V] 99)) wr.heap.size 99 #[.string N, .string V] := Blk.new _ _ _; have hown1 := hownY.alloc (.cells #[.string N, .string V] 99); obtain ⟨w1, hw1⟩ : ∃ w1, wr.alloc (.cells #[.string N, .string V] 99) = w1 := ⟨_, rfl⟩; obtain ⟨p, hp⟩ : ∃ p, wr.heap.size = p := ⟨_, rfl⟩; rw [hw1] at hB1 hq hown1 ⊢; rw [hp] at hq ⊢; clear hw1 hp c0 c1 hB hownY hbr; have q0 : _ = some (Value.string N) := hq.cell 0; have q1 : _ = some (Value.string V) := hq.cell 1; go_wp2_with (at_builtin; refine wpList_append_own_at _ rfl _ _ 89 rfl w.heap.size 180 i0 (.agg #[.string ⟨#[]⟩, .string ⟨#[]⟩]) 2 32 Tryz.underlying89 hi0 hz0 hz1 hz2 rfl (by decide) _ _ _ rfl (hown1.alloc _) ⟨w1.heap.size, 0, none⟩ 1 1 [.string N, .string V] rfl rfl ?p1 ?p2 ?p3 ?p4 ?p5 ?_)
   case p1 => exact Kbk (l := [.string N, .string V]) (Blk.new w1 _ _)
   case p2 => intro u hu; simp at hu; rcases hu with rfl | rfl <;> rfl
   case p3 => unfold maxLen; omega
   case p4 => omega
   case p5 => have := hB1.size; simp; omega
   intro v' w2 hown' hgrow hx9 hat; have hB2 : Below w.heap.size w w2 := Kqq hB1 hB1.size hown1 hgrow
   have hown2 : RLabs w.heap.size w2 v' (l.take (i + 1)) := by
    have e1 : (ys ++ [x]).flatMap encLb = ys.flatMap encLb ++ [.string N, .string V] := by rw [List.flatMap_append]; simp [encLb, HN.out, HV.out]
    unfold RLabs; rw [HTK.out, e1, List.length_append, HTL.out]; exact hown'
   clear hown' hgrow hx9 hat hown1 q0 q1 hq; go_wp2_with fail
   go_roundg (gk - 1)
   case measure => have := HIG.out; omega
   case rel => exact ⟨i + 1, _, rfl, by have := HIG.out; omega, by go_num, hown2, hB2⟩
  ·have el : decide ((i : Int) < (n : Int)) = false := by simp; omega
   have el' : decide (i < n) = false := by simp; omega
   have htk : l.take i = l := List.take_of_length_le (by have := HL.out; omega); rw [htk] at hown; unfold RLabs at hown; obtain ⟨A', c', rfl⟩ := Kbo hown; have HOWN := Jh hown; clear htk hown; go_wp2_with fail
   go_ret
   exact ⟨A', c', rfl, HOWN.out, hB⟩
theorem Kzv : (Tryz.prog.info? 133).map (fun i => (i.zero, i.size, i.bytes)) = some (some (.agg #[.int .i64 0, .int .u64 0]), 2, 16) := by kernel_rfl
theorem Qcn : (Tryz.prog.info? 136).map (fun i => (i.zero, i.size, i.bytes)) = some (some (.agg #[.int .i64 0, .int .i64 0, .int .u64 0, .int .u64 0, .int .u64 0, .int .u64 0]), 6, 48) := by kernel_rfl
theorem Qaj : (Tryz.prog.info? 132).map (fun i => (i.zero, i.size, i.bytes)) = some (some (.agg #[.slice none 0 0, .slice none 0 0, .slice none 0 0]), 3, 72) := by kernel_rfl
structure RSer (B : Nat) (w : World) (h : Hd3) (x : Ser) : Prop where
 l : w.ownsRow B 180 2 (.slice h.l.A h.l.n h.l.c) x.labels.length (x.labels.flatMap encLb)
 s : w.ownsRow B 133 2 (.slice h.s.A h.s.n h.s.c) x.samples.length (x.samples.flatMap Kbf)
 w : w.ownsRow B 136 6 (.slice h.w.A h.w.n h.w.c) x.windows.length (x.windows.flatMap Kaw)
theorem Kcp {w w' : World} {B n sz : Nat} {T : TypeId} {v : Value} {xs : List Value} (h : w.ownsRow B T sz v n xs) (hb : Below w.heap.size w w') : w'.ownsRow B T sz v n xs :=
 Ksx h fun g hg => hb.block g (h.lt g hg).2
theorem RSer.below {w w' : World} {B : Nat} {h : Hd3} {x : Ser} (hs : RSer B w h x) (hb : Below w.heap.size w w') : RSer B w' h x := ⟨Kcp hs.l hb, Kcp hs.s hb, Kcp hs.w hb⟩
theorem RSer.mono {w : World} {B B' : Nat} {h : Hd3} {x : Ser} (hs : RSer B w h x) (hb : B' ≤ B) : RSer B' w h x := ⟨World.ownsRow.mono hs.l hb, World.ownsRow.mono hs.s hb, World.ownsRow.mono hs.w hb⟩
theorem RSer.grown {w w' : World} {B B' n : Nat} {v : Value} {xs : List Value} {h : Hd3} {x : Ser} (hs : RSer B w h x) (hv : w.ownsRow B' 132 3 v n xs) (hg : w.grownBy w' v.ownBlock) : RSer B w' h x :=
 ⟨hs.l.kept hg (Kct hs.l hv (by decide)), hs.s.kept hg (Kct hs.s hv (by decide)), hs.w.kept hg (Kct hs.w hv (by decide))⟩
structure SrfAt (q : Nat) (wo : World) (p : Nat) (hl : Hd) (l : List Lb) (vs vw : Value) (xs : List Smp) (ys : List Wnd) (wr : World) : Prop where
 b : Blk wr p 132 #[.slice hl.A hl.n hl.c, vs, vw]
 l : wr.ownsRow q 180 2 (.slice hl.A hl.n hl.c) l.length (l.flatMap encLb)
 s : wr.ownsRow q 133 2 vs xs.length (xs.flatMap Kbf)
 w : wr.ownsRow q 136 6 vw ys.length (ys.flatMap Kaw)
 be : Below q wo wr
 qp : q ≤ p
theorem Kny (L : List Ser) (A : Option Addr) (n c : Nat) (w : World) (hS : Sers w A n L) (hn : n ≤ 1073741824) (hz : ∀ s ∈ L, s.samples.length ≤ 1099511627776 ∧ s.windows.length ≤ 1099511627776 ∧ s.labels.length ≤ 1099511627776) :
  Calls Tryz.prog 73 #[.slice A n c] w fun e w' => ∃ (A' : Option Addr) (c' : Nat) (hs : List Hd3), e = .returned (.slice A' n c') ∧ hs.length = n ∧ w'.ownsRow w.heap.size 132 3 (.slice A' n c') n (hs.flatMap encH3) ∧ (∀ (i : Nat) (h : Hd3), hs[i]? = some h → RSer w.heap.size w' h L[i]!) ∧ Below w.heap.size w w' := by
 obtain ⟨ib, hib, hz0, hz1, hz2⟩ := info_parts Qaj; obtain ⟨is, his, hs0, hs1, hs2⟩ := info_parts Kzv; obtain ⟨iw, hiw, hw0, hw1, hw2⟩ := info_parts Qcn; have hlen := hS.len; have HS := Jh hS; have HZ := Jh hz; have HLEN := Jh hlen; obtain ⟨q0, hq0⟩ : ∃ q0, w.heap.size = q0 := ⟨_, rfl⟩; have HQ0 := Jh hq0; rw [hq0]; clear hS hz hlen hq0; go_enter Tryz.func73, Tryz.ntmps73
 go_wp2_with fail
 go_loopg [3, 13] n (fun g s3 s13 wr => ∃ (i : Nat) (hs : List Hd3) (v3 : Value), v3 = s3 ∧ i + g = n ∧ s13 = .int .i64 (i : Int) ∧ hs.length = i ∧ wr.ownsRow q0 132 3 v3 i (hs.flatMap encH3) ∧ (∀ (j : Nat) (h : Hd3), hs[j]? = some h → RSer q0 wr h L[j]!) ∧ Below q0 w wr)
 case atStart => exact ⟨0, [], _, rfl, by omega, rfl, rfl, World.ownsRow_nil _ _ _ _, fun j h hj => by simp at hj, Below.refl _ _⟩
 case round =>
  obtain ⟨i, hs, v3, rfl, hig, rfl, hhl, hrow, hser, hB⟩ := hrel; have HIG := Jh hig; have HHL := Jh hhl; have HROW := Jh hrow; have HSER := Jh hser; have HB := Jh hB; clear hig hhl hrow hser hB
  by_cases hi : i < n
  ·have el : decide (i < n) = true := by rw [decide_eq_true_eq]; omega
   obtain ⟨wo, rfl⟩ : ∃ x, x = wr := ⟨_, rfl⟩; have hBw : Below w.heap.size w wo := by rw [HQ0.out]; exact HB.out
   obtain ⟨b, off, x, rfl, hbl, c0, c1, c2, hsa⟩ := (HS.out.below hBw).at_ hi; obtain ⟨⟨LA, ln, lc⟩, ⟨SA, sn, sc⟩, ⟨WA, wn, wc9⟩⟩ := x; have hil : i < L.length := by have := HLEN.out; omega
   have hzi := HZ.out L[i]! (by rw [getElem!_pos _ i hil]; exact List.getElem_mem hil); obtain ⟨sr, hsr⟩ : ∃ sr, L[i]! = sr := ⟨_, rfl⟩; rw [hsr] at hsa hzi; have HSR := Jh hsr; have HSA := Jh hsa; have HZI := Jh hzi; clear hsr hsa hzi hBw; go_upto_region 5 with fail
   have hb1 : Below wo.heap.size wo (wo.alloc (.cells #[.slice LA ln lc, .slice SA sn sc, .slice WA wn wc9] 58)) := (Below.refl _ _).alloc (Nat.le_refl _) _; have hp5 : Blk (wo.alloc (.cells #[.slice LA ln lc, .slice SA sn sc, .slice WA wn wc9] 58)) wo.heap.size 58 #[.slice LA ln lc, .slice SA sn sc, .slice WA wn wc9] := Blk.new _ _ _; obtain ⟨w1, hw1⟩ : ∃ w1, wo.alloc (.cells #[.slice LA ln lc, .slice SA sn sc, .slice WA wn wc9] 58) = w1 := ⟨_, rfl⟩; obtain ⟨p5, hp5e⟩ : ∃ p5, wo.heap.size = p5 := ⟨_, rfl⟩; rw [hw1] at hb1 hp5 ⊢; have hsa1 := HSA.out.below hb1; have hrow1 := Kcp HROW.out hb1; have hser1 : ∀ (j : Nat) (h : Hd3), hs[j]? = some h → RSer q0 w1 h L[j]! := fun j h hj => (HSER.out j h hj).below hb1
   have hB1 : Below q0 w w1 := HB.out.trans (hb1.mono (by have := HB.out.size; have := HQ0.out; omega)); rw [hp5e] at hp5 ⊢; obtain ⟨q, hq⟩ : ∃ q, w1.heap.size = q := ⟨_, rfl⟩; have hp5q : p5 < q := by rw [← hq]; exact hp5.lt
   have hq0q : q0 ≤ q := by have := hB1.size; have := HQ0.out; omega
   have k0 : w1.cell? ⟨p5, 0, none⟩ = some (.slice LA ln lc) := hp5.cell 0; have HP5 := Jh hp5; have HROW1 := Jh hrow1; have HSER1 := Jh hser1; have HB1 := Jh hB1; have HQ1 := Jh hq; have hlab := Krx sr.labels LA ln lc w1 hsa1.l (by have h1 : sr.labels.length = ln := hsa1.l.len; have := HZI.out; omega); have hll : sr.labels.length = ln := hsa1.l.len; rw [hll, hq] at hlab; have HLAB := Jh hlab; have HSE := Jh hsa1.s; have HWE := Jh hsa1.w; have HLL := Jh hll; have hsnz : sn ≤ 1099511627776 := by have h1 : sr.samples.length = sn := hsa1.s.len; have := HZI.out; omega
   have hwnz : wn ≤ 1099511627776 := by have h1 : sr.windows.length = wn := hsa1.w.len; have := HZI.out; omega
   clear hw1 hp5e hb1 hp5 hsa1 hrow1 hser1 hB1 c0 c1 c2 hq hlab hll; go_wp2_with fail
   refine HLAB.out.mono ?_; rintro _ w2 ⟨A0, cc0, rfl, hr0, hb2⟩; have HR0 := Jh hr0; have HB2 := Jh hb2; clear hr0 hb2 k0; go_upto_region 6 with fail
   have hq2 : q ≤ w2.heap.size := by have := HB2.out.size; have := HQ1.out; omega
   have hst0 : SrfAt q w1 w2.heap.size ⟨A0, ln, cc0⟩ sr.labels (.slice none 0 0) (.slice none 0 0) [] [] (w2.alloc (.cells #[.slice A0 ln cc0, .slice none 0 0, .slice none 0 0] 132)) :=
    ⟨Blk.new _ _ _, by have h1 := HR0.out; rw [← HLL.out] at h1; rw [← HLL.out]; exact h1.alloc _, World.ownsRow_nil _ _ _ _, World.ownsRow_nil _ _ _ _, by exact HB2.out.alloc hq2 _, hq2⟩
   obtain ⟨w3, hw3⟩ : ∃ w3, w2.alloc (.cells #[.slice A0 ln cc0, .slice none 0 0, .slice none 0 0] 132) = w3 := ⟨_, rfl⟩; obtain ⟨p, hp⟩ : ∃ p, w2.heap.size = p := ⟨_, rfl⟩; rw [hw3, hp] at hst0; rw [hw3, hp]; have HSTs := Jh hst0; have hk3 := HP5.out.below hst0.be hp5q; have k1 : w3.cell? ⟨p5, 1, none⟩ = some (.slice SA sn sc) := hk3.cell 1; have hp53 := hk3.lt; clear hw3 hp hst0 hk3 hq2; go_upto_block 2 with fail
   go_cut [] (fun wz => ∃ vs : Value, SrfAt q w1 p ⟨A0, ln, cc0⟩ sr.labels vs (.slice none 0 0) sr.samples [] wz)
   case first =>
    go_wp2_with fail
    go_loopg [24] sn (fun g s24 wr => ∃ (k : Nat) (vs : Value), k + g = sn ∧ s24 = .int .i64 (k : Int) ∧ SrfAt q w1 p ⟨A0, ln, cc0⟩ sr.labels vs (.slice none 0 0) (sr.samples.take k) [] wr)
    case atStart => exact ⟨0, _, by omega, rfl, HSTs.out⟩
    case round =>
     obtain ⟨k, vs, hkg, rfl, hst⟩ := hrel; have HKG := Jh hkg; have HST := Jh hst; clear hkg hst
     by_cases hk : k < sn
     ·have el : decide (k < sn) = true := by rw [decide_eq_true_eq]; omega
      obtain ⟨wk, rfl⟩ : ∃ x, x = wr := ⟨_, rfl⟩; have hst := HST.out; have htl0 : (sr.samples.take k).length = k := by have h1 := HSE.out.len; rw [List.length_take]; omega
      obtain ⟨VA, vc, hvs⟩ := Kbo hst.s; rw [htl0] at hvs; subst hvs; have hBk : Below w1.heap.size w1 wk := by rw [HQ1.out]; exact hst.be
      obtain ⟨bx, ox, hAx, hbx, hgx⟩ := (HSE.out.below hBk).get hk; subst hAx; have hkl : k < sr.samples.length := by have := HSE.out.len; omega
      obtain ⟨x, hx⟩ : ∃ x, sr.samples[k]! = x := ⟨_, rfl⟩; rw [hx] at hgx; have e0 : wk.cell? ⟨bx, ox + k * 2, none⟩ = some (.int .i64 x.t) := hgx 0 _ rfl; have e1 : wk.cell? ⟨bx, ox + k * 2 + 1, none⟩ = some (.int .u64 (x.v : Int)) := hgx 1 _ rfl; have hbxk : bx < wk.heap.size := by have := hBk.size; omega
      have htk : sr.samples.take (k + 1) = sr.samples.take k ++ [x] := by rw [List.take_succ_eq_append_getElem hkl, ← hx, getElem!_pos _ k hkl]
      have htl : (sr.samples.take k).length = k := by rw [List.length_take]; omega
      have HTK := Jh htk; have HTL := Jh htl; clear htk htl hx hgx hst htl0; go_upto_region 9 with fail
      have hst := HST.out; have hb4 : Below wk.heap.size wk (wk.alloc (.cells #[.int .i64 x.t, .int .u64 (x.v : Int)] 102)) := (Below.refl _ _).alloc (Nat.le_refl _) _; have hp8 : Blk (wk.alloc (.cells #[.int .i64 x.t, .int .u64 (x.v : Int)] 102)) wk.heap.size 102 #[.int .i64 x.t, .int .u64 (x.v : Int)] := Blk.new _ _ _; obtain ⟨w4, hw4e⟩ : ∃ w4, wk.alloc (.cells #[.int .i64 x.t, .int .u64 (x.v : Int)] 102) = w4 := ⟨_, rfl⟩; obtain ⟨p8, hp8e⟩ : ∃ p8, wk.heap.size = p8 := ⟨_, rfl⟩; rw [hw4e] at hb4 hp8 ⊢; have hown4 := Kcp hst.s hb4; have hl4 := Kcp hst.l hb4; have hw4 := Kcp hst.w hb4; have hbp4 := hst.b.below hb4 hst.b.lt; have hB4 : Below q w1 w4 := hst.be.trans (hb4.mono (by have := hst.be.size; have := HQ1.out; omega)); rw [hp8e] at hp8 ⊢; have u0 : w4.cell? ⟨p8, 0, none⟩ = some _ := hp8.cell 0; have u1 : w4.cell? ⟨p8, 1, none⟩ = some _ := hp8.cell 1; have d1 : w4.cell? ⟨p, 1, none⟩ = some _ := hbp4.cell 1; have hplt := hbp4.lt; have hqz : q ≤ w4.heap.size := by have := hB4.size; have := HQ1.out; omega
      rw [HTL.out] at hown4; have HST4 := Jh hst; have HOWN4 := Jh hown4; have HL4 := Jh hl4; have HW4 := Jh hw4; have HBP4 := Jh hbp4; have HB4 := Jh hB4; clear hw4e hp8e hst hl4 hw4 hbp4 hB4 hb4 hp8 hBk; go_wp2_with (at_builtin; refine wpList_append_own_at _ rfl _ _ 129 rfl q 133 is (.agg #[.int .i64 0, .int .u64 0]) 2 16 Tryz.underlying129 his hs0 hs1 hs2 rfl (by decide) _ _ _ rfl (hown4.alloc _) ⟨w4.heap.size, 0, none⟩ 1 1 [.int .i64 x.t, .int .u64 (x.v : Int)] rfl rfl (Kbk (l := [.int .i64 x.t, .int .u64 (x.v : Int)]) (Blk.new w4 _ _)) ?p2 ?p3 ?p4 ?p5 ?_)
      case p2 => first | exact ⟨rfl, rfl⟩ | (intro u hu; simp at hu; rcases hu with rfl | rfl <;> rfl)
      case p3 => unfold maxLen; omega
      case p4 => omega
      case p5 => first | omega | (simp; omega)
      intro v' w5 hown' hgrow0 _ _; have hgrow : w4.grownBy w5 (Value.slice VA k vc).ownBlock := (World.grownBy_alloc w4 _ _).trans hgrow0; have hown4 := HOWN4.out; have hl4 := HL4.out; have hw4 := HW4.out; have hst := HST4.out; have hl5 := hl4.kept hgrow (Kct hl4 hown4 (by decide)); have hw5 := hw4.kept hgrow (Kct hw4 hown4 (by decide)); have hb5 := HBP4.out.grown hgrow (Kbx HBP4.out hown4 (by decide)); have hB5 : Below q w1 w5 := HB4.out.trans ⟨hgrow.os, hgrow.tape, hgrow.output, hgrow.size, fun j hj => hgrow.block j (by omega) (fun e => by have := (hown4.lt j e.symm).1; omega)⟩; have f1 := hb5.frozen 1; have hplt5 := hb5.lt; have d1 : w5.cell? ⟨p, 1, none⟩ = some _ := hb5.cell 1
      have hnew : SrfAt q w1 p ⟨A0, ln, cc0⟩ sr.labels v' (.slice none 0 0) (sr.samples.take (k + 1)) [] (w5.setCell ⟨p, 1, none⟩ v') := by
       refine ⟨by exact hb5.set_ 1 _, Kcf hl5 hb5 (by decide), ?_, Kcf hw5 hb5 (by decide), hB5.setCell (p := ⟨p, 1, none⟩) hst.qp _, hst.qp⟩; refine Kcf ?_ hb5 (by decide); rw [HTK.out, List.length_append, HTL.out, List.flatMap_append]; exact hown'
      have HNEW := Jh hnew; obtain ⟨VA', vc', rfl⟩ := Kbo hown'; clear hnew hown' hgrow0 hgrow hown4 hl4 hw4 hst hl5 hw5 hb5 hB5; go_wp2_with fail
      go_roundg (gk - 1)
      case measure => have := HKG.out; omega
      case rel => exact ⟨k + 1, _, by have := HKG.out; omega, by go_num, HNEW.out⟩
     ·have el : decide (k < sn) = false := by rw [decide_eq_false_iff_not]; omega
      have htk : sr.samples.take k = sr.samples := List.take_of_length_le (by have := HSE.out.len; omega); have hst := HST.out; rw [htk] at hst; have HST2 := Jh hst; clear hst htk; go_wp2_with fail
      go_meet
      exact ⟨_, HST2.out⟩
   obtain ⟨vs, hst⟩ := hcut; obtain ⟨ws, rfl⟩ : ∃ x, x = wc := ⟨_, rfl⟩; obtain ⟨VS, VC, hvs⟩ := Kbo hst.s; subst hvs; have HSTw := Jh hst; have hks := HP5.out.below hst.be hp5q; have k2 : ws.cell? ⟨p5, 2, none⟩ = some (.slice WA wn wc9) := hks.cell 2; have hp5s := hks.lt; clear hks hst k1 hp53; go_upto_block 4 with fail
   go_cut [] (fun wz => ∃ vs : Value, SrfAt q w1 p ⟨A0, ln, cc0⟩ sr.labels (.slice VS sr.samples.length VC) vs sr.samples sr.windows wz)
   case first =>
    go_wp2_with fail
    go_loopg [42] wn (fun g s42 wr => ∃ (k : Nat) (vs : Value), k + g = wn ∧ s42 = .int .i64 (k : Int) ∧ SrfAt q w1 p ⟨A0, ln, cc0⟩ sr.labels (.slice VS sr.samples.length VC) vs sr.samples (sr.windows.take k) wr)
    case atStart => exact ⟨0, _, by omega, rfl, HSTw.out⟩
    case round =>
     obtain ⟨k, vs, hkg, rfl, hst⟩ := hrel; have HKG := Jh hkg; have HST := Jh hst; clear hkg hst
     by_cases hk : k < wn
     ·have el : decide (k < wn) = true := by rw [decide_eq_true_eq]; omega
      obtain ⟨wk, rfl⟩ : ∃ x, x = wr := ⟨_, rfl⟩; have hst := HST.out; have htl0 : (sr.windows.take k).length = k := by have h1 := HWE.out.len; rw [List.length_take]; omega
      obtain ⟨VA, vc, hvs⟩ := Kbo hst.w; rw [htl0] at hvs; subst hvs; have hBk : Below w1.heap.size w1 wk := by rw [HQ1.out]; exact hst.be
      obtain ⟨bx, ox, hAx, hbx, hgx⟩ := (HWE.out.below hBk).get hk; subst hAx; have hkl : k < sr.windows.length := by have := HWE.out.len; omega
      obtain ⟨x, hx⟩ : ∃ x, sr.windows[k]! = x := ⟨_, rfl⟩; rw [hx] at hgx; have e0 : wk.cell? ⟨bx, ox + k * 6, none⟩ = some (.int .i64 x.start) := hgx 0 _ rfl; have e1 : wk.cell? ⟨bx, ox + k * 6 + 1, none⟩ = some (.int .i64 x.count) := hgx 1 _ rfl; have e2 : wk.cell? ⟨bx, ox + k * 6 + 2, none⟩ = some (.int .u64 (x.sum : Int)) := hgx 2 _ rfl; have e3 : wk.cell? ⟨bx, ox + k * 6 + 3, none⟩ = some (.int .u64 (x.min : Int)) := hgx 3 _ rfl; have e4 : wk.cell? ⟨bx, ox + k * 6 + 4, none⟩ = some (.int .u64 (x.max : Int)) := hgx 4 _ rfl; have e5 : wk.cell? ⟨bx, ox + k * 6 + 5, none⟩ = some (.int .u64 (x.last : Int)) := hgx 5 _ rfl; have hbxk : bx < wk.heap.size := by have := hBk.size; omega
      have htk : sr.windows.take (k + 1) = sr.windows.take k ++ [x] := by rw [List.take_succ_eq_append_getElem hkl, ← hx, getElem!_pos _ k hkl]
      have htl : (sr.windows.take k).length = k := by rw [List.length_take]; omega
      have HTK := Jh htk; have HTL := Jh htl; clear htk htl hx hgx hst htl0; go_upto_region 14 with fail
      have hst := HST.out; have hb4 : Below wk.heap.size wk (wk.alloc (.cells #[.int .i64 x.start, .int .i64 x.count, .int .u64 (x.sum : Int), .int .u64 (x.min : Int), .int .u64 (x.max : Int), .int .u64 (x.last : Int)] 135)) := (Below.refl _ _).alloc (Nat.le_refl _) _; have hp8 : Blk (wk.alloc (.cells #[.int .i64 x.start, .int .i64 x.count, .int .u64 (x.sum : Int), .int .u64 (x.min : Int), .int .u64 (x.max : Int), .int .u64 (x.last : Int)] 135)) wk.heap.size 135 #[.int .i64 x.start, .int .i64 x.count, .int .u64 (x.sum : Int), .int .u64 (x.min : Int), .int .u64 (x.max : Int), .int .u64 (x.last : Int)] := Blk.new _ _ _; obtain ⟨w4, hw4e⟩ : ∃ w4, wk.alloc (.cells #[.int .i64 x.start, .int .i64 x.count, .int .u64 (x.sum : Int), .int .u64 (x.min : Int), .int .u64 (x.max : Int), .int .u64 (x.last : Int)] 135) = w4 := ⟨_, rfl⟩; obtain ⟨p8, hp8e⟩ : ∃ p8, wk.heap.size = p8 := ⟨_, rfl⟩; rw [hw4e] at hb4 hp8 ⊢; have hown4 := Kcp hst.w hb4; have hl4 := Kcp hst.l hb4; have hw4 := Kcp hst.s hb4; have hbp4 := hst.b.below hb4 hst.b.lt; have hB4 : Below q w1 w4 := hst.be.trans (hb4.mono (by have := hst.be.size; have := HQ1.out; omega)); rw [hp8e] at hp8 ⊢; have u0 : w4.cell? ⟨p8, 0, none⟩ = some _ := hp8.cell 0; have u1 : w4.cell? ⟨p8, 1, none⟩ = some _ := hp8.cell 1; have u2 : w4.cell? ⟨p8, 2, none⟩ = some _ := hp8.cell 2; have u3 : w4.cell? ⟨p8, 3, none⟩ = some _ := hp8.cell 3; have u4 : w4.cell? ⟨p8, 4, none⟩ = some _ := hp8.cell 4; have u5 : w4.cell? ⟨p8, 5, none⟩ = some _ := hp8.cell 5; have d2 : w4.cell? ⟨p, 2, none⟩ = some _ := hbp4.cell 2; have hplt := hbp4.lt; have hqz : q ≤ w4.heap.size := by have := hB4.size; have := HQ1.out; omega
      rw [HTL.out] at hown4; have HST4 := Jh hst; have HOWN4 := Jh hown4; have HL4 := Jh hl4; have HW4 := Jh hw4; have HBP4 := Jh hbp4; have HB4 := Jh hB4; clear hw4e hp8e hst hl4 hw4 hbp4 hB4 hb4 hp8 hBk; go_wp2_with (at_builtin; refine wpList_append_own_at _ rfl _ _ 130 rfl q 136 iw (.agg #[.int .i64 0, .int .i64 0, .int .u64 0, .int .u64 0, .int .u64 0, .int .u64 0]) 6 48 Tryz.underlying130 hiw hw0 hw1 hw2 rfl (by decide) _ _ _ rfl (hown4.alloc _) ⟨w4.heap.size, 0, none⟩ 1 1 [.int .i64 x.start, .int .i64 x.count, .int .u64 (x.sum : Int), .int .u64 (x.min : Int), .int .u64 (x.max : Int), .int .u64 (x.last : Int)] rfl rfl (Kbk (l := [.int .i64 x.start, .int .i64 x.count, .int .u64 (x.sum : Int), .int .u64 (x.min : Int), .int .u64 (x.max : Int), .int .u64 (x.last : Int)]) (Blk.new w4 _ _)) ?p2 ?p3 ?p4 ?p5 ?_)
      case p2 => first | exact ⟨rfl, rfl, rfl, rfl, rfl, rfl⟩ | (intro u hu; simp at hu; rcases hu with rfl | rfl | rfl | rfl | rfl | rfl <;> rfl)
      case p3 => unfold maxLen; omega
      case p4 => omega
      case p5 => first | omega | (simp; omega)
      intro v' w5 hown' hgrow0 _ _; have hgrow : w4.grownBy w5 (Value.slice VA k vc).ownBlock := (World.grownBy_alloc w4 _ _).trans hgrow0; have hown4 := HOWN4.out; have hl4 := HL4.out; have hw4 := HW4.out; have hst := HST4.out; have hl5 := hl4.kept hgrow (Kct hl4 hown4 (by decide)); have hw5 := hw4.kept hgrow (Kct hw4 hown4 (by decide)); have hb5 := HBP4.out.grown hgrow (Kbx HBP4.out hown4 (by decide)); have hB5 : Below q w1 w5 := HB4.out.trans ⟨hgrow.os, hgrow.tape, hgrow.output, hgrow.size, fun j hj => hgrow.block j (by omega) (fun e => by have := (hown4.lt j e.symm).1; omega)⟩; have f2 := hb5.frozen 2; have hplt5 := hb5.lt; have d2 : w5.cell? ⟨p, 2, none⟩ = some _ := hb5.cell 2
      have hnew : SrfAt q w1 p ⟨A0, ln, cc0⟩ sr.labels (.slice VS sr.samples.length VC) v' sr.samples (sr.windows.take (k + 1)) (w5.setCell ⟨p, 2, none⟩ v') := by
       refine ⟨by exact hb5.set_ 2 _, Kcf hl5 hb5 (by decide), Kcf hw5 hb5 (by decide), ?_, hB5.setCell (p := ⟨p, 2, none⟩) hst.qp _, hst.qp⟩; refine Kcf ?_ hb5 (by decide); rw [HTK.out, List.length_append, HTL.out, List.flatMap_append]; exact hown'
      have HNEW := Jh hnew; obtain ⟨VA', vc', rfl⟩ := Kbo hown'; clear hnew hown' hgrow0 hgrow hown4 hl4 hw4 hst hl5 hw5 hb5 hB5; go_wp2_with fail
      go_roundg (gk - 1)
      case measure => have := HKG.out; omega
      case rel => exact ⟨k + 1, _, by have := HKG.out; omega, by go_num, HNEW.out⟩
     ·have el : decide (k < wn) = false := by rw [decide_eq_false_iff_not]; omega
      have htk : sr.windows.take k = sr.windows := List.take_of_length_le (by have := HWE.out.len; omega); have hst := HST.out; rw [htk] at hst; have HST2 := Jh hst; clear hst htk; go_wp2_with fail
      go_meet
      exact ⟨_, HST2.out⟩
   obtain ⟨vs, hst⟩ := hcut; obtain ⟨ww, rfl⟩ : ∃ x, x = wc := ⟨_, rfl⟩; obtain ⟨VW, WC, hvw⟩ := Kbo hst.w; subst hvw; have hq1 := HQ1.out; have hbe : Below w1.heap.size w1 ww := by rw [hq1]; exact hst.be
   have hrow2 := Kcp HROW1.out hbe; have hser2 : ∀ (j : Nat) (h : Hd3), hs[j]? = some h → RSer q0 ww h L[j]! := fun j h hj => (HSER1.out j h hj).below hbe
   have hB2 : Below q0 w ww := HB1.out.trans (hst.be.mono hq0q); have e0 : ww.cell? ⟨p, 0, none⟩ = some (.slice A0 ln cc0) := hst.b.cell 0; have e1 : ww.cell? ⟨p, 1, none⟩ = some (.slice VS sr.samples.length VC) := hst.b.cell 1; have e2 : ww.cell? ⟨p, 2, none⟩ = some (.slice VW sr.windows.length WC) := hst.b.cell 2; have hpl := hst.b.lt; have hq0w : q0 ≤ ww.heap.size := by have := hB2.size; have := HQ0.out; omega
   have HSTF := Jh hst; have HROW2 := Jh hrow2; have HSER2 := Jh hser2; have HB2 := Jh hB2; clear hst hbe hser2 hB2 k2 hp5s; go_wp2_with (at_builtin; go_loud (refine wpList_append_own_at _ rfl _ _ 32 rfl q0 132 ib (.agg #[.slice none 0 0, .slice none 0 0, .slice none 0 0]) 3 72 Tryz.underlying32 hib hz0 hz1 hz2 rfl (by decide) _ _ _ rfl (hrow2.alloc _) ⟨ww.heap.size, 0, none⟩ 1 1 [.slice A0 ln cc0, .slice VS sr.samples.length VC, .slice VW sr.windows.length WC] rfl rfl (Kbk (l := [.slice A0 ln cc0, .slice VS sr.samples.length VC, .slice VW sr.windows.length WC]) (Blk.new ww _ _)) ?p2 ?p3 ?p4 ?p5 ?_))
   case p2 => first | exact ⟨rfl, rfl, rfl⟩ | (intro u hu; simp at hu; rcases hu with rfl | rfl | rfl <;> rfl)
   case p3 => unfold maxLen; omega
   case p4 => omega
   case p5 => first | omega | (simp; omega)
   intro v' w6 hown' hgrow0 _ _; have hgrow := (World.grownBy_alloc ww _ _).trans hgrow0; have hrow2 := HROW2.out; have hst := HSTF.out; have hnew : RSer q0 w6 ⟨⟨A0, ln, cc0⟩, ⟨VS, sr.samples.length, VC⟩, ⟨VW, sr.windows.length, WC⟩⟩ sr := RSer.grown (RSer.mono ⟨hst.l, hst.s, hst.w⟩ hq0q) hrow2 hgrow
   have hall : ∀ (j : Nat) (h : Hd3), (hs ++ [⟨⟨A0, ln, cc0⟩, ⟨VS, sr.samples.length, VC⟩, ⟨VW, sr.windows.length, WC⟩⟩])[j]? = some h → RSer q0 w6 h L[j]! := by
    intro j h hj
    by_cases hjl : j < hs.length
    ·rw [List.getElem?_append_left hjl] at hj; exact RSer.grown (HSER2.out j h hj) hrow2 hgrow
    ·have hj2 : j = hs.length := by
      have := (List.getElem?_eq_some_iff.1 hj).1; rw [List.length_append, List.length_singleton] at this; omega
     subst hj2; have e : h = ⟨⟨A0, ln, cc0⟩, ⟨VS, sr.samples.length, VC⟩, ⟨VW, sr.windows.length, WC⟩⟩ := by simpa using hj.symm
     subst e; rw [HHL.out, HSR.out]; exact hnew
   have hB6 : Below q0 w w6 := HB2.out.trans ⟨hgrow.os, hgrow.tape, hgrow.output, hgrow.size, fun j hj => hgrow.block j (by omega) (fun e => by have := (hrow2.lt j e.symm).1; omega)⟩
   have hrow6 : w6.ownsRow q0 132 3 v' (i + 1) ((hs ++ [(⟨⟨A0, ln, cc0⟩, ⟨VS, sr.samples.length, VC⟩, ⟨VW, sr.windows.length, WC⟩⟩ : Hd3)]).flatMap encH3) := by
    rw [List.flatMap_append]; exact hown'
   have HALL := Jh hall; have HB6 := Jh hB6; have HROW6 := Jh hrow6; clear hown' hgrow0 hgrow hrow2 hst hnew hall hB6 hrow6; go_wp2_with fail
   go_roundg (gk - 1)
   case measure => have := HIG.out; omega
   case rel => exact ⟨i + 1, _, _, rfl, by have := HIG.out; omega, by go_num, by rw [List.length_append, HHL.out]; rfl, HROW6.out, HALL.out, HB6.out⟩
  ·have el : decide (i < n) = false := by rw [decide_eq_false_iff_not]; omega
   have hin : i = n := by have := HIG.out; omega
   subst hin; obtain ⟨A', c', rfl⟩ := Kbo HROW.out; go_wp2_with fail
   go_ret
   exact ⟨A', c', hs, rfl, HHL.out, HROW.out, HSER.out, HB.out⟩
end
section
open Go.RowKit
open Lib renaming hid → Jh
open List renaming setIfInBounds_toArray → Ja, set_cons_zero → Jb, set_cons_succ → Jc
attribute [local go_sem ↓] Go.wp_at_zero Go.wp_at_succ
attribute [local go_sem] Later.cell
theorem RSer.at_ {B : Nat} {w : World} {h : Hd3} {s : Ser} (hs : RSer B w h s) : SerAt w h ⟨s.labels, s.samples, s.windows⟩ ∧ h.l.n = s.labels.length ∧ h.s.n = s.samples.length ∧ h.w.n = s.windows.length := by
 obtain ⟨A0, c0, e0, k0, _, m0⟩ := Elems.of_own (enc := encLb) (fun x _ => Kbt x) rfl hs.l rfl; obtain ⟨A1, c1, e1, k1, _, m1⟩ := Elems.of_own (enc := Kbf) (fun _ _ => rfl) rfl hs.s rfl; obtain ⟨A2, c2, e2, k2, _, m2⟩ := Elems.of_own (enc := Kaw) (fun _ _ => rfl) rfl hs.w rfl; injection e0 with e0 f0 g0; injection e1 with e1 f1 g1; injection e2 with e2 f2 g2; obtain ⟨⟨a0, b0, d0⟩, ⟨a1, b1, d1⟩, ⟨a2, b2, d2⟩⟩ := h; dsimp only at e0 f0 g0 e1 f1 g1 e2 f2 g2; subst e0 f0 g0 e1 f1 g1 e2 f2 g2; exact ⟨⟨k0, m0, k1, m1, k2, m2⟩, rfl, rfl, rfl⟩
theorem Qbn {w : World} {B n : Nat} {A : Option Addr} {c : Nat} {hs : List Hd3} {L : List Ser} (hl : hs.length = n) (hL : L.length = n) (h : w.ownsRow B 132 3 (.slice A n c) n (hs.flatMap encH3)) (hr : ∀ (i : Nat) (h : Hd3), hs[i]? = some h → RSer B w h L[i]!) : Sers w A n L ∧ n ≤ c := by
 obtain ⟨A', c', e, k, _, m⟩ := Elems.of_own (enc := encH3) (fun _ _ => rfl) rfl h hl; injection e with e _ g; subst e g; exact ⟨⟨hs, k, hL, fun i x hx => ((hr i x hx).at_).1⟩, m⟩
theorem RSer.far {w : World} {B : Nat} {h : Hd3} {x : Ser} (hs : RSer B w h x) {p : Addr} (hp : p.block < B) (u : Value) : RSer B (w.setCell p u) h x := ⟨Kbb hs.l (Kcn hs.l hp) u, Kbb hs.s (Kcn hs.s hp) u, Kbb hs.w (Kcn hs.w hp) u⟩
structure Kbu (w : World) (A : Option Addr) (n : Nat) (L : List Ser) : Prop where
 s : Sers w A n L
 n : L.length ≤ 1073741824
 z : ∀ s ∈ L, SerSz s
theorem Kbu.below {w w' : World} {A : Option Addr} {n : Nat} {L : List Ser} (h : Kbu w A n L) (hb : Below w.heap.size w w') : Kbu w' A n L := ⟨h.s.below hb, h.n, h.z⟩
theorem Kbu.sz {w : World} {A : Option Addr} {n : Nat} {L : List Ser} (h : Kbu w A n L) : ∀ s ∈ L, s.samples.length ≤ 1099511627776 ∧ s.windows.length ≤ 1099511627776 ∧ s.labels.length ≤ 1099511627776 := fun s hs => ⟨(h.z s hs).n, (h.z s hs).m, (h.z s hs).l⟩
theorem Kmx (c : Cont) (hd : Hd) (w : World) (hS : Kbu w hd.A hd.n c.series) :
  Calls Tryz.prog 28 #[contV c.res c.frm c.to_ hd] w fun e w' => (∃ hd', e = .returned (contV c.res c.frm c.to_ hd') ∧ Kbu w' hd'.A hd'.n c.series) ∧ Below w.heap.size w w' := by
 obtain ⟨r, hr⟩ : ∃ r, c.res = r := ⟨_, rfl⟩; obtain ⟨f, hf⟩ : ∃ f, c.frm = f := ⟨_, rfl⟩; obtain ⟨t, ht⟩ : ∃ t, c.to_ = t := ⟨_, rfl⟩; obtain ⟨L, hL⟩ : ∃ L, c.series = L := ⟨_, rfl⟩; obtain ⟨A, n, cc⟩ := hd; rw [hL] at hS; rw [hr, hf, ht, hL]; unfold contV; dsimp only at hS ⊢; have HSO := Jh hS; clear hr hf ht hL hS; go_enter Tryz.func28, Tryz.ntmps28
 go_upto_region 1 with fail
 have hb0 : Below w.heap.size w ((w.alloc (.cells #[.int .i64 r, .int .i64 f, .int .i64 t, .slice A n cc] 28)).alloc (.cells #[.int .i64 0, .int .i64 0, .int .i64 0, .slice none 0 0] 34)) := ((Below.refl _ _).alloc (Nat.le_refl _) _).alloc (by simp) _; have hk0 : Blk ((w.alloc (.cells #[.int .i64 r, .int .i64 f, .int .i64 t, .slice A n cc] 28)).alloc (.cells #[.int .i64 0, .int .i64 0, .int .i64 0, .slice none 0 0] 34)) w.heap.size 28 #[.int .i64 r, .int .i64 f, .int .i64 t, .slice A n cc] := (Blk.new _ _ _).alloc _; have hk1 : Blk ((w.alloc (.cells #[.int .i64 r, .int .i64 f, .int .i64 t, .slice A n cc] 28)).alloc (.cells #[.int .i64 0, .int .i64 0, .int .i64 0, .slice none 0 0] 34)) (w.heap.size + 1) 34 #[.int .i64 0, .int .i64 0, .int .i64 0, .slice none 0 0] := Blk.newAt (by simp); obtain ⟨w1, hw1⟩ : ∃ w1, (w.alloc (.cells #[.int .i64 r, .int .i64 f, .int .i64 t, .slice A n cc] 28)).alloc (.cells #[.int .i64 0, .int .i64 0, .int .i64 0, .slice none 0 0] 34) = w1 := ⟨_, rfl⟩; rw [hw1] at hb0 hk0 hk1 ⊢; have HSO1 := Jh (HSO.out.below hb0); obtain ⟨q, hq⟩ : ∃ q, w.heap.size = q := ⟨_, rfl⟩; rw [hq] at hb0 hk0 hk1 ⊢; have HB0 := Jh hb0; have HK0 := Jh hk0; have HK1 := Jh hk1; clear hw1; have hS : w1.drew.cell? ⟨q, 0, none⟩ = some (.int .i64 r) ∧ w1.drew.cell? ⟨q, 1, none⟩ = some (.int .i64 f) ∧ w1.drew.cell? ⟨q, 2, none⟩ = some (.int .i64 t) ∧ w1.drew.cell? ⟨q, 3, none⟩ = some (.slice A n cc) := ⟨hk0.cell 0, hk0.cell 1, hk0.cell 2, hk0.cell 3⟩; refine Kas (fun w' => w'.cell? ⟨q, 0, none⟩ = some (.int .i64 r) ∧ w'.cell? ⟨q, 1, none⟩ = some (.int .i64 f) ∧ w'.cell? ⟨q, 2, none⟩ = some (.int .i64 t) ∧ w'.cell? ⟨q, 3, none⟩ = some (.slice A n cc)) 10 11 (by kernel_rfl) rfl ?_; rw [show Array.replicate 11 false = #[false, false, false, false, false, false, false, false, false, false, false] from rfl]; refine Kaa (i := 0) (d := some 3) rfl rfl (by kernel_rfl) (by kernel_rfl) (by kernel_rfl) rfl (fun _ _ _ h => h) (by rfl) (fun w => by go_simp; try rfl) (fun _ => hS) ?_; simp only [Act.put, Ja, Jb, Jc]; refine Kaf (i := 1) (d := some 4) rfl rfl (by kernel_rfl) (by kernel_rfl) (by kernel_rfl) (by kernel_rfl) rfl (fun _ _ _ h => h) (.inl ⟨by rfl, fun w hw => by (obtain ⟨ha, hb, hc, hd⟩ := hw; go_simp; try rfl)⟩) hS ?_; simp only [Act.put, Ja, Jb, Jc]; refine Kaa (i := 2) (d := some 5) rfl rfl (by kernel_rfl) (by kernel_rfl) (by kernel_rfl) rfl (fun _ _ _ h => h) (by rfl) (fun w => by go_simp; try rfl) (fun _ => hS) ?_; simp only [Act.put, Ja, Jb, Jc]; refine Kaf (i := 3) (d := some 6) rfl rfl (by kernel_rfl) (by kernel_rfl) (by kernel_rfl) (by kernel_rfl) rfl (fun _ _ _ h => h) (.inl ⟨by rfl, fun w hw => by (obtain ⟨ha, hb, hc, hd⟩ := hw; go_simp; try rfl)⟩) hS ?_; simp only [Act.put, Ja, Jb, Jc]; refine Kaa (i := 4) (d := some 7) rfl rfl (by kernel_rfl) (by kernel_rfl) (by kernel_rfl) rfl (fun _ _ _ h => h) (by rfl) (fun w => by go_simp; try rfl) (fun _ => hS) ?_; simp only [Act.put, Ja, Jb, Jc]; refine Kaf (i := 5) (d := some 8) rfl rfl (by kernel_rfl) (by kernel_rfl) (by kernel_rfl) (by kernel_rfl) rfl (fun _ _ _ h => h) (.inl ⟨by rfl, fun w hw => by (obtain ⟨ha, hb, hc, hd⟩ := hw; go_simp; try rfl)⟩) hS ?_; simp only [Act.put, Ja, Jb, Jc]; refine Kaa (i := 6) (d := some 9) rfl rfl (by kernel_rfl) (by kernel_rfl) (by kernel_rfl) rfl (fun _ _ _ h => h) (by rfl) (fun w => by go_simp; try rfl) (fun _ => hS) ?_
 simp only [Act.put, Ja, Jb, Jc]; refine Kaf (i := 7) (d := some 10) rfl rfl (by kernel_rfl) (by kernel_rfl) (by kernel_rfl) (by kernel_rfl) rfl (fun _ _ _ h => h) (.inl ⟨by rfl, fun w hw => by (obtain ⟨ha, hb, hc, hd⟩ := hw; go_simp; try rfl)⟩) hS ?_; simp only [Act.put, Ja, Jb, Jc]; refine Kac (i := 8) (by kernel_rfl) rfl rfl ?_; have hc := Kny L A n cc w1.drew (HSO1.out.s.below (Below.refl _ _).drew) (by have := HSO1.out.n; have := HSO1.out.s.len; omega) HSO1.out.sz; refine Oper.wp_called (d := some 11) (w1 := w1.drew) (g := 73) (args := #[.slice A n cc]) rfl (by go_simp; try rfl) (N := fun u w' => ∃ (A' : Option Addr) (c' : Nat) (hs : List Hd3), u = .slice A' n c' ∧ hs.length = n ∧ w'.ownsRow w1.heap.size 132 3 (.slice A' n c') n (hs.flatMap encH3) ∧ (∀ (i : Nat) (h : Hd3), hs[i]? = some h → RSer w1.heap.size w' h L[i]!) ∧ Below w1.heap.size w1 w') (hc.mono ?_) ?_
 ·rintro e w2 ⟨A', c', hs, rfl, hl, hrow, hser, hb2⟩; exact ⟨_, rfl, A', c', hs, rfl, hl, hrow, hser, Kbv hb2⟩
 ·rintro u w2 ⟨A', c', hs, rfl, hl, hrow, hser, hb2⟩; have hk2 := HK0.out.below hb2 HK0.out.lt; have hS : w2.cell? ⟨q, 0, none⟩ = some (.int .i64 r) ∧ w2.cell? ⟨q, 1, none⟩ = some (.int .i64 f) ∧ w2.cell? ⟨q, 2, none⟩ = some (.int .i64 t) ∧ w2.cell? ⟨q, 3, none⟩ = some (.slice A n cc) := ⟨hk2.cell 0, hk2.cell 1, hk2.cell 2, hk2.cell 3⟩; refine ⟨fun _ => hS, ?_⟩; simp only [Act.put, Ja, Jb, Jc]; refine Kaa (i := 9) (d := some 12) rfl rfl (by kernel_rfl) (by kernel_rfl) (by kernel_rfl) rfl (fun _ _ _ h => h) (by rfl) (fun w => by go_simp; try rfl) (fun _ => hS) ?_; simp only [Act.put, Ja, Jb, Jc]; have hk3 := HK1.out.below hb2 HK1.out.lt; have d0 : w2.cell? ⟨q + 1, 0, none⟩ = some (.int .i64 0) := hk3.cell 0; have d1 : w2.cell? ⟨q + 1, 1, none⟩ = some (.int .i64 0) := hk3.cell 1; have d2 : w2.cell? ⟨q + 1, 2, none⟩ = some (.int .i64 0) := hk3.cell 2; have d3 : w2.cell? ⟨q + 1, 3, none⟩ = some (.slice none 0 0) := hk3.cell 3; have f0 := hk3.frozen 0; have f1 := hk3.frozen 1; have f2 := hk3.frozen 2; have f3 := hk3.frozen 3; refine Kac (i := 10) (by kernel_rfl) rfl rfl ?_; refine Oper.wp_skipped (w' := (((w2.setCell ⟨q + 1, 0, none⟩ (.int .i64 r)).setCell ⟨q + 1, 1, none⟩ (.int .i64 f)).setCell ⟨q + 1, 2, none⟩ (.int .i64 t)).setCell ⟨q + 1, 3, none⟩ (.slice A' n c')) rfl (by go_simp) ?_; refine ⟨fun h => absurd h (by decide), ?_⟩; refine Kao (by kernel_rfl) ?_ _; have k0 := (((hk3.set_ 0 (.int .i64 r)).set_ 1 (.int .i64 f)).set_ 2 (.int .i64 t)).set_ 3 (.slice A' n c')
  have hbz : Below q w ((((w2.setCell ⟨q + 1, 0, none⟩ (.int .i64 r)).setCell ⟨q + 1, 1, none⟩ (.int .i64 f)).setCell ⟨q + 1, 2, none⟩ (.int .i64 t)).setCell ⟨q + 1, 3, none⟩ (.slice A' n c')) :=
   ((((HB0.out.trans (hb2.mono (by have := HK0.out.lt; omega))).setCell (p := ⟨q + 1, 0, none⟩) (Nat.le_succ q) _).setCell (p := ⟨q + 1, 1, none⟩) (Nat.le_succ q) _).setCell (p := ⟨q + 1, 2, none⟩) (Nat.le_succ q) _).setCell (p := ⟨q + 1, 3, none⟩) (Nat.le_succ q) _
  have hq1 : q + 1 < w1.heap.size := HK1.out.lt; have hrow2 := Kbb (Kbb (Kbb (Kbb hrow (p := ⟨q + 1, 0, none⟩) (Kcn hrow hq1) (.int .i64 r)) (p := ⟨q + 1, 1, none⟩) (Kcn hrow hq1) (.int .i64 f)) (p := ⟨q + 1, 2, none⟩) (Kcn hrow hq1) (.int .i64 t)) (p := ⟨q + 1, 3, none⟩) (Kcn hrow hq1) (.slice A' n c')
  have hser2 : ∀ (i : Nat) (h : Hd3), hs[i]? = some h → RSer w1.heap.size ((((w2.setCell ⟨q + 1, 0, none⟩ (.int .i64 r)).setCell ⟨q + 1, 1, none⟩ (.int .i64 f)).setCell ⟨q + 1, 2, none⟩ (.int .i64 t)).setCell ⟨q + 1, 3, none⟩ (.slice A' n c')) h L[i]! := fun i h hi =>
   ((((hser i h hi).far (p := ⟨q + 1, 0, none⟩) hq1 _).far (p := ⟨q + 1, 1, none⟩) hq1 _).far (p := ⟨q + 1, 2, none⟩) hq1 _).far (p := ⟨q + 1, 3, none⟩) hq1 _
  obtain ⟨wf, hwf⟩ : ∃ wf, (((w2.setCell ⟨q + 1, 0, none⟩ (.int .i64 r)).setCell ⟨q + 1, 1, none⟩ (.int .i64 f)).setCell ⟨q + 1, 2, none⟩ (.int .i64 t)).setCell ⟨q + 1, 3, none⟩ (.slice A' n c') = wf := ⟨_, rfl⟩; rw [hwf] at k0 hbz hrow2 hser2 ⊢; have HK := Jh k0; have HBZ := Jh hbz; have HSE := Jh (Qbn hl HSO1.out.s.len hrow2 hser2).1; clear hwf k0 hbz hrow2 hser2 hrow hser hk2 hk3 d0 d1 d2 d3 f0 f1 f2 f3 hS hb2 hl; simp only [Act.put]
  iterate 4 (try (first | go_values | go_skip | go_guarded | go_step | go_upon | go_back))
  refine bodyPost_ret (Kdo rfl _ _ ⟨q + 1, 0, none⟩ (.agg #[.int .i64 r, .int .i64 f, .int .i64 t, .slice A' n c']) rfl (run_loadVar_row _ (q + 1) 34 34 _ (0, 0) _ HK.out Tryz.underlying34 rfl (by kernel_rfl))) rfl ?_; exact ⟨⟨⟨A', n, c'⟩, rfl, HSE.out, HSO1.out.n, HSO1.out.z⟩, by rw [hq]; exact HBZ.out⟩
theorem Ksk (a b : Cont) (ha hb : Hd) (w : World) (hA : Kbu w ha.A ha.n a.series) (hB : Kbu w hb.A hb.n b.series) :
  Calls Tryz.prog 17 #[contV a.res a.frm a.to_ ha, contV b.res b.frm b.to_ hb] w fun e w' => e = .returned (.bool (decide (a = b))) ∧ Below w.heap.size w w' := by
 obtain ⟨R, hR⟩ : ∃ R, decide (a = b) = R := ⟨_, rfl⟩; rw [hR]; obtain ⟨r, f, t, L⟩ := a; obtain ⟨r', f', t', L'⟩ := b; obtain ⟨A, n, cc⟩ := ha; obtain ⟨B, m, cb⟩ := hb; unfold contV; dsimp only at hA hB ⊢; have HA := Jh hA; have HB := Jh hB; have HR := Jh hR; clear hA hB hR; go_enter Tryz.func17, Tryz.ntmps17
 go_upto_region 1 with fail
 have hb0 : Below w.heap.size w ((w.alloc (.cells #[.int .i64 r, .int .i64 f, .int .i64 t, .slice A n cc] 34)).alloc (.cells #[.int .i64 r', .int .i64 f', .int .i64 t', .slice B m cb] 34)) := ((Below.refl _ _).alloc (Nat.le_refl _) _).alloc (by simp) _; have hk0 : Blk ((w.alloc (.cells #[.int .i64 r, .int .i64 f, .int .i64 t, .slice A n cc] 34)).alloc (.cells #[.int .i64 r', .int .i64 f', .int .i64 t', .slice B m cb] 34)) w.heap.size 34 #[.int .i64 r, .int .i64 f, .int .i64 t, .slice A n cc] := (Blk.new _ _ _).alloc _; have hk1 : Blk ((w.alloc (.cells #[.int .i64 r, .int .i64 f, .int .i64 t, .slice A n cc] 34)).alloc (.cells #[.int .i64 r', .int .i64 f', .int .i64 t', .slice B m cb] 34)) (w.heap.size + 1) 34 #[.int .i64 r', .int .i64 f', .int .i64 t', .slice B m cb] := Blk.newAt (by simp); obtain ⟨w1, hw1⟩ : ∃ w1, (w.alloc (.cells #[.int .i64 r, .int .i64 f, .int .i64 t, .slice A n cc] 34)).alloc (.cells #[.int .i64 r', .int .i64 f', .int .i64 t', .slice B m cb] 34) = w1 := ⟨_, rfl⟩; rw [hw1] at hb0 hk0 hk1 ⊢; have HA1 := Jh (HA.out.below hb0); have HB1 := Jh (HB.out.below hb0); have HB0 := Jh hb0; obtain ⟨q, hq⟩ : ∃ q, w.heap.size = q := ⟨_, rfl⟩; rw [hq] at hk0 hk1 ⊢; have HK0 := Jh hk0; have HK1 := Jh hk1; have k3 : w1.cell? ⟨q, 3, none⟩ = some (.slice A n cc) := hk0.cell 3; have l3 : w1.cell? ⟨q + 1, 3, none⟩ = some (.slice B m cb) := hk1.cell 3; have HC := Jh (Krh L L' A B n m cc cb w1 HA1.out.s HB1.out.s (by have := HA1.out.n; have := HA1.out.s.len; omega) (by have := HB1.out.n; have := HB1.out.s.len; omega) HA1.out.sz HB1.out.sz); clear hw1 hb0 hk0 hk1 hq; go_wp2_with fail
 refine HC.out.mono ?_; rintro _ w2 ⟨rfl, hb2⟩; have hk0 := HK0.out.below hb2 HK0.out.lt; have hk1 := HK1.out.below hb2 HK1.out.lt; have k0 : w2.cell? ⟨q, 0, none⟩ = some (.int .i64 r) := hk0.cell 0; have k1 : w2.cell? ⟨q, 1, none⟩ = some (.int .i64 f) := hk0.cell 1; have k2 : w2.cell? ⟨q, 2, none⟩ = some (.int .i64 t) := hk0.cell 2; have l0 : w2.cell? ⟨q + 1, 0, none⟩ = some (.int .i64 r') := hk1.cell 0; have l1 : w2.cell? ⟨q + 1, 1, none⟩ = some (.int .i64 f') := hk1.cell 1; have l2 : w2.cell? ⟨q + 1, 2, none⟩ = some (.int .i64 t') := hk1.cell 2; have HBZ := Jh (then_ HB0.out hb2); clear hb2 hk0 hk1 k3 l3
 have hno : ¬ (L = L' ∧ r = r' ∧ f = f' ∧ t = t') → R = false := fun h => by
  rw [← HR.out, decide_eq_false_iff_not]; intro e; injection e with e1 e2 e3 e4; exact h ⟨e4, e1, e2, e3⟩
 have HNO := Jh hno; clear hno
 by_cases h1 : L = L'
 ·have e1 : decide (L = L') = true := decide_eq_true h1; rw [e1]
  by_cases h2 : r = r'
  ·have e2 : (r == r') = true := by simpa using h2
   have e2' : decide (r = r') = true := decide_eq_true h2
   by_cases h3 : f = f'
   ·have e3 : (f == f') = true := by simpa using h3
    have e3' : decide (f = f') = true := decide_eq_true h3
    by_cases h4 : t = t'
    ·have e4 : (t == t') = true := by simpa using h4
     have e4' : decide (t = t') = true := decide_eq_true h4; have hre : R = true := by rw [← HR.out, decide_eq_true_eq, h1, h2, h3, h4]
     subst hre; clear h1 h2 h3 h4 e1; go_wp2_with fail
     go_ret
     exact ⟨rfl, HBZ.out⟩
    ·have e4 : (t == t') = false := by simpa using h4
     have e4' : decide (t = t') = false := decide_eq_false h4; have hre : R = false := HNO.out (fun h => h4 h.2.2.2); subst hre; clear h1 h2 h3 h4 e1; go_wp2_with fail
     go_ret
     exact ⟨rfl, HBZ.out⟩
   ·have e3 : (f == f') = false := by simpa using h3
    have e3' : decide (f = f') = false := decide_eq_false h3; have hre : R = false := HNO.out (fun h => h3 h.2.2.1); subst hre; clear h1 h2 h3 e1; go_wp2_with fail
    go_ret
    exact ⟨rfl, HBZ.out⟩
  ·have e2 : (r == r') = false := by simpa using h2
   have e2' : decide (r = r') = false := decide_eq_false h2; have hre : R = false := HNO.out (fun h => h2 h.2.1); subst hre; clear h1 h2 e1; go_wp2_with fail
   go_ret
   exact ⟨rfl, HBZ.out⟩
 ·have e1 : decide (L = L') = false := decide_eq_false h1; rw [e1]; have hre : R = false := HNO.out (fun h => h1 h.1); subst hre; clear h1 e1; go_wp2_with fail
  go_ret
  exact ⟨rfl, HBZ.out⟩
theorem Kjb (a b : Cont) (ha hb : Hd) (w : World) (hA : Kbu w ha.A ha.n a.series) (hB : Kbu w hb.A hb.n b.series) :
  Calls Tryz.prog 30 #[contV a.res a.frm a.to_ ha, contV b.res b.frm b.to_ hb] w fun e w' => e = .returned (.bool (decide (a = b))) ∧ Below w.heap.size w w' := by
 obtain ⟨R, hR⟩ : ∃ R, decide (a = b) = R := ⟨_, rfl⟩; rw [hR]; have hal := fun (W : World) (h1 h2 : Hd) => Ksk a b h1 h2 W
 have hra := fun (W : World) (h1 : Hd) => Kmx a h1 W
 have hrb := fun (W : World) (h1 : Hd) => Kmx b h1 W
 rw [hR] at hal; obtain ⟨r, f, t, L⟩ := a; obtain ⟨r', f', t', L'⟩ := b; obtain ⟨A, n, cc⟩ := ha; obtain ⟨B, m, cb⟩ := hb; unfold contV at hal hra hrb ⊢; dsimp only at hA hB hal hra hrb ⊢; have HA := Jh hA; have HB := Jh hB; have HAL := Jh hal; have HRA := Jh hra; have HRB := Jh hrb; clear hA hB hR hal hra hrb; go_enter Tryz.func30, Tryz.ntmps30
 go_upto_region 1 with fail
 have hb0 : Below w.heap.size w ((w.alloc (.cells #[.int .i64 r, .int .i64 f, .int .i64 t, .slice A n cc] 28)).alloc (.cells #[.int .i64 r', .int .i64 f', .int .i64 t', .slice B m cb] 28)) := ((Below.refl _ _).alloc (Nat.le_refl _) _).alloc (by simp) _; have hk0 : Blk ((w.alloc (.cells #[.int .i64 r, .int .i64 f, .int .i64 t, .slice A n cc] 28)).alloc (.cells #[.int .i64 r', .int .i64 f', .int .i64 t', .slice B m cb] 28)) w.heap.size 28 #[.int .i64 r, .int .i64 f, .int .i64 t, .slice A n cc] := (Blk.new _ _ _).alloc _; have hk1 : Blk ((w.alloc (.cells #[.int .i64 r, .int .i64 f, .int .i64 t, .slice A n cc] 28)).alloc (.cells #[.int .i64 r', .int .i64 f', .int .i64 t', .slice B m cb] 28)) (w.heap.size + 1) 28 #[.int .i64 r', .int .i64 f', .int .i64 t', .slice B m cb] := Blk.newAt (by simp); obtain ⟨w1, hw1⟩ : ∃ w1, (w.alloc (.cells #[.int .i64 r, .int .i64 f, .int .i64 t, .slice A n cc] 28)).alloc (.cells #[.int .i64 r', .int .i64 f', .int .i64 t', .slice B m cb] 28) = w1 := ⟨_, rfl⟩; rw [hw1] at hb0 hk0 hk1 ⊢; have HA1 := Jh (HA.out.below hb0); have HB1 := Jh (HB.out.below hb0); have HB0 := Jh hb0; obtain ⟨q, hq⟩ : ∃ q, w.heap.size = q := ⟨_, rfl⟩; rw [hq] at hk0 hk1 ⊢; have HK0 := Jh hk0; have HK1 := Jh hk1; clear hw1; have hS : w1.drew.cell? ⟨q, 0, none⟩ = some (.int .i64 r) ∧ w1.drew.cell? ⟨q, 1, none⟩ = some (.int .i64 f) ∧ w1.drew.cell? ⟨q, 2, none⟩ = some (.int .i64 t) ∧ w1.drew.cell? ⟨q, 3, none⟩ = some (.slice A n cc) ∧ w1.drew.cell? ⟨q + 1, 0, none⟩ = some (.int .i64 r') ∧ w1.drew.cell? ⟨q + 1, 1, none⟩ = some (.int .i64 f') ∧ w1.drew.cell? ⟨q + 1, 2, none⟩ = some (.int .i64 t') ∧ w1.drew.cell? ⟨q + 1, 3, none⟩ = some (.slice B m cb) := ⟨hk0.cell 0, hk0.cell 1, hk0.cell 2, hk0.cell 3, hk1.cell 0, hk1.cell 1, hk1.cell 2, hk1.cell 3⟩; refine Kas (fun w' => w'.cell? ⟨q, 0, none⟩ = some (.int .i64 r) ∧ w'.cell? ⟨q, 1, none⟩ = some (.int .i64 f) ∧ w'.cell? ⟨q, 2, none⟩ = some (.int .i64 t) ∧ w'.cell? ⟨q, 3, none⟩ = some (.slice A n cc) ∧ w'.cell? ⟨q + 1, 0, none⟩ = some (.int .i64 r') ∧ w'.cell? ⟨q + 1, 1, none⟩ = some (.int .i64 f') ∧ w'.cell? ⟨q + 1, 2, none⟩ = some (.int .i64 t') ∧ w'.cell? ⟨q + 1, 3, none⟩ = some (.slice B m cb)) 5 6 (by kernel_rfl) rfl ?_; rw [show Array.replicate 6 false = #[false, false, false, false, false, false] from rfl]; refine Kaf (i := 0) (d := some 5) rfl rfl (by kernel_rfl) (by kernel_rfl) (by kernel_rfl) (by kernel_rfl) rfl (fun _ _ _ h => h) (.inl ⟨by rfl, fun w hw => by (obtain ⟨ha, hb, hc, hd, he, hf, hg, hh⟩ := hw; go_simp; try rfl)⟩) hS ?_; simp only [Act.put, Ja, Jb, Jc]; refine Kaf (i := 2) (d := some 7) rfl rfl (by kernel_rfl) (by kernel_rfl) (by kernel_rfl) (by kernel_rfl) rfl (fun _ _ _ h => h) (.inl ⟨by rfl, fun w hw => by (obtain ⟨ha, hb, hc, hd, he, hf, hg, hh⟩ := hw; go_simp; try rfl)⟩) hS ?_; simp only [Act.put, Ja, Jb, Jc]; refine Kac (i := 1) (by kernel_rfl) rfl rfl ?_; have hd1 : Below w1.heap.size w1 w1.drew := (Below.refl _ _).drew; refine Oper.wp_called (d := some 6) (w1 := w1.drew) (g := 28) (args := #[.agg #[.int .i64 r, .int .i64 f, .int .i64 t, .slice A n cc]]) rfl (by go_simp; try rfl) (N := fun u w' => ∃ h1 : Hd, u = .agg #[.int .i64 r, .int .i64 f, .int .i64 t, .slice h1.A h1.n h1.c] ∧ Kbu w' h1.A h1.n L ∧ Below w1.heap.size w1 w') ((HRA.out w1.drew ⟨A, n, cc⟩ (HA1.out.below hd1)).mono ?_) ?_
 ·rintro e w2 ⟨⟨h1, rfl, hs⟩, hb2⟩; exact ⟨_, rfl, h1, rfl, hs, Kbv hb2⟩
 rintro u w2 ⟨h1, rfl, hs1, hb2⟩; have hk2 := HK0.out.below hb2 HK0.out.lt; have hk3 := HK1.out.below hb2 HK1.out.lt; have hS : w2.cell? ⟨q, 0, none⟩ = some (.int .i64 r) ∧ w2.cell? ⟨q, 1, none⟩ = some (.int .i64 f) ∧ w2.cell? ⟨q, 2, none⟩ = some (.int .i64 t) ∧ w2.cell? ⟨q, 3, none⟩ = some (.slice A n cc) ∧ w2.cell? ⟨q + 1, 0, none⟩ = some (.int .i64 r') ∧ w2.cell? ⟨q + 1, 1, none⟩ = some (.int .i64 f') ∧ w2.cell? ⟨q + 1, 2, none⟩ = some (.int .i64 t') ∧ w2.cell? ⟨q + 1, 3, none⟩ = some (.slice B m cb) := ⟨hk2.cell 0, hk2.cell 1, hk2.cell 2, hk2.cell 3, hk3.cell 0, hk3.cell 1, hk3.cell 2, hk3.cell 3⟩; refine ⟨fun _ => hS, ?_⟩; simp only [Act.put, Ja, Jb, Jc]; refine Kac (i := 3) (by kernel_rfl) rfl rfl ?_; refine Oper.wp_called (d := some 8) (w1 := w2) (g := 28) (args := #[.agg #[.int .i64 r', .int .i64 f', .int .i64 t', .slice B m cb]]) rfl (by go_simp; try rfl) (N := fun u w' => ∃ h2 : Hd, u = .agg #[.int .i64 r', .int .i64 f', .int .i64 t', .slice h2.A h2.n h2.c] ∧ Kbu w' h2.A h2.n L' ∧ Below w2.heap.size w2 w') ((HRB.out w2 ⟨B, m, cb⟩ (HB1.out.below hb2)).mono ?_) ?_
 ·rintro e w3 ⟨⟨h2, rfl, hs⟩, hb3⟩; exact ⟨_, rfl, h2, rfl, hs, hb3⟩
 rintro u w3 ⟨h2, rfl, hs2, hb3⟩; have hk4 := hk2.below hb3 hk2.lt; have hk5 := hk3.below hb3 hk3.lt; have hS : w3.cell? ⟨q, 0, none⟩ = some (.int .i64 r) ∧ w3.cell? ⟨q, 1, none⟩ = some (.int .i64 f) ∧ w3.cell? ⟨q, 2, none⟩ = some (.int .i64 t) ∧ w3.cell? ⟨q, 3, none⟩ = some (.slice A n cc) ∧ w3.cell? ⟨q + 1, 0, none⟩ = some (.int .i64 r') ∧ w3.cell? ⟨q + 1, 1, none⟩ = some (.int .i64 f') ∧ w3.cell? ⟨q + 1, 2, none⟩ = some (.int .i64 t') ∧ w3.cell? ⟨q + 1, 3, none⟩ = some (.slice B m cb) := ⟨hk4.cell 0, hk4.cell 1, hk4.cell 2, hk4.cell 3, hk5.cell 0, hk5.cell 1, hk5.cell 2, hk5.cell 3⟩; refine ⟨fun _ => hS, ?_⟩; simp only [Act.put, Ja, Jb, Jc]; refine Kac (i := 4) (by kernel_rfl) rfl rfl ?_; refine Oper.wp_called (d := some 9) (w1 := w3) (g := 17) (args := #[.agg #[.int .i64 r, .int .i64 f, .int .i64 t, .slice h1.A h1.n h1.c], .agg #[.int .i64 r', .int .i64 f', .int .i64 t', .slice h2.A h2.n h2.c]]) rfl (by go_simp; try rfl) (N := fun u w' => u = .bool R ∧ Below w3.heap.size w3 w') ((HAL.out w3 h1 h2 (hs1.below hb3) hs2).mono ?_) ?_
 ·rintro e w4 ⟨rfl, hb4⟩; exact ⟨_, rfl, rfl, hb4⟩
 rintro u w4 ⟨rfl, hb4⟩; have hk6 := hk4.below hb4 hk4.lt; have hk7 := hk5.below hb4 hk5.lt; have hS : w4.cell? ⟨q, 0, none⟩ = some (.int .i64 r) ∧ w4.cell? ⟨q, 1, none⟩ = some (.int .i64 f) ∧ w4.cell? ⟨q, 2, none⟩ = some (.int .i64 t) ∧ w4.cell? ⟨q, 3, none⟩ = some (.slice A n cc) ∧ w4.cell? ⟨q + 1, 0, none⟩ = some (.int .i64 r') ∧ w4.cell? ⟨q + 1, 1, none⟩ = some (.int .i64 f') ∧ w4.cell? ⟨q + 1, 2, none⟩ = some (.int .i64 t') ∧ w4.cell? ⟨q + 1, 3, none⟩ = some (.slice B m cb) := ⟨hk6.cell 0, hk6.cell 1, hk6.cell 2, hk6.cell 3, hk7.cell 0, hk7.cell 1, hk7.cell 2, hk7.cell 3⟩; refine ⟨fun _ => hS, ?_⟩; simp only [Act.put, Ja, Jb, Jc]; refine Kac (i := 5) (by kernel_rfl) rfl rfl ?_; refine Oper.wp_ran (d := some 4) (w' := w4) (v := .bool R) rfl (by go_simp; try rfl) ?_; refine ⟨fun h => absurd h (by decide), ?_⟩; simp only [Act.put, Ja, Jb, Jc]; refine Kao (by kernel_rfl) ?_ _; have HBZ := Jh (then_ (then_ (then_ HB0.out hb2) hb3) hb4); clear hb2 hb3 hb4 hk0 hk1 hk2 hk3 hk4 hk5 hk6 hk7 hS hd1; go_wp2_with fail
 go_ret
 exact ⟨rfl, HBZ.out⟩
end
end Go.Proofs.YtdoiekknhnbepaaGreatDoor
