/- Merged (what the claim wants of): BlkBuild, ChkRdF. -/
import Derived.Test.YtdoiekknhnbepaaGreatDoorBap07
import Derived.Test.YtdoiekknhnbepaaGreatDoorBap08
import Derived.Test.YtdoiekknhnbepaaGreatDoorBap05
import Derived.Test.YtdoiekknhnbepaaGreatDoorBap09
import Derived.Test.YtdoiekknhnbepaaGreatDoorBap04
import Derived.Test.YtdoiekknhnbepaaGreatDoorBap03
import Derived.Test.YtdoiekknhnbepaaGreatDoorBap01
set_option linter.unusedVariables false
set_option linter.unusedSimpArgs false
set_option maxRecDepth 100000
set_option maxHeartbeats 8000000
namespace Go.Proofs.YtdoiekknhnbepaaGreatDoor
section
open Go.RowKit Go.Shelf Go.Sort Go.Maps
open Go.ChangeMaps (setBlock)
open Lib renaming hid → Jh
open List renaming length_append → Jd
attribute [local go_sem ↓] Go.wp_at_zero Go.wp_at_succ
attribute [local go_sem] Later.cell
theorem Kla {S : List (List Lb)} {l : List Lb} (hd : l.Nodup) {k : Nat} (hk : k < l.length) : addF (Kdh S l k) l[k]! S.length = Kdh S l (k + 1) := by
 have hx : l[k]! = l[k] := getElem!_pos l k hk; have htk : l.take (k + 1) = l.take k ++ [l[k]] := (List.take_append_getElem hk).symm; have hl : l = l.take k ++ l[k] :: l.drop (k + 1) := by rw [← List.drop_eq_getElem_cons hk, List.take_append_drop]
 have hd2 : (l.take k ++ l[k] :: l.drop (k + 1)).Nodup := by rw [← hl]; exact hd
 have hno : l[k] ∉ l.take k := fun hm => (List.nodup_append.1 hd2).2.2 _ hm _ (List.mem_cons_self ..) rfl
 funext y; unfold addF Kdh; rw [hx, htk]
 by_cases hy : y = l[k]
 ·rw [if_pos hy, if_neg hno, hy, if_pos (List.mem_append.2 (.inr (List.mem_singleton.2 rfl)))]
 ·rw [if_neg hy]
  have : y ∈ l.take k ++ [l[k]] ↔ y ∈ l.take k := by
   rw [List.mem_append, List.mem_singleton]; exact ⟨fun h => h.resolve_right hy, .inl⟩
  by_cases hm : y ∈ l.take k
  ·rw [if_pos hm, if_pos (this.2 hm)]
  ·rw [if_neg hm, if_neg (fun h => hm (this.1 h))]
def filV (f : Fil) : Value := .agg #[txtV f.mt, txtV f.ck, txtV f.ix]
def Kby (c : Cont) : Fil := if fitB c = true then Kbc c else ⟨[], [], []⟩
theorem Qat : (Tryz.prog.info? 54).map (fun i => (i.zero, i.size, i.bytes)) = some (some (.slice none 0 0), 1, 24) := by kernel_rfl
theorem Qed (h : Hd) : (encH h).length = 1 := rfl
structure FstAt (c : Cont) (hs : List Hd3) (q m i : Nat) (vs : Value) (w1 w : World) : Prop where
 row : w.ownsRow (q + 2) 54 1 vs i (((hs.map Hd3.l).take i).flatMap encH)
 map : ∃ es clock, LMap w (q + 2) m (Kaj ((Kad c).take i)) (i * 8) es clock
 b : Below (q + 2) w1 w
theorem Qby {c : Cont} {i : Nat} (h : i < c.series.length) : (Kad c).take (i + 1) = (Kad c).take i ++ [(c.series[i]!).labels] ∧ ((Kad c).take i).length = i := by
 have e : (Kad c)[i]? = some (c.series[i]!).labels := by
  unfold Kad; rw [List.getElem?_map, List.getElem?_eq_getElem h, getElem!_pos _ i h]; rfl
 refine ⟨by rw [List.take_add_one, e]; rfl, ?_⟩; have : (Kad c).length = c.series.length := by unfold Kad; rw [List.length_map]
 rw [List.length_take]; omega
theorem Kld {w : World} {B n sz b : Nat} {T : TypeId} {v : Value} {xs : List Value} {es : Array MapEntry} {clock : Nat} (h : w.ownsRow B T sz v n xs) (hb : w.heap[b]? = some (.map es clock)) : v.ownBlock = none ∨ v.ownBlock ≠ some b := .inr (Khq h hb)
def ixAt (c : Cont) (T : List Txt) (i : Nat) : List UInt8 := tabT T ++ (uintT c.series.length ++ (c.series.take i).flatMap (serT T))
def ckAt (c : Cont) (i : Nat) : List UInt8 := (c.series.take i).flatMap fun s => (Kak s).flatten
theorem Kuo {c : Cont} {i : Nat} (h : i < c.series.length) : c.series.take (i + 1) = c.series.take i ++ [c.series[i]!] := by
 rw [List.take_add_one, List.getElem?_eq_getElem h, getElem!_pos _ i h]; rfl
theorem Qcl {c : Cont} {T : List Txt} {i : Nat} (h : i < c.series.length) : ixAt c T (i + 1) = ixAt c T i ++ serT T c.series[i]! := by
 unfold ixAt; rw [Kuo h, List.flatMap_append, List.flatMap_singleton]; simp only [List.append_assoc]
theorem Qaa {c : Cont} {i : Nat} (h : i < c.series.length) : ckAt c (i + 1) = ckAt c i ++ (Kak c.series[i]!).flatten := by
 unfold ckAt; rw [Kuo h, List.flatMap_append, List.flatMap_singleton]
theorem Kju {α β : Type} (f : α → List β) (l : List α) (i : Nat) : ((l.take i).flatMap f).length ≤ (l.flatMap f).length := by
 have : l.flatMap f = (l.take i).flatMap f ++ (l.drop i).flatMap f := by rw [← List.flatMap_append, List.take_append_drop]
 rw [this, Jd]; omega
theorem Kwy (c : Cont) (i : Nat) : (ixAt c (tabOf (Kad c)) i).length + (Kbi (Kad c)).length ≤ (Kbd c).length := by
 unfold ixAt Kbd; have := Kju (serT (tabOf (Kad c))) c.series i; simp only [Jd]; omega
theorem Qcs (c : Cont) : ixAt c (tabOf (Kad c)) c.series.length ++ Kbi (Kad c) = Kbd c := by
 unfold ixAt Kbd; rw [List.take_length]; simp only [List.append_assoc]
theorem Qfm (c : Cont) (i : Nat) : (ckAt c i).length ≤ (Kch c).length := Kju _ c.series i
theorem Qer (c : Cont) : ckAt c c.series.length = Kch c := by
 unfold ckAt Kch; rw [List.take_length]
theorem Knv : ∀ {L : List (List Lb)}, (∀ s ∈ L, s.length ≤ 8) → (allT L).length ≤ 16 * L.length
 | [], _ => by simp [allT]
 | l :: L, h => by
  have h1 := Knv (L := L) fun s hs => h s (by simp [hs])
  have h2 := h l (by simp); rw [Kqo, Jd, Kfs, List.length_cons]; omega
theorem Qbr {l : List Lb} {x : Txt} (h : x ∈ texts l) : ∃ y ∈ l, x = y.n ∨ x = y.v := by
 unfold texts at h; obtain ⟨y, hy, hx⟩ := List.mem_flatMap.1 h; simp at hx; exact ⟨y, hy, hx⟩
theorem Qav (P : List (List UInt8)) : (lensT P).length ≤ 11 * P.length := by
 induction P with
 | nil => simp [lensT]
 | cons p P ih =>
  have h := (Kab p.length).2; have e : lensT (p :: P) = uintT p.length ++ lensT P := rfl; rw [e, Jd, List.length_cons]; omega
theorem Kys (s : Ser) : (Kak s).length ≤ s.samples.length + 1 := by
 have a1 := Kdr s.samples.length s.samples; have a2 : (aggsT s.windows).length ≤ 1 := by cases s.windows <;> simp [aggsT]
 unfold Kak; rw [Jd, List.length_map]; omega
theorem Krz {P : List (List UInt8)} {k : Nat} (h : k < P.length) : (P.take (k + 1)).flatten = (P.take k).flatten ++ P[k]! ∧ ((P.take (k + 1)).flatten).length ≤ P.flatten.length := by
 have e : P.take (k + 1) = P.take k ++ [P[k]!] := by rw [List.take_add_one, List.getElem?_eq_getElem h, getElem!_pos _ k h]; rfl
 refine ⟨by rw [e, List.flatten_append]; simp, ?_⟩; have : P.flatten = (P.take (k + 1)).flatten ++ (P.drop (k + 1)).flatten := by rw [← List.flatten_append, List.take_append_drop]
 rw [this, Jd]; omega
theorem Kzh {P : List (List UInt8)} {k : Nat} (h : k < P.length) : lensT (P.take (k + 1)) = lensT (P.take k) ++ uintT (P[k]!).length := by
 have e : P.take (k + 1) = P.take k ++ [P[k]!] := by rw [List.take_add_one, List.getElem?_eq_getElem h, getElem!_pos _ k h]; rfl
 unfold lensT; rw [e, List.flatMap_append, List.flatMap_singleton]
theorem bnd1 {A X U L Z I l l' k u n : Nat} (h : A + (X + (U + L)) + Z ≤ I) (hI : I ≤ 35184372088832) (hl : l ≤ 11 * l') (hl' : l' ≤ k) (hk : k < n) (hn : n ≤ 1099511627777) (hu : u ≤ 11) : A + X + U + l + u ≤ 140737488355328 := by omega
theorem bnd2 {A F C f y : Nat} (h : A + F ≤ C) (hC : C ≤ 35184372088832) (hf : f + y ≤ F) : A + f + y ≤ 140737488355328 := by omega
theorem Klf (c : Cont) (hd : Hd) (w : World) (hS : Sers w hd.A hd.n c.series) (hz : ∀ s ∈ c.series, SerSz s) (hn : hd.n ≤ 1073741824) (hT : DbTab w) (hN : Kbz w)
  (hsz : fitB c = true → (Kch c).length ≤ 35184372088832 ∧ (Kbd c).length ≤ 35184372088832) :
  Calls Tryz.prog 19 #[contV c.res c.frm c.to_ hd] w fun e w' => e = .returned (.tuple #[filV (Kby c), .int .i64 (if fitB c = true then 0 else 190)]) ∧ Below w.heap.size w w' := by
 have hmm := @run_makeMap Tryz.prog; obtain ⟨i0, hi0, hz0, hz1, hz2⟩ := info_parts Qat; obtain ⟨i1, hi1, hy0, hy1, hy2⟩ := info_parts Kiq; have hlen : c.series.length = hd.n := hS.len; obtain ⟨r, hr⟩ : ∃ r, c.res = r := ⟨_, rfl⟩; obtain ⟨f, hf⟩ : ∃ f, c.frm = f := ⟨_, rfl⟩; obtain ⟨t, ht⟩ : ∃ t, c.to_ = t := ⟨_, rfl⟩; obtain ⟨F, hF⟩ : ∃ F, fitB c = F := ⟨_, rfl⟩; have hfit := fun (w : World) (h : Sers w hd.A hd.n c.series) => Kzx c hd w h hz (by omega)
 obtain ⟨A, hA⟩ : ∃ A, hd.A = A := ⟨_, rfl⟩; obtain ⟨n, hn'⟩ : ∃ n, hd.n = n := ⟨_, rfl⟩; obtain ⟨cc, hcc⟩ : ∃ cc, hd.c = cc := ⟨_, rfl⟩; obtain ⟨G, hG⟩ : ∃ G, Kby c = G := ⟨_, rfl⟩; unfold contV; unfold contV at hfit; rw [hA, hn', hcc, hr, hf, ht, hF] at hfit; rw [hr, hf, ht, hA, hn', hcc, hF, hG]; rw [hA, hn'] at hS; rw [hn'] at hlen hn; rw [hF] at hsz; have HFIT := Jh hfit; have HS := Jh hS; have HZ := Jh hz; have HT := Jh hT; have HN := Jh hN; have HSZ := Jh hsz; have HF := Jh hF; have HG := Jh hG; have HLEN := Jh hlen; have HRR := Jh hr; have HRF := Jh hf; have HRT := Jh ht; obtain ⟨q, hq⟩ : ∃ q, w.heap.size = q := ⟨_, rfl⟩; have hb1 : Below q w ((w.alloc (.cells #[.int .i64 r, .int .i64 f, .int .i64 t, .slice A n cc] 28)).alloc (.cells #[.string ⟨#[]⟩, .string ⟨#[]⟩, .string ⟨#[]⟩] 44)) := ((Below.refl _ _).alloc (by omega) _).alloc (by simp; omega) _; have hk1 : Blk ((w.alloc (.cells #[.int .i64 r, .int .i64 f, .int .i64 t, .slice A n cc] 28)).alloc (.cells #[.string ⟨#[]⟩, .string ⟨#[]⟩, .string ⟨#[]⟩] 44)) q 28 #[.int .i64 r, .int .i64 f, .int .i64 t, .slice A n cc] := (Blk.newAt hq.symm).alloc _; have hf1 : Blk ((w.alloc (.cells #[.int .i64 r, .int .i64 f, .int .i64 t, .slice A n cc] 28)).alloc (.cells #[.string ⟨#[]⟩, .string ⟨#[]⟩, .string ⟨#[]⟩] 44)) (q + 1) 44 #[.string ⟨#[]⟩, .string ⟨#[]⟩, .string ⟨#[]⟩] := Blk.newAt (by simp; omega); clear hfit hS hz hT hN hsz hF hA hn' hcc hr hf ht hG hlen; go_enter Tryz.func19, Tryz.ntmps19
 go_upto_region 1 with fail
 obtain ⟨w1, hw1⟩ : ∃ w1, (w.alloc (.cells #[.int .i64 r, .int .i64 f, .int .i64 t, .slice A n cc] 28)).alloc (.cells #[.string ⟨#[]⟩, .string ⟨#[]⟩, .string ⟨#[]⟩] 44) = w1 := ⟨_, rfl⟩; rw [hw1] at hb1 hk1 hf1; rw [hw1]
 try rw [hq]
 have HQ := Jh hq; have HB1 := Jh hb1; have HK1 := Jh hk1; have HF1 := Jh hf1; have hqw : q + 1 < w1.heap.size := hf1.lt; have k0 : w1.cell? ⟨q, 0, none⟩ = some (.int .i64 r) := hk1.cell 0; have k1 : w1.cell? ⟨q, 1, none⟩ = some (.int .i64 f) := hk1.cell 1; have k2 : w1.cell? ⟨q, 2, none⟩ = some (.int .i64 t) := hk1.cell 2; have k3 : w1.cell? ⟨q, 3, none⟩ = some (.slice A n cc) := hk1.cell 3; have hS1 := HS.out.below (HQ.out.symm ▸ hb1); have HC1 := Jh (HFIT.out w1 hS1); clear hw1 hq hb1 hk1 hf1 hS1; go_wp2_with fail
 refine HC1.out.mono ?_; rintro e w2 ⟨rfl, hb2⟩; have HB2 := Jh (show Below (q + 2) w1 w2 from hb2.mono (by omega)); have hq2 : q + 1 < w2.heap.size := by have := hb2.size; omega
 clear hb2; have hk2 := HK1.out.below HB2.out (by omega); have hf2 := HF1.out.below HB2.out (by omega); have HB02 : Hid (Below q w w2) := Jh (HB1.out.trans (HB2.out.mono (by omega)))
 cases F with
 | false =>
  have hgg : G = ⟨[], [], []⟩ := by rw [← HG.out]; unfold Kby; rw [if_neg (by rw [HF.out]; decide)]
  subst hgg; have g0 : w2.cell? ⟨q + 1, 0, none⟩ = some (.string ⟨#[]⟩) := hf2.cell 0; have g1 : w2.cell? ⟨q + 1, 1, none⟩ = some (.string ⟨#[]⟩) := hf2.cell 1; have g2 : w2.cell? ⟨q + 1, 2, none⟩ = some (.string ⟨#[]⟩) := hf2.cell 2; have e0 := hf2.frozen 0; have e1 := hf2.frozen 1; have e2 := hf2.frozen 2; have HK2 := Jh hf2; clear hk2 hf2 k0 k1 k2 k3; go_wp2_with fail
  refine bodyPost_ret (Kix rfl _ _ ⟨q + 1, 0, none⟩ (filV ⟨[], [], []⟩) rfl (run_loadVar_row _ (q + 1) 44 44 _ (0, 0) _ (((HK2.out.set_ 0 _).set_ 1 _).set_ 2 _) Tryz.underlying44 rfl (by kernel_rfl))) rfl ?_; exact ⟨rfl, by rw [HQ.out]; exact ((HB02.out.setCell (p := ⟨q + 1, 0, none⟩) (by show q ≤ q + 1; omega) _).setCell (p := ⟨q + 1, 1, none⟩) (by show q ≤ q + 1; omega) _).setCell (p := ⟨q + 1, 2, none⟩) (by show q ≤ q + 1; omega) _⟩
 | true =>
  obtain ⟨hc0, hc1, hc2, hc3, hc4, hc5, hc6⟩ := Kew.1 HF.out; have HC := Jh hc5; have hgg : G = Kbc c := by rw [← HG.out]; unfold Kby; rw [if_pos HF.out]
  subst hgg; obtain ⟨hs, hsE, hsl, hsA⟩ := HS.out; have hhl : hs.length = n := hsE.len; have HSE := Jh hsE; have HSA := Jh hsA; clear hc0 hc1 hc2 hc3 hc4 hc5 hc6 hsE hsl hsA; go_upto_region 5 with fail
  have hm : LMap (w2.alloc (.map #[] 0)) (q + 2) w2.heap.size (fun _ => []) 0 #[] 0 := LMap.new w2 (q + 2); have hb3 : Below (q + 2) w1 (w2.alloc (.map #[] 0)) := HB2.out.alloc (by omega) _; obtain ⟨w3, hw3⟩ : ∃ w3, w2.alloc (.map #[] 0) = w3 := ⟨_, rfl⟩; obtain ⟨m, hm9⟩ : ∃ m, w2.heap.size = m := ⟨_, rfl⟩; have hmq : q + 2 ≤ m := by omega
  rw [hw3, hm9] at hm; rw [hw3] at hb3 ⊢; rw [hm9]; have hq3 : q + 1 < w3.heap.size := by have := hb3.size; omega
  have hk3 := HK1.out.below hb3 (by omega); have k3 : w3.cell? ⟨q, 3, none⟩ = some (.slice A n cc) := hk3.cell 3; have HM := Jh hm; have HB3 := Jh hb3; clear hw3 hm9 hk2 hf2 k0 k1 k2 hm hb3 hk3 hq2; go_upto_block 0 with fail
  go_cut [4] (fun s4 wz => ∃ vs : Value, vs = s4 ∧ FstAt c hs q m n vs w1 wz)
  case first =>
   go_wp2_with fail
   go_loopg [4, 29] n (fun g s4 s29 wr => ∃ (i : Nat) (vs : Value), vs = s4 ∧ i + g = n ∧ s29 = .int .i64 (i : Int) ∧ FstAt c hs q m i vs w1 wr)
   case atStart => exact ⟨0, _, rfl, by omega, rfl, ⟨World.ownsRow_nil _ _ _ _, ⟨#[], 0, by rw [List.take_zero, Kvw]; exact HM.out⟩, HB3.out⟩⟩
   case round =>
    obtain ⟨i, vs, rfl, hig, rfl, hst⟩ := hrel; have HIG := Jh hig; have HST := Jh hst; clear hig hst
    by_cases hi : i < n
    ·have el : decide (i < n) = true := by rw [decide_eq_true_eq]; omega
     obtain ⟨wo, rfl⟩ : ∃ x, x = wr := ⟨_, rfl⟩; obtain ⟨hrow, ⟨es, clock, hmap⟩, hbr⟩ := HST.out; have hBW : Below w.heap.size w wo := by rw [HQ.out]; exact HB1.out.trans (hbr.mono (by omega))
     obtain ⟨bb, off, hA, hbb, hcell⟩ := HSE.out.2 (by omega); subst hA; have hil : i < hs.length := by omega
     obtain ⟨x, hx⟩ : ∃ x, hs[i] = x := ⟨_, rfl⟩; have hxi : hs[i]? = some x := by rw [List.getElem?_eq_getElem hil, hx]
     have htk : (hs.map Hd3.l).take (i + 1) = (hs.map Hd3.l).take i ++ [x.l] := by rw [List.take_add_one, List.getElem?_map, hxi]; rfl
     have hsa := HSA.out i x hxi; have hcl := hcell i x hxi; obtain ⟨⟨LA, ln, lc⟩, ⟨SA, sn, sc⟩, ⟨WA, wn, wc9⟩⟩ := x; have c0 : wo.cell? ⟨bb, off + i * 3, none⟩ = some (.slice LA ln lc) := later hBW (by simpa using hcl 0 _ rfl); have c1 : wo.cell? ⟨bb, off + i * 3 + 1, none⟩ = some (.slice SA sn sc) := later hBW (by simpa using hcl 1 _ rfl); have c2 : wo.cell? ⟨bb, off + i * 3 + 2, none⟩ = some (.slice WA wn wc9) := later hBW (by simpa using hcl 2 _ rfl); have hic : i < c.series.length := by have := HLEN.out; omega
     obtain ⟨hst1, hst2⟩ := Qby hic; obtain ⟨l, hl⟩ : ∃ l, (c.series[i]!).labels = l := ⟨_, rfl⟩; have hE : Elems w w.heap.size 2 encLb LA ln l := by rw [← hl]; exact hsa.l
     have hlc : ln ≤ lc := hsa.lc; have hval := Kfo (HC.out (c.series[i]!) (by rw [getElem!_pos _ i hic]; exact List.getElem_mem hic)).1; rw [hl] at hst1 hval; have HE := Jh hE; have HLN := Jh hE.len; have HST1 := Jh hst1; have HST2 := Jh hst2; have HVAL := Jh hval; have HTK := Jh htk; have HMAP := Jh hmap; have HROW := Jh hrow; have HBR := Jh hbr; clear hsa hcl hcell hxi htk hx hst1 hst2 hval hE hmap hrow hbr hl hbb; go_upto_block 1 with fail
     go_cut [4] (fun s4 wz => ∃ vs' : Value, vs' = s4 ∧ FstAt c hs q m (i + 1) vs' w1 wz)
     case first =>
      go_upto_region 8 with fail
      have hb4 : Below wo.heap.size wo (wo.alloc (.cells #[.slice LA ln lc, .slice SA sn sc, .slice WA wn wc9] 58)) := (Below.refl _ _).alloc (Nat.le_refl _) _; have hp4 : Blk (wo.alloc (.cells #[.slice LA ln lc, .slice SA sn sc, .slice WA wn wc9] 58)) wo.heap.size 58 #[.slice LA ln lc, .slice SA sn sc, .slice WA wn wc9] := Blk.new _ _ _; obtain ⟨w4, hw4⟩ : ∃ w4, wo.alloc (.cells #[.slice LA ln lc, .slice SA sn sc, .slice WA wn wc9] 58) = w4 := ⟨_, rfl⟩; obtain ⟨p, hp⟩ : ∃ p, wo.heap.size = p := ⟨_, rfl⟩; rw [hw4] at hb4 hp4 ⊢; have hrow4 : w4.ownsRow (q + 2) 54 1 vs i (((hs.map Hd3.l).take i).flatMap encH) := by rw [← hw4]; exact HROW.out.alloc _
      have hmap4 := HMAP.out.below hb4; have hB4 : Below (q + 2) w1 w4 := HBR.out.trans (hb4.mono (by have := HBR.out.size; omega)); rw [hp] at hp4 ⊢; have hq4 : q + 2 ≤ w4.heap.size := by have := hB4.size; omega
      have s0 : w4.cell? ⟨p, 0, none⟩ = some (.slice LA ln lc) := hp4.cell 0; have HP4 := Jh hp4; have HMAP4 := Jh hmap4; have HB4 := Jh hB4; have hp4l := hp4.lt; clear hw4 hp hb4 hp4 hmap4 hB4 c0 c1 c2 hBW; go_wp2_with (at_builtin; refine wpList_append_own_at _ rfl _ _ 103 rfl (q + 2) 54 i0 (.slice none 0 0) 1 24 Tryz.underlying103 hi0 hz0 hz1 hz2 rfl (by decide) _ _ _ rfl (hrow4.alloc _) ⟨w4.heap.size, 0, none⟩ 1 1 [.slice LA ln lc] rfl rfl ?p1 ?p2 ?p3 ?p4 ?p5 ?_)
      case p2 => first | rfl | (intro u hu; rw [List.mem_singleton.1 hu]; rfl)
      case p3 => unfold maxLen; omega
      case p4 => omega
      case p5 => first | omega | (simp; omega)
      intro vs' w5 hown' hgrow _ _; have hall : w4.grownBy w5 vs.ownBlock := (World.grownBy_alloc w4 _ _).trans hgrow
      have hrow5 : w5.ownsRow (q + 2) 54 1 vs' (i + 1) (((hs.map Hd3.l).take (i + 1)).flatMap encH) := by
       rw [HTK.out, List.flatMap_append]; exact hown'
      have hB5 : Below (q + 2) w1 w5 := HB4.out.trans ⟨hall.os, hall.tape, hall.output, hall.size, fun j hj => hall.block j (by omega) (fun e => by have := (hrow4.lt j e.symm).1; omega)⟩; have hmap5 := HMAP4.out.kept hall (fun k e => by obtain ⟨cur, hc⟩ := Kce hrow4 e; exact ⟨cur, _, hc, by decide⟩); have hp5 := HP4.out.grown hall (fun e => by obtain ⟨cur, hc⟩ := Kce hrow4 e.symm; exact HP4.out.ne_ (show Blk w4 p _ _ from hc) (by decide) rfl); have s0 : w5.cell? ⟨p, 0, none⟩ = some (.slice LA ln lc) := hp5.cell 0; have HROW5 := Jh hrow5; have HB5 := Jh hB5; have HMAP5 := Jh hmap5; clear hown' hgrow hall hrow4 hrow5 hB5 hmap5 hp5 hp4l hq4; go_wp2_with fail
      go_loopg [42] ln (fun g s42 wz => ∃ k : Nat, k + g = ln ∧ s42 = .int .i64 (k : Int) ∧ wz.ownsRow (q + 2) 54 1 vs' (i + 1) (((hs.map Hd3.l).take (i + 1)).flatMap encH) ∧ (∃ es clock, LMap wz (q + 2) m (Kdh ((Kad c).take i) l k) (i * 8 + k) es clock) ∧ Below (q + 2) w1 wz)
      case atStart => exact ⟨0, by omega, rfl, HROW5.out, ⟨_, _, by rw [Klu]; exact HMAP5.out⟩, HB5.out⟩
      case round =>
       obtain ⟨k, hkg, rfl, hrow, ⟨es, clock, hmap⟩, hbr⟩ := hrel; have HKG := Jh hkg; have HROWK := Jh hrow; have HMAPK := Jh hmap; have HBRK := Jh hbr; clear hkg hrow hmap hbr
       by_cases hk : k < ln
       ·have el : decide (k < ln) = true := by rw [decide_eq_true_eq]; omega
        obtain ⟨wk, rfl⟩ : ∃ x, x = wr := ⟨_, rfl⟩; have hBz : Below w.heap.size w wk := by rw [HQ.out]; exact HB1.out.trans (HBRK.out.mono (by omega))
        have hkl : k < l.length := by have := HLN.out; omega
        have hk8 : k < 8 := by have := HVAL.out.2.2.1; omega
        obtain ⟨ba, oa, hLA, _, _⟩ := HE.out.2 (by omega); have hE := HE.out; subst hLA; obtain ⟨hba, a0, a1⟩ := Kca hE (by omega) hBz k hkl; have hxz := HVAL.out.2.2.2.1 l[k]! (by rw [getElem!_pos l k hkl]; exact List.getElem_mem hkl); obtain ⟨x, hx⟩ : ∃ x, l[k]! = x := ⟨_, rfl⟩; have hstep := Kla (S := (Kad c).take i) HVAL.out.1 hkl; rw [hx] at a0 a1 hxz hstep; rw [HST2.out] at hstep; obtain ⟨N, hN⟩ : ∃ N : ByteArray, (⟨x.n.toArray⟩ : ByteArray) = N := ⟨_, rfl⟩; obtain ⟨V, hV⟩ : ∃ N : ByteArray, (⟨x.v.toArray⟩ : ByteArray) = N := ⟨_, rfl⟩; have hlb : lbV x = .agg #[.string N, .string V] := by unfold lbV; rw [hN, hV]
        rw [hN] at a0; rw [hV] at a1; have HXZ := Jh hxz; have HSTEP := Jh hstep; have HLB := Jh hlb; clear hx hN hV hlb hxz hstep hE; go_upto_region 12 with fail
        have hb6 : Below wk.heap.size wk (wk.alloc (.cells #[.string N, .string V] 99)) := (Below.refl _ _).alloc (Nat.le_refl _) _; have hp6 : Blk (wk.alloc (.cells #[.string N, .string V] 99)) wk.heap.size 99 #[.string N, .string V] := Blk.new _ _ _; obtain ⟨w6, hw6⟩ : ∃ w6, wk.alloc (.cells #[.string N, .string V] 99) = w6 := ⟨_, rfl⟩; rw [hw6] at hb6 hp6 ⊢; obtain ⟨p9, hp9⟩ : ∃ p, wk.heap.size = p := ⟨_, rfl⟩; have hB6 : Below (q + 2) w1 w6 := HBRK.out.trans (hb6.mono (by have := HBRK.out.size; omega)); have hrow6 : w6.ownsRow (q + 2) 54 1 vs' (i + 1) (((hs.map Hd3.l).take (i + 1)).flatMap encH) := by rw [← hw6]; exact HROWK.out.alloc _
        have hmap6 := HMAPK.out.below hb6; rw [hp9] at hp6 ⊢; have q0 : w6.cell? ⟨p9, 0, none⟩ = some (.string N) := hp6.cell 0; have q1 : w6.cell? ⟨p9, 1, none⟩ = some (.string V) := hp6.cell 1; obtain ⟨w7, hw7⟩ : ∃ w7, w6.alloc (.cells #[.int .i64 (i : Int)] 3) = w7 := ⟨_, rfl⟩; have hb7 : Below w6.heap.size w6 w7 := by rw [← hw7]; exact (Below.refl _ _).alloc (Nat.le_refl _) _
        have hp7 : Blk w7 w6.heap.size 3 #[.int .i64 (i : Int)] := by rw [← hw7]; exact Blk.new _ _ _
        have hrow7 : w7.ownsRow (q + 2) 54 1 vs' (i + 1) (((hs.map Hd3.l).take (i + 1)).flatMap encH) := by rw [← hw7]; exact hrow6.alloc _
        have hmap7 := hmap6.below hb7; have hB7 : Below (q + 2) w1 w7 := hB6.trans (hb7.mono (by have := hB6.size; omega)); have hq7 : q + 2 ≤ w7.heap.size := by have := hB7.size; omega
        obtain ⟨b7, hb79⟩ : ∃ p, w6.heap.size = p := ⟨_, rfl⟩; rw [hb79] at hp7; obtain ⟨v0, st, es1, clock1, hrun1, hrow0, hvm, hstp⟩ := hmap7.step x (by have := HXZ.out; omega) i hq7; rw [HLB.out] at hrun1; have hg8 : w7.grownBy (setBlock w7 m (.map es1 clock1)) (some m) := Kcu _; have hsz8 := Khh w7 m (.map es1 clock1); have hm8 := Kfm (.map es1 clock1) hmap7.h; obtain ⟨w8, hw8⟩ : ∃ w8, setBlock w7 m (.map es1 clock1) = w8 := ⟨_, rfl⟩; rw [hw8] at hrun1 hrow0 hstp hg8 hsz8 hm8
        have hb7m : some b7 ≠ some m := fun e => by
         injection e with e; have h1 := hmap7.h; rw [← e] at h1; rw [show w7.heap[b7]? = _ from hp7] at h1; cases h1
        have hp8 : Blk w8 b7 3 #[.int .i64 (i : Int)] := hp7.grown hg8 hb7m; have hrow8 := hrow7.kept hg8 (Kld hrow7 hmap7.h); have hB8 : Below (q + 2) w1 w8 := hB7.trans ⟨hg8.os, hg8.tape, hg8.output, hg8.size, fun j hj => hg8.block j (by omega) (fun e => by injection e with e; omega)⟩; obtain ⟨A0, cap0, rfl⟩ := Kbo hrow0; obtain ⟨n0, hn0⟩ : ∃ n0, (Kdh ((Kad c).take i) l k x).length = n0 := ⟨_, rfl⟩
        have hn0le : n0 ≤ i + 1 := by
         rw [← hn0]; unfold Kdh; have h1 := Kfp ((Kad c).take i) x; rw [HST2.out] at h1
         split
         ·rw [Jd, List.length_singleton]; omega
         ·omega
        rw [hn0] at hrow0 hstp hrun1 hvm; have HSTP := Jh hstp; have HM8 := Jh hm8; have HVM := Jh hvm; have HROW8 := Jh hrow8; have HB8 := Jh hB8; have HSZ8 := Jh hsz8; have hq8 : q + 2 ≤ w8.heap.size := by omega
        have HROW0 := Jh hrow0; have HP8 := Jh hp8; clear hw6 hp9 hb6 hp6 hB6 hrow6 hmap6 hb7 hp7 hrow7 hmap7 hB7 hg8 hsz8 hb7m hp8 hrow8 hB8 hstp hw8 a0 a1 hBz hn0 hvm hm8; go_wp2_with (at_builtin; refine wpList_append_own_at _ rfl _ _ 69 rfl (q + 2) 3 i1 (.int .i64 0) 1 8 Tryz.underlying69 hi1 hy0 hy1 hy2 rfl (by decide) _ _ _ rfl HROW0.out ⟨b7, 0, none⟩ 1 1 [.int .i64 (i : Int)] rfl rfl (Kbk (l := [.int .i64 (i : Int)]) HP8.out) ?p2 ?p3 ?p4 ?p5 ?_)
        case p2 => first | rfl | (intro u hu; rw [List.mem_singleton.1 hu]; rfl)
        case p3 => unfold maxLen; omega
        case p4 => omega
        case p5 => omega
        intro v' w9 hown' hgrow _ hat; obtain ⟨es', clock', hrun2, hL', _⟩ := HSTP.out w9 v' hgrow hown' (hat.imp id (fun h => by rw [HSZ8.out] at h; exact h)); rw [HSTEP.out] at hL'; have hg10 : w9.grownBy (setBlock w9 m (.map es' clock')) (some m) := Kcu _; obtain ⟨w10, hw10⟩ : ∃ w10, setBlock w9 m (.map es' clock') = w10 := ⟨_, rfl⟩; rw [hw10] at hrun2 hL' hg10; have hm9 : w9.heap[m]? = some (.map es1 clock1) := (hgrow.block m (Array.getElem?_eq_some_iff.1 HM8.out).1 (Ne.symm HVM.out)).trans HM8.out; have hrow9 := HROW8.out.kept hgrow (Kct HROW8.out HROW0.out (by decide)); have hrow10 := hrow9.kept hg10 (Kld hrow9 hm9); have hB10 : Below (q + 2) w1 w10 := (HB8.out.trans ⟨hgrow.os, hgrow.tape, hgrow.output, hgrow.size, fun j hj => hgrow.block j (by omega) (fun e => by have := (World.ownsRow.lt HROW0.out j e.symm).1; omega)⟩).trans ⟨hg10.os, hg10.tape, hg10.output, hg10.size, fun j hj => hg10.block j (by have := hgrow.size; omega) (fun e => by injection e with e; omega)⟩; have HL10 := Jh hL'; have HROW10 := Jh hrow10; have HB10 := Jh hB10; clear hown' hgrow hat hL' hg10 hw10 hm9 hrow9 hrow10 hB10; go_wp2_with fail
        go_roundg (gk - 1)
        case measure => have := HKG.out; omega
        case rel => exact ⟨k + 1, by have := HKG.out; omega, by go_num, HROW10.out, ⟨_, _, HL10.out⟩, HB10.out⟩
       ·have el : decide (k < ln) = false := by rw [decide_eq_false_iff_not]; omega
        have hkl : k = l.length := by have := HKG.out; have := HLN.out; omega
        have hfst : FstAt c hs q m (i + 1) vs' w1 wr := ⟨HROWK.out, ⟨_, _, by
         have h1 := HMAPK.out; rw [hkl, Knp, ← HST1.out] at h1
         exact h1.mono (by have := HVAL.out.2.2.1; omega)⟩, HBRK.out⟩
        have HFST := Jh hfst; clear hfst hkl; go_wp2_with fail
        go_meet
        exact ⟨_, rfl, HFST.out⟩
     case rest =>
      obtain ⟨vs', rfl, hst⟩ := hcut; have HFST := Jh hst; clear hst; go_wp2_with fail
      go_roundg (gk - 1)
      case measure => have := HIG.out; omega
      case rel => exact ⟨i + 1, _, rfl, by have := HIG.out; omega, by go_num, HFST.out⟩
    ·have el : decide (i < n) = false := by rw [decide_eq_false_iff_not]; omega
     have hin : i = n := by have := HIG.out; omega
     have hst : FstAt c hs q m n vs w1 wr := by rw [← hin]; exact HST.out
     have HST2 := Jh hst; clear hst hin; go_wp2_with fail
     go_meet
     exact ⟨_, rfl, HST2.out⟩
  case rest =>
   obtain ⟨vs, rfl, hst⟩ := hcut; obtain ⟨w4, rfl⟩ : ∃ x, x = wc := ⟨_, rfl⟩; obtain ⟨hrow, ⟨es, clock, hmap⟩, hb4⟩ := hst; have hsl : (Kad c).length = n := by unfold Kad; rw [List.length_map]; exact HLEN.out
   have hml : (hs.map Hd3.l).length = n := by rw [List.length_map]; exact hhl
   rw [List.take_of_length_le (by omega)] at hmap; rw [List.take_of_length_le (by omega)] at hrow; have hBW : Below w.heap.size w w4 := by rw [HQ.out]; exact HB1.out.trans (hb4.mono (by omega))
   obtain ⟨AS, cs, rfl, hES, hjk1, hjk2⟩ := Elems.of_own (fun x _ => Qed x) rfl hrow hml
   have hSets : Sets w4 AS n (Kad c) := by
    refine ⟨_, hES, hsl, fun i h hi => ?_⟩; rw [List.getElem?_map] at hi
    cases hx : hs[i]? with
    | none => rw [hx] at hi; cases hi
    | some x =>
     rw [hx] at hi; injection hi with hi; subst hi; have h1 := HSA.out i x hx; have hic : i < c.series.length := by have := (List.getElem?_eq_some_iff.1 hx).1; have := HLEN.out; omega
     have e : (Kad c)[i]! = (c.series[i]!).labels := by
      have e2 : (Kad c)[i]? = some (c.series[i]!).labels := by
       unfold Kad; rw [List.getElem?_map, List.getElem?_eq_getElem hic, getElem!_pos _ i hic]; rfl
      rw [List.getElem!_eq_getElem?_getD, e2]; rfl
     rw [e]; exact ⟨(h1.l.below hBW).more hBW.size, h1.lc⟩
   have hsz8 : ∀ s ∈ Kad c, s.length ≤ 8 ∧ ∀ x ∈ s, x.n.length ≤ 32 ∧ x.v.length ≤ 64 := fun s hs => by
    unfold Kad at hs; obtain ⟨y, hy, rfl⟩ := List.mem_map.1 hs; have := Kfo (HC.out y hy).1; exact ⟨this.2.2.1, this.2.2.2.1⟩
   have hall : (allT (Kad c)).length ≤ 16 * n := by
    have := Knv (L := Kad c) fun s hs => (hsz8 s hs).1
    omega
   have htxt : ∀ x ∈ allT (Kad c), x.length ≤ 64 := fun x hx => by
    obtain ⟨s, hs, hx⟩ := List.mem_flatMap.1 hx; obtain ⟨y, hy, h1 | h1⟩ := Qbr hx
    ·rw [h1]; have := ((hsz8 s hs).2 y hy).1; omega
    ·rw [h1]; have := ((hsz8 s hs).2 y hy).2; omega
   have HCO := Jh (Krk (Kad c) AS n cs w4 hSets (by omega) (by omega) (fun x hx => by have := htxt x hx; omega)); have HMAP := Jh hmap; have HB4 := Jh hb4; have HALL := Jh hall; have HSZS := Jh (HSZ.out (by first | trivial | rfl)); have hq4 : q + 2 ≤ w4.heap.size := by have := hb4.size; omega
   clear hrow hmap hb4 hBW hES hSets hsz8 hall htxt hsl hml hjk1 hjk2; go_wp2_with fail
   refine HCO.out.mono ?_; rintro _ w5 ⟨pt, T, rfl, htab, hist, htl, hb5, hpt⟩; obtain rfl : T = tabOf (Kad c) := hist.one (show IsTab (allT (Kad c)) _ from Kdy (Kad c)); obtain ⟨T, hTT⟩ : ∃ T, tabOf (Kad c) = T := ⟨_, rfl⟩; rw [hTT] at htab hist htl; have HTT := Jh hTT; have HTAB := Jh htab; have HIST := Jh hist; have HTL := Jh htl; have HB5 := Jh (show Below (q + 2) w1 w5 from HB4.out.trans (hb5.mono (by omega))); have HMAP5 := Jh (HMAP.out.below hb5); clear htab hist htl hb5 hpt hTT hq4; go_upto_region 17 with fail
   have hbd1 : BldR w5.heap.size w5.heap.size none [] (w5.alloc (.cells #[.pointer none, .slice none 0 0] 109)) := BldR.new w5 (Nat.le_refl _)
   have hbd2 : BldR w5.heap.size (w5.heap.size + 1) none [] ((w5.alloc (.cells #[.pointer none, .slice none 0 0] 109)).alloc (.cells #[.pointer none, .slice none 0 0] 109)) := by
    have := BldR.new (B := w5.heap.size) (w5.alloc (.cells #[.pointer none, .slice none 0 0] 109)) (by simp); rw [World.size_alloc] at this; exact this
   have hb6 : Below w5.heap.size w5 ((w5.alloc (.cells #[.pointer none, .slice none 0 0] 109)).alloc (.cells #[.pointer none, .slice none 0 0] 109)) := ((Below.refl _ _).alloc (Nat.le_refl _) _).alloc (by simp) _; have htw6 : Two w5.heap.size w5.heap.size (w5.heap.size + 1) [] [] ((w5.alloc (.cells #[.pointer none, .slice none 0 0] 109)).alloc (.cells #[.pointer none, .slice none 0 0] 109)) := ⟨none, none, hbd1.below ((Below.refl _ _).alloc (Nat.le_refl _) _), hbd2, by omega, fun k h => by cases h⟩; obtain ⟨w6, hw6⟩ : ∃ w6, (w5.alloc (.cells #[.pointer none, .slice none 0 0] 109)).alloc (.cells #[.pointer none, .slice none 0 0] 109) = w6 := ⟨_, rfl⟩; rw [hw6] at hb6 htw6 ⊢; have hq5 : q + 2 ≤ w5.heap.size := by have := HB5.out.size; omega
   have HK5 := Jh (HK1.out.below HB5.out (by omega)); have HF5 := Jh (HF1.out.below HB5.out (by omega)); have HBW5 : Hid (Below w.heap.size w w5) := Jh (by rw [HQ.out]; exact HB1.out.trans (HB5.out.mono (by omega))); obtain ⟨d, hd⟩ : ∃ d, w5.heap.size = d := ⟨_, rfl⟩; have HD := Jh hd; rw [hd] at hb6 htw6 hq5 ⊢
   have htz : (tabT T).length ≤ 35184372088832 := by
    have h1 := HSZS.out.2; unfold Kbd at h1; rw [HTT.out, Jd] at h1; omega
   have HSE := Jh (Knx (.pointer (some ⟨pt, 0, none⟩)) T w6 (HTAB.out.below (hd.symm ▸ hb6)) (by have := HTL.out; have := HALL.out; omega) (by omega)); obtain ⟨X, hX⟩ : ∃ X : ByteArray, (⟨(tabT T).toArray⟩ : ByteArray) = X := ⟨_, rfl⟩; have hXd : X.data.toList = tabT T := by rw [← hX]
   have hXs : X.size = (tabT T).length := by rw [← Kah, hXd]
   rw [hX] at HSE; have HXD := Jh hXd; have HB6 := Jh hb6; have HTW6 := Jh htw6; have hd6 : d ≤ w6.heap.size := by have := hb6.size; omega
   clear hbd1 hbd2 hw6 hd hX hXd hb6 htw6; go_wp2_with fail
   refine HSE.out.mono ?_; rintro _ w7 ⟨rfl, hb7⟩; have HB7 := Jh (HB6.out.trans (hb7.mono hd6)); have hd7 : d ≤ w7.heap.size := by have := hb7.size; omega
   have HW7 := Jh (Kdv X w7 (HTW6.out.below hb7) (by simp; omega) hd7); clear hb7 HB6 HTW6 HSE; go_wp2_with fail
   refine HW7.out.mono ?_; rintro _ w8 ⟨rfl, htw8, hb8, hjk3⟩; clear hjk3; rw [List.nil_append, HXD.out] at htw8; have HB8 := Jh (HB7.out.trans hb8); have hd8 : d ≤ w8.heap.size := by have := hb8.size; omega
   have hk8 := HK5.out.below HB8.out (by omega); have k3 : w8.cell? ⟨q, 3, none⟩ = some (.slice A n cc) := hk8.cell 3; have hu := Kau n (by omega) w8; obtain ⟨U, hU⟩ : ∃ U : ByteArray, (⟨(uintT n).toArray⟩ : ByteArray) = U := ⟨_, rfl⟩; have hUd : U.data.toList = uintT n := by rw [← hU]
   have hUs : U.size ≤ 11 := by rw [← Kah, hUd]; exact (Kab n).2
   rw [hU] at hu; have HU := Jh hu; have HUD := Jh hUd; have HTW8 := Jh htw8; clear hb8 hk8 hu hU hUd htw8 HB7 HW7; go_wp2_with fail
   refine HU.out.mono ?_; rintro _ w9 ⟨rfl, hb9⟩; have HB9 := Jh (HB8.out.trans (hb9.mono hd8)); have hd9 : d ≤ w9.heap.size := by have := hb9.size; omega
   have HW9 := Jh (Kdv U w9 (HTW8.out.below hb9) (by omega) hd9); clear hb9 k3; go_wp2_with fail
   refine HW9.out.mono ?_; rintro _ w10 ⟨rfl, htw10, hb10, hjk3⟩; clear hjk3; have hix : tabT T ++ U.data.toList = ixAt c T 0 := by unfold ixAt; rw [HUD.out, HLEN.out, List.take_zero]; simp
   rw [hix] at htw10; have HB10 := Jh (HB9.out.trans hb10); have hd10 : d ≤ w10.heap.size := by have := hb10.size; omega
   have HTW10 := Jh (show Two d d (d + 1) (ckAt c 0) (ixAt c T 0) w10 from htw10); have hk10 := HK5.out.below HB10.out (by omega); have k3 : w10.cell? ⟨q, 3, none⟩ = some (.slice A n cc) := hk10.cell 3; clear htw10 hb10 hk10 hix HB9 HB8 HW9 HTW8; go_upto_block 4 with fail
   go_cut [] (fun wz => Two d d (d + 1) (ckAt c n) (ixAt c T n) wz ∧ Below d w5 wz)
   case first =>
    go_wp2_with fail
    go_loopg [70] n (fun g s70 wr => ∃ i : Nat, i + g = n ∧ s70 = .int .i64 (i : Int) ∧ Two d d (d + 1) (ckAt c i) (ixAt c T i) wr ∧ Below d w5 wr)
    case atStart => exact ⟨0, by omega, rfl, HTW10.out, HB10.out⟩
    case round =>
     obtain ⟨i, hig, rfl, htw, hbr⟩ := hrel; have HIG := Jh hig; have HTW := Jh htw; have HBR := Jh hbr; clear hig htw hbr
     by_cases hi : i < n
     ·have el : decide (i < n) = true := by rw [decide_eq_true_eq]; omega
      obtain ⟨wo, rfl⟩ : ∃ x, x = wr := ⟨_, rfl⟩; have hBWo : Below w.heap.size w wo := HBW5.out.trans (HBR.out.mono (by have := HQ.out; omega)); obtain ⟨bb, off, hA, hbb, hcell⟩ := HSE.out.2 (by omega); subst hA; have hil : i < hs.length := by omega
      obtain ⟨x, hx⟩ : ∃ x, hs[i] = x := ⟨_, rfl⟩; have hxi : hs[i]? = some x := by rw [List.getElem?_eq_getElem hil, hx]
      have hsa := (HSA.out i x hxi).below hBWo; have hcl := hcell i x hxi; obtain ⟨⟨LA, ln, lc⟩, ⟨SA, sn, sc⟩, ⟨WA, wn, wc9⟩⟩ := x; have c0 : wo.cell? ⟨bb, off + i * 3, none⟩ = some (.slice LA ln lc) := later hBWo (by simpa using hcl 0 _ rfl); have c1 : wo.cell? ⟨bb, off + i * 3 + 1, none⟩ = some (.slice SA sn sc) := later hBWo (by simpa using hcl 1 _ rfl); have c2 : wo.cell? ⟨bb, off + i * 3 + 2, none⟩ = some (.slice WA wn wc9) := later hBWo (by simpa using hcl 2 _ rfl); have hic : i < c.series.length := by have := HLEN.out; omega
      have hmem : c.series[i]! ∈ c.series := by rw [getElem!_pos _ i hic]; exact List.getElem_mem hic
      have hcs := HC.out _ hmem; have hzs := HZ.out _ hmem; have hixs := Qcl (T := T) hic; have hcks := Qaa hic; have hixl := Kwy c (i + 1); have hckl := Qfm c (i + 1); rw [HTT.out] at hixl; have hsets : (c.series[i]!).labels ∈ Kad c := List.mem_map.2 ⟨_, hmem, rfl⟩; obtain ⟨s, hs9⟩ : ∃ s, c.series[i]! = s := ⟨_, rfl⟩; rw [hs9] at hsa hcs hzs hixs hcks hsets; have hval := Kfo hcs.1; have hpk : packR T s.labels = (pk T s.labels, 0) := Qax HIST.out.1 hval.2.2.2.2 (fun x hx => (HIST.out.2 x).2 (List.mem_flatMap.2 ⟨_, hsets, hx⟩))
      obtain ⟨f0, f1⟩ : 0 ≤ c.frm ∧ c.to_ ≤ 1125899906842625 := by
       obtain ⟨_, _, a, _, b, _⟩ := Kew.1 HF.out; exact ⟨a, b⟩
      obtain ⟨hpo1, hpo2⟩ := Qdn hcs.2 f0 f1 hzs.v; have hpl := Kys s; have hplz := hzs.n; have hlen1 := hsa.l.len; rw [hixs] at hixl; rw [hcks] at hckl; have hser : serT T s = pk T s.labels ++ (uintT (Kak s).length ++ lensT (Kak s)) := rfl; rw [hser] at hixl hixs; simp only [Jd] at hixl hckl; have hI2 := HSZS.out.2; have hC2 := HSZS.out.1; have HVAL := Jh hval; have HPK0 := Jh hpk; have HIXS := Jh hixs; have HCKS := Jh hcks; have HPO1 := Jh hpo1; have HPO2 := Jh hpo2; have HZS := Jh hzs; have HSA9 := Jh hsa; clear hsa hcl hcell hxi hx hmem hcs hzs hixs hcks hsets hs9 hval hpk f0 f1 hpo1 hpo2 hser hbb; go_upto_block 5 with fail
      go_cut [] (fun wz => Two d d (d + 1) (ckAt c (i + 1)) (ixAt c T (i + 1)) wz ∧ Below d w5 wz)
      case first =>
       go_upto_region 22 with fail
       have hb12 : Below wo.heap.size wo (wo.alloc (.cells #[.slice LA ln lc, .slice SA sn sc, .slice WA wn wc9] 58)) := (Below.refl _ _).alloc (Nat.le_refl _) _; have hp12 : Blk (wo.alloc (.cells #[.slice LA ln lc, .slice SA sn sc, .slice WA wn wc9] 58)) wo.heap.size 58 #[.slice LA ln lc, .slice SA sn sc, .slice WA wn wc9] := Blk.new _ _ _; obtain ⟨w12, hw12⟩ : ∃ w12, wo.alloc (.cells #[.slice LA ln lc, .slice SA sn sc, .slice WA wn wc9] 58) = w12 := ⟨_, rfl⟩; obtain ⟨p, hp⟩ : ∃ p, wo.heap.size = p := ⟨_, rfl⟩; have hdo : d ≤ wo.heap.size := by have := HBR.out.size; have := HD.out; omega
       rw [hw12] at hb12 hp12 ⊢; have hB12 : Below d w5 w12 := HBR.out.trans (hb12.mono hdo); have htw12 := HTW.out.below hb12; have hsa12 := HSA9.out.below hb12; rw [hp] at hp12 ⊢; have s0 : w12.cell? ⟨p, 0, none⟩ = some (.slice LA ln lc) := hp12.cell 0; have HP12 := Jh hp12; have htab12 := HTAB.out.below (HD.out.symm ▸ hB12); have HPK := Jh (Kxw (.pointer (some ⟨pt, 0, none⟩)) T s.labels LA ln lc w12 (pk T s.labels) 0 HPK0.out htab12 HIST.out.1 (by have := HTL.out; have := HALL.out; omega) hsa12.l hsa12.lc (by have := HVAL.out.2.2.1; have : s.labels.length = ln := hlen1; omega) (fun x hx => by have := HVAL.out.2.2.2.1 x hx; omega)); obtain ⟨X2, hX2⟩ : ∃ X : ByteArray, (⟨(pk T s.labels).toArray⟩ : ByteArray) = X := ⟨_, rfl⟩; have hX2d : X2.data.toList = pk T s.labels := by rw [← hX2]
       have hX2s : X2.size = (pk T s.labels).length := by rw [← Kah, hX2d]
       rw [hX2] at HPK; have HX2D := Jh hX2d; have HB12 := Jh hB12; have HTW12 := Jh htw12; have HSA12 := Jh hsa12; have hd12 : d ≤ w12.heap.size := by have := hb12.size; omega
       clear hb12 hp12 hw12 hp hB12 htw12 hsa12 htab12 hX2 hX2d c0 c1 c2 hBWo; go_wp2_with fail
       refine HPK.out.mono ?_; rintro _ w13 ⟨rfl, hb13⟩; have hp13 := HP12.out.below hb13 HP12.out.lt; have s0 : w13.cell? ⟨p, 0, none⟩ = some (.slice LA ln lc) := hp13.cell 0; have s1 : w13.cell? ⟨p, 1, none⟩ = some (.slice SA sn sc) := hp13.cell 1; have s2 : w13.cell? ⟨p, 2, none⟩ = some (.slice WA wn wc9) := hp13.cell 2; have hB13 : Below d w5 w13 := HB12.out.trans (hb13.mono hd12); have hpa := Kwh s ⟨⟨LA, ln, lc⟩, ⟨SA, sn, sc⟩, ⟨WA, wn, wc9⟩⟩ w13 (HSA12.out.below hb13) HZS.out.n HZS.out.m HZS.out.v HZS.out.b (HT.out.below (HBW5.out.trans (hB13.mono (by have := HQ.out; omega)))) HPO1.out HPO2.out; unfold serV at hpa; dsimp only at hpa; have HPA := Jh hpa; have HB13 := Jh hB13; have HTW13 := Jh (HTW12.out.below hb13); have hd13 : d ≤ w13.heap.size := by have := hb13.size; omega
       clear hb13 hp13 hB13 hpa; go_wp2_with fail
       refine HPA.out.mono ?_; rintro _ w14 ⟨v, rfl, hown, hb14⟩; obtain ⟨AP, cp, rfl⟩ := Kbo hown; obtain ⟨P, hP⟩ : ∃ P, Kak s = P := ⟨_, rfl⟩; rw [hP] at hown hixl hckl hpl ⊢; obtain ⟨np, hnp⟩ : ∃ np, P.length = np := ⟨_, rfl⟩; rw [hnp] at hown hixl hpl ⊢; have HP := Jh hP; have HNP := Jh hnp; have HB14 := Jh (HB13.out.trans (hb14.mono hd13)); have HOWN := Jh hown; have hd14 : d ≤ w14.heap.size := by have := hb14.size; omega
       have HW14 := Jh (Kdv X2 w14 (HTW13.out.below hb14) (by omega) hd14); clear hb14 hown hP hnp s0 s1 s2; go_wp2_with fail
       refine HW14.out.mono ?_; rintro _ w15 ⟨rfl, htw15, hb15, hr15⟩; have HB15 := Jh (HB14.out.trans hb15); have HOWN15 := Jh (hr15.own HOWN.out (by decide) (by decide)); have HTW15 := Jh htw15; have hd15 : d ≤ w15.heap.size := by have := hb15.size; omega
       have hu2 := Kau np (by omega) w15; obtain ⟨U2, hU2⟩ : ∃ U : ByteArray, (⟨(uintT np).toArray⟩ : ByteArray) = U := ⟨_, rfl⟩; have hU2d : U2.data.toList = uintT np := by rw [← hU2]
       have hU2s : U2.size = (uintT np).length := by rw [← Kah, hU2d]
       rw [hU2] at hu2; have HU2 := Jh hu2; have HU2D := Jh hU2d; clear hu2 hU2 hU2d htw15 hb15 hr15; go_wp2_with fail
       refine HU2.out.mono ?_; rintro _ w16 ⟨rfl, hb16⟩; have HB16 := Jh (HB15.out.trans (hb16.mono hd15)); have HOWN16 := Jh ((Rest.below hb16).own HOWN15.out (by decide) (by decide)); have hd16 : d ≤ w16.heap.size := by have := hb16.size; omega
       have hx2l : (ixAt c T i ++ X2.data.toList).length = (ixAt c T i).length + (pk T s.labels).length := by rw [Jd, HX2D.out]
       have HW16 := Jh (Kdv U2 w16 (HTW15.out.below hb16) (by omega) hd16); clear hb16; go_wp2_with fail
       refine HW16.out.mono ?_; rintro _ w17 ⟨rfl, htw17, hb17, hr17⟩; rw [HX2D.out, HU2D.out] at htw17; have HB17 := Jh (HB16.out.trans hb17); have HOWN17 := Jh (hr17.own HOWN16.out (by decide) (by decide)); have hd17 : d ≤ w17.heap.size := by have := hb17.size; omega
       have HTW17 := Jh (show Two d d (d + 1) (ckAt c i ++ (P.take 0).flatten) (ixAt c T i ++ pk T s.labels ++ uintT np ++ lensT (P.take 0)) w17 by simpa [lensT] using htw17); clear htw17 hb17 hr17 hx2l; go_wp2_with fail
       go_loopg [92] np (fun g s92 wz => ∃ k : Nat, k + g = np ∧ s92 = .int .i64 (k : Int) ∧ Two d d (d + 1) (ckAt c i ++ (P.take k).flatten) (ixAt c T i ++ pk T s.labels ++ uintT np ++ lensT (P.take k)) wz ∧ wz.ownsRow w13.heap.size 9 1 (.slice AP np cp) np (P.map txtV) ∧ Below d w5 wz)
       case atStart => exact ⟨0, by omega, rfl, HTW17.out, HOWN17.out, HB17.out⟩
       case round =>
        obtain ⟨k, hkg, rfl, htw, hown, hbr⟩ := hrel; have HKG := Jh hkg; have HTWK := Jh htw; have HOWNK := Jh hown; have HBRK := Jh hbr; obtain ⟨wk, rfl⟩ : ∃ x, x = wr := ⟨_, rfl⟩; clear hkg htw hown hbr
        by_cases hk : k < np
        ·have el : decide (k < np) = true := by rw [decide_eq_true_eq]; omega
         have hkP : k < P.length := by have := HNP.out; omega
         obtain ⟨AQ, cq, he, hstr, _, _⟩ := Strs.of_own HOWNK.out HNP.out; injection he with e1 _ e2; subst e1 e2; obtain ⟨bp, op, hAP, hbp, hcp⟩ := hstr.at_ hk; subst hAP; obtain ⟨hft1, hft2⟩ := Krz hkP; have hlt := Kzh hkP; have hll := Qav (P.take k); have htkl : (P.take k).length ≤ k := by rw [List.length_take]; omega
         obtain ⟨Y, hY⟩ : ∃ Y : ByteArray, (⟨P[k]!.toArray⟩ : ByteArray) = Y := ⟨_, rfl⟩; have hYd : Y.data.toList = P[k]! := by rw [← hY]
         have hYs : Y.size = (P[k]!).length := by rw [← Kah, hYd]
         have hcp2 : wk.cell? ⟨bp, op + k, none⟩ = some (.string Y) := by rw [hcp]; unfold txtV; rw [hY]
         rw [← hYs] at hlt; rw [hft1, Jd, ← hYs] at hft2; have hYz : Y.size ≤ 35184372088832 := by omega
         have hu3 := Kau Y.size (by omega) wk; obtain ⟨U3, hU3⟩ : ∃ U : ByteArray, (⟨(uintT Y.size).toArray⟩ : ByteArray) = U := ⟨_, rfl⟩; have hU3d : U3.data.toList = uintT Y.size := by rw [← hU3]
         have hU3s : U3.size ≤ 11 := by rw [← Kah, hU3d]; exact (Kab _).2
         rw [hU3] at hu3; have HU3 := Jh hu3; have HU3D := Jh hU3d; have HFT := Jh hft1; have HLT := Jh hlt; have HYD := Jh hYd; have hdk : d ≤ wk.heap.size := by have := HBRK.out.size; have := HD.out; omega
         clear hu3 hU3 hU3d hft1 hlt hY hYd hcp hstr hYs; go_wp2_with fail
         refine HU3.out.mono ?_; rintro _ w18 ⟨rfl, hb18⟩; have HB18 := Jh (HBRK.out.trans (hb18.mono hdk)); have HOWN18 := Jh ((Rest.below hb18).own HOWNK.out (by decide) (by decide)); have hd18 : d ≤ w18.heap.size := Nat.le_trans hdk hb18.size; have HW18 := Jh (Kdv U3 w18 (HTWK.out.below hb18) (by rw [Jd, Jd, Jd]; exact bnd1 hixl hI2 hll htkl hk (Nat.le_trans hpl (Nat.add_le_add_right hplz 1)) hU3s) hd18); clear hb18; go_wp2_with fail
         refine HW18.out.mono ?_; rintro _ w19 ⟨rfl, htw19, hb19, hr19⟩; have HB19 := Jh (HB18.out.trans hb19); have HOWN19 := Jh (hr19.own HOWN18.out (by decide) (by decide)); have hd19 : d ≤ w19.heap.size := Nat.le_trans hd18 hb19.size; have HW19 := Jh (Kne Y w19 htw19 (by rw [Jd]; exact bnd2 hckl hC2 hft2) hd19); clear hb19 hr19 htw19; go_wp2_with fail
         refine HW19.out.mono ?_; rintro _ w20 ⟨rfl, htw20, hb20, hr20⟩
         have HFIN : Hid (Two d d (d + 1) (ckAt c i ++ (P.take (k + 1)).flatten) (ixAt c T i ++ pk T s.labels ++ uintT np ++ lensT (P.take (k + 1))) w20) := Jh (by
          rw [HFT.out, HLT.out]; rw [HU3D.out, HYD.out] at htw20
          simpa only [List.append_assoc] using htw20)
         have HB20 := Jh (HB19.out.trans hb20); have HOWN20 := Jh (hr20.own HOWN19.out (by decide) (by decide)); clear hb20 hr20 htw20; go_wp2_with fail
         go_roundg (gk - 1)
         case measure => have := HKG.out; omega
         case rel => exact ⟨k + 1, by have := HKG.out; omega, by go_num, HFIN.out, HOWN20.out, HB20.out⟩
        ·have el : decide (k < np) = false := by rw [decide_eq_false_iff_not]; omega
         have hkn : k = P.length := by have := HKG.out; have := HNP.out; omega
         have HFIN : Hid (Two d d (d + 1) (ckAt c (i + 1)) (ixAt c T (i + 1)) wk ∧ Below d w5 wk) := Jh (by
          have h1 := HTWK.out; rw [hkn, List.take_length] at h1; rw [HCKS.out, HIXS.out, HP.out, HNP.out]; refine ⟨?_, HBRK.out⟩
          simpa only [List.append_assoc] using h1)
         clear hkn; go_wp2_with fail
         go_meet
         exact HFIN.out
      case rest =>
       obtain ⟨htw, hbr⟩ := hcut; have HTW9 := Jh htw; have HBR9 := Jh hbr; clear htw hbr; go_wp2_with fail
       go_roundg (gk - 1)
       case measure => have := HIG.out; omega
       case rel => exact ⟨i + 1, by have := HIG.out; omega, by go_num, HTW9.out, HBR9.out⟩
     ·have el : decide (i < n) = false := by rw [decide_eq_false_iff_not]; omega
      have hin : i = n := by have := HIG.out; omega
      have HE : Hid (Two d d (d + 1) (ckAt c n) (ixAt c T n) wr ∧ Below d w5 wr) := Jh (by rw [← hin]; exact ⟨HTW.out, HBR.out⟩); clear hin; go_wp2_with fail
      go_meet
      exact HE.out
   case rest =>
    obtain ⟨htw, hb11⟩ := hcut; obtain ⟨w11, rfl⟩ : ∃ x, x = wc := ⟨_, rfl⟩; have hd11 : d ≤ w11.heap.size := by have := hb11.size; have := HD.out; omega
    have hend := Qcs c; have hcend := Qer c; have hixl := Kwy c n; rw [HLEN.out] at hend hcend; rw [HTT.out] at hend hixl; rw [hcend] at htw; have hI2 := HSZS.out.2; have hC2 := HSZS.out.1; have hlz : (Kbi (Kad c)).length ≤ 35184372088832 := by omega
    have hslen : (Kad c).length ≤ 1099511627776 := by unfold Kad; rw [List.length_map, HLEN.out]; omega
    have HLI := Jh (Kkv (Kad c) m (n * 8) (q + 2) es clock w11 (HMAP5.out.below (HD.out.symm ▸ hb11)) (by omega) hslen hlz); obtain ⟨X3, hX3⟩ : ∃ X : ByteArray, (⟨(Kbi (Kad c)).toArray⟩ : ByteArray) = X := ⟨_, rfl⟩; have hX3d : X3.data.toList = Kbi (Kad c) := by rw [← hX3]
    have hX3s : X3.size = (Kbi (Kad c)).length := by rw [← Kah, hX3d]
    rw [hX3] at HLI; have HX3D := Jh hX3d; have HTW11 := Jh htw; have HB11 := Jh hb11; have HEND := Jh hend; clear htw hb11 hend hcend hX3 hX3d hslen; go_wp2_with fail
    refine HLI.out.mono ?_; rintro _ w12 ⟨rfl, hb12⟩; have HB12 := Jh (HB11.out.trans (hb12.mono hd11)); have hd12 : d ≤ w12.heap.size := by have := hb12.size; omega
    have HW12 := Jh (Kdv X3 w12 (HTW11.out.below hb12) (by omega) hd12); clear hb12; go_wp2_with fail
    refine HW12.out.mono ?_; rintro _ w13 ⟨rfl, htw13, hb13, hjk3⟩; clear hjk3; rw [HX3D.out, HEND.out] at htw13; have HB13 := Jh (HB12.out.trans hb13); have HTW13 := Jh htw13; have hd13 : d ≤ w13.heap.size := by have := hb13.size; omega
    have hk13 := HK5.out.below HB13.out (by omega); have k0 : w13.cell? ⟨q, 0, none⟩ = some (.int .i64 r) := hk13.cell 0; have k1 : w13.cell? ⟨q, 1, none⟩ = some (.int .i64 f) := hk13.cell 1; have k2 : w13.cell? ⟨q, 2, none⟩ = some (.int .i64 t) := hk13.cell 2
    obtain ⟨g0, g1, g2, g3, g4⟩ : 0 ≤ c.res ∧ c.res < 3 ∧ 0 ≤ c.frm ∧ c.frm < c.to_ ∧ c.to_ ≤ 1125899906842625 := by
     obtain ⟨a, b, e, f, g, _⟩ := Kew.1 HF.out; exact ⟨a, b, e, f, g⟩
    have hmeta : metaB c = uintT c.res.toNat ++ (intT c.frm ++ intT c.to_) := rfl; rw [HRR.out] at g0 g1 hmeta; rw [HRF.out] at g2 g3 hmeta; rw [HRT.out] at g3 g4 hmeta; obtain ⟨rn, rfl⟩ : ∃ rn : Nat, r = (rn : Int) := ⟨r.toNat, by omega⟩; rw [Int.toNat_natCast] at hmeta; have HR1 := Jh (fun u : Later w13 => Kau rn (by omega) u.w); have HI1 := Jh (fun u : Later w13 => Kpj f (by omega) (by omega) u.w); have HI2 := Jh (fun u : Later w13 => Kpj t (by omega) (by omega) u.w); obtain ⟨M0, hM0⟩ : ∃ X : ByteArray, (⟨(uintT rn).toArray⟩ : ByteArray) = X := ⟨_, rfl⟩; obtain ⟨M1, hM1⟩ : ∃ X : ByteArray, (⟨(intT f).toArray⟩ : ByteArray) = X := ⟨_, rfl⟩; obtain ⟨M2, hM2⟩ : ∃ X : ByteArray, (⟨(intT t).toArray⟩ : ByteArray) = X := ⟨_, rfl⟩; have hM0d : M0.data.toList = uintT rn := by rw [← hM0]
    have hM1d : M1.data.toList = intT f := by rw [← hM1]
    have hM2d : M2.data.toList = intT t := by rw [← hM2]
    have hM0s : M0.size ≤ 11 := by rw [← Kah, hM0d]; exact (Kab _).2
    have hM1s : M1.size ≤ 11 := by rw [← Kah, hM1d]; exact (Kab _).2
    have hM2s : M2.size ≤ 11 := by rw [← Kah, hM2d]; exact (Kab _).2
    rw [hM0] at HR1; rw [hM1] at HI1; rw [hM2] at HI2
    have hmd : (M0 ++ M1 ++ M2).data.toList = metaB c := by
     rw [hmeta]; simp only [ByteArray.data_append, Array.toList_append, hM0d, hM1d, hM2d, List.append_assoc]
    have HMD := Jh hmd; clear hM0 hM1 hM2 hM0d hM1d hM2d hmd hmeta hk13 htw13 hb13 k3; have hq13 : q < w13.heap.size := Nat.lt_of_lt_of_le (Nat.lt_of_lt_of_le (Nat.lt_add_of_pos_right (by decide : 0 < 2)) hq5) hd13; go_upto_region 34 with fail
    refine Kai (by kernel_rfl) (by kernel_rfl) ?_
    repeat (go_big_quiet_step ((first | (go_at_call 42; with_reducible exact Kal _ (HR1.out _)) | (go_at_call 46; first | with_reducible exact Kal _ (HI1.out _) | with_reducible exact Kal _ (HI2.out _)))))
    refine wpQuiet_nil ?_; rintro w14 ⟨⟨_, hb14⟩, rfl⟩; obtain ⟨MB, hMB⟩ : ∃ MB, M0 ++ M1 ++ M2 = MB := ⟨_, rfl⟩; have hMBs : MB.size ≤ 33 := by rw [← hMB, ByteArray.size_append, ByteArray.size_append]; omega
    rw [hMB] at HMD ⊢; have hqd : w.heap.size ≤ d := by rw [HQ.out]; exact Nat.le_of_lt (Nat.lt_of_lt_of_le (Nat.lt_add_of_pos_right (by decide : 0 < 2)) hq5)
    have HSL := Jh (fun (s : ByteArray) (hs : s.size ≤ 140737488351232) (W : World) (hb : Below d w5 W) => Kzf s hs W (Kbz.below HN.out HN.out.lt (HBW5.out.trans (hb.mono hqd)))); have HB14 := Jh (HB13.out.trans (hb14.mono hd13)); have HTW14 := Jh (HTW13.out.below hb14); have hd14 : d ≤ w14.heap.size := Nat.le_trans hd13 hb14.size; have hs1 := HSL.out MB (by omega) w14 HB14.out; rw [HMD.out] at hs1; obtain ⟨S1, hS1⟩ : ∃ S : ByteArray, (⟨(sealT (metaB c)).toArray⟩ : ByteArray) = S := ⟨_, rfl⟩; rw [hS1] at hs1; have HS1 := Jh hs1; have HES1 := Jh hS1; clear hMB hb14 hs1 hS1 k0 k1 k2 HR1 HI1 HI2 hM0s hM1s hM2s; go_wp2_with fail
    refine HS1.out.mono ?_; rintro _ w15 ⟨rfl, hb15⟩; have HB15 := Jh (HB14.out.trans (hb15.mono hd14)); have hd15 : d ≤ w15.heap.size := Nat.le_trans hd14 hb15.size; have hst := Kya w15 (HTW14.out.below hb15) hd15; obtain ⟨CB, hCB⟩ : ∃ S : ByteArray, (⟨(Kch c).toArray⟩ : ByteArray) = S := ⟨_, rfl⟩; rw [hCB] at hst; have hCBd : CB.data.toList = Kch c := by rw [← hCB]
    have hCBs : CB.size ≤ 35184372088832 := by rw [← Kah, hCBd]; exact hC2
    have HST := Jh hst; have HCBD := Jh hCBd; clear hb15 hst hCB hCBd; go_wp2_with fail
    refine HST.out.mono ?_; rintro _ w16 ⟨rfl, ⟨r2, hbd16⟩, hb16⟩; have HB16 := Jh (HB15.out.trans hb16); have hd16 : d ≤ w16.heap.size := Nat.le_trans hd15 hb16.size; have HBD16 := Jh hbd16; have hs2 := HSL.out CB (by omega) w16 HB16.out; rw [HCBD.out] at hs2; obtain ⟨S2, hS2⟩ : ∃ S : ByteArray, (⟨(sealT (Kch c)).toArray⟩ : ByteArray) = S := ⟨_, rfl⟩; rw [hS2] at hs2; have HS2 := Jh hs2; have HES2 := Jh hS2; clear hb16 hbd16 hs2 hS2; go_wp2_with fail
    refine HS2.out.mono ?_; rintro _ w17 ⟨rfl, hb17⟩; have HB17 := Jh (HB16.out.trans (hb17.mono hd16)); have hd17 : d ≤ w17.heap.size := Nat.le_trans hd16 hb17.size; have HBD17 := Jh (HBD16.out.below hb17); have hst2 := Khp d (d + 1) r2 (Kbd c) w17 HBD17.out; obtain ⟨IB, hIB⟩ : ∃ S : ByteArray, (⟨(Kbd c).toArray⟩ : ByteArray) = S := ⟨_, rfl⟩; rw [hIB] at hst2; have hIBd : IB.data.toList = Kbd c := by rw [← hIB]
    have hIBs : IB.size ≤ 35184372088832 := by rw [← Kah, hIBd]; exact hI2
    have HST2 := Jh hst2; have HIBD := Jh hIBd; clear hb17 hst2 hIB hIBd; go_wp2_with fail
    refine HST2.out.mono ?_; rintro _ w18 ⟨rfl, ho18⟩; have hb18 : Below d w17 w18 := ho18.below (Nat.le_succ d) (fun k hk => (HBD17.out.row hk).1) hd17; have HB18 := Jh (HB17.out.trans hb18); have hd18 : d ≤ w18.heap.size := Nat.le_trans hd17 hb18.size; have hs3 := HSL.out IB (by omega) w18 HB18.out; rw [HIBD.out] at hs3; obtain ⟨S3, hS3⟩ : ∃ S : ByteArray, (⟨(sealT (Kbd c)).toArray⟩ : ByteArray) = S := ⟨_, rfl⟩; rw [hS3] at hs3; have HS3 := Jh hs3; have HES3 := Jh hS3; clear hb18 ho18 hs3 hS3; go_wp2_with fail
    refine HS3.out.mono ?_; rintro _ w19 ⟨rfl, hb19⟩; have HB19 := Jh (HB18.out.trans (hb19.mono hd18)); have hf19 := HF5.out.below HB19.out (Nat.lt_of_lt_of_le (Nat.lt_succ_self _) hq5); have e0 : w19.cell? ⟨q + 1, 0, none⟩ = some (.string ⟨#[]⟩) := hf19.cell 0; have e1 : w19.cell? ⟨q + 1, 1, none⟩ = some (.string ⟨#[]⟩) := hf19.cell 1; have e2 : w19.cell? ⟨q + 1, 2, none⟩ = some (.string ⟨#[]⟩) := hf19.cell 2; have z0 := hf19.frozen 0; have z1 := hf19.frozen 1; have z2 := hf19.frozen 2; have HF19 := Jh hf19; clear hf19 hb19; clear hmm hi0 hz0 hz1 hz2 hi1 hy0 hy1 hy2 hqw hhl hmq hq3 k3 hq5 htz hXs hd6 hd7 hd8 hd9 hd10 hd11 hd12 hd13 hd14 hd15 hd16 hd17 hd18 hUs hixl hI2 hC2 hlz hX3s g0 g1 g2 g3 g4 hq13 hMBs hCBs hIBs hn
    try clear HSL
    try clear HS3
    try clear HST2
    try clear HS2
    try clear HST
    try clear HS1
    try clear HIBD
    try clear HCBD
    try clear HMD
    try clear HEND
    try clear HX3D
    try clear HUD
    try clear HXD
    try clear HBD17
    try clear HBD16
    try clear HTW14
    try clear HTW13
    try clear HTW11
    try clear HTW10
    try clear HB18
    try clear HB17
    try clear HB16
    try clear HB15
    try clear HB14
    try clear HB13
    try clear HB12
    try clear HB11
    try clear HB10
    try clear HW12
    try clear HLI
    try clear HU
    try clear HK5
    try clear HC1
    try clear HFIT
    try clear HK1
    try clear HRR
    try clear HMAP5
    try clear HTAB
    try clear HIST
    try clear HTL
    try clear HALL
    try clear HTT
    try clear HSZS
    try clear HMAP
    try clear HCO
    try clear HB5
    try clear HB4
    try clear HM
    try clear HB3
    try clear HSA
    try clear HSE
    try clear HSZ
    try clear HG
    try clear HC
    try clear HF
    try clear HB02
    try clear HB2
    try clear HF1
    try clear HB1
    try clear HLEN
    try clear HRF
    try clear HRT
    try clear HN
    try clear HT
    try clear HZ
    try clear HS
    try clear HF5
    try clear HD
    dsimp only
    iterate 12 (try (first | go_values | go_skip | go_guarded | go_step | go_upon | go_back))
    have hff : Blk (((w19.setCell ⟨q + 1, 0, none⟩ (.string S1)).setCell ⟨q + 1, 1, none⟩ (.string S2)).setCell ⟨q + 1, 2, none⟩ (.string S3)) (q + 1) 44 #[.string S1, .string S2, .string S3] := ((HF19.out.set_ 0 _).set_ 1 _).set_ 2 _; have hqq : w.heap.size ≤ q + 1 := by rw [HQ.out]; exact Nat.le_succ _
    have hbf : Below w.heap.size w (((w19.setCell ⟨q + 1, 0, none⟩ (.string S1)).setCell ⟨q + 1, 1, none⟩ (.string S2)).setCell ⟨q + 1, 2, none⟩ (.string S3)) := (((HBW5.out.trans (HB19.out.mono hqd)).setCell (p := ⟨q + 1, 0, none⟩) hqq _).setCell (p := ⟨q + 1, 1, none⟩) hqq _).setCell (p := ⟨q + 1, 2, none⟩) hqq _; obtain ⟨wf, hwf⟩ : ∃ wf, ((w19.setCell ⟨q + 1, 0, none⟩ (.string S1)).setCell ⟨q + 1, 1, none⟩ (.string S2)).setCell ⟨q + 1, 2, none⟩ (.string S3) = wf := ⟨_, rfl⟩; rw [hwf] at hff hbf ⊢; have HFF := Jh hff; have HBF := Jh hbf; clear hwf hff hbf e0 e1 e2 z0 z1 z2 hqq HF19
    iterate 2 (try (first | go_values | go_skip | go_guarded | go_step | go_upon | go_back))
    refine bodyPost_ret (Kix rfl _ _ ⟨q + 1, 0, none⟩ (.agg #[.string S1, .string S2, .string S3]) rfl (run_loadVar_row _ (q + 1) 44 44 _ (0, 0) _ HFF.out Tryz.underlying44 rfl (by kernel_rfl))) rfl ?_
    have hfil : filV (Kbc c) = .agg #[.string S1, .string S2, .string S3] := by
     unfold filV Kbc txtV; rw [HES1.out, HES2.out, HES3.out]
    rw [hfil]; exact ⟨rfl, HBF.out⟩
end
section
open Go.RowKit
open Lib renaming hid → Jh
attribute [local go_sem ↓] Go.wp_at_zero Go.wp_at_succ
attribute [local go_sem] Later.cell
theorem Qap {S T : ByteArray} (h : S ≠ T) : (S.toList == T.toList) = false ∧ (S == T) = false ∧ decide (S = T) = false ∧ decide (S.toList = T.toList) = false := by
 have hl2 : S.toList ≠ T.toList := fun e => h (by
  rw [ByteArray.toList_eq, ByteArray.toList_eq] at e; cases S; cases T
  simp at e
  rw [e])
 have h1 : (S.toList == T.toList) = false := by simpa using hl2
 exact ⟨h1, by rw [beq_toListBytes]; exact h1, by simpa using h, by simpa using hl2⟩
theorem Kxo (A : Option Addr) (n cap : Nat) (w : World) (hn : n ≤ cap) (hm : n ≤ 1099511627776) :
  Calls Tryz.prog 152 #[.slice A n cap] w fun e w' => e = .returned (.slice A n n) ∧ w = w' := by
 go_enter Tryz.func152, Tryz.ntmps152
 go_wp2_with fail
 go_ret
 exact ⟨rfl, rfl⟩
def DecO (w : World) (r : Option (List Smp)) (en : Ending) (w' : World) : Prop := match r with
 | some l => ∃ A, en = .returned (.tuple #[.slice A l.length l.length, .int .i64 0]) ∧ Elems w' w'.heap.size 2 Kbf A l.length l ∧ Below w.heap.size w w'
 | none => ∃ f, f ≠ 0 ∧ en = .returned (.tuple #[.slice none 0 0, .int .i64 ((f : Nat) : Int)]) ∧ Below w.heap.size w w'
theorem Kil (x : Smp) : (Kbf x).length = 2 := rfl
theorem Kmw (s : List UInt8) : ∀ (n : Nat) (c : Cst) (i : Nat), c.Ok → c.last.v < 2 ^ 64 → (∀ x ∈ (Kcb s n c i).1, x.v < 2 ^ 64) ∧ (Kcb s n c i).1.length ≤ n
 | 0, c, i, _, _ => ⟨fun x hx => by simp [Kcb] at hx, by simp [Kcb]⟩
 | n + 1, c, i, hc, hv => by
  rw [Kcb]
  cases hr : Kaz c s i with
  | none => exact ⟨fun x hx => by simp at hx, by simp⟩
  | some y =>
   obtain ⟨x, c', j⟩ := y; obtain ⟨k1, k2, k3, k4⟩ := Knq hc hv hr; obtain ⟨h1, h2⟩ := Kmw s n c' j k1 (by rw [k3]; exact k4); refine ⟨fun y hy => ?_, by simp; omega⟩; rcases List.mem_cons.1 hy with rfl | hy
   ·exact k4
   ·exact h1 y hy
theorem Kkr (s : List UInt8) : (∀ x ∈ (readC s).1, x.v < 2 ^ 64) ∧ (readC s).1.length ≤ 120 := by
 unfold readC
 split
 ·exact ⟨fun x hx => by simp at hx, by simp⟩
 ·split
  ·rename_i n i _ h
   obtain ⟨h1, h2⟩ := Kmw (s.drop i) n cst0 0 Cst.ok0 (by decide); exact ⟨h1, by omega⟩
  ·exact ⟨fun x hx => by simp at hx, by simp⟩
theorem Kmh {s : List UInt8} (h : (readC s).2 = true) : s ≠ [] := by
 rintro rfl; simp [readC, readU, readG] at h
theorem Kuj {s : List UInt8} (h : (readC s).2 = true) : (Kdb (readC s).1).1 = s ↔ decC s = some (readC s).1 := by
 unfold decC Kdb
 by_cases he : encE cst0 (readC s).1 = 0
 ·rw [if_pos he]; have hf := (Kke _).1 he
  by_cases hc : Kcd (readC s).1 = s
  ·rw [if_pos ⟨h, hf, hc⟩]; simp [hc]
  ·rw [if_neg (fun h => hc h.2.2)]; simp [hc]
 ·rw [if_neg he]; have hf : ¬ fitC none 0 (readC s).1 = true := fun hf => he ((Kke _).2 hf)
  rw [if_neg (fun h => hf h.2.1)]; constructor
  ·intro h'; exact absurd h'.symm (Kmh h)
  ·intro h'; cases h'
theorem Qar {s : List UInt8} (h : (readC s).2 = true) (hc : (Kdb (readC s).1).1 ≠ s) : decC s = none := by
 cases hd : decC s with
 | none => rfl
 | some l =>
  have : decC s = some (readC s).1 := by
   unfold decC at hd ⊢
   split at hd
   ·rename_i h1; rw [if_pos h1]
   ·cases hd
  exact absurd ((Kuj h).2 this) hc
theorem Kro (s : ByteArray) (w : World) (hs : s.size ≤ 140737488351232) (hT : DbTab w) :
  Calls Tryz.prog 84 #[.string s] w (DecO w (decC s.data.toList)) := by
 have HRD := Jh (Kxv s w hs); have HT := Jh hT; clear hT
 cases hr : (readC s.data.toList).2 with
 | false =>
  have hd : decC s.data.toList = none := by unfold decC; rw [if_neg (by rw [hr]; simp)]
  rw [hd]; clear hd; go_enter Tryz.func84, Tryz.ntmps84
  go_wp2_with fail
  refine HRD.out.mono ?_; intro e w1 ho; unfold ReadO at ho; rw [if_neg (by rw [hr]; simp)] at ho; obtain ⟨v, f, hf, rfl, hb⟩ := ho; have hf' : ((f : Int) != 0) = true := by simp; omega
  go_wp2_with fail
  go_ret2
  exact ⟨f, hf, rfl, hb⟩
 | true =>
  have HR := Jh hr; obtain ⟨hv1, hv2⟩ := Kkr s.data.toList; obtain ⟨l, hl⟩ : ∃ l, (readC s.data.toList).1 = l := ⟨_, rfl⟩; have h1 := Kuj hr; have h2 := Qar hr; rw [hl] at hv1 hv2 h1 h2; have HL := Jh hl; have H1 := Jh h1; have H2 := Jh h2; clear h1 h2; go_enter Tryz.func84, Tryz.ntmps84
  go_wp2_with fail
  refine HRD.out.mono ?_; intro e w1 ho; unfold ReadO at ho; rw [if_pos HR.out, HL.out] at ho; obtain ⟨v, rfl, hown, hb⟩ := ho; obtain ⟨A, cap, rfl, hel, _, hcap⟩ := Elems.of_own (fun x _ => Kil x) rfl hown rfl; obtain ⟨n, hn⟩ : ∃ n, l.length = n := ⟨_, rfl⟩; rw [hn] at hel hcap hv2; rw [hn]; have HEN := Jh (Kiu l A n cap w1 hel (by omega) hv1 (HT.out.below hb)); have HE := Jh hel; have HB := Jh hb; have HN := Jh hn; obtain ⟨O, hO⟩ : ∃ O, Kdb l = O := ⟨_, rfl⟩; rw [hO] at HEN H1 H2; obtain ⟨OT, OE⟩ := O; clear hown hel hb hn hl hr hO; dsimp only at HEN H1 H2; go_wp2_with fail
  refine HEN.out.mono ?_; rintro _ w2 ⟨rfl, hb2⟩; have HB2 := Jh (then_ HB.out hb2); have HE2 := Jh ((HE.out.below hb2).more hb2.size)
  by_cases hc : OT = s.data.toList
  ·have hts : (⟨OT.toArray⟩ : ByteArray) = s := by rw [hc]
   rw [hts]; have hd := Jh (H1.out.1 hc); clear hb2; go_wp2_with fail
   refine (Kxo A n cap w2 hcap (by omega)).mono ?_; rintro _ _ ⟨rfl, rfl⟩; go_wp2_with fail
   go_ret2
   rw [hd.out]; exact ⟨A, by rw [HN.out]; rfl, by rw [HN.out]; exact HE2.out, HB2.out⟩
  ·have hts : (⟨OT.toArray⟩ : ByteArray) ≠ s := by
    intro h; apply hc; rw [← h]
   have hd := Jh (H2.out hc); obtain ⟨OS, hOS⟩ : ∃ OS : ByteArray, (⟨OT.toArray⟩ : ByteArray) = OS := ⟨_, rfl⟩; rw [hOS] at hts ⊢; obtain ⟨n1, n2, n3, n4⟩ := Qap hts; clear hb2 hc hOS; go_wp2_with fail
   go_ret2
   rw [hd.out]; exact ⟨21, by decide, rfl, HB2.out⟩
end
end Go.Proofs.YtdoiekknhnbepaaGreatDoor
