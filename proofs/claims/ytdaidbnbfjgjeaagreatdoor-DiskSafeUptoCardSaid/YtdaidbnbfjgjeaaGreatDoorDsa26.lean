/- Merged: RdkWalksH, RdkWalksJ. -/
import Derived.Test.YtdaidbnbfjgjeaaGreatDoorDsa19
import Derived.Test.YtdaidbnbfjgjeaaGreatDoorDsa21
set_option linter.unusedVariables false
set_option linter.unusedSimpArgs false
/-! ## RdkWalksH -/
/- The walks of layer 3 (disk), the document's: Flip, Cut. -/
namespace Go.Proofs.YtdaidbnbfjgjeaaGreatDoor
open Go.RowKit Go.Shelf Go.Maps Go.Sort
attribute [local go_sem ↓] Go.wp_at_zero Go.wp_at_succ
attribute [local go_sem] Later.cell Later.frozen

section
variable {B0 : Nat} {R : Nat → Nat} {A : RAdr} {d : Ds}
set_option maxRecDepth 100000 in
set_option maxHeartbeats 2000000 in
theorem rflip_calls (S : ByteArray) (k : Int) (m : UInt8) (w : World) (h : RD B0 w R A d) (hf : Fit d) (hS : S.size ≤ 1073741824) (hk1 : -9223372036854775808 ≤ k) (hk2 : k ≤ 9223372036854775807) (hnl : ∀ i, (fAt d i).now.length ≤ 1073741824) :
    Calls Tryz.prog 100 #[.pointer (some ⟨A.q, 0, none⟩), .string S, .int .i64 k, .int .u8 m.toNat] w (RdOut B0 R A (flipD d S.data.toList k m) w) := by
  have HF := Lib.hid (rfile_calls S w h (Nat.le_trans hf.tl (by decide)) hS)
  obtain ⟨r, hr⟩ : ∃ r, fileD d S.data.toList = r := ⟨_, rfl⟩
  rw [hr] at HF
  obtain ⟨q, hq⟩ : ∃ q, A.q = q := ⟨_, rfl⟩
  have HQ := Lib.hid hq
  rw [hq] at HF ⊢
  cases r with
  | error k2 =>
    have hfin : RdOut B0 R A (flipD d S.data.toList k m) w (.returned (.int .i64 (k2 : Int))) w := by
      have e1 : flipD d S.data.toList k m = (k2, d) := by unfold flipD; rw [hr]
      rw [e1]
      exact RdOut.stay h k2
    have hk := fileD_error hr
    have d1 : ((k2 : Int) == 0) = false := by rw [beq_eq_false_iff_ne]; omega
    unfold fileV at HF
    simp only [] at HF
    have HFIN := Lib.hid hfin
    clear hk hr hq hfin
    go_enter Tryz.func100, Tryz.ntmps100
    go_wp2_with fail
    refine HF.out.mono ?_
    rintro _ w1 ⟨rfl, rfl⟩
    go_wp2_with fail
    go_ret
    exact HFIN.out
  | ok i =>
    have hi := fileD_lt hf hr
    obtain ⟨g, c, v, hfv, hRg, hgl, hnc, hv, k0, k1, k2, hch, hfz⟩ := h.file_at hi
    have hfl := hf.fl
    have hFI := hi
    obtain ⟨n, hn⟩ : ∃ n, d.files.length = n := ⟨_, rfl⟩
    rw [hn] at hi hnc hfl
    have c3 : w.cell? ⟨q, 3, none⟩ = some (.slice (some ⟨g, 0, none⟩) n c) := by rw [← hq, ← hn, ← hfv]; exact Blk.cell h.blk 3
    have hql : q < w.heap.size := lt_of_cell c3
    have hin : (i : Int) < (n : Int) := by omega
    obtain ⟨T, hT⟩ : ∃ T : ByteArray, (⟨(fAt d i).now.toArray⟩ : ByteArray) = T := ⟨_, rfl⟩
    have hTT : (fAt d i).now = T.data.toList := by rw [← hT]
    have hTz : T.size ≤ 1073741824 := by rw [← text_size3, ← hTT]; exact hnl i
    rw [hTT, txtV_self] at k0
    have hE : flipD d S.data.toList k m = if k < 0 ∨ (T.size : Int) ≤ k then (6, d) else (0, setF d i ⟨flipT T.data.toList k.toNat m, flipT T.data.toList k.toNat m, []⟩) := by unfold flipD; rw [hr]; simp only []; rw [hTT, text_size3]
    have HE := Lib.hid hE
    have HFV := Lib.hid hfv
    have HN := Lib.hid hn
    unfold fileV at HF
    simp only [] at HF
    clear hE hr hq hT hTT hv hch hfz hfv hn hnl
    by_cases hbad : k < 0 ∨ (T.size : Int) ≤ k
    · have hfin : RdOut B0 R A (flipD d S.data.toList k m) w (.returned (.int .i64 ((6 : Nat) : Int))) w := by
        rw [HE.out, if_pos hbad]
        exact RdOut.stay h 6
      have HFIN := Lib.hid hfin
      clear hfin
      by_cases h1 : k < 0
      · have d1 : decide (k < 0) = true := by simpa using h1
        clear hbad
        go_enter Tryz.func100, Tryz.ntmps100
        go_wp2_with fail
        refine HF.out.mono ?_
        rintro _ w1 ⟨rfl, rfl⟩
        go_wp2_with fail
        go_ret
        exact HFIN.out
      · have d1 : decide (k < 0) = false := by simpa using h1
        have d2 : decide ((T.size : Int) ≤ k) = true := by simp; omega
        clear hbad
        go_enter Tryz.func100, Tryz.ntmps100
        go_wp2_with fail
        refine HF.out.mono ?_
        rintro _ w1 ⟨rfl, rfl⟩
        go_wp2_with fail
        go_ret
        exact HFIN.out
    · have hE2 := HE.out
      rw [if_neg hbad] at hE2
      obtain ⟨x, rfl⟩ : ∃ x : Nat, k = (x : Int) := ⟨k.toNat, by omega⟩
      have HE2 := Lib.hid hE2
      have d1 : decide ((x : Int) < 0) = false := by simp
      have d2 : decide ((T.size : Int) ≤ (x : Int)) = false := by simp; omega
      have d2' : decide (T.size ≤ x) = false := by simp; omega
      have hx : x < T.size := by omega
      clear hE2 hbad
      go_enter Tryz.func100, Tryz.ntmps100
      go_wp2_with fail
      refine HF.out.mono ?_
      rintro _ w1 ⟨rfl, rfl⟩
      go_upto_region 7 with fail
      obtain ⟨b, hb⟩ : ∃ c, T[x] ^^^ m = c := ⟨_, rfl⟩
      have hxr := bits_xor_u8 T[x] m
      rw [hb] at hxr
      have HC := Lib.hid hb
      have hcv := one_byte b w.heap.size ((w.alloc (.cells #[.int .u8 (b.toNat : Int)] 5)).drew) (by simp [go_sem])
      clear hb
      go_region
      obtain ⟨N, hN⟩ : ∃ N, T.extract 0 x ++ ⟨#[b]⟩ ++ T.extract (x + 1) T.size = N := ⟨_, rfl⟩
      have hNl : N.data.toList = flipT T.data.toList x m := by
        rw [← hN]
        have e1 := take_bytes T x
        have e2 := drop_bytes T (x + 1)
        have e3 : T.data.toList[x]?.getD 0 = T[x] := by
          have hl : x < T.data.toList.length := hx
          rw [List.getElem?_eq_getElem hl]
          simp [ByteArray.getElem_eq_getElem_data]
        unfold flipT
        rw [e3, HC.out, ← e1, ← e2]
        simp [ByteArray.data_append]
      have hNv : txtV (flipT T.data.toList x m) = .string N := by unfold txtV; rw [← hNl]
      rw [hN]
      have hb2 : Below w.heap.size w (w.alloc (.cells #[.int .u8 (b.toNat : Int)] 5)).drew := ((Below.refl _ _).alloc (Nat.le_refl _) _).drew
      obtain ⟨w2, hw2⟩ : ∃ w3, (w.alloc (.cells #[.int .u8 (b.toNat : Int)] 5)).drew = w3 := ⟨_, rfl⟩
      rw [hw2] at hb2 ⊢
      have hR3 := h.below hb2
      obtain ⟨hlr, hlo⟩ := hR3.file_plain (i := i) hFI HFV.out (flipT T.data.toList x m)
      obtain ⟨g', c', v', hfv', _, hgl', _, _, m0, m1, m2, _, hfz'⟩ := hR3.file_at (i := i) hFI
      rw [HFV.out] at hfv'
      obtain ⟨rfl, rfl⟩ : g = g' ∧ c = c' := by simpa using hfv'
      have f0 := hfz' (i * 3)
      have f1 := hfz' (i * 3 + 1)
      have f2 := hfz' (i * 3 + 2)
      have c3' : w2.cell? ⟨q, 3, none⟩ = some (.slice (some ⟨g, 0, none⟩) n c) := (hb2.cell (p := ⟨q, 3, none⟩) hql).trans c3
      rw [hNv] at hlr hlo
      have hfin : RdOut B0 R A (flipD d S.data.toList (x : Int) m) w (.returned (.int .i64 0)) (((w2.setCell ⟨g, i * 3, none⟩ (.string N)).setCell ⟨g, i * 3 + 1, none⟩ (.string N)).setCell ⟨g, i * 3 + 2, none⟩ (.slice none 0 0)) := by
        rw [HE2.out]
        exact ⟨R, _, rfl, hlr, (Own.of_below hb2).trans hlo, rfl⟩
      have HFIN := Lib.hid hfin
      clear hfin hlr hlo hfv' hfz' hR3 hw2 hN hNl hNv hcv hxr c3 k0 k1 k2
      go_wp2_with fail
      go_ret
      exact HFIN.out

set_option maxRecDepth 100000 in
set_option maxHeartbeats 4000000 in
theorem rcut_calls (S : ByteArray) (z : Int) (w : World) (h : RD B0 w R A d) (hf : Fit d) (hS : S.size ≤ 1073741824) (hB : B0 ≤ w.heap.size) (hz1 : -9223372036854775808 ≤ z) (hz2 : z ≤ 9223372036854775807) (hnl : ∀ i, (fAt d i).now.length ≤ 1073741824) (hsl : ∀ i, (fAt d i).steps.length ≤ 1073741824) :
    Calls Tryz.prog 54 #[.pointer (some ⟨A.q, 0, none⟩), .string S, .int .i64 z] w (RdOut B0 R A (cutD d S.data.toList z) w) := by
  have HF := Lib.hid (rfile_calls S w h (Nat.le_trans hf.tl (by decide)) hS)
  obtain ⟨r, hr⟩ : ∃ r, fileD d S.data.toList = r := ⟨_, rfl⟩
  rw [hr] at HF
  have HST := Lib.hid (rstep_calls w h hf.aw)
  obtain ⟨q, hq⟩ : ∃ q, A.q = q := ⟨_, rfl⟩
  have HQ := Lib.hid hq
  rw [hq] at HF HST ⊢
  cases r with
  | error k2 =>
    have hfin : RdOut B0 R A (cutD d S.data.toList z) w (.returned (.int .i64 (k2 : Int))) w := by
      have e1 : cutD d S.data.toList z = (k2, d) := by unfold cutD; rw [hr]
      rw [e1]
      exact RdOut.stay h k2
    have hk := fileD_error hr
    have d1 : ((k2 : Int) == 0) = false := by rw [beq_eq_false_iff_ne]; omega
    unfold fileV at HF
    simp only [] at HF
    have HFIN := Lib.hid hfin
    clear hk hr hq hfin
    go_enter Tryz.func54, Tryz.ntmps54
    go_wp2_with fail
    refine HF.out.mono ?_
    rintro _ w1 ⟨rfl, rfl⟩
    go_wp2_with fail
    go_ret
    exact HFIN.out
  | ok i =>
    have hi := fileD_lt hf hr
    obtain ⟨g, c, v, hfv, hRg, hgl, hnc, hv, k0, k1, k2, hch, hfz⟩ := h.file_at hi
    have hfl := hf.fl
    have hFI := hi
    obtain ⟨n, hn⟩ : ∃ n, d.files.length = n := ⟨_, rfl⟩
    rw [hn] at hi hnc hfl
    have c3 : w.cell? ⟨q, 3, none⟩ = some (.slice (some ⟨g, 0, none⟩) n c) := by rw [← hq, ← hn, ← hfv]; exact Blk.cell h.blk 3
    have hql : q < w.heap.size := lt_of_cell c3
    have hin : (i : Int) < (n : Int) := by omega
    obtain ⟨T, hT⟩ : ∃ T : ByteArray, (⟨(fAt d i).now.toArray⟩ : ByteArray) = T := ⟨_, rfl⟩
    have hTT : (fAt d i).now = T.data.toList := by rw [← hT]
    have hTz : T.size ≤ 1073741824 := by rw [← text_size3, ← hTT]; exact hnl i
    rw [hTT, txtV_self] at k0
    obtain ⟨k, dd, hk⟩ : ∃ k d1, stepD d = (k, d1) := ⟨_, _, rfl⟩
    have hss := stepD_same d
    rw [hk] at hss
    have hE : cutD d S.data.toList z = if z < 0 ∨ (T.size : Int) < z then (6, d) else if k ≠ 0 then (k, dd) else (0, setF dd i { fAt d i with now := T.data.toList.take z.toNat, steps := (fAt d i).steps ++ [⟨[], true, z.toNat⟩] }) := by unfold cutD; rw [hr]; simp only []; rw [hk, hTT, text_size3]
    have HE := Lib.hid hE
    have HFV := Lib.hid hfv
    have HN := Lib.hid hn
    have HK := Lib.hid hk
    have HSS := Lib.hid hss
    have HTT := Lib.hid hTT
    have HNL := Lib.hid hnl
    have HSL := Lib.hid hsl
    unfold fileV at HF
    simp only [] at HF
    clear hE hr hq hT hTT hv hch hfz hfv hn hnl hsl hk hss
    by_cases hbad : z < 0 ∨ (T.size : Int) < z
    · have hfin : RdOut B0 R A (cutD d S.data.toList z) w (.returned (.int .i64 ((6 : Nat) : Int))) w := by
        rw [HE.out, if_pos hbad]
        exact RdOut.stay h 6
      have HFIN := Lib.hid hfin
      clear hfin
      by_cases h1 : z < 0
      · have d1 : decide (z < 0) = true := by simpa using h1
        clear hbad
        go_enter Tryz.func54, Tryz.ntmps54
        go_wp2_with fail
        refine HF.out.mono ?_
        rintro _ w1 ⟨rfl, rfl⟩
        go_wp2_with fail
        go_ret
        exact HFIN.out
      · have d1 : decide (z < 0) = false := by simpa using h1
        have d2 : decide ((T.size : Int) < z) = true := by simp; omega
        clear hbad
        go_enter Tryz.func54, Tryz.ntmps54
        go_wp2_with fail
        refine HF.out.mono ?_
        rintro _ w1 ⟨rfl, rfl⟩
        go_wp2_with fail
        go_ret
        exact HFIN.out
    · have hE2 := HE.out
      rw [if_neg hbad] at hE2
      obtain ⟨x, rfl⟩ : ∃ x : Nat, z = (x : Int) := ⟨z.toNat, by omega⟩
      have HE2 := Lib.hid hE2
      have d1 : decide ((x : Int) < 0) = false := by simp
      have d2 : decide ((T.size : Int) < (x : Int)) = false := by simp; omega
      have d2' : decide (T.size < x) = false := by simp; omega
      have hx : x ≤ T.size := by omega
      clear hE2 hbad
      go_enter Tryz.func54, Tryz.ntmps54
      go_wp2_with fail
      refine HF.out.mono ?_
      rintro _ w1 ⟨rfl, rfl⟩
      go_wp2_with fail
      refine HST.out.mono ?_
      rintro _ w1 ⟨rfl, hRD2, hO1, hsz, hrest⟩
      rw [HK.out] at hRD2 ⊢
      clear hsz hrest
      cases k with
      | succ k =>
        have hfin : RdOut B0 R A (cutD d S.data.toList (x : Int)) w (.returned (.int .i64 ((k + 1 : Nat) : Int))) w1 := by
          rw [HE2.out, if_pos (by omega)]
          exact ⟨R, A, rfl, hRD2, hO1, rfl⟩
        have HFIN := Lib.hid hfin
        have d3 : (((k + 1 : Nat) : Int) == 0) = false := by rw [beq_eq_false_iff_ne]; omega
        clear hfin hRD2 hO1
        go_wp2_with fail
        go_ret
        exact HFIN.out
      | zero =>
        have hss := HSS.out
        have efa : fAt dd i = fAt d i := by unfold fAt; rw [hss.2.2.2]
        have hFI2 : i < dd.files.length := by rw [hss.2.2.2]; exact hFI
        clear c3 k0 k1 k2 hgl hRg
        obtain ⟨g', c', v', hfv, hRg, hgl, _, hv, k0, k1, k2, hch, hfz⟩ := hRD2.file_at hFI2
        rw [HFV.out, hss.2.2.2] at hfv
        obtain ⟨rfl, rfl⟩ : g = g' ∧ c = c' := by simpa using hfv
        rw [efa] at k0 k1 hch
        rw [HTT.out, txtV_self] at k0
        have c3 : w1.cell? ⟨q, 3, none⟩ = some (.slice (some ⟨g, 0, none⟩) n c) := by rw [← HQ.out, ← HN.out, ← HFV.out]; exact Blk.cell hRD2.blk 3
        have hql : q < w1.heap.size := lt_of_cell c3
        have g0 := hfz (i * 3)
        have HR2 := Lib.hid hRD2
        have HO1 := Lib.hid hO1
        have HEF := Lib.hid efa
        have HV := Lib.hid hv
        clear hss efa hfv hRD2 hO1 hv hfz hch
        go_upto_region 9 with fail
        refine wp_region_later_tail 17 (by kernel_rfl) (by kernel_rfl) ?_
        simp only [List.take_succ_cons, List.take_zero, List.drop_succ_cons, List.drop_zero]
        repeat (go_big_quiet_step (fail))
        refine wpQuiet_nil ?_
        rintro w2 ⟨⟨_, hb2⟩, rfl⟩
        have hR3 := HR2.out.below hb2
        clear c3 k0 k1 k2 hgl hql g0
        obtain ⟨g', c', v2, hfv', _, hgl, _, hv', k0, k1, k2, hch, hfz'⟩ := hR3.file_at hFI2
        rw [HFV.out, HSS.out.2.2.2] at hfv'
        obtain ⟨rfl, rfl⟩ : g = g' ∧ c = c' := by simpa using hfv'
        obtain rfl : v' = v2 := by rw [HV.out] at hv'; injection hv'
        rw [HEF.out, HTT.out, txtV_self] at k0
        rw [HEF.out] at hch
        have c3 : w2.cell? ⟨q, 3, none⟩ = some (.slice (some ⟨g, 0, none⟩) n c) := by rw [← HQ.out, ← HN.out, ← HFV.out]; exact Blk.cell hR3.blk 3
        have hql : q < w2.heap.size := lt_of_cell c3
        have f0 := hfz' (i * 3)
        have f2 := hfz' (i * 3 + 2)
        have hqg : q ≠ g := fun e => by have := hR3.rq; rw [HQ.out, e] at this; omega
        have hrow := hch.1
        have hvb : ∀ j, v'.ownBlock = some j → R j = 10 + i := hch.2
        have hvg : v'.ownBlock ≠ some g := fun e => by have := hvb g e; omega
        have hvq : v'.ownBlock ≠ some q := fun e => by have := hvb q e; have := hR3.rq; rw [HQ.out] at this; omega
        obtain ⟨m, hm⟩ : ∃ m, (fAt d i).steps.length = m := ⟨_, rfl⟩
        have hml : m ≤ 1073741824 := by rw [← hm]; exact HSL.out i
        rw [hm] at hrow
        obtain ⟨X4, c4, rfl⟩ : ∃ X4 c4, v' = .slice X4 m c4 := by
          rcases hrow.2 with ⟨h1, h0⟩ | ⟨g, cap, cur, h1, _⟩
          · exact ⟨none, 0, by rw [h0]; exact h1⟩
          · exact ⟨_, cap, h1⟩
        have HM := Lib.hid hm
        have HR3 := Lib.hid hR3
        have HCH := Lib.hid hch
        have HB2 := Lib.hid hb2
        have hTN : (T.extract 0 x).data.toList = T.data.toList.take x := take_bytes T x
        obtain ⟨N, hNN⟩ : ∃ N, T.extract 0 x = N := ⟨_, rfl⟩
        have HNN := Lib.hid hNN
        rw [hNN] at hTN
        have HTN := Lib.hid hTN
        clear hfv' hv' hfz' hch hR3 hb2 hm hNN hTN
        go_upto_region 10 with fail
        rw [HNN.out]
        obtain ⟨w3, hw3⟩ : ∃ x, w2.setCell ⟨g, i * 3, none⟩ (.string N) = x := ⟨_, rfl⟩
        have HW3 := Lib.hid hw3
        have hrow3 : w3.ownsRow 0 149 3 (.slice X4 m c4) m ((fAt d i).steps.flatMap encCh) := by rw [← hw3]; exact ownsRow_setCell_other hrow (a := ⟨g, i * 3, none⟩) hvg _
        have hfr3 : w3.ownsRow 0 119 3 (.slice (some ⟨g, 0, none⟩) n c) n ((rowB dd.files A.vs).set (i * 3) (.string N)) := by
          have h1 := HR3.out.files.1
          rw [HFV.out, HSS.out.2.2.2, HN.out] at h1
          rw [← hw3]
          have := (World.ownsRow.stored h1 (i * 3) (.string N)).1
          rw [HSS.out.2.2.2]
          exact this
        have hc2 : w3.cell? ⟨g, i * 3 + 2, none⟩ = some (.slice X4 m c4) := by
          rw [← hw3]
          exact (World.cell?_setCell_other _ _ _ _ (by intro e; injection e with _ e; omega)).trans k2
        have hc3 : w3.cell? ⟨q, 3, none⟩ = some (.slice (some ⟨g, 0, none⟩) n c) := by
          rw [← hw3]
          exact (World.cell?_setCell_other _ _ _ _ (by intro e; injection e with e; exact hqg e.symm)).trans c3
        rw [hw3]
        clear hw3 c3 k0 k1 k2 f0 f2 hql
        have hql : q < w3.heap.size := lt_of_cell hc3
        have hgl3 : g < w3.heap.size := lt_of_cell hc2
        have hkt : ∀ (w5 : World), (w3.drew.alloc (.cells #[.string ⟨#[]⟩, .bool true, .int .i64 (x : Int)] 149)).grownBy w5 (Value.slice X4 m c4).ownBlock →
            w5.cell? ⟨q, 3, none⟩ = some (.slice (some ⟨g, 0, none⟩) n c) ∧ w5.cell? ⟨g, i * 3 + 2, none⟩ = some (.slice X4 m c4) ∧ w5.frozen? ⟨g, i * 3 + 2, none⟩ = false ∧ w3.grownBy w5 (Value.slice X4 m c4).ownBlock := by
          intro w5 hg
          have h3 : w3.drew.grownBy w5 (Value.slice X4 m c4).ownBlock := (World.grownBy_alloc w3.drew _ _).trans hg
          have h3' : w3.grownBy w5 (Value.slice X4 m c4).ownBlock := ⟨h3.os, h3.tape, h3.output, h3.size, h3.block⟩
          refine ⟨(World.cell?_of_block (w := w3) (h3'.block q hql (fun e => hvq e.symm))).trans hc3, (World.cell?_of_block (w := w3) (h3'.block g hgl3 (fun e => hvg e.symm))).trans hc2, ?_, h3'⟩
          exact World.ownsRow.frozenAt (hfr3.kept h3' (.inr (Ne.symm hvg))) _
        have hnews : ∀ j u, ([.string ⟨#[]⟩, .bool true, .int .i64 (x : Int)] : List Value)[j]? = some u → (w3.drew.alloc (.cells #[.string ⟨#[]⟩, .bool true, .int .i64 (x : Int)] 149)).cell? ((⟨w3.heap.size, 0, none⟩ : Addr).add j) = some u := news_of_blk (l := [.string ⟨#[]⟩, .bool true, .int .i64 (x : Int)]) (Blk.new w3.drew _ _)
        have h1c : ∀ u ∈ ([.string ⟨#[]⟩, .bool true, .int .i64 (x : Int)] : List Value), u.oneCell' = true := by intro u hu; simp at hu; rcases hu with rfl | rfl | rfl <;> rfl
        have HKT := Lib.hid hkt
        have HNEWS := Lib.hid hnews
        have H1C := Lib.hid h1c
        have HROW := Lib.hid hrow3
        obtain ⟨i0, hi0, hz0, hz1, hz2⟩ := info_parts info_rchange
        clear hkt hnews h1c hrow hrow3 hfr3
        go_region_law ((refine step_append_lies _ (by rfl) _ _ _ (by rfl) 0 149 i0 (.agg #[.string ⟨#[]⟩, .bool false, .int .i64 0]) 3 32 Tryz.underlying117 hi0 hz0 hz1 hz2 rfl (by omega) (.slice X4 m c4) m ((fAt d i).steps.flatMap encCh) (by rfl) (World.ownsRow.alloc (w := w3.drew) HROW.out _) ⟨w3.heap.size, 0, none⟩ 1 1 [.string ⟨#[]⟩, .bool true, .int .i64 (x : Int)] (by rfl) (by rfl) HNEWS.out H1C.out (by omega) (by simp only [maxLen]; omega) (by omega) (Nat.zero_le _) (w3.heap.size + 1) (by simp) ?_; intro gg cap w5 hown5 hgrow hat hlt; obtain ⟨j3, j2, jf, hg5⟩ := HKT.out _ hgrow))
        all_goals
          have hlast := HR3.out.file_step (i := i) (g := g) (c := c) (v := .slice X4 m c4) (v' := .slice (some ⟨gg, 0, none⟩) (m + 1) cap) (N := T.data.toList.take x) (s := ⟨[], true, x⟩) (w2 := w5) hFI2 (by rw [HFV.out, HSS.out.2.2.2]) HV.out (by rw [HEF.out]; exact HCH.out) (by
            have e1 : txtV (T.data.toList.take x) = .string N := by rw [← HTN.out]; exact txtV_self N
            rw [e1, HW3.out]
            exact hg5) (by rw [HEF.out, HM.out]; exact hown5) (by
            rcases hat with h1 | h1
            · exact .inl h1.symm
            · exact .inr ⟨gg, rfl, by rw [h1, ← HW3.out]; simp [World.setCell]⟩) (by have := HO1.out.size; have := HB2.out.size; omega)
          obtain ⟨hlr, hlo⟩ := hlast
          have hfin : RdOut B0 R A (cutD d S.data.toList (x : Int)) w (.returned (.int .i64 0)) (w5.setCell ⟨g, i * 3 + 2, none⟩ (.slice (some ⟨gg, 0, none⟩) (m + 1) cap)) := by
            rw [HE2.out, if_neg (by omega)]
            rw [HEF.out] at hlr
            exact ⟨_, _, rfl, hlr, (HO1.out.trans (Own.of_below HB2.out)).trans hlo, rfl⟩
          have HFIN := Lib.hid hfin
          clear hfin hlr hlo hat hlt hgrow hg5 hown5
          go_wp2_with fail
          go_ret
          exact HFIN.out
end
end Go.Proofs.YtdaidbnbfjgjeaaGreatDoor

/-! ## RdkWalksJ -/
/- The walks of layer 3 (disk), the document's: Append. -/
namespace Go.Proofs.YtdaidbnbfjgjeaaGreatDoor
open Go.RowKit Go.Shelf Go.Maps Go.Sort
attribute [local go_sem ↓] Go.wp_at_zero Go.wp_at_succ
attribute [local go_sem] Later.cell Later.frozen

section
variable {B0 : Nat} {R : Nat → Nat} {A : RAdr} {d : Ds}
theorem flat_take {l : List Txt} {i : Nat} (hi : i < l.length) : (l.take (i + 1)).flatten = (l.take i).flatten ++ l[i]! := by
  rw [List.take_succ_eq_append_getElem hi, List.flatten_append, getElem!_pos l i hi]
  simp
theorem flat_take_le (l : List Txt) (i : Nat) : (l.take i).flatten.length ≤ l.flatten.length := by
  conv => rhs; rw [← List.take_append_drop i l]
  rw [List.flatten_append, List.length_append]
  omega
set_option maxRecDepth 100000 in
set_option maxHeartbeats 8000000 in
theorem rappend_calls (S : ByteArray) (Ao : Option Addr) (pn pc : Nat) (l : List Txt) (w : World) (h : RD B0 w R A d) (hf : Fit d) (hS : S.size ≤ 1073741824) (hB : B0 ≤ w.heap.size) (hl : Strs w Ao pn l) (hpn : pn ≤ 140737488355328) (htl : l.flatten.length ≤ 1073741824) (hu : usedL d d.things ≤ 4611686018427387904) (hcap : d.cap ≤ 4611686018427387904) (hnl : ∀ i, (fAt d i).now.length ≤ 1073741824) (hsl : ∀ i, (fAt d i).steps.length ≤ 1073741824) :
    Calls Tryz.prog 52 #[.pointer (some ⟨A.q, 0, none⟩), .string S, .slice Ao pn pc] w (RdOut B0 R A (appendD d S.data.toList l.flatten) w) := by
  have HF := Lib.hid (rfile_calls S w h (Nat.le_trans hf.tl (by decide)) hS)
  obtain ⟨r, hr⟩ : ∃ r, fileD d S.data.toList = r := ⟨_, rfl⟩
  rw [hr] at HF
  obtain ⟨q, hq⟩ : ∃ q, A.q = q := ⟨_, rfl⟩
  have HQ := Lib.hid hq
  obtain ⟨X, hX⟩ : ∃ X : ByteArray, (⟨l.flatten.toArray⟩ : ByteArray) = X := ⟨_, rfl⟩
  have hXX : l.flatten = X.data.toList := by rw [← hX]
  have hXs : X.size ≤ 1073741824 := by rw [← text_size3, ← hXX]; exact htl
  have HL := Lib.hid hl
  have HLL := Lib.hid hl.len
  have HXX := Lib.hid hXX
  have HTL := Lib.hid htl
  rw [hXX]
  rw [hq] at HF ⊢
  clear hX hXX hl htl
  cases r with
  | error k2 =>
    have hfin : RdOut B0 R A (appendD d S.data.toList X.data.toList) w (.returned (.int .i64 (k2 : Int))) w := by
      have e1 : appendD d S.data.toList X.data.toList = (k2, d) := by unfold appendD; rw [hr]
      rw [e1]
      exact RdOut.stay h k2
    have hk := fileD_error hr
    have d1 : ((k2 : Int) == 0) = false := by rw [beq_eq_false_iff_ne]; omega
    unfold fileV at HF
    simp only [] at HF
    have HFIN := Lib.hid hfin
    clear hk hr hq hfin
    go_enter Tryz.func52, Tryz.ntmps52
    go_wp2_with fail
    refine HF.out.mono ?_
    rintro _ w1 ⟨rfl, rfl⟩
    go_wp2_with fail
    go_ret
    exact HFIN.out
  | ok i =>
    have hFI := fileD_lt hf hr
    obtain ⟨g, c, v0, hfv, hRg, hgl, hnc, hv, k0, k1, k2, hch, hfz⟩ := h.file_at hFI
    have hi := hFI
    have hfl := hf.fl
    obtain ⟨n, hn⟩ : ∃ n, d.files.length = n := ⟨_, rfl⟩
    rw [hn] at hi hnc hfl
    have hin : (i : Int) < (n : Int) := by omega
    obtain ⟨T, hT⟩ : ∃ T : ByteArray, (⟨(fAt d i).now.toArray⟩ : ByteArray) = T := ⟨_, rfl⟩
    have hTT : (fAt d i).now = T.data.toList := by rw [← hT]
    have hTz : T.size ≤ 1073741824 := by rw [← text_size3, ← hTT]; exact hnl i
    obtain ⟨k, dd, hk⟩ : ∃ k d1, stepD d = (k, d1) := ⟨_, _, rfl⟩
    have hss := stepD_same d
    rw [hk] at hss
    obtain ⟨us, hus⟩ : ∃ n, usedD d = n := ⟨_, rfl⟩
    obtain ⟨cap, hcp⟩ : ∃ n, d.cap = n := ⟨_, rfl⟩
    have husn : us ≤ 4611686018427387904 := by
      rw [← hus]; unfold usedD; split
      · omega
      · exact hu
    have hE : appendD d S.data.toList X.data.toList = if cap < us + X.size then (7, d) else if k ≠ 0 then (k, dd) else (0, setF dd i { fAt d i with now := T.data.toList ++ X.data.toList, steps := (fAt d i).steps ++ [⟨X.data.toList, false, 0⟩] }) := by unfold appendD; rw [hr]; simp only []; rw [hk, hTT, text_size3, hus, hcp]
    have HUS := Lib.hid (fun (w1 : World) (hb : Below w.heap.size w w1) => hus ▸ rused_calls w1 (h.below hb) hf hu)
    rw [hq] at HUS
    have HE := Lib.hid hE
    have HFV := Lib.hid hfv
    have HN := Lib.hid hn
    have HK := Lib.hid hk
    have HSS := Lib.hid hss
    have HTT := Lib.hid hTT
    have HSL := Lib.hid hsl
    have HCP := Lib.hid hcp
    unfold fileV at HF
    simp only [] at HF
    rw [hcp] at hcap
    clear hE hr hq hT hTT hv hch hfz hfv hn hnl hsl hk hss hus hcp k0 k1 k2 hgl hRg
    go_enter Tryz.func52, Tryz.ntmps52
    go_wp2_with fail
    refine HF.out.mono ?_
    rintro _ w1 ⟨rfl, rfl⟩
    go_upto_block 0 with fail
    go_cut [9] (fun s9 wz => s9 = .string X ∧ wz = w)
    case first =>
      go_wp2_with fail
      go_loopg [9, 10] pn (fun gh s9 s10 wr => wr = w ∧ ∃ (j : Nat) (Y : ByteArray), j + gh = pn ∧ s10 = .int .i64 (j : Int) ∧ s9 = .string Y ∧ Y.data.toList = (l.take j).flatten)
      case atStart => exact ⟨rfl, 0, ⟨#[]⟩, by omega, rfl, rfl, rfl⟩
      case round =>
        obtain ⟨hwr, j, Y, hjg, rfl, rfl, hY⟩ := hrel
        subst wr
        have HY := Lib.hid hY
        have HJG := Lib.hid hjg
        clear hY hjg
        by_cases hj : j < pn
        · have el : decide ((j : Int) < (pn : Int)) = true := by simp; omega
          have el' : decide (j < pn) = true := by simp; omega
          obtain ⟨b, off, rfl, hbl, m0⟩ := HL.out.at_ hj
          have hjl : j < l.length := by rw [HLL.out]; exact hj
          have hft := flat_take hjl
          have hfl2 := flat_take_le l (j + 1)
          obtain ⟨P, hP⟩ : ∃ P : ByteArray, (⟨l[j]!.toArray⟩ : ByteArray) = P := ⟨_, rfl⟩
          have hPP : l[j]! = P.data.toList := by rw [← hP]
          unfold txtV at m0
          rw [hP] at m0
          rw [hPP, ← HY.out] at hft
          have hYP : (Y ++ P).data.toList = (l.take (j + 1)).flatten := by rw [hft]; simp
          have hsz : Y.size + P.size ≤ 1073741824 := by
            have h1 := congrArg List.length hft
            rw [List.length_append, text_size3, text_size3] at h1
            have := HTL.out
            omega
          have HYP := Lib.hid hYP
          clear hft hP hPP hYP hfl2
          go_wp2_with fail
          go_roundg (gk - 1)
          case measure => have := HJG.out; omega
          case rel => exact ⟨rfl, j + 1, Y ++ P, by have := HJG.out; omega, by go_num, rfl, HYP.out⟩
        · have el : decide ((j : Int) < (pn : Int)) = false := by simp; omega
          have el' : decide (j < pn) = false := by simp; omega
          have hYX : Y = X := by
            apply bytes_eq
            rw [HY.out, ← HXX.out, List.take_of_length_le (by rw [HLL.out]; omega)]
          subst hYX
          go_wp2_with fail
          go_meet
          exact ⟨rfl, rfl⟩
    case rest =>
      obtain ⟨rfl, hwc⟩ := hcut
      subst wc
      go_wp2_with fail
      refine (HUS.out w (Below.refl _ _)).mono ?_
      rintro _ w0 ⟨rfl, hb0⟩
      have hR0 := h.below hb0
      have c4 : w0.cell? ⟨q, 4, none⟩ = some (.int .i64 (cap : Int)) := by rw [← HQ.out, ← HCP.out]; exact Blk.cell hR0.blk 4
      have HST := Lib.hid (rstep_calls w0 hR0 hf.aw)
      have HO0 := Lib.hid (Own.of_below (R := R) hb0)
      rw [HQ.out] at HST
      by_cases hfull : cap < us + X.size
      · have d1 : decide ((cap : Int) < (us : Int) + (X.size : Int)) = true := by simp; omega
        have d1' : decide (cap < us + X.size) = true := by simpa using hfull
        have hfin : RdOut B0 R A (appendD d S.data.toList X.data.toList) w (.returned (.int .i64 ((7 : Nat) : Int))) w0 := by
          rw [HE.out, if_pos hfull]
          exact ⟨R, A, rfl, hR0, HO0.out, rfl⟩
        have HFIN := Lib.hid hfin
        clear hfin hR0 hb0
        go_wp2_with fail
        go_ret
        exact HFIN.out
      · have d1 : decide ((cap : Int) < (us : Int) + (X.size : Int)) = false := by simp; omega
        have d1' : decide (cap < us + X.size) = false := by simpa using hfull
        have hE2 := HE.out
        rw [if_neg hfull] at hE2
        have HE2 := Lib.hid hE2
        clear hE2 hfull hR0 hb0
        go_wp2_with fail
        refine HST.out.mono ?_
        rintro _ w1 ⟨rfl, hRD2, hO1, hsz, hrest⟩
        rw [HK.out] at hRD2 ⊢
        clear hsz hrest
        cases k with
        | succ k =>
          have hfin : RdOut B0 R A (appendD d S.data.toList X.data.toList) w (.returned (.int .i64 ((k + 1 : Nat) : Int))) w1 := by
            rw [HE2.out, if_pos (by omega)]
            exact ⟨R, A, rfl, hRD2, HO0.out.trans hO1, rfl⟩
          have HFIN := Lib.hid hfin
          have d3 : (((k + 1 : Nat) : Int) == 0) = false := by rw [beq_eq_false_iff_ne]; omega
          clear hfin hRD2 hO1
          go_wp2_with fail
          go_ret
          exact HFIN.out
        | zero =>
          have hss := HSS.out
          have efa : fAt dd i = fAt d i := by unfold fAt; rw [hss.2.2.2]
          have hFI2 : i < dd.files.length := by rw [hss.2.2.2]; exact hFI
          obtain ⟨g', c', v', hfv, hRg, hgl, _, hv, k0, k1, k2, hch, hfz⟩ := hRD2.file_at hFI2
          rw [HFV.out, hss.2.2.2] at hfv
          obtain ⟨rfl, rfl⟩ : g = g' ∧ c = c' := by simpa using hfv
          rw [efa] at k0 k1 hch
          rw [HTT.out, txtV_self] at k0
          have c3 : w1.cell? ⟨q, 3, none⟩ = some (.slice (some ⟨g, 0, none⟩) n c) := by rw [← HQ.out, ← HN.out, ← HFV.out]; exact Blk.cell hRD2.blk 3
          have hql : q < w1.heap.size := lt_of_cell c3
          have g0 := hfz (i * 3)
          have HR2 := Lib.hid hRD2
          have HO1 := Lib.hid hO1
          have HEF := Lib.hid efa
          have HV := Lib.hid hv
          clear hss efa hfv hRD2 hO1 hv hfz hch
          go_upto_region 15 with fail
          refine wp_region_later_tail 17 (by kernel_rfl) (by kernel_rfl) ?_
          simp only [List.take_succ_cons, List.take_zero, List.drop_succ_cons, List.drop_zero]
          repeat (go_big_quiet_step (fail))
          refine wpQuiet_nil ?_
          rintro w2 ⟨⟨_, hb2⟩, rfl⟩
          have hR3 := HR2.out.below hb2
          clear c3 k0 k1 k2 hgl hql g0
          obtain ⟨g', c', v2, hfv', _, hgl, _, hv', k0, k1, k2, hch, hfz'⟩ := hR3.file_at hFI2
          rw [HFV.out, HSS.out.2.2.2] at hfv'
          obtain ⟨rfl, rfl⟩ : g = g' ∧ c = c' := by simpa using hfv'
          obtain rfl : v' = v2 := by rw [HV.out] at hv'; injection hv'
          rw [HEF.out, HTT.out, txtV_self] at k0
          rw [HEF.out] at hch
          have c3 : w2.cell? ⟨q, 3, none⟩ = some (.slice (some ⟨g, 0, none⟩) n c) := by rw [← HQ.out, ← HN.out, ← HFV.out]; exact Blk.cell hR3.blk 3
          have hql : q < w2.heap.size := lt_of_cell c3
          have f0 := hfz' (i * 3)
          have f2 := hfz' (i * 3 + 2)
          have hqg : q ≠ g := fun e => by have := hR3.rq; rw [HQ.out, e] at this; omega
          have hrow := hch.1
          have hvb : ∀ j, v'.ownBlock = some j → R j = 10 + i := hch.2
          have hvg : v'.ownBlock ≠ some g := fun e => by have := hvb g e; omega
          have hvq : v'.ownBlock ≠ some q := fun e => by have := hvb q e; have := hR3.rq; rw [HQ.out] at this; omega
          obtain ⟨m, hm⟩ : ∃ m, (fAt d i).steps.length = m := ⟨_, rfl⟩
          have hml : m ≤ 1073741824 := by rw [← hm]; exact HSL.out i
          rw [hm] at hrow
          obtain ⟨X4, c4, rfl⟩ : ∃ X4 c4, v' = .slice X4 m c4 := by
            rcases hrow.2 with ⟨h1, h0⟩ | ⟨g, cap, cur, h1, _⟩
            · exact ⟨none, 0, by rw [h0]; exact h1⟩
            · exact ⟨_, cap, h1⟩
          have HM := Lib.hid hm
          have HR3 := Lib.hid hR3
          have HCH := Lib.hid hch
          have HB2 := Lib.hid hb2
          have hTN : (T ++ X).data.toList = T.data.toList ++ X.data.toList := by simp
          obtain ⟨N, hNN⟩ : ∃ N, T ++ X = N := ⟨_, rfl⟩
          have HNN := Lib.hid hNN
          rw [hNN] at hTN
          have HTN := Lib.hid hTN
          clear hfv' hv' hfz' hch hR3 hb2 hm hNN hTN
          go_upto_region 16 with fail
          rw [HNN.out]
          obtain ⟨w3, hw3⟩ : ∃ x, w2.setCell ⟨g, i * 3, none⟩ (.string N) = x := ⟨_, rfl⟩
          have HW3 := Lib.hid hw3
          have hrow3 : w3.ownsRow 0 149 3 (.slice X4 m c4) m ((fAt d i).steps.flatMap encCh) := by rw [← hw3]; exact ownsRow_setCell_other hrow (a := ⟨g, i * 3, none⟩) hvg _
          have hfr3 : w3.ownsRow 0 119 3 (.slice (some ⟨g, 0, none⟩) n c) n ((rowB dd.files A.vs).set (i * 3) (.string N)) := by
            have h1 := HR3.out.files.1
            rw [HFV.out, HSS.out.2.2.2, HN.out] at h1
            rw [← hw3]
            have := (World.ownsRow.stored h1 (i * 3) (.string N)).1
            rw [HSS.out.2.2.2]
            exact this
          have hc2 : w3.cell? ⟨g, i * 3 + 2, none⟩ = some (.slice X4 m c4) := by
            rw [← hw3]
            exact (World.cell?_setCell_other _ _ _ _ (by intro e; injection e with _ e; omega)).trans k2
          have hc3 : w3.cell? ⟨q, 3, none⟩ = some (.slice (some ⟨g, 0, none⟩) n c) := by
            rw [← hw3]
            exact (World.cell?_setCell_other _ _ _ _ (by intro e; injection e with e; exact hqg e.symm)).trans c3
          rw [hw3]
          clear hw3 c3 k0 k1 k2 f0 f2 hql
          have hql : q < w3.heap.size := lt_of_cell hc3
          have hgl3 : g < w3.heap.size := lt_of_cell hc2
          have hkt : ∀ (w5 : World), (w3.drew.alloc (.cells #[.string X, .bool false, .int .i64 0] 149)).grownBy w5 (Value.slice X4 m c4).ownBlock →
              w5.cell? ⟨q, 3, none⟩ = some (.slice (some ⟨g, 0, none⟩) n c) ∧ w5.cell? ⟨g, i * 3 + 2, none⟩ = some (.slice X4 m c4) ∧ w5.frozen? ⟨g, i * 3 + 2, none⟩ = false ∧ w3.grownBy w5 (Value.slice X4 m c4).ownBlock := by
            intro w5 hg
            have h3 : w3.drew.grownBy w5 (Value.slice X4 m c4).ownBlock := (World.grownBy_alloc w3.drew _ _).trans hg
            have h3' : w3.grownBy w5 (Value.slice X4 m c4).ownBlock := ⟨h3.os, h3.tape, h3.output, h3.size, h3.block⟩
            refine ⟨(World.cell?_of_block (w := w3) (h3'.block q hql (fun e => hvq e.symm))).trans hc3, (World.cell?_of_block (w := w3) (h3'.block g hgl3 (fun e => hvg e.symm))).trans hc2, ?_, h3'⟩
            exact World.ownsRow.frozenAt (hfr3.kept h3' (.inr (Ne.symm hvg))) _
          have hnews : ∀ j u, ([.string X, .bool false, .int .i64 0] : List Value)[j]? = some u → (w3.drew.alloc (.cells #[.string X, .bool false, .int .i64 0] 149)).cell? ((⟨w3.heap.size, 0, none⟩ : Addr).add j) = some u := news_of_blk (l := [.string X, .bool false, .int .i64 0]) (Blk.new w3.drew _ _)
          have h1c : ∀ u ∈ ([.string X, .bool false, .int .i64 0] : List Value), u.oneCell' = true := by intro u hu; simp at hu; rcases hu with rfl | rfl | rfl <;> rfl
          have HKT := Lib.hid hkt
          have HNEWS := Lib.hid hnews
          have H1C := Lib.hid h1c
          have HROW := Lib.hid hrow3
          obtain ⟨i0, hi0, hz0, hz1, hz2⟩ := info_parts info_rchange
          clear hkt hnews h1c hrow hrow3 hfr3
          go_region_law ((refine step_append_lies _ (by rfl) _ _ _ (by rfl) 0 149 i0 (.agg #[.string ⟨#[]⟩, .bool false, .int .i64 0]) 3 32 Tryz.underlying117 hi0 hz0 hz1 hz2 rfl (by omega) (.slice X4 m c4) m ((fAt d i).steps.flatMap encCh) (by rfl) (World.ownsRow.alloc (w := w3.drew) HROW.out _) ⟨w3.heap.size, 0, none⟩ 1 1 [.string X, .bool false, .int .i64 0] (by rfl) (by rfl) HNEWS.out H1C.out (by omega) (by simp only [maxLen]; omega) (by omega) (Nat.zero_le _) (w3.heap.size + 1) (by simp) ?_; intro gg cap w5 hown5 hgrow hat hlt; obtain ⟨j3, j2, jf, hg5⟩ := HKT.out _ hgrow))
          all_goals
            have hencX : encCh ⟨X.data.toList, false, 0⟩ = [.string X, .bool false, .int .i64 0] := by unfold encCh; rw [txtV_self]; rfl
            have hlast := HR3.out.file_step (i := i) (g := g) (c := c) (v := .slice X4 m c4) (v' := .slice (some ⟨gg, 0, none⟩) (m + 1) cap) (N := T.data.toList ++ X.data.toList) (s := ⟨X.data.toList, false, 0⟩) (w2 := w5) hFI2 (by rw [HFV.out, HSS.out.2.2.2]) HV.out (by rw [HEF.out]; exact HCH.out) (by
              have e1 : txtV (T.data.toList ++ X.data.toList) = .string N := by rw [← HTN.out]; exact txtV_self N
              rw [e1, HW3.out]
              exact hg5) (by rw [HEF.out, HM.out, hencX]; exact hown5) (by
              rcases hat with h1 | h1
              · exact .inl h1.symm
              · exact .inr ⟨gg, rfl, by rw [h1, ← HW3.out]; simp [World.setCell]⟩) (by have := HO0.out.size; have := HO1.out.size; have := HB2.out.size; omega)
            obtain ⟨hlr, hlo⟩ := hlast
            have hfin : RdOut B0 R A (appendD d S.data.toList X.data.toList) w (.returned (.int .i64 0)) (w5.setCell ⟨g, i * 3 + 2, none⟩ (.slice (some ⟨gg, 0, none⟩) (m + 1) cap)) := by
              rw [HE2.out, if_neg (by omega)]
              rw [HEF.out] at hlr
              exact ⟨_, _, rfl, hlr, ((HO0.out.trans HO1.out).trans (Own.of_below HB2.out)).trans hlo, rfl⟩
            have HFIN := Lib.hid hfin
            clear hfin hlr hlo hat hlt hgrow hg5 hown5
            go_wp2_with fail
            go_ret
            exact HFIN.out
end
end Go.Proofs.YtdaidbnbfjgjeaaGreatDoor
