/- The walks of layer 20 (store): the document's Alike of alike manifests; the law's alike (printed by gen_stoalike.py). -/
import Derived.Test.YtfpgbhimgfdddaaGreatDoorStoRef
import Derived.Test.YtfpgbhimgfdddaaGreatDoorStgB
set_option linter.unusedVariables false
set_option linter.unusedSimpArgs false
namespace Go.Proofs.YtfpgbhimgfdddaaGreatDoor
open Go.RowKit Go.Shelf Go.Sort
attribute [local go_sem ↓] Go.wp_at_zero Go.wp_at_succ
attribute [local go_sem] Later.cell Later.frozen

set_option maxRecDepth 100000 in
set_option maxHeartbeats 8000000 in
theorem alike20_same (m : Man) (A A2 : Option Addr) (c c2 : Nat) (w : World) (hinf : Infs w A m.blocks.length m.blocks) (hinf2 : Infs w A2 m.blocks.length m.blocks) (hlen : m.blocks.length ≤ 1099511627776) :
    Calls Tryz.prog 60 #[.agg (manV m (.slice A m.blocks.length c)), .agg (manV m (.slice A2 m.blocks.length c2))] w fun e w' => e = .returned (.bool true) ∧ Below w.heap.size w w' := by
  obtain ⟨b, hb⟩ : ∃ b, w.heap.size = b := ⟨_, rfl⟩
  obtain ⟨W, hW⟩ : ∃ W, (w.alloc (.cells (manV m (.slice A m.blocks.length c)) 38)).alloc (.cells (manV m (.slice A2 m.blocks.length c2)) 38) = W := ⟨_, rfl⟩
  have hbl : Below w.heap.size w W := by rw [← hW]; exact ((Below.refl _ _).alloc (Nat.le_refl _) _).alloc (by simp) _
  have HK : Hid (Blk W b 38 (manV m (.slice A m.blocks.length c)) ∧ Blk W (b + 1) 38 (manV m (.slice A2 m.blocks.length c2))) := Lib.hid (by rw [← hW, ← hb]; exact ⟨(Blk.new _ _ _).alloc _, Blk.newAt (by simp)⟩)
  have HI := Lib.hid (⟨hinf.below hbl, hinf2.below hbl⟩ : _ ∧ _)
  have HW := Lib.hid hW
  have HG := Lib.hid hb
  have HB := Lib.hid hbl
  have HL := Lib.hid hlen
  clear hW hb hbl hinf hlen hinf2
  go_enter Tryz.func60, Tryz.ntmps60
  go_upto_region 1 with fail
  have hW2 := HW.out
  have hg2 := HG.out
  rw [hW2, hg2]
  clear hW2 hg2
  have x0 : W.cell? ⟨b, 0, none⟩ = some (.int .i64 m.w0) := HK.out.1.cell 0
  have x1 : W.cell? ⟨b, 1, none⟩ = some (.int .i64 m.w1) := HK.out.1.cell 1
  have x2 : W.cell? ⟨b, 2, none⟩ = some (.int .i64 m.w2) := HK.out.1.cell 2
  have x3 : W.cell? ⟨b, 3, none⟩ = some (.int .i64 m.next) := HK.out.1.cell 3
  have x4 : W.cell? ⟨b, 4, none⟩ = some (.int .i64 m.log) := HK.out.1.cell 4
  have x5 : W.cell? ⟨b, 5, none⟩ = some ((.slice A m.blocks.length c)) := HK.out.1.cell 5
  have x6 : W.cell? ⟨b, 6, none⟩ = some (.int .i64 m.cut) := HK.out.1.cell 6
  have x7 : W.cell? ⟨b, 7, none⟩ = some (.int .i64 m.r0) := HK.out.1.cell 7
  have x8 : W.cell? ⟨b, 8, none⟩ = some (.int .i64 m.r1) := HK.out.1.cell 8
  have x9 : W.cell? ⟨b, 9, none⟩ = some (.int .i64 m.r2) := HK.out.1.cell 9
  have x10 : W.cell? ⟨b, 10, none⟩ = some (.int .i64 m.l0) := HK.out.1.cell 10
  have x11 : W.cell? ⟨b, 11, none⟩ = some (.int .i64 m.l1) := HK.out.1.cell 11
  have x12 : W.cell? ⟨b, 12, none⟩ = some (.int .i64 m.l2) := HK.out.1.cell 12
  have y0 : W.cell? ⟨b + 1, 0, none⟩ = some (.int .i64 m.w0) := HK.out.2.cell 0
  have y1 : W.cell? ⟨b + 1, 1, none⟩ = some (.int .i64 m.w1) := HK.out.2.cell 1
  have y2 : W.cell? ⟨b + 1, 2, none⟩ = some (.int .i64 m.w2) := HK.out.2.cell 2
  have y3 : W.cell? ⟨b + 1, 3, none⟩ = some (.int .i64 m.next) := HK.out.2.cell 3
  have y4 : W.cell? ⟨b + 1, 4, none⟩ = some (.int .i64 m.log) := HK.out.2.cell 4
  have y5 : W.cell? ⟨b + 1, 5, none⟩ = some ((.slice A2 m.blocks.length c2)) := HK.out.2.cell 5
  have y6 : W.cell? ⟨b + 1, 6, none⟩ = some (.int .i64 m.cut) := HK.out.2.cell 6
  have y7 : W.cell? ⟨b + 1, 7, none⟩ = some (.int .i64 m.r0) := HK.out.2.cell 7
  have y8 : W.cell? ⟨b + 1, 8, none⟩ = some (.int .i64 m.r1) := HK.out.2.cell 8
  have y9 : W.cell? ⟨b + 1, 9, none⟩ = some (.int .i64 m.r2) := HK.out.2.cell 9
  have y10 : W.cell? ⟨b + 1, 10, none⟩ = some (.int .i64 m.l0) := HK.out.2.cell 10
  have y11 : W.cell? ⟨b + 1, 11, none⟩ = some (.int .i64 m.l1) := HK.out.2.cell 11
  have y12 : W.cell? ⟨b + 1, 12, none⟩ = some (.int .i64 m.l2) := HK.out.2.cell 12
  have ea := arr3_neq m.w0 m.w1 m.w2
  have eb := arr3_neq m.r0 m.r1 m.r2
  have ec := arr3_neq m.l0 m.l1 m.l2
  obtain ⟨n, hn⟩ : ∃ n, m.blocks.length = n := ⟨_, rfl⟩
  have HN := Lib.hid hn
  have hn40 : n ≤ 1099511627776 := by rw [← hn]; exact HL.out
  rw [hn] at HK x5 y5
  clear hn
  go_upto_block 0 with fail
  clear ea eb ec
  clear x0 x1 x2 x3 x4 x5 x6 x7 x8 x9 x10 x11 x12
  clear y0 y1 y2 y3 y4 y5 y6 y7 y8 y9 y10 y11 y12
  go_wp2_with fail
  go_loopg [5] n (fun g s5 wr => ∃ i : Nat, i + g = n ∧ s5 = .int .i64 (i : Int) ∧ Below W.heap.size W wr)
  case atStart => exact ⟨0, by omega, rfl, Below.refl _ _⟩
  case round =>
    obtain ⟨i, hig, rfl, hf⟩ := hrel
    have HIG := Lib.hid hig
    have HF2 := Lib.hid hf
    have x5 : wr.cell? ⟨b, 5, none⟩ = some (.slice A n c) := (HK.out.1.below hf HK.out.1.lt).cell 5
    have y5 : wr.cell? ⟨b + 1, 5, none⟩ = some (.slice A2 n c2) := (HK.out.2.below hf HK.out.2.lt).cell 5
    clear hig hf
    by_cases hi : i < n
    · have el : decide ((i : Int) < (n : Int)) = true := by simp; omega
      have e0 : (i : Int) < (n : Int) := by omega
      have e1 : (0 : Int) ≤ (i : Int) := by omega
      have hI1 : Infs wr A m.blocks.length m.blocks := HI.out.1.below HF2.out
      have hI2 : Infs wr A2 m.blocks.length m.blocks := HI.out.2.below HF2.out
      obtain ⟨ba, oa, rfl, hbl, kc⟩ := hI1.at_ (i := i) (by rw [HN.out]; exact hi)
      obtain ⟨bc, oc, rfl, hbl2, kc2⟩ := hI2.at_ (i := i) (by rw [HN.out]; exact hi)
      have m0 : wr.cell? ⟨ba, oa + i * 5, none⟩ = _ := kc 0 _ rfl
      have m1 := kc 1 _ rfl
      have m2 := kc 2 _ rfl
      have m3 := kc 3 _ rfl
      have m4 := kc 4 _ rfl
      have p0 : wr.cell? ⟨bc, oc + i * 5, none⟩ = _ := kc2 0 _ rfl
      have p1 := kc2 1 _ rfl
      have p2 := kc2 2 _ rfl
      have p3 := kc2 3 _ rfl
      have p4 := kc2 4 _ rfl
      obtain ⟨x, hx⟩ : ∃ x, m.blocks[i]! = x := ⟨_, rfl⟩
      simp only [hx] at m0 m1 m2 m3 m4 p0 p1 p2 p3 p4
      clear hI1 hI2 kc kc2 hx
      go_upto_region 6 with fail
      go_region
      go_wp2_with fail
      go_roundg (gk - 1)
      case measure => have := HIG.out; omega
      case rel => exact ⟨i + 1, by have := HIG.out; omega, by go_num, HF2.out.drew⟩
    · have el : decide ((i : Int) < (n : Int)) = false := by simp; omega
      have hi3 : i = n := by have := HIG.out; omega
      subst hi3
      go_wp2_with fail
      go_ret
      exact ⟨rfl, HB.out.trans (HF2.out.mono HB.out.size)⟩
theorem rinfs_of_own {w : World} {base : Nat} {v : Value} {n : Nat} {l : List Inf} (h : w.ownsRow base 130 5 v n (l.flatMap encInf)) (hn : l.length = n) : ∃ A c, v = .slice A n c ∧ Infs w A n l := by
  obtain ⟨A, c, h1, h2, _⟩ := Elems.of_own (enc := encInf) (xs := l) (fun _ _ => rfl) rfl h hn
  exact ⟨A, c, h1, h2⟩
/-- ref, with its slice opened. -/
theorem ref20_opened (m : Man) (A : Option Addr) (c : Nat) (w : World) (hinf : Infs w A m.blocks.length m.blocks) (hlen : m.blocks.length ≤ 1099511627776) :
    Calls Tryz.prog 15 #[.agg (manV m (.slice A m.blocks.length c))] w fun e w' => ∃ u, e = .returned u ∧ ∃ A' c', u = .agg (manV m (.slice A' m.blocks.length c')) ∧ Infs w' A' m.blocks.length m.blocks ∧ Below w.heap.size w w' :=
  (ref20_calls m A c w hinf hlen).mono fun e w' ⟨v, h1, h2, h3⟩ => by
    obtain ⟨A', c', rfl, h4⟩ := rinfs_of_own h2 rfl
    exact ⟨_, h1, A', c', rfl, h4, h3⟩
set_option maxRecDepth 100000 in
set_option maxHeartbeats 8000000 in
theorem lalike20_same (m : Man) (A A2 : Option Addr) (c c2 : Nat) (w : World) (hinf : Infs w A m.blocks.length m.blocks) (hinf2 : Infs w A2 m.blocks.length m.blocks) (hlen : m.blocks.length ≤ 1099511627776) :
    Calls Tryz.prog 18 #[.agg (manV m (.slice A m.blocks.length c)), .agg (manV m (.slice A2 m.blocks.length c2))] w fun e w' => e = .returned (.bool true) ∧ Below w.heap.size w w' := by
  obtain ⟨b, hb⟩ : ∃ b, w.heap.size = b := ⟨_, rfl⟩
  obtain ⟨W, hW⟩ : ∃ W, (w.alloc (.cells (manV m (.slice A m.blocks.length c)) 25)).alloc (.cells (manV m (.slice A2 m.blocks.length c2)) 25) = W := ⟨_, rfl⟩
  have hbl : Below w.heap.size w W := by rw [← hW]; exact ((Below.refl _ _).alloc (Nat.le_refl _) _).alloc (by simp) _
  have HK : Hid (Blk W b 25 (manV m (.slice A m.blocks.length c)) ∧ Blk W (b + 1) 25 (manV m (.slice A2 m.blocks.length c2))) := Lib.hid (by rw [← hW, ← hb]; exact ⟨(Blk.new _ _ _).alloc _, Blk.newAt (by simp)⟩)
  have HI := Lib.hid (⟨hinf.below hbl, hinf2.below hbl⟩ : _ ∧ _)
  have HW := Lib.hid hW
  have HG := Lib.hid hb
  have HB := Lib.hid hbl
  have HL := Lib.hid hlen
  clear hW hb hbl hinf hlen hinf2
  go_enter Tryz.func18, Tryz.ntmps18
  go_upto_region 1 with fail
  have hW2 := HW.out
  have hg2 := HG.out
  rw [hW2, hg2]
  clear hW2 hg2
  obtain ⟨n, hn⟩ : ∃ n, m.blocks.length = n := ⟨_, rfl⟩
  have HN := Lib.hid hn
  rw [hn] at HK
  clear hn
  refine wp_region_K (fun w' => Below W.heap.size W w') 6 6 (by kernel_rfl) rfl ?_
  rw [show Array.replicate 6 false = #[false, false, false, false, false, false] from rfl]
  refine wpAnyK_take (i := 0) (v := .agg (manV m (.slice A n c))) (d := some 5) rfl rfl (by kernel_rfl) (by kernel_rfl) (by kernel_rfl) (by kernel_rfl) rfl (fun _ _ _ h => h) (.inl ⟨by rfl, fun w' hw => by
    have hk := HK.out.1.below hw HK.out.1.lt
    have x0 : w'.cell? ⟨b, 0, none⟩ = some (.int .i64 m.w0) := hk.cell 0
    have x1 : w'.cell? ⟨b, 1, none⟩ = some (.int .i64 m.w1) := hk.cell 1
    have x2 : w'.cell? ⟨b, 2, none⟩ = some (.int .i64 m.w2) := hk.cell 2
    have x3 : w'.cell? ⟨b, 3, none⟩ = some (.int .i64 m.next) := hk.cell 3
    have x4 : w'.cell? ⟨b, 4, none⟩ = some (.int .i64 m.log) := hk.cell 4
    have x5 : w'.cell? ⟨b, 5, none⟩ = some ((.slice A n c)) := hk.cell 5
    have x6 : w'.cell? ⟨b, 6, none⟩ = some (.int .i64 m.cut) := hk.cell 6
    have x7 : w'.cell? ⟨b, 7, none⟩ = some (.int .i64 m.r0) := hk.cell 7
    have x8 : w'.cell? ⟨b, 8, none⟩ = some (.int .i64 m.r1) := hk.cell 8
    have x9 : w'.cell? ⟨b, 9, none⟩ = some (.int .i64 m.r2) := hk.cell 9
    have x10 : w'.cell? ⟨b, 10, none⟩ = some (.int .i64 m.l0) := hk.cell 10
    have x11 : w'.cell? ⟨b, 11, none⟩ = some (.int .i64 m.l1) := hk.cell 11
    have x12 : w'.cell? ⟨b, 12, none⟩ = some (.int .i64 m.l2) := hk.cell 12
    unfold manV
    go_simp
    try rfl⟩) (Below.refl _ _).drew ?_
  simp only [Act.put, List.setIfInBounds_toArray, List.set_cons_zero, List.set_cons_succ]
  refine wpAnyK_take (i := 2) (v := .agg (manV m (.slice A2 n c2))) (d := some 7) rfl rfl (by kernel_rfl) (by kernel_rfl) (by kernel_rfl) (by kernel_rfl) rfl (fun _ _ _ h => h) (.inl ⟨by rfl, fun w' hw => by
    have hk := HK.out.2.below hw HK.out.2.lt
    have x0 : w'.cell? ⟨b + 1, 0, none⟩ = some (.int .i64 m.w0) := hk.cell 0
    have x1 : w'.cell? ⟨b + 1, 1, none⟩ = some (.int .i64 m.w1) := hk.cell 1
    have x2 : w'.cell? ⟨b + 1, 2, none⟩ = some (.int .i64 m.w2) := hk.cell 2
    have x3 : w'.cell? ⟨b + 1, 3, none⟩ = some (.int .i64 m.next) := hk.cell 3
    have x4 : w'.cell? ⟨b + 1, 4, none⟩ = some (.int .i64 m.log) := hk.cell 4
    have x5 : w'.cell? ⟨b + 1, 5, none⟩ = some ((.slice A2 n c2)) := hk.cell 5
    have x6 : w'.cell? ⟨b + 1, 6, none⟩ = some (.int .i64 m.cut) := hk.cell 6
    have x7 : w'.cell? ⟨b + 1, 7, none⟩ = some (.int .i64 m.r0) := hk.cell 7
    have x8 : w'.cell? ⟨b + 1, 8, none⟩ = some (.int .i64 m.r1) := hk.cell 8
    have x9 : w'.cell? ⟨b + 1, 9, none⟩ = some (.int .i64 m.r2) := hk.cell 9
    have x10 : w'.cell? ⟨b + 1, 10, none⟩ = some (.int .i64 m.l0) := hk.cell 10
    have x11 : w'.cell? ⟨b + 1, 11, none⟩ = some (.int .i64 m.l1) := hk.cell 11
    have x12 : w'.cell? ⟨b + 1, 12, none⟩ = some (.int .i64 m.l2) := hk.cell 12
    unfold manV
    go_simp
    try rfl⟩) (Below.refl _ _).drew ?_
  simp only [Act.put, List.setIfInBounds_toArray, List.set_cons_zero, List.set_cons_succ]
  have HR1 : Hid (∀ w', Below W.heap.size W w' → Calls Tryz.prog 15 #[.agg (manV m (.slice A n c))] w' fun e w2 => ∃ u, e = .returned u ∧ ∃ A' c', u = .agg (manV m (.slice A' n c')) ∧ Infs w2 A' n m.blocks ∧ Below w'.heap.size w' w2) := Lib.hid (fun w' hb => by
    rw [← HN.out]
    exact ref20_opened m A c w' (HI.out.1.below hb) HL.out)
  have HR2 : Hid (∀ w', Below W.heap.size W w' → Calls Tryz.prog 15 #[.agg (manV m (.slice A2 n c2))] w' fun e w2 => ∃ u, e = .returned u ∧ ∃ A' c', u = .agg (manV m (.slice A' n c')) ∧ Infs w2 A' n m.blocks ∧ Below w'.heap.size w' w2) := Lib.hid (fun w' hb => by
    rw [← HN.out]
    exact ref20_opened m A2 c2 w' (HI.out.2.below hb) HL.out)
  have hbd : Below W.heap.size W W.drew := (Below.refl _ _).drew
  refine wpAnyK_only (i := 1) (by kernel_rfl) rfl rfl ?_
  refine Oper.wp_called (d := some 6) (g := 15) (args := #[.agg (manV m (.slice A n c))]) rfl (by go_simp; try rfl) (HR1.out _ hbd) ?_
  rintro u w1 ⟨A3, c3, rfl, hi3, hb3⟩
  have hb3' := hbd.trans (hb3.mono hbd.size)
  refine ⟨fun _ => hb3', ?_⟩
  simp only [Act.put, List.setIfInBounds_toArray, List.set_cons_zero, List.set_cons_succ]
  refine wpAnyK_only (i := 3) (by kernel_rfl) rfl rfl ?_
  refine Oper.wp_called (d := some 8) (g := 15) (args := #[.agg (manV m (.slice A2 n c2))]) rfl (by go_simp; try rfl) (HR2.out _ hb3') ?_
  rintro u w2 ⟨A4, c4, rfl, hi4, hb4⟩
  have hb4' := hb3'.trans (hb4.mono hb3'.size)
  refine ⟨fun _ => hb4', ?_⟩
  simp only [Act.put, List.setIfInBounds_toArray, List.set_cons_zero, List.set_cons_succ]
  refine wpAnyK_only (i := 4) (by kernel_rfl) rfl rfl ?_
  have HAL : Hid (Calls Tryz.prog 60 #[.agg (manV m (.slice A3 n c3)), .agg (manV m (.slice A4 n c4))] w2 fun e w' => ∃ u, e = .returned u ∧ u = .bool true ∧ Below w2.heap.size w2 w') := Lib.hid (by
    have h3 := hi3.below hb4
    rw [← HN.out] at h3 hi4 ⊢
    exact (alike20_same m A3 A4 c3 c4 w2 h3 hi4 HL.out).mono fun e w' ⟨h1, h2⟩ => ⟨_, h1, rfl, h2⟩)
  refine Oper.wp_called (d := some 9) (g := 60) (args := #[.agg (manV m (.slice A3 n c3)), .agg (manV m (.slice A4 n c4))]) rfl (by go_simp; try rfl) HAL.out ?_
  rintro u w3 ⟨rfl, hb5⟩
  have hb5' := hb4'.trans (hb5.mono hb4'.size)
  refine ⟨fun _ => hb5', ?_⟩
  simp only [Act.put, List.setIfInBounds_toArray, List.set_cons_zero, List.set_cons_succ]
  refine wpAnyK_only (i := 5) (by kernel_rfl) rfl rfl ?_
  refine Oper.wp_ran (d := some 4) (w' := w3) rfl (by go_simp; try rfl) ⟨fun _ => hb5', ?_⟩
  simp only [Act.put, List.setIfInBounds_toArray, List.set_cons_zero, List.set_cons_succ]
  refine wpAnyK_done (by kernel_rfl) ?_ _
  have HFIN := Lib.hid (HB.out.trans (hb5'.mono HB.out.size))
  clear hb5 hb5' hb4 hb4' hb3 hb3' hbd hi3 hi4
  go_wp2_with fail
  go_ret
  exact ⟨rfl, HFIN.out⟩
end Go.Proofs.YtfpgbhimgfdddaaGreatDoor
