/- Merged (what the claim wants of): StoAlike, StoWakes. -/
import Derived.Test.YtfpgbhimgfdddaaGreatDoorStk33
import Derived.Test.YtfpgbhimgfdddaaGreatDoorStk23
set_option linter.unusedVariables false
set_option linter.unusedSimpArgs false
/- The walks of layer 20 (store): the document's Alike of alike manifests; the law's alike (printed by gen_stoalike.py). -/
namespace Go.Proofs.YtfpgbhimgfdddaaGreatDoor
open Go.RowKit Go.Shelf Go.Sort
attribute [local go_sem ↓] Go.wp_at_zero Go.wp_at_succ
attribute [local go_sem] Later.cell Later.frozen

set_option maxRecDepth 100000 in
set_option maxHeartbeats 8000000 in
theorem alike20_same (m : Man) (A A2 : Option Addr) (c c2 : Nat) (w : World) (hinf : Infs w A m.blocks.length m.blocks) (hinf2 : Infs w A2 m.blocks.length m.blocks) (hlen : m.blocks.length ≤ 3518437208780) :
    Calls Tryz.prog 60 #[.agg (manV m (.slice A m.blocks.length c)), .agg (manV m (.slice A2 m.blocks.length c2))] w fun e w' => e = .returned (.bool true) ∧ Below w.heap.size w w' := by
  obtain ⟨b, hb⟩ : ∃ b, w.heap.size = b := ⟨_, rfl⟩
  obtain ⟨W, hW⟩ : ∃ W, (w.alloc (.cells (manV m (.slice A m.blocks.length c)) 38)).alloc (.cells (manV m (.slice A2 m.blocks.length c2)) 38) = W := ⟨_, rfl⟩
  have hbl : Below w.heap.size w W := by rw [← hW]; exact ((Below.refl _ _).alloc (Nat.le_refl _) _).alloc (by simp) _
  have HK : Hid (Blk W b 38 (manV m (.slice A m.blocks.length c)) ∧ Blk W (b + 1) 38 (manV m (.slice A2 m.blocks.length c2))) := Lib.hid (by rw [← hW, ← hb]; exact ⟨(Blk.new _ _ _).alloc _, Blk.newAt (by simp)⟩)
  have HI := Lib.hid (⟨hinf.below hbl, hinf2.below hbl⟩ : _ ∧ _)
  have HW := Lib.hid hW
  have HG := Lib.hid hb
  have HB := Lib.hid hbl
  have HL := Lib.hid hlen
  clear hW hb hbl hinf hlen hinf2
  go_enter Tryz.func60, Tryz.ntmps60
  go_upto_region 1 with fail
  have hW2 := HW.out
  have hg2 := HG.out
  rw [hW2, hg2]
  clear hW2 hg2
  have x0 : W.cell? ⟨b, 0, none⟩ = some (.int .i64 m.w0) := HK.out.1.cell 0
  have x1 : W.cell? ⟨b, 1, none⟩ = some (.int .i64 m.w1) := HK.out.1.cell 1
  have x2 : W.cell? ⟨b, 2, none⟩ = some (.int .i64 m.w2) := HK.out.1.cell 2
  have x3 : W.cell? ⟨b, 3, none⟩ = some (.int .i64 m.next) := HK.out.1.cell 3
  have x4 : W.cell? ⟨b, 4, none⟩ = some (.int .i64 m.log) := HK.out.1.cell 4
  have x5 : W.cell? ⟨b, 5, none⟩ = some ((.slice A m.blocks.length c)) := HK.out.1.cell 5
  have x6 : W.cell? ⟨b, 6, none⟩ = some (.int .i64 m.cut) := HK.out.1.cell 6
  have x7 : W.cell? ⟨b, 7, none⟩ = some (.int .i64 m.r0) := HK.out.1.cell 7
  have x8 : W.cell? ⟨b, 8, none⟩ = some (.int .i64 m.r1) := HK.out.1.cell 8
  have x9 : W.cell? ⟨b, 9, none⟩ = some (.int .i64 m.r2) := HK.out.1.cell 9
  have x10 : W.cell? ⟨b, 10, none⟩ = some (.int .i64 m.l0) := HK.out.1.cell 10
  have x11 : W.cell? ⟨b, 11, none⟩ = some (.int .i64 m.l1) := HK.out.1.cell 11
  have x12 : W.cell? ⟨b, 12, none⟩ = some (.int .i64 m.l2) := HK.out.1.cell 12
  have y0 : W.cell? ⟨b + 1, 0, none⟩ = some (.int .i64 m.w0) := HK.out.2.cell 0
  have y1 : W.cell? ⟨b + 1, 1, none⟩ = some (.int .i64 m.w1) := HK.out.2.cell 1
  have y2 : W.cell? ⟨b + 1, 2, none⟩ = some (.int .i64 m.w2) := HK.out.2.cell 2
  have y3 : W.cell? ⟨b + 1, 3, none⟩ = some (.int .i64 m.next) := HK.out.2.cell 3
  have y4 : W.cell? ⟨b + 1, 4, none⟩ = some (.int .i64 m.log) := HK.out.2.cell 4
  have y5 : W.cell? ⟨b + 1, 5, none⟩ = some ((.slice A2 m.blocks.length c2)) := HK.out.2.cell 5
  have y6 : W.cell? ⟨b + 1, 6, none⟩ = some (.int .i64 m.cut) := HK.out.2.cell 6
  have y7 : W.cell? ⟨b + 1, 7, none⟩ = some (.int .i64 m.r0) := HK.out.2.cell 7
  have y8 : W.cell? ⟨b + 1, 8, none⟩ = some (.int .i64 m.r1) := HK.out.2.cell 8
  have y9 : W.cell? ⟨b + 1, 9, none⟩ = some (.int .i64 m.r2) := HK.out.2.cell 9
  have y10 : W.cell? ⟨b + 1, 10, none⟩ = some (.int .i64 m.l0) := HK.out.2.cell 10
  have y11 : W.cell? ⟨b + 1, 11, none⟩ = some (.int .i64 m.l1) := HK.out.2.cell 11
  have y12 : W.cell? ⟨b + 1, 12, none⟩ = some (.int .i64 m.l2) := HK.out.2.cell 12
  have ea := arr3_neq m.w0 m.w1 m.w2
  have eb := arr3_neq m.r0 m.r1 m.r2
  have ec := arr3_neq m.l0 m.l1 m.l2
  obtain ⟨n, hn⟩ : ∃ n, m.blocks.length = n := ⟨_, rfl⟩
  have HN := Lib.hid hn
  have hn40 : n ≤ 3518437208780 := by rw [← hn]; exact HL.out
  rw [hn] at HK x5 y5
  clear hn
  go_upto_block 0 with fail
  clear ea eb ec
  clear x0 x1 x2 x3 x4 x5 x6 x7 x8 x9 x10 x11 x12
  clear y0 y1 y2 y3 y4 y5 y6 y7 y8 y9 y10 y11 y12
  go_wp2_with fail
  go_loopg [5] n (fun g s5 wr => ∃ i : Nat, i + g = n ∧ s5 = .int .i64 (i : Int) ∧ Below W.heap.size W wr)
  case atStart => exact ⟨0, by omega, rfl, Below.refl _ _⟩
  case round =>
    obtain ⟨i, hig, rfl, hf⟩ := hrel
    have HIG := Lib.hid hig
    have HF2 := Lib.hid hf
    have x5 : wr.cell? ⟨b, 5, none⟩ = some (.slice A n c) := (HK.out.1.below hf HK.out.1.lt).cell 5
    have y5 : wr.cell? ⟨b + 1, 5, none⟩ = some (.slice A2 n c2) := (HK.out.2.below hf HK.out.2.lt).cell 5
    clear hig hf
    by_cases hi : i < n
    · have el : decide ((i : Int) < (n : Int)) = true := by simp; omega
      have e0 : (i : Int) < (n : Int) := by omega
      have e1 : (0 : Int) ≤ (i : Int) := by omega
      have hI1 : Infs wr A m.blocks.length m.blocks := HI.out.1.below HF2.out
      have hI2 : Infs wr A2 m.blocks.length m.blocks := HI.out.2.below HF2.out
      obtain ⟨ba, oa, rfl, hbl, kc⟩ := hI1.at_ (i := i) (by rw [HN.out]; exact hi)
      obtain ⟨bc, oc, rfl, hbl2, kc2⟩ := hI2.at_ (i := i) (by rw [HN.out]; exact hi)
      have m0 : wr.cell? ⟨ba, oa + i * 5, none⟩ = _ := kc 0 _ rfl
      have m1 := kc 1 _ rfl
      have m2 := kc 2 _ rfl
      have m3 := kc 3 _ rfl
      have m4 := kc 4 _ rfl
      have p0 : wr.cell? ⟨bc, oc + i * 5, none⟩ = _ := kc2 0 _ rfl
      have p1 := kc2 1 _ rfl
      have p2 := kc2 2 _ rfl
      have p3 := kc2 3 _ rfl
      have p4 := kc2 4 _ rfl
      obtain ⟨x, hx⟩ : ∃ x, m.blocks[i]! = x := ⟨_, rfl⟩
      simp only [hx] at m0 m1 m2 m3 m4 p0 p1 p2 p3 p4
      clear hI1 hI2 kc kc2 hx
      go_upto_region 6 with fail
      go_region
      go_wp2_with fail
      go_roundg (gk - 1)
      case measure => have := HIG.out; omega
      case rel => exact ⟨i + 1, by have := HIG.out; omega, by go_num, HF2.out.drew⟩
    · have el : decide ((i : Int) < (n : Int)) = false := by simp; omega
      have hi3 : i = n := by have := HIG.out; omega
      subst hi3
      go_wp2_with fail
      go_ret
      exact ⟨rfl, HB.out.trans (HF2.out.mono HB.out.size)⟩
theorem rinfs_of_own {w : World} {base : Nat} {v : Value} {n : Nat} {l : List Inf} (h : w.ownsRow base 130 5 v n (l.flatMap encInf)) (hn : l.length = n) : ∃ A c, v = .slice A n c ∧ Infs w A n l := by
  obtain ⟨A, c, h1, h2, _⟩ := Elems.of_own (enc := encInf) (xs := l) (fun _ _ => rfl) rfl h hn
  exact ⟨A, c, h1, h2⟩
/-- ref, with its slice opened. -/
theorem ref20_opened (m : Man) (A : Option Addr) (c : Nat) (w : World) (hinf : Infs w A m.blocks.length m.blocks) (hlen : m.blocks.length ≤ 3518437208780) :
    Calls Tryz.prog 15 #[.agg (manV m (.slice A m.blocks.length c))] w fun e w' => ∃ u, e = .returned u ∧ ∃ A' c', u = .agg (manV m (.slice A' m.blocks.length c')) ∧ Infs w' A' m.blocks.length m.blocks ∧ Below w.heap.size w w' :=
  (ref20_calls m A c w hinf hlen).mono fun e w' ⟨v, h1, h2, h3⟩ => by
    obtain ⟨A', c', rfl, h4⟩ := rinfs_of_own h2 rfl
    exact ⟨_, h1, A', c', rfl, h4, h3⟩
set_option maxRecDepth 100000 in
set_option maxHeartbeats 8000000 in
theorem lalike20_same (m : Man) (A A2 : Option Addr) (c c2 : Nat) (w : World) (hinf : Infs w A m.blocks.length m.blocks) (hinf2 : Infs w A2 m.blocks.length m.blocks) (hlen : m.blocks.length ≤ 3518437208780) :
    Calls Tryz.prog 18 #[.agg (manV m (.slice A m.blocks.length c)), .agg (manV m (.slice A2 m.blocks.length c2))] w fun e w' => e = .returned (.bool true) ∧ Below w.heap.size w w' := by
  obtain ⟨b, hb⟩ : ∃ b, w.heap.size = b := ⟨_, rfl⟩
  obtain ⟨W, hW⟩ : ∃ W, (w.alloc (.cells (manV m (.slice A m.blocks.length c)) 25)).alloc (.cells (manV m (.slice A2 m.blocks.length c2)) 25) = W := ⟨_, rfl⟩
  have hbl : Below w.heap.size w W := by rw [← hW]; exact ((Below.refl _ _).alloc (Nat.le_refl _) _).alloc (by simp) _
  have HK : Hid (Blk W b 25 (manV m (.slice A m.blocks.length c)) ∧ Blk W (b + 1) 25 (manV m (.slice A2 m.blocks.length c2))) := Lib.hid (by rw [← hW, ← hb]; exact ⟨(Blk.new _ _ _).alloc _, Blk.newAt (by simp)⟩)
  have HI := Lib.hid (⟨hinf.below hbl, hinf2.below hbl⟩ : _ ∧ _)
  have HW := Lib.hid hW
  have HG := Lib.hid hb
  have HB := Lib.hid hbl
  have HL := Lib.hid hlen
  clear hW hb hbl hinf hlen hinf2
  go_enter Tryz.func18, Tryz.ntmps18
  go_upto_region 1 with fail
  have hW2 := HW.out
  have hg2 := HG.out
  rw [hW2, hg2]
  clear hW2 hg2
  obtain ⟨n, hn⟩ : ∃ n, m.blocks.length = n := ⟨_, rfl⟩
  have HN := Lib.hid hn
  rw [hn] at HK
  clear hn
  refine wp_region_K (fun w' => Below W.heap.size W w') 6 6 (by kernel_rfl) rfl ?_
  rw [show Array.replicate 6 false = #[false, false, false, false, false, false] from rfl]
  refine wpAnyK_take (i := 0) (v := .agg (manV m (.slice A n c))) (d := some 5) rfl rfl (by kernel_rfl) (by kernel_rfl) (by kernel_rfl) (by kernel_rfl) rfl (fun _ _ _ h => h) (.inl ⟨by rfl, fun w' hw => by
    have hk := HK.out.1.below hw HK.out.1.lt
    have x0 : w'.cell? ⟨b, 0, none⟩ = some (.int .i64 m.w0) := hk.cell 0
    have x1 : w'.cell? ⟨b, 1, none⟩ = some (.int .i64 m.w1) := hk.cell 1
    have x2 : w'.cell? ⟨b, 2, none⟩ = some (.int .i64 m.w2) := hk.cell 2
    have x3 : w'.cell? ⟨b, 3, none⟩ = some (.int .i64 m.next) := hk.cell 3
    have x4 : w'.cell? ⟨b, 4, none⟩ = some (.int .i64 m.log) := hk.cell 4
    have x5 : w'.cell? ⟨b, 5, none⟩ = some ((.slice A n c)) := hk.cell 5
    have x6 : w'.cell? ⟨b, 6, none⟩ = some (.int .i64 m.cut) := hk.cell 6
    have x7 : w'.cell? ⟨b, 7, none⟩ = some (.int .i64 m.r0) := hk.cell 7
    have x8 : w'.cell? ⟨b, 8, none⟩ = some (.int .i64 m.r1) := hk.cell 8
    have x9 : w'.cell? ⟨b, 9, none⟩ = some (.int .i64 m.r2) := hk.cell 9
    have x10 : w'.cell? ⟨b, 10, none⟩ = some (.int .i64 m.l0) := hk.cell 10
    have x11 : w'.cell? ⟨b, 11, none⟩ = some (.int .i64 m.l1) := hk.cell 11
    have x12 : w'.cell? ⟨b, 12, none⟩ = some (.int .i64 m.l2) := hk.cell 12
    unfold manV
    go_simp
    try rfl⟩) (Below.refl _ _).drew ?_
  simp only [Act.put, List.setIfInBounds_toArray, List.set_cons_zero, List.set_cons_succ]
  refine wpAnyK_take (i := 2) (v := .agg (manV m (.slice A2 n c2))) (d := some 7) rfl rfl (by kernel_rfl) (by kernel_rfl) (by kernel_rfl) (by kernel_rfl) rfl (fun _ _ _ h => h) (.inl ⟨by rfl, fun w' hw => by
    have hk := HK.out.2.below hw HK.out.2.lt
    have x0 : w'.cell? ⟨b + 1, 0, none⟩ = some (.int .i64 m.w0) := hk.cell 0
    have x1 : w'.cell? ⟨b + 1, 1, none⟩ = some (.int .i64 m.w1) := hk.cell 1
    have x2 : w'.cell? ⟨b + 1, 2, none⟩ = some (.int .i64 m.w2) := hk.cell 2
    have x3 : w'.cell? ⟨b + 1, 3, none⟩ = some (.int .i64 m.next) := hk.cell 3
    have x4 : w'.cell? ⟨b + 1, 4, none⟩ = some (.int .i64 m.log) := hk.cell 4
    have x5 : w'.cell? ⟨b + 1, 5, none⟩ = some ((.slice A2 n c2)) := hk.cell 5
    have x6 : w'.cell? ⟨b + 1, 6, none⟩ = some (.int .i64 m.cut) := hk.cell 6
    have x7 : w'.cell? ⟨b + 1, 7, none⟩ = some (.int .i64 m.r0) := hk.cell 7
    have x8 : w'.cell? ⟨b + 1, 8, none⟩ = some (.int .i64 m.r1) := hk.cell 8
    have x9 : w'.cell? ⟨b + 1, 9, none⟩ = some (.int .i64 m.r2) := hk.cell 9
    have x10 : w'.cell? ⟨b + 1, 10, none⟩ = some (.int .i64 m.l0) := hk.cell 10
    have x11 : w'.cell? ⟨b + 1, 11, none⟩ = some (.int .i64 m.l1) := hk.cell 11
    have x12 : w'.cell? ⟨b + 1, 12, none⟩ = some (.int .i64 m.l2) := hk.cell 12
    unfold manV
    go_simp
    try rfl⟩) (Below.refl _ _).drew ?_
  simp only [Act.put, List.setIfInBounds_toArray, List.set_cons_zero, List.set_cons_succ]
  have HR1 : Hid (∀ w', Below W.heap.size W w' → Calls Tryz.prog 15 #[.agg (manV m (.slice A n c))] w' fun e w2 => ∃ u, e = .returned u ∧ ∃ A' c', u = .agg (manV m (.slice A' n c')) ∧ Infs w2 A' n m.blocks ∧ Below w'.heap.size w' w2) := Lib.hid (fun w' hb => by
    rw [← HN.out]
    exact ref20_opened m A c w' (HI.out.1.below hb) HL.out)
  have HR2 : Hid (∀ w', Below W.heap.size W w' → Calls Tryz.prog 15 #[.agg (manV m (.slice A2 n c2))] w' fun e w2 => ∃ u, e = .returned u ∧ ∃ A' c', u = .agg (manV m (.slice A' n c')) ∧ Infs w2 A' n m.blocks ∧ Below w'.heap.size w' w2) := Lib.hid (fun w' hb => by
    rw [← HN.out]
    exact ref20_opened m A2 c2 w' (HI.out.2.below hb) HL.out)
  have hbd : Below W.heap.size W W.drew := (Below.refl _ _).drew
  refine wpAnyK_only (i := 1) (by kernel_rfl) rfl rfl ?_
  refine Oper.wp_called (d := some 6) (g := 15) (args := #[.agg (manV m (.slice A n c))]) rfl (by go_simp; try rfl) (HR1.out _ hbd) ?_
  rintro u w1 ⟨A3, c3, rfl, hi3, hb3⟩
  have hb3' := hbd.trans (hb3.mono hbd.size)
  refine ⟨fun _ => hb3', ?_⟩
  simp only [Act.put, List.setIfInBounds_toArray, List.set_cons_zero, List.set_cons_succ]
  refine wpAnyK_only (i := 3) (by kernel_rfl) rfl rfl ?_
  refine Oper.wp_called (d := some 8) (g := 15) (args := #[.agg (manV m (.slice A2 n c2))]) rfl (by go_simp; try rfl) (HR2.out _ hb3') ?_
  rintro u w2 ⟨A4, c4, rfl, hi4, hb4⟩
  have hb4' := hb3'.trans (hb4.mono hb3'.size)
  refine ⟨fun _ => hb4', ?_⟩
  simp only [Act.put, List.setIfInBounds_toArray, List.set_cons_zero, List.set_cons_succ]
  refine wpAnyK_only (i := 4) (by kernel_rfl) rfl rfl ?_
  have HAL : Hid (Calls Tryz.prog 60 #[.agg (manV m (.slice A3 n c3)), .agg (manV m (.slice A4 n c4))] w2 fun e w' => ∃ u, e = .returned u ∧ u = .bool true ∧ Below w2.heap.size w2 w') := Lib.hid (by
    have h3 := hi3.below hb4
    rw [← HN.out] at h3 hi4 ⊢
    exact (alike20_same m A3 A4 c3 c4 w2 h3 hi4 HL.out).mono fun e w' ⟨h1, h2⟩ => ⟨_, h1, rfl, h2⟩)
  refine Oper.wp_called (d := some 9) (g := 60) (args := #[.agg (manV m (.slice A3 n c3)), .agg (manV m (.slice A4 n c4))]) rfl (by go_simp; try rfl) HAL.out ?_
  rintro u w3 ⟨rfl, hb5⟩
  have hb5' := hb4'.trans (hb5.mono hb4'.size)
  refine ⟨fun _ => hb5', ?_⟩
  simp only [Act.put, List.setIfInBounds_toArray, List.set_cons_zero, List.set_cons_succ]
  refine wpAnyK_only (i := 5) (by kernel_rfl) rfl rfl ?_
  refine Oper.wp_ran (d := some 4) (w' := w3) rfl (by go_simp; try rfl) ⟨fun _ => hb5', ?_⟩
  simp only [Act.put, List.setIfInBounds_toArray, List.set_cons_zero, List.set_cons_succ]
  refine wpAnyK_done (by kernel_rfl) ?_ _
  have HFIN := Lib.hid (HB.out.trans (hb5'.mono HB.out.size))
  clear hb5 hb5' hb4 hb4' hb3 hb3' hbd hi3 hi4
  go_wp2_with fail
  go_ret
  exact ⟨rfl, HFIN.out⟩
end Go.Proofs.YtfpgbhimgfdddaaGreatDoor

/- The walk of layer 20 (store): what the law wants to be awake (printed by gen_stowakes.py). -/
namespace Go.Proofs.YtfpgbhimgfdddaaGreatDoor
open Go.RowKit Go.Shelf Go.Sort
attribute [local go_sem ↓] Go.wp_at_zero Go.wp_at_succ
attribute [local go_sem] Later.cell Later.frozen

section
variable {B0 : Nat} {a : Nat → Addr}
theorem plain20_opened (w : World) : Calls Tryz.prog 54 #[] w fun e w' => ∃ u, e = .returned u ∧ ∃ A c, u = .agg (manV plainM (.slice A 1 c)) ∧ Infs w' A 1 plainM.blocks ∧ Below w.heap.size w w' :=
  (plain20_calls w).mono fun e w' ⟨A, c, h1, h2, h3, h4⟩ => ⟨_, h1, A, c, rfl, h2, h4⟩
set_option maxRecDepth 100000 in
set_option maxHeartbeats 8000000 in
theorem wakes20_calls (w : World) (hC : SCon B0 a) (hE : SEnv B0 a w) : Calls Tryz.prog 13 #[] w fun e w' => e = .returned (.bool true) ∧ Below w.heap.size w w' := by
  have HC := Lib.hid hC
  have HE0 := Lib.hid hE
  have HN := Lib.hid (Dk.made 1000 (by decide) (by decide) w hE.hb)
  clear hC hE
  go_enter Tryz.func13, Tryz.ntmps13
  go_wp2_with fail
  refine HN.out.mono ?_
  rintro e w1 ⟨p, R, rfl, hd1, hb1, hz1⟩
  have HZ := Lib.hid hz1
  have HB1 := Lib.hid hb1
  have HE1 := Lib.hid (HE0.out.low HC.out hb1)
  have HD1 := Lib.hid hd1
  clear hd1 hb1 hz1
  go_upto_region 3 with fail
  obtain ⟨t2, ht2⟩ : ∃ x, w1.heap.size = x := ⟨_, rfl⟩
  obtain ⟨w2, hw2⟩ : ∃ x, w1.alloc (.cells #[.string ⟨#[109]⟩, .string ⟨#[99]⟩, .string ⟨#[105]⟩] 57) = x := ⟨_, rfl⟩
  have hb2 : Below w1.heap.size w1 w2 := by rw [← hw2]; exact (Below.refl _ _).alloc (Nat.le_refl _) _
  have HT2a : Hid (Blk w2 t2 57 #[.string ⟨#[109]⟩, .string ⟨#[99]⟩, .string ⟨#[105]⟩] ∧ R t2 = 0) := Lib.hid ⟨by rw [← hw2, ← ht2]; exact Blk.new _ _ _, HD1.out.new (by omega)⟩
  have HD2 := Lib.hid (HD1.out.below hb2)
  have HE2 := Lib.hid (HE1.out.low HC.out hb2)
  have HO2 : Hid (Out R R w1 w2) := Lib.hid (Out.of_below hb2)
  rw [hw2, ht2]
  clear hw2 ht2 hb2
  go_wp2_with fail
  refine (plain20_calls w2).mono ?_
  rintro e w3 ⟨A, c, rfl, hip, hA, hb3⟩
  have HD3 := Lib.hid (HD2.out.below hb3)
  have HE3 := Lib.hid (HE2.out.low HC.out hb3)
  have HO3 : Hid (Out R R w1 w3) := Lib.hid (HO2.out.trans (Out.of_below hb3))
  have HT3a : Hid (Blk w3 t2 57 #[.string ⟨#[109]⟩, .string ⟨#[99]⟩, .string ⟨#[105]⟩]) := Lib.hid (HT2a.out.1.below hb3 HT2a.out.1.lt)
  have HCM := Lib.hid (commit_yes plainM A c w3 hip (by decide) wake5.2 HC.out HE3.out wake5.1 HD3.out (by have := wake6; omega))
  clear hip hA hb3
  go_wp2_with fail
  refine HCM.out.mono ?_
  rintro e w4 ⟨v4, R4, rfl, hv4, hd4, ho4⟩
  have hw1 : (putD (newD 1000) sManifest (encM plainM)).1 = 0 := wake1
  rw [hw1] at hv4
  obtain rfl : v4 = .nilIface := hv4
  have HD4 : Hid (Dk B0 1100 w4 R4 p wakeD1.2) := Lib.hid (hd4.more (by have := wake6; omega))
  have HE4 := Lib.hid (HE3.out.out HC.out HD3.out ho4)
  have HO4 := Lib.hid (HO3.out.trans ho4)
  have HT4a : Hid (Blk w4 t2 57 #[.string ⟨#[109]⟩, .string ⟨#[99]⟩, .string ⟨#[105]⟩] ∧ R4 t2 = 0) := Lib.hid ⟨ho4.blk HT3a.out HT2a.out.2, ho4.old _ HT3a.out.lt HT2a.out.2⟩
  have HSV := Lib.hid (save_calls 2 (by decide) (by decide) ⟨#[109]⟩ ⟨#[99]⟩ ⟨#[105]⟩ w4 HD4.out (by decide) HC.out HE4.out)
  have x0 := HT4a.out.1.cell 0
  have x1 := HT4a.out.1.cell 1
  have x2 := HT4a.out.1.cell 2
  simp at x0 x1 x2
  clear hd4 ho4 hw1
  go_wp2_with fail
  refine HSV.out.mono ?_
  rintro e w5 ⟨v5, R5, rfl, hv5, hd5, ho5⟩
  have hw2 : saveD wakeD1.2 (nameT sT 2) (nameT sB 2) (fs3 ⟨#[109]⟩ ⟨#[99]⟩ ⟨#[105]⟩) = wakeD2 := rfl
  rw [hw2] at hv5 hd5
  have hw3 := wake2
  rw [hw3] at hv5
  obtain rfl : v5 = .nilIface := hv5
  have HD5 : Hid (Dk B0 2000 w5 R5 p wakeD2.2) := Lib.hid (hd5.more (by decide))
  have HE5 := Lib.hid (HE4.out.out HC.out HD4.out ho5)
  have HO5 := Lib.hid (HO4.out.trans ho5)
  have HT5a : Hid (Blk w5 t2 57 #[.string ⟨#[109]⟩, .string ⟨#[99]⟩, .string ⟨#[105]⟩] ∧ R5 t2 = 0) := Lib.hid ⟨ho5.blk HT4a.out.1 HT4a.out.2, ho5.old _ HT4a.out.1.lt HT4a.out.2⟩
  have HCU := Lib.hid (current_calls (encM plainM) (by have := wake6; omega) w5 HD5.out (by decide) HC.out HE5.out wake3)
  have hdm : decM (encM plainM) = (plainM, 0) := decM_enc wake5.2 wake5.1
  unfold CurOut at HCU
  rw [hdm] at HCU
  clear hd5 ho5 hw2 hw3 hdm x0 x1 x2
  go_wp2_with fail
  refine HCU.out.mono ?_
  rintro e w6 ⟨v6, u6, R6, rfl, hown, hvr, hu6, hd6, ho6⟩
  obtain rfl : u6 = .nilIface := hu6
  obtain ⟨AC, cc, rfl, hic, _, _⟩ := Infs.of_own (l := plainM.blocks) hown rfl
  have HVR := Lib.hid hvr
  have HOWN := Lib.hid hown
  have HD6 := Lib.hid hd6
  have HE6 := Lib.hid (HE5.out.out HC.out HD5.out ho6)
  have HO6 := Lib.hid (HO5.out.trans ho6)
  have HT6a : Hid (Blk w6 t2 57 #[.string ⟨#[109]⟩, .string ⟨#[99]⟩, .string ⟨#[105]⟩] ∧ R6 t2 = 0) := Lib.hid ⟨ho6.blk HT5a.out.1 HT5a.out.2, ho6.old _ HT5a.out.1.lt HT5a.out.2⟩
  clear hown hvr hd6 ho6 hic
  have hlen1 : plainM.blocks.length = 1 := rfl
  rw [hlen1] at HVR HOWN ⊢
  clear hlen1
  unfold manV plainM
  go_upto_region 6 with fail
  obtain ⟨t3, ht3⟩ : ∃ x, w6.heap.size = x := ⟨_, rfl⟩
  obtain ⟨w7, hw7⟩ : ∃ x, w6.alloc (.cells #[.int .i64 10, .int .i64 10, .int .i64 10, .int .i64 3, .int .i64 1, .slice AC 1 cc, .int .i64 5, .int .i64 0, .int .i64 0, .int .i64 0, .int .i64 0, .int .i64 0, .int .i64 0] 25) = x := ⟨_, rfl⟩
  have hb7 : Below w6.heap.size w6 w7 := by rw [← hw7]; exact (Below.refl _ _).alloc (Nat.le_refl _) _
  have HT7a : Hid (Blk w7 t2 57 #[.string ⟨#[109]⟩, .string ⟨#[99]⟩, .string ⟨#[105]⟩]) := Lib.hid (HT6a.out.1.below hb7 HT6a.out.1.lt)
  have HT7b : Hid (Blk w7 t3 25 #[.int .i64 10, .int .i64 10, .int .i64 10, .int .i64 3, .int .i64 1, .slice AC 1 cc, .int .i64 5, .int .i64 0, .int .i64 0, .int .i64 0, .int .i64 0, .int .i64 0, .int .i64 0] ∧ R6 t3 = 0) := Lib.hid ⟨by rw [← hw7, ← ht3]; exact Blk.new _ _ _, HD6.out.new (by omega)⟩
  have HD7 := Lib.hid (HD6.out.below hb7)
  have HE7 := Lib.hid (HE6.out.low HC.out hb7)
  have HO7 : Hid (Out R R6 w1 w7) := Lib.hid (HO6.out.trans (Out.of_below hb7))
  have HOWN7 := Lib.hid (ownsRow.same HOWN.out fun k hk => hb7.block k (World.ownsRow.lt HOWN.out k hk).2)
  have HLD := Lib.hid (load_calls 2 (by decide) (by decide) w7 HD7.out (by decide) HC.out HE7.out)
  have hw4 : loadD wakeD2.2 (nameT sB 2) = (plainF, 0) := wake4
  unfold LdOut at HLD
  rw [hw4] at HLD
  rw [hw7, ht3]
  clear hw7 ht3 hb7 hw4
  go_wp2_with fail
  refine HLD.out.mono ?_
  rintro e w8 ⟨XA, XB, XC, v8, R8, rfl, hx8, hv8, hd8, ho8⟩
  obtain rfl : v8 = .nilIface := hv8
  have hxa : XA = ⟨#[109]⟩ ∧ XB = ⟨#[99]⟩ ∧ XC = ⟨#[105]⟩ := by
    unfold fs3 plainF at hx8
    injection hx8 with h1 h2 h3
    exact ⟨bytes_eq h1, bytes_eq h2, bytes_eq h3⟩
  obtain ⟨rfl, rfl, rfl⟩ := hxa
  have HE8 := Lib.hid (HE7.out.out HC.out HD7.out ho8)
  have HO8 := Lib.hid (HO7.out.trans ho8)
  have HT8a : Hid (Blk w8 t2 57 #[.string ⟨#[109]⟩, .string ⟨#[99]⟩, .string ⟨#[105]⟩]) := Lib.hid (ho8.blk HT7a.out HT6a.out.2)
  have HT8b : Hid (Blk w8 t3 25 #[.int .i64 10, .int .i64 10, .int .i64 10, .int .i64 3, .int .i64 1, .slice AC 1 cc, .int .i64 5, .int .i64 0, .int .i64 0, .int .i64 0, .int .i64 0, .int .i64 0, .int .i64 0]) := Lib.hid (ho8.blk HT7b.out.1 HT7b.out.2)
  have HOWN8 := Lib.hid (ownsRow.same HOWN7.out fun k hk => ho8.block k (World.ownsRow.lt HOWN7.out k hk).2 (HVR.out k hk))
  clear hx8 hd8 ho8
  unfold fsV
  go_upto_region 7 with fail
  obtain ⟨t5, ht5⟩ : ∃ x, w8.heap.size = x := ⟨_, rfl⟩
  obtain ⟨W, hW⟩ : ∃ x, w8.alloc (.cells #[.string ⟨#[109]⟩, .string ⟨#[99]⟩, .string ⟨#[105]⟩] 57) = x := ⟨_, rfl⟩
  have hb9 : Below w8.heap.size w8 W := by rw [← hW]; exact (Below.refl _ _).alloc (Nat.le_refl _) _
  have HT2 : Hid (Blk W t2 57 #[.string ⟨#[109]⟩, .string ⟨#[99]⟩, .string ⟨#[105]⟩]) := Lib.hid (HT8a.out.below hb9 HT8a.out.lt)
  have HT3 : Hid (Blk W t3 25 #[.int .i64 10, .int .i64 10, .int .i64 10, .int .i64 3, .int .i64 1, .slice AC 1 cc, .int .i64 5, .int .i64 0, .int .i64 0, .int .i64 0, .int .i64 0, .int .i64 0, .int .i64 0]) := Lib.hid (HT8b.out.below hb9 HT8b.out.lt)
  have HT5 : Hid (Blk W t5 57 #[.string ⟨#[109]⟩, .string ⟨#[99]⟩, .string ⟨#[105]⟩]) := Lib.hid (by rw [← hW, ← ht5]; exact Blk.new _ _ _)
  have HIC : Hid (Infs W AC 1 plainM.blocks) := Lib.hid (by
    have h0 := ownsRow.same HOWN8.out fun k hk => hb9.block k (World.ownsRow.lt HOWN8.out k hk).2
    obtain ⟨A', c', e1, h1, _, _⟩ := Infs.of_own (l := plainM.blocks) h0 rfl
    injection e1 with e1 e2 e3
    subst e1
    exact h1)
  have HE : Hid (SEnv B0 a W) := Lib.hid (HE8.out.low HC.out hb9)
  have HFIN : Hid (Below w.heap.size w W) := Lib.hid (HB1.out.trans (((HO8.out.trans (Out.of_below hb9)).below HB1.out.size HZ.out)))
  rw [hW, ht5]
  clear hW ht5 hb9
  refine wp_region_K (fun w' => Below W.heap.size W w') 21 21 (by kernel_rfl) rfl ?_
  rw [show Array.replicate 21 false = #[false, false, false, false, false, false, false, false, false, false, false, false, false, false, false, false, false, false, false, false, false] from rfl]
  have HS : Hid (Below W.heap.size W W.drew) := Lib.hid (Below.refl _ _).drew
  have HPL : Hid (Calls Tryz.prog 54 #[] W.drew fun e w' => ∃ u, e = .returned u ∧ ∃ A c, u = .agg (manV plainM (.slice A 1 c)) ∧ Infs w' A 1 plainM.blocks ∧ Below W.drew.heap.size W.drew w') := Lib.hid (plain20_opened _)
  refine wpAnyK_pure (i := 0) (v := .nilIface) (d := some 29) rfl rfl (by kernel_rfl) (by kernel_rfl) (by kernel_rfl) rfl (fun _ _ _ h => h) (by rfl) (fun w => by go_simp; try rfl) (fun _ => HS.out) ?_
  simp only [Act.put, List.setIfInBounds_toArray, List.set_cons_zero, List.set_cons_succ]
  refine wpAnyK_pure (i := 1) (v := .bool true) (d := some 30) rfl rfl (by kernel_rfl) (by kernel_rfl) (by kernel_rfl) rfl (fun _ _ _ h => h) (by rfl) (fun w => by go_simp; try rfl) (fun _ => HS.out) ?_
  simp only [Act.put, List.setIfInBounds_toArray, List.set_cons_zero, List.set_cons_succ]
  refine wpAnyK_pure (i := 2) (v := .bool true) (d := some 31) rfl rfl (by kernel_rfl) (by kernel_rfl) (by kernel_rfl) rfl (fun _ _ _ h => h) (by rfl) (fun w => by go_simp; try rfl) (fun _ => HS.out) ?_
  simp only [Act.put, List.setIfInBounds_toArray, List.set_cons_zero, List.set_cons_succ]
  refine wpAnyK_pure (i := 3) (v := .nilIface) (d := some 32) rfl rfl (by kernel_rfl) (by kernel_rfl) (by kernel_rfl) rfl (fun _ _ _ h => h) (by rfl) (fun w => by go_simp; try rfl) (fun _ => HS.out) ?_
  simp only [Act.put, List.setIfInBounds_toArray, List.set_cons_zero, List.set_cons_succ]
  refine wpAnyK_pure (i := 4) (v := .bool true) (d := some 33) rfl rfl (by kernel_rfl) (by kernel_rfl) (by kernel_rfl) rfl (fun _ _ _ h => h) (by rfl) (fun w => by go_simp; try rfl) (fun _ => HS.out) ?_
  simp only [Act.put, List.setIfInBounds_toArray, List.set_cons_zero, List.set_cons_succ]
  refine wpAnyK_pure (i := 5) (v := .bool true) (d := some 34) rfl rfl (by kernel_rfl) (by kernel_rfl) (by kernel_rfl) rfl (fun _ _ _ h => h) (by rfl) (fun w => by go_simp; try rfl) (fun _ => HS.out) ?_
  simp only [Act.put, List.setIfInBounds_toArray, List.set_cons_zero, List.set_cons_succ]
  refine wpAnyK_pure (i := 6) (v := .bool true) (d := some 35) rfl rfl (by kernel_rfl) (by kernel_rfl) (by kernel_rfl) rfl (fun _ _ _ h => h) (by rfl) (fun w => by go_simp; try rfl) (fun _ => HS.out) ?_
  simp only [Act.put, List.setIfInBounds_toArray, List.set_cons_zero, List.set_cons_succ]
  refine wpAnyK_take (i := 7) (v := .agg #[.string ⟨#[109]⟩, .string ⟨#[99]⟩, .string ⟨#[105]⟩]) (d := some 36) rfl rfl (by kernel_rfl) (by kernel_rfl) (by kernel_rfl) (by kernel_rfl) rfl (fun _ _ _ h => h) (.inl ⟨by rfl, fun w' hw => by
    have hk := HT2.out.below hw HT2.out.lt
    have x0 := hk.cell 0
    have x1 := hk.cell 1
    have x2 := hk.cell 2
    go_simp
    try rfl⟩) HS.out ?_
  simp only [Act.put, List.setIfInBounds_toArray, List.set_cons_zero, List.set_cons_succ]
  refine wpAnyK_take (i := 8) (v := .agg #[.string ⟨#[109]⟩, .string ⟨#[99]⟩, .string ⟨#[105]⟩]) (d := some 37) rfl rfl (by kernel_rfl) (by kernel_rfl) (by kernel_rfl) (by kernel_rfl) rfl (fun _ _ _ h => h) (.inl ⟨by rfl, fun w' hw => by
    have hk := HT5.out.below hw HT5.out.lt
    have x0 := hk.cell 0
    have x1 := hk.cell 1
    have x2 := hk.cell 2
    go_simp
    try rfl⟩) HS.out ?_
  simp only [Act.put, List.setIfInBounds_toArray, List.set_cons_zero, List.set_cons_succ]
  refine wpAnyK_pure (i := 9) (v := .bool true) (d := some 38) rfl rfl (by kernel_rfl) (by kernel_rfl) (by kernel_rfl) rfl (fun _ _ _ h => h) (by rfl) (fun w => by go_simp; try rfl) (fun _ => HS.out) ?_
  simp only [Act.put, List.setIfInBounds_toArray, List.set_cons_zero, List.set_cons_succ]
  refine wpAnyK_pure (i := 10) (v := .bool true) (d := some 39) rfl rfl (by kernel_rfl) (by kernel_rfl) (by kernel_rfl) rfl (fun _ _ _ h => h) (by rfl) (fun w => by go_simp; try rfl) (fun _ => HS.out) ?_
  simp only [Act.put, List.setIfInBounds_toArray, List.set_cons_zero, List.set_cons_succ]
  refine wpAnyK_pure (i := 11) (v := .bool true) (d := some 40) rfl rfl (by kernel_rfl) (by kernel_rfl) (by kernel_rfl) rfl (fun _ _ _ h => h) (by rfl) (fun w => by go_simp; try rfl) (fun _ => HS.out) ?_
  simp only [Act.put, List.setIfInBounds_toArray, List.set_cons_zero, List.set_cons_succ]
  refine wpAnyK_take (i := 12) (v := .agg #[.int .i64 10, .int .i64 10, .int .i64 10, .int .i64 3, .int .i64 1, .slice AC 1 cc, .int .i64 5, .int .i64 0, .int .i64 0, .int .i64 0, .int .i64 0, .int .i64 0, .int .i64 0]) (d := some 41) rfl rfl (by kernel_rfl) (by kernel_rfl) (by kernel_rfl) (by kernel_rfl) rfl (fun _ _ _ h => h) (.inl ⟨by rfl, fun w' hw => by
    have hk := HT3.out.below hw HT3.out.lt
    have x0 := hk.cell 0
    have x1 := hk.cell 1
    have x2 := hk.cell 2
    have x3 := hk.cell 3
    have x4 := hk.cell 4
    have x5 := hk.cell 5
    have x6 := hk.cell 6
    have x7 := hk.cell 7
    have x8 := hk.cell 8
    have x9 := hk.cell 9
    have x10 := hk.cell 10
    have x11 := hk.cell 11
    have x12 := hk.cell 12
    go_simp
    try rfl⟩) HS.out ?_
  simp only [Act.put, List.setIfInBounds_toArray, List.set_cons_zero, List.set_cons_succ]
  refine wpAnyK_onlyW (i := 13) (by kernel_rfl) rfl (by rfl) ?_
  refine Oper.wp_called (d := some 42) (g := 54) (args := #[]) rfl (by go_simp; try rfl) HPL.out ?_
  rintro u wa ⟨AP, cp, rfl, hip, hba⟩
  have hSa := HS.out.trans (hba.mono HS.out.size)
  refine ⟨fun _ => hSa, ?_⟩
  simp only [Act.put, List.setIfInBounds_toArray, List.set_cons_zero, List.set_cons_succ]
  refine wpAnyK_onlyW (i := 14) (by kernel_rfl) rfl (by rfl) ?_
  have HAL : Hid (Calls Tryz.prog 18 #[.agg (manV plainM (.slice AC 1 cc)), .agg (manV plainM (.slice AP 1 cp))] wa fun e w' => ∃ u, e = .returned u ∧ u = .bool true ∧ Below wa.heap.size wa w') := Lib.hid
    ((lalike20_same plainM AC AP cc cp wa (HIC.out.below hSa) hip (by decide)).mono fun e w' ⟨h1, h2⟩ => ⟨_, h1, rfl, h2⟩)
  refine Oper.wp_called (d := some 43) (g := 18) (args := #[.agg (manV plainM (.slice AC 1 cc)), .agg (manV plainM (.slice AP 1 cp))]) rfl (by go_simp; try rfl) HAL.out ?_
  rintro u wb ⟨rfl, hbb⟩
  have hSb := hSa.trans (hbb.mono hSa.size)
  refine ⟨fun _ => hSb, ?_⟩
  simp only [Act.put, List.setIfInBounds_toArray, List.set_cons_zero, List.set_cons_succ]
  clear HS
  have HS := Lib.hid hSb
  refine wpAnyK_pure (i := 15) (v := .bool true) (d := some 44) rfl rfl (by kernel_rfl) (by kernel_rfl) (by kernel_rfl) rfl (fun _ _ _ h => h) (by rfl) (fun w => by go_simp; try rfl) (fun _ => HS.out) ?_
  simp only [Act.put, List.setIfInBounds_toArray, List.set_cons_zero, List.set_cons_succ]
  refine wpAnyK_pure (i := 16) (v := .bool true) (d := some 45) rfl rfl (by kernel_rfl) (by kernel_rfl) (by kernel_rfl) rfl (fun _ _ _ h => h) (by rfl) (fun w => by go_simp; try rfl) (fun _ => HS.out) ?_
  simp only [Act.put, List.setIfInBounds_toArray, List.set_cons_zero, List.set_cons_succ]
  have HDR : Hid (Calls Tryz.prog 23 #[.int .i64 12] wb fun e w' => ∃ u, e = .returned u ∧ u = .string ⟨#[98, 48, 48, 48, 48, 48, 48, 49, 50]⟩ ∧ Below wb.heap.size wb w') := Lib.hid
    ((sdir_calls 12 (by decide) (by decide) wb (HE.out.below HC.out (hSb.mono HE.out.hb)).pow).mono fun e w' ⟨h1, h2⟩ => ⟨_, h1, by rfl, h2⟩)
  refine wpAnyK_onlyW (i := 17) (by kernel_rfl) rfl (by rfl) ?_
  refine Oper.wp_called (d := some 46) (g := 23) (args := #[.int .i64 12]) rfl (by go_simp; try rfl) HDR.out ?_
  rintro u wd ⟨rfl, hbd⟩
  have hSd := hSb.trans (hbd.mono hSb.size)
  refine ⟨fun _ => hSd, ?_⟩
  simp only [Act.put, List.setIfInBounds_toArray, List.set_cons_zero, List.set_cons_succ]
  clear HS
  have HS := Lib.hid hSd
  refine wpAnyK_pure (i := 18) (v := .bool true) (d := some 47) rfl rfl (by kernel_rfl) (by kernel_rfl) (by kernel_rfl) rfl (fun _ _ _ h => h) (by rfl) (fun w => by go_simp; try rfl) (fun _ => HS.out) ?_
  simp only [Act.put, List.setIfInBounds_toArray, List.set_cons_zero, List.set_cons_succ]
  refine wpAnyK_pure (i := 19) (v := .bool true) (d := some 48) rfl rfl (by kernel_rfl) (by kernel_rfl) (by kernel_rfl) rfl (fun _ _ _ h => h) (by rfl) (fun w => by go_simp; try rfl) (fun _ => HS.out) ?_
  simp only [Act.put, List.setIfInBounds_toArray, List.set_cons_zero, List.set_cons_succ]
  refine wpAnyK_pure (i := 20) (v := .bool true) (d := some 0) rfl rfl (by kernel_rfl) (by kernel_rfl) (by kernel_rfl) rfl (fun _ _ _ h => h) (by rfl) (fun w => by go_simp; try rfl) (fun _ => HS.out) ?_
  simp only [Act.put, List.setIfInBounds_toArray, List.set_cons_zero, List.set_cons_succ]
  refine wpAnyK_done (by kernel_rfl) ?_ _
  have HFF := Lib.hid (HFIN.out.trans (HS.out.mono HFIN.out.size))
  clear hbd hSd hbb hSb hba hSa hip
  go_wp2_with fail
  go_ret
  exact ⟨rfl, HFF.out⟩
end
end Go.Proofs.YtfpgbhimgfdddaaGreatDoor
