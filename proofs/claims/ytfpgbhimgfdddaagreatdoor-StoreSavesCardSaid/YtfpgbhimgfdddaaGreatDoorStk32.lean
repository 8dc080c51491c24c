/- Merged (what the claim wants of): StoWalksJ. -/
import Derived.Test.YtfpgbhimgfdddaaGreatDoorStk30
import Derived.Test.YtfpgbhimgfdddaaGreatDoorStk23
import Derived.Deep.AppendLies
set_option linter.unusedVariables false
set_option linter.unusedSimpArgs false
/- The walk of layer 20 (store): Decode. -/
namespace Go.Proofs.YtfpgbhimgfdddaaGreatDoor
open Go.RowKit Go.Shelf Go.Sort
attribute [local go_sem ↓] Go.wp_at_zero Go.wp_at_succ
attribute [local go_sem] Later.cell Later.frozen

theorem info_inf : (Tryz.prog.info? 116).map (fun i => (i.zero, i.size, i.bytes)) = some (some (.agg #[.int .i64 0, .int .i64 0, .int .i64 0, .int .i64 0, .int .i64 0]), 5, 40) := by kernel_rfl
set_option maxRecDepth 100000 in
set_option maxHeartbeats 8000000 in
theorem decode_calls (s : ByteArray) (hs : s.size ≤ 1073741824) (w : World) (hT : NibTab w) :
    Calls Tryz.prog 16 #[.string s] w fun e w' => ∃ v, e = .returned (.tuple #[.agg (manV (decM s.data.toList).1 v), .int .i64 ((decM s.data.toList).2 : Int)]) ∧
      w'.ownsRow w.heap.size 116 5 v (decM s.data.toList).1.blocks.length ((decM s.data.toList).1.blocks.flatMap encInf) ∧ Below w.heap.size w w' := by
  have HT := Lib.hid hT
  obtain ⟨R, hR⟩ : ∃ R, w.alloc (.cells (manV .zero (.slice none 0 0)) 25) = R := ⟨_, rfl⟩
  have hbR : Below w.heap.size w R := by rw [← hR]; exact (Below.refl _ _).alloc (Nat.le_refl _) _
  have HU := Lib.hid (unseal_calls s (by omega) R (hT.below hT.lt hbR))
  have HK : Hid (Blk R w.heap.size 25 (manV .zero (.slice none 0 0))) := Lib.hid (by rw [← hR]; exact Blk.new _ _ _)
  have HR := Lib.hid hR
  have HBR := Lib.hid hbR
  clear hT hR hbR
  go_enter Tryz.func16, Tryz.ntmps16
  go_upto_region 1 with fail
  have hR2 : w.alloc (.cells #[.int .i64 0, .int .i64 0, .int .i64 0, .int .i64 0, .int .i64 0, .slice none 0 0, .int .i64 0, .int .i64 0, .int .i64 0, .int .i64 0, .int .i64 0, .int .i64 0, .int .i64 0] 25) = R := HR.out
  rw [hR2]
  clear hR2
  go_wp2_with fail
  refine HU.out.mono ?_
  rintro _ w1 ⟨rfl, hb1⟩
  have HB1 := Lib.hid (HBR.out.trans (hb1.mono HBR.out.size))
  have HK1 := Lib.hid (Blk.below HK.out hb1 HK.out.lt)
  clear hb1
  cases hu : unsealT s.data.toList with
  | error c =>
    have hc : c ≠ 0 := by
      unfold unsealT at hu
      split at hu
      · injection hu with hu; omega
      · split at hu
        · cases hu
        · injection hu with hu; omega
    have hdec : decM s.data.toList = (.zero, c) := by unfold decM; rw [hu]
    have HD := Lib.hid hdec
    have HU2 := Lib.hid hu
    have dc : decide ((c : Int) = 0) = false := by simp; omega
    clear hu hdec
    go_upto_region 3 with fail
    obtain ⟨W4, hW4⟩ : ∃ X, (w1.alloc (.cells #[.string ⟨#[]⟩] 9)).alloc (.cells #[.int .i64 (c : Int)] 26) = X := ⟨_, rfl⟩
    have HK4 : Hid (Blk W4 w.heap.size 25 (manV .zero (.slice none 0 0))) := Lib.hid (by rw [← hW4]; exact (HK1.out.alloc _).alloc _)
    have HB4 : Hid (Below w.heap.size w W4) := Lib.hid (by rw [← hW4]; exact (HB1.out.alloc HB1.out.size _).alloc (by have := HB1.out.size; simp; omega) _)
    have xc : W4.cell? ⟨w1.heap.size + 1, 0, none⟩ = some (.int .i64 (c : Int)) := by rw [← hW4]; exact (Blk.newAt (by simp) : Blk _ (w1.heap.size + 1) 26 #[.int .i64 (c : Int)]).cell 0
    have hz : w.heap.size ≠ w1.heap.size + 1 := by have := HK1.out.lt; omega
    rw [hW4]
    clear hW4
    have x0 : W4.cell? ⟨w.heap.size, 0, none⟩ = some (.int .i64 0) := HK4.out.cell 0
    have z0 : W4.frozen? ⟨w.heap.size, 0, none⟩ = false := HK4.out.frozen 0
    have x1 : W4.cell? ⟨w.heap.size, 1, none⟩ = some (.int .i64 0) := HK4.out.cell 1
    have z1 : W4.frozen? ⟨w.heap.size, 1, none⟩ = false := HK4.out.frozen 1
    have x2 : W4.cell? ⟨w.heap.size, 2, none⟩ = some (.int .i64 0) := HK4.out.cell 2
    have z2 : W4.frozen? ⟨w.heap.size, 2, none⟩ = false := HK4.out.frozen 2
    have x3 : W4.cell? ⟨w.heap.size, 3, none⟩ = some (.int .i64 0) := HK4.out.cell 3
    have z3 : W4.frozen? ⟨w.heap.size, 3, none⟩ = false := HK4.out.frozen 3
    have x4 : W4.cell? ⟨w.heap.size, 4, none⟩ = some (.int .i64 0) := HK4.out.cell 4
    have z4 : W4.frozen? ⟨w.heap.size, 4, none⟩ = false := HK4.out.frozen 4
    have x5 : W4.cell? ⟨w.heap.size, 5, none⟩ = some (.slice none 0 0) := HK4.out.cell 5
    have z5 : W4.frozen? ⟨w.heap.size, 5, none⟩ = false := HK4.out.frozen 5
    have x6 : W4.cell? ⟨w.heap.size, 6, none⟩ = some (.int .i64 0) := HK4.out.cell 6
    have z6 : W4.frozen? ⟨w.heap.size, 6, none⟩ = false := HK4.out.frozen 6
    have x7 : W4.cell? ⟨w.heap.size, 7, none⟩ = some (.int .i64 0) := HK4.out.cell 7
    have z7 : W4.frozen? ⟨w.heap.size, 7, none⟩ = false := HK4.out.frozen 7
    have x8 : W4.cell? ⟨w.heap.size, 8, none⟩ = some (.int .i64 0) := HK4.out.cell 8
    have z8 : W4.frozen? ⟨w.heap.size, 8, none⟩ = false := HK4.out.frozen 8
    have x9 : W4.cell? ⟨w.heap.size, 9, none⟩ = some (.int .i64 0) := HK4.out.cell 9
    have z9 : W4.frozen? ⟨w.heap.size, 9, none⟩ = false := HK4.out.frozen 9
    have x10 : W4.cell? ⟨w.heap.size, 10, none⟩ = some (.int .i64 0) := HK4.out.cell 10
    have z10 : W4.frozen? ⟨w.heap.size, 10, none⟩ = false := HK4.out.frozen 10
    have x11 : W4.cell? ⟨w.heap.size, 11, none⟩ = some (.int .i64 0) := HK4.out.cell 11
    have z11 : W4.frozen? ⟨w.heap.size, 11, none⟩ = false := HK4.out.frozen 11
    have x12 : W4.cell? ⟨w.heap.size, 12, none⟩ = some (.int .i64 0) := HK4.out.cell 12
    have z12 : W4.frozen? ⟨w.heap.size, 12, none⟩ = false := HK4.out.frozen 12
    go_cut [3] (fun s3 wz => s3 = .int .i64 (c : Int) ∧ Blk wz w.heap.size 25 (manV .zero (.slice none 0 0)) ∧ Below w.heap.size w wz)
    case first =>
      go_region
      go_wp2_with fail
      go_meet
      have hf := fill13 (m' := .zero) (v' := .slice none 0 0) HK4.out
      exact ⟨rfl, hf.1.drew, HB4.out.trans hf.2.drew⟩
    case rest =>
      obtain ⟨rfl, hk, hb⟩ := hcut
      obtain ⟨w5, rfl⟩ : ∃ x, x = wc := ⟨_, rfl⟩
      have hd := HD.out
      clear x0 z0 x1 z1 x2 z2 x3 z3 x4 z4 x5 z5 x6 z6 x7 z7 x8 z8 x9 z9 x10 z10 x11 z11 x12 z12
      go_wp2_with fail
      refine bodyPost_ret (results_cell1 rfl _ w5 ⟨w.heap.size, 0, none⟩ (.agg (manV .zero (.slice none 0 0))) rfl (run_loadVar_row w5 w.heap.size 25 25 _ (0, 0) _ hk Tryz.underlying25 rfl (by kernel_rfl))) rfl ?_
      refine ⟨.slice none 0 0, ?_, ?_, hb⟩
      · rw [hd]; rfl
      · rw [hd]; exact World.ownsRow_nil _ _ _ _
  | ok body =>
    have HU2 := Lib.hid hu
    have HBS0 : Hid (body.length ≤ s.size) := Lib.hid (unseal_len hu)
    clear hu
    go_upto_region 6 with fail
    obtain ⟨S, hS⟩ : ∃ S, w1.heap.size = S := ⟨_, rfl⟩
    have hS1 : w.heap.size < w1.heap.size := HK1.out.lt
    obtain ⟨B, hB⟩ : ∃ B : ByteArray, (⟨body.toArray⟩ : ByteArray) = B := ⟨_, rfl⟩
    obtain ⟨W2, hW2⟩ : ∃ X, ((w1.alloc (.cells #[.string ⟨body.toArray⟩] 9)).alloc (.cells #[.int .i64 0] 26)).alloc (.cells #[.int .i64 0] 3) = X := ⟨_, rfl⟩
    have HT2 : Hid (TakeAt (S + 1) S (S + 2) B (0, 0) W2) := Lib.hid (by
      rw [← hW2, ← hS, ← hB]
      exact ⟨(Blk.newAt (by simp)).alloc _, ((Blk.new _ _ _).alloc _).alloc _, Blk.newAt (by simp)⟩)
    have HZ2 : Hid (W2.heap.size = S + 3) := Lib.hid (by rw [← hW2, ← hS]; simp)
    have HB2 : Hid (Below w1.heap.size w1 W2) := Lib.hid (by rw [← hW2]; exact (((Below.refl _ _).alloc (Nat.le_refl _) _).alloc (by simp) _).alloc (by simp; omega) _)
    rw [hW2, hS]
    have HS := Lib.hid hS
    have HS1 := Lib.hid hS1
    have HB := Lib.hid hB
    have HB30 : Hid (B.size ≤ 1073741824) := Lib.hid (by rw [← hB]; show body.toArray.size ≤ _; rw [List.size_toArray]; have := HBS0.out; omega)
    have HBS : Hid (B.size ≤ 140737488351232) := Lib.hid (by rw [← hB]; show body.toArray.size ≤ _; rw [List.size_toArray]; have := HBS0.out; omega)
    clear hW2 hS hS1 hB
    go_wp2_with fail
    obtain ⟨W3, hW3⟩ : ∃ X, W2.alloc (.cells #[.int .i64 0, .int .i64 0, .int .i64 0, .int .i64 0, .int .i64 0, .slice none 0 0, .int .i64 0, .int .i64 0, .int .i64 0, .int .i64 0, .int .i64 0, .int .i64 0, .int .i64 0] 25) = X := ⟨_, rfl⟩
    have HA3 : Hid (Below W2.heap.size W2 W3 ∧ Blk W3 (S + 3) 25 (manV (tenMan []) (.slice none 0 0)) ∧ W3.heap.size = S + 4) := Lib.hid (by
      rw [← hW3]
      exact ⟨(Below.refl _ _).alloc (Nat.le_refl _) _, Blk.newAt HZ2.out.symm, by simp [HZ2.out]⟩)
    rw [HZ2.out, hW3]
    clear hW3
    refine (numbers_calls (S + 3) W3).mono ?_
    rintro e w3 ⟨g0, c0, g1, c1, g2, c2, rfl, o0, o1, o2, hb3⟩
    have HD3 : Hid (DecAt w S g0 c0 B (0, 0) (tenMan []) (.slice none 0 0) w3) := Lib.hid (by
      have z2 := HZ2.out
      have z3 := HA3.out.2.2
      have s1 := HS1.out
      have s0 := HS.out
      have b2 : Below w.heap.size w W2 := HB1.out.trans (HB2.out.mono (by omega))
      have b3 : Below w.heap.size w W3 := b2.trans (HA3.out.1.mono (by omega))
      have c3 : Below W2.heap.size W2 w3 := HA3.out.1.trans (hb3.mono (by omega))
      refine ⟨b3.trans (hb3.mono (by omega)), ⟨HT2.out.e.below c3 HT2.out.e.lt, HT2.out.b.below c3 HT2.out.b.lt, HT2.out.a.below c3 HT2.out.a.lt⟩, HA3.out.2.1.below hb3 (by omega), ?_, o0.mono (by omega), by omega⟩
      exact ((HK1.out.below HB2.out s1).below c3 (by omega)))
    clear o0 o1 o2 hb3
    go_upto_block 0 with fail
    go_cut [] (fun wz => DecAt w S g0 c0 B (takesI B.data.toList 10 (0, 0)).2 (tenMan (takesI B.data.toList 10 (0, 0)).1) (.slice none 0 0) wz)
    case first =>
      go_wp2_with fail
      go_loopg [34] 10 (fun g s34 wr => ∃ i : Nat, i + g = 10 ∧ s34 = .int .i64 (i : Int) ∧ DecAt w S g0 c0 B (takesI B.data.toList i (0, 0)).2 (tenMan (takesI B.data.toList i (0, 0)).1) (.slice none 0 0) wr)
      case atStart => exact ⟨0, rfl, rfl, HD3.out⟩
      case round =>
        obtain ⟨i, hig, rfl, he⟩ := hrel
        have HIG := Lib.hid hig
        have HE2 := Lib.hid he
        clear hig he
        by_cases hi : i < 10
        · have el : decide ((i : Int) < 10) = true := by simp; omega
          have e0 : (i : Int) < 10 := by omega
          have e1 : (0 : Int) ≤ (i : Int) := by omega
          have m0 : wr.cell? ⟨g0, i, none⟩ = some (.pointer (some ⟨S + 3, tenK i, none⟩)) := by rw [World.ownsRow.cellAt HE2.out.o0 i (by omega)]; exact (ten_facts .zero (.slice none 0 0) (S + 3) i hi).1
          have hlen := takesI_len B.data.toList i (0, 0)
          have HSN := Lib.hid (takesI_snoc B.data.toList i (0, 0))
          obtain ⟨t, ht⟩ : ∃ t, (takesI B.data.toList i (0, 0)).1 = t := ⟨_, rfl⟩
          obtain ⟨st, hst⟩ : ∃ t, (takesI B.data.toList i (0, 0)).2 = t := ⟨_, rfl⟩
          rw [ht] at HE2 hlen HSN
          rw [hst] at HE2 HSN
          have HLN := Lib.hid hlen
          clear hlen ht hst
          go_wp2_with fail
          have hE2 := HE2.out
          refine (take_calls (S + 1) S (S + 2) B st wr hE2.tk (by omega) (by omega) (by omega) HBS.out).mono ?_
          rintro e w4 ⟨rfl, ht4, hk4⟩
          have HE4 := Lib.hid (hE2.take ht4 hk4)
          clear hE2 ht4 hk4
          have c4 : ∃ u, w4.cell? ⟨S + 3, tenK i, none⟩ = some u := ⟨_, (HE4.out.box.cell (tenK i)).trans (Array.getElem?_eq_getElem (by show tenK i < 13; exact tenK_lt i))⟩
          obtain ⟨u4, c4⟩ := c4
          have z4 : w4.frozen? ⟨S + 3, tenK i, none⟩ = false := HE4.out.box.frozen (tenK i)
          have HE5 := Lib.hid (HE4.out.set (tenK i) (.int .i64 (takeI B.data.toList st).1) (by rw [← HLN.out]; exact tenMan_set t _ _ (by rw [HLN.out]; exact hi)))
          go_wp2_with fail
          go_roundg (gk - 1)
          case measure => have := HIG.out; omega
          case rel => exact ⟨i + 1, by have := HIG.out; omega, by go_num, by rw [HSN.out]; exact HE5.out⟩
        · have el : decide ((i : Int) < 10) = false := by simp; omega
          have hi3 : i = 10 := by have := HIG.out; omega
          subst hi3
          go_wp2_with fail
          go_meet
          exact HE2.out
    case rest =>
      obtain ⟨w5, rfl⟩ : ∃ x, x = wc := ⟨_, rfl⟩
      have HE5 := Lib.hid hcut
      clear hcut
      obtain ⟨t, ht⟩ : ∃ t, (takesI B.data.toList 10 (0, 0)).1 = t := ⟨_, rfl⟩
      obtain ⟨s0, hs0⟩ : ∃ t, (takesI B.data.toList 10 (0, 0)).2 = t := ⟨_, rfl⟩
      rw [ht, hs0] at HE5
      have HTT := Lib.hid (⟨ht, hs0⟩ : _ ∧ _)
      clear ht hs0
      go_wp2_with fail
      refine (take_calls (S + 1) S (S + 2) B s0 w5 HE5.out.tk (by omega) (by omega) (by omega) HBS.out).mono ?_
      rintro e w6 ⟨rfl, ht6, hk6⟩
      have HE6 := Lib.hid (HE5.out.take ht6 hk6)
      clear ht6 hk6
      obtain ⟨x1, hx1⟩ : ∃ x, takeI B.data.toList s0 = x := ⟨_, rfl⟩
      rw [hx1] at HE6
      rw [hx1]
      have HX1 := Lib.hid hx1
      clear hx1
      go_wp2_with fail
      refine (take_calls (S + 1) S (S + 2) B x1.2 w6 HE6.out.tk (by omega) (by omega) (by omega) HBS.out).mono ?_
      rintro e w7 ⟨rfl, ht7, hk7⟩
      have HE7 := Lib.hid (HE6.out.take ht7 hk7)
      clear ht7 hk7
      obtain ⟨x2, hx2⟩ : ∃ x, takeI B.data.toList x1.2 = x := ⟨_, rfl⟩
      rw [hx2] at HE7
      rw [hx2]
      have HX2 := Lib.hid hx2
      clear hx2
      have c3 : ∃ u, w7.cell? ⟨S + 3, 3, none⟩ = some u := ⟨_, HE7.out.box.cell 3⟩
      have c4 : ∃ u, w7.cell? ⟨S + 3, 4, none⟩ = some u := ⟨_, HE7.out.box.cell 4⟩
      obtain ⟨u3, c3⟩ := c3
      obtain ⟨u4, c4⟩ := c4
      have z3 : w7.frozen? ⟨S + 3, 3, none⟩ = false := HE7.out.box.frozen 3
      have z4 : w7.frozen? ⟨S + 3, 4, none⟩ = false := HE7.out.box.frozen 4
      have HE8 := Lib.hid ((HE7.out.set (m' := {tenMan t with next := x1.1}) (v' := .slice none 0 0) 3 (.int .i64 x1.1) rfl).set (m' := {tenMan t with next := x1.1, log := x2.1}) (v' := .slice none 0 0) 4 (.int .i64 x2.1) rfl)
      go_upto_region 14 with fail
      obtain ⟨w8, hw8⟩ : ∃ x, (w7.setCell ⟨S + 3, 3, none⟩ (.int .i64 x1.1)).setCell ⟨S + 3, 4, none⟩ (.int .i64 x2.1) = x := ⟨_, rfl⟩
      rw [hw8] at HE8 ⊢
      clear hw8 c3 c4 z3 z4
      go_wp2_with fail
      refine (take_calls (S + 1) S (S + 2) B x2.2 w8 HE8.out.tk (by omega) (by omega) (by omega) HBS.out).mono ?_
      rintro e w9 ⟨rfl, ht9, hk9⟩
      have HE9 := Lib.hid (HE8.out.take ht9 hk9)
      clear ht9 hk9
      obtain ⟨x3, hx3⟩ : ∃ x, takeI B.data.toList x2.2 = x := ⟨_, rfl⟩
      rw [hx3] at HE9
      rw [hx3]
      have HX3 := Lib.hid hx3
      clear hx3
      obtain ⟨M0, hM0⟩ : ∃ m, ({ tenMan t with next := x1.1, log := x2.1 } : Man) = m := ⟨_, rfl⟩
      rw [hM0] at HE9
      have HM0 := Lib.hid hM0
      have HD9 : Hid (Dec2 w S B x3.2 { M0 with blocks := [] } (.slice none 0 0) w9) := Lib.hid (by
        have hb : M0.blocks = [] := by rw [← hM0]; unfold tenMan manOf; split <;> rfl
        have e : ({ M0 with blocks := [] } : Man) = M0 := by rw [← hb]
        rw [e]
        exact HE9.out.two hb)
      obtain ⟨n0, hn0⟩ : ∃ n, x3.1 = n := ⟨_, rfl⟩
      have HN0 : Hid (x3.1 = n0 ∧ -9223372036854775808 ≤ n0 ∧ n0 ≤ 9223372036854775807) := Lib.hid ⟨hn0, by rw [← hn0, ← HX3.out]; exact takeI_i64 _ _⟩
      rw [hn0]
      clear hM0 hn0
      have HTK : Hid (∀ (s : Nat × Nat) (wr : World) (m : Man) (v : Value), Dec2 w S B s m v wr → Calls Tryz.prog 57 #[.pointer (some ⟨S + 1, 0, none⟩), .pointer (some ⟨S, 0, none⟩), .pointer (some ⟨S + 2, 0, none⟩)] wr fun e w' => ∃ u, e = .returned u ∧ u = .int .i64 (takeI B.data.toList s).1 ∧ Dec2 w S B (takeI B.data.toList s).2 m v w') := Lib.hid (fun s wr m v hd =>
        (take_calls (S + 1) S (S + 2) B s wr hd.tk (by omega) (by omega) (by omega) HBS.out).mono fun e w' ⟨h1, h2, h3⟩ => ⟨_, h1, rfl, hd.take h2 h3⟩)
      go_upto_block 2 with fail
      go_cut [] (fun wz => ∃ bl v, Dec2 w S B (blocksI B.data.toList n0.toNat x3.2).2 { M0 with blocks := bl } v wz ∧ (blocksI B.data.toList n0.toNat x3.2).1 = bl ∧ bl.length ≤ B.size + 1 ∧ ∀ x ∈ bl, ∀ v ∈ x.nums, i64 v)
      case first =>
        go_wp2_with fail
        go_loopg [14] n0.toNat (fun g s14 wr => ∃ n s bl v, s14 = .int .i64 n ∧ LoopI w S B M0 n0.toNat x3.2 g n s bl v wr)
        case atStart =>
          refine ⟨n0, x3.2, [], .slice none 0 0, rfl, ⟨rfl, HN0.out.2.1, HN0.out.2.2, HD9.out, rfl, fun h => ⟨Nat.zero_le _, ?_⟩, Nat.zero_le _, fun x hx => by cases hx⟩⟩
          have hx := HX3.out
          rw [← hx] at h ⊢
          have := (takeI_pos h).2.2
          exact this
        case round =>
          obtain ⟨n, s, bl, v, rfl, hl⟩ := hrel
          have me : wr.cell? ⟨S + 1, 0, none⟩ = some (.int .i64 (s.2 : Int)) := hl.at_.tk.e.cell 0
          have HL := Lib.hid hl
          have hn2 := hl.n2
          clear hl
          by_cases hn : 0 < n
          · by_cases hz : s.2 = 0
            · have d1 : decide (0 < n) = true := decide_eq_true hn
              have HZ := Lib.hid hz
              rw [hz] at me
              have me : wr.cell? ⟨S + 1, 0, none⟩ = some (.int .i64 0) := me
              clear hz
              go_upto_region 17 with fail
              clear me
              have hd := HL.out.at_.drew
              have hc5 : wr.drew.cell? ⟨S + 3, 5, none⟩ = some v := hd.box.cell 5
              refine wp_region_K (fun w' => w'.cell? ⟨S + 3, 5, none⟩ = some v) 14 17 (by kernel_rfl) rfl ?_
              rw [show Array.replicate 17 false = #[false, false, false, false, false, false, false, false, false, false, false, false, false, false, false, false, false] from rfl]
              refine wpAnyK_pure (i := 0) (d := some 59) rfl rfl (by kernel_rfl) (by kernel_rfl) (by kernel_rfl) rfl (fun _ _ _ h => h) (by rfl) (fun w => by go_simp; rfl) (fun _ => hc5) ?_
              simp only [Act.put, List.setIfInBounds_toArray, List.set_cons_zero, List.set_cons_succ]
              refine wpAnyK_take (i := 1) (v := v) (d := some 60) rfl rfl (by kernel_rfl) (by kernel_rfl) (by kernel_rfl) (by kernel_rfl) rfl (fun _ _ _ h => h) (.inl ⟨by rfl, fun w hw => by go_simp; try rfl⟩) hc5 ?_
              simp only [Act.put, List.setIfInBounds_toArray, List.set_cons_zero, List.set_cons_succ]
              refine wpAnyK_pure (i := 2) (d := some 61) rfl rfl (by kernel_rfl) (by kernel_rfl) (by kernel_rfl) rfl (fun _ _ _ h => h) (by rfl) (fun w => by go_simp; rfl) (fun _ => hc5) ?_
              simp only [Act.put, List.setIfInBounds_toArray, List.set_cons_zero, List.set_cons_succ]
              refine wpAnyK_pure (i := 4) (d := some 63) rfl rfl (by kernel_rfl) (by kernel_rfl) (by kernel_rfl) rfl (fun _ _ _ h => h) (by rfl) (fun w => by go_simp; rfl) (fun _ => hc5) ?_
              simp only [Act.put, List.setIfInBounds_toArray, List.set_cons_zero, List.set_cons_succ]
              refine wpAnyK_pure (i := 6) (d := some 65) rfl rfl (by kernel_rfl) (by kernel_rfl) (by kernel_rfl) rfl (fun _ _ _ h => h) (by rfl) (fun w => by go_simp; rfl) (fun _ => hc5) ?_
              simp only [Act.put, List.setIfInBounds_toArray, List.set_cons_zero, List.set_cons_succ]
              refine wpAnyK_pure (i := 8) (d := some 67) rfl rfl (by kernel_rfl) (by kernel_rfl) (by kernel_rfl) rfl (fun _ _ _ h => h) (by rfl) (fun w => by go_simp; rfl) (fun _ => hc5) ?_
              simp only [Act.put, List.setIfInBounds_toArray, List.set_cons_zero, List.set_cons_succ]
              refine wpAnyK_pure (i := 10) (d := some 69) rfl rfl (by kernel_rfl) (by kernel_rfl) (by kernel_rfl) rfl (fun _ _ _ h => h) (by rfl) (fun w => by go_simp; rfl) (fun _ => hc5) ?_
              simp only [Act.put, List.setIfInBounds_toArray, List.set_cons_zero, List.set_cons_succ]
              obtain ⟨t1, ht1⟩ : ∃ x, takeI B.data.toList s = x := ⟨_, rfl⟩
              obtain ⟨t2, ht2⟩ : ∃ x, takeI B.data.toList t1.2 = x := ⟨_, rfl⟩
              obtain ⟨t3, ht3⟩ : ∃ x, takeI B.data.toList t2.2 = x := ⟨_, rfl⟩
              obtain ⟨t4, ht4⟩ : ∃ x, takeI B.data.toList t3.2 = x := ⟨_, rfl⟩
              obtain ⟨t5, ht5⟩ : ∃ x, takeI B.data.toList t4.2 = x := ⟨_, rfl⟩
              have H5 : Hid (takesI B.data.toList 5 s = ([t1.1, t2.1, t3.1, t4.1, t5.1], t5.2)) := Lib.hid (by subst ht1 ht2 ht3 ht4 ht5; rfl)
              refine wpAnyK_only (i := 3) (by kernel_rfl) rfl rfl ?_
              refine Oper.wp_called (d := some 62) (g := 57) (args := #[.pointer (some ⟨S + 1, 0, none⟩), .pointer (some ⟨S, 0, none⟩), .pointer (some ⟨S + 2, 0, none⟩)]) rfl (by go_simp; try rfl) (HTK.out _ _ _ _ hd) ?_
              rintro u wn ⟨rfl, hd⟩
              rw [ht1] at hd ⊢
              have hc5 := hd.box.cell 5
              refine ⟨fun _ => hc5, ?_⟩
              simp only [Act.put, List.setIfInBounds_toArray, List.set_cons_zero, List.set_cons_succ]
              refine wpAnyK_only (i := 5) (by kernel_rfl) rfl rfl ?_
              refine Oper.wp_called (d := some 64) (g := 57) (args := #[.pointer (some ⟨S + 1, 0, none⟩), .pointer (some ⟨S, 0, none⟩), .pointer (some ⟨S + 2, 0, none⟩)]) rfl (by go_simp; try rfl) (HTK.out _ _ _ _ hd) ?_
              rintro u wn ⟨rfl, hd⟩
              rw [ht2] at hd ⊢
              have hc5 := hd.box.cell 5
              refine ⟨fun _ => hc5, ?_⟩
              simp only [Act.put, List.setIfInBounds_toArray, List.set_cons_zero, List.set_cons_succ]
              refine wpAnyK_only (i := 7) (by kernel_rfl) rfl rfl ?_
              refine Oper.wp_called (d := some 66) (g := 57) (args := #[.pointer (some ⟨S + 1, 0, none⟩), .pointer (some ⟨S, 0, none⟩), .pointer (some ⟨S + 2, 0, none⟩)]) rfl (by go_simp; try rfl) (HTK.out _ _ _ _ hd) ?_
              rintro u wn ⟨rfl, hd⟩
              rw [ht3] at hd ⊢
              have hc5 := hd.box.cell 5
              refine ⟨fun _ => hc5, ?_⟩
              simp only [Act.put, List.setIfInBounds_toArray, List.set_cons_zero, List.set_cons_succ]
              refine wpAnyK_only (i := 9) (by kernel_rfl) rfl rfl ?_
              refine Oper.wp_called (d := some 68) (g := 57) (args := #[.pointer (some ⟨S + 1, 0, none⟩), .pointer (some ⟨S, 0, none⟩), .pointer (some ⟨S + 2, 0, none⟩)]) rfl (by go_simp; try rfl) (HTK.out _ _ _ _ hd) ?_
              rintro u wn ⟨rfl, hd⟩
              rw [ht4] at hd ⊢
              have hc5 := hd.box.cell 5
              refine ⟨fun _ => hc5, ?_⟩
              simp only [Act.put, List.setIfInBounds_toArray, List.set_cons_zero, List.set_cons_succ]
              refine wpAnyK_only (i := 11) (by kernel_rfl) rfl rfl ?_
              refine Oper.wp_called (d := some 70) (g := 57) (args := #[.pointer (some ⟨S + 1, 0, none⟩), .pointer (some ⟨S, 0, none⟩), .pointer (some ⟨S + 2, 0, none⟩)]) rfl (by go_simp; try rfl) (HTK.out _ _ _ _ hd) ?_
              rintro u wn ⟨rfl, hd⟩
              rw [ht5] at hd ⊢
              have hc5 := hd.box.cell 5
              refine ⟨fun _ => hc5, ?_⟩
              simp only [Act.put, List.setIfInBounds_toArray, List.set_cons_zero, List.set_cons_succ]
              clear ht1 ht2 ht3 ht4 ht5
              refine wpAnyK_only (i := 12) (by kernel_rfl) rfl rfl ?_
              refine Oper.wp_ran (d := some 71) (w' := wn) (v := .agg #[.int .i64 t1.1, .int .i64 t2.1, .int .i64 t3.1, .int .i64 t4.1, .int .i64 t5.1]) rfl (by go_simp; try rfl) ⟨fun _ => hc5, ?_⟩
              simp only [Act.put, List.setIfInBounds_toArray, List.set_cons_zero, List.set_cons_succ]
              obtain ⟨w6, hw6⟩ : ∃ x, wn.alloc (.cells #[.int .i64 t1.1, .int .i64 t2.1, .int .i64 t3.1, .int .i64 t4.1, .int .i64 t5.1] 116) = x := ⟨_, rfl⟩
              have hb6 : Below wn.heap.size wn w6 := by rw [← hw6]; exact (Below.refl _ _).alloc (Nat.le_refl _) _
              have hd6 := hd.keep hb6
              have hq6 : Blk w6 wn.heap.size 116 #[.int .i64 t1.1, .int .i64 t2.1, .int .i64 t3.1, .int .i64 t4.1, .int .i64 t5.1] := by rw [← hw6]; exact Blk.new _ _ _
              have hc6 := hd6.box.cell 5
              refine wpAnyK_only (i := 13) (by kernel_rfl) rfl rfl ?_
              refine Oper.wp_ran (d := some 72) (w' := w6) (v := .slice (some ⟨wn.heap.size, 0, none⟩) 1 1) rfl (by rw [← hw6]; go_simp; try rfl) ⟨fun _ => hc6, ?_⟩
              simp only [Act.put, List.setIfInBounds_toArray, List.set_cons_zero, List.set_cons_succ]
              obtain ⟨ii, hii, hi0, hi1, hi2⟩ := info_parts info_inf
              refine wpAnyK_after (i := 14) (by kernel_rfl) rfl rfl (by kernel_rfl) ?_
              have hbz : bl.length ≤ B.size + 1 := HL.out.cnt2
              have hB30 : B.size ≤ 1073741824 := HB30.out
              have hs6 : S + 4 ≤ w6.heap.size := hd6.box.lt
              refine OpW.of (wp_append_lies w6 _ _ _ rfl (S + 4) 116 ii (.agg #[.int .i64 0, .int .i64 0, .int .i64 0, .int .i64 0, .int .i64 0]) 5 40 Tryz.underlying23 hii hi0 hi1 hi2 rfl (by omega) v bl.length (bl.flatMap encInf) rfl hd6.own ⟨wn.heap.size, 0, none⟩ 1 1 [.int .i64 t1.1, .int .i64 t2.1, .int .i64 t3.1, .int .i64 t4.1, .int .i64 t5.1] rfl rfl (news_of_blk (l := [.int .i64 t1.1, .int .i64 t2.1, .int .i64 t3.1, .int .i64 t4.1, .int .i64 t5.1]) hq6) (fun u hu => by simp at hu; rcases hu with rfl | rfl | rfl | rfl | rfl <;> rfl) (by omega) (by simp only [maxLen]; omega) (by omega) hs6 w6.heap.size rfl ?_)
              intro g cap w7 hown hgrow hat hlt
              change wpAnyK _ _ _ _ _ _ _ _ (Act.put _ (some 73) _) _
              simp only [Act.put, List.setIfInBounds_toArray, List.set_cons_zero, List.set_cons_succ]
              have hne : some (S + 3) ≠ v.ownBlock := fun e => by
                have := World.ownsRow.lt hd6.own (S + 3) e.symm
                omega
              have hbox := hd6.box.grown hgrow hne
              have c7 : w7.cell? ⟨S + 3, 5, none⟩ = some v := hbox.cell 5
              have z7 : w7.frozen? ⟨S + 3, 5, none⟩ = false := hbox.frozen 5
              have hx5 : info5 B.data.toList s = ⟨t1.1, t2.1, t3.1, t4.1, t5.1⟩ := by unfold info5; rw [H5.out]; rfl
              have hd8 : Dec2 w S B t5.2 { M0 with blocks := bl ++ [info5 B.data.toList s] } (.slice (some ⟨g, 0, none⟩) (bl.length + 1) cap) (w7.setCell ⟨S + 3, 5, none⟩ (.slice (some ⟨g, 0, none⟩) (bl.length + 1) cap)) := by
                refine hd6.more hgrow ?_ rfl
                rw [hx5]
                have e1 : (bl ++ [(⟨t1.1, t2.1, t3.1, t4.1, t5.1⟩ : Inf)]).flatMap encInf = bl.flatMap encInf ++ [.int .i64 t1.1, .int .i64 t2.1, .int .i64 t3.1, .int .i64 t4.1, .int .i64 t5.1] := by rw [List.flatMap_append]; rfl
                have e2 : (bl ++ [(⟨t1.1, t2.1, t3.1, t4.1, t5.1⟩ : Inf)]).length = bl.length + 1 := by simp
                show w7.ownsRow _ _ _ _ (bl ++ [(⟨t1.1, t2.1, t3.1, t4.1, t5.1⟩ : Inf)]).length ((bl ++ [(⟨t1.1, t2.1, t3.1, t4.1, t5.1⟩ : Inf)]).flatMap encInf)
                rw [e1, e2]
                exact hown
              have HD8 := Lib.hid hd8
              clear hd8 hd hd6 hown hgrow hat hlt hbox hne hq6 hb6 hw6 hc6 hc5
              refine wpAnyK_after (i := 15) (by kernel_rfl) rfl rfl (by kernel_rfl) ?_
              refine Oper.wp_ran (d := some 74) (w' := w7) (v := .pointer (some ⟨S + 3, 5, none⟩)) rfl (by go_simp; try rfl) ?_
              simp only [Act.put, List.setIfInBounds_toArray, List.set_cons_zero, List.set_cons_succ]
              refine wpAnyK_after (i := 16) (by kernel_rfl) rfl rfl (by kernel_rfl) ?_
              refine Oper.wp_skipped (w' := w7.setCell ⟨S + 3, 5, none⟩ (.slice (some ⟨g, 0, none⟩) (bl.length + 1) cap)) rfl (by go_simp; try rfl) ?_
              simp only [Act.put, List.setIfInBounds_toArray, List.set_cons_zero, List.set_cons_succ]
              refine wpAnyK_done (by kernel_rfl) ?_ _
              clear c7 z7
              have hn1 := HL.out.n1
              go_wp2_with fail
              have HGK := Lib.hid (⟨HL.out.hn, hn⟩ : n.toNat = gk ∧ 0 < n)
              go_roundg (gk - 1)
              case measure => have := HGK.out; omega
              case rel =>
                have hgk := HGK.out
                have hcn := HL.out.cnt HZ.out
                refine ⟨n - 1, t5.2, bl ++ [info5 B.data.toList s], _, by go_num, ⟨by omega, by omega, by omega, HD8.out, ?_, fun h => ?_, ?_, ?_⟩⟩
                · rw [HL.out.left]
                  obtain ⟨g1, rfl⟩ : ∃ g1, gk = g1 + 1 := ⟨gk - 1, by omega⟩
                  rw [blocksI_on HZ.out, H5.out]
                  simp
                · have h5 := takes5_pos (body := B.data.toList) (s := s) (by rw [H5.out]; exact h)
                  rw [H5.out] at h5
                  simp only at h5
                  have hbl : B.data.toList.length = B.size := by simp
                  rw [List.length_append, List.length_singleton]
                  omega
                · rw [List.length_append, List.length_singleton]
                  omega
                · intro x hx v hv
                  rcases List.mem_append.1 hx with hx | hx
                  · exact HL.out.ok x hx v hv
                  · rw [List.mem_singleton.1 hx] at hv
                    exact info5_i64 _ _ v hv
            · have d1 : decide (0 < n) = true := decide_eq_true hn
              have HZ := Lib.hid hz
              obtain ⟨k, hk⟩ : ∃ k, s.2 = k + 1 := ⟨s.2 - 1, by omega⟩
              rw [hk] at me
              have d2 : decide (((k + 1 : Nat) : Int) = 0) = false := by simp; omega
              clear hz hk
              go_wp2_with fail
              go_meet
              have hl := HL.out.left
              rw [blocksI_off HZ.out] at hl
              simp only [List.append_nil] at hl
              exact ⟨bl, v, by rw [hl]; exact HL.out.at_, by rw [hl], HL.out.cnt2, HL.out.ok⟩
          · have d1 : decide (0 < n) = false := decide_eq_false hn
            go_wp2_with fail
            go_meet
            have hl := HL.out.left
            have hg : gk = 0 := by rw [← HL.out.hn]; omega
            rw [hg, blocksI_zero] at hl
            simp only [List.append_nil] at hl
            exact ⟨bl, v, by rw [hl]; exact HL.out.at_, by rw [hl], HL.out.cnt2, HL.out.ok⟩
      case rest =>
        obtain ⟨bl, v, hd, hbl, hlen, hok⟩ := hcut
        obtain ⟨w10, rfl⟩ : ∃ x, x = wc := ⟨_, rfl⟩
        obtain ⟨s9, hs9⟩ : ∃ x, (blocksI B.data.toList n0.toNat x3.2).2 = x := ⟨_, rfl⟩
        rw [hs9] at hd
        obtain ⟨m, hm⟩ : ∃ m, ({ M0 with blocks := bl } : Man) = m := ⟨_, rfl⟩
        have hread : readM B.data.toList = (m, s9) := by
          rw [readM_steps (t := t) (s0 := s0) (Prod.ext HTT.out.1 HTT.out.2) HX1.out HX2.out HX3.out, HN0.out.1, hbl, hs9, ← hm, ← HM0.out]
        have hsm : m.small := by
          rw [← hm, ← HM0.out]
          refine small_of (t := t) (by rw [← HTT.out.1]; exact takesI_len _ _ _) (by rw [← HTT.out.1]; exact takesI_i64 _ _ _) (by rw [← HX1.out]; exact takeI_i64 _ _) (by rw [← HX2.out]; exact takeI_i64 _ _) hok (by have := HB30.out; omega)
        have hmb : m.blocks = bl := by rw [← hm]
        rw [hm] at hd
        obtain ⟨A, c, rfl, hinf, _, _⟩ := Infs.of_own (l := m.blocks) hd.own rfl
        have hb10 : B.data.toList = body := by rw [← HB.out]
        have hdec : decM s.data.toList = if s9.2 = 0 ∧ m.fit = true ∧ encM m = s.data.toList then (m, 0) else (.zero, 150) := by
          unfold decM
          rw [HU2.out]
          show (if (readM body).2.2 = 0 ∧ (readM body).1.fit = true ∧ encM (readM body).1 = s.data.toList then ((readM body).1, 0) else (.zero, 150)) = _
          rw [← hb10, hread]
        have HDEC := Lib.hid hdec
        have HENC := Lib.hid (encode_calls m A c w10 hinf (by rw [hmb]; have := HB30.out; omega) hsm (HT.out.below HT.out.lt hd.below))
        have HD10 := Lib.hid hd
        obtain ⟨nb, hnb⟩ : ∃ n, m.blocks.length = n := ⟨_, rfl⟩
        have HNB := Lib.hid hnb
        have hkb := hd.box
        rw [hnb] at hkb HENC
        have HKB := Lib.hid hkb
        obtain ⟨T, hT⟩ : ∃ T : ByteArray, (⟨(if m.fit = true then encM m else []).toArray⟩ : ByteArray) = T := ⟨_, rfl⟩
        obtain ⟨f, hf⟩ : ∃ f : Int, (if m.fit = true then 0 else 150 : Int) = f := ⟨_, rfl⟩
        have HTF : Hid ((m.fit = true → f = 0 ∧ T.data.toList = encM m) ∧ (m.fit = false → f = 150)) := Lib.hid (by
          rw [← hT, ← hf]
          exact ⟨fun h => by rw [h]; exact ⟨rfl, rfl⟩, fun h => by rw [h]; rfl⟩)
        unfold EncOut at HENC
        rw [hT, hf] at HENC
        clear hT hf
        have me : w10.cell? ⟨S + 1, 0, none⟩ = some (.int .i64 (s9.2 : Int)) := hd.tk.e.cell 0
        clear hd hbl hlen hok hs9 hm hread hsm hinf hb10 hdec hnb hkb hmb
        have x0 : w10.cell? ⟨S + 3, 0, none⟩ = some (.int .i64 m.w0) := HKB.out.cell 0
        have x1 : w10.cell? ⟨S + 3, 1, none⟩ = some (.int .i64 m.w1) := HKB.out.cell 1
        have x2 : w10.cell? ⟨S + 3, 2, none⟩ = some (.int .i64 m.w2) := HKB.out.cell 2
        have x3 : w10.cell? ⟨S + 3, 3, none⟩ = some (.int .i64 m.next) := HKB.out.cell 3
        have x4 : w10.cell? ⟨S + 3, 4, none⟩ = some (.int .i64 m.log) := HKB.out.cell 4
        have x5 : w10.cell? ⟨S + 3, 5, none⟩ = some ((.slice A nb c)) := HKB.out.cell 5
        have x6 : w10.cell? ⟨S + 3, 6, none⟩ = some (.int .i64 m.cut) := HKB.out.cell 6
        have x7 : w10.cell? ⟨S + 3, 7, none⟩ = some (.int .i64 m.r0) := HKB.out.cell 7
        have x8 : w10.cell? ⟨S + 3, 8, none⟩ = some (.int .i64 m.r1) := HKB.out.cell 8
        have x9 : w10.cell? ⟨S + 3, 9, none⟩ = some (.int .i64 m.r2) := HKB.out.cell 9
        have x10 : w10.cell? ⟨S + 3, 10, none⟩ = some (.int .i64 m.l0) := HKB.out.cell 10
        have x11 : w10.cell? ⟨S + 3, 11, none⟩ = some (.int .i64 m.l1) := HKB.out.cell 11
        have x12 : w10.cell? ⟨S + 3, 12, none⟩ = some (.int .i64 m.l2) := HKB.out.cell 12
        go_upto_region 19 with (go_at_call 10; refine HENC.out.mono ?_; rintro e w11 ⟨rfl, hb11⟩)
        clear x0 x1 x2 x3 x4 x5 x6 x7 x8 x9 x10 x11 x12
        have HB11 := Lib.hid hb11
        have me : w11.cell? ⟨S + 1, 0, none⟩ = some (.int .i64 (s9.2 : Int)) := (HD10.out.tk.e.below hb11 HD10.out.tk.e.lt).cell 0
        clear hb11
        go_cut [15, 16, 90] (fun s15 s16 s90 wz => wz = w11 ∧ s90 = .bool (!decide (s9.2 = 0 ∧ m.fit = true ∧ encM m = s.data.toList)))
        case first =>
          by_cases h9 : s9.2 = 0
          · have me : w11.cell? ⟨S + 1, 0, none⟩ = some (.int .i64 0) := by rw [h9] at me; exact me
            have H9 := Lib.hid h9
            clear h9
            cases hf : m.fit with
            | false =>
              obtain rfl := HTF.out.2 hf
              have HFT := Lib.hid hf
              clear hf
              go_wp2_with fail
              go_meet
              exact ⟨rfl, vb (by simp [HFT.out])⟩
            | true =>
              obtain ⟨rfl, hT⟩ := HTF.out.1 hf
              have HFT := Lib.hid hf
              clear hf
              by_cases hTs : T = s
              · subst hTs
                have HT2 := Lib.hid hT
                clear hT
                go_wp2_with fail
                go_meet
                exact ⟨rfl, vb (by rw [← HT2.out, HFT.out]; simp [H9.out])⟩
              · obtain ⟨f1, f2, f3, f4⟩ := ne_facts hTs
                have HT2 : Hid (¬ encM m = s.data.toList) := Lib.hid (fun e => hTs (by
                  rw [← hT] at e
                  exact bytes_eq e))
                clear hT hTs
                go_wp2_with fail
                go_meet
                exact ⟨rfl, vb (by simp [HT2.out])⟩
          · obtain ⟨k, hk⟩ : ∃ k, s9.2 = k + 1 := ⟨s9.2 - 1, by omega⟩
            rw [hk] at me
            have d2 : decide (((k + 1 : Nat) : Int) = 0) = false := by simp; omega
            have HK9 := Lib.hid hk
            clear h9 hk
            go_wp2_with fail
            go_meet
            exact ⟨rfl, vb (by rw [HK9.out]; simp)⟩
        case rest =>
          obtain ⟨rfl, rfl⟩ := hcut
          obtain ⟨w11, rfl⟩ : ∃ x, x = wc := ⟨_, rfl⟩
          clear me
          have HKR : Hid (Blk w11 w.heap.size 25 (manV .zero (.slice none 0 0))) := Lib.hid (HD10.out.res.below HB11.out HD10.out.res.lt)
          have HKX : Hid (Blk w11 (S + 3) 25 (manV m (.slice A nb c))) := Lib.hid (HKB.out.below HB11.out HKB.out.lt)
          have HBW : Hid (Below w.heap.size w w11) := Lib.hid (HD10.out.below.trans (HB11.out.mono HD10.out.below.size))
          have y0 : w11.cell? ⟨w.heap.size, 0, none⟩ = some (.int .i64 0) := HKR.out.cell 0
          have zy0 : w11.frozen? ⟨w.heap.size, 0, none⟩ = false := HKR.out.frozen 0
          have y1 : w11.cell? ⟨w.heap.size, 1, none⟩ = some (.int .i64 0) := HKR.out.cell 1
          have zy1 : w11.frozen? ⟨w.heap.size, 1, none⟩ = false := HKR.out.frozen 1
          have y2 : w11.cell? ⟨w.heap.size, 2, none⟩ = some (.int .i64 0) := HKR.out.cell 2
          have zy2 : w11.frozen? ⟨w.heap.size, 2, none⟩ = false := HKR.out.frozen 2
          have y3 : w11.cell? ⟨w.heap.size, 3, none⟩ = some (.int .i64 0) := HKR.out.cell 3
          have zy3 : w11.frozen? ⟨w.heap.size, 3, none⟩ = false := HKR.out.frozen 3
          have y4 : w11.cell? ⟨w.heap.size, 4, none⟩ = some (.int .i64 0) := HKR.out.cell 4
          have zy4 : w11.frozen? ⟨w.heap.size, 4, none⟩ = false := HKR.out.frozen 4
          have y5 : w11.cell? ⟨w.heap.size, 5, none⟩ = some (.slice none 0 0) := HKR.out.cell 5
          have zy5 : w11.frozen? ⟨w.heap.size, 5, none⟩ = false := HKR.out.frozen 5
          have y6 : w11.cell? ⟨w.heap.size, 6, none⟩ = some (.int .i64 0) := HKR.out.cell 6
          have zy6 : w11.frozen? ⟨w.heap.size, 6, none⟩ = false := HKR.out.frozen 6
          have y7 : w11.cell? ⟨w.heap.size, 7, none⟩ = some (.int .i64 0) := HKR.out.cell 7
          have zy7 : w11.frozen? ⟨w.heap.size, 7, none⟩ = false := HKR.out.frozen 7
          have y8 : w11.cell? ⟨w.heap.size, 8, none⟩ = some (.int .i64 0) := HKR.out.cell 8
          have zy8 : w11.frozen? ⟨w.heap.size, 8, none⟩ = false := HKR.out.frozen 8
          have y9 : w11.cell? ⟨w.heap.size, 9, none⟩ = some (.int .i64 0) := HKR.out.cell 9
          have zy9 : w11.frozen? ⟨w.heap.size, 9, none⟩ = false := HKR.out.frozen 9
          have y10 : w11.cell? ⟨w.heap.size, 10, none⟩ = some (.int .i64 0) := HKR.out.cell 10
          have zy10 : w11.frozen? ⟨w.heap.size, 10, none⟩ = false := HKR.out.frozen 10
          have y11 : w11.cell? ⟨w.heap.size, 11, none⟩ = some (.int .i64 0) := HKR.out.cell 11
          have zy11 : w11.frozen? ⟨w.heap.size, 11, none⟩ = false := HKR.out.frozen 11
          have y12 : w11.cell? ⟨w.heap.size, 12, none⟩ = some (.int .i64 0) := HKR.out.cell 12
          have zy12 : w11.frozen? ⟨w.heap.size, 12, none⟩ = false := HKR.out.frozen 12
          by_cases hc : s9.2 = 0 ∧ m.fit = true ∧ encM m = s.data.toList
          · have dc : decide (s9.2 = 0 ∧ m.fit = true ∧ encM m = s.data.toList) = true := decide_eq_true hc
            have HCC := Lib.hid hc
            clear hc
            rw [dc]
            have x0 : w11.cell? ⟨S + 3, 0, none⟩ = some (.int .i64 m.w0) := HKX.out.cell 0
            have x1 : w11.cell? ⟨S + 3, 1, none⟩ = some (.int .i64 m.w1) := HKX.out.cell 1
            have x2 : w11.cell? ⟨S + 3, 2, none⟩ = some (.int .i64 m.w2) := HKX.out.cell 2
            have x3 : w11.cell? ⟨S + 3, 3, none⟩ = some (.int .i64 m.next) := HKX.out.cell 3
            have x4 : w11.cell? ⟨S + 3, 4, none⟩ = some (.int .i64 m.log) := HKX.out.cell 4
            have x5 : w11.cell? ⟨S + 3, 5, none⟩ = some ((.slice A nb c)) := HKX.out.cell 5
            have x6 : w11.cell? ⟨S + 3, 6, none⟩ = some (.int .i64 m.cut) := HKX.out.cell 6
            have x7 : w11.cell? ⟨S + 3, 7, none⟩ = some (.int .i64 m.r0) := HKX.out.cell 7
            have x8 : w11.cell? ⟨S + 3, 8, none⟩ = some (.int .i64 m.r1) := HKX.out.cell 8
            have x9 : w11.cell? ⟨S + 3, 9, none⟩ = some (.int .i64 m.r2) := HKX.out.cell 9
            have x10 : w11.cell? ⟨S + 3, 10, none⟩ = some (.int .i64 m.l0) := HKX.out.cell 10
            have x11 : w11.cell? ⟨S + 3, 11, none⟩ = some (.int .i64 m.l1) := HKX.out.cell 11
            have x12 : w11.cell? ⟨S + 3, 12, none⟩ = some (.int .i64 m.l2) := HKX.out.cell 12
            go_wp2_with fail
            have hf := fill13 (m' := m) (v' := .slice A nb c) HKR.out
            obtain ⟨wf, hwf⟩ : ∃ X, (((((((((((((w11.setCell ⟨w.heap.size, 0, none⟩ (.int .i64 m.w0)).setCell ⟨w.heap.size, 1, none⟩ (.int .i64 m.w1)).setCell ⟨w.heap.size, 2, none⟩ (.int .i64 m.w2)).setCell ⟨w.heap.size, 3, none⟩ (.int .i64 m.next)).setCell ⟨w.heap.size, 4, none⟩ (.int .i64 m.log)).setCell ⟨w.heap.size, 5, none⟩ ((.slice A nb c))).setCell ⟨w.heap.size, 6, none⟩ (.int .i64 m.cut)).setCell ⟨w.heap.size, 7, none⟩ (.int .i64 m.r0)).setCell ⟨w.heap.size, 8, none⟩ (.int .i64 m.r1)).setCell ⟨w.heap.size, 9, none⟩ (.int .i64 m.r2)).setCell ⟨w.heap.size, 10, none⟩ (.int .i64 m.l0)).setCell ⟨w.heap.size, 11, none⟩ (.int .i64 m.l1)).setCell ⟨w.heap.size, 12, none⟩ (.int .i64 m.l2)) = X := ⟨_, rfl⟩
            rw [hwf] at hf ⊢
            refine bodyPost_ret (results_cell1 rfl _ wf ⟨w.heap.size, 0, none⟩ (.agg (manV m (.slice A nb c))) rfl (run_loadVar_row wf w.heap.size 25 25 _ (0, 0) _ hf.1 Tryz.underlying25 rfl (by kernel_rfl))) rfl ?_
            have hd := HDEC.out
            rw [if_pos HCC.out] at hd
            rw [hd]
            refine ⟨_, rfl, ?_, HBW.out.trans hf.2⟩
            have h0 := HD10.out.own
            have hlow := HD10.out.hS
            refine ownsRow.same (v := .slice A nb c) (w := w10) ?_ fun k hk => ?_
            · rw [← HNB.out]
              exact h0.mono (by omega)
            · rw [← HNB.out] at hk
              have hlt := World.ownsRow.lt h0 k hk
              have e1 : wf.heap[k]? = w11.heap[k]? := by
                rw [← hwf]
                exact (Below.heap_setCell _ _ _ k (by simp; omega)).trans ((Below.heap_setCell _ _ _ k (by simp; omega)).trans ((Below.heap_setCell _ _ _ k (by simp; omega)).trans ((Below.heap_setCell _ _ _ k (by simp; omega)).trans ((Below.heap_setCell _ _ _ k (by simp; omega)).trans ((Below.heap_setCell _ _ _ k (by simp; omega)).trans ((Below.heap_setCell _ _ _ k (by simp; omega)).trans ((Below.heap_setCell _ _ _ k (by simp; omega)).trans ((Below.heap_setCell _ _ _ k (by simp; omega)).trans ((Below.heap_setCell _ _ _ k (by simp; omega)).trans ((Below.heap_setCell _ _ _ k (by simp; omega)).trans ((Below.heap_setCell _ _ _ k (by simp; omega)).trans ((Below.heap_setCell _ _ _ k (by simp; omega))))))))))))))
              rw [e1]
              exact HB11.out.block k hlt.2
          · have dc : decide (s9.2 = 0 ∧ m.fit = true ∧ encM m = s.data.toList) = false := decide_eq_false hc
            have HCC := Lib.hid hc
            clear hc
            rw [dc]
            go_wp2_with fail
            have hf := fill13 (m' := .zero) (v' := .slice none 0 0) HKR.out
            simp only [Man.zero] at hf
            obtain ⟨wf, hwf⟩ : ∃ X, (((((((((((((w11.setCell ⟨w.heap.size, 0, none⟩ (.int .i64 0)).setCell ⟨w.heap.size, 1, none⟩ (.int .i64 0)).setCell ⟨w.heap.size, 2, none⟩ (.int .i64 0)).setCell ⟨w.heap.size, 3, none⟩ (.int .i64 0)).setCell ⟨w.heap.size, 4, none⟩ (.int .i64 0)).setCell ⟨w.heap.size, 5, none⟩ (.slice none 0 0)).setCell ⟨w.heap.size, 6, none⟩ (.int .i64 0)).setCell ⟨w.heap.size, 7, none⟩ (.int .i64 0)).setCell ⟨w.heap.size, 8, none⟩ (.int .i64 0)).setCell ⟨w.heap.size, 9, none⟩ (.int .i64 0)).setCell ⟨w.heap.size, 10, none⟩ (.int .i64 0)).setCell ⟨w.heap.size, 11, none⟩ (.int .i64 0)).setCell ⟨w.heap.size, 12, none⟩ (.int .i64 0)) = X := ⟨_, rfl⟩
            rw [hwf] at hf ⊢
            refine bodyPost_ret (results_cell1 rfl _ wf ⟨w.heap.size, 0, none⟩ (.agg (manV .zero (.slice none 0 0))) rfl (run_loadVar_row wf w.heap.size 25 25 _ (0, 0) _ hf.1 Tryz.underlying25 rfl (by kernel_rfl))) rfl ?_
            have hd := HDEC.out
            rw [if_neg HCC.out] at hd
            rw [hd]
            exact ⟨_, rfl, World.ownsRow_nil _ _ _ _, HBW.out.trans hf.2⟩
end Go.Proofs.YtfpgbhimgfdddaaGreatDoor
