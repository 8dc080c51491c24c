/- The walk of layer 20 (store): Encode. -/
import Derived.Test.YtfpgbhimgfdddaaGreatDoorStoWalksF
import Derived.Test.YtfpgbhimgfdddaaGreatDoorStoWalksG
set_option linter.unusedVariables false
set_option linter.unusedSimpArgs false
namespace Go.Proofs.YtfpgbhimgfdddaaGreatDoor
open Go.RowKit Go.Shelf Go.Sort
attribute [local go_sem ↓] Go.wp_at_zero Go.wp_at_succ
attribute [local go_sem] Later.cell Later.frozen

def bodyAt (m : Man) (i : Nat) : List UInt8 := (m.tens ++ [m.next, m.log, (m.blocks.length : Int)] ++ (m.blocks.take i).flatMap Inf.nums).flatMap intT
theorem bodyAt_succ {m : Man} {i : Nat} (hi : i < m.blocks.length) : bodyAt m (i + 1) = bodyAt m i ++ (m.blocks[i]!.nums).flatMap intT := by
  unfold bodyAt
  rw [getElem!_pos m.blocks i hi]
  have e : m.blocks.take (i + 1) = m.blocks.take i ++ [m.blocks[i]] := List.take_succ_eq_append_getElem hi
  rw [e]
  simp only [List.flatMap_append, List.flatMap_cons, List.flatMap_nil, List.append_nil, List.append_assoc]
theorem bodyAt_full (m : Man) : bodyAt m m.blocks.length = m.body := by
  unfold bodyAt Man.body Man.nums
  rw [List.take_length]
theorem bodyAt_zero (m : Man) : bodyAt m 0 = m.tens.flatMap intT ++ [m.next, m.log, (m.blocks.length : Int)].flatMap intT := by simp [bodyAt]
theorem nums_len (l : List Inf) : (l.flatMap Inf.nums).length = 5 * l.length := by
  induction l with
  | nil => rfl
  | cons x l ih => simp only [List.flatMap_cons, List.length_append, ih, List.length_cons, Inf.nums, List.length_nil]; omega
theorem bodyAt_len (m : Man) (i : Nat) (hi : i ≤ m.blocks.length) : (bodyAt m i).length ≤ 11 * (13 + 5 * i) := by
  have h := i64s_len (m.tens ++ [m.next, m.log, (m.blocks.length : Int)] ++ (m.blocks.take i).flatMap Inf.nums)
  have e : (m.tens ++ [m.next, m.log, (m.blocks.length : Int)] ++ (m.blocks.take i).flatMap Inf.nums).length = 13 + 5 * i := by
    rw [List.length_append, List.length_append, nums_len, List.length_take, Nat.min_eq_left hi]
    rfl
  rw [e] at h
  exact h
theorem tenI_eq (m : Man) : ∀ i, i < 10 → tenI m i = m.tens[i]!
  | 0, _ => rfl | 1, _ => rfl | 2, _ => rfl | 3, _ => rfl | 4, _ => rfl | 5, _ => rfl | 6, _ => rfl | 7, _ => rfl | 8, _ => rfl | 9, _ => rfl
  | i + 10, h => absurd h (by omega)
/-- What Encode keeps in its hands. -/
structure EncAt (w : World) (m : Man) (A : Option Addr) (c Q g0 c0 : Nat) (l : List UInt8) (wr : World) : Prop where
  below : Below w.heap.size w wr
  size : w.heap.size + 1 ≤ wr.heap.size
  blk : Blk wr w.heap.size 25 (manV m (.slice A m.blocks.length c))
  bld : Bld (w.heap.size + 1) Q l wr
  o0 : wr.ownsRow (w.heap.size + 1) 114 1 (.slice (some ⟨g0, 0, none⟩) 10 c0) 10 (tenP w.heap.size)
  ne : g0 ≠ Q
theorem EncAt.keep {w : World} {m : Man} {A : Option Addr} {c Q g0 c0 : Nat} {l : List UInt8} {wr w' : World} (h : EncAt w m A c Q g0 c0 l wr) (hb : Below wr.heap.size wr w') : EncAt w m A c Q g0 c0 l w' :=
  ⟨h.below.trans (hb.mono (by have := h.size; omega)), Nat.le_trans h.size hb.size, Blk.below h.blk hb h.blk.lt, h.bld.below hb, ownsRow.same h.o0 fun k hk => hb.block k (World.ownsRow.lt h.o0 k hk).2, h.ne⟩
theorem EncAt.alloc {w : World} {m : Man} {A : Option Addr} {c Q g0 c0 : Nat} {l : List UInt8} {wr : World} (h : EncAt w m A c Q g0 c0 l wr) (o : Obj) : EncAt w m A c Q g0 c0 l (wr.alloc o) :=
  h.keep ((Below.refl _ _).alloc (Nat.le_refl _) _)
theorem EncAt.put {w : World} {m : Man} {A : Option Addr} {c Q g0 c0 : Nat} {l l' : List UInt8} {wr w' : World} (h : EncAt w m A c Q g0 c0 l wr) (hb : Bld (w.heap.size + 1) Q l' w') (he : Below (w.heap.size + 1) wr w') (ho : Others Q wr w') : EncAt w m A c Q g0 c0 l' w' := by
  refine ⟨h.below.trans (Below.low he (by omega)), Nat.le_trans h.size he.size, Blk.below h.blk he (by omega), hb, ownsRow.same h.o0 fun k hk => ?_, h.ne⟩
  injection hk with hk
  subst hk
  rcases h.o0.2 with ⟨h0, _⟩ | ⟨g, cap, cur, hv, _, hg, _⟩
  · cases h0
  · injection hv with hv
    injection hv with hv
    injection hv with hv
    subst hv
    rw [hg]
    exact ho.blk (t := 114) (cs := cur) hg h.ne (by decide)
def EncOut (m : Man) (w : World) (e : Ending) (w' : World) : Prop :=
  e = .returned (.tuple #[.string ⟨(if m.fit = true then encM m else []).toArray⟩, .int .i64 (if m.fit = true then 0 else 150)]) ∧ Below w.heap.size w w'
set_option maxRecDepth 100000 in
set_option maxHeartbeats 8000000 in
theorem encode_calls (m : Man) (A : Option Addr) (c : Nat) (w : World) (hinf : Infs w A m.blocks.length m.blocks) (hlen : m.blocks.length ≤ 1099511627776) (hsm : m.small) (hT : NibTab w) :
    Calls Tryz.prog 10 #[.agg (manV m (.slice A m.blocks.length c))] w (EncOut m w) := by
  have HI := Lib.hid hinf
  have HL := Lib.hid hlen
  have HS := Lib.hid hsm
  have HT := Lib.hid hT
  clear hinf hlen hsm hT
  have hb0 : Below w.heap.size w (w.alloc (.cells (manV m (.slice A m.blocks.length c)) 25)) := (Below.refl _ _).alloc (Nat.le_refl _) _
  have hk0 : Blk (w.alloc (.cells (manV m (.slice A m.blocks.length c)) 25)) w.heap.size 25 (manV m (.slice A m.blocks.length c)) := Blk.new _ _ _
  have HF := Lib.hid (fit_calls m A c (w.alloc (.cells (manV m (.slice A m.blocks.length c)) 25)) (HI.out.below hb0) (by have := HL.out; omega))
  obtain ⟨W0, hW0⟩ : ∃ x, w.alloc (.cells (manV m (.slice A m.blocks.length c)) 25) = x := ⟨_, rfl⟩
  have HS0 : Hid (W0.heap.size = w.heap.size + 1) := Lib.hid (by rw [← hW0]; simp)
  rw [hW0] at hb0 hk0 HF
  have HB0 := Lib.hid hb0
  have HK0 := Lib.hid hk0
  go_enter Tryz.func10, Tryz.ntmps10
  go_upto_region 1 with fail
  clear hW0 hb0
  have x0 : W0.cell? ⟨w.heap.size, 0, none⟩ = some (.int .i64 m.w0) := HK0.out.cell 0
  have x1 : W0.cell? ⟨w.heap.size, 1, none⟩ = some (.int .i64 m.w1) := HK0.out.cell 1
  have x2 : W0.cell? ⟨w.heap.size, 2, none⟩ = some (.int .i64 m.w2) := HK0.out.cell 2
  have x3 : W0.cell? ⟨w.heap.size, 3, none⟩ = some (.int .i64 m.next) := HK0.out.cell 3
  have x4 : W0.cell? ⟨w.heap.size, 4, none⟩ = some (.int .i64 m.log) := HK0.out.cell 4
  have x5 : W0.cell? ⟨w.heap.size, 5, none⟩ = some (.slice A m.blocks.length c) := HK0.out.cell 5
  have x6 : W0.cell? ⟨w.heap.size, 6, none⟩ = some (.int .i64 m.cut) := HK0.out.cell 6
  have x7 : W0.cell? ⟨w.heap.size, 7, none⟩ = some (.int .i64 m.r0) := HK0.out.cell 7
  have x8 : W0.cell? ⟨w.heap.size, 8, none⟩ = some (.int .i64 m.r1) := HK0.out.cell 8
  have x9 : W0.cell? ⟨w.heap.size, 9, none⟩ = some (.int .i64 m.r2) := HK0.out.cell 9
  have x10 : W0.cell? ⟨w.heap.size, 10, none⟩ = some (.int .i64 m.l0) := HK0.out.cell 10
  have x11 : W0.cell? ⟨w.heap.size, 11, none⟩ = some (.int .i64 m.l1) := HK0.out.cell 11
  have x12 : W0.cell? ⟨w.heap.size, 12, none⟩ = some (.int .i64 m.l2) := HK0.out.cell 12
  go_wp2_with fail
  refine HF.out.mono ?_
  rintro e w1 ⟨rfl, hb1⟩
  have HB1 := Lib.hid (HB0.out.trans (hb1.mono (by have := HS0.out; omega)))
  have HK1 := Lib.hid (Blk.below HK0.out hb1 (by have := HS0.out; omega))
  have HS1 : Hid (w.heap.size + 1 ≤ w1.heap.size) := Lib.hid (by have := hb1.size; have := HS0.out; omega)
  clear hb1 hk0 x0 x1 x2 x3 x4 x5 x6 x7 x8 x9 x10 x11 x12
  cases hfit : m.fit with
  | false =>
    go_wp2_with fail
    go_ret2
    refine ⟨?_, HB1.out⟩
    rw [hfit]
    rfl
  | true =>
    go_upto_region 5 with fail
    obtain ⟨Q, hQ⟩ : ∃ Q, w1.heap.size = Q := ⟨_, rfl⟩
    obtain ⟨W2, hW2⟩ : ∃ X, w1.alloc (.cells #[.pointer none, .slice none 0 0] 106) = X := ⟨_, rfl⟩
    have HBL : Hid (Bld (w.heap.size + 1) Q [] W2) := Lib.hid (by rw [← hW2, ← hQ]; exact Bld.new w1 HS1.out)
    have HB2 : Hid (Below w.heap.size w W2) := Lib.hid (by rw [← hW2]; exact HB1.out.alloc (by have := HS1.out; omega) _)
    have HK2 : Hid (Blk W2 w.heap.size 25 (manV m (.slice A m.blocks.length c))) := Lib.hid (by rw [← hW2]; exact HK1.out.alloc _)
    have HS2 : Hid (w.heap.size + 1 ≤ W2.heap.size ∧ W2.heap.size = Q + 1) := Lib.hid (by rw [← hW2, ← hQ]; have := HS1.out; constructor <;> simp <;> omega)
    rw [hW2, hQ]
    have HFIT := Lib.hid hfit
    clear hW2 hQ hfit
    go_wp2_with fail
    refine (numbers_calls w.heap.size W2).mono ?_
    rintro e w3 ⟨g0, c0, g1, c1, g2, c2, rfl, o0, o1, o2, hb3⟩
    have HE : Hid (EncAt w m A c Q g0 c0 [] w3) := Lib.hid ⟨HB2.out.trans (hb3.mono (by have := HS2.out; omega)), by have := hb3.size; have := HS2.out; omega, Blk.below HK2.out hb3 (by have := HS2.out; omega), HBL.out.below hb3, o0.mono (by have := HS2.out; omega),
      by have := World.ownsRow.lt o0 g0 rfl; have := HS2.out; omega⟩
    clear o0 o1 o2 hb3
    go_upto_block 0 with fail
    go_cut [] (fun wz => EncAt w m A c Q g0 c0 (m.tens.flatMap intT) wz)
    case first =>
      go_wp2_with fail
      go_loopg [24] 10 (fun g s24 wr => ∃ i : Nat, i + g = 10 ∧ s24 = .int .i64 (i : Int) ∧ EncAt w m A c Q g0 c0 ((m.tens.take i).flatMap intT) wr)
      case atStart => exact ⟨0, rfl, rfl, HE.out⟩
      case round =>
        obtain ⟨i, hig, rfl, he⟩ := hrel
        have HIG := Lib.hid hig
        have HE2 := Lib.hid he
        clear hig he
        by_cases hi : i < 10
        · have el : decide ((i : Int) < 10) = true := by simp; omega
          have e0 : (i : Int) < 10 := by omega
          have e1 : (0 : Int) ≤ (i : Int) := by omega
          obtain ⟨f0, f1, _, _⟩ := ten_facts m (.slice A m.blocks.length c) w.heap.size i hi
          have m0 : wr.cell? ⟨g0, i, none⟩ = some (.pointer (some ⟨w.heap.size, tenK i, none⟩)) := by rw [World.ownsRow.cellAt HE2.out.o0 i (by omega)]; exact f0
          have m1 : wr.cell? ⟨w.heap.size, tenK i, none⟩ = some (.int .i64 m.tens[i]!) := by rw [← tenI_eq m i hi]; exact (HE2.out.blk.cell (tenK i)).trans f1
          have htl : m.tens.length = 10 := rfl
          have HTK := Lib.hid (take_ints (vs := m.tens) (i := i) (by omega))
          have hlen2 := i64s_len (m.tens.take i)
          rw [List.length_take] at hlen2
          have HLN : Hid (((m.tens.take i).flatMap intT).length + 11 * 1 ≤ 140737488355328) := Lib.hid (by omega)
          have hv : ∀ v ∈ [m.tens[i]!], -9223372036854775808 ≤ v ∧ v ≤ 9223372036854775807 := fun v hv => by
            rw [List.mem_singleton] at hv
            subst hv
            refine HS.out _ ?_
            unfold Man.nums
            simp only [List.mem_append]
            refine .inl (.inl ?_)
            rw [getElem!_pos m.tens i (by omega)]
            exact List.getElem_mem _
          obtain ⟨v, hve⟩ : ∃ v, m.tens[i]! = v := ⟨_, rfl⟩
          obtain ⟨k, hk⟩ : ∃ k, tenK i = k := ⟨_, rfl⟩
          rw [hve] at m1 hv HTK
          rw [hk] at m0 m1
          have HV := Lib.hid hv
          clear f0 f1 htl hlen2 hve hk hv
          go_wp2_with fail
          refine (put_calls (w.heap.size + 1) Q wr.heap.size _ [v] _ (HE2.out.alloc _).bld (Blk.new wr _ _) (by have := HE2.out.bld.lt; omega) HV.out HLN.out (HE2.out.alloc _).size).mono ?_
          rintro e w4 ⟨rfl, hb4, he4, ho4⟩
          have HE4 := Lib.hid ((HE2.out.alloc _).put hb4 he4 ho4)
          clear hb4 he4 ho4
          go_wp2_with fail
          go_roundg (gk - 1)
          case measure => have := HIG.out; omega
          case rel => exact ⟨i + 1, by have := HIG.out; omega, by go_num, by rw [HTK.out]; have := HE4.out; simpa using this⟩
        · have el : decide ((i : Int) < 10) = false := by simp; omega
          have hi3 : i = 10 := by have := HIG.out; omega
          subst hi3
          go_wp2_with fail
          go_meet
          exact HE2.out
    case rest =>
      obtain ⟨w5, rfl⟩ : ∃ x, x = wc := ⟨_, rfl⟩
      have HE5 := Lib.hid hcut
      clear hcut
      have m3 : w5.cell? ⟨w.heap.size, 3, none⟩ = some (.int .i64 m.next) := HE5.out.blk.cell 3
      have m4 : w5.cell? ⟨w.heap.size, 4, none⟩ = some (.int .i64 m.log) := HE5.out.blk.cell 4
      have m5 : w5.cell? ⟨w.heap.size, 5, none⟩ = some (.slice A m.blocks.length c) := HE5.out.blk.cell 5
      have HV : Hid (∀ v ∈ [m.next, m.log, (m.blocks.length : Int)], -9223372036854775808 ≤ v ∧ v ≤ 9223372036854775807) := Lib.hid (fun v hv => by
        refine HS.out _ ?_
        unfold Man.nums
        simp only [List.mem_append]
        exact .inl (.inr hv))
      have HLN : Hid ((m.tens.flatMap intT).length + 11 * 3 ≤ 140737488355328) := Lib.hid (by
        have := i64s_len m.tens
        have e : m.tens.length = 10 := rfl
        rw [e] at this
        omega)
      go_wp2_with fail
      refine (put_calls (w.heap.size + 1) Q w5.heap.size _ [m.next, m.log, (m.blocks.length : Int)] _ (HE5.out.alloc _).bld (Blk.new w5 _ _) (by have := HE5.out.bld.lt; omega) HV.out HLN.out (HE5.out.alloc _).size).mono ?_
      rintro e w6 ⟨rfl, hb6, he6, ho6⟩
      have HE6 : Hid (EncAt w m A c Q g0 c0 (bodyAt m 0) w6) := Lib.hid (by rw [bodyAt_zero]; exact (HE5.out.alloc _).put hb6 he6 ho6)
      clear hb6 he6 ho6 m3 m4 m5
      have m5 : w6.cell? ⟨w.heap.size, 5, none⟩ = some (.slice A m.blocks.length c) := HE6.out.blk.cell 5
      go_upto_block 2 with fail
      obtain ⟨n, hn⟩ : ∃ n, m.blocks.length = n := ⟨_, rfl⟩
      have HN := Lib.hid hn
      rw [hn]
      have hn40 : n ≤ 1099511627776 := by rw [← hn]; exact HL.out
      clear hn m5
      go_cut [] (fun wz => EncAt w m A c Q g0 c0 (bodyAt m n) wz)
      case first =>
        go_wp2_with fail
        go_loopg [48] n (fun g s48 wr => ∃ i : Nat, i + g = n ∧ s48 = .int .i64 (i : Int) ∧ EncAt w m A c Q g0 c0 (bodyAt m i) wr)
        case atStart => exact ⟨0, by omega, rfl, HE6.out⟩
        case round =>
          obtain ⟨i, hig, rfl, he⟩ := hrel
          have HIG := Lib.hid hig
          have HE2 := Lib.hid he
          clear hig he
          by_cases hi : i < n
          · have el : decide ((i : Int) < (n : Int)) = true := by simp; omega
            have e0 : (i : Int) < (n : Int) := by omega
            have e1 : (0 : Int) ≤ (i : Int) := by omega
            have hI2 : Infs wr A m.blocks.length m.blocks := HI.out.below HE2.out.below
            obtain ⟨bb, off, rfl, hbl, kc⟩ := hI2.at_ (i := i) (by rw [HN.out]; exact hi)
            have m0 : wr.cell? ⟨bb, off + i * 5, none⟩ = _ := kc 0 _ rfl
            have m1 := kc 1 _ rfl
            have m2 := kc 2 _ rfl
            have m3 := kc 3 _ rfl
            have m4 := kc 4 _ rfl
            have HTK := Lib.hid (bodyAt_succ (m := m) (i := i) (by rw [HN.out]; exact hi))
            have HLN : Hid ((bodyAt m i).length + 11 * 5 ≤ 140737488355328) := Lib.hid (by
              have := bodyAt_len m i (by rw [HN.out]; omega)
              have := HL.out
              have := HN.out
              omega)
            have hv : ∀ v ∈ (m.blocks[i]!).nums, -9223372036854775808 ≤ v ∧ v ≤ 9223372036854775807 := fun v hv => by
              refine HS.out _ ?_
              unfold Man.nums
              simp only [List.mem_append]
              refine .inr (List.mem_flatMap.2 ⟨m.blocks[i]!, ?_, hv⟩)
              rw [getElem!_pos m.blocks i (by rw [HN.out]; exact hi)]
              exact List.getElem_mem _
            obtain ⟨x, hx⟩ : ∃ x, m.blocks[i]! = x := ⟨_, rfl⟩
            rw [hx] at hv HTK
            simp only [hx] at m0 m1 m2 m3 m4
            have HV := Lib.hid hv
            clear hI2 kc hx hv
            go_upto_region 15 with fail
            obtain ⟨W7, hW7⟩ : ∃ X, wr.alloc (.cells #[.int .i64 x.id, .int .i64 x.res, .int .i64 x.frm, .int .i64 x.to_, .int .i64 x.bytes] 116) = X := ⟨_, rfl⟩
            have HE7 : Hid (EncAt w m (some ⟨bb, off, none⟩) c Q g0 c0 (bodyAt m i) W7) := Lib.hid (by rw [← hW7]; exact HE2.out.alloc _)
            have kx : Blk W7 wr.heap.size 116 #[.int .i64 x.id, .int .i64 x.res, .int .i64 x.frm, .int .i64 x.to_, .int .i64 x.bytes] := by rw [← hW7]; exact Blk.new wr _ _
            rw [hW7]
            clear hW7 m0 m1 m2 m3 m4
            obtain ⟨U, hU⟩ : ∃ Q, wr.heap.size = Q := ⟨_, rfl⟩
            rw [hU] at kx ⊢
            have m0 := kx.cell 0
            have m1 := kx.cell 1
            have m2 := kx.cell 2
            have m3 := kx.cell 3
            have m4 := kx.cell 4
            clear kx hU hbl
            go_wp2_with fail
            refine (put_calls (w.heap.size + 1) Q W7.heap.size _ x.nums _ (HE7.out.alloc _).bld (Blk.new W7 _ _) (by have := HE7.out.bld.lt; omega) HV.out HLN.out (HE7.out.alloc _).size).mono ?_
            rintro e w8 ⟨rfl, hb8, he8, ho8⟩
            have HE8 : Hid (EncAt w m (some ⟨bb, off, none⟩) c Q g0 c0 (bodyAt m (i + 1)) w8) := Lib.hid (by rw [HTK.out]; exact (HE7.out.alloc _).put hb8 he8 ho8)
            clear hb8 he8 ho8 m0 m1 m2 m3 m4
            go_wp2_with fail
            go_roundg (gk - 1)
            case measure => have := HIG.out; omega
            case rel => exact ⟨i + 1, by have := HIG.out; omega, by go_num, HE8.out⟩
          · have el : decide ((i : Int) < (n : Int)) = false := by simp; omega
            have hi3 : i = n := by have := HIG.out; omega
            subst hi3
            go_wp2_with fail
            go_meet
            exact HE2.out
      case rest =>
        obtain ⟨w9, rfl⟩ : ∃ x, x = wc := ⟨_, rfl⟩
        have HE9 := Lib.hid hcut
        clear hcut
        go_wp2_with fail
        refine (bstring_calls (w.heap.size + 1) Q _ w9 HE9.out.bld HE9.out.size).mono ?_
        rintro e w10 ⟨rfl, hb10⟩
        have HB10 := Lib.hid (HE9.out.below.trans (Below.low hb10 (by omega)))
        clear hb10
        go_wp2_with fail
        refine (seal_calls ⟨(bodyAt m n).toArray⟩ (by have := bodyAt_len m n (by rw [HN.out]; omega); have := HL.out; have := HN.out; show (bodyAt m n).toArray.size ≤ _; rw [List.size_toArray]; omega) w10 (HT.out.below HT.out.lt HB10.out)).mono ?_
        rintro e w11 ⟨rfl, hb11⟩
        have HB11 := Lib.hid (HB10.out.trans (hb11.mono HB10.out.size))
        clear hb11
        go_wp2_with fail
        go_ret2
        refine ⟨?_, HB11.out⟩
        have hb : bodyAt m n = m.body := by rw [← HN.out]; exact bodyAt_full m
        rw [hb, if_pos HFIT.out, if_pos HFIT.out]
        rfl
end Go.Proofs.YtfpgbhimgfdddaaGreatDoor
