/- Merged (what the claim wants of): StoWalksH, StoWalksI, StoWalksJ0. -/
import Derived.Test.YtfpgbhimgfdddaaGreatDoorStk29
import Derived.Test.YtfpgbhimgfdddaaGreatDoorStk21
import Derived.Test.YtfpgbhimgfdddaaGreatDoorStk02
set_option linter.unusedVariables false
set_option linter.unusedSimpArgs false
/- The walk of layer 20 (store): Encode. -/
namespace Go.Proofs.YtfpgbhimgfdddaaGreatDoor
open Go.RowKit Go.Shelf Go.Sort
attribute [local go_sem ↓] Go.wp_at_zero Go.wp_at_succ
attribute [local go_sem] Later.cell Later.frozen

def bodyAt (m : Man) (i : Nat) : List UInt8 := (m.tens ++ [m.next, m.log, (m.blocks.length : Int)] ++ (m.blocks.take i).flatMap Inf.nums).flatMap intT
theorem bodyAt_succ {m : Man} {i : Nat} (hi : i < m.blocks.length) : bodyAt m (i + 1) = bodyAt m i ++ (m.blocks[i]!.nums).flatMap intT := by
  unfold bodyAt
  rw [getElem!_pos m.blocks i hi]
  have e : m.blocks.take (i + 1) = m.blocks.take i ++ [m.blocks[i]] := List.take_succ_eq_append_getElem hi
  rw [e]
  simp only [List.flatMap_append, List.flatMap_cons, List.flatMap_nil, List.append_nil, List.append_assoc]
theorem bodyAt_full (m : Man) : bodyAt m m.blocks.length = m.body := by
  unfold bodyAt Man.body Man.nums
  rw [List.take_length]
theorem bodyAt_zero (m : Man) : bodyAt m 0 = m.tens.flatMap intT ++ [m.next, m.log, (m.blocks.length : Int)].flatMap intT := by simp [bodyAt]
theorem nums_len (l : List Inf) : (l.flatMap Inf.nums).length = 5 * l.length := by
  induction l with
  | nil => rfl
  | cons x l ih => simp only [List.flatMap_cons, List.length_append, ih, List.length_cons, Inf.nums, List.length_nil]; omega
theorem bodyAt_len (m : Man) (i : Nat) (hi : i ≤ m.blocks.length) : (bodyAt m i).length ≤ 11 * (13 + 5 * i) := by
  have h := i64s_len (m.tens ++ [m.next, m.log, (m.blocks.length : Int)] ++ (m.blocks.take i).flatMap Inf.nums)
  have e : (m.tens ++ [m.next, m.log, (m.blocks.length : Int)] ++ (m.blocks.take i).flatMap Inf.nums).length = 13 + 5 * i := by
    rw [List.length_append, List.length_append, nums_len, List.length_take, Nat.min_eq_left hi]
    rfl
  rw [e] at h
  exact h
theorem tenI_eq (m : Man) : ∀ i, i < 10 → tenI m i = m.tens[i]!
  | 0, _ => rfl | 1, _ => rfl | 2, _ => rfl | 3, _ => rfl | 4, _ => rfl | 5, _ => rfl | 6, _ => rfl | 7, _ => rfl | 8, _ => rfl | 9, _ => rfl
  | i + 10, h => absurd h (by omega)
/-- What Encode keeps in its hands. -/
structure EncAt (w : World) (m : Man) (A : Option Addr) (c Q g0 c0 : Nat) (l : List UInt8) (wr : World) : Prop where
  below : Below w.heap.size w wr
  size : w.heap.size + 1 ≤ wr.heap.size
  blk : Blk wr w.heap.size 25 (manV m (.slice A m.blocks.length c))
  bld : Bld (w.heap.size + 1) Q l wr
  o0 : wr.ownsRow (w.heap.size + 1) 114 1 (.slice (some ⟨g0, 0, none⟩) 10 c0) 10 (tenP w.heap.size)
  ne : g0 ≠ Q
theorem EncAt.keep {w : World} {m : Man} {A : Option Addr} {c Q g0 c0 : Nat} {l : List UInt8} {wr w' : World} (h : EncAt w m A c Q g0 c0 l wr) (hb : Below wr.heap.size wr w') : EncAt w m A c Q g0 c0 l w' :=
  ⟨h.below.trans (hb.mono (by have := h.size; omega)), Nat.le_trans h.size hb.size, Blk.below h.blk hb h.blk.lt, h.bld.below hb, ownsRow.same h.o0 fun k hk => hb.block k (World.ownsRow.lt h.o0 k hk).2, h.ne⟩
theorem EncAt.alloc {w : World} {m : Man} {A : Option Addr} {c Q g0 c0 : Nat} {l : List UInt8} {wr : World} (h : EncAt w m A c Q g0 c0 l wr) (o : Obj) : EncAt w m A c Q g0 c0 l (wr.alloc o) :=
  h.keep ((Below.refl _ _).alloc (Nat.le_refl _) _)
theorem EncAt.put {w : World} {m : Man} {A : Option Addr} {c Q g0 c0 : Nat} {l l' : List UInt8} {wr w' : World} (h : EncAt w m A c Q g0 c0 l wr) (hb : Bld (w.heap.size + 1) Q l' w') (he : Below (w.heap.size + 1) wr w') (ho : Others Q wr w') : EncAt w m A c Q g0 c0 l' w' := by
  refine ⟨h.below.trans (Below.low he (by omega)), Nat.le_trans h.size he.size, Blk.below h.blk he (by omega), hb, ownsRow.same h.o0 fun k hk => ?_, h.ne⟩
  injection hk with hk
  subst hk
  rcases h.o0.2 with ⟨h0, _⟩ | ⟨g, cap, cur, hv, _, hg, _⟩
  · cases h0
  · injection hv with hv
    injection hv with hv
    injection hv with hv
    subst hv
    rw [hg]
    exact ho.blk (t := 114) (cs := cur) hg h.ne (by decide)
def EncOut (m : Man) (w : World) (e : Ending) (w' : World) : Prop :=
  e = .returned (.tuple #[.string ⟨(if m.fit = true then encM m else []).toArray⟩, .int .i64 (if m.fit = true then 0 else 150)]) ∧ Below w.heap.size w w'
/-- A fit manifest has fewer blocks than numbers: their numbers rise. -/
theorem fit_len {m : Man} (h : m.fit = true) : m.blocks.length ≤ 99999999 := by
  obtain ⟨_, hg, h1, h2, _⟩ := (fit_iff m).mp h
  have key : ∀ j, j < m.blocks.length → (j : Int) + 1 ≤ m.blocks[j]!.id := by
    intro j
    induction j with
    | zero =>
      intro hj
      have b := (hg 0 hj).1
      unfold infB at b
      simp only [Bool.and_eq_true, decide_eq_true_eq] at b
      omega
    | succ j ih =>
      intro hj
      have a := ih (by omega)
      have b := (hg (j + 1) hj).2 (by omega)
      simp only [Nat.add_sub_cancel] at b
      omega
  rcases Nat.eq_zero_or_pos m.blocks.length with h0 | h0
  · omega
  · have a := key (m.blocks.length - 1) (by omega)
    have b := (hg (m.blocks.length - 1) (by omega)).1
    unfold infB at b
    simp only [Bool.and_eq_true, decide_eq_true_eq] at b
    omega
set_option maxRecDepth 100000 in
set_option maxHeartbeats 8000000 in
theorem encode_calls (m : Man) (A : Option Addr) (c : Nat) (w : World) (hinf : Infs w A m.blocks.length m.blocks) (hlen : m.blocks.length ≤ 140737488355328) (hsm : m.small) (hT : NibTab w) :
    Calls Tryz.prog 10 #[.agg (manV m (.slice A m.blocks.length c))] w (EncOut m w) := by
  have HI := Lib.hid hinf
  have HL0 := Lib.hid hlen
  have HS := Lib.hid hsm
  have HT := Lib.hid hT
  clear hinf hlen hsm hT
  have hb0 : Below w.heap.size w (w.alloc (.cells (manV m (.slice A m.blocks.length c)) 25)) := (Below.refl _ _).alloc (Nat.le_refl _) _
  have hk0 : Blk (w.alloc (.cells (manV m (.slice A m.blocks.length c)) 25)) w.heap.size 25 (manV m (.slice A m.blocks.length c)) := Blk.new _ _ _
  have HF := Lib.hid (fit_calls m A c (w.alloc (.cells (manV m (.slice A m.blocks.length c)) 25)) (HI.out.below hb0) HL0.out)
  obtain ⟨W0, hW0⟩ : ∃ x, w.alloc (.cells (manV m (.slice A m.blocks.length c)) 25) = x := ⟨_, rfl⟩
  have HS0 : Hid (W0.heap.size = w.heap.size + 1) := Lib.hid (by rw [← hW0]; simp)
  rw [hW0] at hb0 hk0 HF
  have HB0 := Lib.hid hb0
  have HK0 := Lib.hid hk0
  go_enter Tryz.func10, Tryz.ntmps10
  go_upto_region 1 with fail
  clear hW0 hb0
  have x0 : W0.cell? ⟨w.heap.size, 0, none⟩ = some (.int .i64 m.w0) := HK0.out.cell 0
  have x1 : W0.cell? ⟨w.heap.size, 1, none⟩ = some (.int .i64 m.w1) := HK0.out.cell 1
  have x2 : W0.cell? ⟨w.heap.size, 2, none⟩ = some (.int .i64 m.w2) := HK0.out.cell 2
  have x3 : W0.cell? ⟨w.heap.size, 3, none⟩ = some (.int .i64 m.next) := HK0.out.cell 3
  have x4 : W0.cell? ⟨w.heap.size, 4, none⟩ = some (.int .i64 m.log) := HK0.out.cell 4
  have x5 : W0.cell? ⟨w.heap.size, 5, none⟩ = some (.slice A m.blocks.length c) := HK0.out.cell 5
  have x6 : W0.cell? ⟨w.heap.size, 6, none⟩ = some (.int .i64 m.cut) := HK0.out.cell 6
  have x7 : W0.cell? ⟨w.heap.size, 7, none⟩ = some (.int .i64 m.r0) := HK0.out.cell 7
  have x8 : W0.cell? ⟨w.heap.size, 8, none⟩ = some (.int .i64 m.r1) := HK0.out.cell 8
  have x9 : W0.cell? ⟨w.heap.size, 9, none⟩ = some (.int .i64 m.r2) := HK0.out.cell 9
  have x10 : W0.cell? ⟨w.heap.size, 10, none⟩ = some (.int .i64 m.l0) := HK0.out.cell 10
  have x11 : W0.cell? ⟨w.heap.size, 11, none⟩ = some (.int .i64 m.l1) := HK0.out.cell 11
  have x12 : W0.cell? ⟨w.heap.size, 12, none⟩ = some (.int .i64 m.l2) := HK0.out.cell 12
  go_wp2_with fail
  refine HF.out.mono ?_
  rintro e w1 ⟨rfl, hb1⟩
  have HB1 := Lib.hid (HB0.out.trans (hb1.mono (by have := HS0.out; omega)))
  have HK1 := Lib.hid (Blk.below HK0.out hb1 (by have := HS0.out; omega))
  have HS1 : Hid (w.heap.size + 1 ≤ w1.heap.size) := Lib.hid (by have := hb1.size; have := HS0.out; omega)
  clear hb1 hk0 x0 x1 x2 x3 x4 x5 x6 x7 x8 x9 x10 x11 x12
  cases hfit : m.fit with
  | false =>
    go_wp2_with fail
    go_ret2
    refine ⟨?_, HB1.out⟩
    rw [hfit]
    rfl
  | true =>
    have HL : Hid (m.blocks.length ≤ 1099511627776) := Lib.hid (by have := fit_len hfit; omega)
    go_upto_region 5 with fail
    obtain ⟨Q, hQ⟩ : ∃ Q, w1.heap.size = Q := ⟨_, rfl⟩
    obtain ⟨W2, hW2⟩ : ∃ X, w1.alloc (.cells #[.pointer none, .slice none 0 0] 106) = X := ⟨_, rfl⟩
    have HBL : Hid (Bld (w.heap.size + 1) Q [] W2) := Lib.hid (by rw [← hW2, ← hQ]; exact Bld.new w1 HS1.out)
    have HB2 : Hid (Below w.heap.size w W2) := Lib.hid (by rw [← hW2]; exact HB1.out.alloc (by have := HS1.out; omega) _)
    have HK2 : Hid (Blk W2 w.heap.size 25 (manV m (.slice A m.blocks.length c))) := Lib.hid (by rw [← hW2]; exact HK1.out.alloc _)
    have HS2 : Hid (w.heap.size + 1 ≤ W2.heap.size ∧ W2.heap.size = Q + 1) := Lib.hid (by rw [← hW2, ← hQ]; have := HS1.out; constructor <;> simp <;> omega)
    rw [hW2, hQ]
    have HFIT := Lib.hid hfit
    clear hW2 hQ hfit
    go_wp2_with fail
    refine (numbers_calls w.heap.size W2).mono ?_
    rintro e w3 ⟨g0, c0, g1, c1, g2, c2, rfl, o0, o1, o2, hb3⟩
    have HE : Hid (EncAt w m A c Q g0 c0 [] w3) := Lib.hid ⟨HB2.out.trans (hb3.mono (by have := HS2.out; omega)), by have := hb3.size; have := HS2.out; omega, Blk.below HK2.out hb3 (by have := HS2.out; omega), HBL.out.below hb3, o0.mono (by have := HS2.out; omega),
      by have := World.ownsRow.lt o0 g0 rfl; have := HS2.out; omega⟩
    clear o0 o1 o2 hb3
    go_upto_block 0 with fail
    go_cut [] (fun wz => EncAt w m A c Q g0 c0 (m.tens.flatMap intT) wz)
    case first =>
      go_wp2_with fail
      go_loopg [24] 10 (fun g s24 wr => ∃ i : Nat, i + g = 10 ∧ s24 = .int .i64 (i : Int) ∧ EncAt w m A c Q g0 c0 ((m.tens.take i).flatMap intT) wr)
      case atStart => exact ⟨0, rfl, rfl, HE.out⟩
      case round =>
        obtain ⟨i, hig, rfl, he⟩ := hrel
        have HIG := Lib.hid hig
        have HE2 := Lib.hid he
        clear hig he
        by_cases hi : i < 10
        · have el : decide ((i : Int) < 10) = true := by simp; omega
          have e0 : (i : Int) < 10 := by omega
          have e1 : (0 : Int) ≤ (i : Int) := by omega
          obtain ⟨f0, f1, _, _⟩ := ten_facts m (.slice A m.blocks.length c) w.heap.size i hi
          have m0 : wr.cell? ⟨g0, i, none⟩ = some (.pointer (some ⟨w.heap.size, tenK i, none⟩)) := by rw [World.ownsRow.cellAt HE2.out.o0 i (by omega)]; exact f0
          have m1 : wr.cell? ⟨w.heap.size, tenK i, none⟩ = some (.int .i64 m.tens[i]!) := by rw [← tenI_eq m i hi]; exact (HE2.out.blk.cell (tenK i)).trans f1
          have htl : m.tens.length = 10 := rfl
          have HTK := Lib.hid (take_ints (vs := m.tens) (i := i) (by omega))
          have hlen2 := i64s_len (m.tens.take i)
          rw [List.length_take] at hlen2
          have HLN : Hid (((m.tens.take i).flatMap intT).length + 11 * 1 ≤ 140737488355328) := Lib.hid (by omega)
          have hv : ∀ v ∈ [m.tens[i]!], -9223372036854775808 ≤ v ∧ v ≤ 9223372036854775807 := fun v hv => by
            rw [List.mem_singleton] at hv
            subst hv
            refine HS.out _ ?_
            unfold Man.nums
            simp only [List.mem_append]
            refine .inl (.inl ?_)
            rw [getElem!_pos m.tens i (by omega)]
            exact List.getElem_mem _
          obtain ⟨v, hve⟩ : ∃ v, m.tens[i]! = v := ⟨_, rfl⟩
          obtain ⟨k, hk⟩ : ∃ k, tenK i = k := ⟨_, rfl⟩
          rw [hve] at m1 hv HTK
          rw [hk] at m0 m1
          have HV := Lib.hid hv
          clear f0 f1 htl hlen2 hve hk hv
          go_wp2_with fail
          refine (put_calls (w.heap.size + 1) Q wr.heap.size _ [v] _ (HE2.out.alloc _).bld (Blk.new wr _ _) (by have := HE2.out.bld.lt; omega) HV.out HLN.out (HE2.out.alloc _).size).mono ?_
          rintro e w4 ⟨rfl, hb4, he4, ho4⟩
          have HE4 := Lib.hid ((HE2.out.alloc _).put hb4 he4 ho4)
          clear hb4 he4 ho4
          go_wp2_with fail
          go_roundg (gk - 1)
          case measure => have := HIG.out; omega
          case rel => exact ⟨i + 1, by have := HIG.out; omega, by go_num, by rw [HTK.out]; have := HE4.out; simpa using this⟩
        · have el : decide ((i : Int) < 10) = false := by simp; omega
          have hi3 : i = 10 := by have := HIG.out; omega
          subst hi3
          go_wp2_with fail
          go_meet
          exact HE2.out
    case rest =>
      obtain ⟨w5, rfl⟩ : ∃ x, x = wc := ⟨_, rfl⟩
      have HE5 := Lib.hid hcut
      clear hcut
      have m3 : w5.cell? ⟨w.heap.size, 3, none⟩ = some (.int .i64 m.next) := HE5.out.blk.cell 3
      have m4 : w5.cell? ⟨w.heap.size, 4, none⟩ = some (.int .i64 m.log) := HE5.out.blk.cell 4
      have m5 : w5.cell? ⟨w.heap.size, 5, none⟩ = some (.slice A m.blocks.length c) := HE5.out.blk.cell 5
      have HV : Hid (∀ v ∈ [m.next, m.log, (m.blocks.length : Int)], -9223372036854775808 ≤ v ∧ v ≤ 9223372036854775807) := Lib.hid (fun v hv => by
        refine HS.out _ ?_
        unfold Man.nums
        simp only [List.mem_append]
        exact .inl (.inr hv))
      have HLN : Hid ((m.tens.flatMap intT).length + 11 * 3 ≤ 140737488355328) := Lib.hid (by
        have := i64s_len m.tens
        have e : m.tens.length = 10 := rfl
        rw [e] at this
        omega)
      go_wp2_with fail
      refine (put_calls (w.heap.size + 1) Q w5.heap.size _ [m.next, m.log, (m.blocks.length : Int)] _ (HE5.out.alloc _).bld (Blk.new w5 _ _) (by have := HE5.out.bld.lt; omega) HV.out HLN.out (HE5.out.alloc _).size).mono ?_
      rintro e w6 ⟨rfl, hb6, he6, ho6⟩
      have HE6 : Hid (EncAt w m A c Q g0 c0 (bodyAt m 0) w6) := Lib.hid (by rw [bodyAt_zero]; exact (HE5.out.alloc _).put hb6 he6 ho6)
      clear hb6 he6 ho6 m3 m4 m5
      have m5 : w6.cell? ⟨w.heap.size, 5, none⟩ = some (.slice A m.blocks.length c) := HE6.out.blk.cell 5
      go_upto_block 2 with fail
      obtain ⟨n, hn⟩ : ∃ n, m.blocks.length = n := ⟨_, rfl⟩
      have HN := Lib.hid hn
      rw [hn]
      have hn40 : n ≤ 1099511627776 := by rw [← hn]; exact HL.out
      clear hn m5
      go_cut [] (fun wz => EncAt w m A c Q g0 c0 (bodyAt m n) wz)
      case first =>
        go_wp2_with fail
        go_loopg [48] n (fun g s48 wr => ∃ i : Nat, i + g = n ∧ s48 = .int .i64 (i : Int) ∧ EncAt w m A c Q g0 c0 (bodyAt m i) wr)
        case atStart => exact ⟨0, by omega, rfl, HE6.out⟩
        case round =>
          obtain ⟨i, hig, rfl, he⟩ := hrel
          have HIG := Lib.hid hig
          have HE2 := Lib.hid he
          clear hig he
          by_cases hi : i < n
          · have el : decide ((i : Int) < (n : Int)) = true := by simp; omega
            have e0 : (i : Int) < (n : Int) := by omega
            have e1 : (0 : Int) ≤ (i : Int) := by omega
            have hI2 : Infs wr A m.blocks.length m.blocks := HI.out.below HE2.out.below
            obtain ⟨bb, off, rfl, hbl, kc⟩ := hI2.at_ (i := i) (by rw [HN.out]; exact hi)
            have m0 : wr.cell? ⟨bb, off + i * 5, none⟩ = _ := kc 0 _ rfl
            have m1 := kc 1 _ rfl
            have m2 := kc 2 _ rfl
            have m3 := kc 3 _ rfl
            have m4 := kc 4 _ rfl
            have HTK := Lib.hid (bodyAt_succ (m := m) (i := i) (by rw [HN.out]; exact hi))
            have HLN : Hid ((bodyAt m i).length + 11 * 5 ≤ 140737488355328) := Lib.hid (by
              have := bodyAt_len m i (by rw [HN.out]; omega)
              have := HL.out
              have := HN.out
              omega)
            have hv : ∀ v ∈ (m.blocks[i]!).nums, -9223372036854775808 ≤ v ∧ v ≤ 9223372036854775807 := fun v hv => by
              refine HS.out _ ?_
              unfold Man.nums
              simp only [List.mem_append]
              refine .inr (List.mem_flatMap.2 ⟨m.blocks[i]!, ?_, hv⟩)
              rw [getElem!_pos m.blocks i (by rw [HN.out]; exact hi)]
              exact List.getElem_mem _
            obtain ⟨x, hx⟩ : ∃ x, m.blocks[i]! = x := ⟨_, rfl⟩
            rw [hx] at hv HTK
            simp only [hx] at m0 m1 m2 m3 m4
            have HV := Lib.hid hv
            clear hI2 kc hx hv
            go_upto_region 15 with fail
            obtain ⟨W7, hW7⟩ : ∃ X, wr.alloc (.cells #[.int .i64 x.id, .int .i64 x.res, .int .i64 x.frm, .int .i64 x.to_, .int .i64 x.bytes] 116) = X := ⟨_, rfl⟩
            have HE7 : Hid (EncAt w m (some ⟨bb, off, none⟩) c Q g0 c0 (bodyAt m i) W7) := Lib.hid (by rw [← hW7]; exact HE2.out.alloc _)
            have kx : Blk W7 wr.heap.size 116 #[.int .i64 x.id, .int .i64 x.res, .int .i64 x.frm, .int .i64 x.to_, .int .i64 x.bytes] := by rw [← hW7]; exact Blk.new wr _ _
            rw [hW7]
            clear hW7 m0 m1 m2 m3 m4
            obtain ⟨U, hU⟩ : ∃ Q, wr.heap.size = Q := ⟨_, rfl⟩
            rw [hU] at kx ⊢
            have m0 := kx.cell 0
            have m1 := kx.cell 1
            have m2 := kx.cell 2
            have m3 := kx.cell 3
            have m4 := kx.cell 4
            clear kx hU hbl
            go_wp2_with fail
            refine (put_calls (w.heap.size + 1) Q W7.heap.size _ x.nums _ (HE7.out.alloc _).bld (Blk.new W7 _ _) (by have := HE7.out.bld.lt; omega) HV.out HLN.out (HE7.out.alloc _).size).mono ?_
            rintro e w8 ⟨rfl, hb8, he8, ho8⟩
            have HE8 : Hid (EncAt w m (some ⟨bb, off, none⟩) c Q g0 c0 (bodyAt m (i + 1)) w8) := Lib.hid (by rw [HTK.out]; exact (HE7.out.alloc _).put hb8 he8 ho8)
            clear hb8 he8 ho8 m0 m1 m2 m3 m4
            go_wp2_with fail
            go_roundg (gk - 1)
            case measure => have := HIG.out; omega
            case rel => exact ⟨i + 1, by have := HIG.out; omega, by go_num, HE8.out⟩
          · have el : decide ((i : Int) < (n : Int)) = false := by simp; omega
            have hi3 : i = n := by have := HIG.out; omega
            subst hi3
            go_wp2_with fail
            go_meet
            exact HE2.out
      case rest =>
        obtain ⟨w9, rfl⟩ : ∃ x, x = wc := ⟨_, rfl⟩
        have HE9 := Lib.hid hcut
        clear hcut
        go_wp2_with fail
        refine (bstring_calls (w.heap.size + 1) Q _ w9 HE9.out.bld HE9.out.size).mono ?_
        rintro e w10 ⟨rfl, hb10⟩
        have HB10 := Lib.hid (HE9.out.below.trans (Below.low hb10 (by omega)))
        clear hb10
        go_wp2_with fail
        refine (seal_calls ⟨(bodyAt m n).toArray⟩ (by have := bodyAt_len m n (by rw [HN.out]; omega); have := HL.out; have := HN.out; show (bodyAt m n).toArray.size ≤ _; rw [List.size_toArray]; omega) w10 (HT.out.below HT.out.lt HB10.out)).mono ?_
        rintro e w11 ⟨rfl, hb11⟩
        have HB11 := Lib.hid (HB10.out.trans (hb11.mono HB10.out.size))
        clear hb11
        go_wp2_with fail
        go_ret2
        refine ⟨?_, HB11.out⟩
        have hb : bodyAt m n = m.body := by rw [← HN.out]; exact bodyAt_full m
        rw [hb, if_pos HFIT.out, if_pos HFIT.out]
        rfl
end Go.Proofs.YtfpgbhimgfdddaaGreatDoor

/- The walk of layer 20 (store): Decode$1, which takes a number. -/
namespace Go.Proofs.YtfpgbhimgfdddaaGreatDoor
open Go.RowKit Go.Shelf Go.Sort
attribute [local go_sem ↓] Go.wp_at_zero Go.wp_at_succ
attribute [local go_sem] Later.cell Later.frozen

theorem takeI_read (body : List UInt8) (at_ : Nat) : ∃ v n e, readAt body (at_ : Int) = (v, n, e) ∧ takeI body (at_, 0) = ((if e = 0 then unzig v else 0), ((if e = 0 then n else 0), e)) := by
  rw [readAt_nat]
  unfold takeI readI outOf
  cases readU (body.drop at_) with
  | error c =>
    refine ⟨0, 0, c, rfl, ?_⟩
    by_cases hc : c = 0
    · subst hc; rfl
    · simp [hc]
  | ok x => exact ⟨x.1, at_ + x.2, 0, rfl, rfl⟩
theorem takeI_off (body : List UInt8) (at_ e : Nat) (h : e ≠ 0) : takeI body (at_, e) = (0, (at_, e)) := by
  unfold takeI
  rw [if_neg h]
/-- The three boxes of take: the error, the body, the place. -/
structure TakeAt (be bb ba : Nat) (body : ByteArray) (s : Nat × Nat) (w : World) : Prop where
  e : Blk w be 26 #[.int .i64 (s.2 : Int)]
  b : Blk w bb 9 #[.string body]
  a : Blk w ba 3 #[.int .i64 (s.1 : Int)]
def TakeOut (be bb ba : Nat) (body : ByteArray) (s : Nat × Nat) (w : World) (en : Ending) (w' : World) : Prop :=
  en = .returned (.int .i64 (takeI body.data.toList s).1) ∧ TakeAt be bb ba body (takeI body.data.toList s).2 w' ∧ Kept w.heap.size [be, ba] w w'
set_option maxRecDepth 100000 in
set_option maxHeartbeats 4000000 in
theorem take_calls (be bb ba : Nat) (body : ByteArray) (s : Nat × Nat) (w : World) (h : TakeAt be bb ba body s w) (hab : ba ≠ be) (hbb : bb ≠ be) (hba : bb ≠ ba) (hs : body.size ≤ 140737488351232) :
    Calls Tryz.prog 57 #[.pointer (some ⟨be, 0, none⟩), .pointer (some ⟨bb, 0, none⟩), .pointer (some ⟨ba, 0, none⟩)] w (TakeOut be bb ba body s w) := by
  obtain ⟨at_, e⟩ := s
  have H := Lib.hid h
  have m0 : w.cell? ⟨be, 0, none⟩ = some (.int .i64 (e : Int)) := h.e.cell 0
  have m1 : w.cell? ⟨bb, 0, none⟩ = some (.string body) := h.b.cell 0
  have m2 : w.cell? ⟨ba, 0, none⟩ = some (.int .i64 (at_ : Int)) := h.a.cell 0
  have z0 := h.e.frozen 0
  have z2 := h.a.frozen 0
  have HD := Lib.hid (⟨hab, hbb, hba⟩ : _ ∧ _ ∧ _)
  have hab2 : be ≠ ba := fun e => hab e.symm
  clear h hbb hba
  cases e with
  | succ e =>
    have d0 : decide (((e + 1 : Nat) : Int) = 0) = false := by simp; omega
    go_enter Tryz.func57, Tryz.ntmps57
    go_wp2_with fail
    go_ret
    refine ⟨?_, ?_, Kept.refl _ _ _⟩
    · rw [takeI_off _ _ _ (by omega)]; rfl
    · rw [takeI_off _ _ _ (by omega)]; exact H.out
  | zero =>
    obtain ⟨v, n, e, h1, h2⟩ := takeI_read body.data.toList at_
    have HC := Lib.hid (readint_calls body (at_ : Int) v n e h1 hs w)
    have H2 := Lib.hid h2
    clear h1 h2
    go_enter Tryz.func57, Tryz.ntmps57
    go_wp2_with fail
    refine HC.out.mono ?_
    rintro _ w1 ⟨rfl, rfl⟩
    obtain ⟨vv, hvv⟩ : ∃ x, (if e = 0 then unzig v else 0) = x := ⟨_, rfl⟩
    have hnn : (if e = 0 then (n : Int) else 0) = (((if e = 0 then n else 0 : Nat)) : Int) := by split <;> rfl
    rw [hvv] at H2
    rw [hvv, hnn]
    obtain ⟨nn, hnn2⟩ : ∃ x, (if e = 0 then n else 0) = x := ⟨_, rfl⟩
    rw [hnn2] at H2
    rw [hnn2]
    clear hvv hnn hnn2
    go_wp2_with fail
    go_ret
    unfold TakeOut
    rw [H2.out]
    have d := HD.out
    refine ⟨rfl, ⟨?_, ?_, ?_⟩, ((Kept.refl _ _ _).setCell (p := ⟨ba, 0, none⟩) (.inl (by simp)) _).setCell (p := ⟨be, 0, none⟩) (.inl (by simp)) _⟩
    · exact (Blk.far H.out.e (p := ⟨ba, 0, none⟩) (by simp; omega) _).set_ 0 _
    · exact (Blk.far (Blk.far H.out.b (p := ⟨ba, 0, none⟩) (by simp; omega) _) (p := ⟨be, 0, none⟩) (by simp; omega) _)
    · exact Blk.far (H.out.a.set_ 0 _) (p := ⟨be, 0, none⟩) (by simp; omega) _
end Go.Proofs.YtfpgbhimgfdddaaGreatDoor

/- The walk of layer 20 (store): Decode; what it keeps in its hands. -/
namespace Go.Proofs.YtfpgbhimgfdddaaGreatDoor
open Go.RowKit Go.Shelf Go.Sort

theorem takesI_snoc (body : List UInt8) : ∀ (n : Nat) (s : Nat × Nat), takesI body (n + 1) s = ((takesI body n s).1 ++ [(takeI body (takesI body n s).2).1], (takeI body (takesI body n s).2).2)
  | 0, s => rfl
  | n + 1, s => by
    have ih := takesI_snoc body n (takeI body s).2
    rw [takesI, ih, takesI]
    rfl
theorem takesI_len (body : List UInt8) : ∀ (n : Nat) (s : Nat × Nat), (takesI body n s).1.length = n
  | 0, _ => rfl
  | n + 1, s => by rw [takesI]; simp [takesI_len body n]
theorem unseal_len {s body : List UInt8} (h : unsealT s = .ok body) : body.length ≤ s.length := by
  unfold unsealT at h
  split at h
  · cases h
  · split at h
    · injection h with h
      subst h
      simp
    · cases h
/-- The ten numbers so far, with zeros behind. -/
def padT (t : List Int) : List Int := t ++ List.replicate (10 - t.length) 0
def tenMan (t : List Int) : Man := manOf (padT t) 0 0 []
theorem tenMan_set (t : List Int) (x : Int) (v : Value) (h : t.length < 10) : (manV (tenMan t) v).setIfInBounds (tenK t.length) (.int .i64 x) = manV (tenMan (t ++ [x])) v := by
  match t, h with
  | [], _ => rfl
  | [_], _ => rfl
  | [_, _], _ => rfl
  | [_, _, _], _ => rfl
  | [_, _, _, _], _ => rfl
  | [_, _, _, _, _], _ => rfl
  | [_, _, _, _, _, _], _ => rfl
  | [_, _, _, _, _, _, _], _ => rfl
  | [_, _, _, _, _, _, _, _], _ => rfl
  | [_, _, _, _, _, _, _, _, _], _ => rfl
  | _ :: _ :: _ :: _ :: _ :: _ :: _ :: _ :: _ :: _ :: t, h => exact absurd h (by simp)
theorem tenK_lt : ∀ i, tenK i < 13
  | 0 => by decide
  | 1 => by decide
  | 2 => by decide
  | 3 => by decide
  | 4 => by decide
  | 5 => by decide
  | 6 => by decide
  | 7 => by decide
  | 8 => by decide
  | 9 => by decide
  | i + 10 => by show (#[0, 7, 10, 1, 8, 11, 2, 9, 12, 6] : Array Nat).getD (i + 10) 0 < 13; simp
/-- What Decode keeps in its hands. -/
structure DecAt (w : World) (S g0 c0 : Nat) (body : ByteArray) (s : Nat × Nat) (m : Man) (v : Value) (wr : World) : Prop where
  below : Below w.heap.size w wr
  tk : TakeAt (S + 1) S (S + 2) body s wr
  box : Blk wr (S + 3) 25 (manV m v)
  res : Blk wr w.heap.size 25 (manV .zero (.slice none 0 0))
  o0 : wr.ownsRow (S + 4) 114 1 (.slice (some ⟨g0, 0, none⟩) 10 c0) 10 (tenP (S + 3))
  hS : w.heap.size < S
theorem DecAt.take {w : World} {S g0 c0 : Nat} {body : ByteArray} {s s' : Nat × Nat} {m : Man} {v : Value} {wr w' : World} (h : DecAt w S g0 c0 body s m v wr) (ht : TakeAt (S + 1) S (S + 2) body s' w') (hk : Kept wr.heap.size [S + 1, S + 2] wr w') : DecAt w S g0 c0 body s' m v w' := by
  have hS := h.hS
  refine ⟨h.below.trans ((hk.mono (Nat.le_refl _) (fun k _ hm => hm)).mono (B' := w.heap.size) (ex' := [S + 1, S + 2]) h.below.size (fun k _ hm => hm) |>.below (by simp; omega)), ht, ?_, ?_, ownsRow.same h.o0 fun k hk2 => ?_, hS⟩
  · exact h.box.kept hk h.box.lt (by simp)
  · exact h.res.kept hk h.res.lt (by simp; omega)
  · have := World.ownsRow.lt h.o0 k hk2
    exact hk.block k this.2 (by simp; omega)
theorem DecAt.set {w : World} {S g0 c0 : Nat} {body : ByteArray} {s : Nat × Nat} {m m' : Man} {v v' : Value} {wr : World} (h : DecAt w S g0 c0 body s m v wr) (k : Nat) (u : Value) (hm : (manV m v).setIfInBounds k u = manV m' v') : DecAt w S g0 c0 body s m' v' (wr.setCell ⟨S + 3, k, none⟩ u) := by
  have hS := h.hS
  refine ⟨h.below.setCell (by simp; omega) u, ⟨?_, ?_, ?_⟩, ?_, ?_, ownsRow.same h.o0 fun j hj => ?_, hS⟩
  · exact Blk.far h.tk.e (by simp) u
  · exact Blk.far h.tk.b (by simp) u
  · exact Blk.far h.tk.a (by simp) u
  · rw [← hm]; exact h.box.set_ k u
  · exact Blk.far h.res (by simp; omega) u
  · have := World.ownsRow.lt h.o0 j hj
    exact Below.heap_setCell _ _ _ j (by simp; omega)
theorem fill13 {W : World} {b : Nat} {m m' : Man} {v v' : Value} (h : Blk W b 25 (manV m v)) :
    Blk (((((((((((((W.setCell ⟨b, 0, none⟩ (.int .i64 m'.w0)).setCell ⟨b, 1, none⟩ (.int .i64 m'.w1)).setCell ⟨b, 2, none⟩ (.int .i64 m'.w2)).setCell ⟨b, 3, none⟩ (.int .i64 m'.next)).setCell ⟨b, 4, none⟩ (.int .i64 m'.log)).setCell ⟨b, 5, none⟩ v').setCell ⟨b, 6, none⟩ (.int .i64 m'.cut)).setCell ⟨b, 7, none⟩ (.int .i64 m'.r0)).setCell ⟨b, 8, none⟩ (.int .i64 m'.r1)).setCell ⟨b, 9, none⟩ (.int .i64 m'.r2)).setCell ⟨b, 10, none⟩ (.int .i64 m'.l0)).setCell ⟨b, 11, none⟩ (.int .i64 m'.l1)).setCell ⟨b, 12, none⟩ (.int .i64 m'.l2)) b 25 (manV m' v') ∧ Below b W (((((((((((((W.setCell ⟨b, 0, none⟩ (.int .i64 m'.w0)).setCell ⟨b, 1, none⟩ (.int .i64 m'.w1)).setCell ⟨b, 2, none⟩ (.int .i64 m'.w2)).setCell ⟨b, 3, none⟩ (.int .i64 m'.next)).setCell ⟨b, 4, none⟩ (.int .i64 m'.log)).setCell ⟨b, 5, none⟩ v').setCell ⟨b, 6, none⟩ (.int .i64 m'.cut)).setCell ⟨b, 7, none⟩ (.int .i64 m'.r0)).setCell ⟨b, 8, none⟩ (.int .i64 m'.r1)).setCell ⟨b, 9, none⟩ (.int .i64 m'.r2)).setCell ⟨b, 10, none⟩ (.int .i64 m'.l0)).setCell ⟨b, 11, none⟩ (.int .i64 m'.l1)).setCell ⟨b, 12, none⟩ (.int .i64 m'.l2)) :=
by
  have h0 : Blk (W.setCell ⟨b, 0, none⟩ (.int .i64 m'.w0)) b 25 (manV ⟨m'.w0, m.w1, m.w2, m.next, m.log, m'.blocks, m.cut, m.r0, m.r1, m.r2, m.l0, m.l1, m.l2⟩ v) := Blk.set_ h 0 (.int .i64 m'.w0)
  have h1 : Blk ((W.setCell ⟨b, 0, none⟩ (.int .i64 m'.w0)).setCell ⟨b, 1, none⟩ (.int .i64 m'.w1)) b 25 (manV ⟨m'.w0, m'.w1, m.w2, m.next, m.log, m'.blocks, m.cut, m.r0, m.r1, m.r2, m.l0, m.l1, m.l2⟩ v) := Blk.set_ h0 1 (.int .i64 m'.w1)
  have h2 : Blk (((W.setCell ⟨b, 0, none⟩ (.int .i64 m'.w0)).setCell ⟨b, 1, none⟩ (.int .i64 m'.w1)).setCell ⟨b, 2, none⟩ (.int .i64 m'.w2)) b 25 (manV ⟨m'.w0, m'.w1, m'.w2, m.next, m.log, m'.blocks, m.cut, m.r0, m.r1, m.r2, m.l0, m.l1, m.l2⟩ v) := Blk.set_ h1 2 (.int .i64 m'.w2)
  have h3 : Blk ((((W.setCell ⟨b, 0, none⟩ (.int .i64 m'.w0)).setCell ⟨b, 1, none⟩ (.int .i64 m'.w1)).setCell ⟨b, 2, none⟩ (.int .i64 m'.w2)).setCell ⟨b, 3, none⟩ (.int .i64 m'.next)) b 25 (manV ⟨m'.w0, m'.w1, m'.w2, m'.next, m.log, m'.blocks, m.cut, m.r0, m.r1, m.r2, m.l0, m.l1, m.l2⟩ v) := Blk.set_ h2 3 (.int .i64 m'.next)
  have h4 : Blk (((((W.setCell ⟨b, 0, none⟩ (.int .i64 m'.w0)).setCell ⟨b, 1, none⟩ (.int .i64 m'.w1)).setCell ⟨b, 2, none⟩ (.int .i64 m'.w2)).setCell ⟨b, 3, none⟩ (.int .i64 m'.next)).setCell ⟨b, 4, none⟩ (.int .i64 m'.log)) b 25 (manV ⟨m'.w0, m'.w1, m'.w2, m'.next, m'.log, m'.blocks, m.cut, m.r0, m.r1, m.r2, m.l0, m.l1, m.l2⟩ v) := Blk.set_ h3 4 (.int .i64 m'.log)
  have h5 : Blk ((((((W.setCell ⟨b, 0, none⟩ (.int .i64 m'.w0)).setCell ⟨b, 1, none⟩ (.int .i64 m'.w1)).setCell ⟨b, 2, none⟩ (.int .i64 m'.w2)).setCell ⟨b, 3, none⟩ (.int .i64 m'.next)).setCell ⟨b, 4, none⟩ (.int .i64 m'.log)).setCell ⟨b, 5, none⟩ v') b 25 (manV ⟨m'.w0, m'.w1, m'.w2, m'.next, m'.log, m'.blocks, m.cut, m.r0, m.r1, m.r2, m.l0, m.l1, m.l2⟩ v') := Blk.set_ h4 5 v'
  have h6 : Blk (((((((W.setCell ⟨b, 0, none⟩ (.int .i64 m'.w0)).setCell ⟨b, 1, none⟩ (.int .i64 m'.w1)).setCell ⟨b, 2, none⟩ (.int .i64 m'.w2)).setCell ⟨b, 3, none⟩ (.int .i64 m'.next)).setCell ⟨b, 4, none⟩ (.int .i64 m'.log)).setCell ⟨b, 5, none⟩ v').setCell ⟨b, 6, none⟩ (.int .i64 m'.cut)) b 25 (manV ⟨m'.w0, m'.w1, m'.w2, m'.next, m'.log, m'.blocks, m'.cut, m.r0, m.r1, m.r2, m.l0, m.l1, m.l2⟩ v') := Blk.set_ h5 6 (.int .i64 m'.cut)
  have h7 : Blk ((((((((W.setCell ⟨b, 0, none⟩ (.int .i64 m'.w0)).setCell ⟨b, 1, none⟩ (.int .i64 m'.w1)).setCell ⟨b, 2, none⟩ (.int .i64 m'.w2)).setCell ⟨b, 3, none⟩ (.int .i64 m'.next)).setCell ⟨b, 4, none⟩ (.int .i64 m'.log)).setCell ⟨b, 5, none⟩ v').setCell ⟨b, 6, none⟩ (.int .i64 m'.cut)).setCell ⟨b, 7, none⟩ (.int .i64 m'.r0)) b 25 (manV ⟨m'.w0, m'.w1, m'.w2, m'.next, m'.log, m'.blocks, m'.cut, m'.r0, m.r1, m.r2, m.l0, m.l1, m.l2⟩ v') := Blk.set_ h6 7 (.int .i64 m'.r0)
  have h8 : Blk (((((((((W.setCell ⟨b, 0, none⟩ (.int .i64 m'.w0)).setCell ⟨b, 1, none⟩ (.int .i64 m'.w1)).setCell ⟨b, 2, none⟩ (.int .i64 m'.w2)).setCell ⟨b, 3, none⟩ (.int .i64 m'.next)).setCell ⟨b, 4, none⟩ (.int .i64 m'.log)).setCell ⟨b, 5, none⟩ v').setCell ⟨b, 6, none⟩ (.int .i64 m'.cut)).setCell ⟨b, 7, none⟩ (.int .i64 m'.r0)).setCell ⟨b, 8, none⟩ (.int .i64 m'.r1)) b 25 (manV ⟨m'.w0, m'.w1, m'.w2, m'.next, m'.log, m'.blocks, m'.cut, m'.r0, m'.r1, m.r2, m.l0, m.l1, m.l2⟩ v') := Blk.set_ h7 8 (.int .i64 m'.r1)
  have h9 : Blk ((((((((((W.setCell ⟨b, 0, none⟩ (.int .i64 m'.w0)).setCell ⟨b, 1, none⟩ (.int .i64 m'.w1)).setCell ⟨b, 2, none⟩ (.int .i64 m'.w2)).setCell ⟨b, 3, none⟩ (.int .i64 m'.next)).setCell ⟨b, 4, none⟩ (.int .i64 m'.log)).setCell ⟨b, 5, none⟩ v').setCell ⟨b, 6, none⟩ (.int .i64 m'.cut)).setCell ⟨b, 7, none⟩ (.int .i64 m'.r0)).setCell ⟨b, 8, none⟩ (.int .i64 m'.r1)).setCell ⟨b, 9, none⟩ (.int .i64 m'.r2)) b 25 (manV ⟨m'.w0, m'.w1, m'.w2, m'.next, m'.log, m'.blocks, m'.cut, m'.r0, m'.r1, m'.r2, m.l0, m.l1, m.l2⟩ v') := Blk.set_ h8 9 (.int .i64 m'.r2)
  have h10 : Blk (((((((((((W.setCell ⟨b, 0, none⟩ (.int .i64 m'.w0)).setCell ⟨b, 1, none⟩ (.int .i64 m'.w1)).setCell ⟨b, 2, none⟩ (.int .i64 m'.w2)).setCell ⟨b, 3, none⟩ (.int .i64 m'.next)).setCell ⟨b, 4, none⟩ (.int .i64 m'.log)).setCell ⟨b, 5, none⟩ v').setCell ⟨b, 6, none⟩ (.int .i64 m'.cut)).setCell ⟨b, 7, none⟩ (.int .i64 m'.r0)).setCell ⟨b, 8, none⟩ (.int .i64 m'.r1)).setCell ⟨b, 9, none⟩ (.int .i64 m'.r2)).setCell ⟨b, 10, none⟩ (.int .i64 m'.l0)) b 25 (manV ⟨m'.w0, m'.w1, m'.w2, m'.next, m'.log, m'.blocks, m'.cut, m'.r0, m'.r1, m'.r2, m'.l0, m.l1, m.l2⟩ v') := Blk.set_ h9 10 (.int .i64 m'.l0)
  have h11 : Blk ((((((((((((W.setCell ⟨b, 0, none⟩ (.int .i64 m'.w0)).setCell ⟨b, 1, none⟩ (.int .i64 m'.w1)).setCell ⟨b, 2, none⟩ (.int .i64 m'.w2)).setCell ⟨b, 3, none⟩ (.int .i64 m'.next)).setCell ⟨b, 4, none⟩ (.int .i64 m'.log)).setCell ⟨b, 5, none⟩ v').setCell ⟨b, 6, none⟩ (.int .i64 m'.cut)).setCell ⟨b, 7, none⟩ (.int .i64 m'.r0)).setCell ⟨b, 8, none⟩ (.int .i64 m'.r1)).setCell ⟨b, 9, none⟩ (.int .i64 m'.r2)).setCell ⟨b, 10, none⟩ (.int .i64 m'.l0)).setCell ⟨b, 11, none⟩ (.int .i64 m'.l1)) b 25 (manV ⟨m'.w0, m'.w1, m'.w2, m'.next, m'.log, m'.blocks, m'.cut, m'.r0, m'.r1, m'.r2, m'.l0, m'.l1, m.l2⟩ v') := Blk.set_ h10 11 (.int .i64 m'.l1)
  have h12 : Blk (((((((((((((W.setCell ⟨b, 0, none⟩ (.int .i64 m'.w0)).setCell ⟨b, 1, none⟩ (.int .i64 m'.w1)).setCell ⟨b, 2, none⟩ (.int .i64 m'.w2)).setCell ⟨b, 3, none⟩ (.int .i64 m'.next)).setCell ⟨b, 4, none⟩ (.int .i64 m'.log)).setCell ⟨b, 5, none⟩ v').setCell ⟨b, 6, none⟩ (.int .i64 m'.cut)).setCell ⟨b, 7, none⟩ (.int .i64 m'.r0)).setCell ⟨b, 8, none⟩ (.int .i64 m'.r1)).setCell ⟨b, 9, none⟩ (.int .i64 m'.r2)).setCell ⟨b, 10, none⟩ (.int .i64 m'.l0)).setCell ⟨b, 11, none⟩ (.int .i64 m'.l1)).setCell ⟨b, 12, none⟩ (.int .i64 m'.l2)) b 25 (manV ⟨m'.w0, m'.w1, m'.w2, m'.next, m'.log, m'.blocks, m'.cut, m'.r0, m'.r1, m'.r2, m'.l0, m'.l1, m'.l2⟩ v') := Blk.set_ h11 12 (.int .i64 m'.l2)
  exact ⟨h12, (Below.setCell (Below.setCell (Below.setCell (Below.setCell (Below.setCell (Below.setCell (Below.setCell (Below.setCell (Below.setCell (Below.setCell (Below.setCell (Below.setCell (Below.setCell (Below.refl _ _) (p := ⟨b, 0, none⟩) (Nat.le_refl _) (.int .i64 m'.w0)) (p := ⟨b, 1, none⟩) (Nat.le_refl _) (.int .i64 m'.w1)) (p := ⟨b, 2, none⟩) (Nat.le_refl _) (.int .i64 m'.w2)) (p := ⟨b, 3, none⟩) (Nat.le_refl _) (.int .i64 m'.next)) (p := ⟨b, 4, none⟩) (Nat.le_refl _) (.int .i64 m'.log)) (p := ⟨b, 5, none⟩) (Nat.le_refl _) v') (p := ⟨b, 6, none⟩) (Nat.le_refl _) (.int .i64 m'.cut)) (p := ⟨b, 7, none⟩) (Nat.le_refl _) (.int .i64 m'.r0)) (p := ⟨b, 8, none⟩) (Nat.le_refl _) (.int .i64 m'.r1)) (p := ⟨b, 9, none⟩) (Nat.le_refl _) (.int .i64 m'.r2)) (p := ⟨b, 10, none⟩) (Nat.le_refl _) (.int .i64 m'.l0)) (p := ⟨b, 11, none⟩) (Nat.le_refl _) (.int .i64 m'.l1)) (p := ⟨b, 12, none⟩) (Nat.le_refl _) (.int .i64 m'.l2))⟩

theorem i64_zero : i64 0 := ⟨by decide, by decide⟩
theorem takeI_i64 (body : List UInt8) (s : Nat × Nat) : i64 (takeI body s).1 := by
  unfold takeI
  split
  · cases h : readI (body.drop s.1) with
    | error c => exact i64_zero
    | ok x =>
      obtain ⟨v, k⟩ := x
      simp only
      unfold readI at h
      cases hu : readU (body.drop s.1) with
      | error c => rw [hu] at h; cases h
      | ok y =>
        obtain ⟨u, k2⟩ := y
        rw [hu] at h
        injection h with h
        injection h with h1 h2
        subst h1
        exact unzig_range (readU_lt hu).1
  · exact i64_zero
theorem takeI_pos {body : List UInt8} {s : Nat × Nat} (h : (takeI body s).2.2 = 0) : s.2 = 0 ∧ s.1 + 1 ≤ (takeI body s).2.1 ∧ (takeI body s).2.1 ≤ body.length := by
  unfold takeI at h ⊢
  split at h
  · rename_i h0
    rw [if_pos h0]
    refine ⟨h0, ?_⟩
    cases hr : readI (body.drop s.1) with
    | error c =>
      rw [hr] at h
      simp only at h
      subst h
      unfold readI at hr
      cases hu : readU (body.drop s.1) with
      | error c =>
        rw [hu] at hr
        injection hr with hr
        exact absurd hr (readU_fault hu)
      | ok y => rw [hu] at hr; cases hr
    | ok x =>
      obtain ⟨v, k⟩ := x
      simp only
      unfold readI at hr
      cases hu : readU (body.drop s.1) with
      | error c => rw [hu] at hr; cases hr
      | ok y =>
        obtain ⟨u, k2⟩ := y
        rw [hu] at hr
        injection hr with hr
        injection hr with h1 h2
        subst h2
        have := readU_lt hu
        rw [List.length_drop] at this
        omega
  · rename_i h0
    exact absurd h h0
theorem takesI_i64 (body : List UInt8) : ∀ (n : Nat) (s : Nat × Nat), ∀ v ∈ (takesI body n s).1, i64 v
  | 0, _, v, h => by simp [takesI] at h
  | n + 1, s, v, h => by
    rw [takesI] at h
    rcases List.mem_cons.1 h with rfl | h
    · exact takeI_i64 _ _
    · exact takesI_i64 body n _ v h
theorem takes5_pos {body : List UInt8} {s : Nat × Nat} (h : (takesI body 5 s).2.2 = 0) : s.1 + 1 ≤ (takesI body 5 s).2.1 ∧ (takesI body 5 s).2.1 ≤ body.length := by
  simp only [takesI] at h ⊢
  have h5 := takeI_pos h
  have h4 := takeI_pos h5.1
  have h3 := takeI_pos h4.1
  have h2 := takeI_pos h3.1
  have h1 := takeI_pos h2.1
  omega
/-- The info that five takes read. -/
def info5 (body : List UInt8) (s : Nat × Nat) : Inf := infOf (takesI body 5 s).1
theorem info5_i64 (body : List UInt8) (s : Nat × Nat) : ∀ v ∈ (info5 body s).nums, i64 v := fun v hv => takesI_i64 body 5 s v hv
theorem blocksI_zero (body : List UInt8) (s : Nat × Nat) : blocksI body 0 s = ([], s) := rfl
theorem blocksI_off {body : List UInt8} {s : Nat × Nat} (h : s.2 ≠ 0) : ∀ g, blocksI body g s = ([], s)
  | 0 => rfl
  | g + 1 => by rw [blocksI, if_neg h]
theorem blocksI_on {body : List UInt8} {s : Nat × Nat} (h : s.2 = 0) (g : Nat) : blocksI body (g + 1) s = (info5 body s :: (blocksI body g (takesI body 5 s).2).1, (blocksI body g (takesI body 5 s).2).2) := by
  rw [blocksI, if_pos h]
  rfl
theorem man_ten {t : List Int} (h : t.length = 10) (a b : Int) (bl : List Inf) : { tenMan t with next := a, log := b, blocks := bl } = manOf t a b bl := by
  match t, h with
  | [_, _, _, _, _, _, _, _, _, _], _ => rfl
/-- What is read of a body, step by step. -/
theorem readM_steps {body : List UInt8} {t : List Int} {s0 : Nat × Nat} (h : takesI body 10 (0, 0) = (t, s0)) {x1 x2 x3 : Int × (Nat × Nat)} (h1 : takeI body s0 = x1) (h2 : takeI body x1.2 = x2) (h3 : takeI body x2.2 = x3) :
    readM body = ({ tenMan t with next := x1.1, log := x2.1, blocks := (blocksI body x3.1.toNat x3.2).1 }, (blocksI body x3.1.toNat x3.2).2) := by
  have ht : t.length = 10 := by have := takesI_len body 10 (0, 0); rw [h] at this; exact this
  rw [man_ten ht]
  unfold readM
  rw [h]
  subst h1 h2 h3
  rfl
theorem small_of {t : List Int} (h : t.length = 10) (ht : ∀ v ∈ t, i64 v) {a b : Int} (ha : i64 a) (hb : i64 b) {bl : List Inf} (hbl : ∀ x ∈ bl, ∀ v ∈ x.nums, i64 v) (hn : bl.length ≤ 1099511627776) : ({ tenMan t with next := a, log := b, blocks := bl } : Man).small := by
  rw [man_ten h]
  match t, h, ht with
  | [c0, c1, c2, c3, c4, c5, c6, c7, c8, c9], _, ht =>
    intro v hv
    simp only [manOf, Man.nums, Man.tens, List.mem_append, List.mem_flatMap] at hv
    rcases hv with (hv | hv) | ⟨x, hx, hv⟩
    · refine ht v ?_
      simpa using hv
    · have h3 : v = a ∨ v = b ∨ v = (bl.length : Int) := by simpa using hv
      rcases h3 with rfl | rfl | rfl
      · exact ha
      · exact hb
      · unfold i64; omega
    · exact hbl x hx v hv
/-- What Decode keeps in its hands at the blocks' loop. -/
structure Dec2 (w : World) (S : Nat) (body : ByteArray) (s : Nat × Nat) (m : Man) (v : Value) (wr : World) : Prop where
  below : Below w.heap.size w wr
  tk : TakeAt (S + 1) S (S + 2) body s wr
  box : Blk wr (S + 3) 25 (manV m v)
  res : Blk wr w.heap.size 25 (manV .zero (.slice none 0 0))
  own : wr.ownsRow (S + 4) 116 5 v m.blocks.length (m.blocks.flatMap encInf)
  hS : w.heap.size < S
theorem DecAt.two {w : World} {S g0 c0 : Nat} {body : ByteArray} {s : Nat × Nat} {m : Man} {wr : World} (h : DecAt w S g0 c0 body s m (.slice none 0 0) wr) (hm : m.blocks = []) : Dec2 w S body s m (.slice none 0 0) wr :=
  ⟨h.below, h.tk, h.box, h.res, by rw [hm]; exact World.ownsRow_nil _ _ _ _, h.hS⟩
theorem Dec2.drew {w : World} {S : Nat} {body : ByteArray} {s : Nat × Nat} {m : Man} {v : Value} {wr : World} (h : Dec2 w S body s m v wr) : Dec2 w S body s m v wr.drew :=
  ⟨h.below.drew, ⟨h.tk.e.drew, h.tk.b.drew, h.tk.a.drew⟩, h.box.drew, h.res.drew, h.own.drew, h.hS⟩
theorem Dec2.take {w : World} {S : Nat} {body : ByteArray} {s s' : Nat × Nat} {m : Man} {v : Value} {wr w' : World} (h : Dec2 w S body s m v wr) (ht : TakeAt (S + 1) S (S + 2) body s' w') (hk : Kept wr.heap.size [S + 1, S + 2] wr w') : Dec2 w S body s' m v w' := by
  have hS := h.hS
  refine ⟨h.below.trans ((hk.mono (Nat.le_refl _) (fun k _ hm => hm)).mono (B' := w.heap.size) (ex' := [S + 1, S + 2]) h.below.size (fun k _ hm => hm) |>.below (by simp; omega)), ht, ?_, ?_, ownsRow.same h.own fun k hk2 => ?_, hS⟩
  · exact h.box.kept hk h.box.lt (by simp)
  · exact h.res.kept hk h.res.lt (by simp; omega)
  · have := World.ownsRow.lt h.own k hk2
    exact hk.block k this.2 (by simp; omega)
theorem Dec2.keep {w : World} {S : Nat} {body : ByteArray} {s : Nat × Nat} {m : Man} {v : Value} {wr w' : World} (h : Dec2 w S body s m v wr) (hb : Below wr.heap.size wr w') : Dec2 w S body s m v w' :=
  ⟨h.below.trans (hb.mono h.below.size), ⟨h.tk.e.below hb h.tk.e.lt, h.tk.b.below hb h.tk.b.lt, h.tk.a.below hb h.tk.a.lt⟩, h.box.below hb h.box.lt, h.res.below hb h.res.lt, ownsRow.same h.own fun k hk => hb.block k (World.ownsRow.lt h.own k hk).2, h.hS⟩
theorem Dec2.more {w : World} {S : Nat} {body : ByteArray} {s : Nat × Nat} {m m' : Man} {v v' : Value} {wr w' : World} (h : Dec2 w S body s m v wr) (hg : wr.grownBy w' v.ownBlock) (ho : w'.ownsRow (S + 4) 116 5 v' m'.blocks.length (m'.blocks.flatMap encInf)) (hm : (manV m v).setIfInBounds 5 v' = manV m' v') :
    Dec2 w S body s m' v' (w'.setCell ⟨S + 3, 5, none⟩ v') := by
  have hS := h.hS
  have hne : ∀ k, k < S + 4 → some k ≠ v.ownBlock := fun k hk e => by
    have := World.ownsRow.lt h.own k e.symm
    omega
  have hz : S + 4 ≤ wr.heap.size := h.box.lt
  refine ⟨?_, ⟨?_, ?_, ?_⟩, ?_, ?_, ownsRow.same ho fun k hk => ?_, hS⟩
  · refine Below.setCell ?_ (by simp; omega) _
    exact ⟨hg.os.trans h.below.os, hg.tape.trans h.below.tape, hg.output.trans h.below.output, Nat.le_trans h.below.size hg.size, fun k hk => (hg.block k (by omega) (hne k (by omega))).trans (h.below.block k hk)⟩
  · exact Blk.far (h.tk.e.grown hg (hne _ (by omega))) (by simp) _
  · exact Blk.far (h.tk.b.grown hg (hne _ (by omega))) (by simp) _
  · exact Blk.far (h.tk.a.grown hg (hne _ (by omega))) (by simp) _
  · rw [← hm]; exact (h.box.grown hg (hne _ (by omega))).set_ 5 v'
  · exact Blk.far (h.res.grown hg (hne _ (by omega))) (by simp; omega) _
  · have := World.ownsRow.lt ho k hk
    exact Below.heap_setCell _ _ _ k (by simp; omega)
/-- The loop's invariant: what is left to read. -/
structure LoopI (w : World) (S : Nat) (body : ByteArray) (M0 : Man) (N : Nat) (z : Nat × Nat) (g : Nat) (n : Int) (s : Nat × Nat) (bl : List Inf) (v : Value) (wr : World) : Prop where
  hn : n.toNat = g
  n1 : -9223372036854775808 ≤ n
  n2 : n ≤ 9223372036854775807
  at_ : Dec2 w S body s { M0 with blocks := bl } v wr
  left : blocksI body.data.toList N z = (bl ++ (blocksI body.data.toList g s).1, (blocksI body.data.toList g s).2)
  cnt : s.2 = 0 → bl.length ≤ s.1 ∧ s.1 ≤ body.size
  cnt2 : bl.length ≤ body.size + 1
  ok : ∀ x ∈ bl, ∀ v ∈ x.nums, i64 v
end Go.Proofs.YtfpgbhimgfdddaaGreatDoor
