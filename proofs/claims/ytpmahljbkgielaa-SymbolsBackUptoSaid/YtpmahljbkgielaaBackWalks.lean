/- The walks of layer 5 (symbols): the table read back from its bytes; lists of labels compared. -/
import Derived.Test.YtpmahljbkgielaaBackPlain
import Derived.Test.YtpmahljbkgielaaUnpWalksC
import Derived.Test.YtpmahljbkgielaaColWalks
namespace Go.Proofs.Ytpmahljbkgielaa
open Go.RowKit Go.Sort
attribute [local go_sem ↓] Go.wp_at_zero Go.wp_at_succ
attribute [local go_sem] Later.cell Later.frozen

def DecOut (w : World) (t : List Txt) (k : Nat) (e : Ending) (w' : World) : Prop :=
  ∃ p, e = .returned (.tuple #[.pointer (some ⟨p, 0, none⟩), .int .i64 k, .int .i64 0]) ∧ TabAt w' (.pointer (some ⟨p, 0, none⟩)) t ∧ Below w.heap.size w w'

set_option maxRecDepth 100000 in
set_option maxHeartbeats 2000000 in
theorem decode_calls (t : List Txt) (w : World) (S : ByteArray) (hS : S.data.toList = tabT t) (ha : Asc t) (hn : t.length ≤ 2097152) (hz : ∀ x ∈ t, x.length ≤ 1048576) (hSz : S.size ≤ 140737488351232) :
    Calls Try.prog 27 #[.string S, .int .i64 0] w (DecOut w t S.size) := by
  obtain ⟨i0, hi0, hz0, hz1, hz2⟩ := info_parts info_string
  have hr0 : readAt S.data.toList 0 = (t.length, (uintT t.length).length, 0) := by
    have := readAt_back [] (t.flatMap textT) (v := t.length) (by omega)
    rw [hS, tabT]
    simpa using this
  have hh : ∀ i, i ≤ t.length → (headT t i).length ≤ S.size := by
    intro i hi
    have e : S.size = (tabT t).length := by rw [← hS]; exact (text_size S).symm
    rw [e]
    rcases Nat.lt_or_eq_of_le hi with h | h
    · rw [tabT_split h, List.length_append]; omega
    · rw [headT_all t (by omega)]; exact Nat.le_refl _
  have HH := Lib.hid hh
  have HS := Lib.hid hS
  have HR := Lib.hid hr0
  have HZ := Lib.hid hz
  obtain ⟨m, hm⟩ : ∃ m, t.length = m := ⟨_, rfl⟩
  have h0 : (headT t 0).length = (uintT t.length).length := by rw [headT_zero]
  rw [hm] at hn HR HH h0
  obtain ⟨u, hu⟩ : ∃ u, (uintT m).length = u := ⟨_, rfl⟩
  rw [hu] at HR h0
  have HM := Lib.hid hm
  have H0 := Lib.hid h0
  clear hh hS hr0 hz hm h0 hu
  go_enter Try.func27, Try.ntmps27
  go_wp2_with fail
  refine (readuint_calls S 0 m u 0 HR.out hSz w).mono ?_
  rintro _ w1 ⟨rfl, rfl⟩
  go_wp2_with fail
  go_loopg [1, 7] m (fun g s1 s7 wr => ∃ (i : Nat) (v : Value), i + g = m ∧ s1 = .int .i64 ((headT t i).length : Int) ∧ s7 = .int .u64 (g : Int) ∧ Blk wr w.heap.size 62 #[v] ∧ wr.ownsRow (w.heap.size + 1) 9 1 v i ((t.take i).map txtV) ∧ Below w.heap.size w wr)
  case atStart => exact ⟨0, _, by omega, by rw [H0.out], rfl, Blk.new _ _ _, World.ownsRow_nil _ _ _ _, (Below.refl _ _).alloc (Nat.le_refl _) _⟩
  case round =>
    obtain ⟨i, v, hig, rfl, rfl, hq, hown, hB⟩ := hrel
    have HIG := Lib.hid hig
    by_cases hi : i < m
    · have el : decide ((0 : Int) < (gk : Int)) = true := by simp; omega
      have el' : decide (0 < gk) = true := by simp; omega
      clear hig
      have hil : i < t.length := by have := HM.out; omega
      have hsp := tabT_split hil
      have hlast : ∀ j, i = j + 1 → t[j]! < t[i]! := by
        rintro j rfl
        rw [getElem!_pos t j (by omega), getElem!_pos t (j + 1) hil]
        exact List.pairwise_iff_getElem.1 ha j (j + 1) (by omega) hil (by omega)
      have hhs := headT_succ hil
      have htk : t.take (i + 1) = t.take i ++ [t[i]] := List.take_succ_eq_append_getElem hil
      have hxz := HZ.out _ (List.getElem_mem hil)
      rw [getElem!_pos t i hil] at hlast
      obtain ⟨x, hx⟩ : ∃ x, t[i] = x := ⟨_, rfl⟩
      rw [hx] at hsp hlast hhs htk hxz
      have hr : readTAt S.data.toList ((headT t i).length : Int) = (x, (headT t (i + 1)).length, 0) := by
        rw [HS.out, hsp, readTAt_back _ _ (by omega), hhs, List.length_append]
      have hb1 := HH.out i (by omega)
      have hb2 := HH.out (i + 1) (by omega)
      obtain ⟨k1, hk1⟩ : ∃ k, (headT t i).length = k := ⟨_, rfl⟩
      obtain ⟨k2, hk2⟩ : ∃ k, (headT t (i + 1)).length = k := ⟨_, rfl⟩
      rw [hk1] at hr hb1 ⊢
      rw [hk2] at hr hb2
      have HR2 := Lib.hid hr
      have HK2 := Lib.hid hk2
      have HTK := Lib.hid htk
      have HLAST := Lib.hid hlast
      obtain ⟨X, hX⟩ : ∃ N : ByteArray, (⟨x.toArray⟩ : ByteArray) = N := ⟨_, rfl⟩
      have HX := Lib.hid hX
      have htl : (t.take i).length = i := by rw [List.length_take]; omega
      obtain ⟨A, c, rfl, hs, hbase, hc⟩ := Strs.of_own hown htl
      have hpne : some w.heap.size ≠ (Value.slice A i c).ownBlock := by
        intro e
        have := (hown.lt _ e.symm).1
        omega
      have hcells : ∀ j, i = j + 1 → ∃ g, A = some ⟨g, 0, none⟩ ∧ g < wr.heap.size ∧ wr.cell? ⟨g, j, none⟩ = some (txtV t[j]!) := by
        rintro j rfl
        obtain ⟨g, hg⟩ : ∃ g, A = some ⟨g, 0, none⟩ := by
          rcases hown.2 with ⟨h, _⟩ | ⟨g, cap, cur, h, _⟩
          · injection h; omega
          · injection h with h; exact ⟨g, h⟩
        obtain ⟨b, off, e, hb, hcell⟩ := hs.at_ (i := j) (by omega)
        rw [hg] at e
        injection e with e
        injection e with e1 e2
        subst e1 e2
        refine ⟨g, hg, hb, ?_⟩
        rw [getElem!_pos (t.take (j + 1)) j (by omega), List.getElem_take] at hcell
        rw [getElem!_pos t j (by omega)]
        simpa using hcell
      have HC := Lib.hid hcells
      clear hsp hlast hhs htk hx hr hk1 hk2 hX hs hbase htl hcells
      have q0 : _ = some (Value.slice A i c) := hq.cell 0
      go_wp2_with fail
      refine (readtext_calls S k1 x k2 0 HR2.out hSz wr).mono ?_
      rintro _ w1 ⟨rfl, rfl⟩
      rw [HX.out]
      go_upto_region 12 with fail
      go_cut [11, 56] (fun _s11 s56 wz => s56 = .bool false ∧ wr = wz)
      case first =>
        by_cases hi0' : i = 0
        · subst hi0'
          go_wp2_with fail
          go_meet
          exact ⟨rfl, rfl⟩
        · obtain ⟨j, rfl⟩ : ∃ j, i = j + 1 := ⟨i - 1, by omega⟩
          obtain ⟨g, rfl, hg, hcell⟩ := HC.out j rfl
          have hlt := HLAST.out j rfl
          unfold txtV at hcell
          obtain ⟨Z, hZ⟩ : ∃ N : ByteArray, (⟨(t[j]!).toArray⟩ : ByteArray) = N := ⟨_, rfl⟩
          have hql : Op.bytesLess Z.toList X.toList = true := by
            rw [← hZ, less_txt, ← HX.out]; simpa using hlt
          rw [hZ] at hcell
          have hj1 : ((j + 1 : Nat) : Int) - 1 = (j : Int) := by omega
          have hj0 : decide ((0 : Int) ≤ (j : Int)) = true := by simp
          clear hZ hlt HC HLAST
          rw [hj1]
          clear hj1
          go_wp2_with fail
          go_meet
          exact ⟨rfl, rfl⟩
      case rest =>
        obtain ⟨rfl, rfl⟩ := hcut
        have hsz : w.heap.size + 1 ≤ wr.heap.size := hq.lt
        go_wp2_with (at_builtin; refine wpList_append_own_at _ rfl _ _ 22 rfl (w.heap.size + 1) 9 i0 (.string ⟨#[]⟩) 1 16 Try.underlying22 hi0 hz0 hz1 hz2 rfl (by decide) _ _ _ rfl (hown.alloc _) ⟨wr.heap.size, 0, none⟩ 1 1 [.string X] rfl rfl ?p1 ?p2 ?p3 ?p4 ?p5 ?_)
        case p1 => exact news_of_blk (l := [.string X]) (Blk.new wr _ _)
        case p2 => intro u hu; rw [List.mem_singleton.1 hu]; rfl
        case p3 => unfold maxLen; omega
        case p4 => omega
        case p5 => simp; omega
        intro v' w2 hown' hgrow _ _
        have hall2 : wr.grownBy w2 (Value.slice A i c).ownBlock := (World.grownBy_alloc wr _ _).trans hgrow
        have hq2 := hq.grown hall2 hpne
        have hB2 : Below w.heap.size w w2 := hB.trans ⟨hall2.os, hall2.tape, hall2.output, hall2.size, fun k hk => hall2.block k (by omega) (fun e => by have := (hown.lt k e.symm).1; omega)⟩
        have hown2 : w2.ownsRow (w.heap.size + 1) 9 1 v' (i + 1) ((t.take (i + 1)).map txtV) := by
          have e1 : (t.take (i + 1)).map txtV = (t.take i).map txtV ++ [.string X] := by rw [HTK.out, List.map_append]; simp [txtV, HX.out]
          rw [e1]
          simpa using hown'
        obtain ⟨A2, c2, rfl, _, _, hc2⟩ := Strs.of_own hown2 (by rw [List.length_take]; have := HM.out; omega)
        have hp2 : some w.heap.size ≠ (Value.slice A2 (i + 1) c2).ownBlock := by
          intro e
          have := (hown2.lt _ e.symm).1
          omega
        have hg1 : IntKind.u64.wrap ((gk : Int) - 1) = ((gk - 1 : Nat) : Int) := by
          have hgi := HIG.out
          rw [show (gk : Int) - 1 = ((gk - 1 : Nat) : Int) by omega]
          exact IntWalk.u64_in _ (by omega)
        have HG1 := Lib.hid hg1
        clear hg1
        have f2 := hq2.frozen 0
        have q2 : _ = some (Value.slice A i c) := hq2.cell 0
        have hl2 := hq2.lt
        clear hown' hgrow hall2 hown hq q0 hB HC HLAST
        go_wp2_with fail
        go_roundg (gk - 1)
        case measure => have := HIG.out; omega
        case rel => exact ⟨i + 1, _, by have := HIG.out; omega, by rw [HK2.out], vi HG1.out, hq2.set_ 0 _, ownsRow_setCell_other hown2 (a := ⟨w.heap.size, 0, none⟩) (fun e => hp2 e.symm) _, below_set hB2 (Nat.le_refl _) _⟩
    · have el : decide ((0 : Int) < (gk : Int)) = false := by simp; omega
      have el' : decide (0 < gk) = false := by simp; omega
      obtain rfl : i = m := by omega
      have htk : t.take i = t := List.take_of_length_le (by have := HM.out; omega)
      rw [htk] at hown
      have hhd : (headT t i).length = S.size := by rw [headT_all t (by have := HM.out; omega), ← HS.out]; exact text_size S
      rw [hhd]
      obtain ⟨A, c, rfl, hs, _, hc⟩ := Strs.of_own hown HM.out
      clear hig htk hhd hown
      go_wp2_with fail
      go_ret3
      exact ⟨_, rfl, ⟨A, i, c, .inr ⟨_, rfl, hq⟩, hs, hc⟩, hB⟩

/-! ### comparing -/
theorem comp_self : ∀ l : List UInt8, Lib.compareBytes l l = 0
  | [] => by simp [Lib.compareBytes]
  | a :: l => by
    have : ¬ a < a := by simp
    simp [Lib.compareBytes, comp_self l]
set_option maxHeartbeats 400000 in
theorem or2_calls (g : Nat) (w : World) (hq : Blk w g 3 #[.int .i64 0, .int .i64 0]) :
    Calls Try.prog 57 #[.slice (some ⟨g, 0, none⟩) 2 2] w fun e w' => e = .returned (.int .i64 0) ∧ w = w' := by
  have q0 : _ = some (Value.int .i64 0) := hq.cell 0
  have q1 : _ = some (Value.int .i64 0) := hq.cell 1
  go_enter Try.func57, Try.ntmps57
  go_wp2_with fail
  refine wp_loop_rounds 3 ?_
  rw [rounds_succ]
  go_wp2_with fail
  rw [rounds_succ]
  go_wp2_with fail
  rw [rounds_succ]
  go_wp2_with fail
  go_ret
  exact ⟨rfl, rfl⟩
set_option maxRecDepth 100000 in
set_option maxHeartbeats 1000000 in
theorem compare1_calls (x : Lb) (w : World) :
    Calls Try.prog 56 #[.agg #[.string ⟨x.n.toArray⟩, .string ⟨x.v.toArray⟩], .agg #[.string ⟨x.n.toArray⟩, .string ⟨x.v.toArray⟩]] w fun e w' => e = .returned (.int .i64 0) ∧ Below w.heap.size w w' := by
  have hbn : ∀ W : World, Calls Try.prog 53 #[.agg #[.string ⟨x.n.toArray⟩, .string ⟨x.v.toArray⟩], .agg #[.string ⟨x.n.toArray⟩, .string ⟨x.v.toArray⟩]] W fun e w' => e = .returned (.int .i64 0) ∧ Below W.heap.size W w' := fun W => by
    have := byname_below x x W
    rwa [comp_self] at this
  have hco : ∀ W : World, Calls Try.prog 58 #[.string ⟨x.v.toArray⟩, .string ⟨x.v.toArray⟩] W fun e w' => e = .returned (.int .i64 0) ∧ W = w' := fun W => by
    refine (Try.strings_Compare ⟨x.v.toArray⟩ ⟨x.v.toArray⟩ W).mono ?_
    rintro e w' ⟨rfl, rfl⟩
    exact ⟨by rw [comp_self], rfl⟩
  obtain ⟨N, hN⟩ : ∃ N : ByteArray, (⟨x.n.toArray⟩ : ByteArray) = N := ⟨_, rfl⟩
  obtain ⟨V, hV⟩ : ∃ N : ByteArray, (⟨x.v.toArray⟩ : ByteArray) = N := ⟨_, rfl⟩
  rw [hN, hV] at hbn ⊢
  rw [hV] at hco
  have HBN := Lib.hid hbn
  have HCO := Lib.hid hco
  clear hN hV hbn hco
  go_enter Try.func56, Try.ntmps56
  go_upto_region 1 with fail
  obtain ⟨w1, hw1⟩ : ∃ x, (w.alloc (.cells #[.string N, .string V] 69)).alloc (.cells #[.string N, .string V] 69) = x := ⟨_, rfl⟩
  have hb1 : Below w.heap.size w w1 := by rw [← hw1]; exact ((Below.refl _ _).alloc (Nat.le_refl _) _).alloc (by simp) _
  have hq : Blk w1 w.heap.size 69 #[.string N, .string V] := by rw [← hw1]; exact (Blk.new _ _ _).alloc _
  have hp : Blk w1 (w.heap.size + 1) 69 #[.string N, .string V] := by rw [← hw1]; exact Blk.newAt (by simp)
  rw [hw1]
  obtain ⟨a, hA⟩ : ∃ a, w.heap.size = a := ⟨_, rfl⟩
  rw [hA] at hq hp ⊢
  clear hw1
  have q0 : _ = some (Value.string N) := hq.cell 0
  have q1 : _ = some (Value.string V) := hq.cell 1
  have p0 : _ = some (Value.string N) := hp.cell 0
  have p1 : _ = some (Value.string V) := hp.cell 1
  have hql := hq.lt
  have hpl := hp.lt
  refine wp_region_later_tail 8 (by kernel_rfl) (by kernel_rfl) ?_
  simp only [List.take_succ_cons, List.take_zero, List.drop_succ_cons, List.drop_zero]
  repeat (go_big_quiet_step ((first | (go_at_call 53; exact quiet_later _ (HBN.out _)) | (go_at_call 58; exact quiet_same _ (HCO.out _)))))
  refine wpQuiet_nil ?_
  rintro w2 ⟨⟨_, hb2⟩, rfl⟩
  have hB2 : Below w.heap.size w w2 := then_ hb1 hb2
  go_wp2_with fail
  have hg : Blk (w2.alloc (.cells #[.int .i64 0, .int .i64 0] 3)) w2.heap.size 3 #[.int .i64 0, .int .i64 0] := Blk.new _ _ _
  refine (or2_calls _ _ hg).mono ?_
  rintro _ w3 ⟨rfl, rfl⟩
  go_wp2_with fail
  go_ret
  exact ⟨rfl, hB2.alloc hB2.size _⟩

set_option maxRecDepth 100000 in
set_option maxHeartbeats 2000000 in
theorem comparefunc_calls (l : List Lb) (A B : Option Addr) (n ca cb : Nat) (w : World) (hA : Elems w w.heap.size 2 encLb A n l) (hB : Elems w w.heap.size 2 encLb B n l) (hn : n ≤ 140737488351232) :
    Calls Try.prog 55 #[.slice A n ca, .slice B n cb, .func (.func 56) #[] #[]] w fun e w' => e = .returned (.int .i64 0) ∧ Below w.heap.size w w' := by
  have hl := hA.len
  have HL := Lib.hid hl
  clear hl
  go_enter Try.func55, Try.ntmps55
  go_wp2_with fail
  go_loopg [13] n (fun g s13 wr => ∃ i : Nat, i + g = n ∧ s13 = .int .i64 (i : Int) ∧ Below w.heap.size w wr)
  case atStart => exact ⟨0, by omega, rfl, Below.refl _ _⟩
  case round =>
    obtain ⟨i, hig, rfl, hBw⟩ := hrel
    have HIG := Lib.hid hig
    clear hig
    by_cases hi : i < n
    · have el : decide ((i : Int) < (n : Int)) = true := by simp; omega
      have el' : decide (i < n) = true := by simp; omega
      have eg : decide ((n : Int) ≤ (i : Int)) = false := by simp; omega
      have eg' : decide (n ≤ i) = false := by simp; omega
      have hil : i < l.length := by have := HL.out; omega
      obtain ⟨ba, oa, rfl, _, _⟩ := hA.2 (by omega)
      obtain ⟨bb, ob, rfl, _, _⟩ := hB.2 (by omega)
      obtain ⟨hba, a0, a1⟩ := lab_at hA (by omega) hBw i hil
      have hcmp := fun W => compare1_calls l[i]! W
      obtain ⟨X, hX⟩ : ∃ N : ByteArray, (⟨l[i]!.n.toArray⟩ : ByteArray) = N := ⟨_, rfl⟩
      obtain ⟨Y, hY⟩ : ∃ N : ByteArray, (⟨l[i]!.v.toArray⟩ : ByteArray) = N := ⟨_, rfl⟩
      have HX := Lib.hid hX
      have HY := Lib.hid hY
      rw [hX] at a0 hcmp
      rw [hY] at a1 hcmp
      have HCMP := Lib.hid hcmp
      clear hX hY hcmp
      go_upto_region 4 with fail
      obtain ⟨w1, hw1⟩ : ∃ x, wr.alloc (.cells #[.string X, .string Y] 69) = x := ⟨_, rfl⟩
      have hB1 : Below w.heap.size w w1 := by rw [← hw1]; exact hBw.alloc hBw.size _
      have hq : Blk w1 wr.heap.size 69 #[.string X, .string Y] := by rw [← hw1]; exact Blk.new _ _ _
      rw [hw1]
      obtain ⟨p, hp⟩ : ∃ p, wr.heap.size = p := ⟨_, rfl⟩
      rw [hp] at hq ⊢
      obtain ⟨hbb, b0, b1⟩ := lab_at hB (by omega) hB1 i hil
      rw [HX.out] at b0
      rw [HY.out] at b1
      clear hw1 hp a0 a1 hBw
      go_upto_region 7 with fail
      obtain ⟨w2, hw2⟩ : ∃ x, w1.alloc (.cells #[.string X, .string Y] 69) = x := ⟨_, rfl⟩
      have hB2 : Below w.heap.size w w2 := by rw [← hw2]; exact hB1.alloc hB1.size _
      have hq2 : Blk w2 p 69 #[.string X, .string Y] := by rw [← hw2]; exact hq.alloc _
      have hr2 : Blk w2 w1.heap.size 69 #[.string X, .string Y] := by rw [← hw2]; exact Blk.new _ _ _
      rw [hw2]
      obtain ⟨p2, hp2⟩ : ∃ p, w1.heap.size = p := ⟨_, rfl⟩
      rw [hp2] at hr2 ⊢
      clear hw2 hp2 b0 b1 hB1 hq
      have q0 : _ = some (Value.string X) := hq2.cell 0
      have q1 : _ = some (Value.string Y) := hq2.cell 1
      have r0 : _ = some (Value.string X) := hr2.cell 0
      have r1 : _ = some (Value.string Y) := hr2.cell 1
      go_wp2_with fail
      refine (HCMP.out w2).mono ?_
      rintro _ w3 ⟨rfl, hb3⟩
      have hB3 := then_ hB2 hb3
      go_wp2_with fail
      go_roundg (gk - 1)
      case measure => have := HIG.out; omega
      case rel => exact ⟨i + 1, by have := HIG.out; omega, by go_num, hB3⟩
    · have el : decide ((i : Int) < (n : Int)) = false := by simp; omega
      have el' : decide (i < n) = false := by simp; omega
      go_wp2_with fail
      go_ret
      exact ⟨rfl, hBw⟩
set_option maxHeartbeats 400000 in
theorem compare05_calls (l : List Lb) (A B : Option Addr) (n ca cb : Nat) (w : World) (hA : Elems w w.heap.size 2 encLb A n l) (hB : Elems w w.heap.size 2 encLb B n l) (hn : n ≤ 140737488351232) :
    Calls Try.prog 28 #[.slice A n ca, .slice B n cb] w fun e w' => e = .returned (.int .i64 0) ∧ Below w.heap.size w w' := by
  have HC := Lib.hid (comparefunc_calls l A B n ca cb w hA hB hn)
  go_enter Try.func28, Try.ntmps28
  go_wp2_with fail
  refine HC.out.mono ?_
  rintro _ w1 ⟨rfl, hb⟩
  go_wp2_with fail
  go_ret
  exact ⟨rfl, hb⟩
end Go.Proofs.Ytpmahljbkgielaa
