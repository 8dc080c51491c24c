/- Merged: RdkWalksA, RdkWalksB. -/
import Derived.Test.YtdaidbnbfjgjeaaGreatDoorDsa15
set_option linter.unusedVariables false
set_option linter.unusedSimpArgs false
/-! ## RdkWalksA -/
/- The walks of layer 3 (disk), the document's: New, find, is, parent, inside, IsPath, step, Crash, share, file. -/
namespace Go.Proofs.YtdaidbnbfjgjeaaGreatDoor
open Go.RowKit Go.Shelf Go.Maps Go.Sort
attribute [local go_sem ↓] Go.wp_at_zero Go.wp_at_succ
attribute [local go_sem] Later.cell Later.frozen

theorem ne_facts {S T : ByteArray} (h : S ≠ T) : (S.toList == T.toList) = false ∧ (S == T) = false ∧ decide (S = T) = false ∧ decide (S.toList = T.toList) = false := by
  have hl2 : S.toList ≠ T.toList := fun e => h (by
    rw [ByteArray.toList_eq, ByteArray.toList_eq] at e
    exact bytes_eq e)
  have h1 : (S.toList == T.toList) = false := by simpa using hl2
  exact ⟨h1, by rw [beq_toListBytes]; exact h1, by simpa using h, by simpa using hl2⟩
theorem eq_facts (S : ByteArray) : (S == S) = true ∧ decide (S = S) = true := ⟨by rw [beq_toListBytes]; simp, by simp⟩
set_option maxRecDepth 100000 in
set_option maxHeartbeats 2000000 in
theorem rfind_calls (l : List Th) (X : Option Addr) (n c : Nat) (w : World) (h : Ths w X n l) (S : ByteArray) (r : Int) (hr : findV l S.data.toList = r) (hn : n ≤ 1073741824) :
    Calls Tryz.prog 101 #[.slice X n c, .string S] w fun e w' => e = .returned (.int .i64 r) ∧ w = w' := by
  have hl : l.length = n := Elems.len h
  have HH := Lib.hid h
  have HL := Lib.hid hl
  have HR := Lib.hid hr
  clear h hl hr
  go_enter Tryz.func101, Tryz.ntmps101
  go_wp2_with fail
  go_loopg [5] n (fun g s5 wr => wr = w ∧ ∃ i : Nat, i + g = n ∧ s5 = .int .i64 (i : Int) ∧ ∀ j, j < i → l[j]!.path ≠ S.data.toList)
  case atStart => exact ⟨rfl, 0, by omega, rfl, fun j hj => absurd hj (by omega)⟩
  case round =>
    obtain ⟨rfl, i, hig, rfl, hno⟩ := hrel
    obtain ⟨w, rfl⟩ : ∃ x, x = wr := ⟨_, rfl⟩
    have HNO := Lib.hid hno
    clear hno
    by_cases hi : i < n
    · have el : decide ((i : Int) < (n : Int)) = true := by simp; omega
      have el' : decide (i < n) = true := by simp; omega
      obtain ⟨b, off, rfl, hbl, k0, _⟩ := HH.out.at_ hi
      obtain ⟨T, hT⟩ : ∃ T : ByteArray, (⟨l[i]!.path.toArray⟩ : ByteArray) = T := ⟨_, rfl⟩
      have hT2 : l[i]!.path = T.data.toList := by rw [← hT]
      unfold txtV at k0
      rw [hT] at k0
      have HT2 := Lib.hid hT2
      clear hT hT2
      by_cases he : T.data.toList = S.data.toList
      · obtain rfl := bytes_eq he
        clear he
        go_wp2_with fail
        go_ret
        exact ⟨ret_int (by rw [← HR.out]; exact (findV_hit (by rw [HL.out]; exact hi) HNO.out HT2.out).symm), rfl⟩
      · have hne : T ≠ S := fun e => he (by rw [e])
        obtain ⟨e1, e2, e3, e4⟩ := ne_facts hne
        clear hne
        go_wp2_with fail
        go_roundg (gk - 1)
        case measure => omega
        case rel =>
          refine ⟨rfl, i + 1, by omega, by simp, fun j hj => ?_⟩
          rcases Nat.lt_or_ge j i with hj' | hj'
          · exact HNO.out j hj'
          · obtain rfl : j = i := by omega
            rw [HT2.out]; exact he
    · have el : decide ((i : Int) < (n : Int)) = false := by simp; omega
      have el' : decide (i < n) = false := by simp; omega
      go_wp2_with fail
      go_ret
      exact ⟨ret_int (by rw [← HR.out]; exact (findV_miss fun j hj => HNO.out j (by rw [HL.out] at hj; omega)).symm), rfl⟩

section
variable {B0 : Nat} {R : Nat → Nat} {A : RAdr} {d : Ds} {w w' : World}
set_option maxRecDepth 100000 in
set_option maxHeartbeats 2000000 in
theorem ris_calls (S : ByteArray) (r : Nat) (hr : isT d.things S.data.toList = r) (w : World) (h : RD B0 w R A d) (htl : d.things.length ≤ 1073741824) :
    Calls Tryz.prog 71 #[.pointer (some ⟨A.q, 0, none⟩), .string S] w fun e w' => e = .returned (.int .i64 (r : Int)) ∧ w = w' := by
  obtain ⟨X, c, hv, hX, hc⟩ := h.things.out
  obtain ⟨q, hq⟩ : ∃ q, A.q = q := ⟨_, rfl⟩
  obtain ⟨n, hn⟩ : ∃ n, d.things.length = n := ⟨_, rfl⟩
  have c0 : w.cell? ⟨q, 0, none⟩ = some (.slice X n c) := by rw [← hq, ← hn, ← hv]; exact Blk.cell h.blk 0
  rw [hn] at hX htl hc
  rw [hq]
  rw [isT_find] at hr
  rcases findV_cases d.things S.data.toList with ⟨h1, h2⟩ | ⟨k, hk, h1, h2⟩
  · rw [h1] at hr
    subst hr
    have HFC := Lib.hid (rfind_calls d.things X n c w hX S (-1) h2 htl)
    clear h hX hv hq hn h1 h2
    go_enter Tryz.func71, Tryz.ntmps71
    go_wp2_with fail
    refine HFC.out.mono ?_
    rintro _ w1 ⟨rfl, rfl⟩
    go_wp2_with fail
    go_ret
    exact ⟨rfl, rfl⟩
  · rw [h1] at hr
    simp only [] at hr
    rw [hn] at hk
    have HFC := Lib.hid (rfind_calls d.things X n c w hX S (k : Int) h2 htl)
    obtain ⟨b, off, rfl, hbl, _, k1, _⟩ := hX.at_ hk
    have d1 : decide ((k : Int) < 0) = false := by simp
    clear h hX hv hq hn h1 h2
    cases hd : d.things[k]!.dir with
    | true =>
      rw [hd] at k1 hr
      have HR := Lib.hid hr
      clear hr
      go_enter Tryz.func71, Tryz.ntmps71
      go_wp2_with fail
      refine HFC.out.mono ?_
      rintro _ w1 ⟨rfl, rfl⟩
      go_wp2_with fail
      go_ret
      exact ⟨by rw [← HR.out]; rfl, rfl⟩
    | false =>
      rw [hd] at k1 hr
      have HR := Lib.hid hr
      clear hr
      go_enter Tryz.func71, Tryz.ntmps71
      go_wp2_with fail
      refine HFC.out.mono ?_
      rintro _ w1 ⟨rfl, rfl⟩
      go_wp2_with fail
      go_ret
      exact ⟨by rw [← HR.out]; rfl, rfl⟩

set_option maxRecDepth 100000 in
set_option maxHeartbeats 2000000 in
theorem rparent_calls (S : ByteArray) (r : Bool) (hr : parentB d.things S.data.toList = r) (w : World) (h : RD B0 w R A d) (htl : d.things.length ≤ 1073741824) (hS : S.size ≤ 1073741824) :
    Calls Tryz.prog 91 #[.pointer (some ⟨A.q, 0, none⟩), .string S] w fun e w' => e = .returned (.bool r) ∧ w = w' := by
  obtain ⟨q, hq⟩ : ∃ q, A.q = q := ⟨_, rfl⟩
  unfold parentB at hr
  cases hs : slashAt S.data.toList with
  | none =>
    have HSL := Lib.hid (rslash_calls S (-1) (by unfold slashI; rw [hs]) hS)
    rw [hs] at hr
    rw [hq]
    subst hr
    clear h hq hs
    go_enter Tryz.func91, Tryz.ntmps91
    go_wp2_with fail
    refine (HSL.out _).mono ?_
    rintro _ w1 ⟨rfl, rfl⟩
    go_wp2_with fail
    go_ret
    exact ⟨rfl, rfl⟩
  | some k =>
    have HSL := Lib.hid (rslash_calls S (k : Int) (by unfold slashI; rw [hs]) hS)
    rw [hs] at hr
    have hk : k < S.size := by have := slashAt_lt hs; rw [text_size3] at this; exact this
    obtain ⟨m, hm⟩ : ∃ m, isT d.things (S.data.toList.take k) = m := ⟨_, rfl⟩
    have HIS := Lib.hid (ris_calls (S.extract 0 k) m (by rw [take_bytes]; exact hm) w h htl)
    have hrr : (m == 2) = r := by rw [← hm]; exact hr
    rw [hq] at HIS ⊢
    have d1 : decide ((k : Int) < 0) = false := by simp
    clear h hq hs hr hm
    go_enter Tryz.func91, Tryz.ntmps91
    go_wp2_with fail
    refine (HSL.out _).mono ?_
    rintro _ w1 ⟨rfl, rfl⟩
    go_wp2_with fail
    refine HIS.out.mono ?_
    rintro _ w1 ⟨rfl, rfl⟩
    have HRR := Lib.hid hrr
    have e2 : ((m : Int) == 2) = r := by
      rw [← hrr]
      by_cases h2 : m = 2
      · simp [h2]
      · rw [beq_eq_false_iff_ne.2 h2]; simp; omega
    clear hrr
    go_wp2_with fail
    go_ret
    exact ⟨rfl, rfl⟩

set_option maxRecDepth 100000 in
set_option maxHeartbeats 2000000 in
theorem rpath_calls (S : ByteArray) (r : Bool) (hr : pathB S.data.toList = r) (w : World) (hS : S.size ≤ 1073741824) :
    Calls Tryz.prog 90 #[.string S] w fun e w' => e = .returned (.bool r) ∧ w = w' := by
  unfold pathB at hr
  cases hs : slashAt S.data.toList with
  | none =>
    have HSL := Lib.hid (rslash_calls S (-1) (by unfold slashI; rw [hs]) hS)
    rw [hs] at hr
    have HN := Lib.hid (rname_calls S r hr hS)
    clear hs hr
    go_enter Tryz.func90, Tryz.ntmps90
    go_wp2_with fail
    refine (HSL.out _).mono ?_
    rintro _ w1 ⟨rfl, rfl⟩
    go_wp2_with fail
    refine (HN.out _).mono ?_
    rintro _ w1 ⟨rfl, rfl⟩
    go_wp2_with fail
    go_ret
    exact ⟨rfl, rfl⟩
  | some k =>
    have HSL := Lib.hid (rslash_calls S (k : Int) (by unfold slashI; rw [hs]) hS)
    rw [hs] at hr
    have hk : k < S.size := by have := slashAt_lt hs; rw [text_size3] at this; exact this
    obtain ⟨x, hx⟩ : ∃ m, nameB (S.data.toList.take k) = m := ⟨_, rfl⟩
    obtain ⟨y, hy⟩ : ∃ m, nameB (S.data.toList.drop (k + 1)) = m := ⟨_, rfl⟩
    have hz1 : (S.extract 0 k).size ≤ 1073741824 := by rw [← text_size3, take_bytes, List.length_take, text_size3]; omega
    have hz2 : (S.extract (k + 1) S.size).size ≤ 1073741824 := by rw [← text_size3, drop_bytes, List.length_drop, text_size3]; omega
    have H1 := Lib.hid (rname_calls (S.extract 0 k) x (by rw [take_bytes]; exact hx) hz1)
    have H2 := Lib.hid (rname_calls (S.extract (k + 1) S.size) y (by rw [drop_bytes]; exact hy) hz2)
    have hrr : (x && y) = r := by rw [← hx, ← hy]; exact hr
    have HRR := Lib.hid hrr
    have d1 : decide ((k : Int) < 0) = false := by simp
    clear hs hr hx hy hz1 hz2 hrr
    go_enter Tryz.func90, Tryz.ntmps90
    go_wp2_with fail
    refine (HSL.out _).mono ?_
    rintro _ w1 ⟨rfl, rfl⟩
    go_wp2_with fail
    refine (H1.out _).mono ?_
    rintro _ w1 ⟨rfl, rfl⟩
    go_wp2_with fail
    refine (H2.out _).mono ?_
    rintro _ w1 ⟨rfl, rfl⟩
    cases x with
    | false =>
      go_wp2_with fail
      go_ret
      exact ⟨by rw [← HRR.out]; rfl, rfl⟩
    | true =>
      go_wp2_with fail
      go_ret
      exact ⟨by rw [← HRR.out]; rfl, rfl⟩
end
end Go.Proofs.YtdaidbnbfjgjeaaGreatDoor

/-! ## RdkWalksB -/
/- The walks of layer 3 (disk), the document's: inside, step, Crash, share, New, file. -/
namespace Go.Proofs.YtdaidbnbfjgjeaaGreatDoor
open Go.RowKit Go.Shelf Go.Maps Go.Sort
attribute [local go_sem ↓] Go.wp_at_zero Go.wp_at_succ
attribute [local go_sem] Later.cell Later.frozen

theorem inside_three (p d : Txt) : insideB p d = (decide (d.length < p.length) && (p.take d.length == d) && (p[d.length]?.getD 0 == 47)) := by
  cases hi : insideB p d with
  | true =>
    obtain ⟨x, rfl⟩ := inside_iff.1 hi
    simp
  | false =>
    symm
    rw [Bool.eq_false_iff]
    intro h
    simp only [Bool.and_eq_true, decide_eq_true_eq, beq_iff_eq] at h
    obtain ⟨⟨h1, h2⟩, h3⟩ := h
    have : insideB p d = true := by
      refine inside_iff.2 ⟨p.drop (d.length + 1), ?_⟩
      rw [List.getElem?_eq_getElem h1] at h3
      have h4 := List.take_append_drop d.length p
      rw [h2, List.drop_eq_getElem_cons h1] at h4
      have h5 : p[d.length] = 47 := h3
      rw [h5] at h4
      rw [← h4]
      simp
    rw [this] at hi
    cases hi
set_option maxRecDepth 100000 in
set_option maxHeartbeats 2000000 in
theorem rinside_calls (S D : ByteArray) (r : Bool) (hr : insideB S.data.toList D.data.toList = r) (w : World) (hS : S.size ≤ 1073741824) (hD : D.size ≤ 1073741824) :
    Calls Tryz.prog 73 #[.string S, .string D] w fun e w' => e = .returned (.bool r) ∧ w = w' := by
  rw [inside_three, text_size3, text_size3, ← take_bytes] at hr
  by_cases h1 : D.size < S.size
  · have d1 : decide ((D.size : Int) < (S.size : Int)) = true := by simpa using h1
    have d2 : decide (D.size < S.size) = true := by simpa using h1
    rw [d2, Bool.true_and] at hr
    by_cases he : (S.extract 0 D.size).data.toList = D.data.toList
    · have heq := bytes_eq he
      have e1 : ((S.extract 0 D.size).toList == D.toList) = true := by rw [heq]; simp
      have e2 : ((S.extract 0 D.size) == D) = true := by rw [heq]; exact (eq_facts D).1
      have e3 : decide ((S.extract 0 D.size) = D) = true := by rw [heq]; simp
      rw [beq_iff_eq.2 he, Bool.true_and] at hr
      obtain ⟨b, hb⟩ : ∃ b, S[D.size] = b := ⟨_, rfl⟩
      have hr2 : (b == 47) = r := by
        rw [← hr, ← hb]
        have : S.data.toList[D.size]? = some S[D.size] := by
          rw [List.getElem?_eq_getElem (by rw [text_size3]; exact h1)]
          rfl
        rw [this]
        rfl
      have e4 : ((b.toNat : Int) == 47) = r := by
        rw [← hr2]
        by_cases hc : b = 47
        · subst hc; rfl
        · rw [beq_eq_false_iff_ne.2 hc]
          have : b.toNat ≠ 47 := fun e => hc (UInt8.toNat_inj.1 (by simpa using e))
          simp
          omega
      clear he hr hr2 heq
      go_enter Tryz.func73, Tryz.ntmps73
      go_wp2_with fail
      go_ret
      exact ⟨rfl, rfl⟩
    · have hne : (S.extract 0 D.size) ≠ D := fun e => he (by rw [e])
      obtain ⟨e1, e2, e3, e4⟩ := ne_facts hne
      rw [beq_eq_false_iff_ne.2 he, Bool.false_and] at hr
      subst hr
      clear he hne
      go_enter Tryz.func73, Tryz.ntmps73
      go_wp2_with fail
      go_ret
      exact ⟨rfl, rfl⟩
  · have d1 : decide ((D.size : Int) < (S.size : Int)) = false := by simpa using h1
    have d2 : decide (D.size < S.size) = false := by simpa using h1
    rw [d2, Bool.false_and, Bool.false_and] at hr
    subst hr
    go_enter Tryz.func73, Tryz.ntmps73
    go_wp2_with fail
    go_ret
    exact ⟨rfl, rfl⟩

set_option maxHeartbeats 1000000 in
theorem rshare_calls (wish : Int) (n : Nat) (w : World) (h1 : -9223372036854775808 ≤ wish) (h2 : wish ≤ 9223372036854775807) (hn : n ≤ 4611686018427387904) :
    Calls Tryz.prog 66 #[.int .i64 wish, .int .i64 (n : Int)] w fun e w' => e = .returned (.int .i64 (shareN wish n : Int)) ∧ w = w' := by
  by_cases hneg : wish < 0
  · have d1 : decide (wish < 0) = true := by simpa using hneg
    have e1 : shareN wish n = 0 := by unfold shareN; rw [if_pos hneg]
    rw [e1]
    go_enter Tryz.func66, Tryz.ntmps66
    go_wp2_with fail
    go_ret
    exact ⟨rfl, rfl⟩
  · obtain ⟨m, rfl⟩ : ∃ m : Nat, wish = (m : Int) := ⟨wish.toNat, by omega⟩
    have d1 : decide ((m : Int) < 0) = false := by simp
    have e0 : shareN (m : Int) n = m % (n + 1) := by unfold shareN; rw [if_neg hneg]; simp
    have e1 : ((shareN (m : Int) n : Nat) : Int) = (m : Int) % ((n : Int) + 1) := by rw [e0]; simp
    rw [e1]
    have hne : (n : Int) + 1 ≠ 0 := by omega
    clear e0 e1 hneg
    go_enter Tryz.func66, Tryz.ntmps66
    go_wp2_with fail
    go_ret
    refine ⟨?_, rfl⟩
    simp [Int.tmod_eq_emod_of_nonneg]

section
variable {B0 : Nat} {R : Nat → Nat} {A : RAdr} {d : Ds}
theorem RBlk.set (w : World) {d' : Ds} {i : Nat} {u : Value} (h : RBlk w A d) (he : (#[A.tv, A.sv, A.gv, A.fv, .int .i64 (d.cap : Int), .bool d.off, .int .i64 (d.await : Int)] : Array Value).setIfInBounds i u = #[A.tv, A.sv, A.gv, A.fv, .int .i64 (d'.cap : Int), .bool d'.off, .int .i64 (d'.await : Int)]) : RBlk (w.setCell ⟨A.q, i, none⟩ u) A d' := by
  have := Blk.set_ h i u
  rw [he] at this
  exact this
def RStepOut (B0 : Nat) (R : Nat → Nat) (A : RAdr) (d : Ds) (w : World) (e : Ending) (w' : World) : Prop :=
  e = .returned (.int .i64 ((stepD d).1 : Int)) ∧ RD B0 w' R A (stepD d).2 ∧ Own R R w w' ∧ w'.heap.size = w.heap.size ∧ ∀ k, k < w.heap.size → k ≠ A.q → w'.heap[k]? = w.heap[k]?
set_option maxHeartbeats 1000000 in
theorem rstep_calls (w : World) (h : RD B0 w R A d) (haw : d.await ≤ 9223372036854775807) :
    Calls Tryz.prog 93 #[.pointer (some ⟨A.q, 0, none⟩)] w (RStepOut B0 R A d w) := by
  have c6 : _ = some (Value.int .i64 (d.await : Int)) := Blk.cell h.blk 6
  have g6 := Blk.frozen h.blk 6
  have hp1 : R A.q ≠ 0 := by rw [h.rq]; omega
  have hpl := Blk.lt h.blk
  by_cases h0 : d.await = 0
  · have e1 : decide ((0 : Int) < (d.await : Int)) = false := by simp; omega
    have e2 : decide (0 < d.await) = false := by simp; omega
    have hst : stepD d = (0, d) := by simp [stepD, h0]
    have HST := Lib.hid hst
    have H := Lib.hid h
    obtain ⟨n, hn⟩ : ∃ n, d.await = n := ⟨_, rfl⟩
    obtain ⟨p, hp⟩ : ∃ p, A.q = p := ⟨_, rfl⟩
    rw [hn] at c6 e1 e2
    rw [hp] at c6 g6 ⊢
    clear hst h h0 hn hp hp1 hpl g6
    go_enter Tryz.func93, Tryz.ntmps93
    go_wp2_with fail
    go_ret
    exact ⟨by rw [HST.out]; rfl, by rw [HST.out]; exact H.out, Own.refl _ _, rfl, fun _ _ _ => rfl⟩
  · have e1 : decide ((0 : Int) < (d.await : Int)) = true := by simp; omega
    have e2 : decide (0 < d.await) = true := by simp; omega
    by_cases hx1 : d.await = 1
    · have hst : stepD d = (1, { d with await := 0, off := true }) := by simp [stepD, hx1]
      have hblk2 : RBlk ((w.setCell ⟨A.q, 6, none⟩ (.int .i64 0)).setCell ⟨A.q, 5, none⟩ (.bool true)) A { d with await := 0, off := true } := by
        have h1 : RBlk (w.setCell ⟨A.q, 6, none⟩ (.int .i64 0)) A { d with await := 0 } := RBlk.set w h.blk rfl
        exact RBlk.set _ h1 rfl
      have hCD : RD B0 ((w.setCell ⟨A.q, 6, none⟩ (.int .i64 0)).setCell ⟨A.q, 5, none⟩ (.bool true)) R A { d with await := 0, off := true } :=
        h.blk_only (fun k _ hk => (Below.heap_setCell _ _ _ k hk).trans (Below.heap_setCell _ _ _ k hk)) (by simp [World.setCell]) hblk2 rfl rfl rfl rfl
      have hO : Own R R w ((w.setCell ⟨A.q, 6, none⟩ (.int .i64 0)).setCell ⟨A.q, 5, none⟩ (.bool true)) := (Own.of_set _ hp1).trans (Own.of_set _ hp1)
      have c6' := c6
      rw [hx1] at c6'
      have g5 := Blk.frozen h.blk 5
      have c5 : _ = some (Value.bool d.off) := Blk.cell h.blk 5
      have HST := Lib.hid hst
      have HC := Lib.hid hCD
      have HO := Lib.hid hO
      obtain ⟨p, hp⟩ : ∃ p, A.q = p := ⟨_, rfl⟩
      have HPP := Lib.hid hp
      rw [hp] at c6' g6 g5 c5 hpl HC HO ⊢
      clear hst h h0 hp hp1 hCD hO hblk2 c6 e1 e2 hx1
      go_enter Tryz.func93, Tryz.ntmps93
      go_wp2_with fail
      go_ret
      exact ⟨by rw [HST.out]; rfl, by rw [HST.out]; exact HC.out, HO.out, by simp [World.setCell], fun k _ hne => (Below.heap_setCell _ _ _ k (by rw [← HPP.out]; exact hne)).trans (Below.heap_setCell _ _ _ k (by rw [← HPP.out]; exact hne))⟩
    · have hst : stepD d = (0, { d with await := d.await - 1 }) := by simp [stepD, h0, hx1]
      have hval : (Value.int .i64 ((d.await : Int) - 1)) = .int .i64 ((d.await - 1 : Nat) : Int) := vi (by omega)
      have hblk2 : RBlk (w.setCell ⟨A.q, 6, none⟩ (.int .i64 ((d.await : Int) - 1))) A { d with await := d.await - 1 } := RBlk.set w h.blk (by rw [hval]; rfl)
      have hCD : RD B0 (w.setCell ⟨A.q, 6, none⟩ (.int .i64 ((d.await : Int) - 1))) R A { d with await := d.await - 1 } :=
        h.blk_only (fun k _ hk => Below.heap_setCell _ _ _ k hk) (by simp [World.setCell]) hblk2 rfl rfl rfl rfl
      have hO : Own R R w (w.setCell ⟨A.q, 6, none⟩ (.int .i64 ((d.await : Int) - 1))) := Own.of_set _ hp1
      have HST := Lib.hid hst
      have HC := Lib.hid hCD
      have HO := Lib.hid hO
      have e3 : (((d.await : Int) - 1) == 0) = false := by simp; omega
      have hn2 : 2 ≤ d.await := by omega
      obtain ⟨n, hn⟩ : ∃ n, d.await = n := ⟨_, rfl⟩
      obtain ⟨p, hp⟩ : ∃ p, A.q = p := ⟨_, rfl⟩
      have HPP := Lib.hid hp
      have hr := HST.out
      rw [hn] at c6 e1 e2 e3 HC HO haw hn2 hr
      rw [hp] at c6 g6 hpl HC HO ⊢
      have HR := Lib.hid hr
      clear hst h h0 hp hp1 hCD hO hblk2 hx1 hval hn hr HST
      go_enter Tryz.func93, Tryz.ntmps93
      go_wp2_with fail
      go_ret
      exact ⟨by rw [HR.out]; rfl, by rw [HR.out]; exact HC.out, HO.out, by simp [World.setCell], fun k _ hne => Below.heap_setCell _ _ _ k (by rw [← HPP.out]; exact hne)⟩

set_option maxHeartbeats 1000000 in
theorem rcrash_calls (n : Int) (w : World) (h : RD B0 w R A d) (hn : n ≤ 9223372036854775807) (hn' : -9223372036854775808 ≤ n) :
    Calls Tryz.prog 98 #[.pointer (some ⟨A.q, 0, none⟩), .int .i64 n] w fun e w' => e = .returned (.tuple #[]) ∧ RD B0 w' R A (crashD d n) ∧ Own R R w w' := by
  have c7 : _ = some (Value.int .i64 (d.await : Int)) := Blk.cell h.blk 6
  have g7 := Blk.frozen h.blk 6
  have hpl := Blk.lt h.blk
  have hp1 : R A.q ≠ 0 := by rw [h.rq]; omega
  have hb0 : RBlk (w.setCell ⟨A.q, 6, none⟩ (.int .i64 0)) A { d with await := 0 } := RBlk.set w h.blk rfl
  have hC0 : n ≤ 0 → RD B0 (w.setCell ⟨A.q, 6, none⟩ (.int .i64 0)) R A (crashD d n) := fun hn0 => by
    have e : crashD d n = { d with await := 0 } := by unfold crashD; rw [show n.toNat = 0 by omega]
    rw [e]
    exact h.blk_only (fun k _ hk => Below.heap_setCell _ _ _ k hk) (by simp [World.setCell]) hb0 rfl rfl rfl rfl
  have hC1 : 0 < n → RD B0 ((w.setCell ⟨A.q, 6, none⟩ (.int .i64 0)).setCell ⟨A.q, 6, none⟩ (.int .i64 n)) R A (crashD d n) := fun hn0 =>
    h.blk_only (fun k _ hk => (Below.heap_setCell _ _ _ k hk).trans (Below.heap_setCell _ _ _ k hk)) (by simp [World.setCell]) (RBlk.set _ hb0 (by rw [show Value.int .i64 n = .int .i64 ((n.toNat : Nat) : Int) from vi (by omega)]; rfl)) rfl rfl rfl rfl
  have hO : ∀ v : Value, Own R R w (w.setCell ⟨A.q, 6, none⟩ v) := fun v => Own.of_set _ hp1
  have hO2 : ∀ v u : Value, Own R R w ((w.setCell ⟨A.q, 6, none⟩ v).setCell ⟨A.q, 6, none⟩ u) := fun v u => (Own.of_set _ hp1).trans (Own.of_set _ hp1)
  have HC0 := Lib.hid hC0
  have HC1 := Lib.hid hC1
  have HO := Lib.hid hO
  have HO2 := Lib.hid hO2
  obtain ⟨p, hp⟩ : ∃ p, A.q = p := ⟨_, rfl⟩
  rw [hp] at c7 g7 HC0 HC1 HO HO2 hpl ⊢
  clear h hp hp1 hC0 hC1 hO hO2 hb0
  by_cases hneg : 0 < n
  · have e1 : decide ((0 : Int) < n) = true := by simpa using hneg
    go_enter Tryz.func98, Tryz.ntmps98
    go_wp2_with fail
    go_end0
    exact ⟨rfl, HC1.out hneg, HO2.out _ _⟩
  · have e1 : decide ((0 : Int) < n) = false := by simpa using hneg
    go_enter Tryz.func98, Tryz.ntmps98
    go_wp2_with fail
    go_end0
    exact ⟨rfl, HC0.out (by omega), HO.out _⟩

/-- A document's disk that is new. -/
def RNewOut (B0 : Nat) (n : Int) (w : World) (e : Ending) (w' : World) : Prop :=
  ∃ R A, e = .returned (.pointer (some ⟨A.q, 0, none⟩)) ∧ RD B0 w' R A (newD n) ∧ Below w.heap.size w w' ∧ ∀ k, R k ≠ 0 → w.heap.size ≤ k
theorem rnew_of (B0 : Nat) (n c : Int) (w : World) (hB : B0 ≤ w.heap.size) (hc : c = ((newD n).cap : Int)) :
    RNewOut B0 n w (.returned (.pointer (some ⟨w.heap.size, 0, none⟩))) (w.alloc (.cells #[.slice none 0 0, .slice none 0 0, .slice none 0 0, .slice none 0 0, .int .i64 c, .bool false, .int .i64 0] 55)) := by
  refine ⟨fun k => if k = w.heap.size then 1 else 0, ⟨w.heap.size, .slice none 0 0, .slice none 0 0, .slice none 0 0, .slice none 0 0, []⟩, rfl, ?_, (Below.refl _ _).alloc (Nat.le_refl _) _, fun k hk => ?_⟩
  · exact {
      blk := by rw [hc]; exact Blk.new _ _ _
      rq := by simp
      things := RowIs.nil
      safe := RowIs.nil
      steps := RowIs.nil
      files := RowIs.nil
      vl := rfl
      bytes := fun i f v hf => by simp [newD] at hf
      inw := fun k hk => by
        by_cases e : k = w.heap.size
        · subst e; simp
        · simp [e] at hk
      low := fun k hk => by
        have : k ≠ w.heap.size := by omega
        simp [this] }
  · by_cases e : k = w.heap.size
    · omega
    · simp [e] at hk
set_option maxHeartbeats 1000000 in
theorem rnew_calls (B0 : Nat) (n : Int) (w : World) (hB : B0 ≤ w.heap.size) (hn : n ≤ 9223372036854775807) (hn' : -9223372036854775808 ≤ n) :
    Calls Tryz.prog 20 #[.int .i64 n] w (RNewOut B0 n w) := by
  have hcap : ∀ c : Int, c = ((newD n).cap : Int) → RNewOut B0 n w (.returned (.pointer (some ⟨w.heap.size, 0, none⟩))) (w.alloc (.cells #[.slice none 0 0, .slice none 0 0, .slice none 0 0, .slice none 0 0, .int .i64 c, .bool false, .int .i64 0] 55)) := fun c hc => rnew_of B0 n c w hB hc
  have HC := Lib.hid hcap
  clear hcap
  by_cases h1 : n < 0
  · have d1 : decide (n < 0) = true := by simpa using h1
    go_enter Tryz.func20, Tryz.ntmps20
    go_wp2_with fail
    go_ret
    exact HC.out 0 (by simp [newD]; omega)
  · have d1 : decide (n < 0) = false := by simpa using h1
    by_cases h2 : (67108864 : Int) < n
    · have d2 : decide ((67108864 : Int) < n) = true := by simpa using h2
      go_enter Tryz.func20, Tryz.ntmps20
      go_wp2_with fail
      go_ret
      exact HC.out 67108864 (by simp [newD]; omega)
    · have d2 : decide ((67108864 : Int) < n) = false := by simpa using h2
      go_enter Tryz.func20, Tryz.ntmps20
      go_wp2_with fail
      go_ret
      exact HC.out n (by simp [newD]; omega)

/-- The number of a file's bytes, and the failure. -/
def fileV : Except Nat Nat → Int × Int
  | .ok i => ((i : Int), 0)
  | .error e => (0, (e : Int))
set_option maxRecDepth 100000 in
set_option maxHeartbeats 2000000 in
theorem rfile_calls (S : ByteArray) (w : World) (h : RD B0 w R A d) (htl : d.things.length ≤ 1073741824) (hS : S.size ≤ 1073741824) :
    Calls Tryz.prog 92 #[.pointer (some ⟨A.q, 0, none⟩), .string S] w fun e w' => e = .returned (.tuple #[.int .i64 (fileV (fileD d S.data.toList)).1, .int .i64 (fileV (fileD d S.data.toList)).2]) ∧ w = w' := by
  obtain ⟨x, y, hxy⟩ : ∃ x y, fileV (fileD d S.data.toList) = (x, y) := ⟨_, _, rfl⟩
  rw [hxy]
  obtain ⟨X, c, hv, hX, hc⟩ := h.things.out
  obtain ⟨q, hq⟩ : ∃ q, A.q = q := ⟨_, rfl⟩
  obtain ⟨n, hn⟩ : ∃ n, d.things.length = n := ⟨_, rfl⟩
  have c0 : w.cell? ⟨q, 0, none⟩ = some (.slice X n c) := by rw [← hq, ← hn, ← hv]; exact Blk.cell h.blk 0
  obtain ⟨o, ho⟩ : ∃ o, d.off = o := ⟨_, rfl⟩
  have c5 : w.cell? ⟨q, 5, none⟩ = some (.bool o) := by rw [← hq, ← ho]; exact Blk.cell h.blk 5
  obtain ⟨pb, hpb⟩ : ∃ b, pathB S.data.toList = b := ⟨_, rfl⟩
  have HPB := Lib.hid (rpath_calls S pb hpb w hS)
  rw [hn] at hX htl hc
  rw [hq]
  unfold fileD at hxy
  rw [ho, hpb] at hxy
  have HX := Lib.hid hX
  clear h hv hq hn hX ho hpb
  go_enter Tryz.func92, Tryz.ntmps92
  go_wp2_with fail
  refine HPB.out.mono ?_
  rintro _ w1 ⟨rfl, rfl⟩
  cases o with
  | true =>
    obtain ⟨rfl, rfl⟩ : 0 = x ∧ 1 = y := by simpa [fileV] using hxy
    clear hxy
    go_wp2_with fail
    go_ret2
    exact ⟨rfl, rfl⟩
  | false =>
    cases pb with
    | false =>
      obtain ⟨rfl, rfl⟩ : 0 = x ∧ 2 = y := by simpa [fileV] using hxy
      clear hxy
      go_wp2_with fail
      go_ret2
      exact ⟨rfl, rfl⟩
    | true =>
      simp only [Bool.false_eq_true, if_false, Bool.true_eq_false] at hxy
      unfold fileT at hxy
      rcases findV_cases d.things S.data.toList with ⟨h1, h2⟩ | ⟨k, hk, h1, h2⟩
      · rw [h1] at hxy
        obtain ⟨rfl, rfl⟩ : 0 = x ∧ 4 = y := by simpa [fileV] using hxy
        have HFC := Lib.hid (rfind_calls d.things X n c w HX.out S (-1) h2 htl)
        clear hxy h1 h2
        go_wp2_with fail
        refine HFC.out.mono ?_
        rintro _ w1 ⟨rfl, rfl⟩
        go_wp2_with fail
        go_ret2
        exact ⟨rfl, rfl⟩
      · rw [h1] at hxy
        have HFC := Lib.hid (rfind_calls d.things X n c w HX.out S (k : Int) h2 htl)
        have hk' : k < n := by have : d.things.length = n := Elems.len HX.out; omega
        obtain ⟨b, off, rfl, hbl, _, k1, k2⟩ := HX.out.at_ hk'
        have d1 : decide ((k : Int) < 0) = false := by simp
        simp only [] at hxy
        clear h1 h2 hk
        cases hd : d.things[k]!.dir with
        | true =>
          rw [hd] at k1 hxy
          obtain ⟨rfl, rfl⟩ : 0 = x ∧ 3 = y := by simpa [fileV] using hxy
          clear hxy hd
          go_wp2_with fail
          refine HFC.out.mono ?_
          rintro _ w1 ⟨rfl, rfl⟩
          go_wp2_with fail
          go_ret2
          exact ⟨rfl, rfl⟩
        | false =>
          rw [hd] at k1 hxy
          obtain ⟨z, hz⟩ : ∃ z, d.things[k]!.at_ = z := ⟨_, rfl⟩
          rw [hz] at k2 hxy
          obtain ⟨rfl, rfl⟩ : (z : Int) = x ∧ 0 = y := by simpa [fileV] using hxy
          clear hxy hd hz
          go_wp2_with fail
          refine HFC.out.mono ?_
          rintro _ w1 ⟨rfl, rfl⟩
          go_wp2_with fail
          go_ret2
          exact ⟨rfl, rfl⟩
end
end Go.Proofs.YtdaidbnbfjgjeaaGreatDoor
