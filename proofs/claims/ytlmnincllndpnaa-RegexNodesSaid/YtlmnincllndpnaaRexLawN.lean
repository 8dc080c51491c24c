/- The statement RegexNodes, walked: a tree beside the document's nodes; a tree that is spoilt. -/
import Derived.Test.YtlmnincllndpnaaRefShow
import Derived.Test.YtlmnincllndpnaaRexLawG
namespace Go.Proofs.Ytlmnincllndpnaa
open Go.RowKit
attribute [local go_sem ↓] Go.wp_at_zero Go.wp_at_succ
attribute [local go_sem] Later.cell Later.frozen
attribute [-go_sem] loadCells

def AlikeOk (u : Tr) : Prop := ∀ (w : World) (p t : Nat) (ns : List RN) (n : Nat), RefTree w t ns → NodeIs ns u n → TreeIs w u p →
  Calls Try.prog 20 #[.pointer (some ⟨p, 0, none⟩), .pointer (some ⟨t, 0, none⟩), .int .i64 n] w fun e w' => e = .returned (.bool true) ∧ Below w.heap.size w w'
theorem set_row {w : World} {p : Nat} {kd : Int} {S : Nat} {kids : Value} (h : Blk w p 52 (nodeCells kd S kids)) :
    (loadCells ⟨p, 1, none⟩ 4).run Try.prog w = .ok #[.int .u64 (word S 0), .int .u64 (word S 1), .int .u64 (word S 2), .int .u64 (word S 3)] w := by
  have := run_loadCells_list (P := Try.prog) w ⟨p, 1, none⟩ [.int .u64 (word S 0), .int .u64 (word S 1), .int .u64 (word S 2), .int .u64 (word S 3)] (fun j v hv => by
    rw [Addr.add_lit, h.cell]
    match j, hv with
    | 0, hv => simpa [nodeCells] using hv
    | 1, hv => simpa [nodeCells] using hv
    | 2, hv => simpa [nodeCells] using hv
    | 3, hv => simpa [nodeCells] using hv
    | j + 4, hv => simp at hv)
  simpa using this
theorem later_set {w : World} {p : Nat} {kd : Int} {S : Nat} {kids : Value} (h : Blk w p 52 (nodeCells kd S kids)) (x : Later w) :
    (loadCells ⟨p, 1, none⟩ 4).run Try.prog x.w = .ok #[.int .u64 (word S 0), .int .u64 (word S 1), .int .u64 (word S 2), .int .u64 (word S 3)] x.w := set_row (h.below x.h h.lt)

/-- The calls at a node's children. -/
def KidsOk (w : World) (t : Nat) (kd a b : Nat) (A : Option Addr) (n : Nat) : Prop :=
  ((kd = 0 ∨ kd = 1) ∧ n = 0) ∨
  ((kd = 2 ∨ kd = 3) ∧ n = 2 ∧ ∃ k pa pb, A = some ⟨k, 0, none⟩ ∧ Blk w k 23 #[.pointer (some ⟨pa, 0, none⟩), .pointer (some ⟨pb, 0, none⟩)] ∧
    (∀ w', Below w.heap.size w w' → Calls Try.prog 20 #[.pointer (some ⟨pa, 0, none⟩), .pointer (some ⟨t, 0, none⟩), .int .i64 a] w' fun e w'' => e = .returned (.bool true) ∧ Below w'.heap.size w' w'') ∧
    (∀ w', Below w.heap.size w w' → Calls Try.prog 20 #[.pointer (some ⟨pb, 0, none⟩), .pointer (some ⟨t, 0, none⟩), .int .i64 b] w' fun e w'' => e = .returned (.bool true) ∧ Below w'.heap.size w' w'')) ∨
  ((kd = 4 ∨ kd = 5 ∨ kd = 6) ∧ n = 1 ∧ ∃ k pa, A = some ⟨k, 0, none⟩ ∧ Blk w k 23 #[.pointer (some ⟨pa, 0, none⟩)] ∧
    (∀ w', Below w.heap.size w w' → Calls Try.prog 20 #[.pointer (some ⟨pa, 0, none⟩), .pointer (some ⟨t, 0, none⟩), .int .i64 a] w' fun e w'' => e = .returned (.bool true) ∧ Below w'.heap.size w' w''))

set_option maxRecDepth 100000 in
set_option maxHeartbeats 2000000 in
theorem alike_gen (kd S a b n c m p t : Nat) (A : Option Addr) (ns : List RN) (w : World) (htree : RefTree w t ns) (hx : ns[m]? = some ⟨kd, S, a, b⟩) (hp : Blk w p 52 (nodeCells kd S (.slice A n c))) (hk : KidsOk w t kd a b A n) :
    Calls Try.prog 20 #[.pointer (some ⟨p, 0, none⟩), .pointer (some ⟨t, 0, none⟩), .int .i64 m] w fun e w' => e = .returned (.bool true) ∧ Below w.heap.size w w' := by
  obtain ⟨base, v, s, j, d, h1, h2⟩ := htree
  obtain ⟨g, cap, rfl, hlr, hgl⟩ := node_load h2 hx
  have hnl := (List.getElem?_eq_some_iff.1 hx).1
  obtain ⟨w1, hrow, hb1, hn1⟩ := node_made w ⟨kd, S, a, b⟩
  have c0 : _ = some (Value.slice (some ⟨g, 0, none⟩) ns.length cap) := h1.cell 0
  have hrl : (RN.row ⟨kd, S, a, b⟩).size = 259 := RN.size _
  have hci : (m : Int) < (ns.length : Int) := by omega
  have HK := Lib.hid hk
  have HX := Lib.hid hx
  clear hx hk
  go_enter Try.func20, Try.ntmps20
  go_upto_region 2 with fail
  obtain ⟨k0, k1, k2⟩ := row_cell hn1
  have hp1 := hp.below hb1 hp.lt
  have p0 : _ = some (Value.int .i64 (kd : Int)) := hp1.cell 0
  have hpl := hp1.lt
  have hql := hn1.lt
  clear hrow hlr c0 hrl k1 k2
  obtain ⟨q, hq⟩ : ∃ q, w.heap.size = q := ⟨_, rfl⟩
  rw [hq] at hn1 k0 hql ⊢
  have HQ := Lib.hid hq
  clear hq
  go_cut [26] (fun s26 wz => s26 = .bool false ∧ Below w1.heap.size w1 wz)
  case first =>
    have e0 : ((kd : Int) != (kd : Int)) = false := by simp
    refine wp_region_later (by kernel_rfl) (by kernel_rfl) ?_
    repeat (go_big_quiet_step (fail))
    refine wpQuiet_nil ?_
    rintro w3 ⟨⟨_, hb3⟩, rfl⟩
    go_wp2_with fail
    go_meet
    exact ⟨rfl, hb3⟩
  case rest =>
    obtain ⟨rfl, hb2⟩ := hcut
    obtain ⟨w2, rfl⟩ : ∃ x, x = wc := ⟨_, rfl⟩
    have hp2 := hp1.below hb2 hp1.lt
    have hn2 := hn1.below hb2 hql
    clear p0 k0 hpl hql
    go_upto_block 0 with fail
    go_cut [] (fun wz => Below w2.heap.size w2 wz)
    case first =>
      go_wp2_with fail
      go_loopg [27] 256 (fun g s27 wr => ∃ k : Nat, k + g = 256 ∧ s27 = .int .i64 (k : Nat) ∧ Below w2.heap.size w2 wr)
      case atStart => exact ⟨0, by omega, rfl, Below.refl _ _⟩
      case round =>
        obtain ⟨k, hkg, rfl, hB⟩ := hrel
        have HKG := Lib.hid hkg
        clear hkg
        by_cases hk : k < 256
        · have hp3 := hp2.below hB hp2.lt
          have hn3 := hn2.below hB hn2.lt
          have hset := later_set hp3
          have ck : wr.cell? ⟨q, 1 + k, none⟩ = some (.bool _) := (hn3.cell _).trans (nodeRow_bit _ _ _ _ k hk)
          have hhas : ∀ x : Later wr, Calls Try.prog 22 #[.agg #[.int .u64 (word S 0), .int .u64 (word S 1), .int .u64 (word S 2), .int .u64 (word S 3)], .int .u8 k] x.w fun e w' => e = .returned (.bool (S.testBit k)) ∧ Below x.w.heap.size x.w w' := fun x => has_calls S k hk x.w
          obtain ⟨bx, hbx⟩ : ∃ bx, S.testBit k = bx := ⟨_, rfl⟩
          rw [hbx] at hhas ck
          have hqr := hn3.lt
          have hpr := hp3.lt
          have HH := Lib.hid hhas
          clear hhas hbx
          go_upto_region 7 with fail
          refine wp_region_later (by kernel_rfl) (by kernel_rfl) ?_
          repeat (go_big_quiet_step (first | (go_at_call 22; exact quiet_later _ (HH.out _))))
          refine wpQuiet_nil ?_
          rintro w3 ⟨⟨_, hb3⟩, rfl⟩
          go_wp2_with fail
          go_roundg (gk - 1)
          case measure => have := HKG.out; omega
          case rel => exact ⟨k + 1, by have := HKG.out; omega, by go_num, then_ hB (hb3.mono (Nat.le_refl _))⟩
        · obtain rfl : k = 256 := by have := HKG.out; omega
          go_wp2_with fail
          go_meet
          exact hB
    case rest =>
      obtain ⟨w3, rfl⟩ : ∃ x, x = wc := ⟨_, rfl⟩
      have hb3 : Below w2.heap.size w2 w3 := hcut
      have hp3 := hp2.below hb3 hp2.lt
      have hn3 := hn2.below hb3 hn2.lt
      obtain ⟨k0, k1, k2⟩ := row_cell hn3
      have p5 : _ = some (Value.slice A n c) := hp3.cell 5
      have hB := then_ (then_ hb1 hb2) hb3
      have hpl := hp3.lt
      have hql := hn3.lt
      clear hcut
      rcases HK.out with ⟨hkd, rfl⟩ | ⟨hkd, rfl, k, pa, pb, rfl, hkb, hca, hcb⟩ | ⟨hkd, rfl, k, pa, rfl, hkb, hca⟩
      · rcases hkd with rfl | rfl
        all_goals
          go_wp2_with fail
          go_ret
          exact ⟨rfl, hB⟩
      · have hkb3 := hkb.below hB hkb.lt
        have g0 : _ = some (Value.pointer (some ⟨pa, 0, none⟩)) := hkb3.cell 0
        have g1 : _ = some (Value.pointer (some ⟨pb, 0, none⟩)) := hkb3.cell 1
        have hkl := hkb3.lt
        have hA1 : ∀ x : Later w3, Calls Try.prog 20 #[.pointer (some ⟨pa, 0, none⟩), .pointer (some ⟨t, 0, none⟩), .int .i64 a] x.w fun e w'' => e = .returned (.bool true) ∧ Below x.w.heap.size x.w w'' := fun x => hca _ (then_ hB x.h)
        have hB1 : ∀ x : Later w3, Calls Try.prog 20 #[.pointer (some ⟨pb, 0, none⟩), .pointer (some ⟨t, 0, none⟩), .int .i64 b] x.w fun e w'' => e = .returned (.bool true) ∧ Below x.w.heap.size x.w w'' := fun x => hcb _ (then_ hB x.h)
        have HA1 := Lib.hid hA1
        have HB1 := Lib.hid hB1
        clear hA1 hB1 hca hcb HK
        rcases hkd with rfl | rfl
        all_goals
          go_upto_region 16 with fail
          refine wp_region_later (by kernel_rfl) (by kernel_rfl) ?_
          repeat (go_big_quiet_step (first | (go_at_call_of 20 (Value.pointer (some ⟨pa, 0, none⟩)); exact quiet_later _ (HA1.out _)) | (go_at_call 20; exact quiet_later _ (HB1.out _))))
          refine wpQuiet_nil ?_
          rintro w4 ⟨⟨_, hb4⟩, rfl⟩
          go_wp2_with fail
          go_ret
          exact ⟨rfl, then_ hB hb4⟩
      · have hkb3 := hkb.below hB hkb.lt
        have g0 : _ = some (Value.pointer (some ⟨pa, 0, none⟩)) := hkb3.cell 0
        have hkl := hkb3.lt
        have hA1 : ∀ x : Later w3, Calls Try.prog 20 #[.pointer (some ⟨pa, 0, none⟩), .pointer (some ⟨t, 0, none⟩), .int .i64 a] x.w fun e w'' => e = .returned (.bool true) ∧ Below x.w.heap.size x.w w'' := fun x => hca _ (then_ hB x.h)
        have HA1 := Lib.hid hA1
        clear hA1 hca HK
        rcases hkd with rfl | rfl | rfl
        all_goals
          go_upto_region 17 with fail
          refine wp_region_later (by kernel_rfl) (by kernel_rfl) ?_
          repeat (go_big_quiet_step (first | (go_at_call 20; exact quiet_later _ (HA1.out _))))
          refine wpQuiet_nil ?_
          rintro w4 ⟨⟨_, hb4⟩, rfl⟩
          go_wp2_with fail
          go_ret
          exact ⟨rfl, then_ hB hb4⟩

theorem alike_calls : ∀ u : Tr, AlikeOk u
  | .empty => fun w p t ns n ht hn hp => alike_gen 0 0 0 0 0 0 n p t none ns w ht hn hp (.inl ⟨.inl rfl, rfl⟩)
  | .cls S => fun w p t ns n ht hn hp => alike_gen 1 S 0 0 0 0 n p t none ns w ht hn.2 hp.2 (.inl ⟨.inr rfl, rfl⟩)
  | .cat a b => fun w p t ns n ht hn hp => by
    obtain ⟨i, j, e, ha, hb⟩ := hn
    obtain ⟨k, pa, pb, ta, tb, hk, hp⟩ := hp
    exact alike_gen 2 0 i j 2 2 n p t (some ⟨k, 0, none⟩) ns w ht e hp (.inr (.inl ⟨.inl rfl, rfl, k, pa, pb, rfl, hk, fun w' hb' => alike_calls a w' pa t ns i (ht.below hb') ha (ta.keep (below_keeps hb')), fun w' hb' => alike_calls b w' pb t ns j (ht.below hb') hb (tb.keep (below_keeps hb'))⟩))
  | .alt a b => fun w p t ns n ht hn hp => by
    obtain ⟨i, j, e, ha, hb⟩ := hn
    obtain ⟨k, pa, pb, ta, tb, hk, hp⟩ := hp
    exact alike_gen 3 0 i j 2 2 n p t (some ⟨k, 0, none⟩) ns w ht e hp (.inr (.inl ⟨.inr rfl, rfl, k, pa, pb, rfl, hk, fun w' hb' => alike_calls a w' pa t ns i (ht.below hb') ha (ta.keep (below_keeps hb')), fun w' hb' => alike_calls b w' pb t ns j (ht.below hb') hb (tb.keep (below_keeps hb'))⟩))
  | .star a => fun w p t ns n ht hn hp => by
    obtain ⟨i, e, ha⟩ := hn
    obtain ⟨k, pa, ta, hk, hp⟩ := hp
    exact alike_gen 4 0 i 0 1 1 n p t (some ⟨k, 0, none⟩) ns w ht e hp (.inr (.inr ⟨.inl rfl, rfl, k, pa, rfl, hk, fun w' hb' => alike_calls a w' pa t ns i (ht.below hb') ha (ta.keep (below_keeps hb'))⟩))
  | .plus a => fun w p t ns n ht hn hp => by
    obtain ⟨i, e, ha⟩ := hn
    obtain ⟨k, pa, ta, hk, hp⟩ := hp
    exact alike_gen 5 0 i 0 1 1 n p t (some ⟨k, 0, none⟩) ns w ht e hp (.inr (.inr ⟨.inr (.inl rfl), rfl, k, pa, rfl, hk, fun w' hb' => alike_calls a w' pa t ns i (ht.below hb') ha (ta.keep (below_keeps hb'))⟩))
  | .quest a => fun w p t ns n ht hn hp => by
    obtain ⟨i, e, ha⟩ := hn
    obtain ⟨k, pa, ta, hk, hp⟩ := hp
    exact alike_gen 6 0 i 0 1 1 n p t (some ⟨k, 0, none⟩) ns w ht e hp (.inr (.inr ⟨.inr (.inr rfl), rfl, k, pa, rfl, hk, fun w' hb' => alike_calls a w' pa t ns i (ht.below hb') ha (ta.keep (below_keeps hb'))⟩))
end Go.Proofs.Ytlmnincllndpnaa
