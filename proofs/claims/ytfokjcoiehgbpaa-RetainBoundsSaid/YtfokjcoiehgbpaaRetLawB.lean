/- The walk of RetainDecides: it answers true. -/
import Derived.Test.YtfokjcoiehgbpaaRetLawA
import Derived.Laws.AppendOwnNone
namespace Go.Proofs.Ytfokjcoiehgbpaa
open Go.RowKit
attribute [local go_sem ↓] Go.wp_at_zero Go.wp_at_succ
attribute [local go_sem] Later.cell Later.frozen

theorem info_info : (Try.prog.info? 39).map (fun i => (i.zero, i.size, i.bytes)) = some (some (.agg #[.int .i64 0, .int .i64 0, .int .i64 0, .int .i64 0, .int .i64 0]), 5, 40) := by kernel_rfl

/-- What stands in memory all along in RetainDecides. -/
structure LawMem (w wr : World) (B : Nat) (p : Pol) (M : Man) (A : Option Addr) (n c : Nat) (xs : List Info) (A7 : Option Addr) : Prop where
  below : Below B w wr
  size : B + 2 ≤ wr.heap.size
  pol : Blk wr B 24 #[.int .i64 p.k0, .int .i64 p.k1, .int .i64 p.k2, .int .i64 p.size]
  man : Blk wr (B + 1) 27 (M.cells (.slice A n c))
  arg : Elems wr B 5 Info.enc A n xs
  copy : Elems wr wr.heap.size 5 Info.enc A7 n xs

theorem LawMem.later {w wr w2 : World} {B n c : Nat} {p : Pol} {M : Man} {A A7 : Option Addr} {xs : List Info} (h : LawMem w wr B p M A n c xs A7) (hb : Below wr.heap.size wr w2) : LawMem w w2 B p M A n c xs A7 := by
  have hz := h.size
  have hs := hb.size
  exact { below := h.below.trans (hb.mono (by omega)), size := by omega, pol := h.pol.below hb (by omega), man := h.man.below hb (by omega), arg := h.arg.below (hb.mono (by omega)), copy := (h.copy.below hb).more hs }

theorem fresh_ne {A : Option Addr} {N L k : Nat} (h : ∀ a, A = some a → N ≤ a.block) (hk : A.map (·.block) = some k) (hL : L < N) : k ∉ [L] := by
  cases A with
  | none => simp at hk
  | some a =>
    have := h a rfl
    simp only [Option.map_some, Option.some.injEq] at hk
    simp
    omega

/-- Three cells that may be written. -/
def Three (w : World) (g : Nat) : Prop :=
  (w.cell? ⟨g, 0, none⟩ = some (.int .i64 0) ∧ w.cell? ⟨g, 1, none⟩ = some (.int .i64 0) ∧ w.cell? ⟨g, 2, none⟩ = some (.int .i64 0)) ∧ w.frozen? ⟨g, 0, none⟩ = false ∧ w.frozen? ⟨g, 1, none⟩ = false ∧ w.frozen? ⟨g, 2, none⟩ = false
theorem three_of {w : World} {g : Nat} {t : TypeId} (h : Blk w g t #[.int .i64 0, .int .i64 0, .int .i64 0]) : Three w g := ⟨⟨h.cell 0, h.cell 1, h.cell 2⟩, h.frozen 0, h.frozen 1, h.frozen 2⟩
theorem blk_first {wy w1 w2 : World} {t : TypeId} (h8 : Below (wy.alloc (.cells #[.int .i64 0, .int .i64 0, .int .i64 0] t)).drew.heap.size (wy.alloc (.cells #[.int .i64 0, .int .i64 0, .int .i64 0] t)).drew w1) (h7 : Below w1.heap.size w1 w2) : Blk w2 wy.heap.size t #[.int .i64 0, .int .i64 0, .int .i64 0] := by
  have h1 : Blk w1 wy.heap.size t #[.int .i64 0, .int .i64 0, .int .i64 0] := (Blk.newAt rfl : Blk (wy.alloc _) _ _ _).drew.below h8 (by simp)
  exact h1.below h7 h1.lt
theorem blk_mid {w1 w2 : World} {t : TypeId} (h7 : Below (w1.alloc (.cells #[.int .i64 0, .int .i64 0, .int .i64 0] t)).heap.size (w1.alloc (.cells #[.int .i64 0, .int .i64 0, .int .i64 0] t)) w2) : Blk w2 w1.heap.size t #[.int .i64 0, .int .i64 0, .int .i64 0] :=
  (Blk.newAt rfl : Blk (w1.alloc _) _ _ _).below h7 (by simp)

set_option maxHeartbeats 4000000 in
set_option maxRecDepth 100000 in
theorem retainDecides_calls (p : Pol) (now : Int) (M : Man) (A : Option Addr) (n c : Nat) (xs : List Info) (w : World) (hn : n * 40 ≤ 140737488351232)
    (hk0 : -9223372036854775808 ≤ p.k0) (hk1 : -9223372036854775808 ≤ p.k1) (hk2 : -9223372036854775808 ≤ p.k2) (hnow : -9223372036854775808 ≤ now)
    (hX : Elems w w.heap.size 5 Info.enc A n xs) (hA : A = none → c = 0) :
    Calls Try.prog 3 #[p.val, .int .i64 now, M.val (.slice A n c)] w fun e w' => e = .returned (.bool true) ∧ Below w.heap.size w w' := by
  have hxl := Lib.hid hX.1
  have heq := arr3_eq
  obtain ⟨i0, hi0, hz0, hz1, hz2⟩ := info_parts info_info
  go_enter Try.func3, Try.ntmps3
  go_upto_region 1 with fail
  go_cut [7] (fun s7 wx => ∃ A7 c7, s7 = .slice A7 n c7 ∧ LawMem w wx w.heap.size p M A n c xs A7)
  case first =>
    have hxn := hxl.out
    have hX2 : ∀ o o', Elems ((w.alloc o).alloc o') w.heap.size 5 Info.enc A n xs := fun o o' => hX.below (by go_grown)
    cases A with
    | none =>
      have hn0 : n = 0 := by
        rcases Nat.eq_zero_or_pos n with h | h
        · exact h
        · obtain ⟨_, _, h', _⟩ := hX.2 h; cases h'
      subst hn0
      have hxs : xs = [] := List.eq_nil_of_length_eq_zero hxn
      subst hxs
      have hc0 := hA rfl
      subst hc0
      go_wp2_with (at_builtin; refine wpList_append_own_none _ rfl _ _ 25 rfl (w.heap.size + 2) 39 i0 5 Try.underlying25 hi0 _ 0 [] rfl (World.ownsRow_nil _ _ _ _) rfl ?_)
      go_meet
      exact ⟨none, 0, rfl, { below := by go_grown, size := by simp, pol := (Blk.newAt rfl).alloc _, man := Blk.newAt (by simp), arg := hX2 _ _, copy := Elems.nil_ }⟩
    | some ad =>
      go_wp2_with (at_builtin; refine wpList_append_own_at _ rfl _ _ 25 rfl (w.heap.size + 2) 39 i0 _ 5 40 Try.underlying25 hi0 hz0 hz1 hz2 rfl (by decide) (.slice none 0 0) 0 [] rfl (World.ownsRow_nil _ _ _ _) ad n c (xs.flatMap Info.enc) rfl (by rw [encs_len, hxn]) ?c1 ?c2 ?c3 ?c4 ?c5 ?_)
      case c1 => exact Elems.cells (by intro x _; rfl) (hX2 _ _)
      case c2 => exact encs_one xs
      case c3 => unfold maxLen; omega
      case c4 => omega
      case c5 => simp
      rintro v' w2 hown2 hg2 _ hat
      have hbz := hg2.size
      simp at hbz
      have hbl : Below w.heap.size w w2 := Below.grown (by go_grown) hg2 (by simp; omega) (by simp [Value.ownBlock])
      have hp2 := Blk.grown (g := w.heap.size) (t := 24) ((Blk.newAt (cs := #[.int .i64 p.k0, .int .i64 p.k1, .int .i64 p.k2, .int .i64 p.size]) rfl).alloc _) hg2 (by simp [Value.ownBlock])
      have hm2 := Blk.grown (g := w.heap.size + 1) (t := 27) (cs := M.cells (.slice (some ad) n c)) (Blk.newAt (by simp)) hg2 (by simp [Value.ownBlock])
      go_wp2
      go_meet
      obtain ⟨A7, c7, hv, hE, _⟩ := Elems.of_own (enc := Info.enc) (by intro x _; rfl) rfl hown2 hxn
      exact ⟨A7, c7, hv, { below := hbl, size := by omega, pol := hp2, man := hm2, arg := hX.below hbl, copy := hE }⟩
  case rest =>
    obtain ⟨A7, c7, rfl, hL⟩ := hcut
    obtain ⟨wx, rfl⟩ : ∃ wx, wx = wc := ⟨_, rfl⟩
    obtain ⟨r, hr⟩ : ∃ r, decideOf p.keeps p.size now M.w0 M.low xs = r := ⟨_, rfl⟩
    have HR := Lib.hid hr
    have hrl : r.2.length ≤ n := by rw [← hr, ← hxl.out]; exact idsTo_le _ _ _
    clear hr
    have pc := hL.pol.cell
    have mc := hL.man.cell
    have hz := hL.size
    simp only [Man.cells] at mc
    generalize hBw : w.heap.size = B at *
    have HB := Lib.hid hBw
    clear hBw
    go_upto_region 2 with fail
    go_cut [8, 9] (fun s8 s9 wy => ∃ L1 A9 c9, s8 = .pointer (some ⟨L1, 0, none⟩) ∧ s9 = .slice A9 r.2.length c9 ∧ LawMem w wy B p M A n c xs A7 ∧ Blk wy L1 22 #[.int .i64 (r.1.getD 0 0), .int .i64 (r.1.getD 1 0), .int .i64 (r.1.getD 2 0)] ∧ Elems wy wy.heap.size 1 I1 A9 r.2.length r.2)
    case first =>
      go_wp2_with fail
      refine (decide_calls_eq r p now M A n c xs _ HR.out (by omega) hk0 hk1 hk2 hnow (hL.arg.more (by omega))).mono ?_
      rintro e w1 ⟨A9, c9, rfl, hE9, hb9, _⟩
      obtain ⟨l0, hl0⟩ : ∃ l, r.1.getD 0 0 = l := ⟨_, rfl⟩
      obtain ⟨l1, hl1⟩ : ∃ l, r.1.getD 1 0 = l := ⟨_, rfl⟩
      obtain ⟨l2, hl2⟩ : ∃ l, r.1.getD 2 0 = l := ⟨_, rfl⟩
      rw [hl0, hl1, hl2]
      have HL0 := Lib.hid hl0
      have HL1 := Lib.hid hl1
      have HL2 := Lib.hid hl2
      clear hl0 hl1 hl2 pc mc
      go_wp2_with fail
      go_meet
      rw [HL0.out, HL1.out, HL2.out]
      exact ⟨_, A9, c9, rfl, rfl, (hL.later hb9).later (by go_grown), Blk.newAt rfl, (hE9.below (by go_grown)).more (by simp)⟩
    case rest =>
      obtain ⟨L1, A9, c9, rfl, rfl, hL1, hlow, hE9⟩ := hcut
      obtain ⟨wy, rfl⟩ : ∃ wy, wy = wc := ⟨_, rfl⟩
      clear pc mc hz hL
      have pc := hL1.pol.cell
      have mc := hL1.man.cell
      simp only [Man.cells] at mc
      have hz := hL1.size
      have ks : ∀ w', Below wy.heap.size wy w' → (w'.cell? ⟨B, 0, none⟩ = some (.int .i64 p.k0) ∧ w'.cell? ⟨B, 1, none⟩ = some (.int .i64 p.k1) ∧ w'.cell? ⟨B, 2, none⟩ = some (.int .i64 p.k2) ∧ w'.cell? ⟨B, 3, none⟩ = some (.int .i64 p.size) ∧ w'.cell? ⟨B + 1, 0, none⟩ = some (.int .i64 M.w0) ∧ w'.cell? ⟨B + 1, 1, none⟩ = some (.int .i64 M.w1) ∧ w'.cell? ⟨B + 1, 2, none⟩ = some (.int .i64 M.w2) ∧ w'.cell? ⟨B + 1, 3, none⟩ = some (.int .i64 M.next) ∧ w'.cell? ⟨B + 1, 4, none⟩ = some (.int .i64 M.log) ∧ w'.cell? ⟨B + 1, 5, none⟩ = some (.slice A n c) ∧ w'.cell? ⟨B + 1, 6, none⟩ = some (.int .i64 M.cut) ∧ w'.cell? ⟨B + 1, 7, none⟩ = some (.int .i64 M.r0) ∧ w'.cell? ⟨B + 1, 8, none⟩ = some (.int .i64 M.r1) ∧ w'.cell? ⟨B + 1, 9, none⟩ = some (.int .i64 M.r2) ∧ w'.cell? ⟨B + 1, 10, none⟩ = some (.int .i64 M.l0) ∧ w'.cell? ⟨B + 1, 11, none⟩ = some (.int .i64 M.l1) ∧ w'.cell? ⟨B + 1, 12, none⟩ = some (.int .i64 M.l2)) := fun w' hb => ⟨later hb (pc 0), later hb (pc 1), later hb (pc 2), later hb (pc 3), later hb (mc 0), later hb (mc 1), later hb (mc 2), later hb (mc 3), later hb (mc 4), later hb (mc 5), later hb (mc 6), later hb (mc 7), later hb (mc 8), later hb (mc 9), later hb (mc 10), later hb (mc 11), later hb (mc 12)⟩
      have KS := Lib.hid ks
      clear ks pc mc
      go_upto_region 3 with fail
      go_cut [10, 11] (fun s10 s11 wz => ∃ L2 A11 c11, s10 = .pointer (some ⟨L2, 0, none⟩) ∧ s11 = .slice A11 r.2.length c11 ∧ Below wy.heap.size wy wz ∧ Blk wz L2 22 #[.int .i64 (r.1.getD 0 0), .int .i64 (r.1.getD 1 0), .int .i64 (r.1.getD 2 0)] ∧ Elems wz wz.heap.size 1 I1 A11 r.2.length r.2)
      case first =>
        go_region_held3 (fun w' => w'.cell? ⟨B, 0, none⟩ = some (.int .i64 p.k0) ∧ w'.cell? ⟨B, 1, none⟩ = some (.int .i64 p.k1) ∧ w'.cell? ⟨B, 2, none⟩ = some (.int .i64 p.k2) ∧ w'.cell? ⟨B, 3, none⟩ = some (.int .i64 p.size) ∧ w'.cell? ⟨B + 1, 0, none⟩ = some (.int .i64 M.w0) ∧ w'.cell? ⟨B + 1, 1, none⟩ = some (.int .i64 M.w1) ∧ w'.cell? ⟨B + 1, 2, none⟩ = some (.int .i64 M.w2) ∧ w'.cell? ⟨B + 1, 3, none⟩ = some (.int .i64 M.next) ∧ w'.cell? ⟨B + 1, 4, none⟩ = some (.int .i64 M.log) ∧ w'.cell? ⟨B + 1, 5, none⟩ = some (.slice A n c) ∧ w'.cell? ⟨B + 1, 6, none⟩ = some (.int .i64 M.cut) ∧ w'.cell? ⟨B + 1, 7, none⟩ = some (.int .i64 M.r0) ∧ w'.cell? ⟨B + 1, 8, none⟩ = some (.int .i64 M.r1) ∧ w'.cell? ⟨B + 1, 9, none⟩ = some (.int .i64 M.r2) ∧ w'.cell? ⟨B + 1, 10, none⟩ = some (.int .i64 M.l0) ∧ w'.cell? ⟨B + 1, 11, none⟩ = some (.int .i64 M.l1) ∧ w'.cell? ⟨B + 1, 12, none⟩ = some (.int .i64 M.l2)) (first | (refine KS.out _ ?_; go_grown; done) | (refine KS.out _ (then_ ?_ hb8); go_grown; done) | (refine KS.out _ (then_ (then_ ?_ hb8) ?_) <;> (go_grown; done)) | (refine KS.out _ (then_ (then_ ?_ hb8) hb7); go_grown; done) | (refine KS.out _ (then_ (then_ (then_ ?_ hb8) hb7) ?_) <;> (go_grown; done)) | (refine KS.out _ (then_ (then_ (then_ ?_ hb8) ?_) hb7) <;> (go_grown; done)) | (have hs8 := hb8.size; simp at hs8; refine KS.out _ (Below.setCell (Below.setCell (Below.setCell (then_ (then_ ?_ hb8) hb7) ?_ _) ?_ _) ?_ _) <;> (first | (go_grown; done) | (simp; done) | (simp; omega))) | (have hs8 := hb8.size; simp at hs8; refine KS.out _ (Below.setCell (Below.setCell (Below.setCell (then_ (then_ (then_ ?_ hb8) ?_) hb7) ?_ _) ?_ _) ?_ _) <;> (first | (go_grown; done) | (simp; done) | (simp; omega))))
          (first | (go_at_call 8; refine (ref_calls M A n c xs _ ?_ ?_).mono ?_; (omega); (exact (hL1.arg.below (Below.mono (show Below wy.heap.size wy _ by go_grown) (by omega))).more (by simp; omega)); rintro e w1 ⟨A8, c8, rfl, hE8, hb8⟩) | (go_at_call 7; refine (refDecide_calls_eq r p now M A8 n c8 xs _ HR.out (by omega) hk0 hk1 hk2 hnow ?_).mono ?_; (exact (hE8.below (by go_grown)).more (by simp)); rintro e w2 ⟨A11, c11, rfl, hE11, hb7, hfr, _⟩; (first | (have hb3 := blk_first hb8 hb7; obtain ⟨⟨y0, y1, y2⟩, y3, y4, y5⟩ := three_of hb3) | (have hb3 := blk_mid hb7; obtain ⟨⟨y0, y1, y2⟩, y3, y4, y5⟩ := three_of hb3) | skip)))
        all_goals go_wp2_with fail
        all_goals go_meet
        · exact ⟨_, A11, c11, rfl, rfl, then_ (then_ (then_ (by go_grown) hb8) hb7) (by go_grown), Blk.newAt rfl, (hE11.below (by go_grown)).more (by simp)⟩
        · have hs8 := hb8.size
          simp at hs8
          refine ⟨_, A11, c11, rfl, rfl, ((then_ (then_ (then_ (by go_grown) hb8) (by go_grown)) hb7).setCell (by simp; omega) _ |>.setCell (by simp; omega) _ |>.setCell (by simp; omega) _), ((hb3.set_ 0 _).set_ 1 _).set_ 2 _, ?_⟩
          refine Elems.more (B := w2.heap.size) (hE11.keepAt fun q hq1 hq2 => (((Kept.refl w2.heap.size [w1.heap.size] w2).setCell (.inl (by simp)) _ |>.setCell (.inl (by simp)) _ |>.setCell (.inl (by simp)) _).cell hq1 (fresh_ne hfr hq2 (by simp)))) (by simp)
        · have hs8 := hb8.size
          simp at hs8
          refine ⟨_, A11, c11, rfl, rfl, ((then_ (then_ (by go_grown) hb8) hb7).setCell (by simp) _ |>.setCell (by simp) _ |>.setCell (by simp) _), ((hb3.set_ 0 _).set_ 1 _).set_ 2 _, ?_⟩
          refine Elems.more (B := w2.heap.size) (hE11.keepAt fun q hq1 hq2 => (((Kept.refl w2.heap.size [wy.heap.size] w2).setCell (.inl (by simp)) _ |>.setCell (.inl (by simp)) _ |>.setCell (.inl (by simp)) _).cell hq1 (fresh_ne hfr hq2 (by omega)))) (by simp)
      case rest =>
        obtain ⟨L2, A11, c11, rfl, rfl, hbz, hlow2, hE11⟩ := hcut
        obtain ⟨wz, rfl⟩ : ∃ wz, wz = wc := ⟨_, rfl⟩
        have hL2 := hL1.later hbz
        have hlowz := hlow.below hbz hlow.lt
        have hE9z := (hE9.below hbz).more hbz.size
        obtain ⟨lo, ids⟩ := r
        dsimp only at *
        obtain ⟨l0, hl0⟩ : ∃ l, lo.getD 0 0 = l := ⟨_, rfl⟩
        obtain ⟨l1, hl1⟩ : ∃ l, lo.getD 1 0 = l := ⟨_, rfl⟩
        obtain ⟨l2, hl2⟩ : ∃ l, lo.getD 2 0 = l := ⟨_, rfl⟩
        rw [hl0, hl1, hl2] at hlowz hlow2
        clear hL1 hlow hE9 hbz KS hl0 hl1 hl2 HR hz
        generalize hm : ids.length = m at *
        have HM := Lib.hid hm
        clear hm
        have hmb : m ≤ 9223372036854775807 := by omega
        go_wp2_with fail
        refine (wakes_calls _).mono ?_
        rintro e w5 ⟨rfl, hb5⟩
        have hL5 := hL2.later hb5
        have hlow5 := hlowz.below hb5 hlowz.lt
        have hlow25 := hlow2.below hb5 hlow2.lt
        have hE95 := (hE9z.below hb5).more hb5.size
        have hE115 := (hE11.below hb5).more hb5.size
        have a0 : w5.cell? ⟨L1, 0, none⟩ = some (.int .i64 l0) := hlow5.cell 0
        have a1 : w5.cell? ⟨L1, 1, none⟩ = some (.int .i64 l1) := hlow5.cell 1
        have a2 : w5.cell? ⟨L1, 2, none⟩ = some (.int .i64 l2) := hlow5.cell 2
        have b0 : w5.cell? ⟨L2, 0, none⟩ = some (.int .i64 l0) := hlow25.cell 0
        have b1 : w5.cell? ⟨L2, 1, none⟩ = some (.int .i64 l1) := hlow25.cell 1
        have b2 : w5.cell? ⟨L2, 2, none⟩ = some (.int .i64 l2) := hlow25.cell 2
        clear hL2 hlowz hlow2 hE9z hE11 hb5
        go_wp2_with fail
        go_loopg [52] m (fun gk i wr => ∃ k : Nat, k + gk = m ∧ i = .int .i64 k ∧ Below w5.heap.size w5 wr)
        case atStart => exact ⟨0, by omega, rfl, Below.refl _ _⟩
        case round =>
          obtain ⟨k, hk, rfl, hbr⟩ := hrel
          have HK := Lib.hid hk
          have hkn : k ≤ m := by omega
          clear hk
          by_cases hlt : k < m
          · have hml := HM.out
            obtain ⟨x, hx⟩ : ∃ x, ids[k]? = some x := ⟨_, List.getElem?_eq_getElem (by omega)⟩
            obtain ⟨b9, o9, rfl, hb9, hc9⟩ := hE95.2 (by omega)
            obtain ⟨b11, o11, rfl, hb11, hc11⟩ := hE115.2 (by omega)
            have q9 : wr.cell? ⟨b9, o9 + k, none⟩ = some (.int .i64 x) := later hbr (by simpa using hc9 k x hx 0 _ rfl)
            have q11 : wr.cell? ⟨b11, o11 + k, none⟩ = some (.int .i64 x) := later hbr (by simpa using hc11 k x hx 0 _ rfl)
            have z9 := lt_of_cell q9
            have z11 := lt_of_cell q11
            clear hx hc9 hc11 a0 a1 a2 b0 b1 b2 hml
            go_wp2_with fail
            refine wp_region_later (by kernel_rfl) (by kernel_rfl) ?_
            repeat (go_big_quiet_step (fail))
            refine wpQuiet_nil ?_
            rintro w2 ⟨⟨_, hb2⟩, rfl⟩
            go_wp2
            go_roundg (gk - 1)
            case measure => have := HK.out; omega
            case rel => exact ⟨k + 1, by have := HK.out; omega, by go_num, then_ hbr hb2⟩
          · obtain rfl : k = m := by omega
            clear a0 a1 a2 b0 b1 b2
            go_wp2_with fail
            go_loopg [67] n (fun gk i wr => ∃ k : Nat, k + gk = n ∧ i = .int .i64 k ∧ LawMem w wr B p M A n c xs A7)
            case atStart => exact ⟨0, by omega, rfl, hL5.later hbr⟩
            case round =>
              obtain ⟨j, hk, rfl, hR⟩ := hrel
              have HJ := Lib.hid hk
              have hjn : j ≤ n := by omega
              clear hk
              by_cases hlt : j < n
              · have hxn := hxl.out
                obtain ⟨x, hx⟩ : ∃ x, xs[j]? = some x := ⟨_, List.getElem?_eq_getElem (by omega)⟩
                obtain ⟨b, off, rfl, hbB, hc⟩ := hR.arg.2 (by omega)
                obtain ⟨b7, o7, rfl, hb7, hc7⟩ := hR.copy.2 (by omega)
                have q0 := hc j x hx 0 _ rfl
                have q1 := hc j x hx 1 _ rfl
                have q2 := hc j x hx 2 _ rfl
                have q3 := hc j x hx 3 _ rfl
                have q4 := hc j x hx 4 _ rfl
                have r0 := hc7 j x hx 0 _ rfl
                have r1 := hc7 j x hx 1 _ rfl
                have r2 := hc7 j x hx 2 _ rfl
                have r3 := hc7 j x hx 3 _ rfl
                have r4 := hc7 j x hx 4 _ rfl
                simp only [Nat.add_zero] at q0 r0
                have q5 : wr.cell? ⟨B + 1, 5, none⟩ = some (.slice (some ⟨b, off, none⟩) n c) := hR.man.cell 5
                have z0 := lt_of_cell q0
                have z7 := lt_of_cell r0
                have z5 := lt_of_cell q5
                dsimp only at z0 z7 z5
                clear hx hc hc7 hxn
                go_wp2_with fail
                refine wp_region_later (by kernel_rfl) (by kernel_rfl) ?_
                repeat (go_big_quiet_step (fail))
                refine wpQuiet_nil ?_
                rintro w2 ⟨⟨_, hb2⟩, rfl⟩
                go_wp2
                go_roundg (gk - 1)
                case measure => have := HJ.out; omega
                case rel => exact ⟨j + 1, by have := HJ.out; omega, by go_num, hR.later hb2⟩
              · obtain rfl : j = n := by omega
                go_wp2
                go_ret
                exact ⟨rfl, HB.out ▸ hR.below⟩
end Go.Proofs.Ytfokjcoiehgbpaa
