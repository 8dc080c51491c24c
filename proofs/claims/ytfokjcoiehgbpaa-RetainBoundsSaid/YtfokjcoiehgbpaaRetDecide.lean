/- The walk of retain.Decide. -/
import Derived.Test.YtfokjcoiehgbpaaRetDrop
import Derived.Deep.LoopGhost
import Derived.Deep.CutBlock
import Derived.Maps.AppendAt
namespace Go.Proofs.Ytfokjcoiehgbpaa
open Go.RowKit
attribute [local go_sem ↓] Go.wp_at_zero Go.wp_at_succ
attribute [local go_sem] Later.cell Later.frozen

def sweepCells (lo : List Int) (A : Option Addr) (n c g cap : Nat) : Array Value :=
  #[.int .i64 (lo.getD 0 0), .int .i64 (lo.getD 1 0), .int .i64 (lo.getD 2 0), .slice A n c, .slice (some ⟨g, 0, none⟩) n cap]

/-- What stands in memory all along: the policy, the manifest and the place of the result lie in the blocks B, B + 1, B + 2, those that go in B + 3, the sweep in B + 4. -/
structure DecMem (w wr : World) (B : Nat) (p : Pol) (M : Man) (A : Option Addr) (n c : Nat) (lo : List Int) (gs : List Bool) : Prop where
  below : Below B w wr
  size : B + 5 ≤ wr.heap.size
  pol : Blk wr B 24 #[.int .i64 p.k0, .int .i64 p.k1, .int .i64 p.k2, .int .i64 p.size]
  man : Blk wr (B + 1) 27 (M.cells (.slice A n c))
  res : Blk wr (B + 2) 22 #[.int .i64 0, .int .i64 0, .int .i64 0]
  gone : Blk wr (B + 3) 4 (gs.map Value.bool).toArray
  swp : Blk wr (B + 4) 46 (sweepCells lo A n c (B + 3) n)
  lol : lo.length = 3
  gsl : gs.length = n

section
variable {w wr w2 : World} {B n c : Nat} {p : Pol} {M : Man} {A : Option Addr} {lo lo' : List Int} {gs gs' : List Bool}
theorem DecMem.later (h : DecMem w wr B p M A n c lo gs) (hb : Below wr.heap.size wr w2) : DecMem w w2 B p M A n c lo gs := by
  have hz := h.size
  exact { below := h.below.trans (hb.mono (by omega)), size := by have := hb.size; omega, pol := h.pol.below hb (by omega), man := h.man.below hb (by omega), res := h.res.below hb (by omega), gone := h.gone.below hb (by omega), swp := h.swp.below hb (by omega), lol := h.lol, gsl := h.gsl }
theorem DecMem.setLow (h : DecMem w wr B p M A n c lo gs) {k : Nat} {v : Int} (hk : k < 3) (e : lo' = lo.set k v) : DecMem w (wr.setCell ⟨B + 4, k, none⟩ (.int .i64 v)) B p M A n c lo' gs := by
  have hz := h.size
  have hl := h.lol
  subst e
  exact { below := h.below.setCell (by simp) _, size := by simpa using hz, pol := h.pol.far (by simp) _, man := h.man.far (by simp) _, res := h.res.far (by simp) _, gone := h.gone.far (by simp) _, swp := (by
    have := h.swp.set_ k (.int .i64 v)
    have e : (sweepCells lo A n c (B + 3) n).setIfInBounds k (.int .i64 v) = sweepCells (lo.set k v) A n c (B + 3) n := by
      match lo, hl with
      | [x, y, z], _ =>
        have : k = 0 ∨ k = 1 ∨ k = 2 := by omega
        rcases this with rfl | rfl | rfl <;> rfl
    rwa [e] at this), lol := by simpa using hl, gsl := h.gsl }
theorem DecMem.setGone (h : DecMem w wr B p M A n c lo gs) (k : Nat) : DecMem w (wr.setCell ⟨B + 3, k, none⟩ (.bool true)) B p M A n c lo (gs.set k true) := by
  have hz := h.size
  exact { below := h.below.setCell (by simp) _, size := by simpa using hz, pol := h.pol.far (by simp) _, man := h.man.far (by simp) _, res := h.res.far (by simp) _, gone := (by have := h.gone.set_ k (.bool true); rwa [set_bools] at this), swp := h.swp.far (by simp) _, lol := h.lol, gsl := by simpa using h.gsl }
theorem DecMem.keptGone (h : DecMem w wr B p M A n c lo gs) (hb : Kept wr.heap.size [B + 3] wr w2) (hg : Blk w2 (B + 3) 4 (gs'.map Value.bool).toArray) (hl : gs'.length = n) : DecMem w w2 B p M A n c lo gs' := by
  have hz := h.size
  exact { below := h.below.trans ((hb.mono (B' := B) (ex' := []) (by omega) (fun k h1 h2 => by simp at h2; omega)).below (by simp)), size := by have := hb.size; omega, pol := h.pol.kept hb (by omega) (by simp), man := h.man.kept hb (by omega) (by simp), res := h.res.kept hb (by omega) (by simp), gone := hg, swp := h.swp.kept hb (by omega) (by simp), lol := h.lol, gsl := hl }
theorem DecMem.grown (h : DecMem w wr B p M A n c lo gs) {row : Option Nat} (hg : wr.grownBy w2 row) (hr : ∀ k, row = some k → B + 5 ≤ k) : DecMem w w2 B p M A n c lo gs := by
  have hz := h.size
  have hk : ∀ g, g < B + 5 → some g ≠ row := fun g hl e => by have := hr g e.symm; omega
  exact { below := h.below.grown hg (by omega) (fun k hk => by have := hr k hk; omega), size := by have := hg.size; omega, pol := h.pol.grown hg (hk _ (by omega)), man := h.man.grown hg (hk _ (by omega)), res := h.res.grown hg (hk _ (by omega)), gone := h.gone.grown hg (hk _ (by omega)), swp := h.swp.grown hg (hk _ (by omega)), lol := h.lol, gsl := h.gsl }
theorem lowInit_succ (keep : List Int) (now width : Int) (low : List Int) {k : Nat} (hk : k < 3) : lowInit keep now width low (k + 1) = (lowInit keep now width low k).set k (max ((lowInit keep now width low k).getD k 0) (boundOf (keep.getD k 0) now width)) := by
  have : k = 0 ∨ k = 1 ∨ k = 2 := by omega
  rcases this with rfl | rfl | rfl <;> simp [lowInit, List.range_succ]
end

theorem info_bool : (Try.prog.info? 4).map (fun i => (i.zero, i.size, i.bytes)) = some (some (.bool false), 1, 1) := by kernel_rfl
theorem info_int : (Try.prog.info? 3).map (fun i => (i.zero, i.size, i.bytes)) = some (some (.int .i64 0), 1, 8) := by kernel_rfl

def falses (n : Nat) : Array Value := ((List.replicate n false).map Value.bool).toArray
theorem make_bools (n : Nat) (hn : n ≤ 281474976710656) (w : World) :
    (Instr.makeSlice 44 (.int .i64 (n : Int)) (.int .i64 (n : Int))).run Try.prog w = .ok (.slice (some ⟨w.heap.size, 0, none⟩) n n) (w.alloc (.cells (falses n) 4)) := by
  obtain ⟨i0, hi0, hz0, hz1, hz2⟩ := info_parts info_bool
  have h := run_make (P := Try.prog) w 44 4 i0 _ Try.underlying44 hi0 hz0 .i64 .i64 (n : Int) n (by omega) (Int.le_refl _) (by rw [hz2]; omega) (by omega)
  rw [h, hz1]
  have : madeCells (Value.bool false).cells ((n : Int).toNat * 1) = falses n := by
    apply Array.toList_inj.1
    rw [show (Value.bool false).cells = #[Value.bool false] from rfl, toList_madeCells_one]
    simp [falses]
  rw [this]
  simp

/-- What Decide answers: the lows, and the list of those that go, in new memory. -/
def DecPost (w : World) (r : List Int × List Int) (e : Ending) (w' : World) : Prop :=
  ∃ A c, e = .returned (.tuple #[.agg #[.int .i64 (r.1.getD 0 0), .int .i64 (r.1.getD 1 0), .int .i64 (r.1.getD 2 0)], .slice A r.2.length c]) ∧ Elems w' w'.heap.size 1 I1 A r.2.length r.2 ∧ Below w.heap.size w w' ∧ (∀ a, A = some a → w.heap.size ≤ a.block) ∧ r.2.length ≤ c

set_option maxHeartbeats 2000000 in
set_option maxRecDepth 100000 in
theorem decide_calls (p : Pol) (now : Int) (M : Man) (A : Option Addr) (n c : Nat) (xs : List Info) (w : World) (hn : n * 40 ≤ 140737488355328)
    (hk0 : -9223372036854775808 ≤ p.k0) (hk1 : -9223372036854775808 ≤ p.k1) (hk2 : -9223372036854775808 ≤ p.k2) (hnow : -9223372036854775808 ≤ now)
    (hX : Elems w w.heap.size 5 Info.enc A n xs) :
    Calls Try.prog 6 #[p.val, .int .i64 now, M.val (.slice A n c)] w (DecPost w (decideOf p.keeps p.size now M.w0 M.low xs)) := by
  have hxl := Lib.hid hX.1
  have hmk := make_bools n (by omega)
  go_enter Try.func6, Try.ntmps6
  go_upto_region 0 with fail
  go_cut [3, 5, 6, 7] (fun s3 s5 s6 s7 wx => ∃ B, B = w.heap.size ∧ s3 = .pointer (some ⟨B, 0, none⟩) ∧ s5 = .pointer (some ⟨B + 1, 0, none⟩) ∧ s6 = .pointer (some ⟨B + 2, 0, none⟩) ∧ s7 = .slice none 0 0 ∧
    Below B w wx ∧ wx.heap.size = B + 3 ∧ Blk wx B 24 #[.int .i64 p.k0, .int .i64 p.k1, .int .i64 p.k2, .int .i64 p.size] ∧
    Blk wx (B + 1) 27 (M.cells (.slice A n c)) ∧ Blk wx (B + 2) 22 #[.int .i64 0, .int .i64 0, .int .i64 0])
  case first =>
    go_wp2_with fail
    go_meet
    exact ⟨_, rfl, rfl, rfl, rfl, rfl, by go_grown, by simp, ((Blk.newAt rfl).alloc _).alloc _, (Blk.newAt (by simp)).alloc _, Blk.newAt (by simp)⟩
  case rest =>
    obtain ⟨B, hB, rfl, rfl, rfl, rfl, hbl, hsz, hpol, hman, hres⟩ := hcut
    obtain ⟨wx, rfl⟩ : ∃ wx, wx = wc := ⟨_, rfl⟩
    have HB := Lib.hid hB
    have HSZ := Lib.hid hsz
    have c5 : wx.cell? ⟨B + 1, 5, none⟩ = some (.slice A n c) := hman.cell 5
    have c10 : wx.cell? ⟨B + 1, 10, none⟩ = some (.int .i64 M.l0) := hman.cell 10
    have c11 : wx.cell? ⟨B + 1, 11, none⟩ = some (.int .i64 M.l1) := hman.cell 11
    have c12 : wx.cell? ⟨B + 1, 12, none⟩ = some (.int .i64 M.l2) := hman.cell 12
    clear hB hsz
    go_upto_region 1 with fail
    go_cut [8] (fun s8 wy => s8 = .pointer (some ⟨B + 4, 0, none⟩) ∧ DecMem w wy B p M A n c M.low (List.replicate n false))
    case first =>
      go_region_held3 (fun w' => w'.cell? ⟨B + 1, 5, none⟩ = some (.slice A n c) ∧ w'.cell? ⟨B + 1, 10, none⟩ = some (.int .i64 M.l0) ∧ w'.cell? ⟨B + 1, 11, none⟩ = some (.int .i64 M.l1) ∧ w'.cell? ⟨B + 1, 12, none⟩ = some (.int .i64 M.l2)) (first | go_keep | (refine ⟨?_, ?_, ?_, ?_⟩ <;> exact later (w := wx) (by go_grown) (by assumption))) (fail)
      all_goals go_wp2_with fail
      all_goals go_meet
      have hsz := HSZ.out
      rw [hsz]
      refine ⟨rfl, ?_⟩
      exact { below := ((hbl.alloc (by omega) _).alloc (by simp; omega) _).drew, size := by simp [hsz], pol := ((hpol.alloc _).alloc _).drew, man := ((hman.alloc _).alloc _).drew, res := ((hres.alloc _).alloc _).drew, gone := ((Blk.newAt hsz.symm).alloc _).drew, swp := (Blk.newAt (by simp [hsz])).drew, lol := rfl, gsl := by simp }
    case rest =>
      obtain ⟨rfl, hD⟩ := hcut
      obtain ⟨wy, rfl⟩ : ∃ wy, wy = wc := ⟨_, rfl⟩
      clear hbl hpol hman hres c5 c10 c11 c12 HSZ
      go_wp2
      go_loopg [27] 3 (fun gk i wr => ∃ k : Nat, k + gk = 3 ∧ i = .int .i64 k ∧ DecMem w wr B p M A n c (lowInit p.keeps now M.w0 M.low k) (List.replicate n false))
      case atStart => exact ⟨0, rfl, rfl, by simpa [lowInit, Man.low, List.range_succ] using hD⟩
      case round =>
        obtain ⟨k, hk, rfl, hR⟩ := hrel
        have HK := Lib.hid hk
        by_cases hlt : k < 3
        · have hz := hR.size
          have hsb : B + 4 < wr.heap.size := by omega
          have hpb : B < wr.heap.size := by omega
          have hmb : B + 1 < wr.heap.size := by omega
          have a0 := hR.pol.cell 0
          have a1 := hR.pol.cell 1
          have a2 := hR.pol.cell 2
          have a3 := hR.pol.cell 3
          have m0 := hR.man.cell 0
          simp only [Man.cells, List.getElem?_toArray, List.getElem?_cons_zero, List.getElem?_cons_succ] at a0 a1 a2 a3 m0
          have hki : (0 : Int) ≤ (k : Int) := by omega
          have hkj : (k : Int) < 3 := by omega
          obtain ⟨lv, hlv⟩ : ∃ lv, (lowInit p.keeps now M.w0 M.low k).getD k 0 = lv := ⟨_, rfl⟩
          have hlc : wr.cell? ⟨B + 4, k, none⟩ = some (.int .i64 lv) := by
            rw [hR.swp.cell, ← hlv]
            have : k = 0 ∨ k = 1 ∨ k = 2 := by omega
            rcases this with rfl | rfl | rfl <;> rfl
          have hlf := hR.swp.frozen k
          have hkeep : -9223372036854775808 ≤ p.keep k := by
            have : k = 0 ∨ k = 1 ∨ k = 2 := by omega
            rcases this with rfl | rfl | rfl <;> assumption
          have HLV := Lib.hid hlv
          clear hlv hk
          go_wp2
          refine wp_region_later_tail 19 (by kernel_rfl) (by kernel_rfl) ?_
          simp only [List.take_succ_cons, List.take_zero, List.drop_succ_cons, List.drop_zero]
          repeat (go_big_quiet_step ((first | (go_at_call 12; exact quiet_later _ (bound_calls p k now M.w0 _ hlt hkeep hnow)))))
          refine wpQuiet_nil ?_
          rintro w2 ⟨⟨_, hb2⟩, rfl⟩
          have l2 := later hb2 hlc
          have f2 := laterF hb2 hlc hlf
          go_wp2
          all_goals
            go_roundg (gk - 1)
            case measure => have := HK.out; omega
            case rel =>
              refine ⟨k + 1, by have := HK.out; omega, by go_num, (hR.later hb2).setLow hlt ?_⟩
              rw [lowInit_succ _ _ _ _ hlt, HLV.out]
              refine congrArg (fun v => List.set _ k v) ?_
              show max lv (boundOf (p.keep k) now M.w0) = _
              omega
        · obtain rfl : k = 3 := by omega
          clear hk HK hD
          have hXB : Elems w B 5 Info.enc A n xs := by rw [HB.out]; exact hX
          have hxn := hxl.out
          go_upto_block 2 with fail
          go_cut [] (fun wz => DecMem w wz B p M A n c (sweepF p.size xs n (lowInit p.keeps now M.w0 M.low 3) (List.replicate n false)).1 (sweepF p.size xs n (lowInit p.keeps now M.w0 M.low 3) (List.replicate n false)).2)
          case first =>
            go_wp2_with fail
            go_loopg [] n (fun f wr => ∃ lo gs, left gs ≤ f ∧ sweepF p.size xs n (lowInit p.keeps now M.w0 M.low 3) (List.replicate n false) = sweepF p.size xs f lo gs ∧ DecMem w wr B p M A n c lo gs)
            case atStart => exact ⟨_, _, by rw [left_replicate]; exact Nat.le_refl _, rfl, hR⟩
            case round =>
              obtain ⟨lo, gs, hf, hs, hR⟩ := hrel
              have HS := Lib.hid hs
              have HF := Lib.hid hf
              clear hs hf
              have hz := hR.size
              have b0 := hR.swp.cell 0
              have b1 := hR.swp.cell 1
              have b2 := hR.swp.cell 2
              have b3 := hR.swp.cell 3
              have b4 := hR.swp.cell 4
              simp only [sweepCells, List.getElem?_toArray, List.getElem?_cons_zero, List.getElem?_cons_succ] at b0 b1 b2 b3 b4
              go_wp2_with fail
              refine (drop_calls (B + 4) (B + 3) n c n B A lo xs gs wr (by omega) b0 b1 b2 b3 b4 (by omega) (by omega) (by omega) (by omega) hR.gsl (hXB.below hR.below) hR.gone).mono ?_
              clear b0 b1 b2 b3 b4
              rintro e w1 ⟨rfl, hkept, hgone⟩
              have hD1 := hR.keptGone hkept hgone (by rw [dropTo_len]; exact hR.gsl)
              have hgo := @sweep_goes p.size xs gk lo gs (by rw [hR.gsl, hxn]) HF.out
              have hst := @sweepF_stop p.size xs gk lo gs
              rw [hxn] at hgo hst
              generalize dropTo lo xs gs n = d at *
              have hz1 := hD1.size
              have p3 := hD1.pol.cell 3
              simp only [List.getElem?_toArray, List.getElem?_cons_zero, List.getElem?_cons_succ] at p3
              have HGO := Lib.hid hgo
              have HST := Lib.hid hst
              clear hgo hst hkept hgone hR hz
              by_cases hstop : stopB p.size d = true
              · have hs1 := HST.out hstop
                have HS1 := Lib.hid (HS.out.trans hs1)
                have hsb : p.size ≤ 0 ∨ d.bytes ≤ p.size ∨ d.count < 2 ∨ d.oldest < 0 := by simpa [stopB, or_assoc] using hstop
                clear hs1 hstop
                by_cases s1 : p.size ≤ 0
                · go_wp2_with fail
                  go_meet
                  rw [HS1.out]; exact hD1
                by_cases s2 : d.bytes ≤ p.size
                · go_wp2_with fail
                  go_meet
                  rw [HS1.out]; exact hD1
                by_cases s3 : d.count < 2
                · go_wp2_with fail
                  go_meet
                  rw [HS1.out]; exact hD1
                · have s4 : d.oldest < 0 := by omega
                  clear hsb
                  go_wp2_with fail
                  go_meet
                  rw [HS1.out]; exact hD1
              · have hgo' : stopB p.size d = false := by simpa using hstop
                obtain ⟨o, f', e1, e2, ho, hkn, hlf, hsw⟩ := HGO.out hgo'
                have HSW := Lib.hid (HS.out.trans hsw)
                have HLF := Lib.hid hlf
                have HE1 := Lib.hid e1
                have hns : ¬ (p.size ≤ 0) ∧ ¬ (d.bytes ≤ p.size) ∧ ¬ (d.count < 2) ∧ ¬ (d.oldest < 0) := by simpa [stopB, and_assoc] using hgo'
                obtain ⟨s1, s2, s3, s4⟩ := hns
                obtain ⟨b, off, rfl, hbB, hcell⟩ := hXB.2 (by omega)
                have hxl' := hxn
                obtain ⟨x, hx⟩ : ∃ x, xs[o]? = some x := ⟨_, List.getElem?_eq_getElem (by omega)⟩
                have hxD : xs.getD o Info.zero = x := by simp [List.getD, hx]
                rw [hxD] at hkn
                have rd : ∀ j v, (Info.enc x)[j]? = some v → w1.cell? ⟨b, off + o * 5 + j, none⟩ = some v := fun j v hv => (hD1.below.cell (p := ⟨b, _, none⟩) hbB).trans (hcell o x hx j v hv)
                have q0 := rd 0 _ rfl
                have q1 := rd 1 _ rfl
                have q2 := rd 2 _ rfl
                have q3 := rd 3 _ rfl
                have q4 := rd 4 _ rfl
                simp only [Nat.add_zero] at q0
                have b3 := hD1.swp.cell 3
                have b4 := hD1.swp.cell 4
                simp only [sweepCells, List.getElem?_toArray, List.getElem?_cons_zero, List.getElem?_cons_succ] at b3 b4
                obtain ⟨k1, k2⟩ := known_yes hkn
                have HXD := Lib.hid hxD
                obtain ⟨gb, hgb⟩ : ∃ gb : Bool, w1.cell? ⟨B + 3, o, none⟩ = some (.bool gb) := ⟨d.gs.getD o false, by
                  rw [hD1.gone.cell]; simp [List.getD, List.getElem?_eq_getElem (show o < d.gs.length by rw [hD1.gsl]; omega)]⟩
                have hgf := hD1.gone.frozen o
                have honi : (0 : Int) ≤ (o : Int) ∧ (o : Int) < (n : Int) := by omega
                obtain ⟨on1, on2⟩ := honi
                clear hgo' hstop hsw hlf e1 hx hxD rd hcell hxl'
                have z4 : B + 4 < w1.heap.size := by omega
                have z3 : B + 3 < w1.heap.size := by omega
                go_upto_region 10 with fail
                go_cut [] (fun wq => DecMem w wq B p M (some ⟨b, off, none⟩) n c lo (d.gs.set o true) ∧ w1.heap.size < wq.heap.size ∧ Blk wq w1.heap.size 39 #[.int .i64 x.id, .int .i64 x.res, .int .i64 x.frm, .int .i64 x.to_, .int .i64 x.bytes])
                case first =>
                  go_wp2_with fail
                  go_meet
                  exact ⟨(hD1.setGone o).later (by go_grown), by simp, Blk.newAt (by simp)⟩
                case rest =>
                  obtain ⟨hD2, hzq, hbx⟩ := hcut
                  obtain ⟨wq, rfl⟩ : ∃ wq, wq = wc := ⟨_, rfl⟩
                  have hz2 := hD2.size
                  have zq : B + 4 < wq.heap.size := by omega
                  have x1 := hbx.cell 1
                  have x3 := hbx.cell 3
                  simp only [List.getElem?_toArray, List.getElem?_cons_zero, List.getElem?_cons_succ] at x1 x3
                  obtain ⟨lv, hlv⟩ : ∃ lv, lo.getD x.res.toNat 0 = lv := ⟨_, rfl⟩
                  have hlc : wq.cell? ⟨B + 4, x.res.toNat, none⟩ = some (.int .i64 lv) := by
                    rw [hD2.swp.cell, ← hlv]
                    have : x.res = 0 ∨ x.res = 1 ∨ x.res = 2 := by omega
                    rcases this with e | e | e <;> rw [e] <;> rfl
                  have hlf := hD2.swp.frozen x.res.toNat
                  have HLV := Lib.hid hlv
                  clear hlv q0 q1 q2 q3 q4 b3 b4 hgb hgf p3 hD1
                  go_wp2_with fail
                  refine wp_region_later_tail 16 (by kernel_rfl) (by kernel_rfl) ?_
                  simp only [List.take_succ_cons, List.take_zero, List.drop_succ_cons, List.drop_zero]
                  repeat (go_big_quiet_step (fail))
                  refine wpQuiet_nil ?_
                  rintro w2 ⟨⟨_, hb2⟩, rfl⟩
                  have l2 := later hb2 hlc
                  have f2 := laterF hb2 hlc hlf
                  go_wp2
                  all_goals
                    go_roundg f'
                    case measure => have := HE1.out; omega
                    case rel =>
                      have hsw := HSW.out
                      rw [HXD.out] at hsw
                      refine ⟨raiseLow lo x, d.gs.set o true, HLF.out, hsw, (hD2.later hb2).setLow (by omega) ?_⟩
                      rw [raiseLow, HLV.out]
                      refine congrArg (fun v => lo.set x.res.toNat v) ?_
                      omega
          case rest =>
            obtain ⟨wz, rfl⟩ : ∃ wz, wz = wc := ⟨_, rfl⟩
            obtain ⟨r, hr⟩ : ∃ r, sweepF p.size xs n (lowInit p.keeps now M.w0 M.low 3) (List.replicate n false) = r := ⟨_, rfl⟩
            rw [hr] at hcut
            obtain ⟨lo, gs⟩ := r
            have hdo : decideOf p.keeps p.size now M.w0 M.low xs = (lo, idsTo xs gs n) := by simp only [decideOf, hxn, hr]
            have HDO := Lib.hid hdo
            clear hr hdo
            have hD : DecMem w wz B p M A n c lo gs := hcut
            have hz := hD.size
            have b3 := hD.swp.cell 3
            simp only [sweepCells, List.getElem?_toArray, List.getElem?_cons_zero, List.getElem?_cons_succ] at b3
            obtain ⟨i0, hi0, hz0, hz1, hz2⟩ := info_parts info_int
            go_wp2_with fail
            go_loopg [14, 107] n (fun gk v i wr => ∃ k : Nat, k + gk = n ∧ i = .int .i64 k ∧ DecMem w wr B p M A n c lo gs ∧ wr.ownsRow (B + 5) 3 1 v (idsTo xs gs k).length ((idsTo xs gs k).map (Value.int .i64)))
            case atStart => exact ⟨0, by omega, rfl, hD, World.ownsRow_nil _ _ _ _⟩
            case round =>
              obtain ⟨k, hk, rfl, hR, hown⟩ := hrel
              have HK := Lib.hid hk
              have hkn : k ≤ n := by omega
              clear hk
              have hzr := hR.size
              by_cases hlt : k < n
              · obtain ⟨b, off, rfl, hbB, hcell⟩ := hXB.2 (by omega)
                obtain ⟨x, hx⟩ : ∃ x, xs[k]? = some x := ⟨_, List.getElem?_eq_getElem (by omega)⟩
                have hxD : xs.getD k Info.zero = x := by simp [List.getD, hx]
                have rd : ∀ j v, (Info.enc x)[j]? = some v → wr.cell? ⟨b, off + k * 5 + j, none⟩ = some v := fun j v hv => (hR.below.cell (p := ⟨b, _, none⟩) hbB).trans (hcell k x hx j v hv)
                have q0 := rd 0 _ rfl
                have q1 := rd 1 _ rfl
                have q2 := rd 2 _ rfl
                have q3 := rd 3 _ rfl
                have q4 := rd 4 _ rfl
                simp only [Nat.add_zero] at q0
                have d4 := hR.swp.cell 4
                simp only [sweepCells, List.getElem?_toArray, List.getElem?_cons_zero, List.getElem?_cons_succ] at d4
                have z4 : B + 4 < wr.heap.size := by omega
                have z3 : B + 3 < wr.heap.size := by omega
                obtain ⟨gb, hgv⟩ : ∃ gb : Bool, gs.getD k false = gb := ⟨_, rfl⟩
                have hgb : wr.cell? ⟨B + 3, k, none⟩ = some (.bool gb) := by
                  rw [hR.gone.cell, ← hgv]; simp [List.getD, List.getElem?_eq_getElem (show k < gs.length by rw [hR.gsl]; omega)]
                have hid : idsTo xs gs (k + 1) = if gb then idsTo xs gs k ++ [x.id] else idsTo xs gs k := by rw [idsTo, hgv, hxD]
                have HID := Lib.hid hid
                have hil := idsTo_le xs gs k
                generalize idsTo xs gs k = ids at *
                have HXN := Lib.hid hxn
                have HDS := Lib.hid hD.size
                clear hid hgv hxD hx rd hcell b3 hxn
                cases gb with
                | false =>
                  go_wp2
                  go_roundg (gk - 1)
                  case measure => have := HK.out; omega
                  case rel => exact ⟨k + 1, by have := HK.out; omega, by go_num, hR.later (by go_grown), by rw [HID.out]; exact hown.alloc _⟩
                | true =>
                  go_wp2_with (at_builtin; refine wpList_append_own_at _ rfl _ _ 28 rfl (B + 5) 3 i0 (.int .i64 0) 1 8 Try.underlying28 hi0 hz0 hz1 hz2 rfl (by decide) _ _ _ rfl ((hown.alloc _).alloc _) ⟨wr.heap.size + 1, 0, none⟩ 1 1 [.int .i64 x.id] rfl rfl ?c1 ?c2 ?c3 ?c4 ?c5 ?_)
                  case c2 => rfl
                  case c3 => unfold maxLen; omega
                  case c4 => omega
                  case c5 => omega
                  rintro v' w2 hown2 hg2 _ hat
                  go_wp2
                  go_roundg (gk - 1)
                  case measure => have := HK.out; omega
                  case rel =>
                    refine ⟨k + 1, by have := HK.out; omega, by go_num, (hR.later (w2 := _) (by go_grown)).grown hg2 (fun g hg => (hown.lt g hg).1), ?_⟩
                    rw [HID.out]
                    simpa using hown2
              · obtain rfl : k = n := by omega
                have e0 := hR.swp.cell 0
                have e1 := hR.swp.cell 1
                have e2 := hR.swp.cell 2
                have r0 := hR.res.cell 0
                have r1 := hR.res.cell 1
                have r2 := hR.res.cell 2
                have g0 := hR.res.frozen 0
                have g1 := hR.res.frozen 1
                have g2 := hR.res.frozen 2
                simp only [sweepCells, List.getElem?_toArray, List.getElem?_cons_zero, List.getElem?_cons_succ] at e0 e1 e2 r0 r1 r2
                have hxn' := Lib.hid hxn
                obtain ⟨l0, hl0⟩ : ∃ l, lo.getD 0 0 = l := ⟨_, rfl⟩
                obtain ⟨l1, hl1⟩ : ∃ l, lo.getD 1 0 = l := ⟨_, rfl⟩
                obtain ⟨l2, hl2⟩ : ∃ l, lo.getD 2 0 = l := ⟨_, rfl⟩
                rw [hl0] at e0
                rw [hl1] at e1
                rw [hl2] at e2
                have HL0 := Lib.hid hl0
                have HL1 := Lib.hid hl1
                have HL2 := Lib.hid hl2
                clear hxn b3 hl0 hl1 hl2
                go_wp2
                have hW := ((hR.res.set_ 0 (.int .i64 l0)).set_ 1 (.int .i64 l1)).set_ 2 (.int .i64 l2)
                have w0 : _ = some (Value.int .i64 l0) := hW.cell 0
                have w1 : _ = some (Value.int .i64 l1) := hW.cell 1
                have w2 : _ = some (Value.int .i64 l2) := hW.cell 2
                refine bodyPost_ret (v := .tuple #[.agg #[.int .i64 l0, .int .i64 l1, .int .i64 l2], u14]) (by simp [results, Try.results6, go_sem, w0, w1, w2]) rfl ?_
                have hown2 := ownsRow_setCell_below (ownsRow_setCell_below (ownsRow_setCell_below hown (a := ⟨B + 2, 0, none⟩) (by simp) (.int .i64 l0)) (a := ⟨B + 2, 1, none⟩) (by simp) (.int .i64 l1)) (a := ⟨B + 2, 2, none⟩) (by simp) (.int .i64 l2)
                obtain ⟨A', c', hv, hE, hge, hcap⟩ := Elems.of_own (enc := I1) (by intro x _; rfl) (flatMap_I1 _) hown2 rfl
                refine ⟨A', c', ?_, ?_, ?_, (fun a ha => by have := hge a ha; have := HB.out; omega), by rw [HDO.out]; exact hcap⟩
                · rw [HDO.out, hv]; dsimp only; rw [HL0.out, HL1.out, HL2.out]
                · rw [HDO.out]; exact hE
                · rw [← HB.out]; exact ((hR.below.setCell (by simp) _).setCell (by simp) _).setCell (by simp) _
end Go.Proofs.Ytfokjcoiehgbpaa
