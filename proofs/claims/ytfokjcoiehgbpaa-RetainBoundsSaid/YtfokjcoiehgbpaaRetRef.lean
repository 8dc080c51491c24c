/- The walk of almanacref25.Decide: it computes what retain.Decide does. -/
import Derived.Test.YtfokjcoiehgbpaaRetDecide
namespace Go.Proofs.Ytfokjcoiehgbpaa
open Go.RowKit
attribute [local go_sem ↓] Go.wp_at_zero Go.wp_at_succ
attribute [local go_sem] Later.cell Later.frozen

/-- Those that stay: the contrary of those that go. -/
def stayC (gs : List Bool) : Array Value := (gs.map (fun b => Value.bool (!b))).toArray
theorem stayC_set (gs : List Bool) (k : Nat) (b : Bool) : (stayC gs).setIfInBounds k (.bool (!b)) = stayC (gs.set k b) := by simp [stayC, List.map_set]
theorem stayC_get {gs : List Bool} {k : Nat} (hk : k < gs.length) : (stayC gs)[k]? = some (.bool (!(gs.getD k false))) := by
  simp [stayC, List.getD, List.getElem?_eq_getElem hk]

/-- What stands in memory all along: the policy, the manifest, the place of the result and the lows lie in the blocks B to B + 3, those that stay in g. -/
structure RefMem (w wr : World) (B g : Nat) (p : Pol) (M : Man) (A : Option Addr) (n c : Nat) (lo : List Int) (gs : List Bool) : Prop where
  below : Below B w wr
  size : g < wr.heap.size
  big : B + 4 ≤ g
  pol : Blk wr B 32 #[.int .i64 p.k0, .int .i64 p.k1, .int .i64 p.k2, .int .i64 p.size]
  man : Blk wr (B + 1) 35 (M.cells (.slice A n c))
  res : Blk wr (B + 2) 22 #[.int .i64 0, .int .i64 0, .int .i64 0]
  low : Blk wr (B + 3) 22 #[.int .i64 (lo.getD 0 0), .int .i64 (lo.getD 1 0), .int .i64 (lo.getD 2 0)]
  stay : Blk wr g 4 (stayC gs)
  lol : lo.length = 3
  gsl : gs.length = n

section
variable {w wr w2 : World} {B g n c : Nat} {p : Pol} {M : Man} {A : Option Addr} {lo lo' : List Int} {gs gs' : List Bool}
theorem RefMem.later (h : RefMem w wr B g p M A n c lo gs) (hb : Below wr.heap.size wr w2) : RefMem w w2 B g p M A n c lo gs := by
  have hz := h.size
  have hg := h.big
  exact { below := h.below.trans (hb.mono (by omega)), size := by have := hb.size; omega, big := hg, pol := h.pol.below hb (by omega), man := h.man.below hb (by omega), res := h.res.below hb (by omega), low := h.low.below hb (by omega), stay := h.stay.below hb (by omega), lol := h.lol, gsl := h.gsl }
theorem RefMem.setLow (h : RefMem w wr B g p M A n c lo gs) {k : Nat} {v : Int} (hk : k < 3) (e : lo' = lo.set k v) : RefMem w (wr.setCell ⟨B + 3, k, none⟩ (.int .i64 v)) B g p M A n c lo' gs := by
  have hz := h.size
  have hg := h.big
  have hl := h.lol
  subst e
  exact { below := h.below.setCell (by simp) _, size := by simpa using hz, big := hg, pol := h.pol.far (by simp) _, man := h.man.far (by simp) _, res := h.res.far (by simp) _, stay := h.stay.far (by simp; omega) _, low := (by
    have := h.low.set_ k (.int .i64 v)
    have e : (#[.int .i64 (lo.getD 0 0), .int .i64 (lo.getD 1 0), .int .i64 (lo.getD 2 0)] : Array Value).setIfInBounds k (.int .i64 v) = #[.int .i64 ((lo.set k v).getD 0 0), .int .i64 ((lo.set k v).getD 1 0), .int .i64 ((lo.set k v).getD 2 0)] := by
      match lo, hl with
      | [x, y, z], _ =>
        have : k = 0 ∨ k = 1 ∨ k = 2 := by omega
        rcases this with rfl | rfl | rfl <;> rfl
    rwa [e] at this), lol := by simpa using hl, gsl := h.gsl }
theorem RefMem.setStay (h : RefMem w wr B g p M A n c lo gs) (k : Nat) (b : Bool) : RefMem w (wr.setCell ⟨g, k, none⟩ (.bool (!b))) B g p M A n c lo (gs.set k b) := by
  have hz := h.size
  have hg := h.big
  exact { below := h.below.setCell (by simp; omega) _, size := by simpa using hz, big := hg, pol := h.pol.far (by simp; omega) _, man := h.man.far (by simp; omega) _, res := h.res.far (by simp; omega) _, low := h.low.far (by simp; omega) _, stay := (by have := h.stay.set_ k (.bool (!b)); rwa [stayC_set] at this), lol := h.lol, gsl := by simpa using h.gsl }
theorem RefMem.grown (h : RefMem w wr B g p M A n c lo gs) {row : Option Nat} (hg : wr.grownBy w2 row) (hr : ∀ k, row = some k → g + 1 ≤ k) : RefMem w w2 B g p M A n c lo gs := by
  have hz := h.size
  have hb := h.big
  have hk : ∀ j, j < g + 1 → some j ≠ row := fun j hl e => by have := hr j e.symm; omega
  exact { below := h.below.grown hg (by omega) (fun k hk => by have := hr k hk; omega), size := by have := hg.size; omega, big := hb, pol := h.pol.grown hg (hk _ (by omega)), man := h.man.grown hg (hk _ (by omega)), res := h.res.grown hg (hk _ (by omega)), low := h.low.grown hg (hk _ (by omega)), stay := h.stay.grown hg (hk _ (by omega)), lol := h.lol, gsl := h.gsl }
end

/-- After k rounds the first k stay. -/
def fillTo (n k : Nat) : List Bool := List.replicate k false ++ List.replicate (n - k) true
theorem fillTo_succ {n k : Nat} (hk : k < n) : (fillTo n k).set k false = fillTo n (k + 1) := by
  unfold fillTo
  rw [List.set_append_right _ _ (by simp)]
  obtain ⟨m, rfl⟩ : ∃ m, n = k + 1 + m := ⟨n - (k + 1), by omega⟩
  rw [show k + 1 + m - k = m + 1 by omega, show k + 1 + m - (k + 1) = m by omega, List.length_replicate, Nat.sub_self, List.replicate_succ, List.set_cons_zero, List.replicate_succ' (n := k), List.append_assoc]
  rfl
theorem fillTo_len {n k : Nat} (hk : k ≤ n) : (fillTo n k).length = n := by simp [fillTo]; omega
theorem falses_fill (n : Nat) : falses n = stayC (fillTo n 0) := by simp [falses, stayC, fillTo]
theorem fillTo_all (n : Nat) : fillTo n n = List.replicate n false := by simp [fillTo]

set_option maxHeartbeats 4000000 in
set_option maxRecDepth 100000 in
theorem refDecide_calls (p : Pol) (now : Int) (M : Man) (A : Option Addr) (n c : Nat) (xs : List Info) (w : World) (hn : n * 40 ≤ 140737488355328)
    (hk0 : -9223372036854775808 ≤ p.k0) (hk1 : -9223372036854775808 ≤ p.k1) (hk2 : -9223372036854775808 ≤ p.k2) (hnow : -9223372036854775808 ≤ now)
    (hX : Elems w w.heap.size 5 Info.enc A n xs) :
    Calls Try.prog 7 #[p.val, .int .i64 now, M.val (.slice A n c)] w (DecPost w (decideOf p.keeps p.size now M.w0 M.low xs)) := by
  have hxl := Lib.hid hX.1
  have hmk := make_bools n (by omega)
  go_enter Try.func7, Try.ntmps7
  go_upto_region 1 with fail
  go_cut [3, 5, 6, 7, 8] (fun s3 s5 s6 s7 s8 wx => ∃ B, B = w.heap.size ∧ s3 = .pointer (some ⟨B, 0, none⟩) ∧ s5 = .pointer (some ⟨B + 1, 0, none⟩) ∧ s6 = .pointer (some ⟨B + 2, 0, none⟩) ∧ s7 = .slice none 0 0 ∧ s8 = .pointer (some ⟨B + 3, 0, none⟩) ∧
    Below B w wx ∧ B + 4 ≤ wx.heap.size ∧ Blk wx B 32 #[.int .i64 p.k0, .int .i64 p.k1, .int .i64 p.k2, .int .i64 p.size] ∧
    Blk wx (B + 1) 35 (M.cells (.slice A n c)) ∧ Blk wx (B + 2) 22 #[.int .i64 0, .int .i64 0, .int .i64 0] ∧ Blk wx (B + 3) 22 #[.int .i64 M.l0, .int .i64 M.l1, .int .i64 M.l2])
  case first =>
    go_wp2_with fail
    go_meet
    exact ⟨_, rfl, rfl, rfl, rfl, rfl, rfl, by go_grown, by simp, (((Blk.newAt rfl).alloc _).alloc _).alloc _, ((Blk.newAt (by simp)).alloc _).alloc _, (Blk.newAt (by simp)).alloc _, Blk.newAt (by simp)⟩
  case rest =>
    obtain ⟨B, hB, rfl, rfl, rfl, rfl, rfl, hbl, hsz, hpol, hman, hres, hlow⟩ := hcut
    obtain ⟨wx, rfl⟩ : ∃ wx, wx = wc := ⟨_, rfl⟩
    have HB := Lib.hid hB
    have HSZ := Lib.hid hsz
    clear hB hsz
    go_upto_block 0 with fail
    go_cut [] (fun wy => Below B w wy ∧ B + 4 ≤ wy.heap.size ∧ Blk wy B 32 #[.int .i64 p.k0, .int .i64 p.k1, .int .i64 p.k2, .int .i64 p.size] ∧
      Blk wy (B + 1) 35 (M.cells (.slice A n c)) ∧ Blk wy (B + 2) 22 #[.int .i64 0, .int .i64 0, .int .i64 0] ∧ Blk wy (B + 3) 22 #[.int .i64 ((lowInit p.keeps now M.w0 M.low 3).getD 0 0), .int .i64 ((lowInit p.keeps now M.w0 M.low 3).getD 1 0), .int .i64 ((lowInit p.keeps now M.w0 M.low 3).getD 2 0)])
    case first =>
      go_wp2_with fail
      go_loopg [9] 3 (fun gk i wr => ∃ k : Nat, k + gk = 3 ∧ i = .int .i64 k ∧ Below B w wr ∧ B + 4 ≤ wr.heap.size ∧ Blk wr B 32 #[.int .i64 p.k0, .int .i64 p.k1, .int .i64 p.k2, .int .i64 p.size] ∧
        Blk wr (B + 1) 35 (M.cells (.slice A n c)) ∧ Blk wr (B + 2) 22 #[.int .i64 0, .int .i64 0, .int .i64 0] ∧ Blk wr (B + 3) 22 #[.int .i64 ((lowInit p.keeps now M.w0 M.low k).getD 0 0), .int .i64 ((lowInit p.keeps now M.w0 M.low k).getD 1 0), .int .i64 ((lowInit p.keeps now M.w0 M.low k).getD 2 0)])
      case atStart => exact ⟨0, rfl, rfl, hbl, HSZ.out, hpol, hman, hres, hlow⟩
      case round =>
        obtain ⟨k, hk, rfl, hb, hsz, qpol, qman, qres, qlow⟩ := hrel
        have HK := Lib.hid hk
        have HSR := Lib.hid hsz
        have z3 : B + 3 < wr.heap.size := by omega
        have z1 : B + 1 < wr.heap.size := by omega
        have z0 : B < wr.heap.size := by omega
        clear hsz
        by_cases hlt : k < 3
        · have m0 : wr.cell? ⟨B + 1, 0, none⟩ = some (.int .i64 M.w0) := qman.cell 0
          have hki : (0 : Int) ≤ (k : Int) := by omega
          have hkj : (k : Int) < 3 := by omega
          obtain ⟨lv, hlv⟩ : ∃ lv, (lowInit p.keeps now M.w0 M.low k).getD k 0 = lv := ⟨_, rfl⟩
          obtain ⟨kp, hkp⟩ : ∃ kp, p.keep k = kp := ⟨_, rfl⟩
          have c3 : k = 0 ∨ k = 1 ∨ k = 2 := by omega
          have hlc : wr.cell? ⟨B + 3, k, none⟩ = some (.int .i64 lv) := by
            rw [qlow.cell, ← hlv]
            rcases c3 with rfl | rfl | rfl <;> rfl
          have hlf := qlow.frozen k
          have hpc : wr.cell? ⟨B, k, none⟩ = some (.int .i64 kp) := by
            rw [qpol.cell, ← hkp]
            rcases c3 with rfl | rfl | rfl <;> rfl
          have hkeep : -9223372036854775808 ≤ kp := by
            rw [← hkp]
            rcases c3 with rfl | rfl | rfl <;> assumption
          have hset : ∀ v, max lv (boundOf kp now M.w0) = v → (#[.int .i64 ((lowInit p.keeps now M.w0 M.low k).getD 0 0), .int .i64 ((lowInit p.keeps now M.w0 M.low k).getD 1 0), .int .i64 ((lowInit p.keeps now M.w0 M.low k).getD 2 0)] : Array Value).setIfInBounds k (.int .i64 v) = #[.int .i64 ((lowInit p.keeps now M.w0 M.low (k + 1)).getD 0 0), .int .i64 ((lowInit p.keeps now M.w0 M.low (k + 1)).getD 1 0), .int .i64 ((lowInit p.keeps now M.w0 M.low (k + 1)).getD 2 0)] := by
            rintro v rfl
            rw [← hlv, ← hkp]
            rcases c3 with rfl | rfl | rfl <;> simp [lowInit, List.range_succ, Pol.keep]
          have hsame : ∀ v, max lv (boundOf kp now M.w0) = v → lv = v → Blk wr (B + 3) 22 #[.int .i64 ((lowInit p.keeps now M.w0 M.low (k + 1)).getD 0 0), .int .i64 ((lowInit p.keeps now M.w0 M.low (k + 1)).getD 1 0), .int .i64 ((lowInit p.keeps now M.w0 M.low (k + 1)).getD 2 0)] := by
            intro v h1 h2
            rw [← hset v h1, ← h2, ← hlv]
            have : (#[.int .i64 ((lowInit p.keeps now M.w0 M.low k).getD 0 0), .int .i64 ((lowInit p.keeps now M.w0 M.low k).getD 1 0), .int .i64 ((lowInit p.keeps now M.w0 M.low k).getD 2 0)] : Array Value).setIfInBounds k (.int .i64 ((lowInit p.keeps now M.w0 M.low k).getD k 0)) = #[.int .i64 ((lowInit p.keeps now M.w0 M.low k).getD 0 0), .int .i64 ((lowInit p.keeps now M.w0 M.low k).getD 1 0), .int .i64 ((lowInit p.keeps now M.w0 M.low k).getD 2 0)] := by
              rcases c3 with rfl | rfl | rfl <;> rfl
            rw [this]; exact qlow
          obtain ⟨bd, hbd⟩ : ∃ bd, boundOf kp now M.w0 = bd := ⟨_, rfl⟩
          rw [hbd] at hset hsame
          have HSET := Lib.hid hset
          have HSAME := Lib.hid hsame
          have HBD := Lib.hid hbd
          clear hset hsame hbd hlv hkp c3 hk
          by_cases hgt : lv < bd
          · go_wp2_with fail
            refine wp_region_later (by kernel_rfl) (by kernel_rfl) ?_
            repeat (go_big_quiet_step (((first | (go_at_call 11; exact quiet_same _ (refBound_calls_eq _ _ _ _ HBD.out _ hkeep hnow))))))
            refine wpQuiet_nil ?_
            rintro w2 ⟨⟨_, hb2⟩, rfl⟩
            have l2 := later hb2 hlc
            have f2 := laterF hb2 hlc hlf
            go_wp2
            go_roundg (gk - 1)
            case measure => have := HK.out; omega
            case rel =>
              have hs := hb2.size
              have hz := HSR.out
              refine ⟨k + 1, by have := HK.out; omega, by go_num, (hb.trans (hb2.mono (by omega))).setCell (by simp) _, by simp; omega, (qpol.below hb2 (by omega)).far (by simp) _, (qman.below hb2 (by omega)).far (by simp) _, (qres.below hb2 (by omega)).far (by simp) _, ?_⟩
              rw [← HSET.out bd (by omega)]
              exact (qlow.below hb2 (by omega)).set_ k _
          · go_wp2_with fail
            refine wp_region_later (by kernel_rfl) (by kernel_rfl) ?_
            repeat (go_big_quiet_step (((first | (go_at_call 11; exact quiet_same _ (refBound_calls_eq _ _ _ _ HBD.out _ hkeep hnow))))))
            refine wpQuiet_nil ?_
            rintro w2 ⟨⟨_, hb2⟩, rfl⟩
            have l2 := later hb2 hlc
            go_wp2
            go_roundg (gk - 1)
            case measure => have := HK.out; omega
            case rel =>
              have hs := hb2.size
              have hz := HSR.out
              exact ⟨k + 1, by have := HK.out; omega, by go_num, hb.trans (hb2.mono (by omega)), by omega, qpol.below hb2 (by omega), qman.below hb2 (by omega), qres.below hb2 (by omega), (HSAME.out lv (by omega) rfl).below hb2 (by omega)⟩
        · obtain rfl : k = 3 := by omega
          go_wp2_with fail
          go_meet
          exact ⟨hb, HSR.out, qpol, qman, qres, qlow⟩
    case rest =>
      obtain ⟨rbl, rsz, rpol, rman, rres, rlow⟩ := hcut
      obtain ⟨wy, rfl⟩ : ∃ wy, wy = wc := ⟨_, rfl⟩
      clear hbl hpol hman hres hlow HSZ
      have z1 : B + 1 < wy.heap.size := by omega
      have m5 : wy.cell? ⟨B + 1, 5, none⟩ = some (.slice A n c) := rman.cell 5
      have hlol : (lowInit p.keeps now M.w0 M.low 3).length = 3 := by simp [lowInit]
      have HLOL := Lib.hid hlol
      clear hlol
      have hXB : Elems w B 5 Info.enc A n xs := by rw [HB.out]; exact hX
      obtain ⟨lo0, hlo0⟩ : ∃ l, lowInit p.keeps now M.w0 M.low 3 = l := ⟨_, rfl⟩
      rw [hlo0] at rlow HLOL
      have HLO := Lib.hid hlo0
      clear hlo0
      go_upto_block 2 with fail
      go_cut [12] (fun s12 wz => RefMem w wz B wy.heap.size p M A n c lo0 (List.replicate n false))
      case first =>
        go_wp2_with fail
        go_loopg [12] n (fun gk i wr => ∃ k : Nat, k + gk = n ∧ i = .int .i64 k ∧ RefMem w wr B wy.heap.size p M A n c lo0 (fillTo n k))
        case atStart =>
          refine ⟨0, by omega, rfl, { below := rbl.alloc (by omega) _, size := by simp, big := rsz, pol := rpol.alloc _, man := rman.alloc _, res := rres.alloc _, low := rlow.alloc _, stay := ?_, lol := HLOL.out, gsl := fillTo_len (by omega) }⟩
          rw [← falses_fill]
          exact Blk.newAt rfl
        case round =>
          obtain ⟨k, hk, rfl, hR⟩ := hrel
          have HK := Lib.hid hk
          have hkn : k ≤ n := by omega
          clear hk
          have q5 : wr.cell? ⟨B + 1, 5, none⟩ = some (.slice A n c) := hR.man.cell 5
          by_cases hlt : k < n
          · have hgl := hR.gsl
            have hc : wr.cell? ⟨wy.heap.size, k, none⟩ = some (.bool (!((fillTo n k).getD k false))) := by rw [hR.stay.cell, stayC_get (by omega)]
            have hf := hR.stay.frozen k
            have HGL := Lib.hid hgl
            clear hgl
            go_wp2
            go_roundg (gk - 1)
            case measure => have := HK.out; omega
            case rel =>
              refine ⟨k + 1, by have := HK.out; omega, by go_num, ?_⟩
              rw [← fillTo_succ hlt]
              exact hR.setStay k false
          · obtain rfl : k = n := by omega
            go_wp2_with fail
            go_meet
            rw [fillTo_all] at hR
            exact hR
      case rest =>
        obtain ⟨wf, rfl⟩ : ∃ wf, wf = wc := ⟨_, rfl⟩
        have hF := hcut
        clear hcut rbl rpol rman rres rlow m5 HLOL z1 rsz
        have hxn := hxl.out
        generalize wy.heap.size = g at *
        go_upto_block 4 with fail
        go_cut [] (fun wz => RefMem w wz B g p M A n c (sweepF p.size xs n lo0 (List.replicate n false)).1 (sweepF p.size xs n lo0 (List.replicate n false)).2)
        case first =>
          go_wp2_with fail
          go_loopg [] n (fun f wr => ∃ lo gs, left gs ≤ f ∧ sweepF p.size xs n lo0 (List.replicate n false) = sweepF p.size xs f lo gs ∧ RefMem w wr B g p M A n c lo gs)
          case atStart => exact ⟨_, _, by rw [left_replicate]; exact Nat.le_refl _, rfl, hF⟩
          case round =>
            obtain ⟨wo, rfl⟩ : ∃ wo : World, wo = wr := ⟨_, rfl⟩
            obtain ⟨lo, gs, hf, hs, hO⟩ := hrel
            have HS := Lib.hid hs
            have HF := Lib.hid hf
            clear hs hf
            go_upto_block 6 with fail
            go_cut [13, 14, 15] (fun s13 s14 s15 wz => s13 = .int .i64 (dropTo lo xs gs n).bytes ∧ s14 = .int .i64 (dropTo lo xs gs n).count ∧ s15 = .int .i64 (dropTo lo xs gs n).oldest ∧ RefMem w wz B g p M A n c lo (dropTo lo xs gs n).gs)
            case first =>
              go_wp2_with fail
              go_loopg [13, 14, 15, 16] n (fun gk t13 t14 t15 i wr => ∃ k : Nat, k + gk = n ∧ i = .int .i64 k ∧ t13 = .int .i64 (dropTo lo xs gs k).bytes ∧ t14 = .int .i64 (dropTo lo xs gs k).count ∧ t15 = .int .i64 (dropTo lo xs gs k).oldest ∧ RefMem w wr B g p M A n c lo (dropTo lo xs gs k).gs)
              case atStart => exact ⟨0, by omega, rfl, rfl, rfl, rfl, hO⟩
              case round =>
                obtain ⟨k, hk, rfl, rfl, rfl, rfl, hR⟩ := hrel
                have HK := Lib.hid hk
                have hkn : k ≤ n := by omega
                clear hk
                have q5 : wr.cell? ⟨B + 1, 5, none⟩ = some (.slice A n c) := hR.man.cell 5
                by_cases hlt : k < n
                · obtain ⟨b, off, rfl, hbB, hcell⟩ := hXB.2 (by omega)
                  obtain ⟨x, hx⟩ : ∃ x, xs[k]? = some x := ⟨_, List.getElem?_eq_getElem (by omega)⟩
                  have hxD : xs.getD k Info.zero = x := by simp [List.getD, hx]
                  have rd : ∀ i y, xs[i]? = some y → ∀ j v, (Info.enc y)[j]? = some v → wr.cell? ⟨b, off + i * 5 + j, none⟩ = some v := fun i y hy j v hv =>
                    (hR.below.cell (p := ⟨b, _, none⟩) hbB).trans (hcell i y hy j v hv)
                  have q0 := rd k x hx 0 _ rfl
                  have q1 := rd k x hx 1 _ rfl
                  have q2 := rd k x hx 2 _ rfl
                  have q3 := rd k x hx 3 _ rfl
                  have q4 := rd k x hx 4 _ rfl
                  simp only [Nat.add_zero] at q0
                  have hbd := dropTo_bounds lo xs gs k
                  have SG := Lib.hid (@dropTo_goes lo xs gs k x hxD)
                  have SW := Lib.hid (@dropTo_was lo xs gs k x hxD)
                  have SS := Lib.hid (@dropTo_stays lo xs gs k x hxD)
                  generalize dropTo lo xs gs k = d at *
                  obtain ⟨b1, hb1⟩ : ∃ b1, d.gs.getD k false = b1 := ⟨_, rfl⟩
                  have hgl := hR.gsl
                  have hgc : wr.cell? ⟨g, k, none⟩ = some (.bool (!b1)) := by rw [hR.stay.cell, stayC_get (by omega), hb1]
                  have hgf := hR.stay.frozen k
                  obtain ⟨lv, hlv⟩ : ∃ lv, lo.getD x.res.toNat 0 = lv := ⟨_, rfl⟩
                  have zg := hR.size
                  have zb := hR.big
                  have z3 : B + 3 < wr.heap.size := by omega
                  have z1 : B + 1 < wr.heap.size := by omega
                  have zbb : b < wr.heap.size := by omega
                  have HB1 := Lib.hid hb1
                  have RD := Lib.hid rd
                  obtain ⟨hb2, hb3, hb4, hb5⟩ := hbd
                  have yex : ∃ y, 0 ≤ d.oldest → xs[d.oldest.toNat]? = some y := by
                    by_cases h : 0 ≤ d.oldest
                    · exact ⟨_, fun _ => List.getElem?_eq_getElem (l := xs) (i := d.oldest.toNat) (by omega)⟩
                    · exact ⟨x, fun h' => absurd h' h⟩
                  obtain ⟨y, hy⟩ := yex
                  have HY := Lib.hid hy
                  clear hy
                  by_cases hkn' : knownB x.res = true
                  · obtain ⟨h1, h2⟩ := known_yes hkn'
                    have h2' : x.res ≤ 2 := by omega
                    have h3 : wr.cell? ⟨B + 3, x.res.toNat, none⟩ = some (.int .i64 lv) := by
                      rw [hR.low.cell, ← hlv]
                      have : x.res = 0 ∨ x.res = 1 ∨ x.res = 2 := by omega
                      rcases this with e | e | e <;> rw [e] <;> rfl
                    have hgo : goesB lo x = decide (x.to_ ≤ lv) := by rw [goesB, hkn', hlv, Bool.true_and]
                    have HGO := Lib.hid hgo
                    have HKN := Lib.hid hkn'
                    clear hx hxD rd hcell hgo hb1 hlv hgl hkn'
                    by_cases hle : x.to_ ≤ lv
                    · have HS1 := Lib.hid (SG.out (HGO.out.trans (by simp [hle])))
                      go_wp2_with fail
                      refine wp_region_later (by kernel_rfl) (by kernel_rfl) ?_
                      repeat (go_big_quiet_step ((fail)))
                      refine wpQuiet_nil ?_
                      rintro w2 ⟨⟨_, hq2⟩, rfl⟩
                      have bW : Below wr.heap.size wr w2 := then_ (by go_grown) hq2
                      have e4 := later bW hgc
                      have ef := laterF bW hgc hgf
                      go_wp2
                      go_roundg (gk - 1)
                      case measure => have := HK.out; omega
                      case rel =>
                        refine ⟨k + 1, by have := HK.out; omega, by go_num, vi (by rw [HS1.out]), vi (by rw [HS1.out]), vi (by rw [HS1.out]), ?_⟩
                        rw [HS1.out]
                        exact (hR.later bW).setStay k true
                    · have hgo' : goesB lo x = false := HGO.out.trans (by simp [hle])
                      have hled : decide (x.to_ ≤ lv) = false := by simp [hle]
                      have HGN := Lib.hid hgo'
                      clear hgo'
                      cases b1 with
                      | true =>
                        have HS1 := Lib.hid (SW.out HGN.out HB1.out)
                        go_wp2_with fail
                        refine wp_region_later (by kernel_rfl) (by kernel_rfl) ?_
                        repeat (go_big_quiet_step ((fail)))
                        refine wpQuiet_nil ?_
                        rintro w2 ⟨⟨_, hq2⟩, rfl⟩
                        have bW : Below wr.heap.size wr w2 := then_ (by go_grown) hq2
                        have e4 := later bW hgc
                        go_wp2
                        go_roundg (gk - 1)
                        case measure => have := HK.out; omega
                        case rel =>
                          refine ⟨k + 1, by have := HK.out; omega, by go_num, vi (by rw [HS1.out]), vi (by rw [HS1.out]), vi (by rw [HS1.out]), ?_⟩
                          rw [HS1.out]
                          exact hR.later bW
                      | false =>
                        have HS1 := Lib.hid (SS.out HGN.out HB1.out)
                        by_cases ho : d.oldest < 0
                        · have hno : nextOldest xs d.oldest k x = k := by rw [nextOldest, HKN.out]; simp [ho]
                          have HNO := Lib.hid hno
                          clear hno
                          go_wp2_with fail
                          refine wp_region_later (by kernel_rfl) (by kernel_rfl) ?_
                          repeat (go_big_quiet_step ((fail)))
                          refine wpQuiet_nil ?_
                          rintro w2 ⟨⟨_, hq2⟩, rfl⟩
                          have bW : Below wr.heap.size wr w2 := then_ (by go_grown) hq2
                          have e4 := later bW hgc
                          have x4 : w2.cell? ⟨wr.heap.size, 4, none⟩ = some (.int .i64 x.bytes) := (hq2.cell (by simp)).trans (by simp)
                          go_wp2
                          go_roundg (gk - 1)
                          case measure => have := HK.out; omega
                          case rel =>
                            refine ⟨k + 1, by have := HK.out; omega, by go_num, vi (by rw [HS1.out]), vi (by rw [HS1.out]), vi (by rw [HS1.out]; exact HNO.out.symm), ?_⟩
                            rw [HS1.out]
                            exact hR.later bW
                        · have hy := HY.out (by omega)
                          have hno : nextOldest xs d.oldest k x = if olderB x y then (k : Int) else d.oldest := by
                            rw [nextOldest, HKN.out, List.getD, hy, Option.getD_some]
                            have : decide (d.oldest < 0) = false := by simp; omega
                            rw [this, Bool.false_or, Bool.true_and]
                          have HNO := Lib.hid hno
                          have y0 := RD.out _ y hy 0 _ rfl
                          have y1 := RD.out _ y hy 1 _ rfl
                          have y2 := RD.out _ y hy 2 _ rfl
                          have y3 := RD.out _ y hy 3 _ rfl
                          have y4 := RD.out _ y hy 4 _ rfl
                          simp only [Nat.add_zero] at y0
                          clear hno hy
                          have ho2 : 0 ≤ d.oldest := by omega
                          have ho3 : d.oldest < (n : Int) := by omega
                          go_wp2_with fail
                          refine wp_region_later (by kernel_rfl) (by kernel_rfl) ?_
                          repeat (go_big_quiet_step ((fail)))
                          refine wpQuiet_nil ?_
                          rintro w2 ⟨⟨_, hq2⟩, rfl⟩
                          have bW : Below wr.heap.size wr w2 := then_ (by go_grown) hq2
                          have e4 := later bW hgc
                          have e5 := later bW q5
                          have p0 := later bW y0
                          have p1 := later bW y1
                          have p2 := later bW y2
                          have p3 := later bW y3
                          have p4 := later bW y4
                          have x0 : w2.cell? ⟨wr.heap.size, 0, none⟩ = some (.int .i64 x.id) := (hq2.cell (by simp)).trans (by simp)
                          have x1 : w2.cell? ⟨wr.heap.size, 1, none⟩ = some (.int .i64 x.res) := (hq2.cell (by simp)).trans (by simp)
                          have x2 : w2.cell? ⟨wr.heap.size, 2, none⟩ = some (.int .i64 x.frm) := (hq2.cell (by simp)).trans (by simp)
                          have x3 : w2.cell? ⟨wr.heap.size, 3, none⟩ = some (.int .i64 x.to_) := (hq2.cell (by simp)).trans (by simp)
                          have x4 : w2.cell? ⟨wr.heap.size, 4, none⟩ = some (.int .i64 x.bytes) := (hq2.cell (by simp)).trans (by simp)
                          have t0 : wr.heap.size < w2.heap.size := lt_of_cell x0
                          have t1 : b < w2.heap.size := lt_of_cell p0
                          have t2 : B + 1 < w2.heap.size := lt_of_cell e5
                          cases hol : olderB x y
                          all_goals
                            go_wp2_with fail
                            refine wp_region_later (by kernel_rfl) (by kernel_rfl) ?_
                            repeat (go_big_quiet_step (((first | (go_at_call 14; exact quiet_later _ (refOlder_calls x y _ hol _))))))
                            refine wpQuiet_nil ?_
                            rintro w3 ⟨⟨_, hq3⟩, rfl⟩
                            have bW3 : Below wr.heap.size wr w3 := then_ bW hq3
                            go_wp2
                            go_roundg (gk - 1)
                            case measure => have := HK.out; omega
                            case rel =>
                              refine ⟨k + 1, by have := HK.out; omega, by go_num, vi (by rw [HS1.out]), vi (by rw [HS1.out]), vi (by rw [HS1.out]; rw [HNO.out, hol]; rfl), ?_⟩
                              rw [HS1.out]
                              exact hR.later bW3
                  · have hkf : knownB x.res = false := by simpa using hkn'
                    have hgo' : goesB lo x = false := by rw [goesB, hkf, Bool.false_and]
                    have hno : nextOldest xs d.oldest k x = d.oldest := by rw [nextOldest, hkf]; simp
                    have HNO := Lib.hid hno
                    have HGN := Lib.hid hgo'
                    have hr := known_no hkf
                    clear hx hxD rd hcell hgo' hb1 hlv hgl hkn' hkf hno
                    by_cases hneg : x.res < 0
                    all_goals
                      (first | (have hbig : 2 < x.res := (by omega); have hbig0 : 0 ≤ x.res := (by omega); have hbig2 : decide (x.res ≤ 2) = false := (by simp; omega)) | skip)
                      clear hr
                      cases b1 with
                      | true =>
                        have HS1 := Lib.hid (SW.out HGN.out HB1.out)
                        go_wp2_with fail
                        refine wp_region_later (by kernel_rfl) (by kernel_rfl) ?_
                        repeat (go_big_quiet_step ((fail)))
                        refine wpQuiet_nil ?_
                        rintro w2 ⟨⟨_, hq2⟩, rfl⟩
                        have bW : Below wr.heap.size wr w2 := then_ (by go_grown) hq2
                        have e4 := later bW hgc
                        go_wp2
                        go_roundg (gk - 1)
                        case measure => have := HK.out; omega
                        case rel =>
                          refine ⟨k + 1, by have := HK.out; omega, by go_num, vi (by rw [HS1.out]), vi (by rw [HS1.out]), vi (by rw [HS1.out]), ?_⟩
                          rw [HS1.out]
                          exact hR.later bW
                      | false =>
                        have HS1 := Lib.hid (SS.out HGN.out HB1.out)
                        go_wp2_with fail
                        refine wp_region_later (by kernel_rfl) (by kernel_rfl) ?_
                        repeat (go_big_quiet_step ((fail)))
                        refine wpQuiet_nil ?_
                        rintro w2 ⟨⟨_, hq2⟩, rfl⟩
                        have bW : Below wr.heap.size wr w2 := then_ (by go_grown) hq2
                        have e4 := later bW hgc
                        have x4 : w2.cell? ⟨wr.heap.size, 4, none⟩ = some (.int .i64 x.bytes) := (hq2.cell (by simp)).trans (by simp)
                        go_wp2
                        go_roundg (gk - 1)
                        case measure => have := HK.out; omega
                        case rel =>
                          refine ⟨k + 1, by have := HK.out; omega, by go_num, vi (by rw [HS1.out]), vi (by rw [HS1.out]), vi (by rw [HS1.out]; exact HNO.out.symm), ?_⟩
                          rw [HS1.out]
                          exact hR.later bW
                · obtain rfl : k = n := by omega
                  go_wp2_with fail
                  go_meet
                  exact ⟨rfl, rfl, rfl, hR⟩
            case rest =>
              obtain ⟨rfl, rfl, rfl, hD1⟩ := hcut
              obtain ⟨w1, rfl⟩ : ∃ w1, w1 = wc := ⟨_, rfl⟩
              have hgo := @sweep_goes p.size xs gk lo gs (by rw [hO.gsl, hxn]) HF.out
              have hst := @sweepF_stop p.size xs gk lo gs
              rw [hxn] at hgo hst
              generalize dropTo lo xs gs n = d at *
              have zg := hD1.size
              have zb := hD1.big
              have p3 : w1.cell? ⟨B, 3, none⟩ = some (.int .i64 p.size) := hD1.pol.cell 3
              have HGO := Lib.hid hgo
              have HST := Lib.hid hst
              clear hgo hst hO
              by_cases hstop : stopB p.size d = true
              · have HS1 := Lib.hid (HS.out.trans (HST.out hstop))
                have hsb : p.size ≤ 0 ∨ d.bytes ≤ p.size ∨ d.count < 2 ∨ d.oldest < 0 := by simpa [stopB, or_assoc] using hstop
                clear hstop
                by_cases s1 : p.size ≤ 0
                · go_wp2_with fail
                  go_meet
                  rw [HS1.out]; exact hD1
                by_cases s2 : d.bytes ≤ p.size
                · go_wp2_with fail
                  go_meet
                  rw [HS1.out]; exact hD1
                by_cases s3 : d.count ≤ 1
                · go_wp2_with fail
                  go_meet
                  rw [HS1.out]; exact hD1
                · have s4 : d.oldest < 0 := by omega
                  clear hsb
                  go_wp2_with fail
                  go_meet
                  rw [HS1.out]; exact hD1
              · have hgo' : stopB p.size d = false := by simpa using hstop
                obtain ⟨o, f', e1, e2, ho, hkn, hlf, hsw⟩ := HGO.out hgo'
                have HSW := Lib.hid (HS.out.trans hsw)
                have HLF := Lib.hid hlf
                have HE1 := Lib.hid e1
                have hns : ¬ (p.size ≤ 0) ∧ ¬ (d.bytes ≤ p.size) ∧ ¬ (d.count < 2) ∧ ¬ (d.oldest < 0) := by simpa [stopB, and_assoc] using hgo'
                obtain ⟨s1, s2, s3', s4⟩ := hns
                have s3 : ¬ (d.count ≤ 1) := by omega
                obtain ⟨b, off, rfl, hbB, hcell⟩ := hXB.2 (by omega)
                obtain ⟨x, hx⟩ : ∃ x, xs[o]? = some x := ⟨_, List.getElem?_eq_getElem (by omega)⟩
                have hxD : xs.getD o Info.zero = x := by simp [List.getD, hx]
                rw [hxD] at hkn
                have rd : ∀ j v, (Info.enc x)[j]? = some v → w1.cell? ⟨b, off + o * 5 + j, none⟩ = some v := fun j v hv => (hD1.below.cell (p := ⟨b, _, none⟩) hbB).trans (hcell o x hx j v hv)
                have q0 := rd 0 _ rfl
                have q1 := rd 1 _ rfl
                have q2 := rd 2 _ rfl
                have q3 := rd 3 _ rfl
                have q4 := rd 4 _ rfl
                simp only [Nat.add_zero] at q0
                have q5 : w1.cell? ⟨B + 1, 5, none⟩ = some (.slice (some ⟨b, off, none⟩) n c) := hD1.man.cell 5
                obtain ⟨k1, k2⟩ := known_yes hkn
                have HXD := Lib.hid hxD
                obtain ⟨gb, hgb⟩ : ∃ gb : Bool, w1.cell? ⟨g, o, none⟩ = some (.bool gb) := ⟨_, by
                  rw [hD1.stay.cell, stayC_get (by rw [hD1.gsl]; omega)]⟩
                have hgf := hD1.stay.frozen o
                have honi : (0 : Int) ≤ (o : Int) ∧ (o : Int) < (n : Int) := by omega
                obtain ⟨on1, on2⟩ := honi
                have z1 : B + 1 < w1.heap.size := by omega
                have zbb : b < w1.heap.size := by omega
                have hgne : g ≠ B + 1 := by omega
                have hgnb : g ≠ b := by omega
                clear hgo' hstop hsw hlf e1 hx hxD rd hcell
                rw [e2]
                have HE2 := Lib.hid e2
                clear e2 s4
                go_upto_region 33 with fail
                go_cut [] (fun wq => RefMem w wq B g p M (some ⟨b, off, none⟩) n c lo (d.gs.set o true))
                case first =>
                  go_wp2_with fail
                  go_meet
                  exact hD1.setStay o true
                case rest =>
                  have hD2 := hcut
                  obtain ⟨wq, rfl⟩ : ∃ wq, wq = wc := ⟨_, rfl⟩
                  clear q0 q1 q2 q3 q4 q5 hgb hgf p3 hD1 hcut zg z1 zbb
                  obtain ⟨_, _, ee, _, hcell⟩ := hXB.2 (by omega)
                  simp only [Option.some.injEq, Addr.mk.injEq, and_true] at ee
                  obtain ⟨rfl, rfl⟩ := ee
                  have hx : xs[o]? = some x := by
                    have := HXD.out
                    rw [List.getD, List.getElem?_eq_getElem (by omega), Option.getD_some] at this
                    rw [List.getElem?_eq_getElem (by omega), this]
                  have rd : ∀ j v, (Info.enc x)[j]? = some v → wq.cell? ⟨b, off + o * 5 + j, none⟩ = some v := fun j v hv => (hD2.below.cell (p := ⟨b, _, none⟩) hbB).trans (hcell o x hx j v hv)
                  have q0 := rd 0 _ rfl
                  have q1 := rd 1 _ rfl
                  have q2 := rd 2 _ rfl
                  have q3 := rd 3 _ rfl
                  have q4 := rd 4 _ rfl
                  simp only [Nat.add_zero] at q0
                  have q5 : wq.cell? ⟨B + 1, 5, none⟩ = some (.slice (some ⟨b, off, none⟩) n c) := hD2.man.cell 5
                  have zg := hD2.size
                  have z3 : B + 3 < wq.heap.size := by omega
                  obtain ⟨lv, hlv⟩ : ∃ lv, lo.getD x.res.toNat 0 = lv := ⟨_, rfl⟩
                  have hlc : wq.cell? ⟨B + 3, x.res.toNat, none⟩ = some (.int .i64 lv) := by
                    rw [hD2.low.cell, ← hlv]
                    have : x.res = 0 ∨ x.res = 1 ∨ x.res = 2 := by omega
                    rcases this with e | e | e <;> rw [e] <;> rfl
                  have hlf := hD2.low.frozen x.res.toNat
                  have HLV := Lib.hid hlv
                  clear hlv hx rd hcell
                  by_cases hgt : lv < x.to_
                  · go_wp2_with fail
                    refine wp_region_later (by kernel_rfl) (by kernel_rfl) ?_
                    repeat (go_big_quiet_step ((fail)))
                    refine wpQuiet_nil ?_
                    rintro w2 ⟨⟨_, hq2⟩, rfl⟩
                    have bW : Below wq.heap.size wq w2 := then_ (by go_grown) hq2
                    have l2 := later bW hlc
                    have f2 := laterF bW hlc hlf
                    have x1 : w2.cell? ⟨wq.heap.size, 1, none⟩ = some (.int .i64 x.res) := (hq2.cell (by simp)).trans (by simp)
                    have x3 : w2.cell? ⟨wq.heap.size, 3, none⟩ = some (.int .i64 x.to_) := (hq2.cell (by simp)).trans (by simp)
                    go_wp2
                    go_roundg f'
                    case measure => have := HE1.out; omega
                    case rel =>
                      have hsw := HSW.out
                      rw [HXD.out] at hsw
                      refine ⟨raiseLow lo x, d.gs.set o true, HLF.out, hsw, (hD2.later bW).setLow (by omega) ?_⟩
                      rw [raiseLow, HLV.out]
                      refine congrArg (fun v => lo.set x.res.toNat v) ?_
                      omega
                  · go_wp2_with fail
                    refine wp_region_later (by kernel_rfl) (by kernel_rfl) ?_
                    repeat (go_big_quiet_step ((fail)))
                    refine wpQuiet_nil ?_
                    rintro w2 ⟨⟨_, hq2⟩, rfl⟩
                    have bW : Below wq.heap.size wq w2 := then_ (by go_grown) hq2
                    go_wp2
                    go_roundg f'
                    case measure => have := HE1.out; omega
                    case rel =>
                      have hsw := HSW.out
                      rw [HXD.out] at hsw
                      refine ⟨raiseLow lo x, d.gs.set o true, HLF.out, hsw, ?_⟩
                      have hsame : raiseLow lo x = lo := by
                        have hl := hD2.lol
                        have hlv := HLV.out
                        rw [raiseLow, hlv, show max lv x.to_ = lv by omega, ← hlv]
                        apply List.ext_getElem?
                        intro i
                        by_cases hi : x.res.toNat = i
                        · subst hi
                          have : x.res.toNat < lo.length := by omega
                          simp [this, List.getD]
                        · rw [List.getElem?_set_ne hi]
                      rw [hsame]
                      exact hD2.later bW
        case rest =>
          obtain ⟨wz, rfl⟩ : ∃ wz, wz = wc := ⟨_, rfl⟩
          obtain ⟨r, hr⟩ : ∃ r, sweepF p.size xs n lo0 (List.replicate n false) = r := ⟨_, rfl⟩
          rw [hr] at hcut
          obtain ⟨lo, gs⟩ := r
          have hdo : decideOf p.keeps p.size now M.w0 M.low xs = (lo, idsTo xs gs n) := by simp only [decideOf, hxn, HLO.out, hr]
          have HDO := Lib.hid hdo
          have hD : RefMem w wz B g p M A n c lo gs := hcut
          clear hr hdo hcut
          obtain ⟨i0, hi0, hz0, hz1, hz2⟩ := info_parts info_int
          go_wp2_with fail
          go_loopg [21, 22] n (fun gk v i wr => ∃ k : Nat, k + gk = n ∧ i = .int .i64 k ∧ RefMem w wr B g p M A n c lo gs ∧ wr.ownsRow (g + 1) 3 1 v (idsTo xs gs k).length ((idsTo xs gs k).map (Value.int .i64)))
          case atStart => exact ⟨0, by omega, rfl, hD, World.ownsRow_nil _ _ _ _⟩
          case round =>
            obtain ⟨k, hk, rfl, hR, hown⟩ := hrel
            have HK := Lib.hid hk
            have hkn : k ≤ n := by omega
            clear hk
            have zg := hR.size
            have zb := hR.big
            have q5 : wr.cell? ⟨B + 1, 5, none⟩ = some (.slice A n c) := hR.man.cell 5
            by_cases hlt : k < n
            · obtain ⟨b, off, rfl, hbB, hcell⟩ := hXB.2 (by omega)
              obtain ⟨x, hx⟩ : ∃ x, xs[k]? = some x := ⟨_, List.getElem?_eq_getElem (by omega)⟩
              have hxD : xs.getD k Info.zero = x := by simp [List.getD, hx]
              have q0 : wr.cell? ⟨b, off + k * 5, none⟩ = some (.int .i64 x.id) := (hR.below.cell (p := ⟨b, _, none⟩) hbB).trans (hcell k x hx 0 _ rfl)
              obtain ⟨gb, hgv⟩ : ∃ gb : Bool, gs.getD k false = gb := ⟨_, rfl⟩
              have hgb : wr.cell? ⟨g, k, none⟩ = some (.bool (!gb)) := by rw [hR.stay.cell, stayC_get (by rw [hR.gsl]; omega), hgv]
              have hid : idsTo xs gs (k + 1) = if gb then idsTo xs gs k ++ [x.id] else idsTo xs gs k := by rw [idsTo, hgv, hxD]
              have HID := Lib.hid hid
              have hil := idsTo_le xs gs k
              generalize idsTo xs gs k = ids at *
              have HXN := Lib.hid hxn
              clear hid hgv hxD hx hcell hxn
              cases gb with
              | false =>
                go_wp2
                go_roundg (gk - 1)
                case measure => have := HK.out; omega
                case rel => exact ⟨k + 1, by have := HK.out; omega, by go_num, hR, by rw [HID.out]; exact hown⟩
              | true =>
                go_wp2_with (at_builtin; refine wpList_append_own_at _ rfl _ _ 28 rfl (g + 1) 3 i0 (.int .i64 0) 1 8 Try.underlying28 hi0 hz0 hz1 hz2 rfl (by decide) _ _ _ rfl (hown.alloc _) ⟨wr.heap.size, 0, none⟩ 1 1 [.int .i64 x.id] rfl rfl ?c1 ?c2 ?c3 ?c4 ?c5 ?_)
                case c2 => rfl
                case c3 => unfold maxLen; omega
                case c4 => omega
                case c5 => omega
                rintro v' w2 hown2 hg2 _ hat
                go_wp2
                go_roundg (gk - 1)
                case measure => have := HK.out; omega
                case rel =>
                  refine ⟨k + 1, by have := HK.out; omega, by go_num, (hR.later (w2 := _) (by go_grown)).grown hg2 (fun g hg => (hown.lt g hg).1), ?_⟩
                  rw [HID.out]
                  simpa using hown2
            · obtain rfl : k = n := by omega
              have e0 : wr.cell? ⟨B + 3, 0, none⟩ = some (.int .i64 (lo.getD 0 0)) := hR.low.cell 0
              have e1 : wr.cell? ⟨B + 3, 1, none⟩ = some (.int .i64 (lo.getD 1 0)) := hR.low.cell 1
              have e2 : wr.cell? ⟨B + 3, 2, none⟩ = some (.int .i64 (lo.getD 2 0)) := hR.low.cell 2
              have r0 : wr.cell? ⟨B + 2, 0, none⟩ = some (.int .i64 0) := hR.res.cell 0
              have r1 : wr.cell? ⟨B + 2, 1, none⟩ = some (.int .i64 0) := hR.res.cell 1
              have r2 : wr.cell? ⟨B + 2, 2, none⟩ = some (.int .i64 0) := hR.res.cell 2
              have g0 := hR.res.frozen 0
              have g1 := hR.res.frozen 1
              have g2 := hR.res.frozen 2
              obtain ⟨l0, hl0⟩ : ∃ l, lo.getD 0 0 = l := ⟨_, rfl⟩
              obtain ⟨l1, hl1⟩ : ∃ l, lo.getD 1 0 = l := ⟨_, rfl⟩
              obtain ⟨l2, hl2⟩ : ∃ l, lo.getD 2 0 = l := ⟨_, rfl⟩
              rw [hl0] at e0
              rw [hl1] at e1
              rw [hl2] at e2
              have HL0 := Lib.hid hl0
              have HL1 := Lib.hid hl1
              have HL2 := Lib.hid hl2
              clear hxn hl0 hl1 hl2
              go_wp2
              have hW := ((hR.res.set_ 0 (.int .i64 l0)).set_ 1 (.int .i64 l1)).set_ 2 (.int .i64 l2)
              have w0 : _ = some (Value.int .i64 l0) := hW.cell 0
              have w1 : _ = some (Value.int .i64 l1) := hW.cell 1
              have w2 : _ = some (Value.int .i64 l2) := hW.cell 2
              refine bodyPost_ret (v := .tuple #[.agg #[.int .i64 l0, .int .i64 l1, .int .i64 l2], u21]) (by simp [results, Try.results7, go_sem, w0, w1, w2]) rfl ?_
              have hown2 := ownsRow_setCell_below (ownsRow_setCell_below (ownsRow_setCell_below hown (a := ⟨B + 2, 0, none⟩) (by simp; omega) (.int .i64 l0)) (a := ⟨B + 2, 1, none⟩) (by simp; omega) (.int .i64 l1)) (a := ⟨B + 2, 2, none⟩) (by simp; omega) (.int .i64 l2)
              obtain ⟨A', c', hv, hE, hge, hcap⟩ := Elems.of_own (enc := I1) (by intro x _; rfl) (flatMap_I1 _) hown2 rfl
              refine ⟨A', c', ?_, ?_, ?_, (fun a ha => by have := hge a ha; have := HB.out; omega), by rw [HDO.out]; exact hcap⟩
              · rw [HDO.out, hv]; dsimp only; rw [HL0.out, HL1.out, HL2.out]
              · rw [HDO.out]; exact hE
              · rw [← HB.out]; exact ((hR.below.setCell (by simp) _).setCell (by simp) _).setCell (by simp) _
end Go.Proofs.Ytfokjcoiehgbpaa
