/- Layer 3's laws: DiskNone (printed by gen_lawnone.py). -/
import Derived.Test.YtdaidbnbfjgjeaaGreatDoorDskNone
set_option linter.unusedVariables false
set_option linter.unusedSimpArgs false
namespace Go.Proofs.YtdaidbnbfjgjeaaGreatDoor
open Go.RowKit Go.Shelf Go.Maps Go.Sort
attribute [local go_sem ↓] Go.wp_at_zero Go.wp_at_succ
attribute [local go_sem] Later.cell Later.frozen

/-- The document's disk, off, through a script. -/
structure NRun (W w : World) (q : Nat) : Prop where
  ex : ∃ S B d, RD W.heap.size w S B d ∧ B.q = q ∧ d.off = true ∧ WF 0 d
  below : Below W.heap.size W w
theorem NRun.later {W w w' : World} {q : Nat} (h : NRun W w q) (hb : Below w.heap.size w w') : NRun W w' q := by
  obtain ⟨S, B, d, h1, h2, h3, h4⟩ := h.ex
  exact ⟨⟨S, B, d, h1.below hb, h2, h3, h4⟩, h.below.trans (hb.mono h.below.size)⟩
def offD : Ds := { newD 0 with off := true }
theorem NRun.new (W w : World) (hb : Below W.heap.size W w) :
    NRun W (w.alloc (.cells #[.slice none 0 0, .slice none 0 0, .slice none 0 0, .slice none 0 0, .int .i64 0, .bool true, .int .i64 0] 55)) w.heap.size := by
  have hB := hb.size
  refine ⟨⟨fun k => if k = w.heap.size then 1 else 0, ⟨w.heap.size, .slice none 0 0, .slice none 0 0, .slice none 0 0, .slice none 0 0, []⟩, offD, ?_, rfl, rfl, ?_⟩, hb.alloc hB _⟩
  · exact {
      blk := Blk.new _ _ _
      rq := by simp
      things := RowIs.nil
      safe := RowIs.nil
      steps := RowIs.nil
      files := RowIs.nil
      vl := rfl
      bytes := fun i f v hf => by simp [newD, offD] at hf
      inw := fun k hk => by
        by_cases e : k = w.heap.size
        · subst e; simp
        · simp [e] at hk
      low := fun k hk => by
        have : k ≠ w.heap.size := by omega
        simp [this] }
  · exact (WF.new 0).same (d' := offD) rfl rfl rfl rfl (by simp [offD, newD]) rfl
set_option maxRecDepth 100000 in
set_option maxHeartbeats 8000000 in
theorem none_calls {a : Nat → Addr} (X : Option Addr) (n c : Nat) (l : List OpE) (W : World) (hst : Start a W) (hs : ScriptM W X n l) (hL : costs l ≤ 536870912) :
    Calls Tryz.prog 7 #[.slice X n c] W fun e w' => e = .returned (.bool true) ∧ Below W.heap.size W w' := by
  have hll : l.length = n := Elems.len hs.row
  have hn := hs.n
  have HN := Lib.hid hll
  have HS := Lib.hid hs
  have HL := Lib.hid hL
  clear hs hll hL
  go_enter Tryz.func7, Tryz.ntmps7
  go_upto_region 3 with fail
  have hrun := NRun.new W W (Below.refl _ _)
  obtain ⟨w3, hw3⟩ : ∃ x, W.alloc (.cells #[.slice none 0 0, .slice none 0 0, .slice none 0 0, .slice none 0 0, .int .i64 0, .bool true, .int .i64 0] 55) = x := ⟨_, rfl⟩
  obtain ⟨q, hq⟩ : ∃ q, W.heap.size = q := ⟨_, rfl⟩
  have HQ := Lib.hid hq
  rw [hw3] at hrun ⊢
  rw [hq]
  have hrun : NRun W w3 q := by rw [← hq]; exact hrun
  clear hw3 hq
  go_wp2_with fail
  go_loopg [11] n (fun g s11 wr => ∃ i : Nat, i + g = n ∧ s11 = .int .i64 (i : Int) ∧ NRun W wr q)
  case atStart => exact ⟨0, by omega, rfl, hrun⟩
  case round =>
    obtain ⟨i, hig, rfl, hr⟩ := hrel
    have HIG := Lib.hid hig
    clear hig
    by_cases hi : i < n
    · have el : decide ((i : Int) < (n : Int)) = true := by simp; omega
      have el' : decide (i < n) = true := by simp; omega
      have hiin : (i : Int) < (n : Int) := by omega
      have hil : i < l.length := by rw [HN.out]; exact hi
      have hct : costO l[i]! ≤ 536870912 := by
        have h1 := costs_take hil
        have h2 := costs_le (l := l) (i + 1)
        have h3 := HL.out
        omega
      obtain ⟨S, B, d, hrd, rfl, hdo, hwf⟩ := hr.ex
      have hB := hr.below
      have hmem : l[i]! ∈ l := by rw [getElem!_pos l i hil]; exact List.getElem_mem _
      have hop := HS.out.ops _ hmem
      obtain ⟨b, off, hXe, hbl, x0, x1, x2, x3, x4, x5, x6, x7⟩ := ops_at HS.out.row hi
      obtain ⟨e, he⟩ : ∃ e, l[i]! = e := ⟨_, rfl⟩
      rw [he] at x0 x1 x2 x3 x4 x5 x6 x7 hop hct
      have x0 := (hB.cell (p := ⟨b, off + i * 8, none⟩) hbl).trans x0
      have x1 := (hB.cell (p := ⟨b, off + i * 8 + 1, none⟩) hbl).trans x1
      have x2 := (hB.cell (p := ⟨b, off + i * 8 + 2, none⟩) hbl).trans x2
      have x3 := (hB.cell (p := ⟨b, off + i * 8 + 3, none⟩) hbl).trans x3
      have x4 := (hB.cell (p := ⟨b, off + i * 8 + 4, none⟩) hbl).trans x4
      have x5 := (hB.cell (p := ⟨b, off + i * 8 + 5, none⟩) hbl).trans x5
      have x6 := (hB.cell (p := ⟨b, off + i * 8 + 6, none⟩) hbl).trans x6
      have x7 := (hB.cell (p := ⟨b, off + i * 8 + 7, none⟩) hbl).trans x7
      subst hXe
      have hbr : b < wr.heap.size := lt_of_cell x0
      have HOP := Lib.hid hop
      have hop2 := hop.later rfl hB (Q := S) hrd.low
      clear hmem hop he
      obtain ⟨⟨K, A, B', N, M', pa, pn, pc, da, dn, dc, yes⟩, parts, data⟩ := e
      dsimp only at x0 x1 x2 x3 x4 x5 x6 x7 hop2 hct
      have HR0 := Lib.hid (⟨hrd, hdo, hwf, hB⟩ : RD W.heap.size wr S B d ∧ d.off = true ∧ WF 0 d ∧ Below W.heap.size W wr)
      have HOP := Lib.hid hop2
      have HCT := Lib.hid hct
      clear hr hrd hdo hwf hB hop2 hct
      go_upto_region 6 with fail
      obtain ⟨w4, hw4⟩ : ∃ x, wr.alloc (.cells #[.int .i64 K, .string A, .string B', .int .i64 N, .int .i64 M', .slice pa pn pc, .slice da dn dc, .bool yes] 44) = x := ⟨_, rfl⟩
      have hb4 : Below wr.heap.size wr w4 := by rw [← hw4]; exact (Below.refl _ _).alloc (Nat.le_refl _) _
      have hk4 : OpBox w4 wr.heap.size ⟨K, A, B', N, M', pa, pn, pc, da, dn, dc, yes⟩ := by rw [← hw4]; exact Blk.new _ _ _
      have hall := hk4.all
      have hfresh : S wr.heap.size = 0 := HR0.out.1.inw.new (Nat.le_refl _)
      rw [hw4]
      obtain ⟨r, hrr⟩ : ∃ r, wr.heap.size = r := ⟨_, rfl⟩
      have HB4 := Lib.hid hb4
      rw [hrr] at hall hk4 hfresh ⊢
      have b0 := hall.c0
      have b1 := hall.c1
      have b2 := hall.c2
      have b3 := hall.c3
      have b4 := hall.c4
      have b5 := hall.c5
      have b6 := hall.c6
      have b7 := hall.c7
      have HK4 := Lib.hid hk4
      have HFR := Lib.hid hfresh
      clear x0 x1 x2 x3 x4 x5 x6 x7 hall hk4 hb4 hw4 hrr hbl hbr hfresh
      by_cases h13 : K = 13
      · subst h13
        go_wp2_with fail
        refine (restart_nil _ _ _ _ _ _).mono ?_
        rintro e w5 ⟨rfl, rfl⟩
        clear b0 b1 b2 b3 b4 b5 b6 b7
        go_wp2_with fail
        go_roundg (gk - 1)
        case measure => have := HIG.out; omega
        case rel => exact ⟨i + 1, by have := HIG.out; omega, by go_num, ⟨⟨S, B, d, HR0.out.1.below HB4.out, rfl, HR0.out.2.1, HR0.out.2.2.1⟩, HR0.out.2.2.2.trans (HB4.out.mono HR0.out.2.2.2.size)⟩⟩
      · have e13 : decide (K = 13) = false := decide_eq_false h13
        have g13 : (K == 13) = false := beq_eq_false_iff_ne.2 h13
        have hB4 := HR0.out.2.2.2.trans (HB4.out.mono HR0.out.2.2.2.size)
        have hsm := HOP.out.same HB4.out.size fun k hk _ => HB4.out.block k hk
        have ho4 : OpM w4 S ⟨K, A, B', N, M', pa, pn, pc, da, dn, dc, yes⟩ parts data parts.flatten.length := ⟨HOP.out.a, HOP.out.b, HOP.out.n1, HOP.out.n2, HOP.out.m1, HOP.out.m2, hsm.1, HOP.out.pc, HOP.out.pn, HOP.out.p0, HOP.out.po, HOP.out.fl, hsm.2, HOP.out.dn, HOP.out.d0, HOP.out.do_, HOP.out.dr⟩
        have HST := Lib.hid (nil_step (a := a) _ parts data (HR0.out.1.below HB4.out) HR0.out.2.1 (hst.env.below hB4) hst.ap hB4.size HR0.out.2.2.1 (by have := HCT.out; unfold costO at this; first | omega | (dsimp only at this; omega)) h13 ho4)
        dsimp only at HST
        have HB44 := Lib.hid hB4
        have hn2 := ho4.n2
        have HN2 := Lib.hid hn2
        clear hsm ho4 hB4 hn2
        go_wp2_with fail
        refine HST.out.mono ?_
        rintro x w5 ⟨rfl, hh⟩
        obtain ⟨S2, B2, k1, k2, k3⟩ := hh.ex
        have hk5 : OpBox w5 r ⟨K, A, B', N, M', pa, pn, pc, da, dn, dc, yes⟩ := (k2.block r HK4.out.lt HFR.out).trans HK4.out
        have hall := hk5.all
        have b0 := hall.c0
        have b1 := hall.c1
        have b2 := hall.c2
        have b3 := hall.c3
        have b4 := hall.c4
        have b5 := hall.c5
        have b6 := hall.c6
        have b7 := hall.c7
        have hnew : NRun W w5 B.q := by
          refine ⟨⟨S2, B2, _, k1, k3, ?_, ?_⟩, HB44.out.trans (k2.below HB44.out.size HR0.out.1.low)⟩
          · unfold nilD
            split
            · exact HR0.out.2.1
            · exact HR0.out.2.1
          · unfold nilD
            split
            · exact HR0.out.2.2.1.same (d' := crashD d N) rfl rfl rfl rfl (by have := HN2.out; simp only [crashD]; first | omega | (dsimp only at this; omega)) rfl
            · exact HR0.out.2.2.1
        have HNEW := Lib.hid hnew
        clear hall hk5 hnew k1 k2 k3 hh
        go_wp2_with fail
        refine (restart_nil _ _ _ _ _ _).mono ?_
        rintro e w6 ⟨rfl, rfl⟩
        clear b0 b1 b2 b3 b4 b5 b6 b7
        go_wp2_with fail
        go_roundg (gk - 1)
        case measure => have := HIG.out; omega
        case rel => exact ⟨i + 1, by have := HIG.out; omega, by go_num, HNEW.out⟩
    · have el : decide ((i : Int) < (n : Int)) = false := by simp; omega
      have el' : decide (i < n) = false := by simp; omega
      have HB := Lib.hid hr.below
      clear hr
      go_wp2_with fail
      refine (wakes_calls (B0 := W.heap.size) (a := a) wr HB.out.size (hst.env.below HB.out).f).mono ?_
      rintro e w3 ⟨rfl, hb3⟩
      have HB3 := Lib.hid (HB.out.trans (hb3.mono HB.out.size))
      clear hb3
      go_wp2_with fail
      refine (used_nil w3).mono ?_
      rintro e w4 ⟨rfl, rfl⟩
      go_wp2_with fail
      refine (off_nil_calls w3).mono ?_
      rintro e w4 ⟨rfl, rfl⟩
      go_wp2_with fail
      go_ret
      exact ⟨rfl, HB3.out⟩
end Go.Proofs.YtdaidbnbfjgjeaaGreatDoor
