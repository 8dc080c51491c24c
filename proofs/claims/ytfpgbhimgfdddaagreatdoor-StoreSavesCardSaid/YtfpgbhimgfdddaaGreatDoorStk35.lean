/- Merged (what the claim wants of): StoFit20, StoOpen2. -/
import Derived.Test.YtfpgbhimgfdddaaGreatDoorStk33
import Derived.Test.YtfpgbhimgfdddaaGreatDoorStk26
import Derived.Test.YtfpgbhimgfdddaaGreatDoorStk28
import Derived.Deep.Slices
set_option linter.unusedVariables false
set_option linter.unusedSimpArgs false
/- The walk of layer 20 (store): the document's Fit (printed by gen_stofit20.py). -/
namespace Go.Proofs.YtfpgbhimgfdddaaGreatDoor
open Go.RowKit Go.Shelf Go.Sort
attribute [local go_sem ↓] Go.wp_at_zero Go.wp_at_succ
attribute [local go_sem] Later.cell Later.frozen

def rI (m : Man) (i : Nat) : Int := [m.r0, m.r1, m.r2].getD i 0
def lI (m : Man) (i : Nat) : Int := [m.l0, m.l1, m.l2].getD i 0
def wI (m : Man) (i : Nat) : Int := [m.w0, m.w1, m.w2].getD i 0
def Arr (m : Man) (i : Nat) : Prop := timeB (rI m i) = true ∧ timeB (lI m i) = true ∧ 1 ≤ wI m i ∧ wI m i ≤ 1099511627776
theorem time_iff (t : Int) : timeB t = true ↔ 0 ≤ t ∧ t ≤ 1125899906842625 := by unfold timeB; simp
theorem fit_iff20 (m : Man) : m.fit = true ↔ timeB m.cut = true ∧ (1 ≤ m.next ∧ m.next ≤ 99999999 ∧ 1 ≤ m.log ∧ m.log ≤ 99999999) ∧ (∀ i, i < 3 → Arr m i) ∧ ∀ j, j < m.blocks.length → Good m.next m.blocks j := by
  rw [fit_iff]
  constructor
  · rintro ⟨h, hg, hb⟩
    have t0 : 1 ≤ m.w0 ∧ m.w0 ≤ 1099511627776 := h 0 (by omega)
    have t1 : 0 ≤ m.r0 ∧ m.r0 ≤ 1125899906842625 := h 1 (by omega)
    have t2 : 0 ≤ m.l0 ∧ m.l0 ≤ 1125899906842625 := h 2 (by omega)
    have t3 : 1 ≤ m.w1 ∧ m.w1 ≤ 1099511627776 := h 3 (by omega)
    have t4 : 0 ≤ m.r1 ∧ m.r1 ≤ 1125899906842625 := h 4 (by omega)
    have t5 : 0 ≤ m.l1 ∧ m.l1 ≤ 1125899906842625 := h 5 (by omega)
    have t6 : 1 ≤ m.w2 ∧ m.w2 ≤ 1099511627776 := h 6 (by omega)
    have t7 : 0 ≤ m.r2 ∧ m.r2 ≤ 1125899906842625 := h 7 (by omega)
    have t8 : 0 ≤ m.l2 ∧ m.l2 ≤ 1125899906842625 := h 8 (by omega)
    have t9 : 0 ≤ m.cut ∧ m.cut ≤ 1125899906842625 := h 9 (by omega)
    refine ⟨(time_iff _).2 t9, hb, fun i hi => ?_, hg⟩
    rcases (by omega : i = 0 ∨ i = 1 ∨ i = 2) with rfl | rfl | rfl
    · exact ⟨(time_iff _).2 t1, (time_iff _).2 t2, t0⟩
    · exact ⟨(time_iff _).2 t4, (time_iff _).2 t5, t3⟩
    · exact ⟨(time_iff _).2 t7, (time_iff _).2 t8, t6⟩
  · rintro ⟨h9, hb, h, hg⟩
    obtain ⟨a1, a2, a0⟩ := h 0 (by omega)
    obtain ⟨b1, b2, b0⟩ := h 1 (by omega)
    obtain ⟨c1, c2, c0⟩ := h 2 (by omega)
    rw [time_iff] at h9 a1 a2 b1 b2 c1 c2
    refine ⟨fun j hj => ?_, hg, hb⟩
    rcases (by omega : j = 0 ∨ j = 1 ∨ j = 2 ∨ j = 3 ∨ j = 4 ∨ j = 5 ∨ j = 6 ∨ j = 7 ∨ j = 8 ∨ j = 9) with rfl | rfl | rfl | rfl | rfl | rfl | rfl | rfl | rfl | rfl
    · exact a0
    · exact a1
    · exact a2
    · exact b0
    · exact b1
    · exact b2
    · exact c0
    · exact c1
    · exact c2
    · exact h9
set_option maxRecDepth 100000 in
set_option maxHeartbeats 8000000 in
theorem fit20_calls (m : Man) (A : Option Addr) (c : Nat) (w : World) (hinf : Infs w A m.blocks.length m.blocks) (hlen : m.blocks.length ≤ 3518437208780) :
    Calls Tryz.prog 14 #[.agg (manV m (.slice A m.blocks.length c))] w fun e w' => e = .returned (.bool m.fit) ∧ Below w.heap.size w w' := by
  obtain ⟨b, hb⟩ : ∃ b, w.heap.size = b := ⟨_, rfl⟩
  obtain ⟨W, hW⟩ : ∃ W, w.alloc (.cells (manV m (.slice A m.blocks.length c)) 38) = W := ⟨_, rfl⟩
  have hbl : Below w.heap.size w W := by rw [← hW]; exact (Below.refl _ _).alloc (Nat.le_refl _) _
  have HK : Hid (Blk W b 38 (manV m (.slice A m.blocks.length c))) := Lib.hid (by rw [← hW, ← hb]; exact Blk.new _ _ _)
  have HI := Lib.hid (hinf.below hbl)
  have HW := Lib.hid hW
  have HG := Lib.hid hb
  have HB := Lib.hid hbl
  have HL := Lib.hid hlen
  clear hW hb hbl hinf hlen
  go_enter Tryz.func14, Tryz.ntmps14
  go_upto_region 1 with fail
  have hW2 := HW.out
  have hg2 := HG.out
  rw [hW2, hg2]
  clear hW2 hg2
  have x0 : W.cell? ⟨b, 0, none⟩ = some (.int .i64 m.w0) := HK.out.cell 0
  have x1 : W.cell? ⟨b, 1, none⟩ = some (.int .i64 m.w1) := HK.out.cell 1
  have x2 : W.cell? ⟨b, 2, none⟩ = some (.int .i64 m.w2) := HK.out.cell 2
  have x3 : W.cell? ⟨b, 3, none⟩ = some (.int .i64 m.next) := HK.out.cell 3
  have x4 : W.cell? ⟨b, 4, none⟩ = some (.int .i64 m.log) := HK.out.cell 4
  have x5 : W.cell? ⟨b, 5, none⟩ = some ((.slice A m.blocks.length c)) := HK.out.cell 5
  have x6 : W.cell? ⟨b, 6, none⟩ = some (.int .i64 m.cut) := HK.out.cell 6
  have x7 : W.cell? ⟨b, 7, none⟩ = some (.int .i64 m.r0) := HK.out.cell 7
  have x8 : W.cell? ⟨b, 8, none⟩ = some (.int .i64 m.r1) := HK.out.cell 8
  have x9 : W.cell? ⟨b, 9, none⟩ = some (.int .i64 m.r2) := HK.out.cell 9
  have x10 : W.cell? ⟨b, 10, none⟩ = some (.int .i64 m.l0) := HK.out.cell 10
  have x11 : W.cell? ⟨b, 11, none⟩ = some (.int .i64 m.l1) := HK.out.cell 11
  have x12 : W.cell? ⟨b, 12, none⟩ = some (.int .i64 m.l2) := HK.out.cell 12
  obtain ⟨tc, htc⟩ : ∃ t, timeB m.cut = t := ⟨_, rfl⟩
  have HT := Lib.hid (time20_calls m.cut W)
  rw [htc] at HT
  have HTC := Lib.hid htc
  clear htc
  go_wp2_with fail
  refine HT.out.mono ?_
  rintro e w1 ⟨rfl, rfl⟩
  have BAD : (¬ (timeB m.cut = true ∧ 1 ≤ m.next ∧ m.next ≤ 99999999 ∧ 1 ≤ m.log ∧ m.log ≤ 99999999)) → m.fit = false := fun h => fit_false (fun hf => h ⟨((fit_iff20 m).mp hf).1, ((fit_iff20 m).mp hf).2.1⟩)
  have HBAD := Lib.hid BAD
  clear BAD
  cases tc with
  | false =>
    go_wp2_with fail
    go_ret
    rw [HBAD.out (fun h => by rw [HTC.out] at h; cases h.1)]
    exact ⟨rfl, HB.out⟩
  | true =>
    by_cases q1 : m.next < 1
    · have d1 : decide (m.next < 1) = true := by simp [q1]
      go_wp2_with fail
      go_ret
      rw [HBAD.out (fun h => by omega)]
      exact ⟨rfl, HB.out⟩
    have d1 : decide (m.next < 1) = false := by simp [q1]
    by_cases q2 : 99999999 < m.next
    · have d2 : decide (99999999 < m.next) = true := by simp [q2]
      go_wp2_with fail
      go_ret
      rw [HBAD.out (fun h => by omega)]
      exact ⟨rfl, HB.out⟩
    have d2 : decide (99999999 < m.next) = false := by simp [q2]
    by_cases q3 : m.log < 1
    · have d3 : decide (m.log < 1) = true := by simp [q3]
      go_wp2_with fail
      go_ret
      rw [HBAD.out (fun h => by omega)]
      exact ⟨rfl, HB.out⟩
    have d3 : decide (m.log < 1) = false := by simp [q3]
    by_cases q4 : 99999999 < m.log
    · have d4 : decide (99999999 < m.log) = true := by simp [q4]
      go_wp2_with fail
      go_ret
      rw [HBAD.out (fun h => by omega)]
      exact ⟨rfl, HB.out⟩
    have d4 : decide (99999999 < m.log) = false := by simp [q4]
    go_upto_block 0 with fail
    have HQ : Hid (timeB m.cut = true ∧ 1 ≤ m.next ∧ m.next ≤ 99999999 ∧ 1 ≤ m.log ∧ m.log ≤ 99999999) := Lib.hid ⟨HTC.out, by omega⟩
    have HBADA : Hid (∀ i, i < 3 → ¬ Arr m i → m.fit = false) := Lib.hid fun i hi h => fit_false (fun hf => h (((fit_iff20 m).mp hf).2.2.1 i hi))
    clear d1 d2 d3 d4 q1 q2 q3 q4
    go_cut [] (fun wz => wz = W ∧ ∀ i, i < 3 → Arr m i)
    case first =>
      go_wp2_with fail
      go_loopg [4] 3 (fun g s4 wr => ∃ i : Nat, i + g = 3 ∧ s4 = .int .i64 (i : Int) ∧ wr = W ∧ ∀ j, j < i → Arr m j)
      case atStart => exact ⟨0, rfl, rfl, rfl, fun j hj => absurd hj (by omega)⟩
      case round =>
        obtain ⟨i, hig, rfl, rfl, ha⟩ := hrel
        have HIG := Lib.hid hig
        have HAR := Lib.hid ha
        clear hig ha
        by_cases hi : i < 3
        · have el : decide ((i : Int) < 3) = true := by simp; omega
          rcases (by omega : i = 0 ∨ i = 1 ∨ i = 2) with rfl | rfl | rfl
          · -- round 0
            rw [show ((0 : Nat) : Int) = 0 from rfl] at *
            obtain ⟨tr, htr⟩ : ∃ t, timeB m.r0 = t := ⟨_, rfl⟩
            obtain ⟨tl, htl⟩ : ∃ t, timeB m.l0 = t := ⟨_, rfl⟩
            have HT1 := Lib.hid (time20_calls m.r0 wr)
            have HT2 := Lib.hid (time20_calls m.l0 wr)
            rw [htr] at HT1
            rw [htl] at HT2
            have HTR : Hid (timeB (rI m 0) = tr) := Lib.hid htr
            have HTL : Hid (timeB (lI m 0) = tl) := Lib.hid htl
            clear htr htl
            go_wp2_with fail
            refine HT1.out.mono ?_
            rintro e w1 ⟨rfl, rfl⟩
            go_wp2_with fail
            refine HT2.out.mono ?_
            rintro e w2 ⟨rfl, rfl⟩
            cases tr with
            | false =>
              go_wp2_with fail
              go_ret
              rw [HBADA.out 0 (by omega) (fun h => by have h1 := h.1; rw [HTR.out] at h1; cases h1)]
              exact ⟨rfl, HB.out⟩
            | true =>
              cases tl with
              | false =>
                go_wp2_with fail
                go_ret
                rw [HBADA.out 0 (by omega) (fun h => by have h1 := h.2.1; rw [HTL.out] at h1; cases h1)]
                exact ⟨rfl, HB.out⟩
              | true =>
                by_cases q1 : m.w0 < 1
                · have d1 : decide (m.w0 < 1) = true := by simp [q1]
                  go_wp2_with fail
                  go_ret
                  rw [HBADA.out 0 (by omega) (fun h => by have h1 : 1 ≤ m.w0 := h.2.2.1; omega)]
                  exact ⟨rfl, HB.out⟩
                have d1 : decide (m.w0 < 1) = false := by simp [q1]
                by_cases q2 : 1099511627776 < m.w0
                · have d2 : decide (1099511627776 < m.w0) = true := by simp [q2]
                  go_wp2_with fail
                  go_ret
                  rw [HBADA.out 0 (by omega) (fun h => by have h1 : m.w0 ≤ 1099511627776 := h.2.2.2; omega)]
                  exact ⟨rfl, HB.out⟩
                have d2 : decide (1099511627776 < m.w0) = false := by simp [q2]
                go_wp2_with fail
                go_roundg (gk - 1)
                case measure => have := HIG.out; omega
                case rel =>
                  refine ⟨1, by have := HIG.out; omega, by go_num, rfl, fun j hj => ?_⟩
                  rcases Nat.lt_or_ge j 0 with h | h
                  · exact HAR.out j h
                  · obtain rfl : j = 0 := by omega
                    exact ⟨HTR.out, HTL.out, by show 1 ≤ m.w0; omega, by show m.w0 ≤ _; omega⟩
          · -- round 1
            rw [show ((1 : Nat) : Int) = 1 from rfl] at *
            obtain ⟨tr, htr⟩ : ∃ t, timeB m.r1 = t := ⟨_, rfl⟩
            obtain ⟨tl, htl⟩ : ∃ t, timeB m.l1 = t := ⟨_, rfl⟩
            have HT1 := Lib.hid (time20_calls m.r1 wr)
            have HT2 := Lib.hid (time20_calls m.l1 wr)
            rw [htr] at HT1
            rw [htl] at HT2
            have HTR : Hid (timeB (rI m 1) = tr) := Lib.hid htr
            have HTL : Hid (timeB (lI m 1) = tl) := Lib.hid htl
            clear htr htl
            go_wp2_with fail
            refine HT1.out.mono ?_
            rintro e w1 ⟨rfl, rfl⟩
            go_wp2_with fail
            refine HT2.out.mono ?_
            rintro e w2 ⟨rfl, rfl⟩
            cases tr with
            | false =>
              go_wp2_with fail
              go_ret
              rw [HBADA.out 1 (by omega) (fun h => by have h1 := h.1; rw [HTR.out] at h1; cases h1)]
              exact ⟨rfl, HB.out⟩
            | true =>
              cases tl with
              | false =>
                go_wp2_with fail
                go_ret
                rw [HBADA.out 1 (by omega) (fun h => by have h1 := h.2.1; rw [HTL.out] at h1; cases h1)]
                exact ⟨rfl, HB.out⟩
              | true =>
                by_cases q1 : m.w1 < 1
                · have d1 : decide (m.w1 < 1) = true := by simp [q1]
                  go_wp2_with fail
                  go_ret
                  rw [HBADA.out 1 (by omega) (fun h => by have h1 : 1 ≤ m.w1 := h.2.2.1; omega)]
                  exact ⟨rfl, HB.out⟩
                have d1 : decide (m.w1 < 1) = false := by simp [q1]
                by_cases q2 : 1099511627776 < m.w1
                · have d2 : decide (1099511627776 < m.w1) = true := by simp [q2]
                  go_wp2_with fail
                  go_ret
                  rw [HBADA.out 1 (by omega) (fun h => by have h1 : m.w1 ≤ 1099511627776 := h.2.2.2; omega)]
                  exact ⟨rfl, HB.out⟩
                have d2 : decide (1099511627776 < m.w1) = false := by simp [q2]
                go_wp2_with fail
                go_roundg (gk - 1)
                case measure => have := HIG.out; omega
                case rel =>
                  refine ⟨2, by have := HIG.out; omega, by go_num, rfl, fun j hj => ?_⟩
                  rcases Nat.lt_or_ge j 1 with h | h
                  · exact HAR.out j h
                  · obtain rfl : j = 1 := by omega
                    exact ⟨HTR.out, HTL.out, by show 1 ≤ m.w1; omega, by show m.w1 ≤ _; omega⟩
          · -- round 2
            rw [show ((2 : Nat) : Int) = 2 from rfl] at *
            obtain ⟨tr, htr⟩ : ∃ t, timeB m.r2 = t := ⟨_, rfl⟩
            obtain ⟨tl, htl⟩ : ∃ t, timeB m.l2 = t := ⟨_, rfl⟩
            have HT1 := Lib.hid (time20_calls m.r2 wr)
            have HT2 := Lib.hid (time20_calls m.l2 wr)
            rw [htr] at HT1
            rw [htl] at HT2
            have HTR : Hid (timeB (rI m 2) = tr) := Lib.hid htr
            have HTL : Hid (timeB (lI m 2) = tl) := Lib.hid htl
            clear htr htl
            go_wp2_with fail
            refine HT1.out.mono ?_
            rintro e w1 ⟨rfl, rfl⟩
            go_wp2_with fail
            refine HT2.out.mono ?_
            rintro e w2 ⟨rfl, rfl⟩
            cases tr with
            | false =>
              go_wp2_with fail
              go_ret
              rw [HBADA.out 2 (by omega) (fun h => by have h1 := h.1; rw [HTR.out] at h1; cases h1)]
              exact ⟨rfl, HB.out⟩
            | true =>
              cases tl with
              | false =>
                go_wp2_with fail
                go_ret
                rw [HBADA.out 2 (by omega) (fun h => by have h1 := h.2.1; rw [HTL.out] at h1; cases h1)]
                exact ⟨rfl, HB.out⟩
              | true =>
                by_cases q1 : m.w2 < 1
                · have d1 : decide (m.w2 < 1) = true := by simp [q1]
                  go_wp2_with fail
                  go_ret
                  rw [HBADA.out 2 (by omega) (fun h => by have h1 : 1 ≤ m.w2 := h.2.2.1; omega)]
                  exact ⟨rfl, HB.out⟩
                have d1 : decide (m.w2 < 1) = false := by simp [q1]
                by_cases q2 : 1099511627776 < m.w2
                · have d2 : decide (1099511627776 < m.w2) = true := by simp [q2]
                  go_wp2_with fail
                  go_ret
                  rw [HBADA.out 2 (by omega) (fun h => by have h1 : m.w2 ≤ 1099511627776 := h.2.2.2; omega)]
                  exact ⟨rfl, HB.out⟩
                have d2 : decide (1099511627776 < m.w2) = false := by simp [q2]
                go_wp2_with fail
                go_roundg (gk - 1)
                case measure => have := HIG.out; omega
                case rel =>
                  refine ⟨3, by have := HIG.out; omega, by go_num, rfl, fun j hj => ?_⟩
                  rcases Nat.lt_or_ge j 2 with h | h
                  · exact HAR.out j h
                  · obtain rfl : j = 2 := by omega
                    exact ⟨HTR.out, HTL.out, by show 1 ≤ m.w2; omega, by show m.w2 ≤ _; omega⟩
        · have el : decide ((i : Int) < 3) = false := by simp; omega
          have hi3 : i = 3 := by have := HIG.out; omega
          subst hi3
          go_wp2_with fail
          go_meet
          exact ⟨rfl, HAR.out⟩
    case rest =>
      obtain ⟨rfl, har⟩ := hcut
      obtain ⟨W, rfl⟩ : ∃ x, x = wc := ⟨_, rfl⟩
      have HAR := Lib.hid har
      clear har
      clear x0 x1 x2 x3 x4 x5 x6 x7 x8 x9 x10 x11 x12
      obtain ⟨n, hn⟩ : ∃ n, m.blocks.length = n := ⟨_, rfl⟩
      have HN := Lib.hid hn
      have hn40 : n ≤ 3518437208780 := by rw [← hn]; exact HL.out
      rw [hn] at HK
      clear hn
      go_wp2_with fail
      go_loopg [7] n (fun g s7 wr => ∃ i : Nat, i + g = n ∧ s7 = .int .i64 (i : Int) ∧ Below W.heap.size W wr ∧ ∀ j, j < i → Good m.next m.blocks j)
      case atStart => exact ⟨0, by omega, rfl, Below.refl _ _, fun j hj => absurd hj (by omega)⟩
      case round =>
        obtain ⟨i, hig, rfl, hf, hg⟩ := hrel
        have HIG := Lib.hid hig
        have HF2 := Lib.hid hf
        have HGD := Lib.hid hg
        have HKR := Lib.hid (HK.out.below hf HK.out.lt)
        have mb : wr.cell? ⟨b, 5, none⟩ = some (.slice A n c) := HKR.out.cell 5
        clear hig hf hg
        by_cases hi : i < n
        · have el : decide ((i : Int) < (n : Int)) = true := by simp; omega
          have e0 : (i : Int) < (n : Int) := by omega
          have e1 : (0 : Int) ≤ (i : Int) := by omega
          have hI2 : Infs wr A m.blocks.length m.blocks := HI.out.below HF2.out
          obtain ⟨bb, off, rfl, hbl, kc⟩ := hI2.at_ (i := i) (by rw [HN.out]; exact hi)
          have m0 : wr.cell? ⟨bb, off + i * 5, none⟩ = _ := kc 0 _ rfl
          have m1 := kc 1 _ rfl
          have m2 := kc 2 _ rfl
          have m3 := kc 3 _ rfl
          have m4 := kc 4 _ rfl
          have hgood : Good m.next m.blocks i ↔ infB m.next m.blocks[i]! = true ∧ (0 < i → m.blocks[i - 1]!.id < m.blocks[i]!.id) := Iff.rfl
          have hpre : 0 < i → ∃ k, i = k + 1 ∧ wr.cell? ⟨bb, off + k * 5, none⟩ = some (.int .i64 m.blocks[i - 1]!.id) := fun hp => by
            obtain ⟨k, rfl⟩ : ∃ k, i = k + 1 := ⟨i - 1, by omega⟩
            obtain ⟨bb2, off2, he, _, kc2⟩ := hI2.at_ (i := k) (by rw [HN.out]; omega)
            injection he with he
            injection he with he1 he2
            subst he1 he2
            exact ⟨k, rfl, kc2 0 _ rfl⟩
          have HPRE := Lib.hid hpre
          have HGOOD := Lib.hid hgood
          obtain ⟨x, hx⟩ : ∃ x, m.blocks[i]! = x := ⟨_, rfl⟩
          have HX := Lib.hid hx
          simp only [hx] at m0 m1 m2 m3 m4
          clear hI2 kc hgood hpre hx
          go_upto_region 15 with fail
          obtain ⟨W2, hW2⟩ : ∃ X, wr.alloc (.cells #[.int .i64 x.id, .int .i64 x.res, .int .i64 x.frm, .int .i64 x.to_, .int .i64 x.bytes] 130) = X := ⟨_, rfl⟩
          have hb2 : Below wr.heap.size wr W2 := by rw [← hW2]; exact (Below.refl _ _).alloc (Nat.le_refl _) _
          have HW5 : Hid (Below W.heap.size W W2) := Lib.hid (HF2.out.trans (hb2.mono HF2.out.size))
          have HF5 : Hid (Below w.heap.size w W2) := Lib.hid (HB.out.trans (HW5.out.mono HB.out.size))
          have HK5 : Hid (Blk W2 b 38 (manV m (.slice (some ⟨bb, off, none⟩) n c))) := Lib.hid (HKR.out.below hb2 HKR.out.lt)
          have kx : Blk W2 wr.heap.size 130 #[.int .i64 x.id, .int .i64 x.res, .int .i64 x.frm, .int .i64 x.to_, .int .i64 x.bytes] := by rw [← hW2]; exact Blk.new wr _ _
          have HPRE2 : Hid (0 < i → ∃ k, i = k + 1 ∧ W2.cell? ⟨bb, off + k * 5, none⟩ = some (.int .i64 m.blocks[i - 1]!.id)) := Lib.hid (fun hp => by
            obtain ⟨k, h1, h2⟩ := HPRE.out hp
            refine ⟨k, h1, ?_⟩
            rw [← hW2, World.cell?_of_block (Below.heap_alloc _ _ _ hbl)]
            exact h2)
          rw [hW2]
          clear hW2 m0 m1 m2 m3 m4 mb HPRE hb2
          obtain ⟨Q, hQ⟩ : ∃ Q, wr.heap.size = Q := ⟨_, rfl⟩
          rw [hQ] at kx ⊢
          have m0 := kx.cell 0
          have m1 := kx.cell 1
          have m2 := kx.cell 2
          have m3 := kx.cell 3
          have m4 := kx.cell 4
          simp at m0 m1 m2 m3 m4
          have mn : W2.cell? ⟨b, 3, none⟩ = some (.int .i64 m.next) := HK5.out.cell 3
          have mb : W2.cell? ⟨b, 5, none⟩ = some (.slice (some ⟨bb, off, none⟩) n c) := HK5.out.cell 5
          obtain ⟨nx, hnx⟩ : ∃ v, m.next = v := ⟨_, rfl⟩
          have HNX := Lib.hid hnx
          rw [hnx] at mn
          clear kx hbl hQ hnx
          by_cases q1 : x.id < 1
          · have d1 : decide (x.id < 1) = true := by simp [q1]
            go_wp2_with fail
            go_ret
            refine ⟨?_, HF5.out⟩
            rw [fit_false (fun hfit => by
              have hh := HGOOD.out.mp (((fit_iff20 m).mp hfit).2.2.2 i (by rw [HN.out]; exact hi))
              rw [HX.out, HNX.out] at hh
              unfold infB at hh
              simp only [Bool.and_eq_true, decide_eq_true_eq] at hh
              omega)]
            rfl
          have d1 : decide (x.id < 1) = false := by simp [q1]
          by_cases q2 : nx ≤ x.id
          · have d2 : decide (nx ≤ x.id) = true := by simp [q2]
            go_wp2_with fail
            go_ret
            refine ⟨?_, HF5.out⟩
            rw [fit_false (fun hfit => by
              have hh := HGOOD.out.mp (((fit_iff20 m).mp hfit).2.2.2 i (by rw [HN.out]; exact hi))
              rw [HX.out, HNX.out] at hh
              unfold infB at hh
              simp only [Bool.and_eq_true, decide_eq_true_eq] at hh
              omega)]
            rfl
          have d2 : decide (nx ≤ x.id) = false := by simp [q2]
          by_cases q3 : x.res < 0
          · have d3 : decide (x.res < 0) = true := by simp [q3]
            go_wp2_with fail
            go_ret
            refine ⟨?_, HF5.out⟩
            rw [fit_false (fun hfit => by
              have hh := HGOOD.out.mp (((fit_iff20 m).mp hfit).2.2.2 i (by rw [HN.out]; exact hi))
              rw [HX.out, HNX.out] at hh
              unfold infB at hh
              simp only [Bool.and_eq_true, decide_eq_true_eq] at hh
              omega)]
            rfl
          have d3 : decide (x.res < 0) = false := by simp [q3]
          by_cases q4 : 2 < x.res
          · have d4 : decide (2 < x.res) = true := by simp [q4]
            go_wp2_with fail
            go_ret
            refine ⟨?_, HF5.out⟩
            rw [fit_false (fun hfit => by
              have hh := HGOOD.out.mp (((fit_iff20 m).mp hfit).2.2.2 i (by rw [HN.out]; exact hi))
              rw [HX.out, HNX.out] at hh
              unfold infB at hh
              simp only [Bool.and_eq_true, decide_eq_true_eq] at hh
              omega)]
            rfl
          have d4 : decide (2 < x.res) = false := by simp [q4]
          by_cases q5 : x.frm < 0
          · have d5 : decide (x.frm < 0) = true := by simp [q5]
            go_wp2_with fail
            go_ret
            refine ⟨?_, HF5.out⟩
            rw [fit_false (fun hfit => by
              have hh := HGOOD.out.mp (((fit_iff20 m).mp hfit).2.2.2 i (by rw [HN.out]; exact hi))
              rw [HX.out, HNX.out] at hh
              unfold infB at hh
              simp only [Bool.and_eq_true, decide_eq_true_eq] at hh
              omega)]
            rfl
          have d5 : decide (x.frm < 0) = false := by simp [q5]
          by_cases q6 : x.to_ ≤ x.frm
          · have d6 : decide (x.to_ ≤ x.frm) = true := by simp [q6]
            go_wp2_with fail
            go_ret
            refine ⟨?_, HF5.out⟩
            rw [fit_false (fun hfit => by
              have hh := HGOOD.out.mp (((fit_iff20 m).mp hfit).2.2.2 i (by rw [HN.out]; exact hi))
              rw [HX.out, HNX.out] at hh
              unfold infB at hh
              simp only [Bool.and_eq_true, decide_eq_true_eq] at hh
              omega)]
            rfl
          have d6 : decide (x.to_ ≤ x.frm) = false := by simp [q6]
          by_cases q7 : 1125899906842625 < x.to_
          · have d7 : decide (1125899906842625 < x.to_) = true := by simp [q7]
            go_wp2_with fail
            go_ret
            refine ⟨?_, HF5.out⟩
            rw [fit_false (fun hfit => by
              have hh := HGOOD.out.mp (((fit_iff20 m).mp hfit).2.2.2 i (by rw [HN.out]; exact hi))
              rw [HX.out, HNX.out] at hh
              unfold infB at hh
              simp only [Bool.and_eq_true, decide_eq_true_eq] at hh
              omega)]
            rfl
          have d7 : decide (1125899906842625 < x.to_) = false := by simp [q7]
          by_cases q8 : x.bytes < 0
          · have d8 : decide (x.bytes < 0) = true := by simp [q8]
            go_wp2_with fail
            go_ret
            refine ⟨?_, HF5.out⟩
            rw [fit_false (fun hfit => by
              have hh := HGOOD.out.mp (((fit_iff20 m).mp hfit).2.2.2 i (by rw [HN.out]; exact hi))
              rw [HX.out, HNX.out] at hh
              unfold infB at hh
              simp only [Bool.and_eq_true, decide_eq_true_eq] at hh
              omega)]
            rfl
          have d8 : decide (x.bytes < 0) = false := by simp [q8]
          go_upto_region 17 with fail
          by_cases q9 : 0 < i
          · have d9 : decide ((0 : Int) < (i : Int)) = true := by simp; omega
            obtain ⟨k, hk, mp⟩ := HPRE2.out q9
            obtain ⟨y, hy⟩ : ∃ y, m.blocks[i - 1]!.id = y := ⟨_, rfl⟩
            rw [hy] at mp
            have HY := Lib.hid hy
            have ik : (i : Int) - 1 = (k : Int) := by omega
            have k0 : (0 : Int) ≤ (k : Int) := by omega
            have k1 : (k : Int) < (n : Int) := by omega
            have k2 : k < n := by omega
            clear hy
            by_cases q10 : x.id ≤ y
            · have d10 : decide (x.id ≤ y) = true := by simp [q10]
              go_region
              go_wp2_with fail
              go_ret
              refine ⟨?_, HF5.out.drew⟩
              rw [fit_false (fun hfit => by
                have hh := HGOOD.out.mp (((fit_iff20 m).mp hfit).2.2.2 i (by rw [HN.out]; exact hi))
                rw [HX.out] at hh
                have hyy := HY.out
                have := hh.2 q9
                omega)]
              rfl
            have d10 : decide (x.id ≤ y) = false := by simp [q10]
            go_region
            go_wp2_with fail
            go_roundg (gk - 1)
            case measure => have := HIG.out; omega
            case rel =>
              refine ⟨i + 1, by have := HIG.out; omega, by go_num, HW5.out.drew, fun j hj => ?_⟩
              rcases Nat.lt_or_ge j i with h | h
              · exact HGD.out j h
              · obtain rfl : j = i := by omega
                refine HGOOD.out.mpr ?_
                rw [HX.out, HNX.out]
                unfold infB
                simp only [Bool.and_eq_true, decide_eq_true_eq]
                try have hyy := HY.out
                omega
          · have d9 : decide ((0 : Int) < (i : Int)) = false := by simp; omega
            go_region
            go_wp2_with fail
            go_roundg (gk - 1)
            case measure => have := HIG.out; omega
            case rel =>
              refine ⟨i + 1, by have := HIG.out; omega, by go_num, HW5.out.drew, fun j hj => ?_⟩
              rcases Nat.lt_or_ge j i with h | h
              · exact HGD.out j h
              · obtain rfl : j = i := by omega
                refine HGOOD.out.mpr ?_
                rw [HX.out, HNX.out]
                unfold infB
                simp only [Bool.and_eq_true, decide_eq_true_eq]
                try have hyy := HY.out
                omega
        · have el : decide ((i : Int) < (n : Int)) = false := by simp; omega
          have hi3 : i = n := by have := HIG.out; omega
          subst hi3
          go_wp2_with fail
          go_ret
          have hfit : m.fit = true := (fit_iff20 m).mpr ⟨HQ.out.1, HQ.out.2, HAR.out, by rw [HN.out]; exact HGD.out⟩
          rw [hfit]
          exact ⟨rfl, HB.out.trans (HF2.out.mono HB.out.size)⟩
end Go.Proofs.YtfpgbhimgfdddaaGreatDoor

/- Opening a manifest (layer 20's laws). -/
namespace Go.Proofs.YtfpgbhimgfdddaaGreatDoor
open Go.ChangeShapes Go.WideShapes Go.ChangeAt Go.RowKit Go.Deep
theorem cells_i64 : Tryz.prog.cellsOf 2 = 1 := by kernel_rfl
theorem cells_intT : Tryz.prog.cellsOf 3 = 1 := by kernel_rfl
theorem cells_arr3 : Tryz.prog.cellsOf 22 = 3 := by kernel_rfl
theorem cells_inf : Tryz.prog.cellsOf 116 = 5 := by kernel_rfl
theorem bytes_inf : Tryz.prog.bytesOf 116 = 40 := by kernel_rfl
theorem cells_sinf : Tryz.prog.cellsOf 23 = 1 := by kernel_rfl
theorem cells_man : Tryz.prog.cellsOf 25 = 13 := by kernel_rfl
section
variable {H : Type} {enc : TypeId × Value → H} {w : World} {base : Nat} {spare : Nat → Bool} {held : Bool}
set_option maxRecDepth 100000 in
theorem open_arr3 {fuel : Nat} {c0 c1 c2 : Value} {x : DataW H × List MemPlace} (h : DataW.trod enc Tryz.prog w base spare held fuel 22 [c0, c1, c2] = some x) : ∃ a b c : Int, c0 = .int .i64 a ∧ c1 = .int .i64 b ∧ c2 = .int .i64 c ∧ i64 a ∧ i64 b ∧ i64 c := by
  obtain ⟨xs, m, _, _, _, hl, hg⟩ := DataW.trod_array Tryz.underlying22 h
  rw [cells_i64] at hg
  match xs, hl with
  | [x0, x1, x2], _ =>
    have g0 := hg 0 (by omega)
    have g1 := hg 1 (by omega)
    have g2 := hg 2 (by omega)
    simp at g0 g1 g2
    obtain ⟨a, e0, _, wa⟩ := DataW.trod_int Tryz.underlying2 g0
    obtain ⟨b, e1, _, wb⟩ := DataW.trod_int Tryz.underlying2 g1
    obtain ⟨c, e2, _, wc⟩ := DataW.trod_int Tryz.underlying2 g2
    simp at e0 e1 e2
    exact ⟨a, b, c, e0, e1, e2, wf_i64 wa, wf_i64 wb, wf_i64 wc⟩
set_option maxRecDepth 100000 in
theorem open_inf {fuel : Nat} {l : List Value} {x : DataW H × List MemPlace} (h : DataW.trod enc Tryz.prog w base spare held fuel 116 l = some x) : ∃ y : Inf, l = encInf y ∧ ∀ v ∈ y.nums, i64 v := by
  obtain ⟨xs, n, _, hx, hcl, hlen, hg⟩ := DataW.trod_struct Tryz.underlying116 h
  rw [cells_inf] at hcl
  match l, hcl, xs, hlen with
  | [c0, c1, c2, c3, c4], _, [x0, x1, x2, x3, x4], _ =>
    have g0 := hg 0 _ rfl
    have g1 := hg 1 _ rfl
    have g2 := hg 2 _ rfl
    have g3 := hg 3 _ rfl
    have g4 := hg 4 _ rfl
    simp [cells_i64, cells_intT] at g0 g1 g2 g3 g4
    obtain ⟨a, e0, _, wa⟩ := DataW.trod_int Tryz.underlying3 g0
    obtain ⟨b, e1, _, wb⟩ := DataW.trod_int Tryz.underlying3 g1
    obtain ⟨c, e2, _, wc⟩ := DataW.trod_int Tryz.underlying2 g2
    obtain ⟨d, e3, _, wd⟩ := DataW.trod_int Tryz.underlying2 g3
    obtain ⟨e, e4, _, we⟩ := DataW.trod_int Tryz.underlying3 g4
    simp at e0 e1 e2 e3 e4
    subst e0 e1 e2 e3 e4
    refine ⟨⟨a, b, c, d, e⟩, rfl, fun v hv => ?_⟩
    simp only [Inf.nums, List.mem_cons, List.not_mem_nil, or_false] at hv
    rcases hv with rfl | rfl | rfl | rfl | rfl
    · exact wf_i64 wa
    · exact wf_i64 wb
    · exact wf_i64 wc
    · exact wf_i64 wd
    · exact wf_i64 we
theorem open_infs {fuel : Nat} {v : Value} {x : DataW H × List MemPlace} (h : DataW.trod enc Tryz.prog w base spare held fuel 23 [v] = some x) :
    ∃ A n c l, v = .slice A n c ∧ (A = none → c = 0) ∧ n ≤ c ∧ Infs w A n l ∧ (Light Tryz.prog 23 x.1 → n * 40 ≤ 140737488351232 ∧ ∀ s ∈ l, ∀ v ∈ s.nums, i64 v) := by
  obtain ⟨A, n, c, l, rfl, h1, h2, h3, h4, _⟩ := open_row (ea := encInf) (Q := fun _ s => ∀ v ∈ s.nums, i64 v) Tryz.underlying23 cells_inf (by omega) (fun _ => rfl) (fun _ _ _ h => open_inf h) h
  refine ⟨A, n, c, l, rfl, h1, h2, h3, fun hL => ?_⟩
  obtain ⟨h5, h6⟩ := h4 hL
  rw [bytes_inf] at h5
  exact ⟨h5, fun s hs => by obtain ⟨d, _, hd⟩ := h6 s hs; exact hd⟩
set_option maxRecDepth 100000 in
theorem open_man {r : Reach} {b0 : Nat} {v : Value} {d : DataW H} {ps : List MemPlace} (hv : Value.okWide Tryz.prog w r b0 25 v) (h : DataW.Trod enc Tryz.prog w base spare held 25 v d ps) :
    ∃ (m : Man) (A : Option Addr) (c : Nat), v = .agg (manV m (.slice A m.blocks.length c)) ∧ Infs w A m.blocks.length m.blocks ∧ (Light (H := H) Tryz.prog 25 d → m.blocks.length ≤ 3518437208780 ∧ m.small) := by
  obtain ⟨cs, rfl, hsz⟩ := okWide_struct Tryz.underlying25 hv
  obtain ⟨l⟩ := cs
  obtain ⟨fuel, hf⟩ := h
  obtain ⟨xs, n, _, hx, hcl, hlen, hg⟩ := DataW.trod_struct Tryz.underlying25 hf
  rw [cells_man] at hcl
  have hcl2 : l.length = 13 := by simpa [Value.cells] using hcl
  match l, hcl2, xs, hlen with
  | [c0, c1, c2, c3, c4, c5, c6, c7, c8, c9, c10, c11, c12], _, [x0, x1, x2, x3, x4, x5, x6], _ =>
    have g0 := hg 0 _ rfl
    have g1 := hg 1 _ rfl
    have g2 := hg 2 _ rfl
    have g3 := hg 3 _ rfl
    have g4 := hg 4 _ rfl
    have g5 := hg 5 _ rfl
    have g6 := hg 6 _ rfl
    simp [cells_i64, cells_intT, cells_arr3, cells_sinf, Value.cells] at g0 g1 g2 g3 g4 g5 g6
    obtain ⟨w0, w1, w2, rfl, rfl, rfl, i0, i1, i2⟩ := open_arr3 g0
    obtain ⟨nx, e1, _, inx⟩ := DataW.trod_int Tryz.underlying3 g1
    obtain ⟨lg, e2, _, ilg⟩ := DataW.trod_int Tryz.underlying3 g2
    obtain ⟨A, k, c, bl, rfl, _, _, hbl, hL3⟩ := open_infs g3
    obtain ⟨ct, e4, _, ict⟩ := DataW.trod_int Tryz.underlying2 g4
    obtain ⟨r0, r1, r2, rfl, rfl, rfl, j0, j1, j2⟩ := open_arr3 g5
    obtain ⟨l0, l1, l2, rfl, rfl, rfl, k0, k1, k2⟩ := open_arr3 g6
    simp at e1 e2 e4
    subst e1 e2 e4
    have hk : bl.length = k := Elems.len hbl
    subst hk
    refine ⟨⟨w0, w1, w2, nx, lg, bl, ct, r0, r1, r2, l0, l1, l2⟩, A, c, rfl, hbl, fun hL => ?_⟩
    have hx2 : d = _ := congrArg Prod.fst hx
    rw [hx2] at hL
    obtain ⟨h40, hok⟩ := hL3 (hL.part Tryz.underlying25 (j := 3) rfl rfl)
    refine ⟨by dsimp only; omega, fun v hv => ?_⟩
    simp only [Man.nums, Man.tens, List.mem_append, List.mem_flatMap, List.mem_cons, List.not_mem_nil, or_false] at hv
    have a1 := wf_i64 inx
    have a2 := wf_i64 ilg
    have a3 := wf_i64 ict
    rcases hv with (hv | hv) | ⟨y, hy, hv⟩
    · rcases hv with rfl | rfl | rfl | rfl | rfl | rfl | rfl | rfl | rfl | rfl <;> assumption
    · rcases hv with rfl | rfl | rfl
      · exact a1
      · exact a2
      · unfold i64
        omega
    · exact hok y hy v hv
end
end Go.Proofs.YtfpgbhimgfdddaaGreatDoor
