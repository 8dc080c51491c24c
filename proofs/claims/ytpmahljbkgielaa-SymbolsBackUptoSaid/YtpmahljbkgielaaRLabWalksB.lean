/- The walks of the document's layer 4 (labels): Valid, Encode. -/
import Derived.Test.YtpmahljbkgielaaRLabWalksA
namespace Go.Proofs.Ytpmahljbkgielaa
open Go.RowKit Go.Sort
attribute [local go_sem ↓] Go.wp_at_zero Go.wp_at_succ
attribute [local go_sem] Later.cell Later.frozen

set_option maxRecDepth 100000 in
set_option maxHeartbeats 1000000 in
theorem rvalid_calls (l : List Lb) (A : Option Addr) (n c : Nat) (w : World) (r : Bool) (hr : validB l = r) (hE : Elems w w.heap.size 2 encLb A n l) (hnm : n ≤ 140737488351232) (hz : ∀ x ∈ l, x.n.length ≤ 140737488351232 ∧ x.v.length ≤ 140737488351232) :
    Calls Try.prog 65 #[.slice A n c] w fun e w' => e = .returned (.bool r) ∧ Below w.heap.size w w' := by
  obtain ⟨m, hm⟩ : ∃ m, makeErr l = m := ⟨_, rfl⟩
  have hmk := rmake_calls l A n c w hE hnm hz
  rw [hm] at hmk
  have HMK := Lib.hid hmk
  have HR := Lib.hid hr
  have HM := Lib.hid hm
  clear hmk hr hm hz
  by_cases h0 : m = 0
  · subst h0
    have hok := makeErr_ok HM.out
    have hl := hE.len
    have hn8 : n ≤ 8 := by omega
    have hn0 : 0 < n := by omega
    have hri : r = true ↔ risesN l := by
      rw [← HR.out, validB_iff]
      exact ⟨fun h => h.2, fun h => ⟨HM.out, h⟩⟩
    have hra : r = true → ∀ i, i + 1 < l.length → l[i]!.n < l[i + 1]!.n := by
      intro h i hi
      have hp := (rises_asc hok.2.2.2).1 (hri.1 h)
      have h1 : i + 1 < (names l).length := by simpa [names] using hi
      have := List.pairwise_iff_getElem.1 hp i (i + 1) (by omega) h1 (by omega)
      simp only [names, List.getElem_map] at this
      rw [getElem!_pos l (i + 1) hi, getElem!_pos l i (by omega)]
      exact this
    have HRI := Lib.hid hri
    have HRA := Lib.hid hra
    have HL := Lib.hid hl
    obtain ⟨b, off, rfl, hbl, _⟩ := hE.2 hn0
    clear hri hok hra hl
    go_enter Try.func65, Try.ntmps65
    go_wp2_with fail
    refine HMK.out.mono ?_
    rintro e w1 ⟨⟨v, rfl⟩, hb1⟩
    go_wp2_with fail
    go_loopg [5] n (fun g s5 wr => ∃ i : Nat, s5 = .int .i64 ((i : Int) + 1) ∧ i + 1 + g = n + 1 ∧ Below w.heap.size w wr ∧ ∀ j : Nat, j < i → l[j]!.n < l[j + 1]!.n)
    case atStart => exact ⟨0, rfl, by omega, hb1, fun j hj => by omega⟩
    case round =>
      obtain ⟨i, rfl, hig, hB, hall⟩ := hrel
      have HIG := Lib.hid hig
      have HALL := Lib.hid hall
      clear hall hig
      by_cases hi : i + 1 < n
      · have el : decide ((i : Int) + 1 < (n : Int)) = true := by simp; omega
        have hil : i + 1 < l.length := by have := HL.out; omega
        obtain ⟨_, c0, _⟩ := lab_at hE hn0 hB (i + 1) hil
        obtain ⟨_, d0, _⟩ := lab_at hE hn0 hB i (by omega)
        obtain ⟨x, hx⟩ : ∃ x, l[i + 1]!.n = x := ⟨_, rfl⟩
        obtain ⟨y, hy⟩ : ∃ x, l[i]!.n = x := ⟨_, rfl⟩
        rw [hx] at c0
        rw [hy] at d0
        obtain ⟨X, hX⟩ : ∃ N : ByteArray, (⟨x.toArray⟩ : ByteArray) = N := ⟨_, rfl⟩
        obtain ⟨Y, hY⟩ : ∃ N : ByteArray, (⟨y.toArray⟩ : ByteArray) = N := ⟨_, rfl⟩
        obtain ⟨q1, hls⟩ : ∃ q, Op.bytesLess X.toList Y.toList = q := ⟨_, rfl⟩
        obtain ⟨q2, heq⟩ : ∃ q, (X.toList == Y.toList) = q := ⟨_, rfl⟩
        have hq : (q1 || q2) = true ↔ ¬ y < x := by
          have h1 : q1 = decide (x < y) := by
            rw [← hls, ← hX, less_txt, ← hY]
          have h2 : q2 = decide (x = y) := by
            rw [← heq, ← hX, ← hY, ByteArray.toList_eq, ByteArray.toList_eq, Bool.eq_iff_iff]; simp
          rw [h1, h2, Bool.or_eq_true, decide_eq_true_eq, decide_eq_true_eq]
          constructor
          · rintro (h | rfl)
            · exact List.lt_asymm h
            · exact List.lt_irrefl _
          · intro h
            by_cases h3 : x < y
            · exact .inl h3
            · exact .inr (txt_tri h3 h)
        rw [hX] at c0
        rw [hY] at d0
        have HQ := Lib.hid hq
        have HX := Lib.hid hx
        have HY := Lib.hid hy
        have hbr : b < wr.heap.size := by have := hB.size; omega
        clear hx hy hX hY hq
        go_upto_region 5 with fail
        have z1 : IntKind.i64.wrap ((i : Int) + 1 - 1) = (i : Int) := by rw [show (i : Int) + 1 - 1 = (i : Int) by omega]; exact IntWalk.i64_in _ (by omega)
        have z2 : (0 : Int) ≤ (i : Int) + 1 := by omega
        have z3 : ((i : Int) + 1).toNat = i + 1 := by omega
        have z4 : (i : Int) + 1 < (n : Int) := by omega
        have z5 : (i : Int) < (n : Int) := by omega
        refine wp_region_later (by kernel_rfl) (by kernel_rfl) ?_
        repeat (go_big_quiet_step (fail))
        refine wpQuiet_nil ?_
        rintro w3 ⟨⟨_, hb3⟩, rfl⟩
        clear z1 z2 z3 z4 z5
        have hB3 : Below w.heap.size w w3 := then_ hB hb3
        have bad : (q1 || q2) = true → r = false := by
          intro h
          rw [← Bool.not_eq_true]
          intro hr
          have := HRA.out hr i hil
          rw [HX.out, HY.out] at this
          exact HQ.out.1 h this
        cases q1 with
        | true =>
          obtain rfl := bad rfl
          cases q2 with
          | true =>
            go_wp2_with fail
            go_ret
            exact ⟨rfl, hB3⟩
          | false =>
            go_wp2_with fail
            go_ret
            exact ⟨rfl, hB3⟩
        | false =>
          cases q2 with
          | true =>
            obtain rfl := bad rfl
            go_wp2_with fail
            go_ret
            exact ⟨rfl, hB3⟩
          | false =>
            clear bad
            go_wp2_with fail
            go_roundg (gk - 1)
            case measure => have := HIG.out; omega
            case rel =>
              refine ⟨i + 1, by go_num, by have := HIG.out; omega, hB3, fun j hj => ?_⟩
              by_cases e : j = i
              · subst e
                rw [HX.out, HY.out]
                apply Classical.byContradiction
                intro h
                exact absurd (HQ.out.2 h) (by simp)
              · exact HALL.out j (by omega)
      · have el : decide ((i : Int) + 1 < (n : Int)) = false := by simp; omega
        have hrt : r = true := HRI.out.2 (fun j hj => List.lt_asymm (HALL.out j (by have := HL.out; omega)))
        subst hrt
        go_wp2_with fail
        go_ret
        exact ⟨rfl, hB⟩
  · have hrf : r = false := by
      rw [← HR.out, ← Bool.not_eq_true, validB_iff]
      rintro ⟨h, _⟩
      exact h0 (by rw [← HM.out]; exact h)
    subst hrf
    have em : ((m : Int) == 0) = false := by rw [beq_eq_false_iff_ne]; omega
    clear h0
    go_enter Try.func65, Try.ntmps65
    go_wp2_with fail
    refine HMK.out.mono ?_
    rintro e w1 ⟨⟨v, rfl⟩, hb1⟩
    go_wp2_with fail
    go_loopg [5] 1 (fun g s5 wr => wr = w1 ∧ s5 = .int .i64 1 ∧ g = 1)
    case atStart => exact ⟨rfl, rfl, rfl⟩
    case round =>
      obtain ⟨rfl, rfl, _⟩ := hrel
      by_cases hn : 1 < n
      · have el : decide ((1 : Int) < (n : Int)) = true := by simp; omega
        go_wp2_with fail
        go_ret
        exact ⟨rfl, hb1⟩
      · have el : decide ((1 : Int) < (n : Int)) = false := by simp; omega
        go_wp2_with fail
        go_ret
        exact ⟨rfl, hb1⟩

set_option maxRecDepth 100000 in
set_option maxHeartbeats 1000000 in
theorem rencode_calls (l : List Lb) (A : Option Addr) (n c : Nat) (w : World) (hE : Elems w w.heap.size 2 encLb A n l) (hnm : n ≤ 140737488351232) (hz : ∀ x ∈ l, x.n.length ≤ 140737488351232 ∧ x.v.length ≤ 140737488351232) :
    Calls Try.prog 38 #[.slice A n c] w fun e w' => e = .returned (.tuple #[.string ⟨(encOut l).toArray⟩, .int .i64 (encErr l)]) ∧ Below w.heap.size w w' := by
  obtain ⟨m, hm⟩ : ∃ m, makeErr l = m := ⟨_, rfl⟩
  have hmk := rmake_calls l A n c w hE hnm hz
  rw [hm] at hmk
  have HMK := Lib.hid hmk
  have HM := Lib.hid hm
  have HZ := Lib.hid hz
  clear hmk hz
  rcases encErr_cases l with ⟨h1, h2⟩ | ⟨h1, h2, h3⟩ | ⟨h1, h2, h3⟩
  · rw [hm] at h1 h2
    have ho : encOut l = [] := by rw [encOut, h2, if_neg h1]
    rw [ho, h2]
    have em : ((m : Int) != 0) = true := by simp; omega
    clear hm h2 ho
    go_enter Try.func38, Try.ntmps38
    go_wp2_with fail
    refine HMK.out.mono ?_
    rintro e w1 ⟨⟨v, rfl⟩, hb1⟩
    go_wp2_with fail
    go_ret2
    exact ⟨rfl, hb1⟩
  · have hm0 : m = 0 := by rw [← hm]; exact h1
    have ho : encOut l = [] := by rw [encOut, h3, if_neg (by omega)]
    rw [ho, h3]
    have HV := Lib.hid h2
    clear hm h1 h2 h3 ho
    subst hm0
    go_enter Try.func38, Try.ntmps38
    go_wp2_with fail
    refine HMK.out.mono ?_
    rintro e w1 ⟨⟨v, rfl⟩, hb1⟩
    have hE1 : Elems w1 w1.heap.size 2 encLb A n l := (hE.below hb1).more hb1.size
    go_wp2_with fail
    refine (rvalid_calls l A n c w1 false HV.out hE1 hnm HZ.out).mono ?_
    rintro e w2 ⟨rfl, hb2⟩
    go_wp2_with fail
    go_ret2
    exact ⟨rfl, then_ hb1 hb2⟩
  · have hm0 : m = 0 := by rw [← hm]; exact h1
    have ho : encOut l = encL l := by rw [encOut, h3, if_pos rfl]
    obtain ⟨hn0, hn8, hfit, _⟩ := makeErr_ok h1
    have hl := hE.len
    rw [ho, h3]
    have HV := Lib.hid h2
    have HL := Lib.hid hl
    have HFIT := Lib.hid hfit
    have hn8' : n ≤ 8 := by omega
    have hnp : 0 < n := by omega
    clear hm h1 h2 h3 ho hfit
    subst hm0
    obtain ⟨b, off, rfl, _, _⟩ := hE.2 hnp
    clear hl hn0 hn8
    go_enter Try.func38, Try.ntmps38
    go_wp2_with fail
    refine HMK.out.mono ?_
    rintro e w1 ⟨⟨v, rfl⟩, hb1⟩
    have hE1 : Elems w1 w1.heap.size 2 encLb (some ⟨b, off, none⟩) n l := (hE.below hb1).more hb1.size
    go_wp2_with fail
    refine (rvalid_calls l _ n c w1 true HV.out hE1 hnm HZ.out).mono ?_
    rintro e w2 ⟨rfl, hb2⟩
    have hB2 := then_ hb1 hb2
    have hlu := uintT_len n
    have hu := ruint_calls n (by omega) w2
    obtain ⟨U, hU⟩ : ∃ U : ByteArray, (⟨(uintT n).toArray⟩ : ByteArray) = U := ⟨_, rfl⟩
    have hUU : U.data.toList = uintT n := by rw [← hU]
    have hUz : U.size ≤ 11 := by rw [← text_size, hUU]; exact hlu.2
    rw [hU] at hu
    have HU := Lib.hid hu
    have HUU := Lib.hid hUU
    clear hu hU hUU hlu hE1 hb1 hb2
    go_wp2_with fail
    refine HU.out.mono ?_
    rintro e w4 ⟨rfl, hb4⟩
    have hB4 := then_ hB2 hb4
    go_wp2_with fail
    go_loopg [7, 8] n (fun g s7 s8 wr => ∃ (i : Nat) (S : ByteArray), i + g = n ∧ s8 = .int .i64 (i : Int) ∧ s7 = .string S ∧ S.data.toList = uintT n ++ (l.take i).flatMap labT ∧ S.size ≤ 11 + 118 * i ∧ Below w.heap.size w wr)
    case atStart => exact ⟨0, U, by omega, rfl, rfl, by simp [HUU.out], by omega, hB4⟩
    case round =>
      obtain ⟨i, S, hig, rfl, rfl, hS, hSz, hB⟩ := hrel
      have HIG := Lib.hid hig
      have HS := Lib.hid hS
      clear hig hS
      by_cases hi : i < n
      · have el : decide ((i : Int) < (n : Int)) = true := by simp; omega
        have el' : decide (i < n) = true := by simp; omega
        have hil : i < l.length := by have := HL.out; omega
        obtain ⟨hbl, c0, c1⟩ := lab_at hE hnp hB i hil
        obtain ⟨x, hx⟩ : ∃ x, l[i]! = x := ⟨_, rfl⟩
        have hx' : l[i] = x := by rw [← hx, getElem!_pos l i hil]
        have hxm : x ∈ l := by rw [← hx']; exact List.getElem_mem hil
        have hxz := HZ.out x hxm
        have hll := labT_len (HFIT.out x hxm).1 (HFIT.out x hxm).2
        rw [hx] at c0 c1
        obtain ⟨N, hN⟩ : ∃ N : ByteArray, (⟨x.n.toArray⟩ : ByteArray) = N := ⟨_, rfl⟩
        obtain ⟨V, hV⟩ : ∃ N : ByteArray, (⟨x.v.toArray⟩ : ByteArray) = N := ⟨_, rfl⟩
        rw [hN] at c0
        rw [hV] at c1
        have hNn : N.data.toList = x.n := by rw [← hN]
        have hVv : V.data.toList = x.v := by rw [← hV]
        have hNz : N.size ≤ 140737488351232 := by rw [← text_size, hNn]; exact hxz.1
        have hVz : V.size ≤ 140737488351232 := by rw [← text_size, hVv]; exact hxz.2
        have hbr : b < wr.heap.size := by have := hB.size; omega
        have h1 := fun w => rtextenc_calls N hNz w
        have h2 := fun w => rtextenc_calls V hVz w
        rw [hNn] at h1
        rw [hVv] at h2
        obtain ⟨T1, hT1⟩ : ∃ N : ByteArray, (⟨(textT x.n).toArray⟩ : ByteArray) = N := ⟨_, rfl⟩
        obtain ⟨T2, hT2⟩ : ∃ N : ByteArray, (⟨(textT x.v).toArray⟩ : ByteArray) = N := ⟨_, rfl⟩
        have hT1' : T1.data.toList = textT x.n := by rw [← hT1]
        have hT2' : T2.data.toList = textT x.v := by rw [← hT2]
        have hTz : T1.size + T2.size ≤ 118 := by
          rw [← text_size, ← text_size, hT1', hT2', ← List.length_append]; exact hll
        rw [hT1] at h1
        rw [hT2] at h2
        have H1 := Lib.hid h1
        have H2 := Lib.hid h2
        have HT1 := Lib.hid hT1'
        have HT2 := Lib.hid hT2'
        have HX := Lib.hid hx'
        clear hx hx' hN hV hNn hVv hxz hxm hll h1 h2 hT1 hT2 hT1' hT2'
        go_wp2_with fail
        refine (H1.out wr).mono ?_
        rintro e w5 ⟨rfl, hb5⟩
        have c15 := later hb5 c1
        have hB5 := then_ hB hb5
        have hb5' : b < w5.heap.size := lt_of_cell c15
        clear c0 c1
        go_wp2_with fail
        refine (H2.out w5).mono ?_
        rintro e w6 ⟨rfl, hb6⟩
        have hB6 := then_ hB5 hb6
        go_wp2_with fail
        go_roundg (gk - 1)
        case measure => have := HIG.out; omega
        case rel =>
          refine ⟨i + 1, _, by have := HIG.out; omega, by go_num, rfl, ?_, ?_, hB6⟩
          · rw [List.take_succ_eq_append_getElem hil, HX.out]
            simp [HS.out, HT1.out, HT2.out, labT]
          · simp; omega
      · have el : decide ((i : Int) < (n : Int)) = false := by simp; omega
        have el' : decide (i < n) = false := by simp; omega
        go_wp2_with fail
        go_ret2
        refine ⟨congrArg (fun s => Ending.returned (Value.tuple #[Value.string s, .int .i64 0])) (str_eq ?_), hB⟩
        have hin : i = n := by have := HIG.out; omega
        rw [HS.out, hin, List.take_of_length_le (by have := HL.out; omega), encL, HL.out]
end Go.Proofs.Ytpmahljbkgielaa
