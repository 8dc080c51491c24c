/- The walks of layer 4 (labels): Valid, Encode. -/
import Derived.Test.YtpmahljbkgielaaLabWalksB
namespace Go.Proofs.Ytpmahljbkgielaa
open Go.RowKit Go.Sort
attribute [local go_sem ↓] Go.wp_at_zero Go.wp_at_succ
attribute [local go_sem] Later.cell Later.frozen

theorem byname_below (x y : Lb) (W : World) :
    Calls Try.prog 53 #[.agg #[.string ⟨x.n.toArray⟩, .string ⟨x.v.toArray⟩], .agg #[.string ⟨y.n.toArray⟩, .string ⟨y.v.toArray⟩]] W fun e w' => e = .returned (.int .i64 (Lib.compareBytes x.n y.n)) ∧ Below W.heap.size W w' := by
  refine (byname_calls x y W).mono ?_
  rintro e w' ⟨he, q, os, rfl⟩
  exact ⟨he, below_grown W q os⟩
/-- No name is below the one ahead of it. -/
def risesN (l : List Lb) : Prop := ∀ i, i + 1 < l.length → ¬ l[i + 1]!.n < l[i]!.n
/-- Label i of a list in memory, in a later world. -/
theorem lab_at {w wr : World} {b off n : Nat} {l : List Lb} (hE : Elems w w.heap.size 2 encLb (some ⟨b, off, none⟩) n l) (hn : 0 < n) (hB : Below w.heap.size w wr) (i : Nat) (hi : i < l.length) :
    b < w.heap.size ∧ wr.cell? ⟨b, off + i * 2, none⟩ = some (.string ⟨l[i]!.n.toArray⟩) ∧ wr.cell? ⟨b, off + i * 2 + 1, none⟩ = some (.string ⟨l[i]!.v.toArray⟩) := by
  have hbl : b < w.heap.size := by
    obtain ⟨b', off', e, hb, _⟩ := hE.2 hn
    injection e with e
    injection e with e _
    rw [e]; exact hb
  have hc := labs_cells hE hn
  refine ⟨hbl, ?_, ?_⟩
  · rw [hB.cell (p := ⟨b, off + i * 2, none⟩) hbl, hc (i * 2) (by omega), flat_get l _ (by omega), show i * 2 / 2 = i by omega, show i * 2 % 2 = 0 by omega]; rfl
  · rw [hB.cell (p := ⟨b, off + i * 2 + 1, none⟩) hbl]
    have := hc (i * 2 + 1) (by omega)
    rw [← Nat.add_assoc] at this
    rw [this, flat_get l _ (by omega), show (i * 2 + 1) / 2 = i by omega, show (i * 2 + 1) % 2 = 1 by omega]; rfl

set_option maxRecDepth 100000 in
set_option maxHeartbeats 1000000 in
theorem issorted_calls (l : List Lb) (A : Option Addr) (n c : Nat) (w : World) (r : Bool) (hr : r = true ↔ risesN l) (hE : Elems w w.heap.size 2 encLb A n l) (hn8 : n ≤ 8) :
    Calls Try.prog 52 #[.slice A n c, .func (.func 53) #[] #[]] w fun e w' => e = .returned (.bool r) ∧ Below w.heap.size w w' := by
  have hl := hE.len
  have HL := Lib.hid hl
  have HR := Lib.hid hr
  clear hl hr
  go_enter Try.func52, Try.ntmps52
  go_wp2_with fail
  go_loopg [5] n (fun g s5 wr => ∃ m : Int, s5 = .int .i64 m ∧ m + 1 ≤ (g : Int) ∧ -1 ≤ m ∧ m < (n : Int) ∧ Below w.heap.size w wr ∧ ∀ j : Nat, m ≤ (j : Int) → j + 1 < l.length → ¬ l[j + 1]!.n < l[j]!.n)
  case atStart => exact ⟨(n : Int) - 1, rfl, by omega, by omega, by omega, Below.refl _ _, fun j hj hj2 => by have := HL.out; omega⟩
  case round =>
    obtain ⟨m, rfl, hmg, hm1, hmn, hB, hall⟩ := hrel
    have HALL := Lib.hid hall
    clear hall
    by_cases hm : 0 < m
    · obtain ⟨j, rfl⟩ : ∃ j : Nat, m = (j : Int) + 1 := ⟨(m - 1).toNat, by omega⟩
      have hjl : j + 1 < l.length := by have := HL.out; omega
      obtain ⟨b, off, rfl, _, _⟩ := hE.2 (by omega)
      obtain ⟨hbl, a0, a1⟩ := lab_at hE (by omega) hB (j + 1) hjl
      obtain ⟨_, b0, b1⟩ := lab_at hE (by omega) hB j (by omega)
      obtain ⟨x, hx⟩ : ∃ x, l[j + 1]! = x := ⟨_, rfl⟩
      obtain ⟨y, hy⟩ : ∃ x, l[j]! = x := ⟨_, rfl⟩
      rw [hx] at a0 a1
      rw [hy] at b0 b1
      obtain ⟨q, hq⟩ : ∃ q, Lib.compareBytes x.n y.n = q := ⟨_, rfl⟩
      have hcall : ∀ X : Later wr, Calls Try.prog 53 #[.agg #[.string ⟨x.n.toArray⟩, .string ⟨x.v.toArray⟩], .agg #[.string ⟨y.n.toArray⟩, .string ⟨y.v.toArray⟩]] X.w fun e w' => e = .returned (.int .i64 q) ∧ Below X.w.heap.size X.w w' := fun X => by rw [← hq]; exact byname_below x y X.w
      have hlt : (q < 0) ↔ x.n < y.n := by rw [← hq]; exact cmp_lt _ _
      have HLT := Lib.hid hlt
      have HX := Lib.hid hx
      have HY := Lib.hid hy
      have HC := Lib.hid hcall
      have hbr : b < wr.heap.size := by have := hB.size; omega
      have em : decide ((0 : Int) < (j : Int) + 1) = true := by rw [decide_eq_true_eq]; omega
      clear hx hy hq hlt hcall hm
      obtain ⟨X0, hX0⟩ : ∃ N : ByteArray, (⟨x.n.toArray⟩ : ByteArray) = N := ⟨_, rfl⟩
      obtain ⟨X1, hX1⟩ : ∃ N : ByteArray, (⟨x.v.toArray⟩ : ByteArray) = N := ⟨_, rfl⟩
      obtain ⟨Y0, hY0⟩ : ∃ N : ByteArray, (⟨y.n.toArray⟩ : ByteArray) = N := ⟨_, rfl⟩
      obtain ⟨Y1, hY1⟩ : ∃ N : ByteArray, (⟨y.v.toArray⟩ : ByteArray) = N := ⟨_, rfl⟩
      rw [hX0] at a0
      rw [hX1] at a1
      rw [hY0] at b0
      rw [hY1] at b1
      rw [hX0, hX1, hY0, hY1] at HC
      clear hX0 hX1 hY0 hY1
      go_upto_region 4 with fail
      have z1 : IntKind.i64.wrap ((j : Int) + 1 - 1) = (j : Int) := by rw [show (j : Int) + 1 - 1 = (j : Int) by omega]; exact IntWalk.i64_in _ (by omega)
      have z2 : (0 : Int) ≤ (j : Int) + 1 := by omega
      have z3 : ((j : Int) + 1).toNat = j + 1 := by omega
      have z4 : (j : Int) + 1 < (n : Int) := by have := HL.out; omega
      have z5 : (j : Int) < (n : Int) := by omega
      refine wp_region_later (by kernel_rfl) (by kernel_rfl) ?_
      repeat (go_big_quiet_step (first | (go_at_call 53; exact quiet_later _ (HC.out _))))
      refine wpQuiet_nil ?_
      rintro w3 ⟨⟨_, hb3⟩, rfl⟩
      clear z1 z2 z3 z4 z5
      have hB3 : Below w.heap.size w w3 := then_ hB hb3
      by_cases hq0 : q < 0
      · have hrf : r = false := by
          rw [← Bool.not_eq_true]
          intro h
          have := (HR.out.1 h) j (by omega)
          rw [HX.out, HY.out] at this
          exact this (HLT.out.1 hq0)
        subst hrf
        go_wp2_with fail
        go_ret
        exact ⟨rfl, hB3⟩
      · have eq0 : decide (q < 0) = false := by simpa using hq0
        go_wp2_with fail
        go_roundg (gk - 1)
        case measure => omega
        case rel =>
          refine ⟨(j : Int), by go_num, by omega, by omega, by omega, hB3, fun j' h1 h2 => ?_⟩
          by_cases e : j' = j
          · subst e
            rw [HX.out, HY.out]
            intro h; exact absurd (HLT.out.2 h) (by omega)
          · exact HALL.out j' (by omega) h2
    · have em : decide ((0 : Int) < m) = false := by simpa using hm
      have hrt : r = true := HR.out.2 (fun i hi => HALL.out i (by omega) hi)
      subst hrt
      go_wp2_with fail
      go_ret
      exact ⟨rfl, hB⟩

/-- Is it a set? -/
def validB (l : List Lb) : Bool := decide (makeErr l = 0) && decide ((names l).Pairwise (· < ·))
theorem rises_asc {l : List Lb} (h : (names l).Nodup) : risesN l ↔ (names l).Pairwise (· < ·) := by
  constructor
  · intro hr
    have key : ∀ l : List Lb, risesN l → (names l).Nodup → (names l).Pairwise (· < ·) := by
      intro l
      induction l with
      | nil => intro _ _; exact List.Pairwise.nil
      | cons x l ih =>
        intro hr hn
        have hn' := List.nodup_cons.1 hn
        have hrl : risesN l := fun i hi => by have := hr (i + 1) (by simpa using hi); simpa using this
        have ihl := ih hrl hn'.2
        refine List.pairwise_cons.2 ⟨?_, ihl⟩
        cases l with
        | nil => intro z hz; simp at hz
        | cons y l =>
          have h0 := hr 0 (by simp)
          have hxy : x.n < y.n := by
            have h1 : ¬ y.n < x.n := by simpa using h0
            apply Classical.byContradiction
            intro h2
            have := txt_tri h2 h1
            exact hn'.1 (by simp [this, names])
          intro z hz
          rcases List.mem_cons.1 hz with rfl | hz
          · exact hxy
          · exact List.lt_trans hxy ((List.pairwise_cons.1 ihl).1 z hz)
    exact key l hr h
  · intro hp i hi hlt
    have h1 : i + 1 < (names l).length := by simpa [names] using hi
    have := List.pairwise_iff_getElem.1 hp i (i + 1) (by omega) h1 (by omega)
    simp only [names, List.getElem_map] at this
    rw [getElem!_pos l (i + 1) hi, getElem!_pos l i (by omega)] at hlt
    exact List.lt_asymm this hlt
theorem validB_iff (l : List Lb) : validB l = true ↔ makeErr l = 0 ∧ risesN l := by
  unfold validB
  rw [Bool.and_eq_true, decide_eq_true_eq, decide_eq_true_eq]
  constructor
  · rintro ⟨h1, h2⟩
    exact ⟨h1, (rises_asc (makeErr_ok h1).2.2.2).2 h2⟩
  · rintro ⟨h1, h2⟩
    exact ⟨h1, (rises_asc (makeErr_ok h1).2.2.2).1 h2⟩

set_option maxHeartbeats 400000 in
theorem valid_calls (l : List Lb) (A : Option Addr) (n c : Nat) (w : World) (r : Bool) (hr : validB l = r) (hE : Elems w w.heap.size 2 encLb A n l) (hnc : n ≤ c) (hnm : n ≤ 140737488351232) (hz : ∀ x ∈ l, x.n.length ≤ 140737488351232 ∧ x.v.length ≤ 140737488351232) :
    Calls Try.prog 26 #[.slice A n c] w fun e w' => e = .returned (.bool r) ∧ Below w.heap.size w w' := by
  obtain ⟨m, hm⟩ : ∃ m, makeErr l = m := ⟨_, rfl⟩
  have hmk := make_calls l A n c w hE hnc hnm hz
  rw [hm] at hmk
  have HMK := Lib.hid hmk
  have HR := Lib.hid hr
  have HM := Lib.hid hm
  clear hmk hr hm hz
  by_cases h0 : m = 0
  · subst h0
    have hok := makeErr_ok HM.out
    have hn8 : n ≤ 8 := by have := hE.len; omega
    have hri : r = true ↔ risesN l := by
      rw [← HR.out, validB_iff]
      exact ⟨fun h => h.2, fun h => ⟨HM.out, h⟩⟩
    have HRI := Lib.hid hri
    clear hri hok
    go_enter Try.func26, Try.ntmps26
    go_wp2_with fail
    refine HMK.out.mono ?_
    rintro e w1 ⟨⟨v, rfl⟩, hb1⟩
    have hE1 : Elems w1 w1.heap.size 2 encLb A n l := (hE.below hb1).more hb1.size
    go_wp2_with fail
    refine (issorted_calls l A n c w1 r HRI.out hE1 hn8).mono ?_
    rintro e w2 ⟨rfl, hb2⟩
    go_wp2_with fail
    go_ret
    exact ⟨rfl, then_ hb1 hb2⟩
  · have hrf : r = false := by
      rw [← HR.out, ← Bool.not_eq_true, validB_iff]
      rintro ⟨h, _⟩
      exact h0 (by rw [← HM.out]; exact h)
    subst hrf
    have em : ((m : Int) == 0) = false := by rw [beq_eq_false_iff_ne]; omega
    go_enter Try.func26, Try.ntmps26
    go_wp2_with fail
    refine HMK.out.mono ?_
    rintro e w1 ⟨⟨v, rfl⟩, hb1⟩
    go_wp2_with fail
    go_ret
    exact ⟨rfl, hb1⟩

theorem labT_len {x : Lb} (h1 : fitN x.n = true) (h2 : fitV x.v = true) : (labT x).length ≤ 118 := by
  have h3 := uintT_len x.n.length
  have h4 := uintT_len x.v.length
  simp only [fitN, fitV, Bool.and_eq_true, decide_eq_true_eq] at h1 h2
  simp only [labT, textT, List.length_append]
  omega
theorem labs_len {l : List Lb} (h : ∀ x ∈ l, fitN x.n = true ∧ fitV x.v = true) : (l.flatMap labT).length ≤ 118 * l.length := by
  induction l with
  | nil => simp
  | cons x l ih =>
    have h1 := labT_len (h x (by simp)).1 (h x (by simp)).2
    have h2 := ih (fun y hy => h y (by simp [hy]))
    rw [List.flatMap_cons, List.length_append, List.length_cons]
    omega
theorem encErr_cases (l : List Lb) : (makeErr l ≠ 0 ∧ encErr l = makeErr l) ∨ (makeErr l = 0 ∧ validB l = false ∧ encErr l = 42) ∨ (makeErr l = 0 ∧ validB l = true ∧ encErr l = 0) := by
  unfold encErr validB
  by_cases h : makeErr l = 0
  · by_cases h2 : (names l).Pairwise (· < ·)
    · exact .inr (.inr ⟨h, by simp [h, h2], by simp [h, h2]⟩)
    · exact .inr (.inl ⟨h, by simp [h2], by simp [h, h2]⟩)
  · exact .inl ⟨h, by simp [h]⟩

set_option maxRecDepth 100000 in
set_option maxHeartbeats 1000000 in
theorem encode_calls (l : List Lb) (A : Option Addr) (n c : Nat) (w : World) (hE : Elems w w.heap.size 2 encLb A n l) (hnc : n ≤ c) (hnm : n ≤ 140737488351232) (hz : ∀ x ∈ l, x.n.length ≤ 140737488351232 ∧ x.v.length ≤ 140737488351232) :
    Calls Try.prog 36 #[.slice A n c] w fun e w' => e = .returned (.tuple #[.string ⟨(encOut l).toArray⟩, .int .i64 (encErr l)]) ∧ Below w.heap.size w w' := by
  obtain ⟨m, hm⟩ : ∃ m, makeErr l = m := ⟨_, rfl⟩
  have hmk := make_calls l A n c w hE hnc hnm hz
  rw [hm] at hmk
  have HMK := Lib.hid hmk
  have HM := Lib.hid hm
  have HZ := Lib.hid hz
  clear hmk hz
  rcases encErr_cases l with ⟨h1, h2⟩ | ⟨h1, h2, h3⟩ | ⟨h1, h2, h3⟩
  · rw [hm] at h1 h2
    have ho : encOut l = [] := by rw [encOut, h2, if_neg h1]
    rw [ho, h2]
    have em : ((m : Int) != 0) = true := by simp; omega
    clear hm h2 ho
    go_enter Try.func36, Try.ntmps36
    go_wp2_with fail
    refine HMK.out.mono ?_
    rintro e w1 ⟨⟨v, rfl⟩, hb1⟩
    go_wp2_with fail
    go_ret2
    exact ⟨rfl, hb1⟩
  · have hm0 : m = 0 := by rw [← hm]; exact h1
    have ho : encOut l = [] := by rw [encOut, h3, if_neg (by omega)]
    rw [ho, h3]
    have HV := Lib.hid h2
    clear hm h1 h2 h3 ho
    subst hm0
    go_enter Try.func36, Try.ntmps36
    go_wp2_with fail
    refine HMK.out.mono ?_
    rintro e w1 ⟨⟨v, rfl⟩, hb1⟩
    have hE1 : Elems w1 w1.heap.size 2 encLb A n l := (hE.below hb1).more hb1.size
    go_wp2_with fail
    refine (valid_calls l A n c w1 false HV.out hE1 hnc hnm HZ.out).mono ?_
    rintro e w2 ⟨rfl, hb2⟩
    go_wp2_with fail
    go_ret2
    exact ⟨rfl, then_ hb1 hb2⟩
  · have hm0 : m = 0 := by rw [← hm]; exact h1
    have ho : encOut l = encL l := by rw [encOut, h3, if_pos rfl]
    obtain ⟨hn0, hn8, hfit, _⟩ := makeErr_ok h1
    have hl := hE.len
    rw [ho, h3]
    have HV := Lib.hid h2
    have HL := Lib.hid hl
    have HFIT := Lib.hid hfit
    have hn8' : n ≤ 8 := by omega
    have hnp : 0 < n := by omega
    clear hm h1 h2 h3 ho hfit
    subst hm0
    have htot : (encL l).length ≤ 1000 := by
      have h1 := uintT_len l.length
      have h2 := labs_len HFIT.out
      rw [encL, List.length_append]
      omega
    obtain ⟨b, off, rfl, _, _⟩ := hE.2 hnp
    clear hl hn0 hn8
    go_enter Try.func36, Try.ntmps36
    go_wp2_with fail
    refine HMK.out.mono ?_
    rintro e w1 ⟨⟨v, rfl⟩, hb1⟩
    have hE1 : Elems w1 w1.heap.size 2 encLb (some ⟨b, off, none⟩) n l := (hE.below hb1).more hb1.size
    go_wp2_with fail
    refine (valid_calls l _ n c w1 true HV.out hE1 hnc hnm HZ.out).mono ?_
    rintro e w2 ⟨rfl, hb2⟩
    have hB2 := then_ hb1 hb2
    go_upto_region 7 with fail
    have hbd : Bld w.heap.size w2.heap.size [] (w2.alloc (.cells #[.pointer none, .slice none 0 0] 78)) := Bld.new w2 hB2.size
    have hB3 : Below w.heap.size w (w2.alloc (.cells #[.pointer none, .slice none 0 0] 78)) := hB2.alloc hB2.size _
    obtain ⟨w3, hw3⟩ : ∃ x, w2.alloc (.cells #[.pointer none, .slice none 0 0] 78) = x := ⟨_, rfl⟩
    obtain ⟨p, hp⟩ : ∃ p, w2.heap.size = p := ⟨_, rfl⟩
    rw [hw3] at hbd hB3 ⊢
    rw [hp] at hbd ⊢
    clear hw3 hp hE1 hb1 hb2
    have hlu := uintT_len n
    have hu := uint_calls n (by omega) w3
    obtain ⟨U, hU⟩ : ∃ U : ByteArray, (⟨(uintT n).toArray⟩ : ByteArray) = U := ⟨_, rfl⟩
    have hUU : U.data.toList = uintT n := by rw [← hU]
    have hUz : U.size ≤ 11 := by rw [← text_size, hUU]; exact hlu.2
    rw [hU] at hu
    have HU := Lib.hid hu
    have HUU := Lib.hid hUU
    clear hu hU hUU hlu
    go_wp2_with fail
    refine HU.out.mono ?_
    rintro e w4 ⟨rfl, hb4⟩
    have hbd4 := hbd.below hb4
    have hB4 := then_ hB3 hb4
    clear hbd HU
    go_wp2_with fail
    refine (wstring_calls _ p [] U w4 hbd4 (by simp; omega) hB4.size).mono ?_
    rintro e w5 ⟨rfl, hbd5, hw5, _⟩
    rw [List.nil_append, HUU.out] at hbd5
    have hB5 := hB4.trans hw5
    clear hbd4 hw5 hb4
    go_upto_block 1 with fail
    go_cut [] (fun wz => Bld w.heap.size p (encL l) wz ∧ Below w.heap.size w wz)
    case first =>
      go_wp2_with fail
      go_loopg [29] n (fun g s29 wr => ∃ i : Nat, i + g = n ∧ s29 = .int .i64 (i : Int) ∧ Bld w.heap.size p (uintT n ++ (l.take i).flatMap labT) wr ∧ Below w.heap.size w wr)
      case atStart => exact ⟨0, by omega, rfl, by simpa using hbd5, hB5⟩
      case round =>
        obtain ⟨i, hig, rfl, hbd, hB⟩ := hrel
        have HIG := Lib.hid hig
        clear hig
        by_cases hi : i < n
        · have hil : i < l.length := by have := HL.out; omega
          have el : decide ((i : Int) < (n : Int)) = true := by simp; omega
          have el' : decide (i < n) = true := by simp; omega
          obtain ⟨hbl, c0, c1⟩ := lab_at hE hnp hB i hil
          obtain ⟨x, hx⟩ : ∃ x, l[i]! = x := ⟨_, rfl⟩
          have hxm : x ∈ l := by rw [← hx, getElem!_pos l i hil]; exact List.getElem_mem hil
          have hxf := HFIT.out x hxm
          have hlx := labT_len hxf.1 hxf.2
          rw [hx] at c0 c1
          obtain ⟨N, hN⟩ : ∃ N : ByteArray, (⟨x.n.toArray⟩ : ByteArray) = N := ⟨_, rfl⟩
          obtain ⟨V, hV⟩ : ∃ N : ByteArray, (⟨x.v.toArray⟩ : ByteArray) = N := ⟨_, rfl⟩
          rw [hN] at c0
          rw [hV] at c1
          have hNn : N.data.toList = x.n := by rw [← hN]
          have hVv : V.data.toList = x.v := by rw [← hV]
          have hNz : N.size ≤ 1000 := by rw [← text_size, hNn]; have := hxf.1; simp only [fitN, Bool.and_eq_true, decide_eq_true_eq] at this; omega
          have hVz : V.size ≤ 1000 := by rw [← text_size, hVv]; have := hxf.2; simp only [fitV, Bool.and_eq_true, decide_eq_true_eq] at this; omega
          have hsofar : (uintT n ++ (l.take i).flatMap labT).length + (labT x).length ≤ 1000 := by
            have e1 : l.take (i + 1) = l.take i ++ [x] := by rw [List.take_succ_eq_append_getElem hil, ← hx, getElem!_pos l i hil]
            have h1 := uintT_len n
            have h2 : ((l.take (i + 1)).flatMap labT).length ≤ 118 * (l.take (i + 1)).length := labs_len (fun y hy => HFIT.out y (List.mem_of_mem_take hy))
            have h3 : (l.take (i + 1)).length ≤ 8 := by rw [List.length_take]; omega
            rw [e1, List.flatMap_append, List.length_append] at h2
            simp only [List.flatMap_cons, List.flatMap_nil, List.append_nil, ← e1] at h2
            rw [List.length_append]
            omega
          have hnext : (uintT n ++ (l.take i).flatMap labT) ++ textT x.n ++ textT x.v = uintT n ++ (l.take (i + 1)).flatMap labT := by
            rw [List.take_succ_eq_append_getElem hil, ← getElem!_pos l i hil, hx, List.flatMap_append]
            simp [labT]
          obtain ⟨P0, hP0⟩ : ∃ P, uintT n ++ (l.take i).flatMap labT = P := ⟨_, rfl⟩
          rw [hP0] at hbd hsofar hnext
          have hlab : (labT x).length = (textT x.n).length + (textT x.v).length := by simp [labT]
          have HNEXT := Lib.hid hnext
          have HNn := Lib.hid hNn
          have HVv := Lib.hid hVv
          clear hx hN hV hNn hVv hnext hP0 hxm hxf
          go_upto_region 11 with fail
          have hq : Blk (wr.alloc (.cells #[.string N, .string V] 69)) wr.heap.size 69 #[.string N, .string V] := Blk.new _ _ _
          have hbq : Below wr.heap.size wr (wr.alloc (.cells #[.string N, .string V] 69)) := (Below.refl _ _).alloc (Nat.le_refl _) _
          obtain ⟨v1, hv1⟩ : ∃ w1, wr.alloc (.cells #[.string N, .string V] 69) = w1 := ⟨_, rfl⟩
          obtain ⟨q, hqq⟩ : ∃ p, wr.heap.size = p := ⟨_, rfl⟩
          rw [hv1] at hq hbq ⊢
          have hpl := hbd.lt
          have hbd1 := hbd.below hbq
          have hB1 := then_ hB hbq
          have hqw : w.heap.size ≤ q := by rw [← hqq]; exact hB.size
          have hqp : p < q := by rw [← hqq]; exact hpl
          rw [hqq] at hq ⊢
          clear hv1 hqq c0 c1 hB hbd hbq hpl
          have q0 : _ = some (Value.string N) := hq.cell 0
          have hq1l := hq.lt
          have htn := text_calls N (by omega) v1
          have htv := fun W => text_calls V (by omega) W
          rw [HNn.out] at htn
          simp only [HVv.out] at htv
          obtain ⟨TN, hTN⟩ : ∃ T : ByteArray, (⟨(textT x.n).toArray⟩ : ByteArray) = T := ⟨_, rfl⟩
          obtain ⟨TV, hTV⟩ : ∃ T : ByteArray, (⟨(textT x.v).toArray⟩ : ByteArray) = T := ⟨_, rfl⟩
          rw [hTN] at htn
          simp only [hTV] at htv
          have hTNn : TN.data.toList = textT x.n := by rw [← hTN]
          have hTVv : TV.data.toList = textT x.v := by rw [← hTV]
          have hTNz : TN.size = (textT x.n).length := by rw [← text_size, hTNn]
          have hTVz : TV.size = (textT x.v).length := by rw [← text_size, hTVv]
          have hTNz2 : TN.size ≤ 1000 := by omega
          have hTVz2 : TV.size ≤ 1000 := by omega
          have HTN := Lib.hid htn
          have HTV := Lib.hid htv
          have HTNn := Lib.hid hTNn
          have HTVv := Lib.hid hTVv
          have HTNz := Lib.hid hTNz
          have HTVz := Lib.hid hTVz
          have HLAB := Lib.hid hlab
          clear htn htv hTN hTV hTNn hTVv hTNz hTVz hlab
          go_wp2_with fail
          refine HTN.out.mono ?_
          rintro e v2 ⟨rfl, hb2⟩
          have hbd2 := hbd1.below hb2
          have hB2 := then_ hB1 hb2
          have hq2 := hq.below hb2 hq1l
          clear hbd1 hq q0
          go_wp2_with fail
          refine (wstring_calls _ p P0 TN v2 hbd2 (by have := HTNz.out; have := HLAB.out; omega) hB2.size).mono ?_
          rintro e v3 ⟨rfl, hbd3, hw3, ho3⟩
          rw [HTNn.out] at hbd3
          have hB3' := hB2.trans hw3
          have hq3 : Blk v3 q 69 #[.string N, .string V] := ho3.blk hq2 (by omega) (by decide)
          clear hbd2 hq2
          have q1 : _ = some (Value.string V) := hq3.cell 1
          go_wp2_with fail
          refine (HTV.out v3).mono ?_
          rintro e v4 ⟨rfl, hb4⟩
          have hbd4 := hbd3.below hb4
          have hB4' := then_ hB3' hb4
          go_wp2_with fail
          refine (wstring_calls _ p (P0 ++ textT x.n) TV v4 hbd4 (by have := HTVz.out; have := HLAB.out; rw [List.length_append]; omega) hB4'.size).mono ?_
          rintro e v5 ⟨rfl, hbd5', hw5, _⟩
          rw [HTVv.out, HNEXT.out] at hbd5'
          go_wp2_with fail
          go_roundg (gk - 1)
          case measure => have := HIG.out; omega
          case rel => exact ⟨i + 1, by have := HIG.out; omega, by go_num, hbd5', hB4'.trans hw5⟩
        · have el : decide ((i : Int) < (n : Int)) = false := by simp; omega
          have el' : decide (i < n) = false := by simp; omega
          have hfin : uintT n ++ (l.take i).flatMap labT = encL l := by
            have := HL.out
            rw [List.take_of_length_le (by omega), encL, this]
          rw [hfin] at hbd
          clear hfin
          go_wp2_with fail
          go_meet
          exact ⟨hbd, hB⟩
    case rest =>
      obtain ⟨hbd, hB⟩ := hcut
      obtain ⟨w6, rfl⟩ : ∃ x, x = wc := ⟨_, rfl⟩
      go_wp2_with fail
      refine (bstring_calls _ p _ w6 hbd hB.size).mono ?_
      rintro e w7 ⟨rfl, hw7⟩
      go_wp2_with fail
      go_ret2
      exact ⟨rfl, hB.trans hw7⟩
end Go.Proofs.Ytpmahljbkgielaa
