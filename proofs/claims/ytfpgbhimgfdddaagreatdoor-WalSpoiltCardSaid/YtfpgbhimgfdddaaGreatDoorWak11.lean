/- Merged (what the claim wants of): DskWalksW, DskWalksX, DskInv. -/
import Derived.Test.YtfpgbhimgfdddaaGreatDoorWak10
set_option linter.unusedVariables false
set_option linter.unusedSimpArgs false
/- The walks of layer 3 (disk): share; what keep asks of a file. -/
namespace Go.Proofs.YtfpgbhimgfdddaaGreatDoor
open Go.RowKit Go.Shelf Go.Maps Go.Sort
attribute [local go_sem ↓] Go.wp_at_zero Go.wp_at_succ
attribute [local go_sem] Later.cell Later.frozen

theorem shareN_le (wish : Int) (n : Nat) : shareN wish n ≤ n := by
  unfold shareN
  split
  · omega
  · have := Nat.mod_lt wish.toNat (show 0 < n + 1 by omega)
    omega
set_option maxHeartbeats 1000000 in
theorem share_calls (wish : Int) (n : Nat) (w : World) (h1 : -9223372036854775808 ≤ wish) (h2 : wish ≤ 9223372036854775807) (hn : n ≤ 4611686018427387904) :
    Calls Tryz.prog 76 #[.int .i64 wish, .int .i64 (n : Int)] w fun e w' => e = .returned (.int .i64 (shareN wish n : Int)) ∧ w = w' := by
  by_cases hneg : wish < 0
  · have d1 : decide (wish < 0) = true := by simpa using hneg
    have e1 : shareN wish n = 0 := by unfold shareN; rw [if_pos hneg]
    rw [e1]
    go_enter Tryz.func76, Tryz.ntmps76
    go_wp2_with fail
    go_ret
    exact ⟨rfl, rfl⟩
  · obtain ⟨m, rfl⟩ : ∃ m : Nat, wish = (m : Int) := ⟨wish.toNat, by omega⟩
    have d1 : decide ((m : Int) < 0) = false := by simp
    have e0 : shareN (m : Int) n = m % (n + 1) := by unfold shareN; rw [if_neg hneg]; simp
    clear hneg
    by_cases hle : m ≤ n
    · have d2 : decide ((m : Int) ≤ (n : Int)) = true := by simpa using hle
      have d3 : decide (m ≤ n) = true := by simpa using hle
      have e1 : shareN (m : Int) n = m := by rw [e0]; exact Nat.mod_eq_of_lt (by omega)
      rw [e1]
      clear e0 e1
      go_enter Tryz.func76, Tryz.ntmps76
      go_wp2_with fail
      go_ret
      exact ⟨rfl, rfl⟩
    · have d2 : decide ((m : Int) ≤ (n : Int)) = false := by simp; omega
      have d3 : decide (m ≤ n) = false := by simp; omega
      have e1 : ((shareN (m : Int) n : Nat) : Int) = (m : Int) % ((n : Int) + 1) := by rw [e0]; simp
      rw [e1]
      have hne : (n : Int) + 1 ≠ 0 := by omega
      clear e0 e1 hle
      go_enter Tryz.func76, Tryz.ntmps76
      go_wp2_with fail
      go_ret
      refine ⟨?_, rfl⟩
      simp [Int.tmod_eq_emod_of_nonneg]

/-- A file as it should be: no cut lies behind the bytes that are there at its time, and no number is too great. -/
def stepsOk (M : Nat) : List Ch → Nat → Prop
  | [], _ => True
  | c :: r, n => if c.cut then c.size ≤ n ∧ stepsOk M r c.size else n + c.text.length ≤ M ∧ stepsOk M r (n + c.text.length)
end Go.Proofs.YtfpgbhimgfdddaaGreatDoor

/- The walks of layer 3 (disk): keep. -/
namespace Go.Proofs.YtfpgbhimgfdddaaGreatDoor
open Go.RowKit Go.Shelf Go.Maps Go.Sort
attribute [local go_sem ↓] Go.wp_at_zero Go.wp_at_succ
attribute [local go_sem] Later.cell Later.frozen

theorem units_take {l : List Ch} {i : Nat} (h : i < l.length) : units (l.take (i + 1)) = units (l.take i) + (l[i]!.text.length + if l[i]!.cut then 1 else 0) := by
  have e : l.take (i + 1) = l.take i ++ [l[i]!] := by rw [List.take_add_one, List.getElem?_eq_getElem h, getElem!_pos l i h]; rfl
  rw [e]
  unfold units
  simp
theorem units_take_le (l : List Ch) (i : Nat) : units (l.take i) ≤ units l := by
  unfold units
  conv => rhs; rw [← List.take_append_drop i l]
  rw [List.map_append, List.sum_append]
  omega
def Chs (w : World) (A : Option Addr) (n : Nat) (l : List Ch) : Prop := Elems w w.heap.size 2 encC A n l
theorem Chs.at_ {w : World} {A : Option Addr} {n : Nat} {l : List Ch} (h : Chs w A n l) {i : Nat} (hi : i < n) : ∃ b off, A = some ⟨b, off, none⟩ ∧ b < w.heap.size ∧ w.cell? ⟨b, off + i * 2, none⟩ = some (txtV l[i]!.text) ∧ w.cell? ⟨b, off + i * 2 + 1, none⟩ = some (.int .i64 (if l[i]!.cut then (l[i]!.size : Int) else -1)) := by
  obtain ⟨b, off, e, hb, hc⟩ := h.2 (by omega)
  have hl : i < l.length := by have : l.length = n := Elems.len h; omega
  have hx := hc i l[i]! (by rw [getElem!_pos l i hl, List.getElem?_eq_getElem hl])
  exact ⟨b, off, e, hb, by simpa using hx 0 _ rfl, by simpa using hx 1 _ rfl⟩
theorem Chs.of_own {w : World} {base : Nat} {v : Value} {n : Nat} {l : List Ch} (h : w.ownsRow base 151 2 v n (l.flatMap encC)) (hn : l.length = n) : ∃ A c, v = .slice A n c ∧ Chs w A n l ∧ (∀ a, A = some a → base ≤ a.block) ∧ n ≤ c :=
  Elems.of_own (enc := encC) (xs := l) (fun _ _ => rfl) rfl h hn
theorem Chs.below {w w' : World} {A : Option Addr} {n : Nat} {l : List Ch} (h : Chs w A n l) (hb : Below w.heap.size w w') : Chs w' A n l := (Elems.below h hb).more hb.size

theorem repeat_zero : ∀ m : Nat, Lib.repeatL ([0] : Txt) m = List.replicate m 0
  | 0 => rfl
  | m + 1 => by rw [Lib.repeatL, repeat_zero m]; rfl
theorem repeat_calls (m : Nat) (hm : m ≤ 140737488355328) (w : World) : Calls Tryz.prog 93 #[.string ⟨#[0]⟩, .int .i64 (m : Int)] w fun e w' => e = .returned (.string ⟨(List.replicate m (0 : UInt8)).toArray⟩) ∧ Below w.heap.size w w' := by
  rcases Nat.lt_or_ge m 2 with h | h
  · rcases (by omega : m = 0 ∨ m = 1) with rfl | rfl
    · refine (Tryz.strings_Repeat_zero ⟨#[0]⟩ w).mono ?_
      rintro _ w1 ⟨rfl, rfl⟩
      exact ⟨rfl, Below.refl _ _⟩
    · refine (Tryz.strings_Repeat_one ⟨#[0]⟩ w).mono ?_
      rintro _ w1 ⟨rfl, rfl⟩
      exact ⟨rfl, Below.refl _ _⟩
  · have := Tryz.strings_Repeat_main ⟨#[0]⟩ m w h (by omega) (by show 1 * m ≤ _; omega) (by decide)
    have e : Lib.repeatL (⟨#[0]⟩ : ByteArray).data.toList m = List.replicate m 0 := repeat_zero m
    rw [e] at this
    exact this
/-- What keep leaves. -/
def KeepOut (b : Nat) (f : By) (w : World) (e : Ending) (w' : World) : Prop :=
  e = .returned (.tuple #[]) ∧ Blk w' b 143 #[txtV f.now, txtV f.safe, .slice none 0 0] ∧ Own (two b b) (two b b) w w'
theorem keep_turn {b : Nat} {T X : ByteArray} {s : Value} {w wr : World} (hb : Blk wr b 143 #[.string T, .string X, s]) (ho : Own (two b b) (two b b) w wr) (o : Obj) (N : ByteArray) :
    Blk ((wr.setCell ⟨b, 0, none⟩ (.string N)).alloc o).drew b 143 #[.string N, .string X, s] ∧ Own (two b b) (two b b) w ((wr.setCell ⟨b, 0, none⟩ (.string N)).alloc o).drew :=
  ⟨(hb.set_ 0 (.string N)).alloc o, ho.trans ((Own.of_set _ (two_l b b)).trans ((Own.of_alloc _).trans (Own.of_below (Below.refl _ _).drew)))⟩
theorem keep_still {b : Nat} {T X : ByteArray} {s : Value} {w wr : World} (hb : Blk wr b 143 #[.string T, .string X, s]) (ho : Own (two b b) (two b b) w wr) (o : Obj) :
    Blk (wr.alloc o) b 143 #[.string T, .string X, s] ∧ Own (two b b) (two b b) w (wr.alloc o) :=
  ⟨hb.alloc o, ho.trans (Own.of_alloc _)⟩
set_option maxRecDepth 100000 in
set_option maxHeartbeats 4000000 in
theorem keep_calls (b : Nat) (f : By) (v : Value) (wish : Int) (zeros : Bool) (w : World) (hblk : Blk w b 143 #[txtV f.now, txtV f.safe, v]) (hrow : w.ownsRow 0 151 2 v f.steps.length (f.steps.flatMap encC)) (hvb : v.ownBlock ≠ some b)
    (h1 : -9223372036854775808 ≤ wish) (h2 : wish ≤ 9223372036854775807) (M : Nat) (hM : M ≤ 1073741824) (hok : stepsOk M f.steps f.safe.length) (hsf : f.safe.length ≤ M) (hun : units f.steps ≤ 140737488355328) (hsl : f.steps.length ≤ 1073741824) :
    Calls Tryz.prog 79 #[.pointer (some ⟨b, 0, none⟩), .int .i64 wish, .bool zeros] w (KeepOut b (keepF f wish zeros) w) := by
  obtain ⟨A, c, rfl, hch, hbase, hnc⟩ := Chs.of_own hrow rfl
  obtain ⟨n, hn⟩ : ∃ n, f.steps.length = n := ⟨_, rfl⟩
  rw [hn] at hch hblk hnc hsl
  have c2 : w.cell? ⟨b, 2, none⟩ = some (.slice A n c) := hblk.cell 2
  have HBLK := Lib.hid hblk
  have HROW := Lib.hid hrow
  have HN := Lib.hid hn
  have HCH := Lib.hid hch
  clear hblk hrow hn hch hbase
  go_enter Tryz.func79, Tryz.ntmps79
  go_upto_block 0 with fail
  go_cut [6] (fun s6 wz => s6 = .int .i64 (units f.steps : Int) ∧ Below w.heap.size w wz)
  case first =>
    go_wp2_with fail
    go_loopg [6, 20] n (fun g s6 s20 wr => ∃ i : Nat, i + g = n ∧ s20 = .int .i64 (i : Int) ∧ s6 = .int .i64 (units (f.steps.take i) : Int) ∧ Below w.heap.size w wr)
    case atStart => exact ⟨0, by omega, rfl, rfl, Below.refl _ _⟩
    case round =>
      obtain ⟨i, hig, rfl, rfl, hB⟩ := hrel
      have hut := units_take_le f.steps i
      by_cases hi : i < n
      · have el : decide ((i : Int) < (n : Int)) = true := by simp; omega
        have el' : decide (i < n) = true := by simp; omega
        obtain ⟨bb, off, rfl, hbl, k0, k1⟩ := HCH.out.at_ hi
        have m0 := (hB.cell (p := ⟨bb, off + i * 2, none⟩) hbl).trans k0
        have m1 := (hB.cell (p := ⟨bb, off + i * 2 + 1, none⟩) hbl).trans k1
        have hu1 := units_take (l := f.steps) (i := i) (by rw [HN.out]; exact hi)
        have hut1 := units_take_le f.steps (i + 1)
        obtain ⟨ch, hch⟩ : ∃ x, f.steps[i]! = x := ⟨_, rfl⟩
        rw [hch] at m0 m1 hu1
        obtain ⟨T, hT⟩ : ∃ T : ByteArray, (⟨ch.text.toArray⟩ : ByteArray) = T := ⟨_, rfl⟩
        have hTs : ch.text.length = T.size := by rw [← hT]; rfl
        unfold txtV at m0
        rw [hT] at m0
        rw [hTs] at hu1
        obtain ⟨u, hu⟩ : ∃ u, units (f.steps.take i) = u := ⟨_, rfl⟩
        rw [hu] at hu1 hut ⊢
        have HU1 := Lib.hid hu1
        cases hcut : ch.cut with
        | true =>
          rw [hcut] at m1 hu1
          simp only [if_true] at m1 hu1
          have e2 : decide ((0 : Int) ≤ (ch.size : Int)) = true := by simp
          clear k0 k1 hch hT hTs hu
          go_wp2_with fail
          go_roundg (gk - 1)
          case measure => omega
          case rel => exact ⟨i + 1, by omega, by simp, by rw [HU1.out, hcut]; simp; omega, hB.alloc hB.size _⟩
        | false =>
          rw [hcut] at m1 hu1
          simp only [Bool.false_eq_true, if_false] at m1 hu1
          clear k0 k1 hch hT hTs hu
          go_wp2_with fail
          go_roundg (gk - 1)
          case measure => omega
          case rel => exact ⟨i + 1, by omega, by simp, by rw [HU1.out, hcut]; simp, hB.alloc hB.size _⟩
      · have el : decide ((i : Int) < (n : Int)) = false := by simp; omega
        have el' : decide (i < n) = false := by simp; omega
        obtain rfl : i = n := by omega
        have hall : units (f.steps.take i) = units f.steps := by rw [← HN.out, List.take_length]
        rw [hall]
        have HB := Lib.hid hB
        clear hall hut hB
        go_wp2_with fail
        go_meet
        exact ⟨rfl, HB.out⟩
  case rest =>
    obtain ⟨rfl, hB⟩ := hcut
    obtain ⟨U, hU⟩ : ∃ U, units f.steps = U := ⟨_, rfl⟩
    rw [hU] at hun ⊢
    have HU := Lib.hid hU
    have HSH := Lib.hid (share_calls wish U · h1 h2 (by omega))
    have hle := shareN_le wish U
    obtain ⟨L, hL⟩ : ∃ L, shareN wish U = L := ⟨_, rfl⟩
    rw [hL] at HSH hle
    have HL := Lib.hid hL
    obtain ⟨X, hX⟩ : ∃ X : ByteArray, (⟨f.safe.toArray⟩ : ByteArray) = X := ⟨_, rfl⟩
    obtain ⟨Y, hY⟩ : ∃ Y : ByteArray, (⟨f.now.toArray⟩ : ByteArray) = Y := ⟨_, rfl⟩
    have HX := Lib.hid hX
    have hb2 : Blk wc b 143 #[.string Y, .string X, .slice A n c] := by
      have := HBLK.out.below hB HBLK.out.lt
      unfold txtV at this
      rw [hX, hY] at this
      exact this
    have m0 : wc.cell? ⟨b, 0, none⟩ = some (.string Y) := hb2.cell 0
    have m1 : wc.cell? ⟨b, 1, none⟩ = some (.string X) := hb2.cell 1
    have m2 : wc.cell? ⟨b, 2, none⟩ = some (.slice A n c) := hb2.cell 2
    have g0 := hb2.frozen 0
    have HB2 := Lib.hid hb2
    clear hU hL hX hY c2 hb2
    go_wp2_with fail
    refine (HSH.out _).mono ?_
    rintro _ w3 ⟨rfl, rfl⟩
    go_upto_block 2 with fail
    have hb3 : Blk (wc.setCell ⟨b, 0, none⟩ (.string X)) b 143 #[.string X, .string X, .slice A n c] := HB2.out.set_ 0 _
    have hO3 : Own (two b b) (two b b) w (wc.setCell ⟨b, 0, none⟩ (.string X)) := (Own.of_below hB).trans (Own.of_set _ (two_l b b))
    obtain ⟨w4, hw4⟩ : ∃ x, wc.setCell ⟨b, 0, none⟩ (.string X) = x := ⟨_, rfl⟩
    rw [hw4] at hb3 hO3 ⊢
    obtain ⟨RES, hRES⟩ : ∃ r, keepL f.steps f.safe L zeros = r := ⟨_, rfl⟩
    have HRES := Lib.hid hRES
    have hXl : X.data.toList = f.safe := by rw [← HX.out]
    have HXL := Lib.hid hXl
    have hXz : X.size ≤ M := by rw [← text_size3, hXl]; exact hsf
    have HOK := Lib.hid hok
    clear hw4 m0 m1 m2 g0 hRES hXl hok hB
    go_cut [7, 10] (fun s7 s10 wz => ∃ (cuts left : Nat) (T : ByteArray), s7 = .int .i64 (cuts : Int) ∧ s10 = .int .i64 (left : Int) ∧ Blk wz b 143 #[.string T, .string X, .slice A n c] ∧ Own (two b b) (two b b) w wz ∧ RES = (T.data.toList, left, zeros && decide (cuts = 0)) ∧ T.size + left ≤ X.size + L ∧ cuts ≤ n)
    case first =>
      go_wp2_with fail
      go_loopg [7, 10, 53] n (fun g s7 s10 s53 wz => ∃ (i cuts left : Nat) (T : ByteArray), i + g = n ∧ s53 = .int .i64 (i : Int) ∧ s7 = .int .i64 (cuts : Int) ∧ s10 = .int .i64 (left : Int) ∧ Blk wz b 143 #[.string T, .string X, .slice A n c] ∧ Own (two b b) (two b b) w wz ∧ RES = keepL (f.steps.drop i) T.data.toList left (zeros && decide (cuts = 0)) ∧ (0 < left → stepsOk M (f.steps.drop i) T.size) ∧ T.size + left ≤ X.size + L ∧ cuts ≤ i)
      case atStart => exact ⟨0, 0, L, X, by omega, rfl, rfl, rfl, hb3, hO3, by rw [List.drop_zero, HXL.out, ← HRES.out]; simp, fun _ => by rw [List.drop_zero, ← text_size3, HXL.out]; exact HOK.out, Nat.le_refl _, Nat.le_refl _⟩
      case round =>
        obtain ⟨i, cuts, left, T, hig, rfl, rfl, rfl, hbr, hOr, hres, hsok, hsum, hci⟩ := hrel
        by_cases hi : i < n
        · have el : decide ((i : Int) < (n : Int)) = true := by simp; omega
          have el' : decide (i < n) = true := by simp; omega
          obtain ⟨bb, off, hA, hbl, k0, k1⟩ := HCH.out.at_ hi
          have hbb : bb ≠ b := fun e => hvb (by rw [hA, e]; rfl)
          have m0 := cell_own hOr k0 (two_ne hbb hbb)
          have m1 := cell_own hOr k1 (two_ne hbb hbb)
          subst hA
          have hdr : f.steps.drop i = f.steps[i]! :: f.steps.drop (i + 1) := by
            have hl : i < f.steps.length := by rw [HN.out]; exact hi
            rw [List.drop_eq_getElem_cons hl, getElem!_pos f.steps i hl]
          obtain ⟨ch, hch⟩ : ∃ x, f.steps[i]! = x := ⟨_, rfl⟩
          rw [hch] at m0 m1 hdr
          obtain ⟨T2, hT⟩ : ∃ T : ByteArray, (⟨ch.text.toArray⟩ : ByteArray) = T := ⟨_, rfl⟩
          have hT2 : ch.text = T2.data.toList := by rw [← hT]
          have hTs : ch.text.length = T2.size := by rw [hT2]; rfl
          unfold txtV at m0
          rw [hT] at m0
          rw [hdr] at hres hsok
          have hb0 : wr.cell? ⟨b, 0, none⟩ = some (.string T) := hbr.cell 0
          have g0 := hbr.frozen 0
          have hbz := hbr.lt
          have HBR := Lib.hid hbr
          have HOR := Lib.hid hOr
          have HSOK := Lib.hid hsok
          have HRS := Lib.hid hres
          have HDR := Lib.hid hdr
          have HT2 := Lib.hid hT2
          clear k0 k1 hch hT hT2 hdr hbr hOr hsok hres
          cases hcut : ch.cut with
          | false =>
            rw [hcut] at m1
            simp only [Bool.false_eq_true, if_false] at m1
            obtain ⟨mm, hmm⟩ : ∃ mm, min left T2.size = mm := ⟨_, rfl⟩
            have hmi : min (left : Int) (T2.size : Int) = (mm : Int) := by omega
            have hmz : mm ≤ T2.size := by omega
            have hml : mm ≤ left := by omega
            go_upto_region 17 with fail
            go_region
            obtain ⟨kb, ko⟩ := keep_turn HBR.out HOR.out (.cells #[.string T2, .int .i64 (-1)] 151) (T ++ T2.extract 0 mm)
            have hNl : (T ++ T2.extract 0 mm).data.toList = T.data.toList ++ T2.data.toList.take mm := by rw [← take_bytes]; simp
            have hNs : (T ++ T2.extract 0 mm).size = T.size + mm := by rw [← text_size3, hNl, List.length_append, List.length_take, text_size3, text_size3]; omega
            have hres2 : RES = keepL (f.steps.drop (i + 1)) (T ++ T2.extract 0 mm).data.toList (left - mm) (zeros && decide (cuts = 0)) := by
              rw [HRS.out, keepL, hcut]
              simp only [Bool.false_eq_true, if_false]
              rw [HT2.out, text_size3, hmm, hNl]
            have hsok2 : 0 < left - mm → stepsOk M (f.steps.drop (i + 1)) (T ++ T2.extract 0 mm).size := by
              intro hp
              have h3 := HSOK.out (by omega)
              unfold stepsOk at h3
              rw [hcut] at h3
              simp only [Bool.false_eq_true, if_false] at h3
              rw [hNs, show mm = T2.size by omega]
              rw [hTs] at h3
              exact h3.2
            obtain ⟨N, hN⟩ : ∃ N, T ++ T2.extract 0 mm = N := ⟨_, rfl⟩
            rw [hN] at kb ko hNs hres2 hsok2 ⊢
            obtain ⟨w5, hw5⟩ : ∃ x, ((wr.setCell ⟨b, 0, none⟩ (.string N)).alloc (.cells #[.string T2, .int .i64 (-1)] 151)).drew = x := ⟨_, rfl⟩
            rw [hw5] at kb ko ⊢
            have HKB := Lib.hid kb
            have HKO := Lib.hid ko
            have HR2 := Lib.hid hres2
            have HS2 := Lib.hid hsok2
            clear kb ko hres2 hsok2 hN hw5 hNl m0 m1 hb0 g0 hbz
            go_wp2_with fail
            go_roundg (gk - 1)
            case measure => omega
            case rel => exact ⟨i + 1, cuts, left - mm, N, by omega, by go_num, rfl, by go_num, HKB.out, HKO.out, HR2.out, HS2.out, by omega, by omega⟩
          | true =>
            rw [hcut] at m1
            simp only [if_true] at m1
            have e0 : decide ((ch.size : Int) < 0) = false := by simp
            by_cases hlp : 0 < left
            · have e1 : decide ((0 : Int) < (left : Int)) = true := by simpa using hlp
              have e1' : decide (0 < left) = true := by simpa using hlp
              have h3 := HSOK.out hlp
              unfold stepsOk at h3
              rw [hcut] at h3
              simp only [if_true] at h3
              obtain ⟨hcs, hs3⟩ := h3
              have HS3 := Lib.hid hs3
              obtain ⟨z, hz⟩ : ∃ z, ch.size = z := ⟨_, rfl⟩
              rw [hz] at m1 e0 hcs
              have HZ := Lib.hid hz
              clear hs3 hz
              go_upto_region 20 with fail
              go_region
              obtain ⟨kb, ko⟩ := keep_turn HBR.out HOR.out (.cells #[.string T2, .int .i64 (z : Int)] 151) (T.extract 0 z)
              have hNl : (T.extract 0 z).data.toList = T.data.toList.take z := take_bytes T z
              have hNs : (T.extract 0 z).size = z := by rw [← text_size3, hNl, List.length_take, text_size3]; omega
              have hres2 : RES = keepL (f.steps.drop (i + 1)) (T.extract 0 z).data.toList (left - 1) (zeros && decide (cuts = 0)) := by
                rw [HRS.out, keepL, hcut]
                simp only [if_true]
                rw [if_pos hlp, HZ.out, hNl]
              have hsok2 : 0 < left - 1 → stepsOk M (f.steps.drop (i + 1)) (T.extract 0 z).size := by
                intro _
                rw [hNs, ← HZ.out]
                exact HS3.out
              obtain ⟨N, hN⟩ : ∃ N, T.extract 0 z = N := ⟨_, rfl⟩
              rw [hN] at kb ko hNs hres2 hsok2 ⊢
              obtain ⟨w5, hw5⟩ : ∃ x, ((wr.setCell ⟨b, 0, none⟩ (.string N)).alloc (.cells #[.string T2, .int .i64 (z : Int)] 151)).drew = x := ⟨_, rfl⟩
              rw [hw5] at kb ko ⊢
              have HKB := Lib.hid kb
              have HKO := Lib.hid ko
              have HR2 := Lib.hid hres2
              have HS2 := Lib.hid hsok2
              clear kb ko hres2 hsok2 hN hw5 hNl m0 m1 hb0 g0 hbz
              go_wp2_with fail
              go_roundg (gk - 1)
              case measure => omega
              case rel => exact ⟨i + 1, cuts, left - 1, N, by omega, by go_num, rfl, by go_num, HKB.out, HKO.out, HR2.out, HS2.out, by omega, by omega⟩
            · have e1 : decide ((0 : Int) < (left : Int)) = false := by simpa using hlp
              have e1' : decide (0 < left) = false := by simpa using hlp
              obtain ⟨z, hz⟩ : ∃ z, ch.size = z := ⟨_, rfl⟩
              rw [hz] at m1 e0
              obtain ⟨kb, ko⟩ := keep_still HBR.out HOR.out (.cells #[.string T2, .int .i64 (z : Int)] 151)
              have hres2 : RES = keepL (f.steps.drop (i + 1)) T.data.toList left (zeros && decide (cuts + 1 = 0)) := by
                rw [HRS.out, keepL, hcut]
                simp only [if_true]
                rw [if_neg hlp]
                simp
              have HKB := Lib.hid kb
              have HKO := Lib.hid ko
              have HR2 := Lib.hid hres2
              clear kb ko hres2 hz
              go_wp2_with fail
              go_roundg (gk - 1)
              case measure => omega
              case rel => exact ⟨i + 1, cuts + 1, left, T, by omega, by go_num, by go_num, rfl, HKB.out, HKO.out, HR2.out, fun h => absurd h hlp, by omega, by omega⟩
        · have el : decide ((i : Int) < (n : Int)) = false := by simp; omega
          have el' : decide (i < n) = false := by simp; omega
          have hin : i = n := by omega
          have hfin : RES = (T.data.toList, left, zeros && decide (cuts = 0)) := by
            rw [hres, List.drop_eq_nil_of_le (by rw [HN.out]; omega), keepL]
          have HBR := Lib.hid hbr
          have HOR := Lib.hid hOr
          have HFI := Lib.hid hfin
          clear hbr hOr hfin hres hsok
          go_wp2_with fail
          go_meet
          exact ⟨cuts, left, T, rfl, rfl, HBR.out, HOR.out, HFI.out, hsum, by omega⟩
    case rest =>
      obtain ⟨cuts, left, T, rfl, rfl, hb5, hO5, hres, hsum, hcn⟩ := hcut
      have hkf : keepF f wish zeros = (if (zeros && decide (cuts = 0)) = true then ⟨T.data.toList ++ List.replicate (U - L) 0, T.data.toList ++ List.replicate (U - L) 0, []⟩ else ⟨T.data.toList, T.data.toList, []⟩) := by
        unfold keepF
        simp only []
        rw [HU.out, HL.out, HRES.out, hres]
        simp only []
        split <;> rfl
      have HKF := Lib.hid hkf
      have HB5 := Lib.hid hb5
      have HO5 := Lib.hid hO5
      have m0 : wc.cell? ⟨b, 0, none⟩ = some (.string T) := hb5.cell 0
      have m1 : wc.cell? ⟨b, 1, none⟩ = some (.string X) := hb5.cell 1
      have m2 : wc.cell? ⟨b, 2, none⟩ = some (.slice A n c) := hb5.cell 2
      have g0 := hb5.frozen 0
      have g1 := hb5.frozen 1
      have g2 := hb5.frozen 2
      have hbl := hb5.lt
      have hTv : txtV T.data.toList = .string T := by unfold txtV; rw [← bytes_of rfl]
      have HTV := Lib.hid hTv
      clear hkf hb5 hO5 hres hTv
      obtain ⟨m, hm⟩ : ∃ m : Nat, (U : Int) - (L : Int) = (m : Int) := ⟨U - L, by omega⟩
      have hm2 : m = U - L := by omega
      have HM2 := Lib.hid hm2
      clear hm2
      by_cases hz : (zeros && decide (cuts = 0)) = true
      · have hz1 : zeros = true := by simp at hz; exact hz.1
        have hz2 : cuts = 0 := by simp at hz; exact hz.2
        have hkf2 := HKF.out
        rw [if_pos hz] at hkf2
        have HKF2 := Lib.hid hkf2
        have HRP := Lib.hid (repeat_calls m (by have := HM2.out; omega))
        subst hz1 hz2
        have hcat : txtV (T.data.toList ++ List.replicate (U - L) 0) = .string (T ++ ⟨(List.replicate m (0 : UInt8)).toArray⟩) := by
          unfold txtV
          rw [← HM2.out]
          exact congrArg _ (bytes_of (by simp)).symm
        have HCAT := Lib.hid hcat
        clear hkf2 hz hcat HKF
        go_upto_region 24 with fail
        (try rw [hm])
        refine wp_region_later_tail 9 (by kernel_rfl) (by kernel_rfl) ?_
        simp only [List.take_succ_cons, List.take_zero, List.drop_succ_cons, List.drop_zero]
        repeat (go_big_quiet_step ((go_at_call 93; exact quiet_later _ (HRP.out _))))
        refine wpQuiet_nil ?_
        rintro w2 ⟨⟨_, hb2⟩, rfl⟩
        have hbs := HB5.out.below hb2 HB5.out.lt
        have hOs := HO5.out.trans (Own.of_below hb2)
        have k0 : w2.cell? ⟨b, 0, none⟩ = some (.string T) := hbs.cell 0
        have k1 : w2.cell? ⟨b, 1, none⟩ = some (.string X) := hbs.cell 1
        have k2 : w2.cell? ⟨b, 2, none⟩ = some (.slice A n c) := hbs.cell 2
        have f0 := hbs.frozen 0
        have f1 := hbs.frozen 1
        have f2 := hbs.frozen 2
        have hbl2 := hbs.lt
        have hfin : KeepOut b (keepF f wish true) w (.returned (.tuple #[])) (((w2.setCell ⟨b, 0, none⟩ (.string (T ++ ⟨(List.replicate m (0 : UInt8)).toArray⟩))).setCell ⟨b, 1, none⟩ (.string (T ++ ⟨(List.replicate m (0 : UInt8)).toArray⟩))).setCell ⟨b, 2, none⟩ (.slice none 0 0)) := by
          refine ⟨rfl, ?_, ((hOs.trans (Own.of_set _ (two_l b b))).trans (Own.of_set _ (two_l b b))).trans (Own.of_set _ (two_l b b))⟩
          rw [HKF2.out]
          simp only []
          rw [HCAT.out]
          exact ((hbs.set_ 0 _).set_ 1 _).set_ 2 _
        have HFIN := Lib.hid hfin
        clear hfin hOs hbs m0 m1 m2 g0 g1 g2 hbl hb2
        go_wp2_with fail
        go_end0
        exact HFIN.out
      · have hkf2 := HKF.out
        rw [if_neg hz] at hkf2
        have HKF2 := Lib.hid hkf2
        have hzz : (zeros && decide (cuts = 0)) = false := by simpa using hz
        have hbs := HB5.out
        have hOs := HO5.out
        have hfin : KeepOut b (keepF f wish zeros) w (.returned (.tuple #[])) ((wc.setCell ⟨b, 1, none⟩ (.string T)).setCell ⟨b, 2, none⟩ (.slice none 0 0)) := by
          refine ⟨rfl, ?_, (hOs.trans (Own.of_set _ (two_l b b))).trans (Own.of_set _ (two_l b b))⟩
          rw [HKF2.out]
          simp only []
          rw [HTV.out]
          exact (hbs.set_ 1 _).set_ 2 _
        have HFIN := Lib.hid hfin
        cases zeros with
        | false =>
          clear hfin hkf2 hz hzz hbs hOs HKF
          go_wp2_with fail
          go_end0
          exact HFIN.out
        | true =>
          have hc0 : cuts ≠ 0 := by simpa using hz
          have d1 : ((cuts : Int) == 0) = false := by rw [beq_eq_false_iff_ne]; omega
          have d2 : (cuts == 0) = false := by simpa using hc0
          clear hfin hkf2 hz hzz hbs hOs HKF hc0
          go_wp2_with fail
          go_end0
          exact HFIN.out
end Go.Proofs.YtfpgbhimgfdddaaGreatDoor

/- The plain law of layer 3 (disk): what stays true of a disk, call by call. No program in sight. -/
namespace Go.Proofs.YtfpgbhimgfdddaaGreatDoor

/-- The steps lead on, each where it may be taken. -/
def Chain (n : Nat) : List Th → List St → Prop
  | _, [] => True
  | l, s :: r => StOk n l s ∧ Chain n (applyS l s) r
theorem Chain.append {n : Nat} : ∀ {l : List Th} {r : List St} {s : St}, Chain n l r → StOk n (r.foldl applyS l) s → Chain n l (r ++ [s])
  | _, [], _, _, h => ⟨h, trivial⟩
  | _, _ :: _, _, h, k => ⟨h.1, Chain.append h.2 k⟩
theorem StOk.more {n m : Nat} {l : List Th} {s : St} (h : StOk n l s) (hm : n ≤ m) : StOk m l s := by
  cases s with
  | mkdir a => exact h
  | create a i => exact ⟨h.1, h.2.1, h.2.2.1, by have := h.2.2.2.1; omega, h.2.2.2.2⟩
  | remove a => exact h
  | rename a b => exact h
theorem Chain.more {n m : Nat} (hm : n ≤ m) : ∀ {l : List Th} {r : List St}, Chain n l r → Chain m l r
  | _, [], _ => trivial
  | _, _ :: _, h => ⟨h.1.more hm, Chain.more hm h.2⟩
theorem TW.more {n m : Nat} {l : List Th} (h : TW n l) (hm : n ≤ m) : TW m l := ⟨h.nodup, h.dirs, h.paths, h.par, fun x hx hd => by have := h.ats x hx hd; omega, h.inj⟩
theorem Chain.tw {n : Nat} : ∀ {l : List Th} {r : List St}, TW n l → Chain n l r → TW n (r.foldl applyS l)
  | _, [], h, _ => h
  | l, s :: r, h, k => by rw [List.foldl_cons]; exact Chain.tw (h.apply k.1) k.2
theorem Chain.take {n : Nat} : ∀ {l : List Th} {r : List St} (i : Nat), Chain n l r → Chain n l (r.take i)
  | _, _, 0, _ => trivial
  | _, [], _ + 1, _ => trivial
  | _, _ :: _, i + 1, h => ⟨h.1, Chain.take i h.2⟩
theorem Chain.at_ {n : Nat} : ∀ {l : List Th} {r : List St} {i : Nat} {s : St}, Chain n l r → r[i]? = some s → StOk n ((r.take i).foldl applyS l) s
  | _, _ :: _, 0, _, h, e => by simp at e; subst e; exact h.1
  | _, _ :: _, _ + 1, _, h, e => by simpa using Chain.at_ h.2 (by simpa using e)
theorem applyS_len (l : List Th) (s : St) : (applyS l s).length ≤ l.length + 1 := by
  cases s with
  | mkdir a => simp [applyS]
  | create a i => simp [applyS]
  | remove a => simp only [applyS]; exact Nat.le_succ_of_le (List.length_filter_le _ _)
  | rename a b => simp only [applyS, List.length_map]; exact Nat.le_succ_of_le (List.length_filter_le _ _)
theorem foldS_len : ∀ (r : List St) (l : List Th), (r.foldl applyS l).length ≤ l.length + r.length
  | [], _ => Nat.le_refl _
  | s :: r, l => by
    have h1 := foldS_len r (applyS l s)
    have h2 := applyS_len l s
    simp only [List.foldl_cons, List.length_cons]
    omega
theorem foldS_take {r : List St} {i : Nat} {s : St} {l : List Th} (h : r[i]? = some s) : (r.take (i + 1)).foldl applyS l = applyS ((r.take i).foldl applyS l) s := by
  rw [List.take_add_one, h, List.foldl_append]
  rfl

/-! ### a file -/
/-- The length behind the steps. -/
def lenOf : List Ch → Nat → Nat
  | [], n => n
  | c :: r, n => lenOf r (if c.cut then c.size else n + c.text.length)
theorem lenOf_append : ∀ (r : List Ch) (c : Ch) (n : Nat), lenOf (r ++ [c]) n = if c.cut then c.size else lenOf r n + c.text.length
  | [], c, n => rfl
  | x :: r, c, n => by rw [List.cons_append, lenOf, lenOf_append r c]; rfl
theorem units_append (r : List Ch) (c : Ch) : units (r ++ [c]) = units r + (c.text.length + if c.cut then 1 else 0) := by
  unfold units
  simp
theorem units_cons (r : List Ch) (c : Ch) : units (c :: r) = (c.text.length + if c.cut then 1 else 0) + units r := by
  unfold units
  simp
theorem lenOf_le {M : Nat} : ∀ (r : List Ch) (n : Nat), stepsOk M r n → lenOf r n ≤ n + units r
  | [], n, _ => by simp [lenOf]
  | c :: r, n, h => by
    rw [lenOf, units_cons]
    unfold stepsOk at h
    cases hc : c.cut with
    | true =>
      rw [hc] at h
      simp only [if_true] at h ⊢
      have := lenOf_le r c.size h.2
      omega
    | false =>
      rw [hc] at h
      simp only [Bool.false_eq_true, if_false] at h ⊢
      have := lenOf_le r _ h.2
      omega
theorem stepsOk.more {M M' : Nat} (hM : M ≤ M') : ∀ {r : List Ch} {n : Nat}, stepsOk M r n → stepsOk M' r n
  | [], _, _ => trivial
  | c :: r, n, h => by
    unfold stepsOk at h ⊢
    split
    · rename_i hc
      rw [if_pos hc] at h
      exact ⟨h.1, stepsOk.more hM h.2⟩
    · rename_i hc
      rw [if_neg hc] at h
      exact ⟨by omega, stepsOk.more hM h.2⟩
theorem stepsOk.append {M : Nat} : ∀ {r : List Ch} {c : Ch} {n : Nat}, stepsOk M r n → (if c.cut then c.size ≤ lenOf r n else lenOf r n + c.text.length ≤ M) → stepsOk M (r ++ [c]) n
  | [], c, n, _, h => by
    rw [List.nil_append]
    unfold stepsOk
    split
    · rename_i hc
      rw [if_pos hc] at h
      exact ⟨h, trivial⟩
    · rename_i hc
      rw [if_neg hc] at h
      exact ⟨h, trivial⟩
  | x :: r, c, n, h, k => by
    rw [List.cons_append]
    unfold stepsOk at h ⊢
    rw [lenOf] at k
    split
    · rename_i hx
      rw [if_pos hx] at h k
      exact ⟨h.1, stepsOk.append h.2 k⟩
    · rename_i hx
      rw [if_neg hx] at h k
      exact ⟨h.1, stepsOk.append h.2 k⟩
structure FOk (M : Nat) (f : By) : Prop where
  ok : stepsOk M f.steps f.safe.length
  len : lenOf f.steps f.safe.length = f.now.length
  sum : f.safe.length + units f.steps ≤ M
  sl : f.steps.length ≤ M
section
variable {M M' : Nat} {f : By}
theorem FOk.more (h : FOk M f) (hM : M ≤ M') : FOk M' f := ⟨h.ok.more hM, h.len, Nat.le_trans h.sum hM, Nat.le_trans h.sl hM⟩
theorem FOk.now (h : FOk M f) : f.now.length ≤ M := by
  have h1 := lenOf_le _ _ h.ok
  have h2 := h.len
  have h3 := h.sum
  omega
theorem FOk.plain {s : Txt} (h : s.length ≤ M) : FOk M ⟨s, s, []⟩ := ⟨trivial, rfl, by simp [units]; exact h, Nat.zero_le _⟩
theorem FOk.append (h : FOk M f) (t : Txt) : FOk (M + t.length + 1) { f with now := f.now ++ t, steps := f.steps ++ [⟨t, false, 0⟩] } where
  ok := (h.ok.more (by omega)).append (by
    have h1 := h.now
    have h2 := h.len
    simp only [Bool.false_eq_true, if_false]
    omega)
  len := by
    have h2 := h.len
    simp [lenOf_append, h2]
  sum := by
    have h3 := h.sum
    simp only [units_append, Bool.false_eq_true, if_false]
    omega
  sl := by
    have := h.sl
    simp
    omega
theorem FOk.cut (h : FOk M f) {n : Nat} (hn : n ≤ f.now.length) : FOk (M + 1) { f with now := f.now.take n, steps := f.steps ++ [⟨[], true, n⟩] } where
  ok := (h.ok.more (by omega)).append (by
    have h2 := h.len
    simp only [if_true]
    omega)
  len := by
    simp [lenOf_append]
    omega
  sum := by
    have h3 := h.sum
    simp only [units_append, if_true, List.length_nil]
    omega
  sl := by
    have := h.sl
    simp
    omega
theorem keepL_len : ∀ (r : List Ch) (now : Txt) (left : Nat) (z : Bool), (keepL r now left z).1.length + (keepL r now left z).2.1 ≤ now.length + left
  | [], _, _, _ => Nat.le_refl _
  | c :: r, now, left, z => by
    rw [keepL]
    split
    · split
      · have := keepL_len r (now.take c.size) (left - 1) z
        rw [List.length_take] at this
        omega
      · exact keepL_len r now left false
    · have := keepL_len r (now ++ c.text.take (min left c.text.length)) (left - min left c.text.length) z
      rw [List.length_append, List.length_take] at this
      omega
theorem FOk.keep (h : FOk M f) (wish : Int) (z : Bool) : FOk M (keepF f wish z) := by
  have h1 := keepL_len f.steps f.safe (shareN wish (units f.steps)) z
  have h2 := shareN_le wish (units f.steps)
  have h3 := h.sum
  unfold keepF
  refine FOk.plain ?_
  split
  · rw [List.length_append, List.length_replicate]
    omega
  · omega
end

/-! ### the disk -/
structure WF (M : Nat) (d : Ds) : Prop where
  safe : TW d.files.length d.safe
  chain : Chain d.files.length d.safe d.steps
  things : d.things = d.steps.foldl applyS d.safe
  files : ∀ f ∈ d.files, FOk M f
  names : d.safe.length + d.steps.length ≤ M
  fl : d.files.length ≤ M
  aw : d.await ≤ 9223372036854775807
  cap : d.cap ≤ 67108864
section
variable {M M' : Nat} {d : Ds}
theorem WF.more (h : WF M d) (hM : M ≤ M') : WF M' d := ⟨h.safe, h.chain, h.things, fun f hf => (h.files f hf).more hM, Nat.le_trans h.names hM, Nat.le_trans h.fl hM, h.aw, h.cap⟩
theorem WF.tw (h : WF M d) : TW d.files.length d.things := by rw [h.things]; exact h.chain.tw h.safe
theorem WF.tl (h : WF M d) : d.things.length ≤ M := by
  rw [h.things]
  exact Nat.le_trans (foldS_len _ _) h.names
theorem WF.fit (h : WF M d) (hM : M ≤ 536870912) : Fit d := ⟨h.tw, Nat.le_trans h.tl hM, by have := h.names; omega, Nat.le_trans h.fl hM, h.aw⟩
theorem WF.nums (h : WF M d) : Nums d := by
  refine ⟨h.tw.ats, h.safe.ats, fun s i hs => ?_⟩
  obtain ⟨j, hj⟩ := List.mem_iff_getElem?.1 hs
  exact (h.chain.at_ hj).2.2.2.1
theorem WF.fAt (h : WF M d) (i : Nat) : FOk M (fAt d i) := by
  unfold Go.Proofs.YtfpgbhimgfdddaaGreatDoor.fAt
  cases hf : d.files[i]? with
  | none => exact FOk.plain (Nat.zero_le _)
  | some f => exact h.files f (List.mem_of_getElem? hf)
theorem WF.new (n : Int) : WF 0 (newD n) where
  safe := ⟨by simp [newD], by simp [newD], by simp [newD], by simp [newD], by simp [newD], by simp [newD]⟩
  chain := trivial
  things := rfl
  files := by simp [newD]
  names := by simp [newD]
  fl := by simp [newD]
  aw := by simp [newD]
  cap := by simp [newD]; omega
theorem WF.same (h : WF M d) {d' : Ds} (h1 : d'.things = d.things) (h2 : d'.safe = d.safe) (h3 : d'.steps = d.steps) (h4 : d'.files = d.files) (h5 : d'.await ≤ 9223372036854775807) (h6 : d'.cap = d.cap) : WF M d' :=
  ⟨by rw [h4, h2]; exact h.safe, by rw [h4, h2, h3]; exact h.chain, by rw [h1, h2, h3]; exact h.things, by rw [h4]; exact h.files, by rw [h2, h3]; exact h.names, by rw [h4]; exact h.fl, h5, by rw [h6]; exact h.cap⟩
theorem stepD_rest (d : Ds) : (stepD d).2.things = d.things ∧ (stepD d).2.safe = d.safe ∧ (stepD d).2.steps = d.steps ∧ (stepD d).2.files = d.files ∧ (stepD d).2.await ≤ d.await ∧ (stepD d).2.cap = d.cap := by
  unfold stepD
  split
  · exact ⟨rfl, rfl, rfl, rfl, Nat.le_refl _, rfl⟩
  · split
    · exact ⟨rfl, rfl, rfl, rfl, Nat.zero_le _, rfl⟩
    · exact ⟨rfl, rfl, rfl, rfl, Nat.sub_le _ _, rfl⟩
theorem WF.step (h : WF M d) : WF M (stepD d).2 := by
  obtain ⟨h1, h2, h3, h4, h5, h6⟩ := stepD_rest d
  exact h.same h1 h2 h3 h4 (Nat.le_trans h5 h.aw) h6
theorem WF.names_ (h : WF M d) {s : St} (hs : StOk d.files.length d.things s) : WF (M + 1) (namesD d s).2 := by
  unfold namesD
  obtain ⟨h1, h2, h3, h4, h5, h6⟩ := stepD_rest d
  split
  · exact h.step.more (by omega)
  · exact {
      safe := by simp only [h2, h4]; exact h.safe
      chain := by simp only [h2, h4]; exact h.chain.append (by rw [← h.things]; exact hs)
      things := by simp only [h2]; rw [List.foldl_append, ← h.things]; rfl
      files := by simp only [h4]; exact fun f hf => (h.files f hf).more (by omega)
      names := by simp only [h2, List.length_append]; have := h.names; simp; omega
      fl := by simp only [h4]; have := h.fl; omega
      aw := Nat.le_trans h5 h.aw
      cap := by simp only [h6]; exact h.cap }
theorem WF.mkdir (h : WF M d) (s : Txt) : WF (M + 1) (mkdirD d s).2 := by
  unfold mkdirD
  split
  · exact h.more (by omega)
  split
  · exact h.more (by omega)
  split
  · exact h.more (by omega)
  rename_i h1 h2 h3
  exact h.names_ ⟨by simpa using h2, by simpa using h3⟩
theorem WF.remove (h : WF M d) (s : Txt) : WF (M + 1) (removeD d s).2 := by
  unfold removeD
  split
  · exact h.more (by omega)
  split
  · exact h.more (by omega)
  split
  · exact h.more (by omega)
  rename_i h1 h2 h3
  exact h.names_ ⟨by simpa using h2, by simpa using h3⟩
theorem WF.rename (h : WF M d) (a b : Txt) : WF (M + 1) (renameD d a b).2 := by
  unfold renameD
  split
  · exact h.more (by omega)
  split
  · exact h.more (by omega)
  split
  · exact h.more (by omega)
  split
  · exact h.more (by omega)
  split
  · exact h.more (by omega)
  rename_i h1 h2 h3 h4 h5
  simp only [not_or, not_and, Bool.not_eq_false] at h2 h3 h4 h5
  refine h.names_ ⟨h2.1, h2.2, h4.1, h4.2, h5.1, fun e => ⟨h3 e, ?_⟩, ?_⟩
  · rcases isT_range d.things b with h0 | h0 | h0
    · exact h0
    · exact absurd e (h5.2 h0).1
    · exact absurd h0 h5.1
  · rintro rfl
    rcases isT_range d.things a with h0 | h0 | h0
    · exact h4.1 h0
    · exact (h5.2 h0).2 rfl
    · exact h5.1 h0
theorem WF.create (h : WF M d) (s : Txt) : WF (M + 1) (createD d s).2 := by
  unfold createD
  split
  · exact h.more (by omega)
  split
  · exact h.more (by omega)
  split
  · exact h.more (by omega)
  split
  · exact h.more (by omega)
  split
  · exact h.step.more (by omega)
  rename_i h1 h2 h3 h4 h5
  obtain ⟨k1, k2, k3, k4, k5, k6⟩ := stepD_rest d
  have e : (namesD d (.create s d.files.length)).2 = { (stepD d).2 with things := applyS d.things (.create s d.files.length), steps := d.steps ++ [.create s d.files.length] } := by
    unfold namesD
    rw [if_neg h5]
  rw [e]
  have hle : d.files.length ≤ (d.files ++ [(⟨[], [], []⟩ : By)]).length := by simp
  exact {
    safe := by simp only [k2]; exact h.safe.more hle
    chain := by
      simp only [k2]
      refine (h.chain.more hle).append ?_
      rw [← h.things]
      exact ⟨by simpa using h2, by simpa using h3, by simpa using h4, by simp, fun x hx hd => Nat.ne_of_lt (h.tw.ats x hx hd)⟩
    things := by simp only [k2]; rw [List.foldl_append, ← h.things]; rfl
    files := by
      intro f hf
      rcases List.mem_append.1 hf with hf | hf
      · exact (h.files f hf).more (by omega)
      · rw [List.mem_singleton.1 hf]; exact FOk.plain (Nat.zero_le _)
    names := by simp only [k2, List.length_append]; have := h.names; simp; omega
    fl := by have := h.fl; simp; omega
    aw := Nat.le_trans k5 h.aw
    cap := by simp only [k6]; exact h.cap }
theorem WF.set_ (h : WF M d) {i : Nat} {f : By} (hf : FOk M' f) (hM : M ≤ M') : WF M' (setF d i f) where
  safe := by simp only [setF, List.length_set]; exact h.safe
  chain := by simp only [setF, List.length_set]; exact h.chain
  things := h.things
  files := by
    intro g hg
    rcases List.mem_or_eq_of_mem_set hg with hg | rfl
    · exact (h.files g hg).more hM
    · exact hf
  names := Nat.le_trans h.names hM
  fl := by simp only [setF, List.length_set]; exact Nat.le_trans h.fl hM
  aw := h.aw
  cap := h.cap
theorem WF.append (h : WF M d) (s t : Txt) : WF (M + t.length + 1) (appendD d s t).2 := by
  unfold appendD
  split
  · exact h.more (by omega)
  split
  · exact h.more (by omega)
  split
  · exact h.step.more (by omega)
  rename_i i _ _ _
  exact h.step.set_ ((h.fAt i).append t) (by omega)
theorem WF.cut (h : WF M d) (s : Txt) (n : Int) : WF (M + 1) (cutD d s n).2 := by
  unfold cutD
  split
  · exact h.more (by omega)
  split
  · exact h.more (by omega)
  split
  · exact h.step.more (by omega)
  rename_i i _ hn _
  exact h.step.set_ ((h.fAt i).cut (by omega)) (by omega)
theorem WF.sync (h : WF M d) (s : Txt) : WF (M + 1) (syncD d s).2 := by
  unfold syncD
  split
  · exact h.more (by omega)
  split
  · exact h.step.more (by omega)
  rename_i i _ _
  exact h.step.set_ (FOk.plain (Nat.le_succ_of_le (h.fAt i).now)) (by omega)
theorem flipT_len {s : Txt} {k : Nat} (m : UInt8) (h : k < s.length) : (flipT s k m).length = s.length := by
  unfold flipT
  simp
  omega
theorem WF.flip (h : WF M d) (s : Txt) (k : Int) (m : UInt8) : WF (M + 1) (flipD d s k m).2 := by
  unfold flipD
  split
  · exact h.more (by omega)
  split
  · exact h.more (by omega)
  rename_i i _ hn
  refine h.set_ (FOk.plain ?_) (by omega)
  rw [flipT_len m (by omega)]
  exact Nat.le_succ_of_le (h.fAt i).now
theorem WF.syncNames (h : WF M d) : WF (M + 1) (syncNamesD d).2 := by
  unfold syncNamesD
  split
  · exact h.more (by omega)
  split
  · exact h.step.more (by omega)
  obtain ⟨k1, k2, k3, k4, k5, k6⟩ := stepD_rest d
  exact {
    safe := by simp only [k4]; exact h.tw
    chain := trivial
    things := by simp only [k1]; rfl
    files := by simp only [k4]; exact fun f hf => (h.files f hf).more (by omega)
    names := by have := h.tl; simp; omega
    fl := by simp only [k4]; have := h.fl; omega
    aw := Nat.le_trans k5 h.aw
    cap := by simp only [k6]; exact h.cap }
theorem WF.crash (h : WF M d) {n : Int} (hn : n ≤ 9223372036854775807) : WF (M + 1) (crashD d n) := (h.same (d' := crashD d n) rfl rfl rfl rfl (by simp only [crashD]; omega) rfl).more (by omega)
theorem keepAll_len (data : List Int) (z : Bool) : ∀ (l : List En) (i : Nat) (fs : List By), (keepAll data z l i fs).length = fs.length
  | [], _, _ => rfl
  | x :: r, i, fs => by rw [keepAll, keepAll_len data z r]; simp
theorem keepAll_ok (data : List Int) (z : Bool) : ∀ (l : List En) (i : Nat) (fs : List By), (∀ f ∈ fs, FOk M f) → ∀ f ∈ keepAll data z l i fs, FOk M f
  | [], _, _, h => h
  | x :: r, i, fs, h => by
    rw [keepAll]
    refine keepAll_ok data z r _ _ fun f hf => ?_
    rcases List.mem_or_eq_of_mem_set hf with hf | rfl
    · exact h f hf
    · refine FOk.keep ?_ _ _
      cases hx : fs[x.size]? with
      | none => exact FOk.plain (Nat.zero_le _)
      | some g => exact h g (List.mem_of_getElem? hx)
theorem WF.restart (h : WF M d) (n : Int) (data : List Int) (z : Bool) : WF (M + 1) (restartD d n data z) where
  safe := by
    simp only [restartD, keepAll_len]
    exact (h.chain.take _).tw h.safe
  chain := trivial
  things := rfl
  files := by
    simp only [restartD]
    exact fun f hf => (keepAll_ok data z _ _ _ h.files f hf).more (by omega)
  names := by
    have h1 := h.names
    have h2 := foldS_len (d.steps.take (shareN n d.steps.length)) d.safe
    rw [List.length_take] at h2
    simp only [restartD, List.length_nil]
    omega
  fl := by simp only [restartD, keepAll_len]; have := h.fl; omega
  aw := by simp [restartD]
  cap := h.cap
end
end Go.Proofs.YtfpgbhimgfdddaaGreatDoor
