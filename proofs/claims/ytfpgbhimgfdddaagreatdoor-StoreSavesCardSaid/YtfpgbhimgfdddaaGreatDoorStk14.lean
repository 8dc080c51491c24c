/- Merged (what the claim wants of): DskWalksW, DskWalksX. -/
import Derived.Test.YtfpgbhimgfdddaaGreatDoorStk13
set_option linter.unusedVariables false
set_option linter.unusedSimpArgs false
/- The walks of layer 3 (disk): share; what keep asks of a file. -/
namespace Go.Proofs.YtfpgbhimgfdddaaGreatDoor
open Go.RowKit Go.Shelf Go.Maps Go.Sort
attribute [local go_sem ↓] Go.wp_at_zero Go.wp_at_succ
attribute [local go_sem] Later.cell Later.frozen

theorem shareN_le (wish : Int) (n : Nat) : shareN wish n ≤ n := by
  unfold shareN
  split
  · omega
  · have := Nat.mod_lt wish.toNat (show 0 < n + 1 by omega)
    omega
set_option maxHeartbeats 1000000 in
theorem share_calls (wish : Int) (n : Nat) (w : World) (h1 : -9223372036854775808 ≤ wish) (h2 : wish ≤ 9223372036854775807) (hn : n ≤ 4611686018427387904) :
    Calls Tryz.prog 76 #[.int .i64 wish, .int .i64 (n : Int)] w fun e w' => e = .returned (.int .i64 (shareN wish n : Int)) ∧ w = w' := by
  by_cases hneg : wish < 0
  · have d1 : decide (wish < 0) = true := by simpa using hneg
    have e1 : shareN wish n = 0 := by unfold shareN; rw [if_pos hneg]
    rw [e1]
    go_enter Tryz.func76, Tryz.ntmps76
    go_wp2_with fail
    go_ret
    exact ⟨rfl, rfl⟩
  · obtain ⟨m, rfl⟩ : ∃ m : Nat, wish = (m : Int) := ⟨wish.toNat, by omega⟩
    have d1 : decide ((m : Int) < 0) = false := by simp
    have e0 : shareN (m : Int) n = m % (n + 1) := by unfold shareN; rw [if_neg hneg]; simp
    clear hneg
    by_cases hle : m ≤ n
    · have d2 : decide ((m : Int) ≤ (n : Int)) = true := by simpa using hle
      have d3 : decide (m ≤ n) = true := by simpa using hle
      have e1 : shareN (m : Int) n = m := by rw [e0]; exact Nat.mod_eq_of_lt (by omega)
      rw [e1]
      clear e0 e1
      go_enter Tryz.func76, Tryz.ntmps76
      go_wp2_with fail
      go_ret
      exact ⟨rfl, rfl⟩
    · have d2 : decide ((m : Int) ≤ (n : Int)) = false := by simp; omega
      have d3 : decide (m ≤ n) = false := by simp; omega
      have e1 : ((shareN (m : Int) n : Nat) : Int) = (m : Int) % ((n : Int) + 1) := by rw [e0]; simp
      rw [e1]
      have hne : (n : Int) + 1 ≠ 0 := by omega
      clear e0 e1 hle
      go_enter Tryz.func76, Tryz.ntmps76
      go_wp2_with fail
      go_ret
      refine ⟨?_, rfl⟩
      simp [Int.tmod_eq_emod_of_nonneg]

/-- A file as it should be: no cut lies behind the bytes that are there at its time, and no number is too great. -/
def stepsOk (M : Nat) : List Ch → Nat → Prop
  | [], _ => True
  | c :: r, n => if c.cut then c.size ≤ n ∧ stepsOk M r c.size else n + c.text.length ≤ M ∧ stepsOk M r (n + c.text.length)
end Go.Proofs.YtfpgbhimgfdddaaGreatDoor

/- The walks of layer 3 (disk): keep. -/
namespace Go.Proofs.YtfpgbhimgfdddaaGreatDoor
open Go.RowKit Go.Shelf Go.Maps Go.Sort
attribute [local go_sem ↓] Go.wp_at_zero Go.wp_at_succ
attribute [local go_sem] Later.cell Later.frozen

theorem units_take {l : List Ch} {i : Nat} (h : i < l.length) : units (l.take (i + 1)) = units (l.take i) + (l[i]!.text.length + if l[i]!.cut then 1 else 0) := by
  have e : l.take (i + 1) = l.take i ++ [l[i]!] := by rw [List.take_add_one, List.getElem?_eq_getElem h, getElem!_pos l i h]; rfl
  rw [e]
  unfold units
  simp
theorem units_take_le (l : List Ch) (i : Nat) : units (l.take i) ≤ units l := by
  unfold units
  conv => rhs; rw [← List.take_append_drop i l]
  rw [List.map_append, List.sum_append]
  omega
def Chs (w : World) (A : Option Addr) (n : Nat) (l : List Ch) : Prop := Elems w w.heap.size 2 encC A n l
theorem Chs.at_ {w : World} {A : Option Addr} {n : Nat} {l : List Ch} (h : Chs w A n l) {i : Nat} (hi : i < n) : ∃ b off, A = some ⟨b, off, none⟩ ∧ b < w.heap.size ∧ w.cell? ⟨b, off + i * 2, none⟩ = some (txtV l[i]!.text) ∧ w.cell? ⟨b, off + i * 2 + 1, none⟩ = some (.int .i64 (if l[i]!.cut then (l[i]!.size : Int) else -1)) := by
  obtain ⟨b, off, e, hb, hc⟩ := h.2 (by omega)
  have hl : i < l.length := by have : l.length = n := Elems.len h; omega
  have hx := hc i l[i]! (by rw [getElem!_pos l i hl, List.getElem?_eq_getElem hl])
  exact ⟨b, off, e, hb, by simpa using hx 0 _ rfl, by simpa using hx 1 _ rfl⟩
theorem Chs.of_own {w : World} {base : Nat} {v : Value} {n : Nat} {l : List Ch} (h : w.ownsRow base 151 2 v n (l.flatMap encC)) (hn : l.length = n) : ∃ A c, v = .slice A n c ∧ Chs w A n l ∧ (∀ a, A = some a → base ≤ a.block) ∧ n ≤ c :=
  Elems.of_own (enc := encC) (xs := l) (fun _ _ => rfl) rfl h hn
theorem Chs.below {w w' : World} {A : Option Addr} {n : Nat} {l : List Ch} (h : Chs w A n l) (hb : Below w.heap.size w w') : Chs w' A n l := (Elems.below h hb).more hb.size

theorem repeat_zero : ∀ m : Nat, Lib.repeatL ([0] : Txt) m = List.replicate m 0
  | 0 => rfl
  | m + 1 => by rw [Lib.repeatL, repeat_zero m]; rfl
theorem repeat_calls (m : Nat) (hm : m ≤ 140737488355328) (w : World) : Calls Tryz.prog 93 #[.string ⟨#[0]⟩, .int .i64 (m : Int)] w fun e w' => e = .returned (.string ⟨(List.replicate m (0 : UInt8)).toArray⟩) ∧ Below w.heap.size w w' := by
  rcases Nat.lt_or_ge m 2 with h | h
  · rcases (by omega : m = 0 ∨ m = 1) with rfl | rfl
    · refine (Tryz.strings_Repeat_zero ⟨#[0]⟩ w).mono ?_
      rintro _ w1 ⟨rfl, rfl⟩
      exact ⟨rfl, Below.refl _ _⟩
    · refine (Tryz.strings_Repeat_one ⟨#[0]⟩ w).mono ?_
      rintro _ w1 ⟨rfl, rfl⟩
      exact ⟨rfl, Below.refl _ _⟩
  · have := Tryz.strings_Repeat_main ⟨#[0]⟩ m w h (by omega) (by show 1 * m ≤ _; omega) (by decide)
    have e : Lib.repeatL (⟨#[0]⟩ : ByteArray).data.toList m = List.replicate m 0 := repeat_zero m
    rw [e] at this
    exact this
/-- What keep leaves. -/
def KeepOut (b : Nat) (f : By) (w : World) (e : Ending) (w' : World) : Prop :=
  e = .returned (.tuple #[]) ∧ Blk w' b 143 #[txtV f.now, txtV f.safe, .slice none 0 0] ∧ Own (two b b) (two b b) w w'
theorem keep_turn {b : Nat} {T X : ByteArray} {s : Value} {w wr : World} (hb : Blk wr b 143 #[.string T, .string X, s]) (ho : Own (two b b) (two b b) w wr) (o : Obj) (N : ByteArray) :
    Blk ((wr.setCell ⟨b, 0, none⟩ (.string N)).alloc o).drew b 143 #[.string N, .string X, s] ∧ Own (two b b) (two b b) w ((wr.setCell ⟨b, 0, none⟩ (.string N)).alloc o).drew :=
  ⟨(hb.set_ 0 (.string N)).alloc o, ho.trans ((Own.of_set _ (two_l b b)).trans ((Own.of_alloc _).trans (Own.of_below (Below.refl _ _).drew)))⟩
theorem keep_still {b : Nat} {T X : ByteArray} {s : Value} {w wr : World} (hb : Blk wr b 143 #[.string T, .string X, s]) (ho : Own (two b b) (two b b) w wr) (o : Obj) :
    Blk (wr.alloc o) b 143 #[.string T, .string X, s] ∧ Own (two b b) (two b b) w (wr.alloc o) :=
  ⟨hb.alloc o, ho.trans (Own.of_alloc _)⟩
set_option maxRecDepth 100000 in
set_option maxHeartbeats 4000000 in
theorem keep_calls (b : Nat) (f : By) (v : Value) (wish : Int) (zeros : Bool) (w : World) (hblk : Blk w b 143 #[txtV f.now, txtV f.safe, v]) (hrow : w.ownsRow 0 151 2 v f.steps.length (f.steps.flatMap encC)) (hvb : v.ownBlock ≠ some b)
    (h1 : -9223372036854775808 ≤ wish) (h2 : wish ≤ 9223372036854775807) (M : Nat) (hM : M ≤ 1073741824) (hok : stepsOk M f.steps f.safe.length) (hsf : f.safe.length ≤ M) (hun : units f.steps ≤ 140737488355328) (hsl : f.steps.length ≤ 1073741824) :
    Calls Tryz.prog 79 #[.pointer (some ⟨b, 0, none⟩), .int .i64 wish, .bool zeros] w (KeepOut b (keepF f wish zeros) w) := by
  obtain ⟨A, c, rfl, hch, hbase, hnc⟩ := Chs.of_own hrow rfl
  obtain ⟨n, hn⟩ : ∃ n, f.steps.length = n := ⟨_, rfl⟩
  rw [hn] at hch hblk hnc hsl
  have c2 : w.cell? ⟨b, 2, none⟩ = some (.slice A n c) := hblk.cell 2
  have HBLK := Lib.hid hblk
  have HROW := Lib.hid hrow
  have HN := Lib.hid hn
  have HCH := Lib.hid hch
  clear hblk hrow hn hch hbase
  go_enter Tryz.func79, Tryz.ntmps79
  go_upto_block 0 with fail
  go_cut [6] (fun s6 wz => s6 = .int .i64 (units f.steps : Int) ∧ Below w.heap.size w wz)
  case first =>
    go_wp2_with fail
    go_loopg [6, 20] n (fun g s6 s20 wr => ∃ i : Nat, i + g = n ∧ s20 = .int .i64 (i : Int) ∧ s6 = .int .i64 (units (f.steps.take i) : Int) ∧ Below w.heap.size w wr)
    case atStart => exact ⟨0, by omega, rfl, rfl, Below.refl _ _⟩
    case round =>
      obtain ⟨i, hig, rfl, rfl, hB⟩ := hrel
      have hut := units_take_le f.steps i
      by_cases hi : i < n
      · have el : decide ((i : Int) < (n : Int)) = true := by simp; omega
        have el' : decide (i < n) = true := by simp; omega
        obtain ⟨bb, off, rfl, hbl, k0, k1⟩ := HCH.out.at_ hi
        have m0 := (hB.cell (p := ⟨bb, off + i * 2, none⟩) hbl).trans k0
        have m1 := (hB.cell (p := ⟨bb, off + i * 2 + 1, none⟩) hbl).trans k1
        have hu1 := units_take (l := f.steps) (i := i) (by rw [HN.out]; exact hi)
        have hut1 := units_take_le f.steps (i + 1)
        obtain ⟨ch, hch⟩ : ∃ x, f.steps[i]! = x := ⟨_, rfl⟩
        rw [hch] at m0 m1 hu1
        obtain ⟨T, hT⟩ : ∃ T : ByteArray, (⟨ch.text.toArray⟩ : ByteArray) = T := ⟨_, rfl⟩
        have hTs : ch.text.length = T.size := by rw [← hT]; rfl
        unfold txtV at m0
        rw [hT] at m0
        rw [hTs] at hu1
        obtain ⟨u, hu⟩ : ∃ u, units (f.steps.take i) = u := ⟨_, rfl⟩
        rw [hu] at hu1 hut ⊢
        have HU1 := Lib.hid hu1
        cases hcut : ch.cut with
        | true =>
          rw [hcut] at m1 hu1
          simp only [if_true] at m1 hu1
          have e2 : decide ((0 : Int) ≤ (ch.size : Int)) = true := by simp
          clear k0 k1 hch hT hTs hu
          go_wp2_with fail
          go_roundg (gk - 1)
          case measure => omega
          case rel => exact ⟨i + 1, by omega, by simp, by rw [HU1.out, hcut]; simp; omega, hB.alloc hB.size _⟩
        | false =>
          rw [hcut] at m1 hu1
          simp only [Bool.false_eq_true, if_false] at m1 hu1
          clear k0 k1 hch hT hTs hu
          go_wp2_with fail
          go_roundg (gk - 1)
          case measure => omega
          case rel => exact ⟨i + 1, by omega, by simp, by rw [HU1.out, hcut]; simp, hB.alloc hB.size _⟩
      · have el : decide ((i : Int) < (n : Int)) = false := by simp; omega
        have el' : decide (i < n) = false := by simp; omega
        obtain rfl : i = n := by omega
        have hall : units (f.steps.take i) = units f.steps := by rw [← HN.out, List.take_length]
        rw [hall]
        have HB := Lib.hid hB
        clear hall hut hB
        go_wp2_with fail
        go_meet
        exact ⟨rfl, HB.out⟩
  case rest =>
    obtain ⟨rfl, hB⟩ := hcut
    obtain ⟨U, hU⟩ : ∃ U, units f.steps = U := ⟨_, rfl⟩
    rw [hU] at hun ⊢
    have HU := Lib.hid hU
    have HSH := Lib.hid (share_calls wish U · h1 h2 (by omega))
    have hle := shareN_le wish U
    obtain ⟨L, hL⟩ : ∃ L, shareN wish U = L := ⟨_, rfl⟩
    rw [hL] at HSH hle
    have HL := Lib.hid hL
    obtain ⟨X, hX⟩ : ∃ X : ByteArray, (⟨f.safe.toArray⟩ : ByteArray) = X := ⟨_, rfl⟩
    obtain ⟨Y, hY⟩ : ∃ Y : ByteArray, (⟨f.now.toArray⟩ : ByteArray) = Y := ⟨_, rfl⟩
    have HX := Lib.hid hX
    have hb2 : Blk wc b 143 #[.string Y, .string X, .slice A n c] := by
      have := HBLK.out.below hB HBLK.out.lt
      unfold txtV at this
      rw [hX, hY] at this
      exact this
    have m0 : wc.cell? ⟨b, 0, none⟩ = some (.string Y) := hb2.cell 0
    have m1 : wc.cell? ⟨b, 1, none⟩ = some (.string X) := hb2.cell 1
    have m2 : wc.cell? ⟨b, 2, none⟩ = some (.slice A n c) := hb2.cell 2
    have g0 := hb2.frozen 0
    have HB2 := Lib.hid hb2
    clear hU hL hX hY c2 hb2
    go_wp2_with fail
    refine (HSH.out _).mono ?_
    rintro _ w3 ⟨rfl, rfl⟩
    go_upto_block 2 with fail
    have hb3 : Blk (wc.setCell ⟨b, 0, none⟩ (.string X)) b 143 #[.string X, .string X, .slice A n c] := HB2.out.set_ 0 _
    have hO3 : Own (two b b) (two b b) w (wc.setCell ⟨b, 0, none⟩ (.string X)) := (Own.of_below hB).trans (Own.of_set _ (two_l b b))
    obtain ⟨w4, hw4⟩ : ∃ x, wc.setCell ⟨b, 0, none⟩ (.string X) = x := ⟨_, rfl⟩
    rw [hw4] at hb3 hO3 ⊢
    obtain ⟨RES, hRES⟩ : ∃ r, keepL f.steps f.safe L zeros = r := ⟨_, rfl⟩
    have HRES := Lib.hid hRES
    have hXl : X.data.toList = f.safe := by rw [← HX.out]
    have HXL := Lib.hid hXl
    have hXz : X.size ≤ M := by rw [← text_size3, hXl]; exact hsf
    have HOK := Lib.hid hok
    clear hw4 m0 m1 m2 g0 hRES hXl hok hB
    go_cut [7, 10] (fun s7 s10 wz => ∃ (cuts left : Nat) (T : ByteArray), s7 = .int .i64 (cuts : Int) ∧ s10 = .int .i64 (left : Int) ∧ Blk wz b 143 #[.string T, .string X, .slice A n c] ∧ Own (two b b) (two b b) w wz ∧ RES = (T.data.toList, left, zeros && decide (cuts = 0)) ∧ T.size + left ≤ X.size + L ∧ cuts ≤ n)
    case first =>
      go_wp2_with fail
      go_loopg [7, 10, 53] n (fun g s7 s10 s53 wz => ∃ (i cuts left : Nat) (T : ByteArray), i + g = n ∧ s53 = .int .i64 (i : Int) ∧ s7 = .int .i64 (cuts : Int) ∧ s10 = .int .i64 (left : Int) ∧ Blk wz b 143 #[.string T, .string X, .slice A n c] ∧ Own (two b b) (two b b) w wz ∧ RES = keepL (f.steps.drop i) T.data.toList left (zeros && decide (cuts = 0)) ∧ (0 < left → stepsOk M (f.steps.drop i) T.size) ∧ T.size + left ≤ X.size + L ∧ cuts ≤ i)
      case atStart => exact ⟨0, 0, L, X, by omega, rfl, rfl, rfl, hb3, hO3, by rw [List.drop_zero, HXL.out, ← HRES.out]; simp, fun _ => by rw [List.drop_zero, ← text_size3, HXL.out]; exact HOK.out, Nat.le_refl _, Nat.le_refl _⟩
      case round =>
        obtain ⟨i, cuts, left, T, hig, rfl, rfl, rfl, hbr, hOr, hres, hsok, hsum, hci⟩ := hrel
        by_cases hi : i < n
        · have el : decide ((i : Int) < (n : Int)) = true := by simp; omega
          have el' : decide (i < n) = true := by simp; omega
          obtain ⟨bb, off, hA, hbl, k0, k1⟩ := HCH.out.at_ hi
          have hbb : bb ≠ b := fun e => hvb (by rw [hA, e]; rfl)
          have m0 := cell_own hOr k0 (two_ne hbb hbb)
          have m1 := cell_own hOr k1 (two_ne hbb hbb)
          subst hA
          have hdr : f.steps.drop i = f.steps[i]! :: f.steps.drop (i + 1) := by
            have hl : i < f.steps.length := by rw [HN.out]; exact hi
            rw [List.drop_eq_getElem_cons hl, getElem!_pos f.steps i hl]
          obtain ⟨ch, hch⟩ : ∃ x, f.steps[i]! = x := ⟨_, rfl⟩
          rw [hch] at m0 m1 hdr
          obtain ⟨T2, hT⟩ : ∃ T : ByteArray, (⟨ch.text.toArray⟩ : ByteArray) = T := ⟨_, rfl⟩
          have hT2 : ch.text = T2.data.toList := by rw [← hT]
          have hTs : ch.text.length = T2.size := by rw [hT2]; rfl
          unfold txtV at m0
          rw [hT] at m0
          rw [hdr] at hres hsok
          have hb0 : wr.cell? ⟨b, 0, none⟩ = some (.string T) := hbr.cell 0
          have g0 := hbr.frozen 0
          have hbz := hbr.lt
          have HBR := Lib.hid hbr
          have HOR := Lib.hid hOr
          have HSOK := Lib.hid hsok
          have HRS := Lib.hid hres
          have HDR := Lib.hid hdr
          have HT2 := Lib.hid hT2
          clear k0 k1 hch hT hT2 hdr hbr hOr hsok hres
          cases hcut : ch.cut with
          | false =>
            rw [hcut] at m1
            simp only [Bool.false_eq_true, if_false] at m1
            obtain ⟨mm, hmm⟩ : ∃ mm, min left T2.size = mm := ⟨_, rfl⟩
            have hmi : min (left : Int) (T2.size : Int) = (mm : Int) := by omega
            have hmz : mm ≤ T2.size := by omega
            have hml : mm ≤ left := by omega
            go_upto_region 17 with fail
            go_region
            obtain ⟨kb, ko⟩ := keep_turn HBR.out HOR.out (.cells #[.string T2, .int .i64 (-1)] 151) (T ++ T2.extract 0 mm)
            have hNl : (T ++ T2.extract 0 mm).data.toList = T.data.toList ++ T2.data.toList.take mm := by rw [← take_bytes]; simp
            have hNs : (T ++ T2.extract 0 mm).size = T.size + mm := by rw [← text_size3, hNl, List.length_append, List.length_take, text_size3, text_size3]; omega
            have hres2 : RES = keepL (f.steps.drop (i + 1)) (T ++ T2.extract 0 mm).data.toList (left - mm) (zeros && decide (cuts = 0)) := by
              rw [HRS.out, keepL, hcut]
              simp only [Bool.false_eq_true, if_false]
              rw [HT2.out, text_size3, hmm, hNl]
            have hsok2 : 0 < left - mm → stepsOk M (f.steps.drop (i + 1)) (T ++ T2.extract 0 mm).size := by
              intro hp
              have h3 := HSOK.out (by omega)
              unfold stepsOk at h3
              rw [hcut] at h3
              simp only [Bool.false_eq_true, if_false] at h3
              rw [hNs, show mm = T2.size by omega]
              rw [hTs] at h3
              exact h3.2
            obtain ⟨N, hN⟩ : ∃ N, T ++ T2.extract 0 mm = N := ⟨_, rfl⟩
            rw [hN] at kb ko hNs hres2 hsok2 ⊢
            obtain ⟨w5, hw5⟩ : ∃ x, ((wr.setCell ⟨b, 0, none⟩ (.string N)).alloc (.cells #[.string T2, .int .i64 (-1)] 151)).drew = x := ⟨_, rfl⟩
            rw [hw5] at kb ko ⊢
            have HKB := Lib.hid kb
            have HKO := Lib.hid ko
            have HR2 := Lib.hid hres2
            have HS2 := Lib.hid hsok2
            clear kb ko hres2 hsok2 hN hw5 hNl m0 m1 hb0 g0 hbz
            go_wp2_with fail
            go_roundg (gk - 1)
            case measure => omega
            case rel => exact ⟨i + 1, cuts, left - mm, N, by omega, by go_num, rfl, by go_num, HKB.out, HKO.out, HR2.out, HS2.out, by omega, by omega⟩
          | true =>
            rw [hcut] at m1
            simp only [if_true] at m1
            have e0 : decide ((ch.size : Int) < 0) = false := by simp
            by_cases hlp : 0 < left
            · have e1 : decide ((0 : Int) < (left : Int)) = true := by simpa using hlp
              have e1' : decide (0 < left) = true := by simpa using hlp
              have h3 := HSOK.out hlp
              unfold stepsOk at h3
              rw [hcut] at h3
              simp only [if_true] at h3
              obtain ⟨hcs, hs3⟩ := h3
              have HS3 := Lib.hid hs3
              obtain ⟨z, hz⟩ : ∃ z, ch.size = z := ⟨_, rfl⟩
              rw [hz] at m1 e0 hcs
              have HZ := Lib.hid hz
              clear hs3 hz
              go_upto_region 20 with fail
              go_region
              obtain ⟨kb, ko⟩ := keep_turn HBR.out HOR.out (.cells #[.string T2, .int .i64 (z : Int)] 151) (T.extract 0 z)
              have hNl : (T.extract 0 z).data.toList = T.data.toList.take z := take_bytes T z
              have hNs : (T.extract 0 z).size = z := by rw [← text_size3, hNl, List.length_take, text_size3]; omega
              have hres2 : RES = keepL (f.steps.drop (i + 1)) (T.extract 0 z).data.toList (left - 1) (zeros && decide (cuts = 0)) := by
                rw [HRS.out, keepL, hcut]
                simp only [if_true]
                rw [if_pos hlp, HZ.out, hNl]
              have hsok2 : 0 < left - 1 → stepsOk M (f.steps.drop (i + 1)) (T.extract 0 z).size := by
                intro _
                rw [hNs, ← HZ.out]
                exact HS3.out
              obtain ⟨N, hN⟩ : ∃ N, T.extract 0 z = N := ⟨_, rfl⟩
              rw [hN] at kb ko hNs hres2 hsok2 ⊢
              obtain ⟨w5, hw5⟩ : ∃ x, ((wr.setCell ⟨b, 0, none⟩ (.string N)).alloc (.cells #[.string T2, .int .i64 (z : Int)] 151)).drew = x := ⟨_, rfl⟩
              rw [hw5] at kb ko ⊢
              have HKB := Lib.hid kb
              have HKO := Lib.hid ko
              have HR2 := Lib.hid hres2
              have HS2 := Lib.hid hsok2
              clear kb ko hres2 hsok2 hN hw5 hNl m0 m1 hb0 g0 hbz
              go_wp2_with fail
              go_roundg (gk - 1)
              case measure => omega
              case rel => exact ⟨i + 1, cuts, left - 1, N, by omega, by go_num, rfl, by go_num, HKB.out, HKO.out, HR2.out, HS2.out, by omega, by omega⟩
            · have e1 : decide ((0 : Int) < (left : Int)) = false := by simpa using hlp
              have e1' : decide (0 < left) = false := by simpa using hlp
              obtain ⟨z, hz⟩ : ∃ z, ch.size = z := ⟨_, rfl⟩
              rw [hz] at m1 e0
              obtain ⟨kb, ko⟩ := keep_still HBR.out HOR.out (.cells #[.string T2, .int .i64 (z : Int)] 151)
              have hres2 : RES = keepL (f.steps.drop (i + 1)) T.data.toList left (zeros && decide (cuts + 1 = 0)) := by
                rw [HRS.out, keepL, hcut]
                simp only [if_true]
                rw [if_neg hlp]
                simp
              have HKB := Lib.hid kb
              have HKO := Lib.hid ko
              have HR2 := Lib.hid hres2
              clear kb ko hres2 hz
              go_wp2_with fail
              go_roundg (gk - 1)
              case measure => omega
              case rel => exact ⟨i + 1, cuts + 1, left, T, by omega, by go_num, by go_num, rfl, HKB.out, HKO.out, HR2.out, fun h => absurd h hlp, by omega, by omega⟩
        · have el : decide ((i : Int) < (n : Int)) = false := by simp; omega
          have el' : decide (i < n) = false := by simp; omega
          have hin : i = n := by omega
          have hfin : RES = (T.data.toList, left, zeros && decide (cuts = 0)) := by
            rw [hres, List.drop_eq_nil_of_le (by rw [HN.out]; omega), keepL]
          have HBR := Lib.hid hbr
          have HOR := Lib.hid hOr
          have HFI := Lib.hid hfin
          clear hbr hOr hfin hres hsok
          go_wp2_with fail
          go_meet
          exact ⟨cuts, left, T, rfl, rfl, HBR.out, HOR.out, HFI.out, hsum, by omega⟩
    case rest =>
      obtain ⟨cuts, left, T, rfl, rfl, hb5, hO5, hres, hsum, hcn⟩ := hcut
      have hkf : keepF f wish zeros = (if (zeros && decide (cuts = 0)) = true then ⟨T.data.toList ++ List.replicate (U - L) 0, T.data.toList ++ List.replicate (U - L) 0, []⟩ else ⟨T.data.toList, T.data.toList, []⟩) := by
        unfold keepF
        simp only []
        rw [HU.out, HL.out, HRES.out, hres]
        simp only []
        split <;> rfl
      have HKF := Lib.hid hkf
      have HB5 := Lib.hid hb5
      have HO5 := Lib.hid hO5
      have m0 : wc.cell? ⟨b, 0, none⟩ = some (.string T) := hb5.cell 0
      have m1 : wc.cell? ⟨b, 1, none⟩ = some (.string X) := hb5.cell 1
      have m2 : wc.cell? ⟨b, 2, none⟩ = some (.slice A n c) := hb5.cell 2
      have g0 := hb5.frozen 0
      have g1 := hb5.frozen 1
      have g2 := hb5.frozen 2
      have hbl := hb5.lt
      have hTv : txtV T.data.toList = .string T := by unfold txtV; rw [← bytes_of rfl]
      have HTV := Lib.hid hTv
      clear hkf hb5 hO5 hres hTv
      obtain ⟨m, hm⟩ : ∃ m : Nat, (U : Int) - (L : Int) = (m : Int) := ⟨U - L, by omega⟩
      have hm2 : m = U - L := by omega
      have HM2 := Lib.hid hm2
      clear hm2
      by_cases hz : (zeros && decide (cuts = 0)) = true
      · have hz1 : zeros = true := by simp at hz; exact hz.1
        have hz2 : cuts = 0 := by simp at hz; exact hz.2
        have hkf2 := HKF.out
        rw [if_pos hz] at hkf2
        have HKF2 := Lib.hid hkf2
        have HRP := Lib.hid (repeat_calls m (by have := HM2.out; omega))
        subst hz1 hz2
        have hcat : txtV (T.data.toList ++ List.replicate (U - L) 0) = .string (T ++ ⟨(List.replicate m (0 : UInt8)).toArray⟩) := by
          unfold txtV
          rw [← HM2.out]
          exact congrArg _ (bytes_of (by simp)).symm
        have HCAT := Lib.hid hcat
        clear hkf2 hz hcat HKF
        go_upto_region 24 with fail
        (try rw [hm])
        refine wp_region_later_tail 9 (by kernel_rfl) (by kernel_rfl) ?_
        simp only [List.take_succ_cons, List.take_zero, List.drop_succ_cons, List.drop_zero]
        repeat (go_big_quiet_step ((go_at_call 93; exact quiet_later _ (HRP.out _))))
        refine wpQuiet_nil ?_
        rintro w2 ⟨⟨_, hb2⟩, rfl⟩
        have hbs := HB5.out.below hb2 HB5.out.lt
        have hOs := HO5.out.trans (Own.of_below hb2)
        have k0 : w2.cell? ⟨b, 0, none⟩ = some (.string T) := hbs.cell 0
        have k1 : w2.cell? ⟨b, 1, none⟩ = some (.string X) := hbs.cell 1
        have k2 : w2.cell? ⟨b, 2, none⟩ = some (.slice A n c) := hbs.cell 2
        have f0 := hbs.frozen 0
        have f1 := hbs.frozen 1
        have f2 := hbs.frozen 2
        have hbl2 := hbs.lt
        have hfin : KeepOut b (keepF f wish true) w (.returned (.tuple #[])) (((w2.setCell ⟨b, 0, none⟩ (.string (T ++ ⟨(List.replicate m (0 : UInt8)).toArray⟩))).setCell ⟨b, 1, none⟩ (.string (T ++ ⟨(List.replicate m (0 : UInt8)).toArray⟩))).setCell ⟨b, 2, none⟩ (.slice none 0 0)) := by
          refine ⟨rfl, ?_, ((hOs.trans (Own.of_set _ (two_l b b))).trans (Own.of_set _ (two_l b b))).trans (Own.of_set _ (two_l b b))⟩
          rw [HKF2.out]
          simp only []
          rw [HCAT.out]
          exact ((hbs.set_ 0 _).set_ 1 _).set_ 2 _
        have HFIN := Lib.hid hfin
        clear hfin hOs hbs m0 m1 m2 g0 g1 g2 hbl hb2
        go_wp2_with fail
        go_end0
        exact HFIN.out
      · have hkf2 := HKF.out
        rw [if_neg hz] at hkf2
        have HKF2 := Lib.hid hkf2
        have hzz : (zeros && decide (cuts = 0)) = false := by simpa using hz
        have hbs := HB5.out
        have hOs := HO5.out
        have hfin : KeepOut b (keepF f wish zeros) w (.returned (.tuple #[])) ((wc.setCell ⟨b, 1, none⟩ (.string T)).setCell ⟨b, 2, none⟩ (.slice none 0 0)) := by
          refine ⟨rfl, ?_, (hOs.trans (Own.of_set _ (two_l b b))).trans (Own.of_set _ (two_l b b))⟩
          rw [HKF2.out]
          simp only []
          rw [HTV.out]
          exact (hbs.set_ 1 _).set_ 2 _
        have HFIN := Lib.hid hfin
        cases zeros with
        | false =>
          clear hfin hkf2 hz hzz hbs hOs HKF
          go_wp2_with fail
          go_end0
          exact HFIN.out
        | true =>
          have hc0 : cuts ≠ 0 := by simpa using hz
          have d1 : ((cuts : Int) == 0) = false := by rw [beq_eq_false_iff_ne]; omega
          have d2 : (cuts == 0) = false := by simpa using hc0
          clear hfin hkf2 hz hzz hbs hOs HKF hc0
          go_wp2_with fail
          go_end0
          exact HFIN.out
end Go.Proofs.YtfpgbhimgfdddaaGreatDoor
