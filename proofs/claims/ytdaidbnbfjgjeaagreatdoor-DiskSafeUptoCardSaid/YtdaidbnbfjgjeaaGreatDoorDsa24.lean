/- Merged: RdkWalksN. -/
import Derived.Test.YtdaidbnbfjgjeaaGreatDoorDsa19
import Derived.Test.YtdaidbnbfjgjeaaGreatDoorDsa13
set_option linter.unusedVariables false
set_option linter.unusedSimpArgs false
/-! ## RdkWalksN -/
/- The walks of layer 3 (disk), the document's: keep. -/
namespace Go.Proofs.YtdaidbnbfjgjeaaGreatDoor
open Go.RowKit Go.Shelf Go.Maps Go.Sort
attribute [local go_sem ↓] Go.wp_at_zero Go.wp_at_succ
attribute [local go_sem] Later.cell Later.frozen

def RChs (w : World) (A : Option Addr) (n : Nat) (l : List Ch) : Prop := Elems w w.heap.size 3 encCh A n l
theorem RChs.at_ {w : World} {A : Option Addr} {n : Nat} {l : List Ch} (h : RChs w A n l) {i : Nat} (hi : i < n) : ∃ b off, A = some ⟨b, off, none⟩ ∧ b < w.heap.size ∧ w.cell? ⟨b, off + i * 3, none⟩ = some (txtV l[i]!.text) ∧ w.cell? ⟨b, off + i * 3 + 1, none⟩ = some (.bool l[i]!.cut) ∧ w.cell? ⟨b, off + i * 3 + 2, none⟩ = some (.int .i64 (l[i]!.size : Int)) := by
  obtain ⟨b, off, e, hb, hc⟩ := h.2 (by omega)
  have hl : i < l.length := by have : l.length = n := Elems.len h; omega
  have hx := hc i l[i]! (by rw [getElem!_pos l i hl, List.getElem?_eq_getElem hl])
  exact ⟨b, off, e, hb, by simpa using hx 0 _ rfl, by simpa using hx 1 _ rfl, by simpa using hx 2 _ rfl⟩
theorem RChs.of_own {w : World} {base : Nat} {v : Value} {n : Nat} {l : List Ch} (h : w.ownsRow base 149 3 v n (l.flatMap encCh)) (hn : l.length = n) : ∃ A c, v = .slice A n c ∧ RChs w A n l ∧ (∀ a, A = some a → base ≤ a.block) ∧ n ≤ c :=
  Elems.of_own (enc := encCh) (xs := l) (fun _ _ => rfl) rfl h hn
def RKeepOut (f : By) (w : World) (e : Ending) (w' : World) : Prop := e = .returned (.agg #[txtV f.now, txtV f.safe, .slice none 0 0]) ∧ Below w.heap.size w w'
theorem rep_snoc (T : ByteArray) (j : Nat) : (T ++ ⟨(List.replicate j (0 : UInt8)).toArray⟩ : ByteArray) ++ (⟨#[0]⟩ : ByteArray) = T ++ ⟨(List.replicate (j + 1) (0 : UInt8)).toArray⟩ := by
  apply bytes_eq
  have e : ∀ (a b : ByteArray), (a ++ b).data.toList = a.data.toList ++ b.data.toList := fun a b => by simp
  rw [e, e, e]
  show T.data.toList ++ List.replicate j 0 ++ [0] = T.data.toList ++ List.replicate (j + 1) 0
  rw [List.append_assoc, List.replicate_succ']
theorem rep_nil (T : ByteArray) : T ++ (⟨(List.replicate 0 (0 : UInt8)).toArray⟩ : ByteArray) = T := by
  apply bytes_eq
  have e : ∀ (a b : ByteArray), (a ++ b).data.toList = a.data.toList ++ b.data.toList := fun a b => by simp
  rw [e]
  simp
theorem rep_size (T : ByteArray) (j : Nat) : (T ++ (⟨(List.replicate j (0 : UInt8)).toArray⟩ : ByteArray)).size = T.size + j := by
  rw [← text_size3]
  have e : ∀ (a b : ByteArray), (a ++ b).data.toList = a.data.toList ++ b.data.toList := fun a b => by simp
  rw [e, List.length_append, text_size3]
  simp
set_option maxRecDepth 100000 in
set_option maxHeartbeats 4000000 in
theorem rkeep_calls (f : By) (A : Option Addr) (n c : Nat) (wish : Int) (zeros : Bool) (w : World) (hch : RChs w A n f.steps)
    (h1 : -9223372036854775808 ≤ wish) (h2 : wish ≤ 9223372036854775807) (M : Nat) (hM : M ≤ 1073741824) (hok : stepsOk M f.steps f.safe.length) (hsf : f.safe.length ≤ M) (hun : units f.steps ≤ 4294967296) (hsl : f.steps.length ≤ 1073741824) :
    Calls Tryz.prog 69 #[.agg #[txtV f.now, txtV f.safe, .slice A n c], .int .i64 wish, .bool zeros] w (RKeepOut (keepF f wish zeros) w) := by
  have hn : f.steps.length = n := Elems.len hch
  rw [hn] at hsl
  obtain ⟨X, hX⟩ : ∃ X : ByteArray, (⟨f.safe.toArray⟩ : ByteArray) = X := ⟨_, rfl⟩
  obtain ⟨Y, hY⟩ : ∃ Y : ByteArray, (⟨f.now.toArray⟩ : ByteArray) = Y := ⟨_, rfl⟩
  have hXv : txtV f.safe = .string X := by unfold txtV; rw [hX]
  have hYv : txtV f.now = .string Y := by unfold txtV; rw [hY]
  have hXl : X.data.toList = f.safe := by rw [← hX]
  rw [hXv, hYv]
  have HN := Lib.hid hn
  have HCH := Lib.hid hch
  have HXL := Lib.hid hXl
  have HOK := Lib.hid hok
  have hXz : X.size ≤ M := by rw [← text_size3, hXl]; exact hsf
  clear hn hch hX hY hXv hYv hXl hok
  go_enter Tryz.func69, Tryz.ntmps69
  go_upto_region 1 with fail
  obtain ⟨W, hW⟩ : ∃ x, (w.alloc (.cells #[.string Y, .string X, .slice A n c] 119)).alloc (.cells #[.string ⟨#[]⟩, .string ⟨#[]⟩, .slice none 0 0] 119) = x := ⟨_, rfl⟩
  have hb0 : Below w.heap.size w W := by rw [← hW]; exact ((Below.refl _ _).alloc (Nat.le_refl _) _).alloc (by simp) _
  have hk1 : Blk W w.heap.size 119 #[.string Y, .string X, .slice A n c] := by rw [← hW]; exact (Blk.new _ _ _).alloc _
  have hk2 : Blk W (w.heap.size + 1) 119 #[.string ⟨#[]⟩, .string ⟨#[]⟩, .slice none 0 0] := by rw [← hW]; exact Blk.newAt (by simp)
  rw [hW]
  obtain ⟨b, hbb⟩ : ∃ b, w.heap.size = b := ⟨_, rfl⟩
  have HBB := Lib.hid hbb
  rw [hbb] at hk1 hk2 ⊢
  have b0 : _ = some (Value.string Y) := hk1.cell 0
  have b1 : _ = some (Value.string X) := hk1.cell 1
  have b2 : _ = some (Value.slice A n c) := hk1.cell 2
  have hbl := hk1.lt
  have HB0 := Lib.hid hb0
  have HK1 := Lib.hid hk1
  have HK2 := Lib.hid hk2
  clear hW hbb hb0 hk1 hk2
  go_upto_block 0 with fail
  go_cut [7] (fun s7 wz => s7 = .int .i64 (units f.steps : Int) ∧ wz = W)
  case first =>
    go_wp2_with fail
    go_loopg [7, 8] n (fun g s7 s8 wr => wr = W ∧ ∃ i : Nat, i + g = n ∧ s8 = .int .i64 (i : Int) ∧ s7 = .int .i64 (units (f.steps.take i) : Int))
    case atStart => exact ⟨rfl, 0, by omega, rfl, rfl⟩
    case round =>
      obtain ⟨hwr, i, hig, rfl, rfl⟩ := hrel
      subst wr
      have HIG := Lib.hid hig
      clear hig
      have hut := units_take_le f.steps i
      by_cases hi : i < n
      · have el : decide ((i : Int) < (n : Int)) = true := by simp; omega
        have el' : decide (i < n) = true := by simp; omega
        obtain ⟨bb, off, rfl, hbl2, k0, k1, _⟩ := HCH.out.at_ hi
        have m0 := (HB0.out.cell (p := ⟨bb, off + i * 3, none⟩) hbl2).trans k0
        have m1 := (HB0.out.cell (p := ⟨bb, off + i * 3 + 1, none⟩) hbl2).trans k1
        have hu1 := units_take (l := f.steps) (i := i) (by rw [HN.out]; exact hi)
        have hut1 := units_take_le f.steps (i + 1)
        obtain ⟨ch, hch⟩ : ∃ x, f.steps[i]! = x := ⟨_, rfl⟩
        rw [hch] at m0 m1 hu1
        obtain ⟨T, hT⟩ : ∃ T : ByteArray, (⟨ch.text.toArray⟩ : ByteArray) = T := ⟨_, rfl⟩
        have hTs : ch.text.length = T.size := by rw [← hT]; rfl
        unfold txtV at m0
        rw [hT] at m0
        rw [hTs] at hu1
        obtain ⟨u, hu⟩ : ∃ u, units (f.steps.take i) = u := ⟨_, rfl⟩
        rw [hu] at hu1 hut ⊢
        have HU1 := Lib.hid hu1
        cases hcut : ch.cut with
        | true =>
          rw [hcut] at m1 hu1
          simp only [if_true] at hu1
          clear k0 k1 hch hT hTs hu
          have hsm : u + T.size + 1 ≤ 4294967296 := by omega
          clear hu1
          go_wp2_with fail
          go_roundg (gk - 1)
          case measure => have := HIG.out; omega
          case rel => exact ⟨rfl, i + 1, by have := HIG.out; omega, by go_num, by rw [HU1.out, hcut]; simp; omega⟩
        | false =>
          rw [hcut] at m1 hu1
          simp only [Bool.false_eq_true, if_false] at hu1
          clear k0 k1 hch hT hTs hu
          have hsm : u + T.size ≤ 4294967296 := by omega
          clear hu1
          go_wp2_with fail
          go_roundg (gk - 1)
          case measure => have := HIG.out; omega
          case rel => exact ⟨rfl, i + 1, by have := HIG.out; omega, by go_num, by rw [HU1.out, hcut]; simp⟩
      · have el : decide ((i : Int) < (n : Int)) = false := by simp; omega
        have el' : decide (i < n) = false := by simp; omega
        have hall : units (f.steps.take i) = units f.steps := by rw [List.take_of_length_le (by rw [HN.out]; omega)]
        rw [hall]
        clear hall hut
        go_wp2_with fail
        go_meet
        exact ⟨rfl, rfl⟩
  case rest =>
    obtain ⟨rfl, hwc⟩ := hcut
    subst wc
    obtain ⟨U, hU⟩ : ∃ U, units f.steps = U := ⟨_, rfl⟩
    rw [hU] at hun ⊢
    have HU := Lib.hid hU
    have HSH := Lib.hid (rshare_calls wish U · h1 h2 (by omega))
    have hle := shareN_le wish U
    obtain ⟨L, hL⟩ : ∃ L, shareN wish U = L := ⟨_, rfl⟩
    rw [hL] at HSH hle
    have HL := Lib.hid hL
    obtain ⟨m, hm⟩ : ∃ m : Nat, (U : Int) - (L : Int) = (m : Int) := ⟨U - L, by omega⟩
    have HM := Lib.hid (show m = U - L by omega)
    obtain ⟨RES, hRES⟩ : ∃ r, keepL f.steps f.safe L zeros = r := ⟨_, rfl⟩
    have HRES := Lib.hid hRES
    clear hU hL hRES
    go_wp2_with fail
    refine (HSH.out _).mono ?_
    rintro _ w3 ⟨rfl, rfl⟩
    go_upto_block 2 with fail
    go_cut [2, 9, 11] (fun s2 s9 s11 wz => ∃ (zz : Bool) (left : Nat) (T : ByteArray), s2 = .bool zz ∧ s9 = .int .i64 (left : Int) ∧ s11 = .string T ∧ Below W.heap.size W wz ∧ RES = (T.data.toList, left, zz) ∧ T.size + left ≤ X.size + L)
    case first =>
      go_wp2_with fail
      go_loopg [2, 9, 11, 12] n (fun g s2 s9 s11 s12 wz => ∃ (i left : Nat) (zz : Bool) (T : ByteArray), i + g = n ∧ s12 = .int .i64 (i : Int) ∧ s2 = .bool zz ∧ s9 = .int .i64 (left : Int) ∧ s11 = .string T ∧ Below W.heap.size W wz ∧ RES = keepL (f.steps.drop i) T.data.toList left zz ∧ (0 < left → stepsOk M (f.steps.drop i) T.size) ∧ T.size + left ≤ X.size + L)
      case atStart => exact ⟨0, L, zeros, X, by omega, rfl, rfl, rfl, rfl, Below.refl _ _, by rw [List.drop_zero, HXL.out, ← HRES.out], fun _ => by rw [List.drop_zero, ← text_size3, HXL.out]; exact HOK.out, Nat.le_refl _⟩
      case round =>
        obtain ⟨i, left, zz, T, hig, rfl, rfl, rfl, rfl, hB, hres, hsok, hsum⟩ := hrel
        have HIG := Lib.hid hig
        have d0 := (hB.cell (p := ⟨b, 2, none⟩) hbl).trans b2
        have hbr : b < wr.heap.size := lt_of_cell d0
        clear hig
        by_cases hi : i < n
        · have el : decide ((i : Int) < (n : Int)) = true := by simp; omega
          have el' : decide (i < n) = true := by simp; omega
          obtain ⟨bb, off, rfl, hbl2, k0, k1, k2⟩ := HCH.out.at_ hi
          have hB0 := HB0.out.trans (hB.mono HB0.out.size)
          have m0 := (hB0.cell (p := ⟨bb, off + i * 3, none⟩) hbl2).trans k0
          have m1 := (hB0.cell (p := ⟨bb, off + i * 3 + 1, none⟩) hbl2).trans k1
          have m2 := (hB0.cell (p := ⟨bb, off + i * 3 + 2, none⟩) hbl2).trans k2
          have hdr : f.steps.drop i = f.steps[i]! :: f.steps.drop (i + 1) := by
            have hl : i < f.steps.length := by rw [HN.out]; exact hi
            rw [List.drop_eq_getElem_cons hl, getElem!_pos f.steps i hl]
          obtain ⟨ch, hch⟩ : ∃ x, f.steps[i]! = x := ⟨_, rfl⟩
          rw [hch] at m0 m1 m2 hdr
          obtain ⟨T2, hT⟩ : ∃ T : ByteArray, (⟨ch.text.toArray⟩ : ByteArray) = T := ⟨_, rfl⟩
          have hT2 : ch.text = T2.data.toList := by rw [← hT]
          have hTs : ch.text.length = T2.size := by rw [hT2]; rfl
          unfold txtV at m0
          rw [hT] at m0
          obtain ⟨z, hz⟩ : ∃ z, ch.size = z := ⟨_, rfl⟩
          rw [hz] at m2
          rw [hdr] at hres hsok
          have HZ := Lib.hid hz
          have HB := Lib.hid hB
          have HRS := Lib.hid hres
          have HSOK := Lib.hid hsok
          have HT2 := Lib.hid hT2
          clear k0 k1 k2 hch hT hT2 hdr hB hB0 hsok hres hz
          cases hcut : ch.cut with
          | false =>
            rw [hcut] at m1
            have HC := Lib.hid hcut
            obtain ⟨mm, hmm⟩ : ∃ mm, min left T2.size = mm := ⟨_, rfl⟩
            have hmz : mm ≤ T2.size := by omega
            have hml : mm ≤ left := by omega
            have hNl : (T ++ T2.extract 0 mm).data.toList = T.data.toList ++ T2.data.toList.take mm := by rw [← take_bytes]; simp
            have hNs : (T ++ T2.extract 0 mm).size = T.size + mm := by rw [← text_size3, hNl, List.length_append, List.length_take, text_size3, text_size3]; omega
            have hres2 : RES = keepL (f.steps.drop (i + 1)) (T ++ T2.extract 0 mm).data.toList (left - mm) zz := by
              rw [HRS.out, keepL, HC.out]
              simp only [Bool.false_eq_true, if_false]
              rw [HT2.out, text_size3, hmm, hNl]
            have hsok2 : 0 < left - mm → stepsOk M (f.steps.drop (i + 1)) (T ++ T2.extract 0 mm).size := by
              intro hp
              have h3 := HSOK.out (by omega)
              unfold stepsOk at h3
              rw [HC.out] at h3
              simp only [Bool.false_eq_true, if_false] at h3
              rw [hNs, show mm = T2.size by omega]
              rw [hTs] at h3
              exact h3.2
            have HR2 := Lib.hid hres2
            have HS2 := Lib.hid hsok2
            have HNS := Lib.hid hNs
            clear hres2 hsok2 hNl hNs hcut
            by_cases hgt : left < T2.size
            · have g1 : decide ((left : Int) < (T2.size : Int)) = true := by simpa using hgt
              have g2 : decide (left < T2.size) = true := by simpa using hgt
              obtain rfl : mm = left := by omega
              go_wp2_with fail
              go_roundg (gk - 1)
              case measure => have := HIG.out; omega
              case rel => exact ⟨i + 1, 0, zz, T ++ T2.extract 0 mm, by have := HIG.out; omega, by go_num, rfl, by first | rfl | go_num, rfl, HB.out.alloc HB.out.size _, by have := HR2.out; rwa [Nat.sub_self] at this, fun h => absurd h (by omega), by rw [HNS.out]; omega⟩
            · have g1 : decide ((left : Int) < (T2.size : Int)) = false := by simpa using hgt
              have g2 : decide (left < T2.size) = false := by simpa using hgt
              obtain rfl : T2.size = mm := by omega
              have hex : T2.extract 0 T2.size = T2 := bytes_eq (by rw [take_bytes, List.take_of_length_le (by rw [text_size3]; exact Nat.le_refl _)])
              rw [hex] at HR2 HS2 HNS
              clear hex
              go_wp2_with fail
              go_roundg (gk - 1)
              case measure => have := HIG.out; omega
              case rel => exact ⟨i + 1, left - T2.size, zz, T ++ T2, by have := HIG.out; omega, by go_num, rfl, by go_num, rfl, HB.out.alloc HB.out.size _, HR2.out, HS2.out, by rw [HNS.out]; omega⟩
          | true =>
            rw [hcut] at m1
            have HC := Lib.hid hcut
            clear hcut
            by_cases hlp : 0 < left
            · have e1 : decide ((0 : Int) < (left : Int)) = true := by simpa using hlp
              have e1' : decide (0 < left) = true := by simpa using hlp
              have h3 := HSOK.out hlp
              unfold stepsOk at h3
              rw [HC.out] at h3
              simp only [if_true] at h3
              obtain ⟨hcs, hs3⟩ := h3
              rw [HZ.out] at hcs
              have HS3 := Lib.hid hs3
              have hNl : (T.extract 0 z).data.toList = T.data.toList.take z := take_bytes T z
              have hNs : (T.extract 0 z).size = z := by rw [← text_size3, hNl, List.length_take, text_size3]; omega
              have hres2 : RES = keepL (f.steps.drop (i + 1)) (T.extract 0 z).data.toList (left - 1) zz := by
                rw [HRS.out, keepL, HC.out]
                simp only [if_true]
                rw [if_pos hlp, HZ.out, hNl]
              have hsok2 : 0 < left - 1 → stepsOk M (f.steps.drop (i + 1)) (T.extract 0 z).size := by
                intro _
                rw [hNs, ← HZ.out]
                exact HS3.out
              have HR2 := Lib.hid hres2
              have HS2 := Lib.hid hsok2
              have HNS := Lib.hid hNs
              clear hres2 hsok2 hNl hNs hs3
              go_wp2_with fail
              go_roundg (gk - 1)
              case measure => have := HIG.out; omega
              case rel => exact ⟨i + 1, left - 1, zz, T.extract 0 z, by have := HIG.out; omega, by go_num, rfl, by go_num, rfl, HB.out.alloc HB.out.size _, HR2.out, HS2.out, by rw [HNS.out]; omega⟩
            · have e1 : decide ((0 : Int) < (left : Int)) = false := by simpa using hlp
              have e1' : decide (0 < left) = false := by simpa using hlp
              have hres2 : RES = keepL (f.steps.drop (i + 1)) T.data.toList left false := by
                rw [HRS.out, keepL, HC.out]
                simp only [if_true]
                rw [if_neg hlp]
              have HR2 := Lib.hid hres2
              have HLP := Lib.hid hlp
              clear hres2 hlp
              go_wp2_with fail
              go_roundg (gk - 1)
              case measure => have := HIG.out; omega
              case rel => exact ⟨i + 1, left, false, T, by have := HIG.out; omega, by go_num, rfl, rfl, rfl, HB.out.alloc HB.out.size _, HR2.out, fun h => absurd h HLP.out, hsum⟩
        · have el : decide ((i : Int) < (n : Int)) = false := by simp; omega
          have el' : decide (i < n) = false := by simp; omega
          have hfin : RES = (T.data.toList, left, zz) := by rw [hres, List.drop_eq_nil_of_le (by rw [HN.out]; omega), keepL]
          have HB := Lib.hid hB
          have HFI := Lib.hid hfin
          clear hfin hres hsok hB
          go_wp2_with fail
          go_meet
          exact ⟨zz, left, T, rfl, rfl, rfl, HB.out, HFI.out, hsum⟩
    case rest =>
      obtain ⟨zz, left, T, rfl, rfl, rfl, hB, hres, hsum⟩ := hcut
      have hkf : keepF f wish zeros = (if zz = true then ⟨T.data.toList ++ List.replicate (U - L) 0, T.data.toList ++ List.replicate (U - L) 0, []⟩ else ⟨T.data.toList, T.data.toList, []⟩) := by
        unfold keepF
        simp only []
        rw [HU.out, HL.out, HRES.out, hres]
        simp only []
        split <;> rfl
      have HKF := Lib.hid hkf
      have hk2 := HK2.out.below hB HK2.out.lt
      have hB1 := HB0.out.trans (hB.mono HB0.out.size)
      have HBB1 := Lib.hid hB1
      have HK3 := Lib.hid hk2
      clear hkf hres hk2 hB1 hB b0 b1 b2 hbl
      obtain ⟨w0, rfl⟩ : ∃ x, x = wc := ⟨_, rfl⟩
      have h0 := rep_nil T
      have HREP0 := Lib.hid h0
      clear h0
      have hmz : m ≤ 4294967296 := by have := HM.out; omega
      cases zz with
      | false =>
        have hkf := HKF.out
        rw [if_neg (by decide)] at hkf
        have HKF2 := Lib.hid hkf
        clear hkf
        have hk3 := HK3.out
        have r0 := hk3.cell 0
        have r1 := hk3.cell 1
        have r2 := hk3.cell 2
        simp at r0 r1 r2
        have s0 := hk3.frozen 0
        have s1 := hk3.frozen 1
        have s2 := hk3.frozen 2
        have hk4 := ((hk3.set_ 0 (.string T)).set_ 1 (.string T)).set_ 2 (.slice none 0 0)
        have t0 := hk4.cell 0
        have t1 := hk4.cell 1
        have t2 := hk4.cell 2
        simp at t0 t1 t2
        have hfin : RKeepOut (keepF f wish zeros) w (.returned (.agg #[.string T, .string T, .slice none 0 0])) (((w0.setCell ⟨b + 1, 0, none⟩ (.string T)).setCell ⟨b + 1, 1, none⟩ (.string T)).setCell ⟨b + 1, 2, none⟩ (.slice none 0 0)) := by
          rw [HKF2.out]
          refine ⟨by simp only []; rw [txtV_self], ?_⟩
          have hbz : w.heap.size ≤ b + 1 := by rw [HBB.out]; omega
          exact ((HBB1.out.setCell hbz _).setCell hbz _).setCell hbz _
        have HFIN := Lib.hid hfin
        clear hfin hk3 hk4
        go_wp2_with fail
        go_loopg [11, 15] m (fun g s11 s15 wr => wr = w0 ∧ s11 = .string T ∧ s15 = .int .i64 0)
        case atStart => exact ⟨rfl, rfl, rfl⟩
        case round =>
          obtain ⟨hwr, rfl, rfl⟩ := hrel
          subst wr
          by_cases hm0 : m = 0
          · have el : decide ((0 : Int) < (m : Int)) = false := by simp; omega
            have el' : decide (0 < m) = false := by simp; omega
            clear hm0
            go_wp2_with fail
            exact bodyPost_ret (v := .agg #[.string T, .string T, .slice none 0 0]) (by simp [results, Tryz.results69, go_sem, t0, t1, t2]) rfl HFIN.out
          · have el : decide ((0 : Int) < (m : Int)) = true := by simp; omega
            have el' : decide (0 < m) = true := by simp; omega
            clear hm0
            go_wp2_with fail
            exact bodyPost_ret (v := .agg #[.string T, .string T, .slice none 0 0]) (by simp [results, Tryz.results69, go_sem, t0, t1, t2]) rfl HFIN.out
      | true =>
        have hkf := HKF.out
        rw [if_pos rfl] at hkf
        have HKF2 := Lib.hid hkf
        clear hkf
        go_wp2_with fail
        go_loopg [11, 15] m (fun g s11 s15 wr => wr = w0 ∧ ∃ j : Nat, j + g = m ∧ s11 = .string (T ++ ⟨(List.replicate j (0 : UInt8)).toArray⟩) ∧ s15 = .int .i64 (j : Int))
        case atStart => exact ⟨rfl, 0, by omega, by rw [HREP0.out], rfl⟩
        case round =>
          obtain ⟨hwr, j, hjg, rfl, rfl⟩ := hrel
          subst wr
          have HJG := Lib.hid hjg
          have hsz := rep_size T j
          have HSN := Lib.hid (rep_snoc T j)
          obtain ⟨Q, hQ⟩ : ∃ Q, T ++ (⟨(List.replicate j (0 : UInt8)).toArray⟩ : ByteArray) = Q := ⟨_, rfl⟩
          rw [hQ] at hsz HSN ⊢
          have HQ := Lib.hid hQ
          have hqz : Q.size ≤ 17179869184 := by omega
          clear hjg hsz hQ
          by_cases hj : j < m
          · have el : decide ((j : Int) < (m : Int)) = true := by simp; omega
            have el' : decide (j < m) = true := by simp; omega
            go_wp2_with fail
            go_roundg (gk - 1)
            case measure => have := HJG.out; omega
            case rel => exact ⟨rfl, j + 1, by have := HJG.out; omega, by rw [HSN.out], by go_num⟩
          · have el : decide ((j : Int) < (m : Int)) = false := by simp; omega
            have el' : decide (j < m) = false := by simp; omega
            have hjm : j = U - L := by have := HJG.out; have := HM.out; omega
            have hk3 := HK3.out
            have r0 := hk3.cell 0
            have r1 := hk3.cell 1
            have r2 := hk3.cell 2
            simp at r0 r1 r2
            have s0 := hk3.frozen 0
            have s1 := hk3.frozen 1
            have s2 := hk3.frozen 2
            have hk4 := ((hk3.set_ 0 (.string Q)).set_ 1 (.string Q)).set_ 2 (.slice none 0 0)
            have t0 := hk4.cell 0
            have t1 := hk4.cell 1
            have t2 := hk4.cell 2
            simp at t0 t1 t2
            have hfin : RKeepOut (keepF f wish zeros) w (.returned (.agg #[.string Q, .string Q, .slice none 0 0])) (((w0.setCell ⟨b + 1, 0, none⟩ (.string Q)).setCell ⟨b + 1, 1, none⟩ (.string Q)).setCell ⟨b + 1, 2, none⟩ (.slice none 0 0)) := by
              rw [HKF2.out]
              have e1 : T.data.toList ++ List.replicate (U - L) 0 = Q.data.toList := by rw [← HQ.out, ← hjm]; simp
              refine ⟨by simp only []; rw [e1, txtV_self], ?_⟩
              have hbz : w.heap.size ≤ b + 1 := by rw [HBB.out]; omega
              exact ((HBB1.out.setCell hbz _).setCell hbz _).setCell hbz _
            have HFIN := Lib.hid hfin
            clear hfin hk3 hk4 hjm
            go_wp2_with fail
            exact bodyPost_ret (v := .agg #[.string Q, .string Q, .slice none 0 0]) (by simp [results, Tryz.results69, go_sem, t0, t1, t2]) rfl HFIN.out
end Go.Proofs.YtdaidbnbfjgjeaaGreatDoor
