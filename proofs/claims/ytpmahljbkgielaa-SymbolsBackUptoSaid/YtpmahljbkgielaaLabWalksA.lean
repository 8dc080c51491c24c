/- The walks of layer 4 (labels): what fits, and the document's. -/
import Derived.Test.YtpmahljbkgielaaLabPlain
import Derived.Test.YtpmahljbkgielaaEncWalksD
namespace Go.Proofs.Ytpmahljbkgielaa
open Go.RowKit
attribute [local go_sem ↓] Go.wp_at_zero Go.wp_at_succ
attribute [local go_sem] Later.cell Later.frozen

theorem ok_prog (d : Bool) (b : UInt8) : okB d b = ((d && (decide ((48 : Int) ≤ (b.toNat : Int)) && decide ((b.toNat : Int) ≤ 57))) || !(((b.toNat : Int) != 95) && (decide (bits .or .u8 (b.toNat : Int) 32 < 97) || decide (122 < bits .or .u8 (b.toNat : Int) 32)))) := by
  have key : ∀ (x : Fin 256) (d : Bool), okB d (UInt8.ofNat x.val) = ((d && (decide ((48 : Int) ≤ (x.val : Int)) && decide ((x.val : Int) ≤ 57))) || !(((x.val : Int) != 95) && (decide (bits .or .u8 (x.val : Int) 32 < 97) || decide (122 < bits .or .u8 (x.val : Int) 32)))) := by decide +kernel
  have h := key ⟨b.toNat, UInt8.toNat_lt b⟩ d
  simp only [UInt8.ofNat_toNat] at h
  exact h
theorem ok_ref (d : Bool) (b : UInt8) : okB d b = ((((decide ((97 : Int) ≤ (b.toNat : Int)) && decide ((b.toNat : Int) ≤ 122)) || (decide ((65 : Int) ≤ (b.toNat : Int)) && decide ((b.toNat : Int) ≤ 90))) || ((b.toNat : Int) == 95)) || ((decide ((48 : Int) ≤ (b.toNat : Int)) && decide ((b.toNat : Int) ≤ 57)) && d)) := by
  have key : ∀ (x : Fin 256) (d : Bool), okB d (UInt8.ofNat x.val) = ((((decide ((97 : Int) ≤ (x.val : Int)) && decide ((x.val : Int) ≤ 122)) || (decide ((65 : Int) ≤ (x.val : Int)) && decide ((x.val : Int) ≤ 90))) || ((x.val : Int) == 95)) || ((decide ((48 : Int) ≤ (x.val : Int)) && decide ((x.val : Int) ≤ 57)) && d)) := by decide +kernel
  have h := key ⟨b.toNat, UInt8.toNat_lt b⟩ d
  simp only [UInt8.ofNat_toNat] at h
  exact h
theorem empty_size (s : ByteArray) : s.toList.isEmpty = decide (s.size = 0) := by
  rw [ByteArray.toList_eq, Bool.eq_iff_iff]
  simp only [List.isEmpty_iff, decide_eq_true_eq]
  rw [← text_size]
  constructor
  · intro h; rw [h]; rfl
  · intro h; exact List.eq_nil_of_length_eq_zero h
theorem allOk_step {s : ByteArray} {i : Nat} (h : i < s.size) {R : Bool} (hr : allOk (decide (0 < i)) (s.data.toList.drop i) = R) : (okB (decide (0 < i)) s[i] && allOk (decide (0 < i + 1)) (s.data.toList.drop (i + 1))) = R := by
  rw [drop_byte h, allOk] at hr
  simpa using hr

set_option maxRecDepth 100000 in
set_option maxHeartbeats 1000000 in
theorem fitname_calls (s : ByteArray) (r : Bool) (hr : fitN s.data.toList = r) (hs : s.size ≤ 140737488351232) (w : World) :
    Calls Try.prog 70 #[.string s] w fun e w' => e = .returned (.bool r) ∧ w = w' := by
  obtain ⟨R, hR⟩ : ∃ R, allOk false s.data.toList = R := ⟨_, rfl⟩
  have hrr : (R && (decide (1 ≤ s.size) && decide (s.size ≤ 32))) = r := by rw [← hr, ← hR, fitN, text_size, Bool.and_assoc]
  have HRR := Lib.hid hrr
  have HR := Lib.hid hR
  clear hr hrr hR
  go_enter Try.func70, Try.ntmps70
  go_upto_block 0 with fail
  go_cut [] (fun wz => wz = w ∧ R = true)
  case first =>
    go_wp2_with fail
    go_loopg [7] s.size (fun g s7 wr => wr = w ∧ ∃ i : Nat, i + g = s.size ∧ s7 = .int .i64 (i : Int) ∧ allOk (decide (0 < i)) (s.data.toList.drop i) = R)
    case atStart => exact ⟨rfl, 0, by omega, rfl, by simpa using HR.out⟩
    case round =>
      obtain ⟨rfl, i, hig, rfl, hall⟩ := hrel
      obtain ⟨w, rfl⟩ : ∃ x, x = wr := ⟨_, rfl⟩
      have HIG := Lib.hid hig
      have HALL := Lib.hid hall
      clear hig hall
      by_cases hi : i < s.size
      · have hst := allOk_step hi HALL.out
        obtain ⟨b, hb⟩ : ∃ b, s[i] = b := ⟨_, rfl⟩
        have hbl := UInt8.toNat_lt b
        rw [hb, ok_prog] at hst
        obtain ⟨x48, h48⟩ : ∃ x, decide ((48 : Int) ≤ (b.toNat : Int)) = x := ⟨_, rfl⟩
        obtain ⟨x57, h57⟩ : ∃ x, decide ((b.toNat : Int) ≤ 57) = x := ⟨_, rfl⟩
        obtain ⟨x0, h0⟩ : ∃ x, decide (0 < i) = x := ⟨_, rfl⟩
        obtain ⟨x95, h95⟩ : ∃ x, ((b.toNat : Int) != 95) = x := ⟨_, rfl⟩
        obtain ⟨xa, ha⟩ : ∃ x, decide (bits .or .u8 (b.toNat : Int) 32 < 97) = x := ⟨_, rfl⟩
        obtain ⟨xz, hz⟩ : ∃ x, decide (122 < bits .or .u8 (b.toNat : Int) 32) = x := ⟨_, rfl⟩
        rw [h48, h57, h0, h95, ha, hz] at hst
        have HST := Lib.hid hst
        have H0 := Lib.hid h0
        clear hst
        have el : decide ((i : Int) < (s.size : Int)) = true := by simp; omega
        have el' : decide (i < s.size) = true := by simp; omega
        go_upto_region 5 with fail
        clear hb
        go_cut [13] (fun s13 wz => s13 = .bool (x48 && x57) ∧ wz = w)
        case first =>
          cases x48 <;> cases x57
          all_goals
            go_wp2_with fail
            go_meet
            exact ⟨rfl, rfl⟩
        case rest =>
          obtain ⟨rfl, rfl⟩ := hcut
          obtain ⟨w, rfl⟩ : ∃ x, x = wc := ⟨_, rfl⟩
          obtain ⟨dg, hdg⟩ : ∃ d, (x48 && x57) = d := ⟨_, rfl⟩
          have hst := HST.out
          rw [hdg] at hst ⊢
          have HST2 := Lib.hid hst
          clear HST hst hdg h48 h57
          obtain ⟨skip, hskip⟩ : ∃ d, (x0 && dg) = d := ⟨_, rfl⟩
          cases skip with
          | true =>
            obtain ⟨rfl, rfl⟩ : x0 = true ∧ dg = true := by simpa using hskip
            clear hskip
            go_wp2_with fail
            go_roundg (gk - 1)
            case measure => have := HIG.out; omega
            case rel => exact ⟨rfl, i + 1, by have := HIG.out; omega, by go_num, by have := HST2.out; simpa using this⟩
          | false =>
            have hst := HST2.out
            rw [hskip] at hst
            have HST3 := Lib.hid hst
            clear hst HST2
            cases dg <;> cases x0
            case true.true => simp at hskip
            all_goals
              clear hskip
              go_upto_region 7 with fail
              go_cut [33] (fun s33 wz => s33 = .bool (x95 && (xa || xz)) ∧ wz = w)
              case first =>
                cases x95 <;> cases xa <;> cases xz
                all_goals
                  go_wp2_with fail
                  go_meet
                  exact ⟨rfl, rfl⟩
              case rest =>
                obtain ⟨rfl, rfl⟩ := hcut
                obtain ⟨w, rfl⟩ : ∃ x, x = wc := ⟨_, rfl⟩
                obtain ⟨bad, hbad⟩ : ∃ d, (x95 && (xa || xz)) = d := ⟨_, rfl⟩
                have hst := HST3.out
                rw [hbad] at hst ⊢
                have HST4 := Lib.hid hst
                clear hst HST3 hbad
                cases bad with
                | true =>
                  have hRf : R = false := by have := HST4.out; simpa using this.symm
                  have hrf : r = false := by rw [← HRR.out, hRf]; rfl
                  subst hrf
                  clear hRf
                  go_wp2_with fail
                  go_ret
                  exact ⟨rfl, rfl⟩
                | false =>
                  go_wp2_with fail
                  go_roundg (gk - 1)
                  case measure => have := HIG.out; omega
                  case rel => exact ⟨rfl, i + 1, by have := HIG.out; omega, by go_num, by have := HST4.out; simpa using this⟩
      · have hRt : R = true := by
          have := HALL.out
          rw [List.drop_of_length_le (by rw [text_size]; omega), allOk] at this
          exact this.symm
        have HRT := Lib.hid hRt
        clear hRt
        go_wp2_with fail
        go_meet
        exact ⟨rfl, HRT.out⟩
  case rest =>
    obtain ⟨rfl, hRt⟩ := hcut
    obtain ⟨w, rfl⟩ : ∃ x, x = wc := ⟨_, rfl⟩
    have hrr := HRR.out
    rw [hRt, Bool.true_and] at hrr
    have HRR2 := Lib.hid hrr
    clear hrr hRt
    by_cases h0 : s.size = 0
    · have hE : s.toList.isEmpty = true := by rw [empty_size]; simp [h0]
      have hL : s.toList = [] := by simpa using hE
      have hrf : r = false := by rw [← HRR2.out, h0]; rfl
      subst hrf
      clear h0
      go_wp2_with fail
      go_ret
      exact ⟨rfl, rfl⟩
    · have hE : s.toList.isEmpty = false := by rw [empty_size]; simp [h0]
      obtain ⟨x, hx⟩ : ∃ x, decide ((s.size : Int) ≤ 32) = x := ⟨_, rfl⟩
      have hrf : r = x := by
        rw [← HRR2.out, ← hx, Bool.eq_iff_iff]
        simp only [Bool.and_eq_true, decide_eq_true_eq]
        omega
      subst hrf
      clear h0
      go_wp2_with fail
      go_ret
      exact ⟨rfl, rfl⟩

set_option maxHeartbeats 400000 in
theorem fitvalue_calls (s : ByteArray) (r : Bool) (hr : fitV s.data.toList = r) (hs : s.size ≤ 140737488351232) (w : World) :
    Calls Try.prog 71 #[.string s] w fun e w' => e = .returned (.bool r) ∧ w = w' := by
  have hrr : (decide (1 ≤ s.size) && decide (s.size ≤ 64)) = r := by rw [← hr, fitV, text_size]
  have HRR2 := Lib.hid hrr
  clear hr hrr
  by_cases h0 : s.size = 0
  · have hE : s.toList.isEmpty = true := by rw [empty_size]; simp [h0]
    have hL : s.toList = [] := by simpa using hE
    have hrf : r = false := by rw [← HRR2.out, h0]; rfl
    subst hrf
    clear h0
    go_enter Try.func71, Try.ntmps71
    go_wp2_with fail
    go_ret
    exact ⟨rfl, rfl⟩
  · have hE : s.toList.isEmpty = false := by rw [empty_size]; simp [h0]
    obtain ⟨x, hx⟩ : ∃ x, decide ((s.size : Int) ≤ 64) = x := ⟨_, rfl⟩
    have hrf : r = x := by
      rw [← HRR2.out, ← hx, Bool.eq_iff_iff]
      simp only [Bool.and_eq_true, decide_eq_true_eq]
      omega
    subst hrf
    clear h0
    go_enter Try.func71, Try.ntmps71
    go_wp2_with fail
    go_ret
    exact ⟨rfl, rfl⟩

set_option maxHeartbeats 400000 in
theorem rfitvalue_calls (s : ByteArray) (r : Bool) (hr : fitV s.data.toList = r) (hs : s.size ≤ 140737488351232) (w : World) :
    Calls Try.prog 51 #[.string s] w fun e w' => e = .returned (.bool r) ∧ w = w' := by
  have hrr : (decide (1 ≤ s.size) && decide (s.size ≤ 64)) = r := by rw [← hr, fitV, text_size]
  obtain ⟨x1, h1⟩ : ∃ x, decide ((1 : Int) ≤ (s.size : Int)) = x := ⟨_, rfl⟩
  obtain ⟨x2, h2⟩ : ∃ x, decide ((s.size : Int) ≤ 64) = x := ⟨_, rfl⟩
  have hrf : (x1 && x2) = r := by
    rw [← hrr, ← h1, ← h2, Bool.eq_iff_iff]
    simp only [Bool.and_eq_true, decide_eq_true_eq]
    omega
  subst hrf
  have h1' : decide (1 ≤ s.size) = x1 := by rw [← h1, decide_eq_decide]; omega
  clear hr hrr
  cases x1 <;> cases x2
  all_goals
    go_enter Try.func51, Try.ntmps51
    go_wp2_with fail
    go_ret
    exact ⟨rfl, rfl⟩

set_option maxRecDepth 100000 in
set_option maxHeartbeats 1000000 in
theorem rfitname_calls (s : ByteArray) (r : Bool) (hr : fitN s.data.toList = r) (hs : s.size ≤ 140737488351232) (w : World) :
    Calls Try.prog 50 #[.string s] w fun e w' => e = .returned (.bool r) ∧ w = w' := by
  obtain ⟨R, hR⟩ : ∃ R, allOk false s.data.toList = R := ⟨_, rfl⟩
  have hrr : (R && (decide (1 ≤ s.size) && decide (s.size ≤ 32))) = r := by rw [← hr, ← hR, fitN, text_size, Bool.and_assoc]
  have HRR := Lib.hid hrr
  have HR := Lib.hid hR
  clear hr hrr hR
  go_enter Try.func50, Try.ntmps50
  go_upto_block 0 with fail
  go_cut [] (fun wz => wz = w ∧ R = true)
  case first =>
    go_wp2_with fail
    go_loopg [3] s.size (fun g s3 wr => wr = w ∧ ∃ i : Nat, i + g = s.size ∧ s3 = .int .i64 (i : Int) ∧ allOk (decide (0 < i)) (s.data.toList.drop i) = R)
    case atStart => exact ⟨rfl, 0, by omega, rfl, by simpa using HR.out⟩
    case round =>
      obtain ⟨rfl, i, hig, rfl, hall⟩ := hrel
      obtain ⟨w, rfl⟩ : ∃ x, x = wr := ⟨_, rfl⟩
      have HIG := Lib.hid hig
      have HALL := Lib.hid hall
      clear hig hall
      by_cases hi : i < s.size
      · have hst := allOk_step hi HALL.out
        obtain ⟨b, hb⟩ : ∃ b, s[i] = b := ⟨_, rfl⟩
        have hbl := UInt8.toNat_lt b
        rw [hb, ok_ref] at hst
        obtain ⟨x97, h97⟩ : ∃ x, decide ((97 : Int) ≤ (b.toNat : Int)) = x := ⟨_, rfl⟩
        obtain ⟨x122, h122⟩ : ∃ x, decide ((b.toNat : Int) ≤ 122) = x := ⟨_, rfl⟩
        obtain ⟨x65, h65⟩ : ∃ x, decide ((65 : Int) ≤ (b.toNat : Int)) = x := ⟨_, rfl⟩
        obtain ⟨x90, h90⟩ : ∃ x, decide ((b.toNat : Int) ≤ 90) = x := ⟨_, rfl⟩
        obtain ⟨x95, h95⟩ : ∃ x, ((b.toNat : Int) == 95) = x := ⟨_, rfl⟩
        obtain ⟨x48, h48⟩ : ∃ x, decide ((48 : Int) ≤ (b.toNat : Int)) = x := ⟨_, rfl⟩
        obtain ⟨x57, h57⟩ : ∃ x, decide ((b.toNat : Int) ≤ 57) = x := ⟨_, rfl⟩
        obtain ⟨x0, h0⟩ : ∃ x, decide (0 < i) = x := ⟨_, rfl⟩
        rw [h97, h122, h65, h90, h95, h48, h57, h0] at hst
        have HST := Lib.hid hst
        have hz0 : ((i : Int) == 0) = !x0 := by
          rw [← h0, Bool.eq_iff_iff]
          simp
        have H0 := Lib.hid h0
        clear hst
        have el : decide ((i : Int) < (s.size : Int)) = true := by simp; omega
        have el' : decide (i < s.size) = true := by simp; omega
        go_upto_region 5 with fail
        clear hb
        go_cut [5] (fun s5 wz => s5 = .bool (((x97 && x122) || (x65 && x90)) || x95) ∧ wz = w)
        case first =>
          clear h48 h57 h0 hz0
          cases x97 <;> cases x122 <;> cases x65 <;> cases x90 <;> cases x95
          all_goals
            go_wp2_with fail
            go_meet
            exact ⟨rfl, rfl⟩
        case rest =>
          obtain ⟨rfl, rfl⟩ := hcut
          obtain ⟨w, rfl⟩ : ∃ x, x = wc := ⟨_, rfl⟩
          obtain ⟨lt, hlt⟩ : ∃ d, (((x97 && x122) || (x65 && x90)) || x95) = d := ⟨_, rfl⟩
          have hst := HST.out
          rw [hlt] at hst ⊢
          have HST2 := Lib.hid hst
          clear HST hst hlt h97 h122 h65 h90 h95
          go_upto_region 6 with fail
          go_cut [6] (fun s6 wz => s6 = .bool (x48 && x57) ∧ wz = w)
          case first =>
            cases x48 <;> cases x57
            all_goals
              go_wp2_with fail
              go_meet
              exact ⟨rfl, rfl⟩
          case rest =>
            obtain ⟨rfl, rfl⟩ := hcut
            obtain ⟨w, rfl⟩ : ∃ x, x = wc := ⟨_, rfl⟩
            obtain ⟨dg, hdg⟩ : ∃ d, (x48 && x57) = d := ⟨_, rfl⟩
            have hst := HST2.out
            rw [hdg] at hst ⊢
            have HST3 := Lib.hid hst
            clear HST2 hst hdg h48 h57
            go_upto_region 7 with fail
            go_cut [49] (fun s49 wz => s49 = .bool (!(lt || (dg && x0))) ∧ wz = w)
            case first =>
              cases lt <;> cases dg <;> cases x0
              all_goals
                go_wp2_with fail
                go_meet
                exact ⟨rfl, rfl⟩
            case rest =>
              obtain ⟨rfl, rfl⟩ := hcut
              obtain ⟨w, rfl⟩ : ∃ x, x = wc := ⟨_, rfl⟩
              obtain ⟨ok, hok⟩ : ∃ d, (lt || (dg && x0)) = d := ⟨_, rfl⟩
              have hst := HST3.out
              rw [hok] at hst ⊢
              have HST4 := Lib.hid hst
              clear HST3 hst hok h0 hz0
              cases ok with
              | false =>
                have hRf : R = false := by have := HST4.out; simpa using this.symm
                have hrf : r = false := by rw [← HRR.out, hRf]; rfl
                subst hrf
                clear hRf
                go_wp2_with fail
                go_ret
                exact ⟨rfl, rfl⟩
              | true =>
                go_wp2_with fail
                go_roundg (gk - 1)
                case measure => have := HIG.out; omega
                case rel => exact ⟨rfl, i + 1, by have := HIG.out; omega, by go_num, by have := HST4.out; simpa using this⟩
      · have hRt : R = true := by
          have := HALL.out
          rw [List.drop_of_length_le (by rw [text_size]; omega), allOk] at this
          exact this.symm
        have HRT := Lib.hid hRt
        clear hRt
        go_wp2_with fail
        go_meet
        exact ⟨rfl, HRT.out⟩
  case rest =>
    obtain ⟨rfl, hRt⟩ := hcut
    obtain ⟨w, rfl⟩ : ∃ x, x = wc := ⟨_, rfl⟩
    have hrr := HRR.out
    rw [hRt, Bool.true_and] at hrr
    obtain ⟨x1, h1⟩ : ∃ x, decide ((1 : Int) ≤ (s.size : Int)) = x := ⟨_, rfl⟩
    obtain ⟨x2, h2⟩ : ∃ x, decide ((s.size : Int) ≤ 32) = x := ⟨_, rfl⟩
    have hrf : r = (x1 && x2) := by
      rw [← hrr, ← h1, ← h2, Bool.eq_iff_iff]
      simp only [Bool.and_eq_true, decide_eq_true_eq]
      omega
    have h1' : decide (1 ≤ s.size) = x1 := by rw [← h1, decide_eq_decide]; omega
    have HRF := Lib.hid hrf
    clear hrr hRt hrf
    cases x1 <;> cases x2
    all_goals
      go_wp2_with fail
      go_ret
      exact ⟨ret_bool (by rw [HRF.out]; rfl), rfl⟩
end Go.Proofs.Ytpmahljbkgielaa
