/- The walks of layer 5 (symbols): Pack; the statements' 'is' and 'wakes'. -/
import Derived.Test.YtpmahljbkgielaaSymWalksB
namespace Go.Proofs.Ytpmahljbkgielaa
open Go.RowKit Go.Sort
attribute [local go_sem ↓] Go.wp_at_zero Go.wp_at_succ
attribute [local go_sem] Later.cell Later.frozen

/-- The numbers of texts, one behind the other. -/
def packS (t : List Txt) : List Txt → Option (List UInt8)
  | [] => some []
  | x :: r => if (numR t x).2 ≠ 0 then none else (packS t r).map (uintT (numR t x).1 ++ ·)
def texts (l : List Lb) : List Txt := l.flatMap fun x => [x.n, x.v]
def packR (t : List Txt) (l : List Lb) : List UInt8 × Nat :=
  if encErr l ≠ 0 then ([], encErr l) else match packS t (texts l) with | none => ([], 50) | some b => (uintT l.length ++ b, 0)
theorem packS_step {t : List Txt} {x : Txt} {r : List Txt} {R : Option (List UInt8)} {D : List UInt8} {k : Nat} (h : R = (packS t (x :: r)).map (D ++ ·)) (hk : numR t x = (k, 0)) : R = (packS t r).map ((D ++ uintT k) ++ ·) := by
  rw [h, packS, if_neg (by rw [hk]; simp), hk, Option.map_map]
  congr 1
  funext b
  simp
theorem packS_bad {t : List Txt} {x : Txt} {r : List Txt} {R : Option (List UInt8)} {D : List UInt8} {k e : Nat} (h : R = (packS t (x :: r)).map (D ++ ·)) (hk : numR t x = (k, e)) (he : e ≠ 0) : R = none := by
  rw [h, packS, if_pos (by rw [hk]; exact he)]
  rfl
theorem numR_bad {t : List Txt} {x : Txt} {k e : Nat} (h : numR t x = (k, e)) (he : e ≠ 0) : e = 50 := by
  unfold numR at h
  split at h
  · injection h with _ h; omega
  · injection h with _ h; exact h.symm
theorem numR_small {t : List Txt} {x : Txt} {k e : Nat} (h : numR t x = (k, e)) : k ≤ t.length := by
  have := below_le t x
  unfold numR at h
  split at h <;> injection h with h1 h2 <;> omega
theorem texts_cons (x : Lb) (l : List Lb) : texts (x :: l) = x.n :: x.v :: texts l := rfl
theorem arr2_0 (a b : Value) (w : World) : (Instr.index 72 (.agg #[a, b]) (.int .i64 0)).run Try.prog w = .ok a w := by kernel_rfl
theorem arr2_1 (a b : Value) (w : World) : (Instr.index 72 (.agg #[a, b]) (.int .i64 1)).run Try.prog w = .ok b w := by kernel_rfl

set_option maxRecDepth 100000 in
set_option maxHeartbeats 1000000 in
theorem pack_calls (v : Value) (t : List Txt) (l : List Lb) (A : Option Addr) (n c : Nat) (w : World) (s : Txt) (er : Nat) (hr : packR t l = (s, er)) (h : TabAt w v t) (hasc : Asc t) (ht : t.length * 16 ≤ 140737488351232) (hE : Elems w w.heap.size 2 encLb A n l) (hnc : n ≤ c) (hnm : n ≤ 140737488351232) (hz : ∀ x ∈ l, x.n.length ≤ 140737488351232 ∧ x.v.length ≤ 140737488351232) :
    Calls Try.prog 16 #[v, .slice A n c] w fun e w' => e = .returned (.tuple #[.string ⟨s.toArray⟩, .int .i64 er]) ∧ Below w.heap.size w w' := by
  have henc := encode_calls l A n c w hE hnc hnm hz
  obtain ⟨ee, hee⟩ : ∃ e, encErr l = e := ⟨_, rfl⟩
  rw [hee] at henc
  rw [packR, hee] at hr
  obtain ⟨EO, hEO⟩ : ∃ S : ByteArray, (⟨(encOut l).toArray⟩ : ByteArray) = S := ⟨_, rfl⟩
  rw [hEO] at henc
  have HENC := Lib.hid henc
  clear henc hEO hz
  by_cases h0 : ee = 0
  · subst h0
    have hmk : makeErr l = 0 := by
      rcases encErr_cases l with ⟨h1, h2⟩ | ⟨h1, _⟩ | ⟨h1, _⟩
      · rw [h2] at hee; exact hee
      · exact h1
      · exact h1
    obtain ⟨hn0, hn8, hfit, _⟩ := makeErr_ok hmk
    have hl := hE.len
    obtain ⟨b, off, rfl, _, _⟩ := hE.2 (by omega)
    obtain ⟨R, hR⟩ : ∃ R, packS t (texts l) = R := ⟨_, rfl⟩
    rw [if_neg (by simp), hR, hl] at hr
    have HR := Lib.hid hr
    have HRR := Lib.hid hR
    have HL := Lib.hid hl
    have HFIT := Lib.hid hfit
    have hn8' : n ≤ 8 := by omega
    have hnp : 0 < n := by omega
    have hu := uint_calls n (by omega)
    have hlu := uintT_len n
    obtain ⟨U, hU⟩ : ∃ U : ByteArray, (⟨(uintT n).toArray⟩ : ByteArray) = U := ⟨_, rfl⟩
    have hUU : U.data.toList = uintT n := by rw [← hU]
    have hUz : U.size ≤ 11 := by rw [← text_size, hUU]; exact hlu.2
    rw [hU] at hu
    have HU := Lib.hid hu
    have HUU := Lib.hid hUU
    clear hr hR hl hfit hmk hee hu hU hUU hlu hn0 hn8
    go_enter Try.func16, Try.ntmps16
    go_wp2_with fail
    refine HENC.out.mono ?_
    rintro e w1 ⟨rfl, hb1⟩
    go_wp2_with fail
    refine (HU.out w1).mono ?_
    rintro e w2 ⟨rfl, hb2⟩
    have hB2 := then_ hb1 hb2
    clear HENC HU hb1 hb2
    go_upto_block 0 with fail
    go_cut [8] (fun s8 wz => ∃ S : ByteArray, s8 = .string S ∧ R = some (S.data.toList.drop (uintT n).length) ∧ S.data.toList = uintT n ++ S.data.toList.drop (uintT n).length ∧ Below w.heap.size w wz)
    case first =>
      go_wp2_with fail
      go_loopg [8, 29] n (fun g s8 s29 wr => ∃ (i : Nat) (S : ByteArray) (D : List UInt8), i + g = n ∧ s29 = .int .i64 (i : Int) ∧ s8 = .string S ∧ S.data.toList = uintT n ++ D ∧ S.size ≤ 11 + 22 * i ∧ R = (packS t (texts (l.drop i))).map (D ++ ·) ∧ Below w.heap.size w wr)
      case atStart => exact ⟨0, U, [], by omega, rfl, rfl, by rw [HUU.out]; simp, by omega, by rw [List.drop_zero, HRR.out]; simp, hB2⟩
      case round =>
        obtain ⟨i, S, D, hig, rfl, rfl, hSD, hSz, hRd, hB⟩ := hrel
        have HIG := Lib.hid hig
        have HSD := Lib.hid hSD
        have HRD := Lib.hid hRd
        clear hig hSD hRd
        by_cases hi : i < n
        · have hil : i < l.length := by have := HL.out; omega
          have el : decide ((i : Int) < (n : Int)) = true := by simp; omega
          have el' : decide (i < n) = true := by simp; omega
          obtain ⟨hbl, c0, c1⟩ := lab_at hE hnp hB i hil
          obtain ⟨x, hx⟩ : ∃ x, l[i]! = x := ⟨_, rfl⟩
          rw [hx] at c0 c1
          obtain ⟨N, hN⟩ : ∃ N : ByteArray, (⟨x.n.toArray⟩ : ByteArray) = N := ⟨_, rfl⟩
          obtain ⟨V, hV⟩ : ∃ N : ByteArray, (⟨x.v.toArray⟩ : ByteArray) = N := ⟨_, rfl⟩
          rw [hN] at c0
          rw [hV] at c1
          have hNn : N.data.toList = x.n := by rw [← hN]
          have hVv : V.data.toList = x.v := by rw [← hV]
          have hdr : l.drop i = x :: l.drop (i + 1) := by rw [List.drop_eq_getElem_cons hil, ← hx, getElem!_pos l i hil]
          have hrd := HRD.out
          rw [hdr, texts_cons] at hrd
          obtain ⟨k1, e1, hk1⟩ : ∃ k e, numR t x.n = (k, e) := ⟨_, _, rfl⟩
          obtain ⟨k2, e2, hk2⟩ : ∃ k e, numR t x.v = (k, e) := ⟨_, _, rfl⟩
          have hs1 := numR_small hk1
          have hs2 := numR_small hk2
          have HK1 := Lib.hid (show numR t N.data.toList = (k1, e1) by rw [hNn, hk1])
          have HK2 := Lib.hid (show numR t V.data.toList = (k2, e2) by rw [hVv, hk2])
          have HKK1 := Lib.hid hk1
          have HKK2 := Lib.hid hk2
          have HRD2 := Lib.hid hrd
          clear hx hN hV hNn hVv hdr hrd hk1 hk2 HRD
          have hix : ∀ (a b : Value) (w : World), (Instr.index 72 (.agg #[a, b]) (.int .i64 0)).run Try.prog w = .ok a w := arr2_0
          have hiy : ∀ (a b : Value) (w : World), (Instr.index 72 (.agg #[a, b]) (.int .i64 1)).run Try.prog w = .ok b w := arr2_1
          go_upto_region 8 with fail
          have hB1 : Below w.heap.size w (wr.alloc (.cells #[.string N, .string V] 69)) := hB.alloc hB.size _
          have hq : Blk (wr.alloc (.cells #[.string N, .string V] 69)) wr.heap.size 69 #[.string N, .string V] := Blk.new _ _ _
          obtain ⟨v1, hv1⟩ : ∃ w1, wr.alloc (.cells #[.string N, .string V] 69) = w1 := ⟨_, rfl⟩
          obtain ⟨q, hqq⟩ : ∃ p, wr.heap.size = p := ⟨_, rfl⟩
          rw [hv1] at hB1 hq ⊢
          rw [hqq] at hq ⊢
          clear hv1 hqq c0 c1 hB
          have q0 : _ = some (Value.string N) := hq.cell 0
          have q1 : _ = some (Value.string V) := hq.cell 1
          go_wp2_with fail
          refine wp_loop_rounds 3 ?_
          rw [rounds_succ]
          go_wp2_with fail
          refine (number_calls v t N v1 k1 e1 HK1.out (h.below hB1) hasc ht).mono ?_
          rintro e v2 ⟨rfl, hb2⟩
          have hB2' := then_ hB1 hb2
          by_cases he1 : e1 = 0
          · subst he1
            have hu1 := uint_calls k1 (by omega) v2
            have hlu1 := uintT_len k1
            obtain ⟨U1, hU1⟩ : ∃ U : ByteArray, (⟨(uintT k1).toArray⟩ : ByteArray) = U := ⟨_, rfl⟩
            have hUU1 : U1.data.toList = uintT k1 := by rw [← hU1]
            have hUz1 : U1.size ≤ 11 := by rw [← text_size, hUU1]; exact hlu1.2
            rw [hU1] at hu1
            have HU1 := Lib.hid hu1
            have HUU1 := Lib.hid hUU1
            clear hu1 hU1 hUU1 hlu1 q0 q1 hq
            go_wp2_with fail
            refine HU1.out.mono ?_
            rintro e v3 ⟨rfl, hb3⟩
            have hB3' := then_ hB2' hb3
            go_wp2_with fail
            rw [rounds_succ]
            go_wp2_with fail
            refine (number_calls v t V v3 k2 e2 HK2.out (h.below hB3') hasc ht).mono ?_
            rintro e v4 ⟨rfl, hb4⟩
            have hB4' := then_ hB3' hb4
            by_cases he2 : e2 = 0
            · subst he2
              have hu2 := uint_calls k2 (by omega) v4
              have hlu2 := uintT_len k2
              obtain ⟨U2, hU2⟩ : ∃ U : ByteArray, (⟨(uintT k2).toArray⟩ : ByteArray) = U := ⟨_, rfl⟩
              have hUU2 : U2.data.toList = uintT k2 := by rw [← hU2]
              have hUz2 : U2.size ≤ 11 := by rw [← text_size, hUU2]; exact hlu2.2
              rw [hU2] at hu2
              have HU2 := Lib.hid hu2
              have HUU2 := Lib.hid hUU2
              clear hu2 hU2 hUU2 hlu2
              go_wp2_with fail
              refine HU2.out.mono ?_
              rintro e v5 ⟨rfl, hb5⟩
              have hB5' := then_ hB4' hb5
              go_wp2_with fail
              rw [rounds_succ]
              go_wp2_with fail
              go_roundg (gk - 1)
              case measure => have := HIG.out; omega
              case rel =>
                refine ⟨i + 1, _, (D ++ uintT k1) ++ uintT k2, by have := HIG.out; omega, by go_num, rfl, ?_, ?_, packS_step (packS_step HRD2.out HKK1.out) HKK2.out, hB5'⟩
                · simp only [ByteArray.data_append, Array.toList_append, HSD.out, HUU1.out, HUU2.out, List.append_assoc]
                · simp only [ByteArray.size_append]
                  omega
            · have ee2 : ((e2 : Int) != 0) = true := by simp; omega
              have hRn := packS_bad (packS_step HRD2.out HKK1.out) HKK2.out he2
              have he50 := numR_bad HKK2.out he2
              obtain ⟨hs', he'⟩ : [] = s ∧ 50 = er := by have := HR.out; rw [hRn] at this; simpa using this
              have HE := Lib.hid (he50.trans he')
              subst hs'
              clear hRn he50 he'
              go_wp2_with fail
              go_ret2
              exact ⟨ret2 rfl (vi (by rw [HE.out])), hB4'⟩
          · have ee1 : ((e1 : Int) != 0) = true := by simp; omega
            have hRn := packS_bad HRD2.out HKK1.out he1
            have he50 := numR_bad HKK1.out he1
            obtain ⟨hs', he'⟩ : [] = s ∧ 50 = er := by have := HR.out; rw [hRn] at this; simpa using this
            have HE := Lib.hid (he50.trans he')
            subst hs'
            clear hRn he50 he' q0 q1 hq
            go_wp2_with fail
            go_ret2
            exact ⟨ret2 rfl (vi (by rw [HE.out])), hB2'⟩
        · have el : decide ((i : Int) < (n : Int)) = false := by simp; omega
          have el' : decide (i < n) = false := by simp; omega
          have hfin : R = some D := by
            rw [HRD.out, List.drop_of_length_le (by have := HL.out; omega)]
            simp [texts, packS]
          have HF := Lib.hid hfin
          clear hfin
          go_wp2_with fail
          go_meet
          refine ⟨S, rfl, ?_, ?_, hB⟩
          · rw [HSD.out, HF.out]; simp
          · rw [HSD.out]; simp
    case rest =>
      obtain ⟨S, rfl, hRS, hSS, hB⟩ := hcut
      have hr := HR.out
      rw [hRS] at hr
      obtain ⟨hs', he'⟩ : uintT n ++ S.data.toList.drop (uintT n).length = s ∧ 0 = er := by simpa using hr
      have hS2 : S.data.toList = s := by rw [← hs']; exact hSS
      have HS := Lib.hid hS2
      have HE := Lib.hid he'
      clear hr hRS hSS hs' he' hS2
      go_wp2_with fail
      go_ret2
      exact ⟨ret2 (congrArg Value.string (str_eq (by rw [HS.out]))) (vi (by rw [← HE.out]; rfl)), hB⟩
  · rw [if_pos h0] at hr
    obtain ⟨rfl, rfl⟩ : [] = s ∧ ee = er := by simpa using hr
    have ee0 : ((ee : Int) != 0) = true := by simp; omega
    clear hr hee
    go_enter Try.func16, Try.ntmps16
    go_wp2_with fail
    refine HENC.out.mono ?_
    rintro e w1 ⟨rfl, hb1⟩
    go_wp2_with fail
    go_ret2
    exact ⟨rfl, hb1⟩
end Go.Proofs.Ytpmahljbkgielaa
