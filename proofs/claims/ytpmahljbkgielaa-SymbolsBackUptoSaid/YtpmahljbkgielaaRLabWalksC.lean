/- The walks of the document's layer 5: Pack; the statements' 'ref'. -/
import Derived.Test.YtpmahljbkgielaaRLabWalksB
namespace Go.Proofs.Ytpmahljbkgielaa
open Go.RowKit Go.Sort
attribute [local go_sem ↓] Go.wp_at_zero Go.wp_at_succ
attribute [local go_sem] Later.cell Later.frozen

set_option maxRecDepth 100000 in
set_option maxHeartbeats 1000000 in
theorem rpack_calls (T : Option Addr) (m c0 : Nat) (t : List Txt) (l : List Lb) (A : Option Addr) (n c : Nat) (w : World) (s : Txt) (er : Nat) (hr : packR t l = (s, er)) (h : Strs w T m t) (hasc : Asc t) (ht : m * 16 ≤ 140737488351232) (hE : Elems w w.heap.size 2 encLb A n l) (hnm : n ≤ 140737488351232) (hz : ∀ x ∈ l, x.n.length ≤ 140737488351232 ∧ x.v.length ≤ 140737488351232) :
    Calls Try.prog 17 #[.slice T m c0, .slice A n c] w fun e w' => e = .returned (.tuple #[.string ⟨s.toArray⟩, .int .i64 er]) ∧ Below w.heap.size w w' := by
  have henc := rencode_calls l A n c w hE hnm hz
  obtain ⟨ee, hee⟩ : ∃ e, encErr l = e := ⟨_, rfl⟩
  rw [hee] at henc
  rw [packR, hee] at hr
  obtain ⟨EO, hEO⟩ : ∃ S : ByteArray, (⟨(encOut l).toArray⟩ : ByteArray) = S := ⟨_, rfl⟩
  rw [hEO] at henc
  have HENC := Lib.hid henc
  clear henc hEO hz
  by_cases h0 : ee = 0
  · subst h0
    have hmk : makeErr l = 0 := by
      rcases encErr_cases l with ⟨h1, h2⟩ | ⟨h1, _⟩ | ⟨h1, _⟩
      · rw [h2] at hee; exact hee
      · exact h1
      · exact h1
    obtain ⟨hn0, hn8, hfit, _⟩ := makeErr_ok hmk
    have hl := hE.len
    have htl := h.len
    obtain ⟨b, off, rfl, _, _⟩ := hE.2 (by omega)
    obtain ⟨R, hR⟩ : ∃ R, packS t (texts l) = R := ⟨_, rfl⟩
    rw [if_neg (by simp), hR, hl] at hr
    have HR := Lib.hid hr
    have HRR := Lib.hid hR
    have HL := Lib.hid hl
    have HTL := Lib.hid htl
    have hn8' : n ≤ 8 := by omega
    have hnp : 0 < n := by omega
    have hu := ruint_calls n (by omega)
    have hlu := uintT_len n
    obtain ⟨U, hU⟩ : ∃ U : ByteArray, (⟨(uintT n).toArray⟩ : ByteArray) = U := ⟨_, rfl⟩
    have hUU : U.data.toList = uintT n := by rw [← hU]
    have hUz : U.size ≤ 11 := by rw [← text_size, hUU]; exact hlu.2
    rw [hU] at hu
    have HU := Lib.hid hu
    have HUU := Lib.hid hUU
    clear hr hR hl hfit hmk hee hu hU hUU hlu hn0 hn8 htl
    go_enter Try.func17, Try.ntmps17
    go_wp2_with fail
    refine HENC.out.mono ?_
    rintro e w1 ⟨rfl, hb1⟩
    go_wp2_with fail
    refine (HU.out w1).mono ?_
    rintro e w2 ⟨rfl, hb2⟩
    have hB2 := then_ hb1 hb2
    clear HENC HU hb1 hb2
    go_wp2_with fail
    go_loopg [8, 9] n (fun g s8 s9 wr => ∃ (i : Nat) (S : ByteArray) (D : List UInt8), i + g = n ∧ s9 = .int .i64 (i : Int) ∧ s8 = .string S ∧ S.data.toList = uintT n ++ D ∧ S.size ≤ 11 + 22 * i ∧ R = (packS t (texts (l.drop i))).map (D ++ ·) ∧ Below w.heap.size w wr)
    case atStart => exact ⟨0, U, [], by omega, rfl, rfl, by rw [HUU.out]; simp, by omega, by rw [List.drop_zero, HRR.out]; simp, hB2⟩
    case round =>
      obtain ⟨i, S, D, hig, rfl, rfl, hSD, hSz, hRd, hB⟩ := hrel
      have HIG := Lib.hid hig
      have HSD := Lib.hid hSD
      have HRD := Lib.hid hRd
      clear hig hSD hRd
      by_cases hi : i < n
      · have hil : i < l.length := by have := HL.out; omega
        have el : decide ((i : Int) < (n : Int)) = true := by simp; omega
        have el' : decide (i < n) = true := by simp; omega
        obtain ⟨hbl, c0, c1⟩ := lab_at hE hnp hB i hil
        obtain ⟨x, hx⟩ : ∃ x, l[i]! = x := ⟨_, rfl⟩
        rw [hx] at c0 c1
        obtain ⟨N, hN⟩ : ∃ N : ByteArray, (⟨x.n.toArray⟩ : ByteArray) = N := ⟨_, rfl⟩
        obtain ⟨V, hV⟩ : ∃ N : ByteArray, (⟨x.v.toArray⟩ : ByteArray) = N := ⟨_, rfl⟩
        rw [hN] at c0
        rw [hV] at c1
        have hNn : N.data.toList = x.n := by rw [← hN]
        have hVv : V.data.toList = x.v := by rw [← hV]
        have hdr : l.drop i = x :: l.drop (i + 1) := by rw [List.drop_eq_getElem_cons hil, ← hx, getElem!_pos l i hil]
        have hrd := HRD.out
        rw [hdr, texts_cons] at hrd
        obtain ⟨k1, e1, hk1⟩ : ∃ k e, numR t x.n = (k, e) := ⟨_, _, rfl⟩
        obtain ⟨k2, e2, hk2⟩ : ∃ k e, numR t x.v = (k, e) := ⟨_, _, rfl⟩
        have hs1 := numR_small hk1
        have hs2 := numR_small hk2
        rw [HTL.out] at hs1 hs2
        have HK1 := Lib.hid (show numR t N.data.toList = (k1, e1) by rw [hNn, hk1])
        have HK2 := Lib.hid (show numR t V.data.toList = (k2, e2) by rw [hVv, hk2])
        have HKK1 := Lib.hid hk1
        have HKK2 := Lib.hid hk2
        have HRD2 := Lib.hid hrd
        have hbr : b < wr.heap.size := by have := hB.size; omega
        clear hx hN hV hNn hVv hdr hrd hk1 hk2 HRD
        go_wp2_with fail
        refine (rnumber_calls t T m _ N wr k1 e1 HK1.out (h.below hB) hasc ht).mono ?_
        rintro e v2 ⟨rfl, rfl⟩
        go_wp2_with fail
        refine (rnumber_calls t T m _ V wr k2 e2 HK2.out (h.below hB) hasc ht).mono ?_
        rintro e v2 ⟨rfl, rfl⟩
        by_cases he1 : e1 = 0
        · subst he1
          by_cases he2 : e2 = 0
          · subst he2
            have hu1 := fun w => ruint_calls k1 (by omega) w
            have hlu1 := uintT_len k1
            obtain ⟨U1, hU1⟩ : ∃ U : ByteArray, (⟨(uintT k1).toArray⟩ : ByteArray) = U := ⟨_, rfl⟩
            have hUU1 : U1.data.toList = uintT k1 := by rw [← hU1]
            have hUz1 : U1.size ≤ 11 := by rw [← text_size, hUU1]; exact hlu1.2
            rw [hU1] at hu1
            have hu2 := fun w => ruint_calls k2 (by omega) w
            have hlu2 := uintT_len k2
            obtain ⟨U2, hU2⟩ : ∃ U : ByteArray, (⟨(uintT k2).toArray⟩ : ByteArray) = U := ⟨_, rfl⟩
            have hUU2 : U2.data.toList = uintT k2 := by rw [← hU2]
            have hUz2 : U2.size ≤ 11 := by rw [← text_size, hUU2]; exact hlu2.2
            rw [hU2] at hu2
            have HU1 := Lib.hid hu1
            have HUU1 := Lib.hid hUU1
            have HU2 := Lib.hid hu2
            have HUU2 := Lib.hid hUU2
            clear hu1 hU1 hUU1 hlu1 hu2 hU2 hUU2 hlu2 c0 c1
            go_wp2_with fail
            refine (HU1.out wr).mono ?_
            rintro e v3 ⟨rfl, hb3⟩
            have hB3' := then_ hB hb3
            go_wp2_with fail
            refine (HU2.out v3).mono ?_
            rintro e v4 ⟨rfl, hb4⟩
            have hB4' := then_ hB3' hb4
            go_wp2_with fail
            go_roundg (gk - 1)
            case measure => have := HIG.out; omega
            case rel =>
              refine ⟨i + 1, _, (D ++ uintT k1) ++ uintT k2, by have := HIG.out; omega, by go_num, rfl, ?_, ?_, packS_step (packS_step HRD2.out HKK1.out) HKK2.out, hB4'⟩
              · simp only [ByteArray.data_append, Array.toList_append, HSD.out, HUU1.out, HUU2.out, List.append_assoc]
              · simp only [ByteArray.size_append]
                omega
          · have ee2 : ((e2 : Int) != 0) = true := by simp; omega
            have hRn := packS_bad (packS_step HRD2.out HKK1.out) HKK2.out he2
            obtain ⟨hs', he'⟩ : [] = s ∧ 50 = er := by have := HR.out; rw [hRn] at this; simpa using this
            subst hs' he'
            clear hRn
            go_wp2_with fail
            go_ret2
            exact ⟨rfl, hB⟩
        · have ee1 : ((e1 : Int) != 0) = true := by simp; omega
          have hRn := packS_bad HRD2.out HKK1.out he1
          obtain ⟨hs', he'⟩ : [] = s ∧ 50 = er := by have := HR.out; rw [hRn] at this; simpa using this
          subst hs' he'
          clear hRn
          go_wp2_with fail
          go_ret2
          exact ⟨rfl, hB⟩
      · have el : decide ((i : Int) < (n : Int)) = false := by simp; omega
        have el' : decide (i < n) = false := by simp; omega
        have hfin : R = some D := by
          rw [HRD.out, List.drop_of_length_le (by have := HL.out; omega)]
          simp [texts, packS]
        have hr := HR.out
        rw [hfin] at hr
        obtain ⟨hs', he'⟩ : uintT n ++ D = s ∧ 0 = er := by simpa using hr
        subst hs' he'
        clear hfin hr
        go_wp2_with fail
        go_ret2
        exact ⟨ret2 (congrArg Value.string (str_eq (by rw [HSD.out]))) rfl, hB⟩
  · rw [if_pos h0] at hr
    obtain ⟨rfl, rfl⟩ : [] = s ∧ ee = er := by simpa using hr
    have ee0 : ((ee : Int) != 0) = true := by simp; omega
    clear hr hee
    go_enter Try.func17, Try.ntmps17
    go_wp2_with fail
    refine HENC.out.mono ?_
    rintro e w1 ⟨rfl, hb1⟩
    go_wp2_with fail
    go_ret2
    exact ⟨rfl, hb1⟩

def RefOut (w : World) (l : List Lb) (e : Ending) (w' : World) : Prop :=
  ∃ A c, e = .returned (.slice A l.length c) ∧ Elems w' w'.heap.size 2 encLb A l.length l ∧ l.length ≤ c ∧ Below w.heap.size w w' ∧ ∀ a, A = some a → w.heap.size ≤ a.block ∧ a.block < w'.heap.size

set_option maxRecDepth 100000 in
set_option maxHeartbeats 1000000 in
theorem ref05_calls (l : List Lb) (A : Option Addr) (n c : Nat) (w : World) (hE : Elems w w.heap.size 2 encLb A n l) (hnm : n * 32 ≤ 140737488351232) :
    Calls Try.prog 18 #[.slice A n c] w (RefOut w l) := by
  obtain ⟨i0, hi0, hz0, hz1, hz2⟩ := info_parts info_rlab
  have hl := hE.len
  have HL := Lib.hid hl
  clear hl
  go_enter Try.func18, Try.ntmps18
  go_wp2_with fail
  go_loopg [3, 8] n (fun g s3 s8 wr => ∃ (i : Nat) (v3 : Value), v3 = s3 ∧ i + g = n ∧ s8 = .int .i64 (i : Int) ∧ RLabs w.heap.size wr v3 (l.take i) ∧ Below w.heap.size w wr)
  case atStart => exact ⟨0, _, rfl, by omega, rfl, World.ownsRow_nil _ _ _ _, Below.refl _ _⟩
  case round =>
    obtain ⟨i, v3, rfl, hig, rfl, hown, hB⟩ := hrel
    have HIG := Lib.hid hig
    clear hig
    by_cases hi : i < n
    · have hil : i < l.length := by have := HL.out; omega
      have el : decide ((i : Int) < (n : Int)) = true := by simp; omega
      have el' : decide (i < n) = true := by simp; omega
      obtain ⟨b, off, rfl, _, _⟩ := hE.2 (by omega)
      obtain ⟨hbl, c0, c1⟩ := lab_at hE (by omega) hB i hil
      obtain ⟨x, hx⟩ : ∃ x, l[i]! = x := ⟨_, rfl⟩
      rw [hx] at c0 c1
      obtain ⟨N, hN⟩ : ∃ N : ByteArray, (⟨x.n.toArray⟩ : ByteArray) = N := ⟨_, rfl⟩
      obtain ⟨V, hV⟩ : ∃ N : ByteArray, (⟨x.v.toArray⟩ : ByteArray) = N := ⟨_, rfl⟩
      rw [hN] at c0
      rw [hV] at c1
      have hbr : b < wr.heap.size := by have := hB.size; omega
      have htk : l.take (i + 1) = l.take i ++ [x] := by rw [List.take_succ_eq_append_getElem hil, ← hx, getElem!_pos l i hil]
      have htl : (l.take i).length = i := by rw [List.length_take]; omega
      obtain ⟨ys, hys⟩ : ∃ ys, l.take i = ys := ⟨_, rfl⟩
      rw [hys] at htl hown htk
      have hownY : wr.ownsRow w.heap.size 74 2 v3 i (ys.flatMap encLb) := by have := hown; unfold RLabs at this; rw [htl] at this; exact this
      have HTK := Lib.hid htk
      have HTL := Lib.hid htl
      have HN := Lib.hid hN
      have HV := Lib.hid hV
      clear hx hN hV htk htl hys hown
      go_upto_region 5 with fail
      have hB1 : Below w.heap.size w (wr.alloc (.cells #[.string N, .string V] 69)) := hB.alloc hB.size _
      have hq : Blk (wr.alloc (.cells #[.string N, .string V] 69)) wr.heap.size 69 #[.string N, .string V] := Blk.new _ _ _
      have hown1 := hownY.alloc (.cells #[.string N, .string V] 69)
      obtain ⟨w1, hw1⟩ : ∃ w1, wr.alloc (.cells #[.string N, .string V] 69) = w1 := ⟨_, rfl⟩
      obtain ⟨p, hp⟩ : ∃ p, wr.heap.size = p := ⟨_, rfl⟩
      rw [hw1] at hB1 hq hown1 ⊢
      rw [hp] at hq ⊢
      clear hw1 hp c0 c1 hB hownY hbr
      have q0 : _ = some (Value.string N) := hq.cell 0
      have q1 : _ = some (Value.string V) := hq.cell 1
      go_wp2_with (at_builtin; refine wpList_append_own_at _ rfl _ _ 40 rfl w.heap.size 74 i0 (.agg #[.string ⟨#[]⟩, .string ⟨#[]⟩]) 2 32 Try.underlying40 hi0 hz0 hz1 hz2 rfl (by decide) _ _ _ rfl (hown1.alloc _) ⟨w1.heap.size, 0, none⟩ 1 1 [.string N, .string V] rfl rfl ?p1 ?p2 ?p3 ?p4 ?p5 ?_)
      case p1 => exact news_of_blk (l := [.string N, .string V]) (Blk.new w1 _ _)
      case p2 => intro u hu; simp at hu; rcases hu with rfl | rfl <;> rfl
      case p3 => unfold maxLen; omega
      case p4 => omega
      case p5 => have := hB1.size; simp; omega
      intro v' w2 hown' hgrow hx9 hat
      have hB2 : Below w.heap.size w w2 := own_below hB1 hB1.size hown1 hgrow
      have hown2 : RLabs w.heap.size w2 v' (l.take (i + 1)) := by
        have e1 : (ys ++ [x]).flatMap encLb = ys.flatMap encLb ++ [.string N, .string V] := by rw [List.flatMap_append]; simp [encLb, HN.out, HV.out]
        unfold RLabs
        rw [HTK.out, e1, List.length_append, HTL.out]
        exact hown'
      clear hown' hgrow hx9 hat hown1 q0 q1 hq
      go_wp2_with fail
      go_roundg (gk - 1)
      case measure => have := HIG.out; omega
      case rel => exact ⟨i + 1, _, rfl, by have := HIG.out; omega, by go_num, hown2, hB2⟩
    · have el : decide ((i : Int) < (n : Int)) = false := by simp; omega
      have el' : decide (i < n) = false := by simp; omega
      have htk : l.take i = l := List.take_of_length_le (by have := HL.out; omega)
      rw [htk] at hown
      obtain ⟨A', c', rfl, hE', _, hc'⟩ := Elems.of_own (enc := encLb) (fun x _ => encLb_len x) rfl hown rfl
      have hfr : ∀ a, A' = some a → w.heap.size ≤ a.block ∧ a.block < wr.heap.size := fun a ha => hown.lt a.block (by rw [ha]; rfl)
      have HFR := Lib.hid hfr
      clear htk hfr
      go_wp2_with fail
      go_ret
      exact ⟨A', c', rfl, hE', hc', hB, HFR.out⟩
end Go.Proofs.Ytpmahljbkgielaa
