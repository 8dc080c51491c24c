/- The walks of layer 5: the document's Unpack. -/
import Derived.Test.YtpmahljbkgielaaUnpWalksA
namespace Go.Proofs.Ytpmahljbkgielaa
open Go.RowKit Go.Sort
attribute [local go_sem ↓] Go.wp_at_zero Go.wp_at_succ
attribute [local go_sem] Later.cell Later.frozen

def UnpOut (w : World) (R : List Lb × Nat × Nat) (en : Ending) (w' : World) : Prop :=
  ∃ A c, en = .returned (.tuple #[.slice A R.1.length c, .int .i64 (R.2.1 : Nat), .int .i64 (R.2.2 : Nat)]) ∧ Elems w' w'.heap.size 2 encLb A R.1.length R.1 ∧ R.1.length ≤ c ∧ Below w.heap.size w w'
theorem UnpOut.bad {w w' : World} {e : Nat} {en : Ending} (h : en = .returned (.tuple #[.slice none 0 0, .int .i64 0, .int .i64 (e : Nat)])) (hB : Below w.heap.size w w') : UnpOut w ([], 0, e) en w' :=
  ⟨none, 0, h, Elems.nil_, Nat.le_refl _, hB⟩
theorem low_cases {x z : Txt} {X Z : ByteArray} (hX : (⟨x.toArray⟩ : ByteArray) = X) (hZ : (⟨z.toArray⟩ : ByteArray) = Z) : (Op.bytesLess X.toList Z.toList || X.toList == Z.toList) = true ↔ ¬ z < x := by
  have h1 : Op.bytesLess X.toList Z.toList = decide (x < z) := by rw [← hX, less_txt, ← hZ]
  have h2 : (X.toList == Z.toList) = decide (x = z) := by
    rw [← hX, ← hZ, ByteArray.toList_eq, ByteArray.toList_eq, Bool.eq_iff_iff]; simp
  rw [h1, h2, Bool.or_eq_true, decide_eq_true_eq, decide_eq_true_eq]
  constructor
  · rintro (h | rfl)
    · exact List.lt_asymm h
    · exact List.lt_irrefl _
  · intro h
    by_cases h3 : x < z
    · exact .inl h3
    · exact .inr (txt_tri h3 h)
theorem unpL_step {t : List Txt} {s : List UInt8} {g : Nat} {out : List Lb} {p : Nat} {R : List Lb × Nat × Nat} (h : unpL t s (g + 1) out p = R) {x y : Txt} {n1 e1 n2 e2 : Nat} (h1 : symR t s p = (x, n1, e1)) (h2 : symR t s n1 = (y, n2, e2)) :
    (if e1 ≠ 0 then ([], 0, e1) else if e2 ≠ 0 then ([], 0, e2) else if fitN x = false then ([], 0, 40) else if fitV y = false then ([], 0, 41) else if tooLow out x = true then ([], 0, 42) else unpL t s g (out ++ [⟨x, y⟩]) n2) = R := by
  rw [unpL, h1] at h
  dsimp only at h
  rw [h2] at h
  exact h

set_option maxRecDepth 100000 in
set_option maxHeartbeats 2000000 in
theorem runpack_calls (t : List Txt) (A : Option Addr) (m c : Nat) (s : ByteArray) (k : Int) (w : World) (R : List Lb × Nat × Nat) (hr : unpR t s.data.toList k = R) (h : Strs w A m t) (hm : m * 16 ≤ 140737488351232) (hs : s.size ≤ 140737488351232) (hz : ∀ x ∈ t, x.length ≤ 140737488351232) :
    Calls Try.prog 24 #[.slice A m c, .string s, .int .i64 k] w (UnpOut w R) := by
  obtain ⟨i0, hi0, hz0, hz1, hz2⟩ := info_parts info_rlab
  obtain ⟨v1, n1, e1, h1⟩ : ∃ v n e, readAt s.data.toList k = (v, n, e) := ⟨_, _, _, rfl⟩
  have H1 := Lib.hid h1
  have HZ := Lib.hid hz
  rw [unpR, h1] at hr
  dsimp only at hr
  clear h1 hz
  by_cases he : e1 = 0
  · subst he
    rw [if_neg (by simp)] at hr
    by_cases hv0 : v1 = 0
    · subst hv0
      rw [if_pos rfl] at hr
      subst hr
      go_enter Try.func24, Try.ntmps24
      go_wp2_with fail
      refine (rreaduint_calls s k 0 n1 0 H1.out hs w).mono ?_
      rintro _ w1 ⟨rfl, rfl⟩
      go_wp2_with fail
      go_ret3
      exact UnpOut.bad rfl (Below.refl _ _)
    · rw [if_neg hv0] at hr
      have ev0 : ((v1 : Int) == 0) = false := by rw [beq_eq_false_iff_ne]; omega
      by_cases hv8 : 8 < v1
      · rw [if_pos hv8] at hr
        subst hr
        have ev8 : decide ((8 : Int) < (v1 : Int)) = true := by simp; omega
        go_enter Try.func24, Try.ntmps24
        go_wp2_with fail
        refine (rreaduint_calls s k v1 n1 0 H1.out hs w).mono ?_
        rintro _ w1 ⟨rfl, rfl⟩
        go_wp2_with fail
        go_ret3
        exact UnpOut.bad rfl (Below.refl _ _)
      · rw [if_neg hv8] at hr
        have ev8 : decide ((8 : Int) < (v1 : Int)) = false := by simp; omega
        have HR := Lib.hid hr
        clear hr hv0
        go_enter Try.func24, Try.ntmps24
        go_wp2_with fail
        refine (rreaduint_calls s k v1 n1 0 H1.out hs w).mono ?_
        rintro _ w1 ⟨rfl, rfl⟩
        go_wp2_with fail
        go_loopg [10, 12, 13] v1 (fun g s10 s12 s13 wr => ∃ (i p : Nat) (ys : List Lb) (v12 : Value), v12 = s12 ∧ i + g = v1 ∧ s13 = .int .i64 (i : Int) ∧ s10 = .int .i64 (p : Int) ∧ ys.length = i ∧ RLabs w.heap.size wr v12 ys ∧ unpL t s.data.toList g ys p = R ∧ Below w.heap.size w wr)
        case atStart => exact ⟨0, n1, [], _, rfl, by omega, rfl, rfl, rfl, World.ownsRow_nil _ _ _ _, HR.out, Below.refl _ _⟩
        case round =>
          obtain ⟨i, p, ys, v12, rfl, hig, rfl, rfl, hyl, hown, hU, hB⟩ := hrel
          have HYL := Lib.hid hyl
          clear hyl
          by_cases hi : i < v1
          · have el : decide ((i : Int) < (v1 : Int)) = true := by simp; omega
            have el' : decide (i < v1) = true := by simp; omega
            obtain ⟨g, rfl⟩ : ∃ g, gk = g + 1 := ⟨gk - 1, by omega⟩
            obtain ⟨x, n2, e2, h2⟩ : ∃ x n e, symR t s.data.toList p = (x, n, e) := ⟨_, _, _, rfl⟩
            obtain ⟨y, n3, e3, h3⟩ : ∃ x n e, symR t s.data.toList n2 = (x, n, e) := ⟨_, _, _, rfl⟩
            have hst := unpL_step hU h2 h3
            have hxz : x.length ≤ 140737488351232 := by
              rcases symR_mem h2 with rfl | h
              · simp
              · exact HZ.out x h
            have hyz : y.length ≤ 140737488351232 := by
              rcases symR_mem h3 with rfl | h
              · simp
              · exact HZ.out y h
            have HIG := Lib.hid hig
            have HS2 := Lib.hid h2
            have HS3 := Lib.hid h3
            have HST := Lib.hid hst
            clear hig hU h2 h3 hst
            have hsw := h.below hB
            go_wp2_with fail
            refine (rsymbol_calls t A m c s p wr x n2 e2 HS2.out hsw hm hs).mono ?_
            rintro _ w1 ⟨rfl, rfl⟩
            by_cases he2 : e2 = 0
            · subst he2
              go_wp2_with fail
              refine (rsymbol_calls t A m c s n2 wr y n3 e3 HS3.out hsw hm hs).mono ?_
              rintro _ w1 ⟨rfl, rfl⟩
              by_cases he3 : e3 = 0
              · subst he3
                unfold txtV
                obtain ⟨X, hX⟩ : ∃ N : ByteArray, (⟨x.toArray⟩ : ByteArray) = N := ⟨_, rfl⟩
                obtain ⟨Y, hY⟩ : ∃ N : ByteArray, (⟨y.toArray⟩ : ByteArray) = N := ⟨_, rfl⟩
                have hXx : X.data.toList = x := by rw [← hX]
                have hYy : Y.data.toList = y := by rw [← hY]
                have hXz : X.size ≤ 140737488351232 := by rw [← text_size, hXx]; exact hxz
                have hYz : Y.size ≤ 140737488351232 := by rw [← text_size, hYy]; exact hyz
                obtain ⟨rn, hrn⟩ : ∃ r, fitN x = r := ⟨_, rfl⟩
                obtain ⟨rv, hrv⟩ : ∃ r, fitV y = r := ⟨_, rfl⟩
                have hst := HST.out
                rw [if_neg (by simp), if_neg (by simp), hrn, hrv] at hst
                have HRN := Lib.hid (show fitN X.data.toList = rn by rw [hXx, hrn])
                have HRV := Lib.hid (show fitV Y.data.toList = rv by rw [hYy, hrv])
                have HX := Lib.hid hX
                have HY := Lib.hid hY
                have HST2 := Lib.hid hst
                rw [hX, hY]
                clear hX hY hXx hYy hrn hrv hst HST hxz hyz
                go_wp2_with fail
                refine (rfitname_calls X rn HRN.out hXz wr).mono ?_
                rintro _ w1 ⟨rfl, rfl⟩
                go_wp2_with fail
                refine (rfitvalue_calls Y rv HRV.out hYz wr).mono ?_
                rintro _ w1 ⟨rfl, rfl⟩
                cases rn with
                | false =>
                  obtain rfl : ([], 0, 40) = R := by have := HST2.out; simpa using this
                  go_wp2_with fail
                  go_ret3
                  exact UnpOut.bad rfl hB
                | true =>
                  cases rv with
                  | false =>
                    obtain rfl : ([], 0, 41) = R := by have := HST2.out; simpa using this
                    go_wp2_with fail
                    go_ret3
                    exact UnpOut.bad rfl hB
                  | true =>
                    obtain ⟨q, hq⟩ : ∃ q, tooLow ys x = q := ⟨_, rfl⟩
                    have hst := HST2.out
                    rw [if_neg (by simp), if_neg (by simp), hq] at hst
                    have HST3 := Lib.hid hst
                    have HQ := Lib.hid hq
                    have hownY : wr.ownsRow w.heap.size 74 2 v12 i (ys.flatMap encLb) := by have := hown; unfold RLabs at this; rw [HYL.out] at this; exact this
                    clear hst hq HST2
                    go_upto_region 24 with fail
                    go_cut [82] (fun s82 wz => s82 = .bool q ∧ wz = wr)
                    case first =>
                      by_cases hi0' : i = 0
                      · subst hi0'
                        have hqf : q = false := by
                          rw [← HQ.out, tooLow, HYL.out]; simp
                        subst hqf
                        go_wp2_with fail
                        go_meet
                        exact ⟨rfl, rfl⟩
                      · obtain ⟨j, rfl⟩ : ∃ j, i = j + 1 := ⟨i - 1, by omega⟩
                        obtain ⟨g0, cap, rfl⟩ : ∃ g cap, v12 = .slice (some ⟨g, 0, none⟩) (j + 1) cap := by
                          rcases hownY.2 with ⟨_, h⟩ | ⟨g, cap, cur, rfl, h, _⟩
                          · omega
                          · exact ⟨g, cap, rfl⟩
                        obtain ⟨a0, _⟩ := rlab_cell hown HYL.out (k := j) (by omega)
                        obtain ⟨z, hz'⟩ : ∃ z, ys[j]! = z := ⟨_, rfl⟩
                        rw [hz'] at a0
                        obtain ⟨Z, hZ⟩ : ∃ N : ByteArray, (⟨z.n.toArray⟩ : ByteArray) = N := ⟨_, rfl⟩
                        have hlow := low_cases HX.out hZ
                        have hqq : q = true ↔ ¬ z.n < x := by
                          rw [← HQ.out, tooLow, HYL.out, decide_eq_true_eq, show j + 1 - 1 = j by omega, hz']
                          constructor
                          · exact fun h => h.2
                          · exact fun h => ⟨by omega, h⟩
                        obtain ⟨q1, hls⟩ : ∃ q, Op.bytesLess X.toList Z.toList = q := ⟨_, rfl⟩
                        obtain ⟨q2, heq⟩ : ∃ q, (X.toList == Z.toList) = q := ⟨_, rfl⟩
                        rw [hls, heq, ← hqq] at hlow
                        have hql : (q1 || q2) = q := by rw [Bool.eq_iff_iff]; exact hlow
                        rw [hZ] at a0
                        have HQL := Lib.hid hql
                        clear hlow hqq hZ hz' hql
                        have z0 : decide ((0 : Int) < ((j + 1 : Nat) : Int)) = true := by rw [decide_eq_true_eq]; omega
                        have z1 : IntKind.i64.wrap (((j + 1 : Nat) : Int) - 1) = (j : Int) := by rw [show ((j + 1 : Nat) : Int) - 1 = (j : Int) by omega]; exact IntWalk.i64_in _ (by omega)
                        have z5 : (j : Int) < ((j + 1 : Nat) : Int) := by omega
                        go_wp2_with fail
                        go_meet
                        exact ⟨by rw [← HQL.out], rfl⟩
                    case rest =>
                      obtain ⟨rfl, rfl⟩ := hcut
                      obtain ⟨w1, rfl⟩ : ∃ x, x = wc := ⟨_, rfl⟩
                      cases q with
                      | true =>
                        obtain rfl : ([], 0, 42) = R := by have := HST3.out; simpa using this
                        go_wp2_with fail
                        go_ret3
                        exact UnpOut.bad rfl hB
                      | false =>
                        go_wp2_with (at_builtin; refine wpList_append_own_at _ rfl _ _ 40 rfl w.heap.size 74 i0 (.agg #[.string ⟨#[]⟩, .string ⟨#[]⟩]) 2 32 Try.underlying40 hi0 hz0 hz1 hz2 rfl (by decide) _ _ _ rfl (hownY.alloc _) ⟨w1.heap.size, 0, none⟩ 1 1 [.string X, .string Y] rfl rfl ?p1 ?p2 ?p3 ?p4 ?p5 ?_)
                        case p1 => exact news_of_blk (l := [.string X, .string Y]) (Blk.new w1 _ _)
                        case p2 => intro u hu; simp at hu; rcases hu with rfl | rfl <;> rfl
                        case p3 => unfold maxLen; omega
                        case p4 => omega
                        case p5 => have := hB.size; simp; omega
                        intro v' w2 hown' hgrow hx9 hat
                        have hB2 : Below w.heap.size w w2 := own_below hB hB.size hownY hgrow
                        have hown2 : RLabs w.heap.size w2 v' (ys ++ [⟨x, y⟩]) := by
                          have e1 : (ys ++ [(⟨x, y⟩ : Lb)]).flatMap encLb = ys.flatMap encLb ++ [.string X, .string Y] := by rw [List.flatMap_append]; simp [encLb, HX.out, HY.out]
                          unfold RLabs
                          rw [e1, List.length_append, HYL.out]
                          exact hown'
                        clear hown' hgrow hx9 hat hownY
                        go_wp2_with fail
                        go_roundg g
                        case measure => omega
                        case rel => exact ⟨i + 1, n3, ys ++ [⟨x, y⟩], _, rfl, by have := HIG.out; omega, by go_num, rfl, by rw [List.length_append, HYL.out]; rfl, hown2, by simpa using HST3.out, hB2⟩
              · have ee : ((e3 : Int) != 0) = true := by simp; omega
                obtain rfl : ([], 0, e3) = R := by have := HST.out; rw [if_neg (by simp), if_pos he3] at this; exact this
                unfold txtV
                go_wp2_with fail
                go_ret3
                exact UnpOut.bad rfl hB
            · have ee : ((e2 : Int) != 0) = true := by simp; omega
              obtain rfl : ([], 0, e2) = R := by have := HST.out; rw [if_pos he2] at this; exact this
              unfold txtV
              go_wp2_with fail
              go_ret3
              exact UnpOut.bad rfl hB
          · have el : decide ((i : Int) < (v1 : Int)) = false := by simp; omega
            have el' : decide (i < v1) = false := by simp; omega
            obtain rfl : gk = 0 := by omega
            rw [unpL] at hU
            obtain rfl := hU
            obtain ⟨A', c', rfl, hE', _, hc'⟩ := Elems.of_own (enc := encLb) (fun x _ => encLb_len x) rfl hown rfl
            obtain ⟨ln, hln⟩ : ∃ k, ys.length = k := ⟨_, rfl⟩
            rw [hln] at hE' hc' ⊢
            have HLN := Lib.hid hln
            clear hig hln hown
            go_wp2_with fail
            go_ret3
            refine ⟨A', c', ?_, ?_, ?_, hB⟩
            · dsimp only; rw [HLN.out]; rfl
            · dsimp only; rw [HLN.out]; exact hE'
            · dsimp only; rw [HLN.out]; exact hc'
  · rw [if_pos he] at hr
    subst hr
    have ee : ((e1 : Int) != 0) = true := by simp; omega
    go_enter Try.func24, Try.ntmps24
    go_wp2_with fail
    refine (rreaduint_calls s k v1 n1 e1 H1.out hs w).mono ?_
    rintro _ w1 ⟨rfl, rfl⟩
    go_wp2_with fail
    go_ret3
    exact UnpOut.bad rfl (Below.refl _ _)
end Go.Proofs.Ytpmahljbkgielaa
