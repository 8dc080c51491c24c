/- The walks of layer 5: the code's Unpack. -/
import Derived.Test.YtpmahljbkgielaaUnpWalksB
import Derived.OneCell
namespace Go.Proofs.Ytpmahljbkgielaa
open Go.RowKit Go.Sort
attribute [local go_sem ↓] Go.wp_at_zero Go.wp_at_succ
attribute [local go_sem] Later.cell Later.frozen

/-- The row of labels of the code's kind. -/
def PLabs (B : Nat) (w : World) (v : Value) (ys : List Lb) : Prop := w.ownsRow B 69 2 v ys.length (ys.flatMap encLb)
theorem plab_cell {B : Nat} {w : World} {g n cap : Nat} {zs : List Lb} (h : PLabs B w (.slice (some ⟨g, 0, none⟩) n cap) zs) (hl : zs.length = n) {k : Nat} (hk : k < n) :
    w.cell? ⟨g, k * 2, none⟩ = some (.string ⟨zs[k]!.n.toArray⟩) ∧ w.cell? ⟨g, k * 2 + 1, none⟩ = some (.string ⟨zs[k]!.v.toArray⟩) := by
  unfold PLabs at h
  rw [hl] at h
  refine ⟨?_, ?_⟩
  · rw [h.cellAt (k * 2) (by omega), flat_get zs _ (by omega), show k * 2 / 2 = k by omega, show k * 2 % 2 = 0 by omega]; rfl
  · rw [h.cellAt (k * 2 + 1) (by omega), flat_get zs _ (by omega), show (k * 2 + 1) / 2 = k by omega, show (k * 2 + 1) % 2 = 1 by omega]; rfl
theorem plab_set {B : Nat} {w : World} {v : Value} {ys : List Lb} (h : PLabs B w v ys) {p i : Nat} (hp : v.ownBlock ≠ some p) (u : Value) : PLabs B (w.setCell ⟨p, i, none⟩ u) v ys :=
  ownsRow_setCell_other h (a := ⟨p, i, none⟩) hp u
theorem below_set {B : Nat} {w w' : World} (h : Below B w w') {p i : Nat} (hp : B ≤ p) (u : Value) : Below B w (w'.setCell ⟨p, i, none⟩ u) :=
  ⟨h.os, h.tape, h.output, by have := h.size; simpa using this, fun k hk => (Below.heap_setCell w' ⟨p, i, none⟩ u k (fun e => by simp at e; omega)).trans (h.block k hk)⟩
theorem own_new {w : World} {B : Nat} {v : Value} {ys : List Lb} (h : PLabs B w v ys) : v.ownBlock ≠ some w.heap.size := by
  intro e
  have := (h.lt _ e).2
  omega

set_option maxRecDepth 100000 in
set_option maxHeartbeats 2000000 in
theorem unpack_calls (v : Value) (t : List Txt) (s : ByteArray) (k : Int) (w : World) (R : List Lb × Nat × Nat) (hr : unpR t s.data.toList k = R) (h : TabAt w v t) (hm : t.length * 16 ≤ 140737488351232) (hs : s.size ≤ 140737488351232) (hz : ∀ x ∈ t, x.length ≤ 140737488351232) :
    Calls Try.prog 23 #[v, .string s, .int .i64 k] w (UnpOut w R) := by
  obtain ⟨i0, hi0, hz0, hz1, hz2⟩ := info_parts info_lab
  obtain ⟨v1, n1, e1, h1⟩ : ∃ v n e, readAt s.data.toList k = (v, n, e) := ⟨_, _, _, rfl⟩
  have H1 := Lib.hid h1
  have HZ := Lib.hid hz
  rw [unpR, h1] at hr
  dsimp only at hr
  clear h1 hz
  by_cases he : e1 = 0
  · subst he
    rw [if_neg (by simp)] at hr
    by_cases hv0 : v1 = 0
    · subst hv0
      rw [if_pos rfl] at hr
      subst hr
      go_enter Try.func23, Try.ntmps23
      go_wp2_with fail
      refine (readuint_calls s k 0 n1 0 H1.out hs w).mono ?_
      rintro _ w1 ⟨rfl, rfl⟩
      go_wp2_with fail
      go_ret3
      exact UnpOut.bad rfl (Below.refl _ _)
    · rw [if_neg hv0] at hr
      have ev0 : ((v1 : Int) == 0) = false := by rw [beq_eq_false_iff_ne]; omega
      by_cases hv8 : 8 < v1
      · rw [if_pos hv8] at hr
        subst hr
        have ev8 : decide ((8 : Int) < (v1 : Int)) = true := by simp; omega
        go_enter Try.func23, Try.ntmps23
        go_wp2_with fail
        refine (readuint_calls s k v1 n1 0 H1.out hs w).mono ?_
        rintro _ w1 ⟨rfl, rfl⟩
        go_wp2_with fail
        go_ret3
        exact UnpOut.bad rfl (Below.refl _ _)
      · rw [if_neg hv8] at hr
        have ev8 : decide ((8 : Int) < (v1 : Int)) = false := by simp; omega
        have HR := Lib.hid hr
        clear hr hv0
        go_enter Try.func23, Try.ntmps23
        go_wp2_with fail
        refine (readuint_calls s k v1 n1 0 H1.out hs w).mono ?_
        rintro _ w1 ⟨rfl, rfl⟩
        go_wp2_with fail
        go_loopg [2, 11, 34] v1 (fun g s2 s11 s34 wr => ∃ (i p : Nat) (ys : List Lb) (v11 : Value), v11 = s11 ∧ i + g = v1 ∧ s34 = .int .u64 (i : Int) ∧ s2 = .int .i64 (p : Int) ∧ ys.length = i ∧ PLabs w.heap.size wr v11 ys ∧ unpL t s.data.toList g ys p = R ∧ Below w.heap.size w wr)
        case atStart => exact ⟨0, n1, [], _, rfl, by omega, rfl, rfl, rfl, World.ownsRow_nil _ _ _ _, HR.out, Below.refl _ _⟩
        case round =>
          obtain ⟨i, p, ys, v11, rfl, hig, rfl, rfl, hyl, hown, hU, hB⟩ := hrel
          have HYL := Lib.hid hyl
          clear hyl
          by_cases hi : i < v1
          · have el : decide ((i : Int) < (v1 : Int)) = true := by simp; omega
            have el' : decide (i < v1) = true := by simp; omega
            obtain ⟨g, rfl⟩ : ∃ g, gk = g + 1 := ⟨gk - 1, by omega⟩
            obtain ⟨x, n2, e2, h2⟩ : ∃ x n e, symR t s.data.toList p = (x, n, e) := ⟨_, _, _, rfl⟩
            obtain ⟨y, n3, e3, h3⟩ : ∃ x n e, symR t s.data.toList n2 = (x, n, e) := ⟨_, _, _, rfl⟩
            have hst := unpL_step hU h2 h3
            have hxz : x.length ≤ 140737488351232 := by
              rcases symR_mem h2 with rfl | h
              · simp
              · exact HZ.out x h
            have hyz : y.length ≤ 140737488351232 := by
              rcases symR_mem h3 with rfl | h
              · simp
              · exact HZ.out y h
            have HIG := Lib.hid hig
            have HS2 := Lib.hid h2
            have HS3 := Lib.hid h3
            have HST := Lib.hid hst
            clear hig hU h2 h3 hst
            go_upto_region 12 with fail
            have hq1 : Blk (wr.alloc (.cells #[.string ⟨#[]⟩, .string ⟨#[]⟩] 69)) wr.heap.size 69 #[.string ⟨#[]⟩, .string ⟨#[]⟩] := Blk.new _ _ _
            have hB1 : Below w.heap.size w (wr.alloc (.cells #[.string ⟨#[]⟩, .string ⟨#[]⟩] 69)) := hB.alloc hB.size _
            have hown1 : PLabs w.heap.size (wr.alloc (.cells #[.string ⟨#[]⟩, .string ⟨#[]⟩] 69)) v11 ys := World.ownsRow.alloc hown _
            have hne := own_new hown
            have hpb := hB.size
            obtain ⟨w1, hw1⟩ : ∃ x, wr.alloc (.cells #[.string ⟨#[]⟩, .string ⟨#[]⟩] 69) = x := ⟨_, rfl⟩
            obtain ⟨p1, hp1⟩ : ∃ p, wr.heap.size = p := ⟨_, rfl⟩
            rw [hw1] at hq1 hB1 hown1 ⊢
            rw [hp1] at hq1 hne hpb ⊢
            clear hw1 hp1 hB hown
            have q0 : _ = some (Value.string ⟨#[]⟩) := hq1.cell 0
            have f0 := hq1.frozen 0
            unfold txtV at *
            obtain ⟨X, hX⟩ : ∃ N : ByteArray, (⟨x.toArray⟩ : ByteArray) = N := ⟨_, rfl⟩
            obtain ⟨Y, hY⟩ : ∃ N : ByteArray, (⟨y.toArray⟩ : ByteArray) = N := ⟨_, rfl⟩
            have hsy1 := fun w0 hw0 => symbol_calls v t s p w0 x n2 e2 HS2.out hw0 hm hs
            have hsy2 := fun w0 hw0 => symbol_calls v t s n2 w0 y n3 e3 HS3.out hw0 hm hs
            unfold txtV at hsy1 hsy2
            rw [hX] at hsy1
            rw [hY] at hsy2
            have SY1 := Lib.hid hsy1
            have SY2 := Lib.hid hsy2
            have HX := Lib.hid hX
            have HY := Lib.hid hY
            clear hsy1 hsy2 hX hY HS2 HS3
            go_wp2_with fail
            refine (SY1.out w1 (h.below hB1)).mono ?_
            rintro _ w1' ⟨rfl, rfl⟩
            go_upto_region 13 with fail
            have hq2 : Blk (w1.setCell ⟨p1, 0, none⟩ (.string X)) p1 69 #[.string X, .string ⟨#[]⟩] := hq1.set_ 0 _
            have hB2 := below_set hB1 hpb (.string X) (i := 0)
            have hown2 := plab_set hown1 hne (.string X) (i := 0)
            obtain ⟨w2, hw2⟩ : ∃ x, w1.setCell ⟨p1, 0, none⟩ (.string X) = x := ⟨_, rfl⟩
            rw [hw2] at hq2 hB2 hown2 ⊢
            clear hw2 hq1 hB1 hown1 q0 f0
            by_cases he2 : e2 = 0
            · subst he2
              have q1 : _ = some (Value.string ⟨#[]⟩) := hq2.cell 1
              have f1 := hq2.frozen 1
              go_wp2_with fail
              refine (SY2.out w2 (h.below hB2)).mono ?_
              rintro _ w2' ⟨rfl, rfl⟩
              go_upto_region 16 with fail
              have hq3 : Blk (w2.setCell ⟨p1, 1, none⟩ (.string Y)) p1 69 #[.string X, .string Y] := hq2.set_ 1 _
              have hB3 := below_set hB2 hpb (.string Y) (i := 1)
              have hown3 := plab_set hown2 hne (.string Y) (i := 1)
              obtain ⟨w3, hw3⟩ : ∃ x, w2.setCell ⟨p1, 1, none⟩ (.string Y) = x := ⟨_, rfl⟩
              rw [hw3] at hq3 hB3 hown3 ⊢
              clear hw3 hq2 hB2 hown2 q1 f1
              by_cases he3 : e3 = 0
              · subst he3
                have q0 : _ = some (Value.string X) := hq3.cell 0
                have q1 : _ = some (Value.string Y) := hq3.cell 1
                have hq4 : Blk (w3.alloc (.cells #[.string X, .string Y] 69)) w3.heap.size 69 #[.string X, .string Y] := Blk.new _ _ _
                have hE4 : Elems (w3.alloc (.cells #[.string X, .string Y] 69)) (w3.alloc (.cells #[.string X, .string Y] 69)).heap.size 2 encLb (some ⟨w3.heap.size, 0, none⟩) 1 [⟨x, y⟩] := by
                  refine ⟨rfl, fun _ => ⟨w3.heap.size, 0, rfl, hq4.lt, fun i' x' hx' j v' hv' => ?_⟩⟩
                  have hi' : i' = 0 := by have := (List.getElem?_eq_some_iff.1 hx').1; simpa using this
                  subst hi'
                  simp at hx'
                  subst hx'
                  rw [hq4.cell]
                  match j, hv' with
                  | 0, hv' => simpa [encLb, HX.out] using hv'
                  | 1, hv' => simpa [encLb, HY.out] using hv'
                  | j + 2, hv' => simp [encLb] at hv'
                have hB4 : Below w.heap.size w (w3.alloc (.cells #[.string X, .string Y] 69)) := hB3.alloc hB3.size _
                have hown4 : PLabs w.heap.size (w3.alloc (.cells #[.string X, .string Y] 69)) v11 ys := World.ownsRow.alloc hown3 _
                have hq4' := hq3.alloc (.cells #[.string X, .string Y] 69)
                have hmk := make_calls [⟨x, y⟩] _ 1 1 _ hE4 (by omega) (by omega) (by simp [hxz, hyz])
                rw [makeErr_one] at hmk
                dsimp only at hmk
                have HMK := Lib.hid hmk
                clear hmk hE4 hq4
                obtain ⟨rn, hrn⟩ : ∃ r, fitN x = r := ⟨_, rfl⟩
                obtain ⟨rv, hrv⟩ : ∃ r, fitV y = r := ⟨_, rfl⟩
                have hst := HST.out
                rw [if_neg (by simp), if_neg (by simp), hrn, hrv] at hst
                rw [hrn, hrv] at HMK
                have HST2 := Lib.hid hst
                clear hst HST hrn hrv
                go_wp2_with fail
                refine HMK.out.mono ?_
                rintro _ w5 ⟨⟨mv, rfl⟩, hb5⟩
                have hB5 := then_ hB4 hb5
                have hown5 : PLabs w.heap.size w5 v11 ys := own_later5 hown4 hb5
                have hq5 := hq4'.below hb5 hq4'.lt
                clear hB4 hown4 hq4' hb5 hq3 hB3 hown3 q0 q1 HMK
                cases rn with
                | false =>
                  obtain rfl : ([], 0, 40) = R := by have := HST2.out; simpa using this
                  go_wp2_with fail
                  go_ret3
                  exact UnpOut.bad rfl hB5
                | true =>
                  cases rv with
                  | false =>
                    obtain rfl : ([], 0, 41) = R := by have := HST2.out; simpa using this
                    go_wp2_with fail
                    go_ret3
                    exact UnpOut.bad rfl hB5
                  | true =>
                    obtain ⟨q, hq⟩ : ∃ q, tooLow ys x = q := ⟨_, rfl⟩
                    have hst := HST2.out
                    rw [if_neg (by simp), if_neg (by simp), hq] at hst
                    have HST3 := Lib.hid hst
                    have HQ := Lib.hid hq
                    have hownY : w5.ownsRow w.heap.size 69 2 v11 i (ys.flatMap encLb) := by have := hown5; unfold PLabs at this; rw [HYL.out] at this; exact this
                    obtain ⟨A', c', rfl, hE', _, hc'⟩ := Elems.of_own (enc := encLb) (fun x _ => encLb_len x) rfl hownY HYL.out
                    have q0 : _ = some (Value.string X) := hq5.cell 0
                    have hp5 := hq5.lt
                    clear hst hq HST2
                    go_upto_region 22 with fail
                    go_cut [15, 83] (fun _s15 s83 wz => s83 = .bool q ∧ Below w5.heap.size w5 wz)
                    case first =>
                      by_cases hi0' : i = 0
                      · subst hi0'
                        have hqf : q = false := by
                          rw [← HQ.out, tooLow, HYL.out]; simp
                        subst hqf
                        refine wp_region_later (by kernel_rfl) (by kernel_rfl) ?_
                        repeat (go_big_quiet_step (fail))
                        refine wpQuiet_nil ?_
                        rintro w6 ⟨⟨_, hb6⟩, rfl⟩
                        go_wp2_with fail
                        go_meet
                        exact ⟨rfl, hb6⟩
                      · obtain ⟨j, rfl⟩ : ∃ j, i = j + 1 := ⟨i - 1, by omega⟩
                        obtain ⟨g0, rfl⟩ : ∃ g, A' = some ⟨g, 0, none⟩ := by
                          rcases hownY.2 with ⟨_, h⟩ | ⟨g, cap, cur, h, _⟩
                          · omega
                          · injection h with h; exact ⟨g, h⟩
                        obtain ⟨a0, _⟩ := plab_cell hown5 HYL.out (k := j) (by omega)
                        obtain ⟨z, hz'⟩ : ∃ z, ys[j]! = z := ⟨_, rfl⟩
                        rw [hz'] at a0
                        obtain ⟨Z, hZ⟩ : ∃ N : ByteArray, (⟨z.n.toArray⟩ : ByteArray) = N := ⟨_, rfl⟩
                        have hqq : q = true ↔ ¬ z.n < x := by
                          rw [← HQ.out, tooLow, HYL.out, decide_eq_true_eq, show j + 1 - 1 = j by omega, hz']
                          constructor
                          · exact fun h => h.2
                          · exact fun h => ⟨by omega, h⟩
                        have hql : (!Op.bytesLess Z.toList X.toList) = q := by
                          rw [Bool.eq_iff_iff, hqq, ← hZ, less_txt, ← HX.out]; simp
                        rw [hZ] at a0
                        have HQL := Lib.hid hql
                        have hg5 : g0 < w5.heap.size := lt_of_cell a0
                        clear hqq hZ hz' hql
                        have z1 : IntKind.i64.wrap (((j + 1 : Nat) : Int) - 1) = (j : Int) := by rw [show ((j + 1 : Nat) : Int) - 1 = (j : Int) by omega]; exact IntWalk.i64_in _ (by omega)
                        have z5 : (j : Int) < ((j + 1 : Nat) : Int) := by omega
                        have hj1 : ((j + 1 : Nat) : Int) - 1 = (j : Int) := by omega
                        have hj0 : decide ((0 : Int) ≤ (j : Int)) = true := by simp
                        rw [hj1]
                        refine wp_region_later (by kernel_rfl) (by kernel_rfl) ?_
                        repeat (go_big_quiet_step (fail))
                        refine wpQuiet_nil ?_
                        rintro w6 ⟨⟨_, hb6⟩, rfl⟩
                        go_wp2_with fail
                        go_meet
                        exact ⟨by rw [HQL.out], hb6⟩
                    case rest =>
                      obtain ⟨rfl, hb6⟩ := hcut
                      obtain ⟨w6, rfl⟩ : ∃ x, x = wc := ⟨_, rfl⟩
                      have hB6 := then_ hB5 hb6
                      have hownY6 := own_later5 hownY hb6
                      have hq6 := hq5.below hb6 hq5.lt
                      clear hb6 hownY hq5 hB5 hown5 q0 hE'
                      have q0 : _ = some (Value.string X) := hq6.cell 0
                      have q1 : _ = some (Value.string Y) := hq6.cell 1
                      cases q with
                      | true =>
                        obtain rfl : ([], 0, 42) = R := by have := HST3.out; simpa using this
                        go_wp2_with fail
                        go_ret3
                        exact UnpOut.bad rfl hB6
                      | false =>
                        go_wp2_with (at_builtin; refine wpList_append_own_at _ rfl _ _ 36 rfl w.heap.size 69 i0 (.agg #[.string ⟨#[]⟩, .string ⟨#[]⟩]) 2 32 Try.underlying36 hi0 hz0 hz1 hz2 rfl (by decide) _ _ _ rfl (hownY6.alloc _) ⟨w6.heap.size, 0, none⟩ 1 1 [.string X, .string Y] rfl rfl ?p1 ?p2 ?p3 ?p4 ?p5 ?_)
                        case p1 => exact news_of_blk (l := [.string X, .string Y]) (Blk.new w6 _ _)
                        case p2 => intro u hu; simp at hu; rcases hu with rfl | rfl <;> rfl
                        case p3 => unfold maxLen; omega
                        case p4 => omega
                        case p5 => have := hB6.size; simp; omega
                        intro v' w7 hown' hgrow hx9 hat
                        have hB7 : Below w.heap.size w w7 := own_below hB6 hB6.size hownY6 hgrow
                        have hown7 : PLabs w.heap.size w7 v' (ys ++ [⟨x, y⟩]) := by
                          have e1 : (ys ++ [(⟨x, y⟩ : Lb)]).flatMap encLb = ys.flatMap encLb ++ [.string X, .string Y] := by rw [List.flatMap_append]; simp [encLb, HX.out, HY.out]
                          unfold PLabs
                          rw [e1, List.length_append, HYL.out]
                          exact hown'
                        clear hown' hgrow hx9 hat hownY6
                        go_wp2_with fail
                        go_roundg g
                        case measure => omega
                        case rel => exact ⟨i + 1, n3, ys ++ [⟨x, y⟩], _, rfl, by have := HIG.out; omega, by go_num, rfl, by rw [List.length_append, HYL.out]; rfl, hown7, by simpa using HST3.out, hB7⟩
              · have ee : ((e3 : Int) != 0) = true := by simp; omega
                obtain rfl : ([], 0, e3) = R := by have := HST.out; rw [if_neg (by simp), if_pos he3] at this; exact this
                go_wp2_with fail
                go_ret3
                exact UnpOut.bad rfl hB3
            · have ee : ((e2 : Int) != 0) = true := by simp; omega
              obtain rfl : ([], 0, e2) = R := by have := HST.out; rw [if_pos he2] at this; exact this
              go_wp2_with fail
              go_ret3
              exact UnpOut.bad rfl hB2
          · have el : decide ((i : Int) < (v1 : Int)) = false := by simp; omega
            have el' : decide (i < v1) = false := by simp; omega
            obtain rfl : gk = 0 := by omega
            rw [unpL] at hU
            obtain rfl := hU
            obtain ⟨A', c', rfl, hE', _, hc'⟩ := Elems.of_own (enc := encLb) (fun x _ => encLb_len x) rfl hown rfl
            obtain ⟨ln, hln⟩ : ∃ k, ys.length = k := ⟨_, rfl⟩
            rw [hln] at hE' hc' ⊢
            have HLN := Lib.hid hln
            clear hig hln hown
            go_wp2_with fail
            go_ret3
            refine ⟨A', c', ?_, ?_, ?_, hB⟩
            · dsimp only; rw [HLN.out]; rfl
            · dsimp only; rw [HLN.out]; exact hE'
            · dsimp only; rw [HLN.out]; exact hc'
  · rw [if_pos he] at hr
    subst hr
    have ee : ((e1 : Int) != 0) = true := by simp; omega
    go_enter Try.func23, Try.ntmps23
    go_wp2_with fail
    refine (readuint_calls s k v1 n1 e1 H1.out hs w).mono ?_
    rintro _ w1 ⟨rfl, rfl⟩
    go_wp2_with fail
    go_ret3
    exact UnpOut.bad rfl (Below.refl _ _)
end Go.Proofs.Ytpmahljbkgielaa
