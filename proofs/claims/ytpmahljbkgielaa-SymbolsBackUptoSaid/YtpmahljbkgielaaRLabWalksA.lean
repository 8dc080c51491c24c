/- The walks of the document's layer 4 (labels): Make. -/
import Derived.Test.YtpmahljbkgielaaSymWalksF
import Derived.Laws.OwnMore
namespace Go.Proofs.Ytpmahljbkgielaa
open Go.RowKit Go.Sort
attribute [local go_sem ↓] Go.wp_at_zero Go.wp_at_succ
attribute [local go_sem] Later.cell Later.frozen

theorem info_rlab : (Try.prog.info? 74).map (fun i => (i.zero, i.size, i.bytes)) = some (some (.agg #[.string ⟨#[]⟩, .string ⟨#[]⟩]), 2, 32) := by kernel_rfl

/-- The row of labels of the document's kind. -/
def RLabs (B : Nat) (w : World) (v : Value) (ys : List Lb) : Prop := w.ownsRow B 74 2 v ys.length (ys.flatMap encLb)

theorem take_any {l : List Lb} {k i : Nat} (hki : k < i) (hil : i < l.length) {x : Lb} (h : (l.take k).any (fun y => y.n == x.n) = false) (hk : (l[k]!.n == x.n) = false) : (l.take (k + 1)).any (fun y => y.n == x.n) = false := by
  rw [List.take_succ_eq_append_getElem (by omega), List.any_append, h]
  rw [getElem!_pos l k (by omega)] at hk
  simp only [List.any_cons, hk, List.any_nil, Bool.or_false]
theorem take_any_bad {l : List Lb} {k i : Nat} (hki : k < i) (hil : i < l.length) {x : Lb} (hk : (l[k]!.n == x.n) = true) : (l.take i).any (fun y => y.n == x.n) = true := by
  rw [List.any_eq_true]
  refine ⟨l[k]!, ?_, hk⟩
  rw [getElem!_pos l k (by omega)]
  exact List.mem_take_iff_getElem.2 ⟨k, by omega, rfl⟩

theorem rlab_cell {B : Nat} {w : World} {g n cap : Nat} {zs : List Lb} (h : RLabs B w (.slice (some ⟨g, 0, none⟩) n cap) zs) (hl : zs.length = n) {k : Nat} (hk : k < n) :
    w.cell? ⟨g, k * 2, none⟩ = some (.string ⟨zs[k]!.n.toArray⟩) ∧ w.cell? ⟨g, k * 2 + 1, none⟩ = some (.string ⟨zs[k]!.v.toArray⟩) := by
  unfold RLabs at h
  rw [hl] at h
  refine ⟨?_, ?_⟩
  · rw [h.cellAt (k * 2) (by omega), flat_get zs _ (by omega), show k * 2 / 2 = k by omega, show k * 2 % 2 = 0 by omega]; rfl
  · rw [h.cellAt (k * 2 + 1) (by omega), flat_get zs _ (by omega), show (k * 2 + 1) / 2 = k by omega, show (k * 2 + 1) % 2 = 1 by omega]; rfl
theorem rlab_frozen {B : Nat} {w : World} {g n cap : Nat} {zs : List Lb} (h : RLabs B w (.slice (some ⟨g, 0, none⟩) n cap) zs) (hl : zs.length = n) (k : Nat) : w.frozen? ⟨g, k, none⟩ = false := by
  unfold RLabs at h
  rw [hl] at h
  exact h.frozenAt k
theorem flat_set : ∀ (zs : List Lb) (k : Nat) (x : Lb), k < zs.length → ((zs.flatMap encLb).set (k * 2) (.string ⟨x.n.toArray⟩)).set (k * 2 + 1) (.string ⟨x.v.toArray⟩) = (zs.set k x).flatMap encLb
  | [], _, _, h => by simp at h
  | z :: zs, 0, x, _ => by simp [encLb]
  | z :: zs, k + 1, x, h => by
    have := flat_set zs k x (by simpa using h)
    rw [List.flatMap_cons, List.set_cons_succ, List.flatMap_cons, ← this]
    rw [List.set_append_right _ _ (by simp [encLb]; omega), List.set_append_right _ _ (by simp [encLb]; omega)]
    simp only [encLb, List.length_cons, List.length_nil]
    congr 2
    · congr 1; omega
    · omega
theorem rlab_set {B : Nat} {w : World} {g n cap : Nat} {zs : List Lb} (h : RLabs B w (.slice (some ⟨g, 0, none⟩) n cap) zs) (hl : zs.length = n) {k : Nat} (hk : k < n) (x : Lb) (hB : B ≤ g) :
    RLabs B ((w.setCell ⟨g, k * 2, none⟩ (.string ⟨x.n.toArray⟩)).setCell ⟨g, k * 2 + 1, none⟩ (.string ⟨x.v.toArray⟩)) (.slice (some ⟨g, 0, none⟩) n cap) (zs.set k x) ∧
      Below B w ((w.setCell ⟨g, k * 2, none⟩ (.string ⟨x.n.toArray⟩)).setCell ⟨g, k * 2 + 1, none⟩ (.string ⟨x.v.toArray⟩)) ∧
      ∀ p, p ≠ g → ∀ (e : TypeId) (cs : Array Value), Blk w p e cs → Blk ((w.setCell ⟨g, k * 2, none⟩ (.string ⟨x.n.toArray⟩)).setCell ⟨g, k * 2 + 1, none⟩ (.string ⟨x.v.toArray⟩)) p e cs := by
  unfold RLabs at h ⊢
  rw [hl] at h
  obtain ⟨h1, g1⟩ := h.stored (k * 2) (.string ⟨x.n.toArray⟩)
  obtain ⟨h2, g2⟩ := h1.stored (k * 2 + 1) (.string ⟨x.v.toArray⟩)
  rw [flat_set zs k x (by omega)] at h2
  refine ⟨by rw [List.length_set, hl]; exact h2, ?_, ?_⟩
  · refine ⟨g2.os.trans g1.os, g2.tape.trans g1.tape, g2.output.trans g1.output, by have := g1.size; have := g2.size; omega, fun q hq => ?_⟩
    have hlt : q < w.heap.size := by have := (h.lt g rfl).2; omega
    rw [g2.block q (by have := g1.size; omega) (fun e => by injection e with e; omega), g1.block q hlt (fun e => by injection e with e; omega)]
  · intro q hq e cs hb
    exact (hb.far (p := ⟨g, k * 2, none⟩) hq _).far (p := ⟨g, k * 2 + 1, none⟩) hq _

set_option maxRecDepth 100000 in
set_option maxHeartbeats 2000000 in
theorem rmake_calls (l : List Lb) (A : Option Addr) (n c : Nat) (w : World) (hE : Elems w w.heap.size 2 encLb A n l) (hnm : n ≤ 140737488351232) (hz : ∀ x ∈ l, x.n.length ≤ 140737488351232 ∧ x.v.length ≤ 140737488351232) :
    Calls Try.prog 64 #[.slice A n c] w (MakeOut w (makeErr l)) := by
  obtain ⟨i0, hi0, hz0, hz1, hz2⟩ := info_parts info_rlab
  have hl := hE.len
  by_cases h0 : n = 0
  · subst h0
    have hm : makeErr l = 43 := by rw [makeErr, if_pos hl]
    rw [hm]
    clear hm
    go_enter Try.func64, Try.ntmps64
    go_wp2_with fail
    go_ret2
    exact ⟨⟨_, rfl⟩, Below.refl _ _⟩
  · have e0 : ((n : Int) == 0) = false := by rw [beq_eq_false_iff_ne]; omega
    by_cases h8 : 8 < n
    · have hm : makeErr l = 44 := by rw [makeErr, if_neg (by omega), if_pos (by omega)]
      rw [hm]
      have e8 : decide ((8 : Int) < (n : Int)) = true := by simp; omega
      clear hm
      go_enter Try.func64, Try.ntmps64
      go_wp2_with fail
      go_ret2
      exact ⟨⟨_, rfl⟩, Below.refl _ _⟩
    · have e8 : decide ((8 : Int) < (n : Int)) = false := by simp; omega
      obtain ⟨R, hR⟩ : ∃ R, scanErr [] l = R := ⟨_, rfl⟩
      have hm : makeErr l = R := by rw [makeErr, if_neg (by omega), if_neg (by omega), hR]
      rw [hm]
      obtain ⟨b, off, rfl, hbl, _⟩ := hE.2 (by omega)
      have HR := Lib.hid hR
      have HZ := Lib.hid hz
      have HLEN := Lib.hid hl
      have hn0 : 0 < n := by omega
      clear hm hR hz hl h0
      go_enter Try.func64, Try.ntmps64
      go_wp2_with fail
      clear e0 e8
      go_loopg [4, 5] n (fun g s4 s5 wr => ∃ (i : Nat) (ys : List Lb) (v4 : Value), v4 = s4 ∧ i + g = n ∧ s5 = .int .i64 (i : Int) ∧ ys.length = i ∧ RLabs w.heap.size wr v4 ys ∧ scanErr (l.take i) (l.drop i) = R ∧ Below w.heap.size w wr)
      case atStart => exact ⟨0, [], _, rfl, by omega, rfl, rfl, World.ownsRow_nil _ _ _ _, by simpa using HR.out, Below.refl _ _⟩
      case round =>
        obtain ⟨i, ys, v4, rfl, hig, rfl, hyl, hown, hsc, hB⟩ := hrel
        have HIG := Lib.hid hig
        have HSC := Lib.hid hsc
        have HYL := Lib.hid hyl
        clear hig hsc hyl
        by_cases hi : i < n
        · have el : decide ((i : Int) < (n : Int)) = true := by simp; omega
          have el' : decide (i < n) = true := by simp; omega
          have hil : i < l.length := by have := HLEN.out; omega
          obtain ⟨_, c0, c1⟩ := lab_at hE hn0 hB i hil
          obtain ⟨x, hx⟩ : ∃ x, l[i]! = x := ⟨_, rfl⟩
          have hx' : l[i] = x := by rw [← hx, getElem!_pos l i hil]
          have hxm : x ∈ l := by rw [← hx']; exact List.getElem_mem hil
          have hxz := HZ.out x hxm
          have hsc := HSC.out
          rw [List.drop_eq_getElem_cons hil, hx', scanErr] at hsc
          rw [hx] at c0 c1
          obtain ⟨N, hN⟩ : ∃ N : ByteArray, (⟨x.n.toArray⟩ : ByteArray) = N := ⟨_, rfl⟩
          obtain ⟨V, hV⟩ : ∃ N : ByteArray, (⟨x.v.toArray⟩ : ByteArray) = N := ⟨_, rfl⟩
          rw [hN] at c0
          rw [hV] at c1
          have hNn : N.data.toList = x.n := by rw [← hN]
          have hVv : V.data.toList = x.v := by rw [← hV]
          have hNz : N.size ≤ 140737488351232 := by rw [← text_size, hNn]; exact hxz.1
          have hVz : V.size ≤ 140737488351232 := by rw [← text_size, hVv]; exact hxz.2
          have hbr : b < wr.heap.size := by have := hB.size; omega
          obtain ⟨rn, hrn⟩ : ∃ r, fitN x.n = r := ⟨_, rfl⟩
          obtain ⟨rv, hrv⟩ : ∃ r, fitV x.v = r := ⟨_, rfl⟩
          obtain ⟨ra, hra⟩ : ∃ r, (l.take i).any (fun y => y.n == x.n) = r := ⟨_, rfl⟩
          rw [hrn, hrv, hra] at hsc
          have HRN := Lib.hid (show fitN N.data.toList = rn by rw [hNn, hrn])
          have HRV := Lib.hid (show fitV V.data.toList = rv by rw [hVv, hrv])
          have HRA := Lib.hid hra
          have HSC2 := Lib.hid hsc
          have HN := Lib.hid hN
          have HV := Lib.hid hV
          have HX := Lib.hid hx'
          clear hsc hx hx' hN hV hNn hVv hxz hxm hrn hrv hra HSC
          have hnext : ra = false → scanErr (l.take (i + 1)) (l.drop (i + 1)) = R ∨ rn = false ∨ rv = false := by
            intro h
            have := HSC2.out
            rw [h] at this
            rw [List.take_succ_eq_append_getElem hil, HX.out]
            cases rn <;> cases rv <;> simp at this ⊢
            exact this
          have HNEXT0 := Lib.hid hnext
          clear hnext
          go_upto_block 1 with fail
          go_cut [4] (fun s4 wz => ∃ (zs : List Lb) (v5 : Value), v5 = s4 ∧ zs.length = i + 1 ∧ Below w.heap.size w wz ∧ RLabs w.heap.size wz v5 zs ∧ scanErr (l.take (i + 1)) (l.drop (i + 1)) = R)
          case first =>
            go_wp2_with fail
            refine (rfitname_calls N rn HRN.out hNz wr).mono ?_
            rintro e w2 ⟨rfl, rfl⟩
            go_wp2_with fail
            refine (rfitvalue_calls V rv HRV.out hVz wr).mono ?_
            rintro e w2 ⟨rfl, rfl⟩
            cases rn with
            | false =>
              obtain rfl : 40 = R := by have := HSC2.out; simpa using this
              go_wp2_with fail
              go_ret2
              exact ⟨⟨_, rfl⟩, hB⟩
            | true =>
              cases rv with
              | false =>
                obtain rfl : 41 = R := by have := HSC2.out; simpa using this
                go_wp2_with fail
                go_ret2
                exact ⟨⟨_, rfl⟩, hB⟩
              | true =>
                go_upto_block 2 with fail
                go_cut [] (fun wz => Below w.heap.size w wz ∧ RLabs w.heap.size wz v4 ys ∧ ra = false)
                case first =>
                  go_wp2_with fail
                  go_loopg [8] i (fun g s8 wz => ∃ k : Nat, k + g = i ∧ s8 = .int .i64 (k : Int) ∧ Below w.heap.size w wz ∧ RLabs w.heap.size wz v4 ys ∧ (l.take k).any (fun y => y.n == x.n) = false)
                  case atStart => exact ⟨0, by omega, rfl, hB, hown, by simp⟩
                  case round =>
                    obtain ⟨k, hkg, rfl, hBz, hownz, hany⟩ := hrel
                    have HKG := Lib.hid hkg
                    have HANY := Lib.hid hany
                    clear hkg hany
                    by_cases hk : k < i
                    · have ek : decide ((k : Int) < (i : Int)) = true := by simp; omega
                      have ek' : decide (k < i) = true := by simp; omega
                      obtain ⟨_, d0, _⟩ := lab_at hE hn0 hBz k (by omega)
                      obtain ⟨_, f0, _⟩ := lab_at hE hn0 hBz i hil
                      rw [getElem!_pos l i hil, HX.out, HN.out] at f0
                      obtain ⟨q, hq⟩ : ∃ q, (l[k]!.n == x.n) = q := ⟨_, rfl⟩
                      obtain ⟨K, hK⟩ : ∃ N : ByteArray, (⟨l[k]!.n.toArray⟩ : ByteArray) = N := ⟨_, rfl⟩
                      have heq : (K.toList == N.toList) = q := by
                        rw [← hK, ← HN.out, ByteArray.toList_eq, ByteArray.toList_eq, ← hq]
                      rw [hK] at d0
                      have HQ := Lib.hid hq
                      have hbz : b < wr.heap.size := by have := hBz.size; omega
                      have hkn : (k : Int) < (n : Int) := by omega
                      clear hq hK c0 c1
                      go_upto_region 18 with fail
                      refine wp_region_later (by kernel_rfl) (by kernel_rfl) ?_
                      repeat (go_big_quiet_step (fail))
                      refine wpQuiet_nil ?_
                      rintro w5 ⟨⟨_, hb5⟩, rfl⟩
                      have hB5 := then_ hBz hb5
                      have hown5 : RLabs w.heap.size w5 v4 ys := own_later5 hownz hb5
                      cases q with
                      | true =>
                        obtain rfl : true = ra := (take_any_bad hk hil HQ.out).symm.trans HRA.out
                        obtain rfl : 42 = R := by have := HSC2.out; simpa using this
                        go_wp2_with fail
                        go_ret2
                        exact ⟨⟨_, rfl⟩, hB5⟩
                      | false =>
                        go_wp2_with fail
                        go_roundg (gk - 1)
                        case measure => have := HKG.out; omega
                        case rel => exact ⟨k + 1, by have := HKG.out; omega, by go_num, hB5, hown5, take_any hk hil HANY.out HQ.out⟩
                    · have ek : decide ((k : Int) < (i : Int)) = false := by simp; omega
                      have ek' : decide (k < i) = false := by simp; omega
                      have hki : k = i := by have := HKG.out; omega
                      have hraf : ra = false := by rw [← HRA.out, ← HANY.out, hki]
                      have HRAF := Lib.hid hraf
                      clear hki hraf
                      go_wp2_with fail
                      go_meet
                      exact ⟨hBz, hownz, HRAF.out⟩
                case rest =>
                  obtain ⟨hB1, hown1, hraf⟩ := hcut
                  obtain ⟨w1, rfl⟩ : ∃ x, x = wc := ⟨_, rfl⟩
                  obtain rfl := hraf
                  have hnext : scanErr (l.take (i + 1)) (l.drop (i + 1)) = R := by simpa using HNEXT0.out rfl
                  have HNEXT := Lib.hid hnext
                  clear hnext HNEXT0
                  obtain ⟨_, d0, d1⟩ := lab_at hE hn0 hB1 i hil
                  rw [getElem!_pos l i hil, HX.out, HN.out] at d0
                  rw [getElem!_pos l i hil, HX.out, HV.out] at d1
                  have hb1 : b < w1.heap.size := by have := hB1.size; omega
                  have hownY : w1.ownsRow w.heap.size 74 2 v4 i (ys.flatMap encLb) := by have := hown1; unfold RLabs at this; rw [HYL.out] at this; exact this
                  clear c0 c1 hB hown hown1
                  go_wp2_with (at_builtin; refine wpList_append_own_at _ rfl _ _ 40 rfl w.heap.size 74 i0 (.agg #[.string ⟨#[]⟩, .string ⟨#[]⟩]) 2 32 Try.underlying40 hi0 hz0 hz1 hz2 rfl (by decide) _ _ _ rfl (hownY.alloc _) ⟨w1.heap.size, 0, none⟩ 1 1 [.string N, .string V] rfl rfl ?p1 ?p2 ?p3 ?p4 ?p5 ?_)
                  case p1 => exact news_of_blk (l := [.string N, .string V]) (Blk.new w1 _ _)
                  case p2 => intro u hu; simp at hu; rcases hu with rfl | rfl <;> rfl
                  case p3 => unfold maxLen; omega
                  case p4 => omega
                  case p5 => have := hB1.size; simp; omega
                  intro v' w2 hown' hgrow hx9 hat
                  have hB2 : Below w.heap.size w w2 := own_below hB1 hB1.size hownY hgrow
                  have hown2 : RLabs w.heap.size w2 v' (ys ++ [x]) := by
                    have e1 : (ys ++ [x]).flatMap encLb = ys.flatMap encLb ++ [.string N, .string V] := by rw [List.flatMap_append]; simp [encLb, HN.out, HV.out]
                    unfold RLabs
                    rw [e1, List.length_append, HYL.out]
                    exact hown'
                  clear hown' hgrow hx9 hat hownY
                  obtain ⟨zs, hzs⟩ : ∃ zs, ys ++ [x] = zs := ⟨_, rfl⟩
                  have hzl : zs.length = i + 1 := by rw [← hzs, List.length_append, HYL.out]; rfl
                  rw [hzs] at hown2
                  have hown3 := hown2
                  unfold RLabs at hown3
                  rw [hzl] at hown3
                  obtain ⟨g0, cap, rfl, hgb⟩ : ∃ g cap, v' = .slice (some ⟨g, 0, none⟩) (i + 1) cap ∧ w.heap.size ≤ g := by
                    rcases hown3.2 with ⟨_, h⟩ | ⟨g, cap, cur, rfl, h, _⟩
                    · omega
                    · exact ⟨g, cap, rfl, h⟩
                  have HZL := Lib.hid hzl
                  clear hzs hzl hown3
                  go_wp2_with fail
                  go_loopg [9] (i + 1) (fun g s9 wz => ∃ (k : Nat) (zs : List Lb), s9 = .int .i64 (k : Int) ∧ k < g ∧ k ≤ i ∧ zs.length = i + 1 ∧ Below w.heap.size w wz ∧ RLabs w.heap.size wz (.slice (some ⟨g0, 0, none⟩) ((i + 1 : Nat)) cap) zs)
                  case atStart => exact ⟨i, zs, by go_num, by omega, by omega, HZL.out, hB2, hown2⟩
                  case round =>
                    obtain ⟨k, zs, rfl, hkg, hki, hzl, hBz, hownz⟩ := hrel
                    have HZ2 := Lib.hid hzl
                    clear hzl
                    by_cases hk : 0 < k
                    · obtain ⟨j, rfl⟩ : ∃ j, k = j + 1 := ⟨k - 1, by omega⟩
                      obtain ⟨a0, a1⟩ := rlab_cell hownz HZ2.out (k := j + 1) (by omega)
                      obtain ⟨b0, b1⟩ := rlab_cell hownz HZ2.out (k := j) (by omega)
                      obtain ⟨y, hy⟩ : ∃ x, zs[j + 1]! = x := ⟨_, rfl⟩
                      obtain ⟨z, hz'⟩ : ∃ x, zs[j]! = x := ⟨_, rfl⟩
                      rw [hy] at a0 a1
                      rw [hz'] at b0 b1
                      obtain ⟨Y0, hY0⟩ : ∃ N : ByteArray, (⟨y.n.toArray⟩ : ByteArray) = N := ⟨_, rfl⟩
                      obtain ⟨Y1, hY1⟩ : ∃ N : ByteArray, (⟨y.v.toArray⟩ : ByteArray) = N := ⟨_, rfl⟩
                      obtain ⟨Z0, hZ0⟩ : ∃ N : ByteArray, (⟨z.n.toArray⟩ : ByteArray) = N := ⟨_, rfl⟩
                      obtain ⟨Z1, hZ1⟩ : ∃ N : ByteArray, (⟨z.v.toArray⟩ : ByteArray) = N := ⟨_, rfl⟩
                      rw [hY0] at a0
                      rw [hY1] at a1
                      rw [hZ0] at b0
                      rw [hZ1] at b1
                      obtain ⟨q, hls⟩ : ∃ q, Op.bytesLess Y0.toList Z0.toList = q := ⟨_, rfl⟩
                      have HY0 := Lib.hid hY0
                      have HY1 := Lib.hid hY1
                      have HZ0 := Lib.hid hZ0
                      have HZ1 := Lib.hid hZ1
                      have hgz : g0 < wr.heap.size := lt_of_cell a0
                      have HZJ := Lib.hid hz'
                      clear hy hz' hY0 hY1 hZ0 hZ1 d0 d1
                      go_upto_region 22 with fail
                      have z0 : decide ((0 : Int) < ((j + 1 : Nat) : Int)) = true := by rw [decide_eq_true_eq]; omega
                      have z1 : IntKind.i64.wrap (((j + 1 : Nat) : Int) - 1) = (j : Int) := by rw [show ((j + 1 : Nat) : Int) - 1 = (j : Int) by omega]; exact IntWalk.i64_in _ (by omega)
                      have z2 : (0 : Int) ≤ ((j + 1 : Nat) : Int) := by omega
                      have z3 : ((j + 1 : Nat) : Int).toNat = j + 1 := by omega
                      have z4 : ((j + 1 : Nat) : Int) < ((i + 1 : Nat) : Int) := by omega
                      have z5 : (j : Int) < ((i + 1 : Nat) : Int) := by omega
                      refine wp_region_later (by kernel_rfl) (by kernel_rfl) ?_
                      repeat (go_big_quiet_step (fail))
                      refine wpQuiet_nil ?_
                      rintro w5 ⟨⟨_, hb5⟩, rfl⟩
                      have hB5 := then_ hBz hb5
                      have hown5 : RLabs w.heap.size w5 _ zs := own_later5 hownz hb5
                      have a05 := later hb5 a0
                      have a15 := later hb5 a1
                      have b05 := later hb5 b0
                      have b15 := later hb5 b1
                      clear a0 a1 b0 b1 hownz hb5
                      cases q with
                      | false =>
                        go_wp2_with fail
                        go_meet
                        exact ⟨zs, _, rfl, HZ2.out, hB5, hown5, HNEXT.out⟩
                      | true =>
                        go_upto_region 25 with fail
                        have hq6 : Blk (w5.alloc (.cells #[.string Y0, .string Y1] 74)) w5.heap.size 74 #[.string Y0, .string Y1] := Blk.new _ _ _
                        have hB6 : Below w.heap.size w (w5.alloc (.cells #[.string Y0, .string Y1] 74)) := hB5.alloc hB5.size _
                        have hown6 : RLabs w.heap.size (w5.alloc (.cells #[.string Y0, .string Y1] 74)) _ zs := World.ownsRow.alloc hown5 _
                        have hgne : w5.heap.size ≠ g0 := by have := lt_of_cell a05; simp at this; omega
                        obtain ⟨w6, hw6⟩ : ∃ x, w5.alloc (.cells #[.string Y0, .string Y1] 74) = x := ⟨_, rfl⟩
                        obtain ⟨p6, hp6⟩ : ∃ p, w5.heap.size = p := ⟨_, rfl⟩
                        rw [hw6] at hq6 hB6 hown6 ⊢
                        rw [hp6] at hq6 hgne ⊢
                        clear hw6 hp6 a05 a15 b05 b15 hown5 hB5
                        obtain ⟨b06, b16⟩ := rlab_cell hown6 HZ2.out (k := j) (by omega)
                        obtain ⟨a06, a16⟩ := rlab_cell hown6 HZ2.out (k := j + 1) (by omega)
                        rw [HZJ.out, HZ0.out] at b06
                        rw [HZJ.out, HZ1.out] at b16
                        have f0 := rlab_frozen hown6 HZ2.out ((j + 1) * 2)
                        have f1 := rlab_frozen hown6 HZ2.out ((j + 1) * 2 + 1)
                        go_upto_region 26 with fail
                        obtain ⟨hown7, hb7, hk7⟩ := rlab_set hown6 HZ2.out (k := j + 1) (by omega) z hgb
                        rw [HZ0.out, HZ1.out] at hown7 hb7 hk7
                        have hq7 := hk7 p6 hgne _ _ hq6
                        have hB7 := hB6.trans hb7
                        obtain ⟨w7, hw7⟩ : ∃ x, (w6.setCell ⟨g0, (j + 1) * 2, none⟩ (.string Z0)).setCell ⟨g0, (j + 1) * 2 + 1, none⟩ (.string Z1) = x := ⟨_, rfl⟩
                        rw [hw7] at hown7 hq7 hB7 ⊢
                        clear hw7 hk7 hb7 hown6 hq6 hB6 a06 a16 b06 b16 f0 f1
                        obtain ⟨us, hus⟩ : ∃ us, zs.set (j + 1) z = us := ⟨_, rfl⟩
                        have hul : us.length = i + 1 := by rw [← hus, List.length_set, HZ2.out]
                        rw [hus] at hown7
                        have HUL := Lib.hid hul
                        clear hus hul
                        have q0 : _ = some (Value.string Y0) := hq7.cell 0
                        have q1 : _ = some (Value.string Y1) := hq7.cell 1
                        obtain ⟨b07, b17⟩ := rlab_cell hown7 HUL.out (k := j) (by omega)
                        have f0 := rlab_frozen hown7 HUL.out (j * 2)
                        have f1 := rlab_frozen hown7 HUL.out (j * 2 + 1)
                        go_upto_region 23 with fail
                        obtain ⟨hown8, hb8, _⟩ := rlab_set hown7 HUL.out (k := j) (by omega) y hgb
                        rw [HY0.out, HY1.out] at hown8 hb8
                        have hB8 := hB7.trans hb8
                        obtain ⟨w8, hw8⟩ : ∃ x, (w7.setCell ⟨g0, j * 2, none⟩ (.string Y0)).setCell ⟨g0, j * 2 + 1, none⟩ (.string Y1) = x := ⟨_, rfl⟩
                        rw [hw8] at hown8 hB8 ⊢
                        obtain ⟨vs, hvs⟩ : ∃ us', us.set j y = us' := ⟨_, rfl⟩
                        have hvl : vs.length = i + 1 := by rw [← hvs, List.length_set, HUL.out]
                        rw [hvs] at hown8
                        have HVL := Lib.hid hvl
                        clear hvs hvl hw8 hb8 hown7 hq7 hB7 q0 q1 b07 b17 f0 f1
                        go_wp2_with fail
                        go_roundg (gk - 1)
                        case measure => omega
                        case rel => exact ⟨j, vs, by go_num, by omega, by omega, HVL.out, hB8, hown8⟩
                    · have ek : decide ((0 : Int) < (k : Int)) = false := by simp; omega
                      have ek' : decide (0 < k) = false := by simp; omega
                      go_upto_region 22 with fail
                      refine wp_region_later (by kernel_rfl) (by kernel_rfl) ?_
                      repeat (go_big_quiet_step (fail))
                      refine wpQuiet_nil ?_
                      rintro w5 ⟨⟨_, hb5⟩, rfl⟩
                      have hB5 := then_ hBz hb5
                      have hown5 : RLabs w.heap.size w5 _ zs := own_later5 hownz hb5
                      go_wp2_with fail
                      go_meet
                      exact ⟨zs, _, rfl, HZ2.out, hB5, hown5, HNEXT.out⟩
          case rest =>
            obtain ⟨zs', v5, rfl, hzl', hB3, hown3, hs3⟩ := hcut
            have HZL' := Lib.hid hzl'
            have HS3 := Lib.hid hs3
            clear hzl' hs3
            go_wp2_with fail
            go_roundg (gk - 1)
            case measure => have := HIG.out; omega
            case rel => exact ⟨i + 1, zs', _, rfl, by have := HIG.out; omega, by go_num, HZL'.out, hown3, HS3.out, hB3⟩
        · have hR0 : R = 0 := by
            have := HSC.out
            rw [List.drop_of_length_le (by have := HLEN.out; omega), scanErr] at this
            exact this.symm
          subst hR0
          have el : decide ((i : Int) < (n : Int)) = false := by simp; omega
          have el' : decide (i < n) = false := by simp; omega
          go_wp2_with fail
          go_ret2
          exact ⟨⟨_, rfl⟩, hB⟩
end Go.Proofs.Ytpmahljbkgielaa
