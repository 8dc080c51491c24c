/- The walks of the document's symbols: find, Number, merge, Of. -/
import Derived.Test.YtpmahljbkgielaaSymWalksD
namespace Go.Proofs.Ytpmahljbkgielaa
open Go.RowKit Go.Sort
attribute [local go_sem ↓] Go.wp_at_zero Go.wp_at_succ
attribute [local go_sem] Later.cell Later.frozen

theorem less_txt (x : Txt) (s : ByteArray) : Op.bytesLess (⟨x.toArray⟩ : ByteArray).toList s.toList = decide (x < s.data.toList) := by
  rw [bytesLess_eq, ByteArray.toList_eq, ByteArray.toList_eq]

set_option maxRecDepth 100000 in
set_option maxHeartbeats 1000000 in
theorem rfind_calls (t : List Txt) (A : Option Addr) (n c : Nat) (s : ByteArray) (w : World) (q : Nat) (hq : below t s.data.toList = q) (hs : Strs w A n t) (hasc : Asc t) (hn : n * 16 ≤ 140737488351232) :
    Calls Try.prog 35 #[.slice A n c, .string s] w fun e w' => e = .returned (.int .i64 q) ∧ w = w' := by
  have hl := hs.len
  have hqn : q ≤ n := by rw [← hq, ← hl]; exact below_le _ _
  have hsp : ∀ i, i < n → Op.bytesLess (⟨t[i]!.toArray⟩ : ByteArray).toList s.toList = decide (i < q) := by
    intro i hi
    rw [less_txt, decide_eq_decide, getElem!_pos t i (by omega), ← hq]
    exact below_split hasc _ i (by omega)
  have HSP := Lib.hid hsp
  clear hsp hq hl
  go_enter Try.func35, Try.ntmps35
  go_wp2_with fail
  go_loopg [5, 6] n (fun g s5 s6 wr => wr = w ∧ ∃ lo hi : Nat, s5 = .int .i64 (lo : Int) ∧ s6 = .int .i64 (hi : Int) ∧ lo ≤ q ∧ q ≤ hi ∧ hi ≤ n ∧ hi - lo ≤ g)
  case atStart => exact ⟨rfl, 0, n, rfl, rfl, by omega, hqn, by omega, by omega⟩
  case round =>
    obtain ⟨rfl, lo, hi, rfl, rfl, h1, h2, h3, h4⟩ := hrel
    obtain ⟨w, rfl⟩ : ∃ x, x = wr := ⟨_, rfl⟩
    by_cases hlt : lo < hi
    · have el : decide ((lo : Int) < (hi : Int)) = true := by simp; omega
      have el' : decide (lo < hi) = true := by simp; omega
      obtain ⟨m, hm⟩ : ∃ m, lo + (hi - lo) / 2 = m := ⟨_, rfl⟩
      have hm1 : (lo : Int) + ((hi : Int) - (lo : Int)) / 2 = (m : Int) := by omega
      have hm2 : lo ≤ m := by omega
      have hm3 : m < hi := by omega
      obtain ⟨b, off, rfl, hbl, hcell⟩ := hs.at_ (i := m) (by omega)
      unfold txtV at hcell
      have hless := HSP.out m (by omega)
      obtain ⟨X, hX⟩ : ∃ X : ByteArray, (⟨t[m]!.toArray⟩ : ByteArray) = X := ⟨_, rfl⟩
      rw [hX] at hcell hless
      obtain ⟨r, hr⟩ : ∃ r, decide (m < q) = r := ⟨_, rfl⟩
      rw [hr] at hless
      have HR := Lib.hid hr
      have HM := Lib.hid hm1
      clear hX hr hm
      go_upto_region 5 with fail
      clear hm1
      cases r with
      | true =>
        have hmq : m < q := of_decide_eq_true HR.out
        go_wp2_with fail
        go_roundg (hi - (m + 1))
        case measure => omega
        case rel => exact ⟨rfl, m + 1, hi, by go_num, rfl, by omega, h2, h3, Nat.le_refl _⟩
      | false =>
        have hmq : ¬ m < q := of_decide_eq_false HR.out
        go_wp2_with fail
        go_roundg (m - lo)
        case measure => omega
        case rel => exact ⟨rfl, lo, m, rfl, rfl, h1, by omega, by omega, Nat.le_refl _⟩
    · have el : decide ((lo : Int) < (hi : Int)) = false := by simp; omega
      have el' : decide (lo < hi) = false := by simp; omega
      have hlq : lo = q := by omega
      have HLQ := Lib.hid hlq
      clear hlq
      go_wp2_with fail
      go_ret
      exact ⟨ret_int (by rw [HLQ.out]), rfl⟩

set_option maxRecDepth 100000 in
set_option maxHeartbeats 1000000 in
theorem rnumber_calls (t : List Txt) (A : Option Addr) (n c : Nat) (s : ByteArray) (w : World) (k e : Nat) (hr : numR t s.data.toList = (k, e)) (hs : Strs w A n t) (hasc : Asc t) (hn : n * 16 ≤ 140737488351232) :
    Calls Try.prog 13 #[.slice A n c, .string s] w fun en w' => en = .returned (.tuple #[.int .i64 k, .int .i64 e]) ∧ w = w' := by
  obtain ⟨q, hq⟩ : ∃ q, below t s.data.toList = q := ⟨_, rfl⟩
  have hl := hs.len
  rw [numR, hq] at hr
  have HQ := Lib.hid hq
  clear hq
  by_cases hqn : q < n
  · have el : decide ((q : Int) < (n : Int)) = true := by simp; omega
    have el' : decide (q < n) = true := by simp; omega
    obtain ⟨b, off, rfl, hbl, hcell⟩ := hs.at_ hqn
    unfold txtV at hcell
    have heq : ((⟨t[q]!.toArray⟩ : ByteArray).toList == s.toList) = decide (t[q]? = some s.data.toList) := by
      rw [ByteArray.toList_eq, ByteArray.toList_eq, getElem!_pos t q (by omega), List.getElem?_eq_getElem (by omega), Bool.eq_iff_iff]
      simp
    obtain ⟨X, hX⟩ : ∃ X : ByteArray, (⟨t[q]!.toArray⟩ : ByteArray) = X := ⟨_, rfl⟩
    rw [hX] at hcell heq
    by_cases hin : t[q]? = some s.data.toList
    · rw [if_pos hin] at hr
      obtain ⟨rfl, rfl⟩ : q = k ∧ 0 = e := by simpa using hr
      rw [decide_eq_true hin] at heq
      clear hr hin hX hl
      go_enter Try.func13, Try.ntmps13
      go_wp2_with fail
      refine (rfind_calls t _ n c s w q HQ.out hs hasc hn).mono ?_
      rintro en w1 ⟨rfl, rfl⟩
      go_wp2_with fail
      go_ret2
      exact ⟨rfl, rfl⟩
    · rw [if_neg hin] at hr
      obtain ⟨rfl, rfl⟩ : 0 = k ∧ 50 = e := by simpa using hr
      rw [decide_eq_false hin] at heq
      clear hr hin hX hl
      go_enter Try.func13, Try.ntmps13
      go_wp2_with fail
      refine (rfind_calls t _ n c s w q HQ.out hs hasc hn).mono ?_
      rintro en w1 ⟨rfl, rfl⟩
      go_wp2_with fail
      go_ret2
      exact ⟨rfl, rfl⟩
  · have el : decide ((q : Int) < (n : Int)) = false := by simp; omega
    have el' : decide (q < n) = false := by simp; omega
    have hin : ¬ t[q]? = some s.data.toList := by
      rw [List.getElem?_eq_none (by omega)]; simp
    rw [if_neg hin] at hr
    obtain ⟨rfl, rfl⟩ : 0 = k ∧ 50 = e := by simpa using hr
    clear hr hin hl
    go_enter Try.func13, Try.ntmps13
    go_wp2_with fail
    refine (rfind_calls t A n c s w q HQ.out hs hasc hn).mono ?_
    rintro en w1 ⟨rfl, rfl⟩
    go_wp2_with fail
    go_ret2
    exact ⟨rfl, rfl⟩

theorem own_later5 {w w1 : World} {base : Nat} {e : TypeId} {size : Nat} {v : Value} {n : Nat} {xs : List Value} (h : w.ownsRow base e size v n xs) (hb : Below w.heap.size w w1) : w1.ownsRow base e size v n xs :=
  h.kept (row := none) ⟨hb.os, hb.tape, hb.output, hb.size, fun k hk _ => hb.block k hk⟩ (by cases v.ownBlock <;> simp)

set_option maxRecDepth 100000 in
set_option maxHeartbeats 4000000 in
theorem rmerge_calls (a b : List Txt) (A B : Option Addr) (na nb ca cb : Nat) (w : World) (hsa : Strs w A na a) (hsb : Strs w B nb b) (hn : (na + nb) * 16 ≤ 140737488351232) :
    Calls Try.prog 32 #[.slice A na ca, .slice B nb cb] w fun e w' => ∃ v, e = .returned v ∧ w'.ownsRow w.heap.size 9 1 v (mergeT (na + nb) a b).length ((mergeT (na + nb) a b).map txtV) ∧ Below w.heap.size w w' := by
  obtain ⟨i0, hi0, hz0, hz1, hz2⟩ := info_parts info_string
  have hla := hsa.len
  have hlb := hsb.len
  obtain ⟨M, hM⟩ : ∃ M, mergeT (na + nb) a b = M := ⟨_, rfl⟩
  rw [hM]
  have HM := Lib.hid hM
  clear hM
  go_enter Try.func32, Try.ntmps32
  go_wp2_with fail
  go_loopg [5, 6, 7] (na + nb) (fun g s5 s6 s7 wr => ∃ (i k : Nat) (out : List Txt), s6 = .int .i64 (i : Int) ∧ s7 = .int .i64 (k : Int) ∧ i ≤ na ∧ k ≤ nb ∧ (na - i) + (nb - k) ≤ g ∧ out.length + g ≤ na + nb ∧ wr.ownsRow w.heap.size 9 1 s5 out.length (out.map txtV) ∧ Below w.heap.size w wr ∧ out ++ mergeT g (a.drop i) (b.drop k) = M)
  case atStart => exact ⟨0, 0, [], rfl, rfl, by omega, by omega, by omega, by simp, World.ownsRow_nil _ _ _ _, Below.refl _ _, by simpa using HM.out⟩
  case round =>
    obtain ⟨i, k, out, rfl, rfl, hia, hkb, hg, hlo, hown, hB, hm⟩ := hrel
    by_cases hi : i < na
    · have ei : decide ((i : Int) < (na : Int)) = true := by simp; omega
      have ei' : decide (i < na) = true := by simp; omega
      obtain ⟨ba, oa, rfl, hba, hca⟩ := hsa.at_ hi
      obtain ⟨x, hx⟩ : ∃ x, a[i]! = x := ⟨_, rfl⟩
      have ca : wr.cell? ⟨ba, oa + i, none⟩ = some (txtV x) := by rw [← hx]; exact (hB.cell (p := ⟨ba, oa + i, none⟩) hba).trans hca
      have hda : a.drop i = x :: a.drop (i + 1) := by rw [List.drop_eq_getElem_cons (by omega), ← hx, getElem!_pos a i (by omega)]
      unfold txtV at ca
      obtain ⟨X, hX⟩ : ∃ X : ByteArray, (⟨x.toArray⟩ : ByteArray) = X := ⟨_, rfl⟩
      rw [hX] at ca
      have HX := Lib.hid hX
      have hbar : ba < wr.heap.size := by have := hB.size; omega
      obtain ⟨g, rfl⟩ : ∃ g, gk = g + 1 := ⟨gk - 1, by omega⟩
      by_cases hk : k < nb
      · have ek : decide ((nb : Int) ≤ (k : Int)) = false := by simp; omega
        have ek' : decide (nb ≤ k) = false := by simp; omega
        obtain ⟨bb, ob, rfl, hbb, hcb⟩ := hsb.at_ hk
        obtain ⟨y, hy⟩ : ∃ x, b[k]! = x := ⟨_, rfl⟩
        have cb : wr.cell? ⟨bb, ob + k, none⟩ = some (txtV y) := by rw [← hy]; exact (hB.cell (p := ⟨bb, ob + k, none⟩) hbb).trans hcb
        have hdb : b.drop k = y :: b.drop (k + 1) := by rw [List.drop_eq_getElem_cons (by omega), ← hy, getElem!_pos b k (by omega)]
        unfold txtV at cb
        obtain ⟨Y, hY⟩ : ∃ X : ByteArray, (⟨y.toArray⟩ : ByteArray) = X := ⟨_, rfl⟩
        rw [hY] at cb
        have HY := Lib.hid hY
        have hbbr : bb < wr.heap.size := by have := hB.size; omega
        rw [hda, hdb, mergeT] at hm
        have hls := less_txt x Y
        rw [hX] at hls
        have hYy : Y.data.toList = y := by rw [← hY]
        rw [hYy] at hls
        by_cases hxy : x < y
        · rw [if_pos hxy] at hm
          rw [decide_eq_true hxy] at hls
          have HM2 := Lib.hid (show out ++ ([x] ++ mergeT g (a.drop (i + 1)) (b.drop k)) = M by rw [hdb]; exact hm)
          clear hm hda hdb hx hy hX hY hYy hxy hca hcb
          go_upto_region 5 with fail
          refine wp_region_later (by kernel_rfl) (by kernel_rfl) ?_
          repeat (go_big_quiet_step (fail))
          refine wpQuiet_nil ?_
          rintro w5 ⟨⟨_, hb5⟩, rfl⟩
          have hown5 := own_later5 hown hb5
          have hB5 := then_ hB hb5
          have ca5 := later hb5 ca
          have hba5 : ba < w5.heap.size := lt_of_cell ca5
          have cb5 := later hb5 cb
          have hbb5 : bb < w5.heap.size := lt_of_cell cb5
          clear ca cb
          go_wp2_with (at_builtin; refine wpList_append_own_at _ rfl _ _ 22 rfl w.heap.size 9 i0 (.string ⟨#[]⟩) 1 16 Try.underlying22 hi0 hz0 hz1 hz2 rfl (by decide) _ _ _ rfl (hown5.alloc _) ⟨w5.heap.size, 0, none⟩ 1 1 [.string X] rfl rfl ?p1 ?p2 ?p3 ?p4 ?p5 ?_)
          case p1 => exact news_of_blk (l := [.string X]) (Blk.new w5 _ _)
          case p2 => intro u hu; rw [List.mem_singleton.1 hu]; rfl
          case p3 => unfold maxLen; omega
          case p4 => omega
          case p5 => have := hB5.size; simp; omega
          intro v' w9 hown' hgrow hx9 hat
          have hB9 : Below w.heap.size w w9 := own_below hB5 hB5.size hown5 hgrow
          have hown9 : w9.ownsRow w.heap.size 9 1 v' (out ++ [x]).length ((out ++ [x]).map txtV) := by
            have e1 : (out ++ [x]).map txtV = out.map txtV ++ [.string X] := by rw [List.map_append]; simp [txtV, HX.out]
            rw [e1, List.length_append]
            exact hown'
          clear hown' hgrow hx9 hat
          go_wp2_with fail
          go_roundg g
          case measure => omega
          case rel => exact ⟨i + 1, k, out ++ [x], by go_num, rfl, by omega, by omega, by omega, by simp; omega, hown9, hB9, by rw [List.append_assoc]; exact HM2.out⟩
        · rw [if_neg hxy] at hm
          rw [decide_eq_false hxy] at hls
          have heq : (X.toList == Y.toList) = decide (x = y) := by
            rw [← hX, ← hY, ByteArray.toList_eq, ByteArray.toList_eq, Bool.eq_iff_iff]; simp
          by_cases he : x = y
          · rw [if_pos he] at hm
            rw [decide_eq_true he] at heq
            have HM2 := Lib.hid (show out ++ ([y] ++ mergeT g (a.drop (i + 1)) (b.drop (k + 1))) = M from hm)
            clear hm hda hdb hx hy hX hY hYy hxy hca hcb he
            go_upto_region 5 with fail
            refine wp_region_later (by kernel_rfl) (by kernel_rfl) ?_
            repeat (go_big_quiet_step (fail))
            refine wpQuiet_nil ?_
            rintro w5 ⟨⟨_, hb5⟩, rfl⟩
            have hown5 := own_later5 hown hb5
            have hB5 := then_ hB hb5
            have ca5 := later hb5 ca
            have hba5 : ba < w5.heap.size := lt_of_cell ca5
            have cb5 := later hb5 cb
            have hbb5 : bb < w5.heap.size := lt_of_cell cb5
            clear ca cb
            go_upto_region 8 with fail
            refine wp_region_later (by kernel_rfl) (by kernel_rfl) ?_
            repeat (go_big_quiet_step (fail))
            refine wpQuiet_nil ?_
            rintro w6 ⟨⟨_, hb6⟩, rfl⟩
            have hown6 := own_later5 hown5 hb6
            have hB6 := then_ hB5 hb6
            have cb6 := later hb6 cb5
            clear ca5 cb5
            go_wp2_with (at_builtin; refine wpList_append_own_at _ rfl _ _ 22 rfl w.heap.size 9 i0 (.string ⟨#[]⟩) 1 16 Try.underlying22 hi0 hz0 hz1 hz2 rfl (by decide) _ _ _ rfl (hown6.alloc _) ⟨w6.heap.size, 0, none⟩ 1 1 [.string Y] rfl rfl ?q1 ?q2 ?q3 ?q4 ?q5 ?_)
            case q1 => exact news_of_blk (l := [.string Y]) (Blk.new w6 _ _)
            case q2 => intro u hu; rw [List.mem_singleton.1 hu]; rfl
            case q3 => unfold maxLen; omega
            case q4 => omega
            case q5 => have := hB6.size; simp; omega
            intro v' w9 hown' hgrow hx9 hat
            have hB9 : Below w.heap.size w w9 := own_below hB6 hB6.size hown6 hgrow
            have hown9 : w9.ownsRow w.heap.size 9 1 v' (out ++ [y]).length ((out ++ [y]).map txtV) := by
              have e1 : (out ++ [y]).map txtV = out.map txtV ++ [.string Y] := by rw [List.map_append]; simp [txtV, HY.out]
              rw [e1, List.length_append]
              exact hown'
            clear hown' hgrow hx9 hat
            go_wp2_with fail
            go_roundg g
            case measure => omega
            case rel => exact ⟨i + 1, k + 1, out ++ [y], by go_num, by go_num, by omega, by omega, by omega, by simp; omega, hown9, hB9, by rw [List.append_assoc]; exact HM2.out⟩
          · rw [if_neg he] at hm
            rw [decide_eq_false he] at heq
            have HM2 := Lib.hid (show out ++ ([y] ++ mergeT g (a.drop i) (b.drop (k + 1))) = M by rw [hda]; exact hm)
            clear hm hda hdb hx hy hX hY hYy hxy hca hcb he
            go_upto_region 5 with fail
            refine wp_region_later (by kernel_rfl) (by kernel_rfl) ?_
            repeat (go_big_quiet_step (fail))
            refine wpQuiet_nil ?_
            rintro w5 ⟨⟨_, hb5⟩, rfl⟩
            have hown5 := own_later5 hown hb5
            have hB5 := then_ hB hb5
            have ca5 := later hb5 ca
            have hba5 : ba < w5.heap.size := lt_of_cell ca5
            have cb5 := later hb5 cb
            have hbb5 : bb < w5.heap.size := lt_of_cell cb5
            clear ca cb
            go_upto_region 8 with fail
            refine wp_region_later (by kernel_rfl) (by kernel_rfl) ?_
            repeat (go_big_quiet_step (fail))
            refine wpQuiet_nil ?_
            rintro w6 ⟨⟨_, hb6⟩, rfl⟩
            have hown6 := own_later5 hown5 hb6
            have hB6 := then_ hB5 hb6
            have cb6 := later hb6 cb5
            clear ca5 cb5
            go_wp2_with (at_builtin; refine wpList_append_own_at _ rfl _ _ 22 rfl w.heap.size 9 i0 (.string ⟨#[]⟩) 1 16 Try.underlying22 hi0 hz0 hz1 hz2 rfl (by decide) _ _ _ rfl (hown6.alloc _) ⟨w6.heap.size, 0, none⟩ 1 1 [.string Y] rfl rfl ?r1 ?r2 ?r3 ?r4 ?r5 ?_)
            case r1 => exact news_of_blk (l := [.string Y]) (Blk.new w6 _ _)
            case r2 => intro u hu; rw [List.mem_singleton.1 hu]; rfl
            case r3 => unfold maxLen; omega
            case r4 => omega
            case r5 => have := hB6.size; simp; omega
            intro v' w9 hown' hgrow hx9 hat
            have hB9 : Below w.heap.size w w9 := own_below hB6 hB6.size hown6 hgrow
            have hown9 : w9.ownsRow w.heap.size 9 1 v' (out ++ [y]).length ((out ++ [y]).map txtV) := by
              have e1 : (out ++ [y]).map txtV = out.map txtV ++ [.string Y] := by rw [List.map_append]; simp [txtV, HY.out]
              rw [e1, List.length_append]
              exact hown'
            clear hown' hgrow hx9 hat
            go_wp2_with fail
            go_roundg g
            case measure => omega
            case rel => exact ⟨i, k + 1, out ++ [y], rfl, by go_num, by omega, by omega, by omega, by simp; omega, hown9, hB9, by rw [List.append_assoc]; exact HM2.out⟩
      · have ek : decide ((nb : Int) ≤ (k : Int)) = true := by simp; omega
        have ek' : decide (nb ≤ k) = true := by simp; omega
        have hdb : b.drop k = [] := List.drop_of_length_le (by omega)
        rw [hda, hdb, mergeT] at hm
        have HM2 := Lib.hid (show out ++ ([x] ++ mergeT g (a.drop (i + 1)) (b.drop k)) = M by rw [hdb]; exact hm)
        clear hm hda hdb hx hX hca
        go_upto_region 5 with fail
        refine wp_region_later (by kernel_rfl) (by kernel_rfl) ?_
        repeat (go_big_quiet_step (fail))
        refine wpQuiet_nil ?_
        rintro w5 ⟨⟨_, hb5⟩, rfl⟩
        have hown5 := own_later5 hown hb5
        have hB5 := then_ hB hb5
        have ca5 := later hb5 ca
        have hba5 : ba < w5.heap.size := lt_of_cell ca5
        clear ca
        go_wp2_with (at_builtin; refine wpList_append_own_at _ rfl _ _ 22 rfl w.heap.size 9 i0 (.string ⟨#[]⟩) 1 16 Try.underlying22 hi0 hz0 hz1 hz2 rfl (by decide) _ _ _ rfl (hown5.alloc _) ⟨w5.heap.size, 0, none⟩ 1 1 [.string X] rfl rfl ?s1 ?s2 ?s3 ?s4 ?s5 ?_)
        case s1 => exact news_of_blk (l := [.string X]) (Blk.new w5 _ _)
        case s2 => intro u hu; rw [List.mem_singleton.1 hu]; rfl
        case s3 => unfold maxLen; omega
        case s4 => omega
        case s5 => have := hB5.size; simp; omega
        intro v' w9 hown' hgrow hx9 hat
        have hB9 : Below w.heap.size w w9 := own_below hB5 hB5.size hown5 hgrow
        have hown9 : w9.ownsRow w.heap.size 9 1 v' (out ++ [x]).length ((out ++ [x]).map txtV) := by
          have e1 : (out ++ [x]).map txtV = out.map txtV ++ [.string X] := by rw [List.map_append]; simp [txtV, HX.out]
          rw [e1, List.length_append]
          exact hown'
        clear hown' hgrow hx9 hat
        go_wp2_with fail
        go_roundg g
        case measure => omega
        case rel => exact ⟨i + 1, k, out ++ [x], by go_num, rfl, by omega, by omega, by omega, by simp; omega, hown9, hB9, by rw [List.append_assoc]; exact HM2.out⟩
    · have ei : decide ((i : Int) < (na : Int)) = false := by simp; omega
      have ei' : decide (i < na) = false := by simp; omega
      have hda : a.drop i = [] := List.drop_of_length_le (by omega)
      by_cases hk : k < nb
      · have ek : decide ((nb : Int) ≤ (k : Int)) = false := by simp; omega
        have ek' : decide (nb ≤ k) = false := by simp; omega
        have ekl : decide ((k : Int) < (nb : Int)) = true := by simp; omega
        have ekl' : decide (k < nb) = true := by simp; omega
        obtain ⟨bb, ob, rfl, hbb, hcb⟩ := hsb.at_ hk
        obtain ⟨y, hy⟩ : ∃ x, b[k]! = x := ⟨_, rfl⟩
        have cb : wr.cell? ⟨bb, ob + k, none⟩ = some (txtV y) := by rw [← hy]; exact (hB.cell (p := ⟨bb, ob + k, none⟩) hbb).trans hcb
        have hdb : b.drop k = y :: b.drop (k + 1) := by rw [List.drop_eq_getElem_cons (by omega), ← hy, getElem!_pos b k (by omega)]
        unfold txtV at cb
        obtain ⟨Y, hY⟩ : ∃ X : ByteArray, (⟨y.toArray⟩ : ByteArray) = X := ⟨_, rfl⟩
        rw [hY] at cb
        have HY := Lib.hid hY
        have hbbr : bb < wr.heap.size := by have := hB.size; omega
        obtain ⟨g, rfl⟩ : ∃ g, gk = g + 1 := ⟨gk - 1, by omega⟩
        rw [hda, hdb, mergeT] at hm
        have HM2 := Lib.hid (show out ++ ([y] ++ mergeT g (a.drop i) (b.drop (k + 1))) = M by rw [hda]; exact hm)
        clear hm hda hdb hy hY hcb
        go_upto_region 5 with fail
        refine wp_region_later (by kernel_rfl) (by kernel_rfl) ?_
        repeat (go_big_quiet_step (fail))
        refine wpQuiet_nil ?_
        rintro w5 ⟨⟨_, hb5⟩, rfl⟩
        have hown5 := own_later5 hown hb5
        have hB5 := then_ hB hb5
        have cb5 := later hb5 cb
        have hbb5 : bb < w5.heap.size := lt_of_cell cb5
        clear cb
        go_upto_region 8 with fail
        refine wp_region_later (by kernel_rfl) (by kernel_rfl) ?_
        repeat (go_big_quiet_step (fail))
        refine wpQuiet_nil ?_
        rintro w6 ⟨⟨_, hb6⟩, rfl⟩
        have hown6 := own_later5 hown5 hb6
        have hB6 := then_ hB5 hb6
        have cb6 := later hb6 cb5
        clear cb5
        go_wp2_with (at_builtin; refine wpList_append_own_at _ rfl _ _ 22 rfl w.heap.size 9 i0 (.string ⟨#[]⟩) 1 16 Try.underlying22 hi0 hz0 hz1 hz2 rfl (by decide) _ _ _ rfl (hown6.alloc _) ⟨w6.heap.size, 0, none⟩ 1 1 [.string Y] rfl rfl ?t1 ?t2 ?t3 ?t4 ?t5 ?_)
        case t1 => exact news_of_blk (l := [.string Y]) (Blk.new w6 _ _)
        case t2 => intro u hu; rw [List.mem_singleton.1 hu]; rfl
        case t3 => unfold maxLen; omega
        case t4 => omega
        case t5 => have := hB6.size; simp; omega
        intro v' w9 hown' hgrow hx9 hat
        have hB9 : Below w.heap.size w w9 := own_below hB6 hB6.size hown6 hgrow
        have hown9 : w9.ownsRow w.heap.size 9 1 v' (out ++ [y]).length ((out ++ [y]).map txtV) := by
          have e1 : (out ++ [y]).map txtV = out.map txtV ++ [.string Y] := by rw [List.map_append]; simp [txtV, HY.out]
          rw [e1, List.length_append]
          exact hown'
        clear hown' hgrow hx9 hat
        go_wp2_with fail
        go_roundg g
        case measure => omega
        case rel => exact ⟨i, k + 1, out ++ [y], rfl, by go_num, by omega, by omega, by omega, by simp; omega, hown9, hB9, by rw [List.append_assoc]; exact HM2.out⟩
      · have ekl : decide ((k : Int) < (nb : Int)) = false := by simp; omega
        have ekl' : decide (k < nb) = false := by simp; omega
        have hdb : b.drop k = [] := List.drop_of_length_le (by omega)
        have hfin : out = M := by
          rw [hda, hdb] at hm
          cases gk <;> simpa [mergeT] using hm
        rw [hfin] at hown
        clear hm hda hdb hfin
        go_wp2_with fail
        go_ret
        exact ⟨_, rfl, hown, hB⟩
end Go.Proofs.Ytpmahljbkgielaa
