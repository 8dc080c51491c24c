/- What the trees of plain texts match; the statement DerivPlain, walked. -/
import Derived.Test.YtlmnincllndpnaaDerLawA
import Derived.Test.YtlmnincllndpnaaRexGroups2
namespace Go.Proofs.Ytlmnincllndpnaa
open Go.RowKit
attribute [local go_sem ↓] Go.wp_at_zero Go.wp_at_succ
attribute [local go_sem] Later.cell Later.frozen

/-! ### every rest can be matched to its end -/
def Good : Tr → Prop
  | .empty => True
  | .cls v => ∃ b : UInt8, v.testBit b.toNat = true
  | .cat a b => Good a ∧ Good b
  | .alt a b => Good a ∧ Good b
  | .star a => Good a
  | .plus a => Good a
  | .quest a => Good a
theorem good_some : ∀ t : Tr, Good t → ∃ u, Lg t u
  | .empty, _ => ⟨[], rfl⟩
  | .cls v, ⟨b, h⟩ => ⟨[b], b, rfl, h⟩
  | .cat a b, ⟨h1, h2⟩ => by
    obtain ⟨x, hx⟩ := good_some a h1
    obtain ⟨y, hy⟩ := good_some b h2
    exact ⟨x ++ y, x, y, rfl, hx, hy⟩
  | .alt a b, ⟨h1, _⟩ => by
    obtain ⟨x, hx⟩ := good_some a h1
    exact ⟨x, .inl hx⟩
  | .star a, _ => ⟨[], Rep.nil⟩
  | .plus a, h => by
    obtain ⟨x, hx⟩ := good_some a h
    exact ⟨x ++ [], x, [], rfl, hx, Rep.nil⟩
  | .quest a, _ => ⟨[], .inl rfl⟩
theorem chain_some : ∀ c : List Tr, (∀ t ∈ c, Good t) → ∃ u, Lc c u
  | [], _ => ⟨[], rfl⟩
  | t :: c, h => by
    obtain ⟨x, hx⟩ := good_some t (h t (by simp))
    obtain ⟨y, hy⟩ := chain_some c (fun t ht => h t (by simp [ht]))
    exact ⟨x ++ y, x, y, rfl, hx, hy⟩
theorem Dv_good : ∀ (t : Tr) (c : List Tr) (b : UInt8), Good t → (∀ t ∈ c, Good t) → ∀ k ∈ Dv t c b, ∀ t ∈ k, Good t
  | .empty, c, b, _, _, k, hk => by simp [Dv] at hk
  | .cls v, c, b, _, hc, k, hk => by
    rw [Dv] at hk
    split at hk
    · simp at hk; subst hk; exact hc
    · simp at hk
  | .cat x y, c, b, ⟨hx, hy⟩, hc, k, hk => by
    rw [Dv] at hk
    rcases List.mem_append.1 hk with h | h
    · exact Dv_good x (y :: c) b hx (fun t ht => by rcases List.mem_cons.1 ht with rfl | ht; exact hy; exact hc t ht) k h
    · split at h
      · exact Dv_good y c b hy hc k h
      · simp at h
  | .alt x y, c, b, ⟨hx, hy⟩, hc, k, hk => by
    rw [Dv] at hk
    rcases List.mem_append.1 hk with h | h
    · exact Dv_good x c b hx hc k h
    · exact Dv_good y c b hy hc k h
  | .star x, c, b, hx, hc, k, hk => Dv_good x (.star x :: c) b hx (fun t ht => by rcases List.mem_cons.1 ht with rfl | ht; exact hx; exact hc t ht) k hk
  | .plus x, c, b, hx, hc, k, hk => Dv_good x (.star x :: c) b hx (fun t ht => by rcases List.mem_cons.1 ht with rfl | ht; exact hx; exact hc t ht) k hk
  | .quest x, c, b, hx, hc, k, hk => Dv_good x c b hx hc k hk
theorem Dc_good : ∀ (c : List Tr) (b : UInt8), (∀ t ∈ c, Good t) → ∀ k ∈ Dc c b, ∀ t ∈ k, Good t
  | [], b, _, k, hk => by simp [Dc] at hk
  | t :: c, b, h, k, hk => by
    rw [Dc] at hk
    rcases List.mem_append.1 hk with g | g
    · exact Dv_good t c b (h t (by simp)) (fun x hx => h x (by simp [hx])) k g
    · split at g
      · exact Dc_good c b (fun x hx => h x (by simp [hx])) k g
      · simp at g
theorem after_good : ∀ (s : List UInt8) (D : List (List Tr)), (∀ c ∈ D, ∀ t ∈ c, Good t) → ∀ c ∈ after D s, ∀ t ∈ c, Good t
  | [], D, h => h
  | b :: s, D, h => after_good s (stepD D b) (fun c hc => by
    obtain ⟨k, h1, h2⟩ := List.mem_flatMap.1 hc
    exact Dc_good k b (h k h1) c h2)
theorem begins_iff (t : Tr) (s : List UInt8) (hg : Good t) : beginsB t s = true ↔ ∃ v, Lg t (s ++ v) := by
  have hA := after_good s [[t]] (by simp [hg])
  unfold beginsB
  constructor
  · intro h
    cases hd : after [[t]] s with
    | nil => rw [hd] at h; cases h
    | cons c D =>
      obtain ⟨v, hv⟩ := chain_some c (hA c (by rw [hd]; simp))
      have := (after_iff s v [[t]]).1 ⟨c, by rw [hd]; simp, hv⟩
      obtain ⟨k, hk, hl⟩ := this
      simp at hk
      subst hk
      exact ⟨v, (Lc_one t _).1 hl⟩
  · rintro ⟨v, hv⟩
    obtain ⟨k, hk, _⟩ := (after_iff s v [[t]]).2 ⟨[t], by simp, (Lc_one t _).2 hv⟩
    cases hd : after [[t]] s with
    | nil => rw [hd] at hk; simp at hk
    | cons => rfl

/-! ### plain texts -/
theorem one_lg (b : UInt8) (u : List UInt8) : Lg (oneT b) u ↔ u = [b] := by
  constructor
  · rintro ⟨c, rfl, h⟩
    rw [oneT_bit] at h
    have : c.toNat = b.toNat := by simpa using h
    rw [UInt8.toNat_inj.1 this]
  · rintro rfl
    exact ⟨b, rfl, by rw [oneT_bit]; simp⟩
theorem one_good (b : UInt8) : Good (oneT b) := ⟨b, by rw [oneT_bit]; simp⟩
theorem fold_lg : ∀ (l : List UInt8) (t : Tr) (u : List UInt8), Lg (foldT (some t) l) u ↔ ∃ x, u = x ++ l ∧ Lg t x
  | [], t, u => by simp [foldT, emptyOf]
  | b :: l, t, u => by
    rw [foldT, fold_lg l _ u]
    constructor
    · rintro ⟨x, rfl, y, z, rfl, h1, h2⟩
      rw [one_lg] at h2
      subst h2
      exact ⟨y, by simp, h1⟩
    · rintro ⟨x, rfl, h⟩
      exact ⟨x ++ [b], by simp, x, [b], rfl, h, (one_lg b _).2 rfl⟩
theorem plain_lg (l u : List UInt8) : Lg (foldT none l) u ↔ u = l := by
  cases l with
  | nil => rfl
  | cons b l =>
    rw [foldT, fold_lg]
    constructor
    · rintro ⟨x, rfl, h⟩
      rw [show catOf none (oneT b) = oneT b from rfl, one_lg] at h
      rw [h]
      rfl
    · rintro rfl
      exact ⟨[b], rfl, (one_lg b _).2 rfl⟩
theorem fold_good : ∀ (l : List UInt8) (t : Tr), Good t → Good (foldT (some t) l)
  | [], t, h => h
  | b :: l, t, h => fold_good l _ ⟨h, one_good b⟩
theorem plain_good (l : List UInt8) : Good (foldT none l) := by
  cases l with
  | nil => trivial
  | cons b l => exact fold_good l _ (one_good b)
theorem plain_match (l u : List UInt8) : matchC (foldT none l) u = decide (u = l) := by
  rw [Bool.eq_iff_iff, matchC_iff, plain_lg, decide_eq_true_eq]
theorem plain_begins (l u : List UInt8) : beginsB (foldT none l) u = decide (u.length ≤ l.length ∧ l.take u.length = u) := by
  rw [Bool.eq_iff_iff, begins_iff _ _ (plain_good l), decide_eq_true_eq]
  simp only [plain_lg]
  constructor
  · rintro ⟨v, rfl⟩; simp
  · rintro ⟨_, h⟩
    refine ⟨l.drop u.length, ?_⟩
    have := List.take_append_drop u.length l
    rw [h] at this
    exact this

theorem cut_le (s : ByteArray) (j : Nat) : (s.extract 0 j).size ≤ j := by
  have h := congrArg List.length (cut_data s 0 j)
  rw [List.length_take] at h
  have e1 : (s.extract 0 j).data.toList.length = (s.extract 0 j).size := rfl
  omega
theorem parses_of_says {l l' : List UInt8} {t : Tr} (h : Says .branches l 0 (.ok (t, l'))) (hl : l.length ≤ 64) : Parses l (.ok t) := by
  obtain ⟨n, h⟩ := h
  exact ⟨hl, n, l', h⟩

set_option maxHeartbeats 1000000 in
theorem derivPlain_calls (s t : ByteArray) (w : World) (hs : s.size ≤ 140737488351232) (ht : t.size ≤ 140737488351232) :
    Calls Try.prog 5 #[.string s, .string t] w fun e w' => e = .returned (.bool true) ∧ Below w.heap.size w w' := by
  go_enter Try.func5, Try.ntmps5
  go_wp2_with fail
  refine (wakes07_calls w).mono ?_
  rintro e w1 ⟨rfl, hb1⟩
  go_upto_region 4 with fail
  go_cut [0] (fun s0 wz => wz = w1 ∧ ∃ S : ByteArray, s0 = .string S ∧ S.size ≤ 32)
  case first =>
    by_cases h32 : s.size < 32
    all_goals
      go_wp2_with fail
      all_goals go_meet
      all_goals refine ⟨rfl, _, rfl, ?_⟩
      all_goals first | (have := cut_size s 0 s.size; omega) | exact cut_le s 32
  case rest =>
    obtain ⟨rfl, S, rfl, hS⟩ := hcut
    obtain ⟨w1, rfl⟩ : ∃ x, x = wc := ⟨_, rfl⟩
    go_wp2_with fail
    go_loopg [5, 6] S.size (fun g s5 s6 wr => wr = w1 ∧ ∃ (P : ByteArray) (k : Nat), k + g = S.size ∧ s5 = .string P ∧ s6 = .int .i64 (k : Nat) ∧ P.data.toList = esc (S.data.toList.take k))
    case atStart => exact ⟨rfl, ⟨#[]⟩, 0, by omega, rfl, rfl, rfl⟩
    case round =>
      obtain ⟨rfl, P, k, hk, rfl, rfl, hP⟩ := hrel
      obtain ⟨w1, rfl⟩ : ∃ x, x = wr := ⟨_, rfl⟩
      have hPs : P.size ≤ 64 := by
        have e := congrArg List.length hP
        rw [esc_len, List.length_take] at e
        have e1 : P.data.toList.length = P.size := rfl
        have e2 : S.data.toList.length = S.size := rfl
        omega
      have HK := Lib.hid hk
      have HP := Lib.hid hP
      clear hk hP
      by_cases hlt : k < S.size
      · go_wp2_with fail
        go_roundg (gk - 1)
        case measure => have := HK.out; omega
        case rel =>
          refine ⟨rfl, _, k + 1, by have := HK.out; omega, rfl, by go_num, ?_⟩
          have hl : k < S.data.toList.length := hlt
          rw [List.take_succ_eq_append_getElem hl, esc_append, ← HP.out]
          simp only [ByteArray.data_append, Array.toList_append, cut_data]
          congr 1
          rw [show k + 1 - k = 1 by omega, List.drop_eq_getElem_cons hl]
          rfl
      · have hpt : P.data.toList = esc S.data.toList := by
          rw [HP.out, List.take_of_length_le]
          exact Nat.le_of_not_lt hlt
        have hpar : Parses P.data.toList (.ok (foldT none S.data.toList)) := by
          rw [hpt]
          refine parses_of_says (esc_branches _) ?_
          rw [esc_len]
          have e2 : S.data.toList.length = S.size := rfl
          omega
        have HPAR := Lib.hid hpar
        clear hpt hpar
        go_wp2_with fail
        refine (parse_calls P _ HPAR.out w1).mono ?_
        rintro e w2 ⟨p, rfl, htr, hb2⟩
        have ht2 := htr.is
        go_wp2_with fail
        refine (match_tree _ p S true w2 ht2 (by omega) (by rw [plain_match]; simp)).mono ?_
        rintro e w3 ⟨rfl, hb3⟩
        have ht3 := ht2.keep (below_keeps hb3)
        obtain ⟨r1, h1⟩ : ∃ r, decide (t.data.toList = S.data.toList) = r := ⟨_, rfl⟩
        have hm1 : matchC (foldT none S.data.toList) t.data.toList = r1 := by rw [plain_match, h1]
        have he1 : (t.toList == S.toList) = r1 := by
          rw [← h1, Bool.eq_iff_iff, beq_iff_eq, decide_eq_true_eq, ByteArray.toList_eq, ByteArray.toList_eq]
        have HM1 := Lib.hid hm1
        have H1 := Lib.hid h1
        clear h1 hm1
        go_wp2_with fail
        refine (match_tree _ p t r1 w3 ht3 (by omega) HM1.out).mono ?_
        rintro e w4 ⟨rfl, hb4⟩
        have ht4 := ht3.keep (below_keeps hb4)
        have hB : Below w.heap.size w w4 := then_ (then_ (then_ hb1 hb2) hb3) hb4
        obtain ⟨r2, h2⟩ : ∃ r, beginsB (foldT none S.data.toList) t.data.toList = r := ⟨_, rfl⟩
        have H2 := Lib.hid h2
        clear h2
        by_cases hle : t.size ≤ S.size
        · have he2 : ((S.extract 0 t.size).toList == t.toList) = r2 := by
            rw [← H2.out, plain_begins, Bool.eq_iff_iff, beq_iff_eq, decide_eq_true_eq, ByteArray.toList_eq, ByteArray.toList_eq, cut_data]
            have e1 : t.data.toList.length = t.size := rfl
            have e2 : S.data.toList.length = S.size := rfl
            rw [e1, e2]
            simp [hle]
          go_wp2_with fail
          refine (begins_tree _ p t r2 w4 ht4 (by omega) H2.out).mono ?_
          rintro e w5 ⟨rfl, hb5⟩
          go_wp2_with fail
          all_goals go_ret
          all_goals exact ⟨rfl, then_ hB hb5⟩
        · have he2 : r2 = false := by
            rw [← H2.out, plain_begins]
            have e1 : t.data.toList.length = t.size := rfl
            have e2 : S.data.toList.length = S.size := rfl
            rw [e1, e2]
            simp [hle]
          have HE2 := Lib.hid he2
          clear he2
          go_wp2_with fail
          refine (begins_tree _ p t r2 w4 ht4 (by omega) H2.out).mono ?_
          rintro e w5 ⟨rfl, hb5⟩
          rw [HE2.out]
          go_wp2_with fail
          go_ret
          exact ⟨rfl, then_ hB hb5⟩
end Go.Proofs.Ytlmnincllndpnaa
