/- How what is matched is put together; the statement DerivJoins, walked. -/
import Derived.Test.YtlmnincllndpnaaDerLawB
namespace Go.Proofs.Ytlmnincllndpnaa
open Go.RowKit
attribute [local go_sem ↓] Go.wp_at_zero Go.wp_at_succ
attribute [local go_sem] Later.cell Later.frozen

/-! ### what is matched -/
theorem m_alt (a b : Tr) (s : List UInt8) : matchC (.alt a b) s = (matchC a s || matchC b s) := by
  rw [Bool.eq_iff_iff, Bool.or_eq_true, matchC_iff, matchC_iff, matchC_iff]
  rfl
theorem m_quest (a : Tr) (s : List UInt8) : matchC (.quest a) s = (s.isEmpty || matchC a s) := by
  rw [Bool.eq_iff_iff, Bool.or_eq_true, matchC_iff, matchC_iff, List.isEmpty_iff]
  rfl
def cutTo (a b : Tr) (s : List UInt8) (k : Nat) : Bool := (List.range k).any fun j => matchC a (s.take j) && matchC b (s.drop j)
def againTo (a : Tr) (s : List UInt8) (k : Nat) : Bool := s.isEmpty || (List.range k).any fun j => decide (0 < j) && (matchC a (s.take j) && matchC (.star a) (s.drop j))
theorem cutTo_succ (a b : Tr) (s : List UInt8) (k : Nat) : cutTo a b s (k + 1) = (cutTo a b s k || (matchC a (s.take k) && matchC b (s.drop k))) := by
  unfold cutTo
  rw [List.range_succ, List.any_append]
  simp
theorem againTo_succ (a : Tr) (s : List UInt8) (k : Nat) : againTo a s (k + 1) = (againTo a s k || (decide (0 < k) && (matchC a (s.take k) && matchC (.star a) (s.drop k)))) := by
  unfold againTo
  rw [List.range_succ, List.any_append, ← Bool.or_assoc]
  simp
theorem m_cat (a b : Tr) (s : List UInt8) : matchC (.cat a b) s = cutTo a b s (s.length + 1) := by
  rw [Bool.eq_iff_iff, matchC_iff]
  unfold cutTo
  simp only [List.any_eq_true, List.mem_range, Bool.and_eq_true, matchC_iff]
  constructor
  · rintro ⟨x, y, rfl, h1, h2⟩
    exact ⟨x.length, by simp; omega, by simpa using h1, by simpa using h2⟩
  · rintro ⟨j, _, h1, h2⟩
    exact ⟨s.take j, s.drop j, (List.take_append_drop j s).symm, h1, h2⟩
theorem m_star (a : Tr) (s : List UInt8) : matchC (.star a) s = againTo a s (s.length + 1) := by
  rw [Bool.eq_iff_iff, matchC_iff]
  unfold againTo
  simp only [Bool.or_eq_true, List.any_eq_true, List.mem_range, Bool.and_eq_true, matchC_iff, List.isEmpty_iff, decide_eq_true_eq]
  constructor
  · intro h
    cases h with
    | nil => exact .inl rfl
    | cons x y hx ha hr =>
      have : 0 < x.length := List.length_pos_iff.2 hx
      exact .inr ⟨x.length, by simp; omega, this, by simpa using ha, by rw [List.drop_left]; exact hr⟩
  · rintro (rfl | ⟨j, hj, h0, h1, h2⟩)
    · exact Rep.nil
    · have e := List.take_append_drop j s
      have hne : s.take j ≠ [] ∨ s = [] := by
        by_cases hs : s = []
        · exact .inr hs
        · refine .inl fun h => ?_
          have h3 : min j s.length = 0 := by
            have := congrArg List.length h
            rwa [List.length_take] at this
          have h4 : s.length ≠ 0 := fun h => hs (List.length_eq_zero_iff.1 h)
          omega
      rcases hne with hne | rfl
      · have := Rep.cons (s.take j) (s.drop j) hne h1 h2
        rw [e] at this
        exact this
      · exact Rep.nil
theorem m_plus (a : Tr) (s : List UInt8) : matchC (.plus a) s = (againTo a s (s.length + 1) && !s.isEmpty || matchC a s) := by
  rw [← m_star, Bool.eq_iff_iff, Bool.or_eq_true, Bool.and_eq_true, matchC_iff, matchC_iff, matchC_iff, Bool.not_eq_true', List.isEmpty_eq_false_iff]
  constructor
  · rintro ⟨x, y, rfl, h1, h2⟩
    by_cases hxy : x ++ y = []
    · have := List.append_eq_nil_iff.1 hxy
      rw [hxy]
      rw [this.1] at h1
      exact .inr h1
    · refine .inl ⟨?_, hxy⟩
      by_cases hx : x = []
      · subst hx; exact h2
      · exact Rep.cons x y hx h1 h2
  · rintro (⟨h1, h2⟩ | h)
    · cases s with
      | nil => exact absurd rfl h2
      | cons b s =>
        obtain ⟨x, y, rfl, h3, h4⟩ := Rep.head h1
        exact ⟨b :: x, y, rfl, h3, h4⟩
    · exact ⟨s, [], by simp, h, Rep.nil⟩

/-! ### patterns put together -/
theorem says_of_parses {l : List UInt8} {t : Tr} (h : Parses l (.ok t)) : Says .branches l 0 (.ok (t, [])) := by
  obtain ⟨_, n, l', h⟩ := h
  have := branches_zero ⟨n, h⟩
  subst this
  exact ⟨n, h⟩
theorem parses_error_says {l : List UInt8} {c : Nat} (h : Parses l (.error c)) (hl : l.length ≤ 64) : Says .branches l 0 (.error c) := by
  rcases h with ⟨h1, _⟩ | ⟨_, n, h⟩
  · omega
  · exact ⟨n, h⟩
theorem deep_cat {p q : List UInt8} {t : Tr} (h : Fits p t) (h' : TooDeep q) : ∃ c, Says .branches (40 :: (p ++ 41 :: 40 :: (q ++ 41 :: []))) 0 (.error c) := by
  obtain ⟨c, h'⟩ := h'
  exact ⟨c, says_branches_error (says_pieces (by decide) (by decide) (fits_piece h (by rfl)) (says_pieces_error (by decide) (by decide) (says_piece_error (h' _))))⟩
section
variable {p q : List UInt8} {a b T : Tr}
theorem fits_of (hp : Parses p (.ok a)) {y : List UInt8} (h : Parses (40 :: (p ++ 41 :: y)) (.ok T)) : Fits p a := by
  rcases paren (says_of_parses hp) with f | ⟨_, d⟩
  · exact f
  · obtain ⟨c, hc⟩ := deep_first d y
    have := (says_of_parses h).one hc
    cases this
theorem join_alt (hp : Parses p (.ok a)) (hq : Parses q (.ok b)) (h : Parses (40 :: (p ++ 41 :: 124 :: 40 :: (q ++ 41 :: []))) (.ok T)) : T = .alt a b := by
  have f := fits_of hp h
  rcases paren (says_of_parses hq) with f' | ⟨_, d⟩
  · have := (says_of_parses h).one (group_alt f f')
    injection this with this; injection this
  · obtain ⟨c, hc⟩ := deep_alt f d
    have := (says_of_parses h).one hc
    cases this
theorem join_cat (hp : Parses p (.ok a)) (hq : Parses q (.ok b)) (h : Parses (40 :: (p ++ 41 :: 40 :: (q ++ 41 :: []))) (.ok T)) : T = .cat a b := by
  have f := fits_of hp h
  rcases paren (says_of_parses hq) with f' | ⟨_, d⟩
  · have := (says_of_parses h).one (group_cat f f')
    injection this with this; injection this
  · obtain ⟨c, hc⟩ := deep_cat f d
    have := (says_of_parses h).one hc
    cases this
theorem join_sign (f : Fits p a) {x : UInt8} {u : Tr} (hx : signOf x a = some u) (h : Parses (40 :: (p ++ 41 :: [x])) (.ok T)) : T = u := by
  have := (says_of_parses h).one (group_sign f hx)
  injection this with this; injection this
theorem join_ok (f : Fits p a) {x : UInt8} {u : Tr} (hx : signOf x a = some u) (hl : (40 :: (p ++ 41 :: [x])).length ≤ 64) {k : Nat} (h : Parses (40 :: (p ++ 41 :: [x])) (.error k)) : False := by
  have := (parses_error_says h hl).one (group_sign f hx)
  cases this
end

/-! ### errors have numbers -/
theorem letterOf_error {l : List UInt8} {c : Nat} (h : letterOf l = .error c) : c ≠ 0 := by
  match l with
  | [] => simp [letterOf] at h; omega
  | b :: l =>
    simp only [letterOf] at h
    split at h
    · match l with
      | [] => simp at h; omega
      | x :: l => simp at h
    · cases h
theorem itemOf_error {l : List UInt8} {c : Nat} (h : itemOf l = .error c) : c ≠ 0 := by
  unfold itemOf at h
  split at h
  · rename_i e he
    injection h with h; subst h; exact letterOf_error he
  · split at h
    · split at h
      · rename_i e he
        injection h with h; subst h; exact letterOf_error he
      · cases h
    · cases h
theorem itemsF_err : ∀ {n : Nat} {l : List UInt8} {s k : Nat} {f : Bool} {c : Nat}, itemsF n l s k f = some (.error c) → c ≠ 0
  | 0, _, _, _, _, _, h => by simp [itemsF] at h
  | n + 1, l, s, k, f, c, h => by
    rw [itemsF] at h
    split at h
    · cases h
    · split at h
      · rename_i e he
        injection h with h; injection h with h; subst h; exact itemOf_error he
      · exact itemsF_err h
theorem classF_err {n : Nat} {l : List UInt8} {c : Nat} (h : classF n l = some (.error c)) : c ≠ 0 := by
  unfold classF at h
  dsimp only at h
  split at h
  · cases h
  · rename_i e he
    injection h with h; injection h with h; subst h; exact itemsF_err he
  · split at h
    · cases h
    · injection h with h; injection h with h; omega
theorem run_err : ∀ {n : Nat} {k : Tk} {l : List UInt8} {d c : Nat}, run n k l d = some (.error c) → (k.least = 1 → l ≠ []) → c ≠ 0
  | 0, _, _, _, _, h, _ => by simp [run] at h
  | n + 1, .branches, l, d, c, h, _ => by
    rw [run] at h
    rcases Res.then_some h with ⟨t1, l1, h1, h2⟩ | ⟨e, h1, h2⟩
    · exact run_err h2 (by simp [Tk.least])
    · injection h2 with h2; subst h2; exact run_err h1 (by simp [Tk.least])
  | n + 1, .strokes t, l, d, c, h, _ => by
    rw [run] at h
    split at h
    · rcases Res.then_some h with ⟨t1, l1, h1, h2⟩ | ⟨e, h1, h2⟩
      · exact run_err h2 (by simp [Tk.least])
      · injection h2 with h2; subst h2; exact run_err h1 (by simp [Tk.least])
    · cases h
  | n + 1, .pieces t, [], d, c, h, _ => by rw [run] at h; cases h
  | n + 1, .pieces t, b :: l, d, c, h, _ => by
    rw [run] at h
    split at h
    · injection h with h; injection h with h; omega
    · split at h
      · cases h
      · rcases Res.then_some h with ⟨t1, l1, h1, h2⟩ | ⟨e, h1, h2⟩
        · exact run_err h2 (by simp [Tk.least])
        · injection h2 with h2; subst h2; exact run_err h1 (by simp)
  | n + 1, .piece, l, d, c, h, hl => by
    rw [run] at h
    rcases Res.then_some h with ⟨t1, l1, h1, h2⟩ | ⟨e, h1, h2⟩
    · exact run_err h2 (by simp [Tk.least])
    · injection h2 with h2; subst h2; exact run_err h1 (fun _ => hl rfl)
  | n + 1, .signs t, [], d, c, h, _ => by rw [run] at h; cases h
  | n + 1, .signs t, b :: l, d, c, h, _ => by
    rw [run] at h
    split at h
    · exact run_err h (by simp [Tk.least])
    · cases h
  | n + 1, .atom, [], d, c, h, hl => absurd rfl (hl rfl)
  | n + 1, .atom, b :: l, d, c, h, hl => by
    rw [run_atom] at h
    split at h
    · injection h with h; injection h with h; omega
    · split at h
      · split at h
        · rcases Res.then_some h with ⟨t1, l1, h1, h2⟩ | ⟨e, h1, h2⟩
          · split at h2
            · injection h2 with h2; injection h2 with h2; omega
            · cases h2
          · injection h2 with h2; subst h2; exact run_err h1 (by simp [Tk.least])
        · injection h with h; injection h with h; omega
      · split at h
        · exact classF_err h
        · split at h
          · cases h
          · split at h
            · split at h
              · injection h with h; injection h with h; omega
              · cases h
            · cases h
theorem parses_err {l : List UInt8} {c : Nat} (h : Parses l (.error c)) : c ≠ 0 := by
  rcases h with ⟨_, rfl⟩ | ⟨_, n, h⟩
  · omega
  · exact run_err h (by simp [Tk.least])

/-! ### Parse, whatever the pattern -/
def POut (w : World) (l : List UInt8) (o : Option Addr) (c : Int) : Prop :=
  (c = 0 ∧ ∃ t p, o = some ⟨p, 0, none⟩ ∧ TreeIs w t p ∧ Parses l (.ok t)) ∨ ((c == 0) = false ∧ o = none ∧ ∃ k, Parses l (.error k))
theorem parse_opt (s : ByteArray) (w : World) : Calls Try.prog 13 #[.string s] w fun e w' => ∃ o c, e = .returned (.tuple #[.pointer o, .int .i64 c]) ∧ POut w' s.data.toList o c ∧ Below w.heap.size w w' := by
  obtain ⟨res, h⟩ := parses_total s.data.toList
  refine (parse_calls s res h w).mono fun e w' hq => ?_
  cases res with
  | ok t =>
    obtain ⟨p, rfl, ht, hb⟩ := hq
    exact ⟨_, _, rfl, .inl ⟨rfl, t, p, rfl, ht.is, h⟩, hb⟩
  | error c =>
    obtain ⟨rfl, hb⟩ := hq
    refine ⟨_, _, rfl, .inr ⟨?_, rfl, c, h⟩, hb⟩
    have := parses_err h
    rw [beq_eq_false_iff_ne]
    omega
def PdOut (w : World) (l : List UInt8) (o : Option Addr) : Prop := o = none ∨ ∃ t p, o = some ⟨p, 0, none⟩ ∧ TreeIs w t p ∧ Parses l (.ok t)
theorem POut.keep {w w' : World} {l : List UInt8} {o : Option Addr} {c : Int} (h : POut w l o c) (hk : Keeps w w') : POut w' l o c := by
  rcases h with ⟨h1, t, p, h2, h3, h4⟩ | h
  · exact .inl ⟨h1, t, p, h2, h3.keep hk, h4⟩
  · exact .inr h
theorem PdOut.keep {w w' : World} {l : List UInt8} {o : Option Addr} (h : PdOut w l o) (hk : Keeps w w') : PdOut w' l o := by
  rcases h with h | ⟨t, p, h2, h3, h4⟩
  · exact .inl h
  · exact .inr ⟨t, p, h2, h3.keep hk, h4⟩
set_option maxHeartbeats 400000 in
theorem parsed_calls (s : ByteArray) (w : World) : Calls Try.prog 12 #[.string s] w fun e w' => ∃ o, e = .returned (.pointer o) ∧ PdOut w' s.data.toList o ∧ Below w.heap.size w w' := by
  by_cases h : 20 < s.size
  · go_enter Try.func12, Try.ntmps12
    go_wp2_with fail
    go_ret
    exact ⟨none, rfl, .inl rfl, Below.refl _ _⟩
  · go_enter Try.func12, Try.ntmps12
    go_wp2_with fail
    refine (parse_opt s w).mono ?_
    rintro e w1 ⟨o, c, rfl, hP, hb⟩
    go_wp2_with fail
    go_ret
    refine ⟨o, rfl, ?_, hb⟩
    rcases hP with ⟨_, h⟩ | ⟨_, h, _⟩
    · exact .inr h
    · exact .inl h

set_option maxRecDepth 100000 in
set_option maxHeartbeats 2000000 in
theorem derivJoins_calls (p q s : ByteArray) (w : World) (hp : p.size ≤ 140737488351232) (hq : q.size ≤ 140737488351232) (hs : s.size ≤ 140737488351232) :
    Calls Try.prog 3 #[.string p, .string q, .string s] w fun e w' => e = .returned (.bool true) ∧ Below w.heap.size w w' := by
  go_enter Try.func3, Try.ntmps3
  go_wp2_with fail
  refine (wakes07_calls w).mono ?_
  rintro e w1 ⟨rfl, hb1⟩
  go_wp2_with fail
  refine (parsed_calls p w1).mono ?_
  rintro e w2 ⟨o1, rfl, h1, hb2⟩
  go_wp2_with fail
  refine (parsed_calls q w2).mono ?_
  rintro e w3 ⟨o2, rfl, h2, hb3⟩
  have h1 := h1.keep (below_keeps hb3)
  have hB : Below w.heap.size w w3 := then_ (then_ hb1 hb2) hb3
  clear hb1 hb2 hb3
  go_upto_region 4 with fail
  go_cut [2] (fun s2 wz => wz = w3 ∧ ∃ S : ByteArray, s2 = .string S ∧ S.size ≤ 40)
  case first =>
    by_cases h40 : s.size < 40
    all_goals
      go_wp2_with fail
      all_goals go_meet
      all_goals refine ⟨rfl, _, rfl, ?_⟩
      all_goals first | (have := cut_size s 0 s.size; omega) | exact cut_le s 40
  case rest =>
    obtain ⟨rfl, S, rfl, hS⟩ := hcut
    obtain ⟨w3, rfl⟩ : ∃ x, x = wc := ⟨_, rfl⟩
    go_wp2_with fail
    refine (parse_opt _ w3).mono ?_
    rintro e w4 ⟨o3, c3, rfl, h3, hb⟩
    have h1 := h1.keep (below_keeps hb)
    have h2 := h2.keep (below_keeps hb)
    have hB := then_ hB hb
    clear hb
    go_wp2_with fail
    refine (parse_opt _ w4).mono ?_
    rintro e w5 ⟨o4, c4, rfl, h4, hb⟩
    have h1 := h1.keep (below_keeps hb)
    have h2 := h2.keep (below_keeps hb)
    have h3 := h3.keep (below_keeps hb)
    have hB := then_ hB hb
    clear hb
    go_wp2_with fail
    refine (parse_opt _ w5).mono ?_
    rintro e w6 ⟨o5, c5, rfl, h5, hb⟩
    have h1 := h1.keep (below_keeps hb)
    have h2 := h2.keep (below_keeps hb)
    have h3 := h3.keep (below_keeps hb)
    have h4 := h4.keep (below_keeps hb)
    have hB := then_ hB hb
    clear hb
    go_wp2_with fail
    refine (parse_opt _ w6).mono ?_
    rintro e w7 ⟨o6, c6, rfl, h6, hb⟩
    have h1 := h1.keep (below_keeps hb)
    have h2 := h2.keep (below_keeps hb)
    have h3 := h3.keep (below_keeps hb)
    have h4 := h4.keep (below_keeps hb)
    have h5 := h5.keep (below_keeps hb)
    have hB := then_ hB hb
    clear hb
    go_wp2_with fail
    refine (parse_opt _ w7).mono ?_
    rintro e w8 ⟨o7, c7, rfl, h7, hb⟩
    have h1 := h1.keep (below_keeps hb)
    have h2 := h2.keep (below_keeps hb)
    have h3 := h3.keep (below_keeps hb)
    have h4 := h4.keep (below_keeps hb)
    have h5 := h5.keep (below_keeps hb)
    have h6 := h6.keep (below_keeps hb)
    have hB := then_ hB hb
    clear hb
    go_upto_region 10 with fail
    rcases h1 with rfl | ⟨ta, pa, rfl, hta, hpa⟩
    · go_wp2_with fail
      go_ret
      exact ⟨rfl, hB⟩
    rcases h2 with rfl | ⟨tb, pb, rfl, htb, hpb⟩
    · go_wp2_with fail
      go_ret
      exact ⟨rfl, hB⟩
    rcases h3 with ⟨rfl, t3, p3, rfl, ht3, hp3⟩ | ⟨hc, rfl, _⟩
    rotate_left
    · have hc' : (c3 != 0) = true := by simp only [bne, hc, Bool.not_false]
      go_wp2_with fail
      go_ret
      exact ⟨rfl, hB⟩
    rcases h4 with ⟨rfl, t4, p4, rfl, ht4, hp4⟩ | ⟨hc, rfl, _⟩
    rotate_left
    · have hc' : (c4 != 0) = true := by simp only [bne, hc, Bool.not_false]
      go_wp2_with fail
      go_ret
      exact ⟨rfl, hB⟩
    rcases h5 with ⟨rfl, t5, p5, rfl, ht5, hp5⟩ | ⟨hc, rfl, _⟩
    rotate_left
    · have hc' : (c5 != 0) = true := by simp only [bne, hc, Bool.not_false]
      go_wp2_with fail
      go_ret
      exact ⟨rfl, hB⟩
    have e3 : (({ data := #[40] } : ByteArray) ++ p ++ { data := #[41, 124, 40] } ++ q ++ { data := #[41] }).data.toList = 40 :: (p.data.toList ++ 41 :: 124 :: 40 :: (q.data.toList ++ 41 :: [])) := by simp
    have e4 : (({ data := #[40] } : ByteArray) ++ p ++ { data := #[41, 40] } ++ q ++ { data := #[41] }).data.toList = 40 :: (p.data.toList ++ 41 :: 40 :: (q.data.toList ++ 41 :: [])) := by simp
    have e5 : ∀ x : UInt8, (({ data := #[40] } : ByteArray) ++ p ++ { data := #[41, x] }).data.toList = 40 :: (p.data.toList ++ 41 :: [x]) := by intro x; simp
    rw [e3] at hp3
    rw [e4] at hp4
    rw [e5] at hp5 h6 h7
    have hf := fits_of hpa hp5
    obtain rfl := join_alt hpa hpb hp3
    obtain rfl := join_cat hpa hpb hp4
    obtain rfl := join_sign hf (x := 42) (by rfl) hp5
    have hlen : ∀ x : UInt8, (40 :: (p.data.toList ++ 41 :: [x])).length ≤ 64 := by
      intro x
      have := hp5.1
      simpa using this
    rcases h6 with ⟨rfl, t6, p6, rfl, ht6, hp6⟩ | ⟨_, _, k, hk⟩
    rotate_left
    · exact (join_ok hf (x := 43) (by rfl) (hlen _) hk).elim
    rcases h7 with ⟨rfl, t7, p7, rfl, ht7, hp7⟩ | ⟨_, _, k, hk⟩
    rotate_left
    · exact (join_ok hf (x := 63) (by rfl) (hlen _) hk).elim
    obtain rfl := join_sign hf (x := 43) (by rfl) hp6
    obtain rfl := join_sign hf (x := 63) (by rfl) hp7
    clear hpa hpb hp3 hp4 hp5 hp6 hp7 hf hlen e3 e4 e5
    have mt : ∀ (t : Tr) (g : Nat) (X : ByteArray) (r : Bool) (wx : World), TreeIs w8 t g → X.size ≤ 40 → matchC t X.data.toList = r → Below w8.heap.size w8 wx →
        Calls Try.prog 14 #[.pointer (some ⟨g, 0, none⟩), .string X] wx fun e w' => e = .returned (.bool r) ∧ Below w8.heap.size w8 w' := fun t g X r wx ht hX hr hb =>
      (match_tree t g X r wx (ht.keep (below_keeps hb)) (by omega) hr).mono fun _ _ ⟨h1, h2⟩ => ⟨h1, then_ hb h2⟩
    have MT := Lib.hid mt
    have hB0 : Below w8.heap.size w8 w8 := Below.refl _ _
    clear mt
    obtain ⟨rA, hA⟩ : ∃ r, matchC ta S.data.toList = r := ⟨_, rfl⟩
    obtain ⟨rB, hBb⟩ : ∃ r, matchC tb S.data.toList = r := ⟨_, rfl⟩
    obtain ⟨em, hE⟩ : ∃ r, S.data.toList.isEmpty = r := ⟨_, rfl⟩
    have HA := Lib.hid hA
    have HBb := Lib.hid hBb
    have HE := Lib.hid hE
    clear hA hBb hE
    go_upto_region 12 with fail
    go_cut [117] (fun s117 wz => s117 = .bool false ∧ Below w8.heap.size w8 wz)
    case first =>
      go_wp2_with fail
      refine (MT.out _ p3 S (rA || rB) _ ht3 hS (by rw [m_alt, HA.out, HBb.out]) hB0).mono ?_
      rintro e w9 ⟨rfl, hb9⟩
      go_wp2_with fail
      refine (MT.out _ pa S rA _ hta hS HA.out hb9).mono ?_
      rintro e w10 ⟨rfl, hb10⟩
      cases rA with
      | true =>
        go_wp2_with fail
        refine (MT.out _ p7 S true _ ht7 hS (by rw [m_quest, HA.out, Bool.or_true]) hb10).mono ?_
        rintro e w11 ⟨rfl, hb11⟩
        by_cases hE : S.toList = []
        · go_wp2_with fail
          go_meet
          exact ⟨rfl, hb11⟩
        · go_wp2_with fail
          refine (MT.out _ pa S true _ hta hS HA.out hb11).mono ?_
          rintro e w12 ⟨rfl, hb12⟩
          go_wp2_with fail
          go_meet
          exact ⟨rfl, hb12⟩
      | false =>
        go_wp2_with fail
        refine (MT.out _ pb S rB _ htb hS HBb.out hb10).mono ?_
        rintro e w11 ⟨rfl, hb11⟩
        have HE' : Hid (matchC ta.quest S.data.toList = em) := by
          have : matchC ta.quest S.data.toList = em := by rw [m_quest, HA.out, HE.out, Bool.or_false]
          exact this
        cases rB
        all_goals
          go_wp2_with fail
          refine (MT.out _ p7 S em _ ht7 hS HE'.out hb11).mono ?_
          rintro e w12 ⟨rfl, hb12⟩
          by_cases hE : S.toList = []
          · have hem : em = true := by rw [← HE.out, ← ByteArray.toList_eq, hE]; rfl
            subst hem
            go_wp2_with fail
            go_meet
            exact ⟨rfl, hb12⟩
          · have hem : em = false := by rw [← HE.out, ← ByteArray.toList_eq]; simpa using hE
            subst hem
            go_wp2_with fail
            refine (MT.out _ pa S false _ hta hS HA.out hb12).mono ?_
            rintro e w13 ⟨rfl, hb13⟩
            go_wp2_with fail
            go_meet
            exact ⟨vb (by simpa using hE), hb13⟩
    case rest =>
      obtain ⟨rfl, hb9⟩ := hcut
      obtain ⟨w9, rfl⟩ : ∃ x, x = wc := ⟨_, rfl⟩
      have hEm : S.toList.isEmpty = em := by rw [ByteArray.toList_eq]; exact HE.out
      go_wp2_with fail
      clear hEm
      go_loopg [19, 20, 21] (S.size + 1) (fun g c a i wr => ∃ k : Nat, k + g = S.size + 1 ∧ c = .bool (cutTo ta tb S.data.toList k) ∧ a = .bool (againTo ta S.data.toList k) ∧ i = .int .i64 (k : Nat) ∧ Below w8.heap.size w8 wr)
      case atStart => exact ⟨0, by omega, rfl, by unfold againTo; rw [HE.out]; simp, rfl, hb9⟩
      case round =>
        clear hb9
        obtain ⟨k, hkg, rfl, rfl, rfl, hb9⟩ := hrel
        have HKG := Lib.hid hkg
        obtain ⟨c0, hc0⟩ : ∃ c, cutTo ta tb S.data.toList k = c := ⟨_, rfl⟩
        obtain ⟨a0, ha0⟩ : ∃ c, againTo ta S.data.toList k = c := ⟨_, rfl⟩
        rw [hc0, ha0]
        have HC0 := Lib.hid hc0
        have HA0 := Lib.hid ha0
        clear hkg hc0 ha0
        by_cases hk : k ≤ S.size
        · obtain ⟨hd, hhd⟩ : ∃ r, matchC ta (S.data.toList.take k) = r := ⟨_, rfl⟩
          have HHD := Lib.hid hhd
          have hx1 : matchC ta (S.extract 0 k).data.toList = hd := by rw [cut_data]; simpa using hhd
          have hz1 : (S.extract 0 k).size ≤ 40 := by have := cut_size S 0 k; omega
          have hz2 : (S.extract k S.size).size ≤ 40 := by have := cut_size S k S.size; omega
          have hdr : (S.extract k S.size).data.toList = S.data.toList.drop k := by
            rw [cut_data, List.take_of_length_le]
            rw [List.length_drop]
            exact Nat.le_refl _
          have HX1 := Lib.hid hx1
          have HZ1 := Lib.hid hz1
          have HZ2 := Lib.hid hz2
          have HDR := Lib.hid hdr
          clear hhd hx1 hz1 hz2 hdr
          go_wp2_with fail
          refine (MT.out _ pa (S.extract 0 k) hd _ hta HZ1.out HX1.out hb9).mono ?_
          rintro e w10 ⟨rfl, hb10⟩
          clear hb9
          go_upto_region 19 with fail
          go_cut [19] (fun s19 wz => s19 = .bool (cutTo ta tb S.data.toList (k + 1)) ∧ Below w8.heap.size w8 wz)
          case first =>
            cases c0 with
            | true =>
              go_wp2_with fail
              go_meet
              exact ⟨by rw [cutTo_succ, HC0.out]; rfl, hb10⟩
            | false =>
              cases hd with
              | false =>
                go_wp2_with fail
                go_meet
                exact ⟨by rw [cutTo_succ, HC0.out, HHD.out]; rfl, hb10⟩
              | true =>
                obtain ⟨r, hr⟩ : ∃ r, matchC tb (S.data.toList.drop k) = r := ⟨_, rfl⟩
                have HR := Lib.hid hr
                clear hr
                go_wp2_with fail
                refine (MT.out _ pb (S.extract k S.size) r _ htb HZ2.out (by rw [HDR.out, HR.out]) hb10).mono ?_
                rintro e w11 ⟨rfl, hb11⟩
                go_wp2_with fail
                go_meet
                exact ⟨by rw [cutTo_succ, HC0.out, HHD.out, HR.out]; simp, hb11⟩
          case rest =>
            obtain ⟨rfl, hb11⟩ := hcut
            obtain ⟨w11, rfl⟩ : ∃ x, x = wc := ⟨_, rfl⟩
            clear hb10
            cases a0 with
            | true =>
              go_wp2_with fail
              go_roundg (gk - 1)
              case measure => have := HKG.out; omega
              case rel => exact ⟨k + 1, by have := HKG.out; omega, rfl, vb (by rw [againTo_succ, HA0.out]; rfl), by go_num, hb11⟩
            | false =>
              by_cases hk0 : 0 < k
              · cases hd with
                | false =>
                  go_wp2_with fail
                  go_roundg (gk - 1)
                  case measure => have := HKG.out; omega
                  case rel => exact ⟨k + 1, by have := HKG.out; omega, rfl, vb (by rw [againTo_succ, HA0.out, HHD.out]; simp), by go_num, hb11⟩
                | true =>
                  obtain ⟨r, hr⟩ : ∃ r, matchC (.star ta) (S.data.toList.drop k) = r := ⟨_, rfl⟩
                  have HR := Lib.hid hr
                  clear hr
                  go_wp2_with fail
                  refine (MT.out _ p5 (S.extract k S.size) r _ ht5 HZ2.out (by rw [HDR.out, HR.out]) hb11).mono ?_
                  rintro e w12 ⟨rfl, hb12⟩
                  go_wp2_with fail
                  go_roundg (gk - 1)
                  case measure => have := HKG.out; omega
                  case rel => exact ⟨k + 1, by have := HKG.out; omega, rfl, vb (by rw [againTo_succ, HA0.out, HHD.out, HR.out]; simp [hk0]), by go_num, hb12⟩
              · go_wp2_with fail
                go_roundg (gk - 1)
                case measure => have := HKG.out; omega
                case rel => exact ⟨k + 1, by have := HKG.out; omega, rfl, vb (by rw [againTo_succ, HA0.out]; simp [hk0]), by go_num, hb11⟩
        · obtain rfl : k = S.size + 1 := by have := HKG.out; omega
          have hl : S.data.toList.length = S.size := rfl
          have hcat : matchC (ta.cat tb) S.data.toList = c0 := by rw [m_cat, hl, HC0.out]
          have hstar : matchC ta.star S.data.toList = a0 := by rw [m_star, hl, HA0.out]
          have hplus : matchC ta.plus S.data.toList = (a0 && !em || rA) := by rw [m_plus, hl, HA0.out, HE.out, HA.out]
          have HCAT := Lib.hid hcat
          have HSTAR := Lib.hid hstar
          have HPLUS := Lib.hid hplus
          clear hcat hstar hplus hl
          go_wp2_with fail
          refine (MT.out _ p4 S c0 _ ht4 hS HCAT.out hb9).mono ?_
          rintro e w10 ⟨rfl, hb10⟩
          go_wp2_with fail
          refine (MT.out _ p5 S a0 _ ht5 hS HSTAR.out hb10).mono ?_
          rintro e w11 ⟨rfl, hb11⟩
          go_wp2_with fail
          refine (MT.out _ p6 S _ _ ht6 hS HPLUS.out hb11).mono ?_
          rintro e w12 ⟨rfl, hb12⟩
          have hfin : ∀ wz, Below w8.heap.size w8 wz → Below w.heap.size w wz := fun wz h => then_ hB h
          have HFIN := Lib.hid hfin
          clear hfin
          by_cases hE : S.toList = []
          · have hem : em = true := by rw [← HE.out, ← ByteArray.toList_eq, hE]; rfl
            subst hem
            cases a0
            all_goals
              simp only [Bool.not_true, Bool.and_false, Bool.false_or, Bool.false_and]
              go_wp2_with fail
              refine (MT.out _ pa S rA _ hta hS HA.out hb12).mono ?_
              rintro e w13 ⟨rfl, hb13⟩
              go_wp2_with fail
              go_ret
              exact ⟨ret_bool (by simp), HFIN.out _ hb13⟩
          · have hem : em = false := by rw [← HE.out, ← ByteArray.toList_eq]; simpa using hE
            subst hem
            cases a0 with
            | false =>
              simp only [Bool.false_or, Bool.false_and]
              go_wp2_with fail
              refine (MT.out _ pa S rA _ hta hS HA.out hb12).mono ?_
              rintro e w13 ⟨rfl, hb13⟩
              go_wp2_with fail
              go_ret
              exact ⟨ret_bool (by simp), HFIN.out _ hb13⟩
            | true =>
              simp only [Bool.not_false, Bool.true_and, Bool.true_or]
              have hE2 : (!S.toList.isEmpty) = true := by simpa using hE
              go_wp2_with fail
              go_ret
              exact ⟨ret_bool (by simp), HFIN.out _ hb12⟩
end Go.Proofs.Ytlmnincllndpnaa
