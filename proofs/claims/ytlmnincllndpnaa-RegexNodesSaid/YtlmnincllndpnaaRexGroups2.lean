/- The plain law of layer 6 (regex): brackets, strokes and signs around whole patterns; texts with backslashes. -/
import Derived.Test.YtlmnincllndpnaaRexGroups
namespace Go.Proofs.Ytlmnincllndpnaa

/-- The machine says r. -/
def Says (k : Tk) (l : List UInt8) (d : Nat) (r : Except Nat (Tr × List UInt8)) : Prop := ∃ n, run n k l d = some r
theorem Says.one {k : Tk} {l : List UInt8} {d : Nat} {r r'} (h : Says k l d r) (h' : Says k l d r') : r = r' := by
  obtain ⟨n, h⟩ := h
  obtain ⟨m, h'⟩ := h'
  exact run_one h h'
theorem Says.join {k k' : Tk} {l l1 : List UInt8} {d : Nat} {t : Tr} {r} (f : Tr → List UInt8 → Tk × List UInt8) (h : Says k l d (.ok (t, l1))) (h' : Says (f t l1).1 (f t l1).2 d r) :
    ∃ n, (run n k l d).then_ (fun u l' => run n (f u l').1 (f u l').2 d) = some r := by
  obtain ⟨n, h⟩ := h
  obtain ⟨m, h'⟩ := h'
  exact ⟨n + m, by rw [run_mono h (by omega), Res.then_ok]; exact run_mono h' (by omega)⟩
section
variable {l l1 l2 : List UInt8} {d e : Nat} {t u : Tr} {o : Option Tr} {b : UInt8} {r : Except Nat (Tr × List UInt8)}
theorem says_branches (h : Says (.pieces none) l d (.ok (t, l1))) (h' : Says (.strokes t) l1 d r) : Says .branches l d r := by
  obtain ⟨n, hn⟩ := Says.join (k' := .atom) (fun u l' => (.strokes u, l')) h h'
  exact ⟨n + 1, by rw [run]; exact hn⟩
theorem says_branches_error (h : Says (.pieces none) l d (.error e)) : Says .branches l d (.error e) := by
  obtain ⟨n, h⟩ := h
  exact ⟨n + 1, by rw [run, h, Res.then_error]⟩
theorem says_strokes (hl : l.head? = some 124) (h : Says (.pieces none) l.tail d (.ok (u, l1))) (h' : Says (.strokes (.alt t u)) l1 d r) : Says (.strokes t) l d r := by
  obtain ⟨n, hn⟩ := Says.join (k' := .atom) (fun u l' => (.strokes (.alt t u), l')) h h'
  exact ⟨n + 1, by rw [run, if_pos hl]; exact hn⟩
theorem says_strokes_error (hl : l.head? = some 124) (h : Says (.pieces none) l.tail d (.error e)) : Says (.strokes t) l d (.error e) := by
  obtain ⟨n, h⟩ := h
  exact ⟨n + 1, by rw [run, if_pos hl, h, Res.then_error]⟩
theorem says_strokes_end (hl : ¬ l.head? = some 124) : Says (.strokes t) l d (.ok (t, l)) := ⟨1, by rw [run, if_neg hl]⟩
theorem says_pieces_nil : Says (.pieces o) [] d (.ok (emptyOf o, [])) := ⟨1, by rw [run]⟩
theorem says_pieces_stroke : Says (.pieces o) (124 :: l) d (.ok (emptyOf o, 124 :: l)) := ⟨1, by rw [run, if_neg (by simp), if_pos (.inl rfl)]⟩
theorem says_pieces (h1 : b ≠ 41) (h2 : b ≠ 124) (h : Says .piece (b :: l) d (.ok (u, l1))) (h' : Says (.pieces (some (catOf o u))) l1 d r) : Says (.pieces o) (b :: l) d r := by
  obtain ⟨n, hn⟩ := Says.join (k' := .atom) (fun u l' => (.pieces (some (catOf o u)), l')) h h'
  exact ⟨n + 1, by rw [run, if_neg (by simp [h1]), if_neg (by simp [h1, h2])]; exact hn⟩
theorem says_pieces_error (h1 : b ≠ 41) (h2 : b ≠ 124) (h : Says .piece (b :: l) d (.error e)) : Says (.pieces o) (b :: l) d (.error e) := by
  obtain ⟨n, h⟩ := h
  exact ⟨n + 1, by rw [run, if_neg (by simp [h1]), if_neg (by simp [h1, h2]), h, Res.then_error]⟩
theorem says_piece (h : Says .atom l d (.ok (t, l1))) (h' : Says (.signs t) l1 d r) : Says .piece l d r := by
  obtain ⟨n, hn⟩ := Says.join (k' := .atom) (fun u l' => (.signs u, l')) h h'
  exact ⟨n + 1, by rw [run]; exact hn⟩
theorem says_piece_error (h : Says .atom l d (.error e)) : Says .piece l d (.error e) := by
  obtain ⟨n, h⟩ := h
  exact ⟨n + 1, by rw [run, h, Res.then_error]⟩
theorem says_signs_nil : Says (.signs t) [] d (.ok (t, [])) := ⟨1, by rw [run]⟩
theorem says_signs_end (h : signOf b t = none) : Says (.signs t) (b :: l) d (.ok (t, b :: l)) := ⟨1, by rw [run, h]⟩
theorem says_signs (h : signOf b t = some u) (h' : Says (.signs u) l d r) : Says (.signs t) (b :: l) d r := by
  obtain ⟨n, h'⟩ := h'
  exact ⟨n + 1, by rw [run, h]; exact h'⟩
end

/-! ### at depth 0 a pattern is read to its end -/
theorem pieces_zero : ∀ {n : Nat} {o : Option Tr} {l l' : List UInt8} {t : Tr}, run n (.pieces o) l 0 = some (.ok (t, l')) → l' = [] ∨ l'.head? = some 124
  | 0, _, _, _, _, h => by simp [run] at h
  | n + 1, o, [], l', t, h => by rw [run] at h; injection h with h; injection h with h; injection h with _ h; exact .inl h.symm
  | n + 1, o, b :: l, l', t, h => by
    rw [run] at h
    split at h
    · cases h
    · rename_i hc
      split at h
      · rename_i hc2
        injection h with h; injection h with h; injection h with _ h; subst h
        rcases hc2 with rfl | rfl
        · exact .inr rfl
        · exact absurd ⟨rfl, rfl⟩ hc
      · rcases Res.then_some h with ⟨t1, l1, h1, h2⟩ | ⟨e, h1, h2⟩
        · exact pieces_zero h2
        · cases h2
theorem strokes_zero : ∀ {n : Nat} {t0 : Tr} {l l' : List UInt8} {t : Tr}, run n (.strokes t0) l 0 = some (.ok (t, l')) → (l = [] ∨ l.head? = some 124) → l' = []
  | 0, _, _, _, _, h, _ => by simp [run] at h
  | n + 1, t0, l, l', t, h, hl => by
    rw [run] at h
    split at h
    · rcases Res.then_some h with ⟨t1, l1, h1, h2⟩ | ⟨e, h1, h2⟩
      · exact strokes_zero h2 (pieces_zero h1)
      · cases h2
    · rename_i hc
      injection h with h; injection h with h; injection h with _ h; subst h
      rcases hl with rfl | hl
      · rfl
      · exact absurd hl hc
theorem branches_zero {l l' : List UInt8} {t : Tr} (h : Says .branches l 0 (.ok (t, l'))) : l' = [] := by
  obtain ⟨n, h⟩ := h
  cases n with
  | zero => simp [run] at h
  | succ n =>
    rw [run] at h
    rcases Res.then_some h with ⟨t1, l1, h1, h2⟩ | ⟨e, h1, h2⟩
    · exact strokes_zero h2 (pieces_zero h1)
    · cases h2

/-! ### a pattern in brackets -/
/-- The pattern in brackets is read as its tree, whatever follows; or it is too deep there, whatever follows. -/
def Fits (p : List UInt8) (t : Tr) : Prop := ∀ y, Says .atom (40 :: (p ++ 41 :: y)) 0 (.ok (t, y))
def TooDeep (p : List UInt8) : Prop := ∃ c, ∀ y, Says .atom (40 :: (p ++ 41 :: y)) 0 (.error c)
theorem paren {p : List UInt8} {t : Tr} (h : Says .branches p 0 (.ok (t, []))) : Fits p t ∨ (15 < p.count 40 ∧ TooDeep p) := by
  obtain ⟨n, h⟩ := h
  rcases run_ext (h := 41) (d' := 1) (.inl rfl) h (by omega) (fun _ => by omega) (fun e => by cases e) with a | ⟨_, a, c, ha⟩
  · exact .inl fun y => ⟨n + 1, by rw [run_atom, if_neg (by decide), if_pos rfl, if_pos (by omega), a y]; rfl⟩
  · exact .inr ⟨by omega, c, fun y => ⟨n + 1, by rw [run_atom, if_neg (by decide), if_pos rfl, if_pos (by omega), ha y]; rfl⟩⟩
theorem Says.ends (k : Tk) (l : List UInt8) (d : Nat) (hk : k = .branches) : ∃ r, Says k l d r := by
  subst hk
  obtain ⟨n, r, h⟩ := run_ends l d
  exact ⟨r, n, h⟩

section
variable {p q : List UInt8} {t u : Tr}
theorem fits_piece (h : Fits p t) {y : List UInt8} {b : UInt8} (hb : signOf b t = none) : Says .piece (40 :: (p ++ 41 :: b :: y)) 0 (.ok (t, b :: y)) := says_piece (h _) (says_signs_end hb)
theorem fits_piece_nil (h : Fits p t) : Says .piece (40 :: (p ++ 41 :: [])) 0 (.ok (t, [])) := says_piece (h _) says_signs_nil
theorem group_one (h : Fits p t) : Says .branches (40 :: (p ++ 41 :: [])) 0 (.ok (t, [])) :=
  says_branches (says_pieces (by decide) (by decide) (fits_piece_nil h) says_pieces_nil) (says_strokes_end (by simp))
theorem group_sign (h : Fits p t) {b : UInt8} (hb : signOf b t = some u) : Says .branches (40 :: (p ++ 41 :: [b])) 0 (.ok (u, [])) :=
  says_branches (says_pieces (by decide) (by decide) (says_piece (h _) (says_signs hb says_signs_nil)) says_pieces_nil) (says_strokes_end (by simp))
theorem group_sign2 (h : Fits p t) {b c : UInt8} {v : Tr} (hb : signOf b t = some u) (hc : signOf c u = some v) : Says .branches (40 :: (p ++ 41 :: [b, c])) 0 (.ok (v, [])) :=
  says_branches (says_pieces (by decide) (by decide) (says_piece (h _) (says_signs hb (says_signs hc says_signs_nil))) says_pieces_nil) (says_strokes_end (by simp))
theorem group_alt (h : Fits p t) (h' : Fits q u) : Says .branches (40 :: (p ++ 41 :: 124 :: 40 :: (q ++ 41 :: []))) 0 (.ok (.alt t u, [])) :=
  says_branches (says_pieces (by decide) (by decide) (fits_piece h (by rfl)) says_pieces_stroke)
    (says_strokes rfl (says_pieces (by decide) (by decide) (fits_piece_nil h') says_pieces_nil) (says_strokes_end (by simp)))
theorem group_cat (h : Fits p t) (h' : Fits q u) : Says .branches (40 :: (p ++ 41 :: 40 :: (q ++ 41 :: []))) 0 (.ok (.cat t u, [])) :=
  says_branches (says_pieces (by decide) (by decide) (fits_piece h (by rfl)) (says_pieces (by decide) (by decide) (fits_piece_nil h') says_pieces_nil)) (says_strokes_end (by simp))
theorem deep_first (h : TooDeep p) (y : List UInt8) : ∃ c, Says .branches (40 :: (p ++ 41 :: y)) 0 (.error c) := by
  obtain ⟨c, h⟩ := h
  exact ⟨c, says_branches_error (says_pieces_error (by decide) (by decide) (says_piece_error (h y)))⟩
theorem deep_alt (h : Fits p t) (h' : TooDeep q) : ∃ c, Says .branches (40 :: (p ++ 41 :: 124 :: 40 :: (q ++ 41 :: []))) 0 (.error c) := by
  obtain ⟨c, h'⟩ := h'
  exact ⟨c, says_branches (says_pieces (by decide) (by decide) (fits_piece h (by rfl)) says_pieces_stroke)
    (says_strokes_error rfl (says_pieces_error (by decide) (by decide) (says_piece_error (h' _))))⟩
/-- 'p|(q)': the first pattern without brackets. -/
theorem strokes_more (h : Says .branches p 0 (.ok (t, []))) (h' : Fits q u) : Says .branches (p ++ 124 :: 40 :: (q ++ 41 :: [])) 0 (.ok (.alt t u, [])) := by
  obtain ⟨n, h⟩ := h
  cases n with
  | zero => simp [run] at h
  | succ n =>
    rw [run] at h
    have more : ∀ {m : Nat} {o : Option Tr} {l l' : List UInt8} {v : Tr}, run m (.pieces o) l 0 = some (.ok (v, l')) → ∀ y, run m (.pieces o) (l ++ 124 :: y) 0 = some (.ok (v, l' ++ 124 :: y)) := by
      intro m o l l' v g
      rcases run_ext (h := 124) (d' := 0) (.inr rfl) g (by omega) (fun e => by cases e) (fun _ hw => by cases hw) with a | ⟨a, _⟩
      · exact a
      · omega
    rcases Res.then_some h with ⟨t1, l1, h1, h2⟩ | ⟨e, h1, h2⟩
    · have key : ∀ (m : Nat) (l1 : List UInt8) (t1 : Tr), run m (.strokes t1) l1 0 = some (.ok (t, [])) → Says (.strokes t1) (l1 ++ 124 :: 40 :: (q ++ 41 :: [])) 0 (.ok (.alt t u, [])) := by
        intro m
        induction m with
        | zero => intro l1 t1 h; simp [run] at h
        | succ m ih =>
          intro l1 t1 h
          rw [run] at h
          split at h
          · rename_i hc
            have hne : l1 ≠ [] := by rintro rfl; simp at hc
            rcases Res.then_some h with ⟨t2, l2, g1, g2⟩ | ⟨e, g1, g2⟩
            · exact says_strokes (by cases l1 with | nil => exact absurd rfl hne | cons => simpa using hc) (by rw [List.tail_append_of_ne_nil hne]; exact ⟨m, more g1 _⟩) (ih _ _ g2)
            · cases g2
          · injection h with h; injection h with h; injection h with e1 e2; subst e1 e2
            exact says_strokes rfl (says_pieces (by decide) (by decide) (fits_piece_nil h') says_pieces_nil) (says_strokes_end (by simp))
      exact says_branches ⟨n, more h1 _⟩ (key _ _ _ h2)
    · cases h2
end

/-! ### bytes with a backslash ahead -/
def esc : List UInt8 → List UInt8
  | [] => []
  | b :: l => 92 :: b :: esc l
def oneT (b : UInt8) : Tr := .cls (putR 0 b.toNat b.toNat)
def foldT : Option Tr → List UInt8 → Tr
  | o, [] => emptyOf o
  | o, b :: l => foldT (some (catOf o (oneT b))) l
theorem esc_len (l : List UInt8) : (esc l).length = 2 * l.length := by
  induction l with
  | nil => rfl
  | cons b l ih => simp [esc, ih]; omega
theorem esc_append (l l' : List UInt8) : esc (l ++ l') = esc l ++ esc l' := by
  induction l with
  | nil => rfl
  | cons b l ih => simp [esc, ih]
theorem esc_atom (b : UInt8) (l : List UInt8) (d : Nat) : Says .atom (92 :: b :: l) d (.ok (oneT b, l)) := ⟨1, by rw [run_atom, if_neg (by decide), if_neg (by decide), if_neg (by decide), if_neg (by decide), if_pos rfl]; rfl⟩
theorem esc_piece (b : UInt8) (l : List UInt8) (d : Nat) : Says .piece (92 :: b :: esc l) d (.ok (oneT b, esc l)) := by
  refine says_piece (esc_atom b _ d) ?_
  cases l with
  | nil => exact says_signs_nil
  | cons c l => exact says_signs_end (by rfl)
theorem esc_pieces : ∀ (l : List UInt8) (o : Option Tr) (d : Nat), Says (.pieces o) (esc l) d (.ok (foldT o l, []))
  | [], o, d => says_pieces_nil
  | b :: l, o, d => says_pieces (by decide) (by decide) (esc_piece b l d) (esc_pieces l _ d)
theorem esc_branches (l : List UInt8) : Says .branches (esc l) 0 (.ok (foldT none l, [])) := says_branches (esc_pieces l none 0) (says_strokes_end (by simp))
theorem oneT_bit (b : UInt8) (k : Nat) : (putR 0 b.toNat b.toNat).testBit k = decide (k = b.toNat) := by
  rw [testBit_putR, Nat.zero_testBit, Bool.false_or, decide_eq_decide]
  omega
end Go.Proofs.Ytlmnincllndpnaa
