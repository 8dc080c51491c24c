/- The plain law of layer 5: sets packed by a table and read back, one behind the other. No program in sight. -/
import Derived.Test.YtpmahljbkgielaaUnpPlain
import Derived.Test.YtpmahljbkgielaaSymWalksC
namespace Go.Proofs.Ytpmahljbkgielaa

theorem below_in {t : List Txt} (ha : Asc t) {x : Txt} (hx : x ∈ t) : t[below t x]? = some x := by
  obtain ⟨i, hi, e⟩ := List.getElem_of_mem hx
  have h1 : t[i]? = some x := by rw [List.getElem?_eq_getElem hi, e]
  rw [below_at ha h1]
  exact h1
theorem numR_of_mem {t : List Txt} (ha : Asc t) {x : Txt} (hx : x ∈ t) : numR t x = (below t x, 0) := by rw [numR, if_pos (below_in ha hx)]
/-- The bytes of a set by the table. -/
def pkS (t : List Txt) (xs : List Txt) : List UInt8 := xs.flatMap fun x => uintT (below t x)
def pk (t : List Txt) (l : List Lb) : List UInt8 := uintT l.length ++ pkS t (texts l)
theorem pkS_cons (t : List Txt) (x : Txt) (r : List Txt) : pkS t (x :: r) = uintT (below t x) ++ pkS t r := rfl
theorem packS_all {t : List Txt} (ha : Asc t) : ∀ xs : List Txt, (∀ x ∈ xs, x ∈ t) → packS t xs = some (pkS t xs)
  | [], _ => rfl
  | x :: r, h => by
    rw [packS, numR_of_mem ha (h x (by simp)), packS_all ha r (fun y hy => h y (by simp [hy]))]
    simp [pkS_cons]
theorem packR_all {t : List Txt} (ha : Asc t) {l : List Lb} (he : encErr l = 0) (h : ∀ x ∈ texts l, x ∈ t) : packR t l = (pk t l, 0) := by
  rw [packR, he, packS_all ha _ h]
  simp [pk]
theorem readAt_back (pre post : List UInt8) {v : Nat} (hv : v < 2 ^ 64) : readAt (pre ++ (uintT v ++ post)) (pre.length : Int) = (v, pre.length + (uintT v).length, 0) := by
  rw [readAt_nat, List.drop_left, readU_uint hv]
  rfl
theorem symR_back {t : List Txt} (ha : Asc t) (ht : t.length < 2 ^ 64) (pre post : List UInt8) {x : Txt} (hx : x ∈ t) : symR t (pre ++ (uintT (below t x) ++ post)) (pre.length : Int) = (x, pre.length + (uintT (below t x)).length, 0) := by
  have hb := below_in ha hx
  have hl : below t x < t.length := (List.getElem?_eq_some_iff.1 hb).1
  have hr := readAt_back pre post (v := below t x) (by omega)
  unfold symR
  rw [hr]
  simp only [ne_eq, not_true_eq_false, if_false]
  rw [if_neg (by omega), getElem!_pos t _ hl]
  rw [List.getElem?_eq_getElem hl] at hb
  injection hb with hb
  rw [hb]
theorem tooLow_back {out l : List Lb} {x : Lb} (h : (names (out ++ x :: l)).Pairwise (· < ·)) : tooLow out x.n = false := by
  unfold tooLow
  rw [decide_eq_false_iff_not]
  rintro ⟨h0, h1⟩
  apply h1
  rw [getElem!_pos out _ (by omega)]
  unfold names at h
  rw [List.map_append, List.pairwise_append] at h
  exact h.2.2 _ (List.mem_map_of_mem (List.getElem_mem _)) _ (by simp)
theorem unpL_back {t : List Txt} (ha : Asc t) (ht : t.length < 2 ^ 64) : ∀ (l out : List Lb) (pre post : List UInt8), (∀ x ∈ l, fitN x.n = true ∧ fitV x.v = true) → (names (out ++ l)).Pairwise (· < ·) → (∀ x ∈ texts l, x ∈ t) →
    unpL t (pre ++ (pkS t (texts l) ++ post)) l.length out pre.length = (out ++ l, pre.length + (pkS t (texts l)).length, 0)
  | [], out, pre, post, _, _, _ => by simp [unpL, texts, pkS]
  | x :: l, out, pre, post, hf, hn, hm => by
    rw [texts_cons] at hm ⊢
    rw [pkS_cons, pkS_cons, List.length_cons, unpL]
    have hx1 : x.n ∈ t := hm _ (by simp)
    have hx2 : x.v ∈ t := hm _ (by simp)
    have e1 : pre ++ ((uintT (below t x.n) ++ (uintT (below t x.v) ++ pkS t (texts l))) ++ post) = pre ++ (uintT (below t x.n) ++ (uintT (below t x.v) ++ (pkS t (texts l) ++ post))) := by simp
    have s1 := symR_back ha ht pre (uintT (below t x.v) ++ (pkS t (texts l) ++ post)) hx1
    have e2 : pre ++ (uintT (below t x.n) ++ (uintT (below t x.v) ++ (pkS t (texts l) ++ post))) = (pre ++ uintT (below t x.n)) ++ (uintT (below t x.v) ++ (pkS t (texts l) ++ post)) := by simp
    have s2 := symR_back ha ht (pre ++ uintT (below t x.n)) (pkS t (texts l) ++ post) hx2
    rw [← e2, List.length_append] at s2
    have e3 : pre ++ (uintT (below t x.n) ++ (uintT (below t x.v) ++ (pkS t (texts l) ++ post))) = (pre ++ uintT (below t x.n) ++ uintT (below t x.v)) ++ (pkS t (texts l) ++ post) := by simp
    have ih := unpL_back ha ht l (out ++ [x]) (pre ++ uintT (below t x.n) ++ uintT (below t x.v)) post (fun y hy => hf y (by simp [hy])) (by simpa using hn) (fun y hy => hm y (by simp [hy]))
    rw [← e3, List.length_append, List.length_append] at ih
    obtain ⟨f1, f2⟩ := hf x (by simp)
    have htl := tooLow_back hn
    rw [e1, s1]
    simp only []
    rw [s2]
    simp only [ne_eq, not_true_eq_false, if_false, f1, f2, htl, Bool.false_eq_true, Bool.true_eq_false]
    rw [ih]
    simp [Nat.add_assoc]
theorem unpR_back {t : List Txt} (ha : Asc t) (ht : t.length < 2 ^ 64) {l : List Lb} (he : encErr l = 0) (hm : ∀ x ∈ texts l, x ∈ t) (pre post : List UInt8) :
    unpR t (pre ++ (pk t l ++ post)) (pre.length : Int) = (l, pre.length + (pk t l).length, 0) := by
  have hmk : makeErr l = 0 := by
    rcases encErr_cases l with ⟨h1, h2⟩ | ⟨h1, _⟩ | ⟨h1, _⟩
    · rw [h2] at he; exact he
    · exact h1
    · exact h1
  have hpw : (names l).Pairwise (· < ·) := by
    unfold encErr at he
    rw [if_neg (by simp [hmk])] at he
    split at he
    · assumption
    · omega
  obtain ⟨h0, h8, hf, _⟩ := makeErr_ok hmk
  have hr := readAt_back pre (pkS t (texts l) ++ post) (v := l.length) (by omega)
  unfold pk
  rw [List.append_assoc, unpR, hr]
  simp only [ne_eq, not_true_eq_false, if_false]
  rw [if_neg h0, if_neg (by omega)]
  have := unpL_back ha ht l [] (pre ++ uintT l.length) post hf (by simpa using hpw) hm
  rw [List.length_append, List.append_assoc] at this
  rw [this]
  simp [Nat.add_assoc]

/-- All sets, one behind the other. -/
def pkAll (t : List Txt) (F : List (List Lb)) : List UInt8 := F.flatMap (pk t)
theorem pkAll_take {t : List Txt} {F : List (List Lb)} {i : Nat} (h : i < F.length) : pkAll t (F.take (i + 1)) = pkAll t (F.take i) ++ pk t F[i] := by
  unfold pkAll
  rw [List.take_succ_eq_append_getElem h, List.flatMap_append, List.flatMap_cons, List.flatMap_nil, List.append_nil]
theorem pkAll_split {t : List Txt} {F : List (List Lb)} {i : Nat} (h : i < F.length) : pkAll t F = pkAll t (F.take i) ++ (pk t F[i] ++ pkAll t (F.drop (i + 1))) := by
  have e : F = F.take i ++ F[i] :: F.drop (i + 1) := by rw [← List.drop_eq_getElem_cons h, List.take_append_drop]
  unfold pkAll
  conv => lhs; rw [e, List.flatMap_append, List.flatMap_cons]
theorem pkS_len (t : List Txt) : ∀ xs : List Txt, (pkS t xs).length ≤ 11 * xs.length
  | [] => by simp [pkS]
  | x :: r => by
    have h1 := pkS_len t r
    have h2 := uintT_len (below t x)
    rw [pkS_cons, List.length_append, List.length_cons]
    omega
theorem pk_len (t : List Txt) (l : List Lb) : (pk t l).length ≤ 11 + 22 * l.length := by
  have h1 := pkS_len t (texts l)
  have h2 := uintT_len l.length
  have h3 : (texts l).length = 2 * l.length := by
    clear h1 h2
    induction l with
    | nil => rfl
    | cons x l ih => rw [texts_cons, List.length_cons, List.length_cons, ih, List.length_cons]; omega
  unfold pk
  rw [List.length_append]
  omega
theorem pkAll_len (t : List Txt) : ∀ (F : List (List Lb)), (∀ l ∈ F, encErr l = 0) → (pkAll t F).length ≤ 187 * F.length
  | [], _ => by simp [pkAll]
  | l :: F, h => by
    have h1 := pkAll_len t F (fun x hx => h x (by simp [hx]))
    have h2 := pk_len t l
    have h3 : l.length ≤ 8 := by
      have he := h l (by simp)
      rcases encErr_cases l with ⟨a, b⟩ | ⟨a, _, c⟩ | ⟨a, _⟩
      · rw [b] at he; exact absurd he a
      · rw [c] at he; cases he
      · exact (makeErr_ok a).2.1
    show (pk t l ++ pkAll t F).length ≤ _
    rw [List.length_append, List.length_cons]
    omega

/-! ### the table's bytes -/
theorem readTAt_back (pre post : List UInt8) {s : Txt} (hs : s.length < 2 ^ 64) : readTAt (pre ++ (textT s ++ post)) (pre.length : Int) = (s, pre.length + (textT s).length, 0) := by
  unfold readTAt
  rw [if_neg (by omega), Int.toNat_natCast, List.drop_left, readT_text hs]
def headT (t : List Txt) (i : Nat) : List UInt8 := uintT t.length ++ (t.take i).flatMap textT
theorem headT_zero (t : List Txt) : headT t 0 = uintT t.length := by simp [headT]
theorem headT_all (t : List Txt) {i : Nat} (h : t.length ≤ i) : headT t i = tabT t := by simp [headT, tabT, List.take_of_length_le h]
theorem headT_succ {t : List Txt} {i : Nat} (h : i < t.length) : headT t (i + 1) = headT t i ++ textT t[i] := by
  unfold headT
  rw [List.take_succ_eq_append_getElem h, List.flatMap_append, List.flatMap_cons, List.flatMap_nil, List.append_nil, List.append_assoc]
theorem tabT_split {t : List Txt} {i : Nat} (h : i < t.length) : tabT t = headT t i ++ (textT t[i] ++ (t.drop (i + 1)).flatMap textT) := by
  have e : t = t.take i ++ t[i] :: t.drop (i + 1) := by rw [← List.drop_eq_getElem_cons h, List.take_append_drop]
  unfold tabT headT
  conv => lhs; arg 2; rw [e, List.flatMap_append, List.flatMap_cons]
  rw [List.append_assoc]
theorem tabT_len (t : List Txt) (N : Nat) (h : ∀ x ∈ t, x.length ≤ N) : (tabT t).length ≤ 11 + (N + 11) * t.length := by
  have h1 := uintT_len t.length
  have h2 : (t.flatMap textT).length ≤ (N + 11) * t.length := by
    clear h1
    induction t with
    | nil => simp
    | cons x t ih =>
      have h3 := ih (fun y hy => h y (by simp [hy]))
      have h4 := h x (by simp)
      have h5 := uintT_len x.length
      rw [List.flatMap_cons, List.length_append, List.length_cons, textT, List.length_append, Nat.mul_succ]
      omega
  unfold tabT
  rw [List.length_append]
  omega
end Go.Proofs.Ytpmahljbkgielaa
