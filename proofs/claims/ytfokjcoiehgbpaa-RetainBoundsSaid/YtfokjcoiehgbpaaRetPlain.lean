/- The plain law of layer 25 (retain): what Decide computes, as functions on lists; no program in sight. -/
import Derived.Test.YtfokjcoiehgbpaaWords
namespace Go.Proofs.Ytfokjcoiehgbpaa
open Go.RowKit

structure Info where
  id : Int
  res : Int
  frm : Int
  to_ : Int
  bytes : Int

def Info.zero : Info := ⟨0, 0, 0, 0, 0⟩
def Info.enc (x : Info) : List Value := [.int .i64 x.id, .int .i64 x.res, .int .i64 x.frm, .int .i64 x.to_, .int .i64 x.bytes]
abbrev Info.val (x : Info) : Value := .agg #[.int .i64 x.id, .int .i64 x.res, .int .i64 x.frm, .int .i64 x.to_, .int .i64 x.bytes]

def sgn (a b : Int) : Int := if a < b then -1 else if b < a then 1 else 0
def knownB (r : Int) : Bool := decide (0 ≤ r) && decide (r < 3)
def olderB (a b : Info) : Bool :=
  if a.to_ = b.to_ then (if a.res = b.res then decide (a.id < b.id) else decide (a.res < b.res)) else decide (a.to_ < b.to_)

theorem known_yes {r : Int} (h : knownB r = true) : 0 ≤ r ∧ r < 3 := by simpa [knownB] using h
theorem known_no {r : Int} (h : knownB r = false) : r < 0 ∨ 3 ≤ r := by simp [knownB] at h; omega

/-- What cmp.Or of the three comparisons comes to. -/
def or3 (a b c : Int) : Int := if a = 0 then (if b = 0 then c else b) else a
theorem older_or3 (x y : Info) : decide (or3 (sgn x.to_ y.to_) (sgn x.res y.res) (sgn x.id y.id) < 0) = olderB x y := by
  have key : ∀ a b : Int, (sgn a b = 0 ↔ a = b) ∧ (sgn a b < 0 ↔ a < b) := by
    intro a b; unfold sgn
    by_cases h : a < b
    · simp [h]; omega
    · by_cases h' : b < a
      · simp [h, h']; omega
      · simp [h, h']; omega
  obtain ⟨h1, h2⟩ := key x.to_ y.to_
  obtain ⟨h3, h4⟩ := key x.res y.res
  obtain ⟨h5, h6⟩ := key x.id y.id
  unfold or3 olderB
  by_cases e1 : x.to_ = y.to_
  · rw [if_pos (h1.2 e1), if_pos e1]
    by_cases e2 : x.res = y.res
    · rw [if_pos (h3.2 e2), if_pos e2]; exact decide_eq_decide.2 h6
    · rw [if_neg (fun e => e2 (h3.1 e)), if_neg e2]; exact decide_eq_decide.2 h4
  · rw [if_neg (fun e => e1 (h1.1 e)), if_neg e1]; exact decide_eq_decide.2 h2

theorem set_bools (gs : List Bool) (k : Nat) : (gs.map Value.bool).toArray.setIfInBounds k (.bool true) = ((gs.set k true).map Value.bool).toArray := by
  simp [List.map_set]

/-- The start of the window that a time lies in; 0 beside an error. -/
def startOf (t width : Int) : Int := if width < 1 ∨ 1099511627776 < width ∨ t < 0 ∨ 1125899906842624 < t then 0 else t - t % width
def boundOf (keep now width : Int) : Int :=
  if keep ≤ 0 ∨ min now 1125899906842624 ≤ keep then 0 else startOf (min now 1125899906842624 - keep) width

def goesB (lo : List Int) (x : Info) : Bool := knownB x.res && decide (x.to_ ≤ lo.getD x.res.toNat 0)

/-- What one pass over the blocks comes to: which are gone, the bytes and the number of the others, the oldest of these. -/
structure Drop where
  gs : List Bool
  bytes : Int
  count : Int
  oldest : Int

def nextOldest (xs : List Info) (o : Int) (k : Nat) (x : Info) : Int :=
  if knownB x.res && (decide (o < 0) || olderB x (xs.getD o.toNat Info.zero)) then (k : Int) else o

def dropStep (lo : List Int) (xs : List Info) (s : Drop) (k : Nat) : Drop :=
  if goesB lo (xs.getD k Info.zero) then { s with gs := s.gs.set k true }
  else if s.gs.getD k false then s
  else ⟨s.gs, wrap64 (s.bytes + (xs.getD k Info.zero).bytes), s.count + 1, nextOldest xs s.oldest k (xs.getD k Info.zero)⟩

def dropTo (lo : List Int) (xs : List Info) (gs : List Bool) : Nat → Drop
  | 0 => ⟨gs, 0, 0, -1⟩
  | k + 1 => dropStep lo xs (dropTo lo xs gs k) k

section
variable (lo : List Int) (xs : List Info) (gs : List Bool)
theorem dropTo_len (k : Nat) : (dropTo lo xs gs k).gs.length = gs.length := by
  induction k with
  | zero => rfl
  | succ k ih => unfold dropTo dropStep; split
                 · simpa using ih
                 · split <;> exact ih
theorem dropTo_bounds (k : Nat) : 0 ≤ (dropTo lo xs gs k).count ∧ (dropTo lo xs gs k).count ≤ k ∧ -1 ≤ (dropTo lo xs gs k).oldest ∧ (dropTo lo xs gs k).oldest < k := by
  induction k with
  | zero => simp [dropTo]
  | succ k ih =>
    unfold dropTo dropStep
    split
    · dsimp only; omega
    · split
      · omega
      · dsimp only [nextOldest]
        refine ⟨by omega, by omega, ?_⟩
        split <;> omega
variable {lo xs gs} {k : Nat}
theorem dropTo_goes {x : Info} (hx : xs.getD k Info.zero = x) (h : goesB lo x = true) :
    dropTo lo xs gs (k + 1) = { dropTo lo xs gs k with gs := (dropTo lo xs gs k).gs.set k true } := by
  show dropStep _ _ _ _ = _
  rw [dropStep, hx, if_pos h]
theorem dropTo_was {x : Info} (hx : xs.getD k Info.zero = x) (h : goesB lo x = false) (hg : (dropTo lo xs gs k).gs.getD k false = true) :
    dropTo lo xs gs (k + 1) = dropTo lo xs gs k := by
  show dropStep _ _ _ _ = _
  rw [dropStep, hx, if_neg (by simp [h]), if_pos hg]
theorem dropTo_stays {x : Info} (hx : xs.getD k Info.zero = x) (h : goesB lo x = false) (hg : (dropTo lo xs gs k).gs.getD k false = false) :
    dropTo lo xs gs (k + 1) = ⟨(dropTo lo xs gs k).gs, wrap64 ((dropTo lo xs gs k).bytes + x.bytes), (dropTo lo xs gs k).count + 1, nextOldest xs (dropTo lo xs gs k).oldest k x⟩ := by
  show dropStep _ _ _ _ = _
  rw [dropStep, hx, if_neg (by simp [h]), if_neg (by rw [hg]; simp)]
end

theorem dropTo_oldest (lo : List Int) (xs : List Info) (gs : List Bool) (k : Nat) (h : 0 ≤ (dropTo lo xs gs k).oldest) :
    knownB (xs.getD (dropTo lo xs gs k).oldest.toNat Info.zero).res = true ∧ (dropTo lo xs gs k).gs.getD (dropTo lo xs gs k).oldest.toNat false = false := by
  induction k with
  | zero => simp [dropTo] at h
  | succ k ih =>
    have hb := dropTo_bounds lo xs gs k
    by_cases hg : goesB lo (xs.getD k Info.zero) = true
    · rw [dropTo_goes rfl hg] at h ⊢
      obtain ⟨h1, h2⟩ := ih h
      refine ⟨h1, ?_⟩
      dsimp only at h ⊢
      rw [List.getD, List.getElem?_set_ne (by omega)]
      exact h2
    · have hg' : goesB lo (xs.getD k Info.zero) = false := by simpa using hg
      by_cases hw : (dropTo lo xs gs k).gs.getD k false = true
      · rw [dropTo_was rfl hg' hw] at h ⊢
        exact ih h
      · have hw' : (dropTo lo xs gs k).gs.getD k false = false := by simpa using hw
        rw [dropTo_stays rfl hg' hw'] at h ⊢
        dsimp only at h ⊢
        unfold nextOldest at h ⊢
        split
        · rename_i hc
          simp only [Bool.and_eq_true] at hc
          refine ⟨by simpa using hc.1, by simpa using hw'⟩
        · rename_i hc
          rw [if_neg hc] at h
          exact ih h

/-- How many blocks are not gone. -/
def left (gs : List Bool) : Nat := gs.countP (fun b => !b)

theorem left_replicate (n : Nat) : left (List.replicate n false) = n := by simp [left, List.countP_replicate]

theorem left_set {gs : List Bool} {k : Nat} (hk : k < gs.length) (h : gs.getD k false = false) : left (gs.set k true) + 1 = left gs := by
  unfold left
  induction gs generalizing k with
  | nil => simp at hk
  | cons b gs ih =>
    cases k with
    | zero =>
      have hb : b = false := by simpa using h
      subst hb
      simp
    | succ k =>
      have := ih (k := k) (by simpa using hk) (by simpa using h)
      cases b <;> simp at this ⊢ <;> omega

theorem left_set_le (gs : List Bool) (k : Nat) : left (gs.set k true) ≤ left gs := by
  by_cases hk : k < gs.length
  · by_cases h : gs.getD k false = false
    · have := left_set hk h; omega
    · have e : gs.set k true = gs := by
        apply List.ext_getElem? 
        intro i
        by_cases hi : k = i
        · subst hi
          have : gs[k] = true := by simpa [List.getD, hk] using h
          simp [hk, this]
        · rw [List.getElem?_set_ne hi]
      rw [e]; exact Nat.le_refl _
  · rw [List.set_eq_of_length_le (by omega)]; exact Nat.le_refl _

theorem dropTo_left (lo : List Int) (xs : List Info) (gs : List Bool) (k : Nat) : left (dropTo lo xs gs k).gs ≤ left gs := by
  induction k with
  | zero => exact Nat.le_refl _
  | succ k ih =>
    unfold dropTo dropStep
    split
    · exact Nat.le_trans (left_set_le _ _) ih
    · split <;> exact ih

/-- The blocks counted by a pass are not gone behind it. -/
theorem dropTo_count (lo : List Int) (xs : List Info) (gs : List Bool) (k : Nat) (hk : k ≤ gs.length) :
    (dropTo lo xs gs k).count = left ((dropTo lo xs gs k).gs.take k) := by
  induction k with
  | zero => simp [dropTo, left]
  | succ k ih =>
    have ih' := ih (by omega)
    have hl := dropTo_len lo xs gs k
    have hkl : k < (dropTo lo xs gs k).gs.length := by omega
    have htk : ∀ l : List Bool, k < l.length → left (l.take (k + 1)) = left (l.take k) + (if l.getD k false then 0 else 1) := by
      intro l hlk
      rw [List.take_succ_eq_append_getElem hlk]
      unfold left
      rw [List.countP_append]
      cases hb : l[k] <;> simp [List.getD, hlk, hb]
    by_cases hg : goesB lo (xs.getD k Info.zero) = true
    · rw [dropTo_goes rfl hg]
      dsimp only
      rw [htk _ (by simpa using hkl), ih', List.take_set_of_le (by omega)]
      simp [List.getD, hkl]
    · have hg' : goesB lo (xs.getD k Info.zero) = false := by simpa using hg
      by_cases hw : (dropTo lo xs gs k).gs.getD k false = true
      · rw [dropTo_was rfl hg' hw, htk _ hkl, ih', hw]; simp
      · have hw' : (dropTo lo xs gs k).gs.getD k false = false := by simpa using hw
        rw [dropTo_stays rfl hg' hw']
        dsimp only
        rw [htk _ hkl, ih', hw']; simp

def lowInit (p : List Int) (now width : Int) (low : List Int) (k : Nat) : List Int :=
  (List.range 3).map fun r => if r < k then max (low.getD r 0) (boundOf (p.getD r 0) now width) else low.getD r 0

def stopB (size : Int) (d : Drop) : Bool := decide (size ≤ 0) || decide (d.bytes ≤ size) || decide (d.count < 2) || decide (d.oldest < 0)
def raiseLow (lo : List Int) (b : Info) : List Int := lo.set b.res.toNat (max (lo.getD b.res.toNat 0) b.to_)

/-- The sweep: passes till there is no more to do. -/
def sweepF (size : Int) (xs : List Info) : Nat → List Int → List Bool → List Int × List Bool
  | 0, lo, gs => (lo, (dropTo lo xs gs xs.length).gs)
  | f + 1, lo, gs =>
    if stopB size (dropTo lo xs gs xs.length) then (lo, (dropTo lo xs gs xs.length).gs)
    else sweepF size xs f (raiseLow lo (xs.getD (dropTo lo xs gs xs.length).oldest.toNat Info.zero)) ((dropTo lo xs gs xs.length).gs.set (dropTo lo xs gs xs.length).oldest.toNat true)

theorem sweepF_stop {size : Int} {xs : List Info} {f : Nat} {lo : List Int} {gs : List Bool} (h : stopB size (dropTo lo xs gs xs.length) = true) :
    sweepF size xs f lo gs = (lo, (dropTo lo xs gs xs.length).gs) := by
  cases f with
  | zero => rfl
  | succ f => rw [sweepF, if_pos h]

/-- A pass that is not the last one: there is a number to count down, and the block that goes is known and was not gone. -/
theorem sweep_goes {size : Int} {xs : List Info} {f : Nat} {lo : List Int} {gs : List Bool} (hl : gs.length = xs.length) (hf : left gs ≤ f) (h : stopB size (dropTo lo xs gs xs.length) = false) :
    ∃ (o f' : Nat), f = f' + 1 ∧ (dropTo lo xs gs xs.length).oldest = (o : Int) ∧ o < xs.length ∧ knownB (xs.getD o Info.zero).res = true ∧
      left ((dropTo lo xs gs xs.length).gs.set o true) ≤ f' ∧
      sweepF size xs f lo gs = sweepF size xs f' (raiseLow lo (xs.getD o Info.zero)) ((dropTo lo xs gs xs.length).gs.set o true) := by
  have hb := dropTo_bounds lo xs gs xs.length
  have hc := dropTo_count lo xs gs xs.length (by omega)
  have hll := dropTo_len lo xs gs xs.length
  have hle := dropTo_left lo xs gs xs.length
  have ho := dropTo_oldest lo xs gs xs.length
  have h' := h
  simp only [stopB, Bool.or_eq_false_iff, decide_eq_false_iff_not] at h
  obtain ⟨⟨⟨_, _⟩, h3⟩, h4⟩ := h
  rw [List.take_of_length_le (by omega)] at hc
  obtain ⟨o, e⟩ : ∃ o : Nat, (dropTo lo xs gs xs.length).oldest = (o : Int) := ⟨_, (Int.toNat_of_nonneg (by omega)).symm⟩
  have ho' := ho (by omega)
  rw [e] at ho' hb
  simp only [Int.toNat_natCast] at ho'
  have hs := left_set (gs := (dropTo lo xs gs xs.length).gs) (k := o) (by omega) ho'.2
  obtain ⟨f', rfl⟩ : ∃ f', f = f' + 1 := ⟨f - 1, by omega⟩
  refine ⟨o, f', rfl, e, by omega, ho'.1, by omega, ?_⟩
  rw [sweepF, if_neg (by rw [h']; simp), e, Int.toNat_natCast]

/-- The numbers of the first k blocks that are gone. -/
def idsTo (xs : List Info) (gs : List Bool) : Nat → List Int
  | 0 => []
  | k + 1 => if gs.getD k false then idsTo xs gs k ++ [(xs.getD k Info.zero).id] else idsTo xs gs k
theorem idsTo_le (xs : List Info) (gs : List Bool) (k : Nat) : (idsTo xs gs k).length ≤ k := by
  induction k with
  | zero => simp [idsTo]
  | succ k ih =>
    unfold idsTo
    split
    · simp; omega
    · omega

/-- A manifest's numbers. -/
structure Man where
  w0 : Int
  w1 : Int
  w2 : Int
  next : Int
  log : Int
  cut : Int
  r0 : Int
  r1 : Int
  r2 : Int
  l0 : Int
  l1 : Int
  l2 : Int
def Man.cells (M : Man) (bl : Value) : Array Value :=
  #[.int .i64 M.w0, .int .i64 M.w1, .int .i64 M.w2, .int .i64 M.next, .int .i64 M.log, bl, .int .i64 M.cut, .int .i64 M.r0, .int .i64 M.r1, .int .i64 M.r2, .int .i64 M.l0, .int .i64 M.l1, .int .i64 M.l2]
abbrev Man.val (M : Man) (bl : Value) : Value :=
  .agg #[.int .i64 M.w0, .int .i64 M.w1, .int .i64 M.w2, .int .i64 M.next, .int .i64 M.log, bl, .int .i64 M.cut, .int .i64 M.r0, .int .i64 M.r1, .int .i64 M.r2, .int .i64 M.l0, .int .i64 M.l1, .int .i64 M.l2]
def Man.low (M : Man) : List Int := [M.l0, M.l1, M.l2]

/-- A policy: how long each resolution is kept, and how much. -/
structure Pol where
  k0 : Int
  k1 : Int
  k2 : Int
  size : Int
abbrev Pol.val (p : Pol) : Value := .agg #[.int .i64 p.k0, .int .i64 p.k1, .int .i64 p.k2, .int .i64 p.size]
def Pol.keeps (p : Pol) : List Int := [p.k0, p.k1, p.k2]
def Pol.keep (p : Pol) (r : Nat) : Int := p.keeps.getD r 0

/-- What Decide computes: the lows and the numbers of the blocks that go. -/
def decideOf (keep : List Int) (size now width : Int) (low : List Int) (xs : List Info) : List Int × List Int :=
  let r := sweepF size xs xs.length (lowInit keep now width low 3) (List.replicate xs.length false)
  (r.1, idsTo xs r.2 xs.length)

end Go.Proofs.Ytfokjcoiehgbpaa
