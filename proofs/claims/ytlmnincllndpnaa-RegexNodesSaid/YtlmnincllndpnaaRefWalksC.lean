/- The walk of the document's class of letters. -/
import Derived.Test.YtlmnincllndpnaaRefWalksB
namespace Go.Proofs.Ytlmnincllndpnaa
open Go.RowKit
attribute [local go_sem ↓] Go.wp_at_zero Go.wp_at_succ
attribute [local go_sem] Later.cell Later.frozen

theorem nodeRow_bit (k : Int) (S : Nat) (a b : Int) (j : Nat) (hj : j < 256) : (nodeRow k S a b)[1 + j]? = some (.bool (S.testBit j)) := by
  rw [nodeRow_get _ _ _ _ _ (by omega)]
  unfold rcell
  rw [if_neg (by omega), if_pos (by omega), show 1 + j - 1 = j by omega]
theorem nodeRow_put (k : Int) (S S' : Nat) (a b : Int) (j : Nat) (x : Bool) (hj : j < 256) (h : ∀ i, i < 256 → S'.testBit i = if i = j then x else S.testBit i) : (nodeRow k S a b).setIfInBounds (1 + j) (.bool x) = nodeRow k S' a b := by
  apply Array.ext_getElem?
  intro i
  by_cases hi : i < 259
  · rw [Array.getElem?_setIfInBounds, nodeRow_get _ _ _ _ _ hi, nodeRow_get _ _ _ _ _ hi, nodeRow_size]
    by_cases e : 1 + j = i
    · subst e
      rw [if_pos rfl, if_pos hi]
      unfold rcell
      rw [if_neg (by omega), if_pos (by omega), show 1 + j - 1 = j by omega, h j hj, if_pos rfl]
    · rw [if_neg e]
      unfold rcell
      split
      · rfl
      · split
        · rw [h (i - 1) (by omega), if_neg (by omega)]
        · rfl
  · rw [Array.getElem?_eq_none (by simp [nodeRow_size]; omega), Array.getElem?_eq_none (by simp [nodeRow_size]; omega)]

/-- The first m bits turned. -/
def flipN (S : Nat) : Nat → Nat
  | 0 => S
  | m + 1 => flipN S m ^^^ 2 ^ m
theorem testBit_flipN (S k : Nat) : ∀ m, (flipN S m).testBit k = (S.testBit k ^^ decide (k < m))
  | 0 => by simp [flipN]
  | m + 1 => by
    rw [flipN, Nat.testBit_xor, testBit_flipN S k m, Nat.testBit_two_pow]
    by_cases h1 : k < m
    · have h2 : k < m + 1 := by omega
      have h3 : ¬ m = k := by omega
      simp [h1, h2, h3]
    · by_cases h2 : m = k
      · subst h2; simp
      · have h3 : ¬ k < m + 1 := by omega
        simp [h1, h2, h3]
theorem flipN_all {S : Nat} (hS : S < 2 ^ 256) : flipN S 256 = compl S := by
  apply Nat.eq_of_testBit_eq
  intro k
  rw [testBit_flipN, testBit_compl hS]
  by_cases h : k < 256
  · simp [h]
  · have : S.testBit k = false := Nat.testBit_lt_two_pow (Nat.lt_of_lt_of_le hS (Nat.pow_le_pow_right (by omega) (by omega)))
    simp [h, this]
/-- Is one of the first m bits set? -/
def anyN (T : Nat) : Nat → Bool
  | 0 => false
  | m + 1 => anyN T m || T.testBit m
theorem anyN_iff (T : Nat) : ∀ m, anyN T m = true ↔ ∃ k, k < m ∧ T.testBit k = true
  | 0 => by simp [anyN]
  | m + 1 => by
    rw [anyN, Bool.or_eq_true, anyN_iff T m]
    constructor
    · rintro (⟨k, h, e⟩ | h)
      · exact ⟨k, by omega, e⟩
      · exact ⟨m, by omega, h⟩
    · rintro ⟨k, h, e⟩
      by_cases hk : k = m
      · subst hk; exact .inr e
      · exact .inl ⟨k, by omega, e⟩
theorem anyN_all {T : Nat} (hT : T < 2 ^ 256) : anyN T 256 = decide (T ≠ 0) := by
  rw [Bool.eq_iff_iff, anyN_iff, decide_eq_true_eq]
  constructor
  · rintro ⟨k, _, e⟩ rfl
    simp at e
  · intro h
    apply Classical.byContradiction
    intro hn
    apply h
    apply Nat.eq_of_testBit_eq
    intro k
    rw [Nat.zero_testBit]
    by_cases hk : k < 256
    · cases e : T.testBit k with
      | false => rfl
      | true => exact absurd ⟨k, hk, e⟩ hn
    · exact Nat.testBit_lt_two_pow (Nat.lt_of_lt_of_le hT (Nat.pow_le_pow_right (by omega) (by omega)))

/-- A letter was read, or there is a fault. -/
def LtrEnd (s : ByteArray) (l : List UInt8) (i a j flt : Nat) : Prop :=
  (flt = 0 ∧ ∃ (a' : UInt8) (l1 : List UInt8), a = a'.toNat ∧ letterOf l = .ok (a', l1) ∧ s.data.toList.drop j = l1 ∧ i < j) ∨ (flt ≠ 0 ∧ a = 0 ∧ letterOf l = .error flt)
theorem letter_fault {l : List UInt8} {c : Nat} (h : letterOf l = .error c) : c ≠ 0 := by
  unfold letterOf at h
  split at h
  · injection h with h; omega
  · split at h
    · split at h
      · injection h with h; omega
      · cases h
    · cases h
theorem rletter_any (w : World) (t : Nat) (v : Value) (s : ByteArray) (i d : Nat) (l : List UInt8) (h : Rf w t v s i d 0) (hs : s.size ≤ 64) (hi : i ≤ s.size) (hl : s.data.toList.drop i = l) :
    Calls Try.prog 65 #[.pointer (some ⟨t, 0, none⟩)] w fun e w' => ∃ a j flt, e = .returned (.int .i64 (a : Nat)) ∧ Kept w.heap.size [t] w w' ∧ Rf w' t v s j d flt ∧ i ≤ j ∧ j ≤ s.size ∧ a < 256 ∧ LtrEnd s l i a j flt := by
  subst hl
  cases hl : letterOf (s.data.toList.drop i) with
  | error c =>
    refine (rletter_error w t v s i d c h hs hi hl).mono ?_
    rintro e w' ⟨rfl, hk, j, hr, h1, h2⟩
    exact ⟨0, j, c, rfl, hk, hr, h1, h2, by omega, .inr ⟨letter_fault hl, rfl, hl⟩⟩
  | ok bl =>
    obtain ⟨b, l1⟩ := bl
    refine (rletter_ok w t v s i d b l1 h hs hl).mono ?_
    rintro e w' ⟨rfl, hk, j, hr, h1, h2, h3⟩
    exact ⟨b.toNat, j, 0, rfl, hk, hr, by omega, h2, UInt8.toNat_lt b, .inl ⟨rfl, b, l1, rfl, hl, h3, h1⟩⟩
theorem nx_eq {l : List UInt8} {r : Int} {c : UInt8} (hr : nx l = r) : (r == (c.toNat : Int)) = decide (l.head? = some c) := by
  subst hr
  cases l with
  | nil =>
    have : ¬ ((-1 : Int) = (c.toNat : Int)) := by omega
    simp [nx]
  | cons b l =>
    rw [Bool.eq_iff_iff]
    simp only [nx, beq_iff_eq, List.head?_cons, Option.some.injEq, decide_eq_true_eq]
    constructor
    · intro h; exact UInt8.toNat_inj.1 (Int.ofNat.inj h)
    · rintro rfl; rfl
theorem nx_ne {l : List UInt8} {r : Int} {c : UInt8} (hr : nx l = r) : (r != (c.toNat : Int)) = !decide (l.head? = some c) := by
  rw [bne, nx_eq hr]

theorem fail_any (w : World) (t : Nat) (v : Value) (s : ByteArray) (i d f : Nat) (c : Nat) (h : Rf w t v s i d f) :
    Calls Try.prog 50 #[.pointer (some ⟨t, 0, none⟩), .int .i64 c] w fun e w' => e = .returned (.tuple #[]) ∧ Kept w.heap.size [t] w w' ∧ Rf w' t v s i d (if f = 0 then c else f) := by
  by_cases hf : f = 0
  · subst hf
    exact fail_new w t v s i d c h
  · refine (fail_old w t v s i d f c h hf).mono ?_
    rintro e w' ⟨rfl, rfl⟩
    exact ⟨rfl, Kept.refl _ _ _, by rw [if_neg hf]; exact h⟩

/-- What a walk through the document's class keeps. -/
structure RClsMem (w wr : World) (t p : Nat) (v : Value) (s : ByteArray) (d j f S : Nat) : Prop where
  kept : Kept w.heap.size [t, p] w wr
  rf : Rf wr t v s j d f
  node : Blk wr p 68 (nodeRow 1 S 0 0)
  lt : S < 2 ^ 256
theorem Rf.kept {w w' : World} {B t : Nat} {ex : List Nat} {v : Value} {s : ByteArray} {i d f : Nat} (h : Rf w t v s i d f) (hk : Kept B ex w w') (hB : t < B) (hn : t ∉ ex) : Rf w' t v s i d f := Blk.kept h hk hB hn
theorem RClsMem.below {w wr w1 : World} {t p d j f S : Nat} {v : Value} {s : ByteArray} (h : RClsMem w wr t p v s d j f S) (hb : Below wr.heap.size wr w1) : RClsMem w w1 t p v s d j f S :=
  ⟨h.kept.then_ hb, h.rf.below hb, h.node.below hb h.node.lt, h.lt⟩
theorem RClsMem.step {w wr : World} {t p d j f S : Nat} {v : Value} {s : ByteArray} (h : RClsMem w wr t p v s d j f S) (hr : p ≠ t) : RClsMem w (wr.setCell ⟨t, 2, none⟩ (.int .i64 ((j : Int) + 1))) t p v s d (j + 1) f S :=
  ⟨h.kept.setCell (.inl (by simp)) _, h.rf.step, h.node.far (by simpa using hr) _, h.lt⟩
theorem RClsMem.read {w wr w1 : World} {t p d j j' f f' S : Nat} {v : Value} {s : ByteArray} (h : RClsMem w wr t p v s d j f S) (hr : p ≠ t) (hk : Kept wr.heap.size [t] wr w1) (hrd : Rf w1 t v s j' d f') : RClsMem w w1 t p v s d j' f' S :=
  ⟨h.kept.trans (hk.mono h.kept.size (fun k _ h => by simp at h; simp [h])), hrd, h.node.kept hk h.node.lt (by simpa using hr), h.lt⟩
theorem RClsMem.mark {w wr : World} {t p d j f S S' m : Nat} {v : Value} {s : ByteArray} (h : RClsMem w wr t p v s d j f S) (hr : p ≠ t) (x : Bool) (hm : m < 256) (hS : S' < 2 ^ 256) (hx : ∀ i, i < 256 → S'.testBit i = if i = m then x else S.testBit i) :
    RClsMem w (wr.setCell ⟨p, 1 + m, none⟩ (.bool x)) t p v s d j f S' :=
  ⟨h.kept.setCell (.inl (by simp)) _, Blk.far h.rf (by simpa using hr.symm) _, by have := h.node.set_ (1 + m) (.bool x); rw [nodeRow_put _ S S' _ _ m x hm hx] at this; exact this, hS⟩

def RClassOut (w : World) (t p : Nat) (v : Value) (s : ByteArray) (d : Nat) (res : Except Nat (Tr × List UInt8)) (e : Ending) (w' : World) : Prop :=
  match res with
  | .ok (u, l) => ∃ S j, u = .cls S ∧ s.data.toList.drop j = l ∧ j ≤ s.size ∧ e = .returned (.tuple #[]) ∧ RClsMem w w' t p v s d j 0 S
  | .error c => c ≠ 0 ∧ ∃ S j, e = .returned (.tuple #[]) ∧ j ≤ s.size + 1 ∧ RClsMem w w' t p v s d j c S
/-- Behind the loop over a class's items. -/
def ItemsEnd (rr : Except Nat Items) (s : ByteArray) (flt j S k : Nat) (f : Bool) : Prop :=
  match rr with
  | .ok x => flt = 0 ∧ x.s = S ∧ x.k = k ∧ x.falls = f ∧ s.data.toList.drop j = 93 :: x.rest
  | .error c => flt = c ∧ c ≠ 0 ∧ j ≤ s.size
theorem itemOf_failed {l l1 : List UInt8} {a : UInt8} {c : Nat} (h : letterOf l = .ok (a, l1)) (hr : ranges l1 = true) (h2 : letterOf l1.tail = .error c) : itemOf l = .error c := by
  rw [itemOf, h]; simp [hr, h2]
theorem itemOf_two {l l1 l2 : List UInt8} {a b : UInt8} (h : letterOf l = .ok (a, l1)) (hr : ranges l1 = true) (h2 : letterOf l1.tail = .ok (b, l2)) : itemOf l = .ok (a, b, l2) := by
  rw [itemOf, h]; simp [hr, h2]
theorem itemOf_one {l l1 : List UInt8} {a : UInt8} (h : letterOf l = .ok (a, l1)) (hr : ranges l1 = false) : itemOf l = .ok (a, a, l1) := by
  rw [itemOf, h]; simp [hr]

/-- An item was read, or there is a fault. -/
def ItemEnd (s : ByteArray) (l : List UInt8) (rr : Except Nat Items) (j a b j2 flt : Nat) : Prop :=
  (flt = 0 ∧ ∃ (a' b' : UInt8) (l2 : List UInt8), a = a'.toNat ∧ b = b'.toNat ∧ itemOf l = .ok (a', b', l2) ∧ s.data.toList.drop j2 = l2 ∧ j < j2) ∨ (flt ≠ 0 ∧ rr = .error flt)
/-- What the loop over the items keeps, with m rounds to go. -/
def ItemsRel (w wr : World) (t p : Nat) (v : Value) (s : ByteArray) (d : Nat) (rr : Except Nat Items) (m : Nat) (s5 s6 : Value) : Prop :=
  ∃ j S k f flt, s5 = .int .i64 (k : Nat) ∧ s6 = .bool f ∧ k ≤ j + 1 ∧ j ≤ s.size ∧ RClsMem w wr t p v s d j flt S ∧ ((flt = 0 ∧ itemsF m (s.data.toList.drop j) S k f = some rr ∧ k ≤ j) ∨ (flt ≠ 0 ∧ rr = .error flt))

set_option maxRecDepth 100000 in
set_option maxHeartbeats 2000000 in
theorem rclass_calls (n t p : Nat) (v : Value) (s : ByteArray) (i d : Nat) (w : World) (res) (hm : RClsMem w w t p v s d i 0 0) (hi : i ≤ s.size) (hr : p ≠ t) (hs : s.size ≤ 64) (hc : classF n (s.data.toList.drop i) = some res) :
    Calls Try.prog 62 #[.pointer (some ⟨t, 0, none⟩), .pointer (some ⟨p, 0, none⟩)] w (RClassOut w t p v s d res) := by
  obtain ⟨l, hl⟩ : ∃ l, s.data.toList.drop i = l := ⟨_, rfl⟩
  rw [hl] at hc
  obtain ⟨turned, ht⟩ : ∃ b, decide (l.head? = some 94) = b := ⟨_, rfl⟩
  obtain ⟨l1, hl1⟩ : ∃ l1, (if turned then l.tail else l) = l1 := ⟨_, rfl⟩
  have HC : Hid (_ = _) := hc
  have HL := Lib.hid hl
  have HT := Lib.hid ht
  have HL1 := Lib.hid hl1
  clear hc hl ht hl1
  go_enter Try.func62, Try.ntmps62
  obtain ⟨r0, hr0⟩ : ∃ r, nx l = r := ⟨_, rfl⟩
  have ht : (r0 == 94) = turned := (nx_eq (c := 94) hr0).trans HT.out
  have HR0 := Lib.hid hr0
  clear hr0
  go_wp2_with fail
  refine (next_ok _ t v s i d l r0 hm.rf hi HL.out HR0.out).mono ?_
  rintro e w1 ⟨rfl, hb1⟩
  have hm1 := hm.below hb1
  go_upto_if 15 with fail
  clear ht
  go_cut [] (fun wx => ∃ j, s.data.toList.drop j = l1 ∧ j ≤ s.size ∧ RClsMem w wx t p v s d j 0 0)
  case first =>
    cases turned with
    | true =>
      have hl := HL.out
      match l, hl, HT, HL1 with
      | [], _, HT, _ => exact absurd HT.out (by simp)
      | b :: l2, hl, _, HL1 =>
        obtain ⟨hlt, _, hd⟩ := drop_some hl
        have HD := Lib.hid hd
        have c1 : _ = some (Value.int .i64 i) := hm1.rf.cell 2
        have f1 := hm1.rf.frozen 2
        clear hd hl
        go_wp2
        go_meet
        exact ⟨i + 1, HD.out.trans HL1.out, hlt, hm1.step hr⟩
    | false =>
      go_wp2
      go_meet
      exact ⟨i, HL.out.trans HL1.out, hi, hm1⟩
  case rest =>
    obtain ⟨j0, hj0, hj0le, hm0⟩ := hcut
    obtain ⟨rr, hrr, hout⟩ := class_items HC.out HT.out HL1.out
    obtain ⟨wx, rfl⟩ : ∃ wx, wx = wc := ⟨_, rfl⟩
    rw [← hj0] at hrr
    have HRR := Lib.hid hrr
    have HOUT := Lib.hid hout
    clear hrr hout hj0 hm1 hb1 HL1 HC HL HT hm
    go_upto_block 0 with fail
    go_cut [5, 6] (fun s5 s6 wz => ∃ k f j S flt, s5 = .int .i64 (k : Nat) ∧ s6 = .bool f ∧ RClsMem w wz t p v s d j flt S ∧ ItemsEnd rr s flt j S k f)
    case first =>
      go_wp2_with fail
      go_loopg [5, 6] n (fun m s5 s6 wr => ItemsRel w wr t p v s d rr m s5 s6)
      case atStart => exact ⟨j0, 0, 0, false, 0, rfl, rfl, by omega, hj0le, hm0, .inl ⟨rfl, HRR.out, by omega⟩⟩
      case round =>
        obtain ⟨j, S, k, f, flt, rfl, rfl, hkj, hjs, hmr, hcase⟩ := hrel
        have c4 : _ = some (Value.int .i64 (flt : Int)) := hmr.rf.cell 4
        rcases hcase with ⟨rfl, hit, hkj'⟩ | ⟨hflt, hrr⟩
        case inr =>
          have hb : ((flt : Int) == 0) = false := by simp; omega
          have HRR2 := Lib.hid hrr
          clear hrr
          go_wp2
          go_meet
          exact ⟨k, f, j, S, flt, rfl, rfl, hmr, by rw [HRR2.out]; exact ⟨rfl, hflt, hjs⟩⟩
        case inl =>
          obtain ⟨l, hl⟩ : ∃ l, s.data.toList.drop j = l := ⟨_, rfl⟩
          rw [hl] at hit
          obtain ⟨r1, hr1⟩ : ∃ r, nx l = r := ⟨_, rfl⟩
          have h93 := nx_ne (c := 93) hr1
          have HR1 := Lib.hid hr1
          have HL := Lib.hid hl
          have H93 := Lib.hid h93
          obtain ⟨m, hgk⟩ := itemsF_pos hit
          have HGK := Lib.hid hgk
          have HIT : Hid (itemsF (m + 1) l S k f = some rr) := by rw [← hgk]; exact hit
          clear hr1 hl hit hgk h93
          go_wp2_with fail
          refine (next_ok _ t v s j d l r1 hmr.rf hjs HL.out HR1.out).mono ?_
          rintro e w1 ⟨rfl, hb1⟩
          have hm1 := hmr.below hb1
          obtain ⟨wy, rfl⟩ : ∃ wy, wy = w1 := ⟨_, rfl⟩
          clear hmr hb1 c4
          by_cases h93 : l.head? = some 93
          · have e1 : (r1 != 93) = false := by rw [show (93 : Int) = ((93 : UInt8).toNat : Int) from rfl, H93.out]; simp [h93]
            have hfin := itemsF_end HIT.out h93
            have HF := Lib.hid hfin
            have h94 := HL.out.trans (head_cons h93)
            have H94 := Lib.hid h94
            clear hfin h93 h94
            go_wp2
            go_meet
            exact ⟨k, f, j, S, 0, rfl, rfl, hm1, by rw [HF.out]; exact ⟨rfl, rfl, rfl, rfl, H94.out⟩⟩
          · have e1 : (r1 != 93) = true := by rw [show (93 : Int) = ((93 : UInt8).toNat : Int) from rfl, H93.out]; simp [h93]
            have N93 := Lib.hid h93
            clear h93
            go_wp2_with fail
            refine (rletter_any _ t v s j d l hm1.rf hs hjs HL.out).mono ?_
            rintro e w2 ⟨a, j1, flt1, rfl, hk2, hr2, hj1, hj1s, ha, hend⟩
            have hm2 := hm1.read hr hk2 hr2
            have HEND := Lib.hid hend
            clear hend hk2 hr2 hm1
            obtain ⟨wz, rfl⟩ : ∃ wz, wz = w2 := ⟨_, rfl⟩
            have c1 : _ = some (Value.string s) := hm2.rf.cell 1
            have c2 : _ = some (Value.int .i64 j1) := hm2.rf.cell 2
            have htl := hm2.rf.lt
            go_upto_region 8 with fail
            go_cut [65] (fun s65 wu => ∃ rg, s65 = .bool rg ∧ Below wz.heap.size wz wu ∧ (rg = true → flt1 = 0 ∧ ranges (s.data.toList.drop j1) = true) ∧ (flt1 = 0 → rg = ranges (s.data.toList.drop j1)))
            case first =>
              obtain ⟨rn, hnx, hrn⟩ : ∃ rn : Int, (∀ x : Later wz, Calls Try.prog 41 #[.pointer (some ⟨t, 0, none⟩)] x.w fun e w' => e = .returned (.int .i64 rn) ∧ Below x.w.heap.size x.w w') ∧ (rn == 45) = decide (flt1 = 0 ∧ (s.data.toList.drop j1).head? = some 45) := by
                by_cases h0 : flt1 = 0
                · subst h0
                  refine ⟨nx (s.data.toList.drop j1), fun x => next_ok _ t v s j1 d _ _ (hm2.rf.below x.h) hj1s rfl rfl, ?_⟩
                  have := nx_eq (c := 45) (r := nx (s.data.toList.drop j1)) rfl
                  simpa using this
                · exact ⟨-1, fun x => next_bad _ t v s j1 d flt1 (hm2.rf.below x.h) h0, by simp [h0]⟩
              have HNX := Lib.hid hnx
              have hri := ranges_iff s j1
              have key : ∀ rg : Bool, rg = (decide (j1 + 1 < s.size) && ((rn == 45) && (decide (ranges (s.data.toList.drop j1) = true)))) → (rg = true → flt1 = 0 ∧ ranges (s.data.toList.drop j1) = true) ∧ (flt1 = 0 → rg = ranges (s.data.toList.drop j1)) := by
                intro rg hrg
                subst hrg
                rw [hrn]
                constructor
                · intro h
                  simp only [Bool.and_eq_true, decide_eq_true_eq] at h
                  exact ⟨h.2.1.1, h.2.2⟩
                · intro h0
                  rw [Bool.eq_iff_iff]
                  simp only [Bool.and_eq_true, decide_eq_true_eq]
                  constructor
                  · intro h; exact h.2.2
                  · intro h
                    obtain ⟨g1, g2, g3⟩ := hri.1 h
                    refine ⟨g1, ⟨h0, ?_⟩, h⟩
                    have := List.getElem?_drop (xs := s.data.toList) (i := j1) (j := 0)
                    rw [List.head?_eq_getElem?, this]
                    simp only [Nat.add_zero]
                    rw [List.getElem?_eq_getElem (by simp; omega)]
                    exact congrArg some g2
              have hrg : (rn == 45) = true → (h : j1 + 1 < s.size) → s[j1 + 1] ≠ 93 → ranges (s.data.toList.drop j1) = true := by
                intro h1 h2 h3
                rw [hrn] at h1
                simp only [decide_eq_true_eq] at h1
                refine hri.2 ⟨h2, ?_, h3⟩
                have h4 := h1.2
                rw [List.head?_eq_getElem?, List.getElem?_drop, Nat.add_zero, List.getElem?_eq_getElem (by simp; omega)] at h4
                exact Option.some.inj h4
              have KEY := Lib.hid key
              clear key hnx hrn
              by_cases g1 : j1 + 1 < s.size
              · have x1 : decide ((j1 : Int) + 1 < (s.size : Int)) = true := by simp; omega
                have y1 : j1 < s.size := by omega
                cases g2 : (rn == 45) with
                | false =>
                  have K := Lib.hid (KEY.out false (by rw [g2]; simp))
                  clear KEY hri hrg
                  refine wp_region_later (by kernel_rfl) (by kernel_rfl) ?_
                  repeat (go_big_quiet_step ((first | (go_at_call 41; exact quiet_later _ (HNX.out _)))))
                  refine wpQuiet_nil ?_
                  rintro w3 ⟨⟨_, hb3⟩, rfl⟩
                  go_wp2
                  go_meet
                  exact ⟨false, rfl, hb3, K.out.1, K.out.2⟩
                | true =>
                  have z1 : IntKind.i64.wrap ((j1 : Int) + 1) = (j1 : Int) + 1 := IntWalk.i64_in _ (by omega)
                  have z2 : (0 : Int) ≤ (j1 : Int) + 1 := by omega
                  have z3 : ((j1 : Int) + 1).toNat = j1 + 1 := by omega
                  have z4 : (j1 : Int) + 1 < (s.size : Int) := by omega
                  by_cases g3 : s[j1 + 1] = 93
                  · have x3 : ((s[j1 + 1].toNat : Int) != 93) = false := by rw [g3]; rfl
                    have hno : ¬ ranges (s.data.toList.drop j1) = true := fun h => (hri.1 h).2.2 g3
                    have K := Lib.hid (KEY.out false (by simp [hno]))
                    clear KEY hri hrg g3 hno
                    refine wp_region_later (by kernel_rfl) (by kernel_rfl) ?_
                    repeat (go_big_quiet_step ((first | (go_at_call 41; exact quiet_later _ (HNX.out _)))))
                    refine wpQuiet_nil ?_
                    rintro w3 ⟨⟨_, hb3⟩, rfl⟩
                    go_wp2
                    go_meet
                    exact ⟨false, rfl, hb3, K.out.1, K.out.2⟩
                  · have x3 : ((s[j1 + 1].toNat : Int) != 93) = true := by
                      rw [bne_iff_ne]; intro e; exact g3 (UInt8.toNat_inj.1 (by simpa using Int.ofNat.inj e))
                    have hyes : ranges (s.data.toList.drop j1) = true := hrg g2 g1 g3
                    have K := Lib.hid (KEY.out true (by simp [hyes, g1, g2]))
                    clear KEY hri hrg g3 hyes
                    refine wp_region_later (by kernel_rfl) (by kernel_rfl) ?_
                    repeat (go_big_quiet_step ((first | (go_at_call 41; exact quiet_later _ (HNX.out _)))))
                    refine wpQuiet_nil ?_
                    rintro w3 ⟨⟨_, hb3⟩, rfl⟩
                    go_wp2
                    go_meet
                    exact ⟨true, rfl, hb3, fun _ => K.out.1 (by trivial), K.out.2⟩
              · have x1 : decide ((j1 : Int) + 1 < (s.size : Int)) = false := by simp; omega
                have K := Lib.hid (KEY.out false (by simp [g1]))
                clear KEY hri hrg
                refine wp_region_later (by kernel_rfl) (by kernel_rfl) ?_
                repeat (go_big_quiet_step ((first | (go_at_call 41; exact quiet_later _ (HNX.out _)))))
                refine wpQuiet_nil ?_
                rintro w3 ⟨⟨_, hb3⟩, rfl⟩
                go_wp2
                go_meet
                exact ⟨false, rfl, hb3, K.out.1, K.out.2⟩
            case rest =>
              obtain ⟨rg, rfl, hb3, hrg1, hrg2⟩ := hcut
              have hm3 := hm2.below hb3
              obtain ⟨wv, rfl⟩ : ∃ wv, wv = wc := ⟨_, rfl⟩
              have RG1 := Lib.hid hrg1
              have RG2 := Lib.hid hrg2
              clear c1 c2 htl hm2 hb3 hrg1 hrg2
              go_upto_if 65 with fail
              go_cut [8] (fun s8 wu => ∃ b j2 flt2, s8 = .int .i64 (b : Nat) ∧ b < 256 ∧ j1 ≤ j2 ∧ j2 ≤ s.size ∧ RClsMem w wu t p v s d j2 flt2 S ∧ ItemEnd s l rr j a b j2 flt2)
              case first =>
                cases rg with
                | false =>
                  go_wp2
                  go_meet
                  refine ⟨a, j1, flt1, rfl, ha, Nat.le_refl _, hj1s, hm3, ?_⟩
                  rcases HEND.out with ⟨h0, a', l1', ha', hlo, hd1, hlt⟩ | ⟨h0, _, hle⟩
                  · have := RG2.out h0
                    rw [hd1] at this
                    exact .inl ⟨h0, a', a', l1', ha', ha', itemOf_one hlo this.symm, hd1, hlt⟩
                  · exact .inr ⟨h0, itemsF_error HIT.out N93.out (by rw [itemOf, hle])⟩
                | true =>
                  obtain ⟨h0, hrt⟩ := RG1.out rfl
                  subst h0
                  obtain ⟨hlt1, _, _⟩ := (ranges_iff s j1).1 hrt
                  have HRT := Lib.hid hrt
                  have c2 : _ = some (Value.int .i64 j1) := hm3.rf.cell 2
                  have f2 := hm3.rf.frozen 2
                  have hm4 := hm3.step hr
                  clear hrt RG1 RG2
                  go_wp2_with fail
                  refine (rletter_any _ t v s (j1 + 1) d _ hm4.rf hs (by omega) rfl).mono ?_
                  rintro e w5 ⟨b, j2, flt2, rfl, hk5, hr5, hj2, hj2s, hb, hend5⟩
                  have hm5 := hm4.read hr hk5 hr5
                  have HE5 := Lib.hid hend5
                  clear hend5
                  go_wp2
                  go_meet
                  refine ⟨b, j2, flt2, rfl, hb, by omega, hj2s, hm5, ?_⟩
                  rcases HEND.out with ⟨_, a', l1', ha', hlo, hd1, hlt⟩ | ⟨h0, _, _⟩
                  · have htl : s.data.toList.drop (j1 + 1) = l1'.tail := by rw [← hd1, List.tail_drop]
                    have hrt := HRT.out
                    have he5 := HE5.out
                    rw [htl] at he5
                    rw [hd1] at hrt
                    rcases he5 with ⟨g0, b', l2', hb', hlo2, hd2, hlt2⟩ | ⟨g0, _, hle⟩
                    · exact .inl ⟨g0, a', b', l2', ha', hb', itemOf_two hlo hrt hlo2, hd2, by omega⟩
                    · exact .inr ⟨g0, itemsF_error HIT.out N93.out (itemOf_failed hlo hrt hle)⟩
                  · exact absurd rfl h0
              case rest =>
                obtain ⟨b, j2, flt2, rfl, hb, hj12, hj2s, hm5, hend5⟩ := hcut
                obtain ⟨wu, rfl⟩ : ∃ wu, wu = wc := ⟨_, rfl⟩
                have HE5 := Lib.hid hend5
                clear hend5 HEND RG1 RG2 hm3
                go_upto_if 78 with fail
                go_cut [6] (fun s6 wt => s6 = .bool (f || decide (b < a)) ∧ wt = wu)
                case first =>
                  by_cases hba : b < a
                  · go_wp2
                    go_meet
                    exact ⟨vb (by simp [hba]), rfl⟩
                  · go_wp2
                    go_meet
                    exact ⟨vb (by simp [hba]), rfl⟩
                case rest =>
                  obtain ⟨rfl, rfl⟩ := hcut
                  obtain ⟨f', hf'⟩ : ∃ f', (f || decide (b < a)) = f' := ⟨_, rfl⟩
                  rw [hf']
                  have HF' := Lib.hid hf'
                  clear hf'
                  go_upto_block 2 with fail
                  go_cut [] (fun wt => RClsMem w wt t p v s d j2 flt2 (putR S a b))
                  case first =>
                    go_wp2
                    go_loopg [9] (256 - a) (fun g s9 wr => ∃ m : Nat, a ≤ m ∧ m + g = 256 ∧ m - a ≤ b + 1 - a ∧ s9 = .int .i64 (m : Int) ∧ RClsMem w wr t p v s d j2 flt2 (putN S a (m - a)))
                    case atStart => exact ⟨a, by omega, by omega, by omega, rfl, by rw [Nat.sub_self]; exact hm5⟩
                    case round =>
                      obtain ⟨x, hx1, hx2, hx3, rfl, hmx⟩ := hrel
                      by_cases hlt : x ≤ b
                      · have cx : wr.cell? ⟨p, 1 + x, none⟩ = some (.bool _) := (hmx.node.cell _).trans (nodeRow_bit _ _ _ _ x (by omega))
                        have fx := hmx.node.frozen (1 + x)
                        have HX2 := Lib.hid hx2
                        clear hx2
                        go_wp2
                        go_roundg (256 - (x + 1))
                        case measure => have := HX2.out; omega
                        case rel =>
                          have hz := hmx.mark hr true (S' := putN S a (x + 1 - a)) (m := x) (by omega) (putN_lt hm5.lt _ (by omega)) (fun i hi => by
                            rw [show x + 1 - a = (x - a) + 1 by omega, putN, Nat.testBit_or, show a + (x - a) = x by omega, Nat.testBit_two_pow]
                            by_cases e : i = x
                            · subst e; simp
                            · have e' : ¬ x = i := fun h => e h.symm
                              simp [e, e'])
                          exact ⟨x + 1, by omega, by omega, by omega, by go_num, hz⟩
                      · clear hx2
                        go_wp2
                        go_meet
                        unfold putR
                        rw [show b + 1 - a = x - a by omega]
                        exact hmx
                  case rest =>
                    have hm6 := hcut
                    obtain ⟨wo, rfl⟩ : ∃ wo, wo = wc := ⟨_, rfl⟩
                    have hkk : k ≤ 100 := by omega
                    clear hcut
                    go_wp2
                    go_roundg m
                    case measure => rw [HGK.out]; omega
                    case rel =>
                      refine ⟨j2, _, k + 1, f', flt2, by go_num, rfl, by omega, hj2s, hm6, ?_⟩
                      rcases HE5.out with ⟨g0, a', b', l2, rfl, rfl, hio, hd2, hlt2⟩ | ⟨g0, hre⟩
                      · refine .inl ⟨g0, ?_, by omega⟩
                        rw [hd2]
                        have hstep := itemsF_step HIT.out N93.out hio
                        rw [← HF'.out, show decide (b'.toNat < a'.toNat) = decide (b' < a') by rw [decide_eq_decide, UInt8.lt_iff_toNat_lt]]
                        exact hstep
                      · exact .inr ⟨g0, hre⟩
    case rest =>
      obtain ⟨k, f, j, S, flt, rfl, rfl, hmj, hend⟩ := hcut
      obtain ⟨wz, rfl⟩ : ∃ wz, wz = wc := ⟨_, rfl⟩
      have hjs : j ≤ s.size := by
        cases rr with
        | ok x => exact Nat.le_of_lt (drop_some hend.2.2.2.2).1
        | error c => exact hend.2.2
      have HEND := Lib.hid hend
      have c2 : _ = some (Value.int .i64 j) := hmj.rf.cell 2
      have f2 := hmj.rf.frozen 2
      have hms := hmj.step hr
      clear hend HRR hm0 hmj
      obtain ⟨T, hT⟩ : ∃ T, (if turned = true then compl S else S) = T := ⟨_, rfl⟩
      have hTlt : T < 2 ^ 256 := by
        rw [← hT]
        split
        · exact compl_lt S
        · exact hms.lt
      have HTT := Lib.hid hT
      clear hT
      go_upto_block 4 with fail
      clear c2 f2
      obtain ⟨wq, hwq⟩ : ∃ wq, wz.setCell ⟨t, 2, none⟩ (.int .i64 ((j : Int) + 1)) = wq := ⟨_, rfl⟩
      rw [hwq] at hms ⊢
      clear hwq
      go_cut [10] (fun s10 wu => s10 = .bool (decide (T ≠ 0)) ∧ RClsMem w wu t p v s d (j + 1) flt T)
      case first =>
        cases turned with
        | false =>
          have hT : S = T := HTT.out
          subst hT
          go_wp2
          go_loopg [10, 11] 256 (fun g s10 s11 wr => ∃ m : Nat, m + g = 256 ∧ s11 = .int .i64 (m : Int) ∧ s10 = .bool (anyN S m) ∧ RClsMem w wr t p v s d (j + 1) flt S)
          case atStart => exact ⟨0, rfl, rfl, rfl, hms⟩
          case round =>
            obtain ⟨x, hx2, rfl, rfl, hmx⟩ := hrel
            by_cases hlt : x < 256
            · have cx : wr.cell? ⟨p, 1 + x, none⟩ = some (.bool _) := (hmx.node.cell _).trans (nodeRow_bit _ _ _ _ x (by omega))
              have HX2 := Lib.hid hx2
              obtain ⟨ax, hax⟩ : ∃ b, anyN S x = b := ⟨_, rfl⟩
              obtain ⟨bx, hbx⟩ : ∃ b, S.testBit x = b := ⟨_, rfl⟩
              have hnx : anyN S (x + 1) = (ax || bx) := by rw [anyN, hax, hbx]
              have HNX := Lib.hid hnx
              rw [hax]
              rw [hbx] at cx
              clear hx2 hnx hax hbx
              cases ax
              all_goals
                go_wp2
                go_roundg (256 - (x + 1))
                case measure => have := HX2.out; omega
                case rel => exact ⟨x + 1, by omega, by go_num, vb (by rw [HNX.out]; simp), hmx⟩
            · have hx : x = 256 := by omega
              subst hx
              clear hx2
              go_wp2
              go_meet
              exact ⟨vb (anyN_all hTlt), hmx⟩
        | true =>
          have hT : compl S = T := HTT.out
          have hSlt := hms.lt
          go_wp2
          go_loopg [10, 11] 256 (fun g s10 s11 wr => ∃ m : Nat, m + g = 256 ∧ s11 = .int .i64 (m : Int) ∧ s10 = .bool (anyN T m) ∧ RClsMem w wr t p v s d (j + 1) flt (flipN S m))
          case atStart => exact ⟨0, rfl, rfl, rfl, hms⟩
          case round =>
            obtain ⟨x, hx2, rfl, rfl, hmx⟩ := hrel
            by_cases hlt : x < 256
            · have cx : wr.cell? ⟨p, 1 + x, none⟩ = some (.bool _) := (hmx.node.cell _).trans (nodeRow_bit _ _ _ _ x (by omega))
              have fx := hmx.node.frozen (1 + x)
              have hpl := hmx.node.lt
              have HX2 := Lib.hid hx2
              obtain ⟨ax, hax⟩ : ∃ b, anyN T x = b := ⟨_, rfl⟩
              obtain ⟨bx, hbx⟩ : ∃ b, (flipN S x).testBit x = b := ⟨_, rfl⟩
              have htb : T.testBit x = !bx := by
                rw [← hbx, ← hT, testBit_compl hSlt, testBit_flipN]
                simp [hlt]
              have hnx : anyN T (x + 1) = (ax || !bx) := by rw [anyN, hax, htb]
              have HNX := Lib.hid hnx
              have HBX := Lib.hid hbx
              rw [hax]
              rw [hbx] at cx
              have HT2 := Lib.hid hT
              clear hx2 hnx hax hbx hT htb
              go_wp2
              refine wp_region_later_tail 12 (by kernel_rfl) (by kernel_rfl) ?_
              simp only [List.take_succ_cons, List.take_zero, List.drop_succ_cons, List.drop_zero]
              repeat (go_big_quiet_step (fail))
              refine wpQuiet_nil ?_
              rintro w2 ⟨⟨_, hb2⟩, rfl⟩
              have hm2 := hmx.below hb2
              have cx2 := later hb2 cx
              have fx2 := hm2.node.frozen (1 + x)
              have hm3 := hm2.mark hr (!bx) (S' := flipN S (x + 1)) (m := x) hlt (by
                  rw [flipN]; exact Nat.xor_lt_two_pow hm2.lt (Nat.pow_lt_pow_right (by omega) hlt)) (fun i hi => by
                rw [flipN, Nat.testBit_xor, Nat.testBit_two_pow]
                by_cases e : i = x
                · subst e; simp [HBX.out]
                · have e' : ¬ x = i := fun h => e h.symm
                  simp [e, e'])
              have cx3 : (w2.setCell ⟨p, 1 + x, none⟩ (.bool (!bx))).cell? ⟨p, 1 + x, none⟩ = some (.bool (!bx)) := by
                rw [(hm3.node.cell _).trans (nodeRow_bit _ _ _ _ x (by omega)), flipN, Nat.testBit_xor, Nat.testBit_two_pow, HBX.out]
                simp
              clear cx fx
              cases ax
              all_goals
                go_wp2
                go_roundg (256 - (x + 1))
                case measure => have := HX2.out; omega
                case rel => exact ⟨x + 1, by omega, by go_num, vb (by rw [HNX.out]; simp), hm3⟩
            · have hx : x = 256 := by omega
              subst hx
              have HT2 := Lib.hid hT
              clear hx2 hT
              go_wp2
              go_meet
              refine ⟨vb (anyN_all hTlt), ?_⟩
              rw [← HT2.out, ← flipN_all hSlt]
              exact hmx
      case rest =>
        obtain ⟨rfl, hmT⟩ := hcut
        obtain ⟨wu, rfl⟩ : ∃ wu, wu = wc := ⟨_, rfl⟩
        clear hms
        obtain ⟨av, hav⟩ : ∃ b, decide (T ≠ 0) = b := ⟨_, rfl⟩
        rw [hav]
        have HAV := Lib.hid hav
        clear hav
        have hfin : ∀ w' : World, RClsMem w w' t p v s d (j + 1) flt T → (k ≠ 0 ∧ f = false ∧ av = true) → RClassOut w t p v s d res (.returned (.tuple #[])) w' := by
          rintro w' hm' ⟨hk, hf, ha⟩
          have hout := HOUT.out
          have hend := HEND.out
          cases rr with
          | ok x =>
            obtain ⟨rfl, rfl, rfl, rfl, hd⟩ := hend
            obtain ⟨hjl, _, hd'⟩ := drop_some hd
            have hset : x.set turned = T := HTT.out
            have hg : x.good turned = true := by
              unfold Items.good
              rw [hset, HAV.out, hf, ha]
              simp; omega
            have hres : res = if x.good turned then .ok (.cls (x.set turned), x.rest) else .error 63 := hout
            rw [hres, if_pos hg, hset]
            exact ⟨T, j + 1, rfl, hd', hjl, rfl, hm'⟩
          | error c =>
            obtain ⟨rfl, hc, hj⟩ := hend
            have hres : res = .error flt := hout
            rw [hres]
            exact ⟨hc, T, j + 1, rfl, by omega, hm'⟩
        have hbad : ∀ w' : World, RClsMem w w' t p v s d (j + 1) (if flt = 0 then 63 else flt) T → (k = 0 ∨ f = true ∨ av = false) → RClassOut w t p v s d res (.returned (.tuple #[])) w' := by
          rintro w' hm' hor
          have hout := HOUT.out
          have hend := HEND.out
          cases rr with
          | ok x =>
            obtain ⟨rfl, rfl, rfl, rfl, hd⟩ := hend
            have hset : x.set turned = T := HTT.out
            have hg : ¬ x.good turned = true := by
              unfold Items.good
              rw [hset, HAV.out]
              rcases hor with h | h | h <;> simp [h]
            have hres : res = if x.good turned then .ok (.cls (x.set turned), x.rest) else .error 63 := hout
            rw [hres, if_neg hg]
            exact ⟨by omega, T, j + 1, rfl, by omega, by simpa using hm'⟩
          | error c =>
            obtain ⟨rfl, hc, hj⟩ := hend
            have hres : res = .error flt := hout
            rw [if_neg hc] at hm'
            rw [hres]
            exact ⟨hc, T, j + 1, rfl, by omega, hm'⟩
        have HFIN := Lib.hid hfin
        have HBAD := Lib.hid hbad
        clear hfin hbad
        by_cases hk0 : k = 0
        · subst hk0
          go_wp2_with fail
          refine (fail_any _ t v s (j + 1) d flt 63 hmT.rf).mono ?_
          rintro e w9 ⟨rfl, hk9, hr9⟩
          have hm9 := hmT.read hr hk9 hr9
          go_wp2
          go_end0
          exact HBAD.out _ hm9 (by simp)
        · have ek : ((k : Int) == 0) = false := by simp; omega
          cases f
          · cases av
            · go_wp2_with fail
              refine (fail_any _ t v s (j + 1) d flt 63 hmT.rf).mono ?_
              rintro e w9 ⟨rfl, hk9, hr9⟩
              have hm9 := hmT.read hr hk9 hr9
              go_wp2
              go_end0
              exact HBAD.out _ hm9 (by simp)
            · go_wp2
              go_end0
              exact HFIN.out _ hmT (by simp [hk0])
          · go_wp2_with fail
            refine (fail_any _ t v s (j + 1) d flt 63 hmT.rf).mono ?_
            rintro e w9 ⟨rfl, hk9, hr9⟩
            have hm9 := hmT.read hr hk9 hr9
            go_wp2
            go_end0
            exact HBAD.out _ hm9 (by simp)
end Go.Proofs.Ytlmnincllndpnaa
