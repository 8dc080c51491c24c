/- The walks of layer 7 (deriv): trees and rests in memory; Nullable, rest, star. -/
import Derived.Test.YtlmnincllndpnaaRexParse
import Derived.Test.YtlmnincllndpnaaDerPlain
import Derived.Test.YtlmnincllndpnaaPMap
namespace Go.Proofs.Ytlmnincllndpnaa
open Go.RowKit
open Go.ChangeMaps (setBlock)
open Go.MapKept (Stamped)
attribute [local go_sem ↓] Go.wp_at_zero Go.wp_at_succ
attribute [local go_sem] Later.cell Later.frozen

/-! ### the key of a rest -/
theorem info_node : (Try.prog.info? 52).map (fun i => i.size) = some 6 := by kernel_rfl
theorem info_rest : (Try.prog.info? 64).map (fun i => i.size) = some 2 := by kernel_rfl
theorem info_size {t : TypeId} {n : Nat} (h : (Try.prog.info? t).map (fun i => i.size) = some n) : ∃ i, Try.prog.info? t = some i ∧ i.size = n := by
  cases hi : Try.prog.info? t with
  | none => rw [hi] at h; cases h
  | some i => rw [hi] at h; exact ⟨i, rfl, by simpa using h⟩
theorem stood_rest : Try.prog.stoodInHeld 64 = false := by kernel_rfl
theorem cells_np : (Try.prog.info? 23).map (fun i => i.size) = some 1 := by kernel_rfl
theorem cells_rp : (Try.prog.info? 62).map (fun i => i.size) = some 1 := by kernel_rfl

theorem cmp_node {w : World} {v v' : Value} (h : PtrIs w v) (h' : PtrIs w v') : Cmp Try.prog w 23 v v' := by
  obtain ⟨i, hi, hs⟩ := info_size info_node
  exact cmp_ptr Try.underlying23 hi (by omega) h h'
theorem cmp_restp {w : World} {v v' : Value} (h : PtrIs w v) (h' : PtrIs w v') : Cmp Try.prog w 62 v v' := by
  obtain ⟨i, hi, hs⟩ := info_size info_rest
  exact cmp_ptr Try.underlying62 hi (by omega) h h'
theorem cmp_rest {w : World} {a b c d : Value} (ha : PtrIs w a) (hb : PtrIs w b) (hc : PtrIs w c) (hd : PtrIs w d) : Cmp Try.prog w 64 (.agg #[a, b]) (.agg #[c, d]) := by
  obtain ⟨i, hi, hs⟩ := info_size info_node
  obtain ⟨j, hj, hs'⟩ := info_size info_rest
  obtain ⟨x, hx, hx'⟩ := equalIn_ptr (P := Try.prog) 9998 Try.underlying23 hi (by omega) ha hc
  obtain ⟨y, hy, hy'⟩ := equalIn_ptr (P := Try.prog) 9998 Try.underlying62 hj (by omega) hb hd
  obtain ⟨i1, hi1, hs1⟩ := info_size cells_np
  obtain ⟨i2, hi2, hs2⟩ := info_size cells_rp
  refine ⟨x && y, ?_, ?_⟩
  · rw [Op.equal, Op.maxDepth, show (10000 : Nat) = 9999 + 1 from rfl, Op.equalIn]
    simp only [run_underlying Try.underlying64, Sem.run_bind, Result.andThen_ok]
    simp [go_sem, stood_rest, part, sizeOf, typeInfo, hi1, hi2, hs1, hs2]
    cases x <;> cases y <;> simp [hx, hy]
  · rw [Bool.and_eq_true, hx', hy']
    simp
theorem bits_ptr (n : Nat) {w : World} {v : Value} (h : PtrIs w v) : Instr.sameBits n v v = true := by
  rcases h with rfl | ⟨q, t, cs, rfl, hb⟩ <;> cases n <;> (rw [Instr.sameBits]; simp)
theorem fine_rest {w : World} {a b : Value} (ha : PtrIs w a) (hb : PtrIs w b) : Fine Try.prog w 64 (.agg #[a, b]) := by
  obtain ⟨i1, hi1, hs1⟩ := info_size cells_np
  obtain ⟨i2, hi2, hs2⟩ := info_size cells_rp
  refine ⟨fun x => ?_, ⟨_, Try.underlying64, fun k' => ?_⟩, ?_⟩
  · have ca : (Instr.checkKey x 9999 23 a).run Try.prog w = .ok () w := by
      rw [show (9999 : Nat) = 9998 + 1 from rfl, Instr.checkKey]
      rcases ha with rfl | ⟨q, t, cs, rfl, h⟩ <;> simp [run_underlying Try.underlying23]
    have cb : (Instr.checkKey x 9999 62 b).run Try.prog w = .ok () w := by
      rw [show (9999 : Nat) = 9998 + 1 from rfl, Instr.checkKey]
      rcases hb with rfl | ⟨q, t, cs, rfl, h⟩ <;> simp [run_underlying Try.underlying62]
    rw [show (10000 : Nat) = 9999 + 1 from rfl, Instr.checkKey]
    simp only [run_underlying Try.underlying64, Sem.run_bind, Result.andThen_ok]
    simp [go_sem, part, sizeOf, typeInfo, hi1, hi2, hs1, hs2, ca, cb]
  · cases k' <;> rfl
  · rw [show (10000 : Nat) = 9999 + 1 from rfl, Instr.sameBits]
    simp [bits_ptr 9999 ha, bits_ptr 9999 hb]

/-! ### trees and rests -/
def OneIs (w : World) (kd : Int) (A : Nat → Prop) (p : Nat) : Prop :=
  ∃ k pa, A pa ∧ Blk w k 23 #[.pointer (some ⟨pa, 0, none⟩)] ∧ Blk w p 52 (nodeCells kd 0 (.slice (some ⟨k, 0, none⟩) 1 1))
def TwoIs (w : World) (kd : Int) (A B : Nat → Prop) (p : Nat) : Prop :=
  ∃ k pa pb, A pa ∧ B pb ∧ Blk w k 23 #[.pointer (some ⟨pa, 0, none⟩), .pointer (some ⟨pb, 0, none⟩)] ∧ Blk w p 52 (nodeCells kd 0 (.slice (some ⟨k, 0, none⟩) 2 2))
/-- The tree t stands at block p. -/
def TreeIs (w : World) : Tr → Nat → Prop
  | .empty, p => Blk w p 52 (nodeCells 0 0 (.slice none 0 0))
  | .cls v, p => v < 2 ^ 256 ∧ Blk w p 52 (nodeCells 1 v (.slice none 0 0))
  | .cat a b, p => TwoIs w 2 (TreeIs w a) (TreeIs w b) p
  | .alt a b, p => TwoIs w 3 (TreeIs w a) (TreeIs w b) p
  | .star a, p => OneIs w 4 (TreeIs w a) p
  | .plus a, p => OneIs w 5 (TreeIs w a) p
  | .quest a, p => OneIs w 6 (TreeIs w a) p
theorem TreeAt.is {w : World} : ∀ {t : Tr} {lo hi p : Nat}, TreeAt w t lo hi p → TreeIs w t p
  | .empty, _, _, _, h => h.2.2
  | .cls _, _, _, _, h => h.2.2
  | .cat _ _, _, _, _, ⟨_, _, k, pa, pb, ha, hb, _, _, _, e1, e2⟩ => ⟨k, pa, pb, TreeAt.is ha, TreeAt.is hb, e1, e2⟩
  | .alt _ _, _, _, _, ⟨_, _, k, pa, pb, ha, hb, _, _, _, e1, e2⟩ => ⟨k, pa, pb, TreeAt.is ha, TreeAt.is hb, e1, e2⟩
  | .star _, _, _, _, ⟨_, k, pa, ha, _, _, _, e1, e2⟩ => ⟨k, pa, TreeAt.is ha, e1, e2⟩
  | .plus _, _, _, _, ⟨_, k, pa, ha, _, _, _, e1, e2⟩ => ⟨k, pa, TreeAt.is ha, e1, e2⟩
  | .quest _, _, _, _, ⟨_, k, pa, ha, _, _, _, e1, e2⟩ => ⟨k, pa, TreeAt.is ha, e1, e2⟩
theorem TreeIs.keep {w w' : World} (hk : Keeps w w') : ∀ {t : Tr} {p : Nat}, TreeIs w t p → TreeIs w' t p
  | .empty, _, h => hk _ _ _ h
  | .cls _, _, h => ⟨h.1, hk _ _ _ h.2⟩
  | .cat _ _, _, ⟨k, pa, pb, ha, hb, e1, e2⟩ => ⟨k, pa, pb, TreeIs.keep hk ha, TreeIs.keep hk hb, hk _ _ _ e1, hk _ _ _ e2⟩
  | .alt _ _, _, ⟨k, pa, pb, ha, hb, e1, e2⟩ => ⟨k, pa, pb, TreeIs.keep hk ha, TreeIs.keep hk hb, hk _ _ _ e1, hk _ _ _ e2⟩
  | .star _, _, ⟨k, pa, ha, e1, e2⟩ => ⟨k, pa, TreeIs.keep hk ha, hk _ _ _ e1, hk _ _ _ e2⟩
  | .plus _, _, ⟨k, pa, ha, e1, e2⟩ => ⟨k, pa, TreeIs.keep hk ha, hk _ _ _ e1, hk _ _ _ e2⟩
  | .quest _, _, ⟨k, pa, ha, e1, e2⟩ => ⟨k, pa, TreeIs.keep hk ha, hk _ _ _ e1, hk _ _ _ e2⟩
theorem TreeIs.node {w : World} : ∀ {t : Tr} {p : Nat}, TreeIs w t p → ∃ cs, Blk w p 52 cs
  | .empty, _, h => ⟨_, h⟩
  | .cls _, _, h => ⟨_, h.2⟩
  | .cat _ _, _, ⟨_, _, _, _, _, _, e2⟩ => ⟨_, e2⟩
  | .alt _ _, _, ⟨_, _, _, _, _, _, e2⟩ => ⟨_, e2⟩
  | .star _, _, ⟨_, _, _, _, e2⟩ => ⟨_, e2⟩
  | .plus _, _, ⟨_, _, _, _, e2⟩ => ⟨_, e2⟩
  | .quest _, _, ⟨_, _, _, _, e2⟩ => ⟨_, e2⟩
theorem TreeIs.ptr {w : World} {t : Tr} {p : Nat} (h : TreeIs w t p) : PtrIs w (.pointer (some ⟨p, 0, none⟩)) := by
  obtain ⟨cs, hb⟩ := h.node
  exact .inr ⟨p, _, cs, rfl, hb⟩

theorem word_inj {v v' : Nat} (h : v < 2 ^ 256) (h' : v' < 2 ^ 256) (e0 : word v 0 = word v' 0) (e1 : word v 1 = word v' 1) (e2 : word v 2 = word v' 2) (e3 : word v 3 = word v' 3) : v = v' := by
  apply Nat.eq_of_testBit_eq
  intro k
  by_cases hk : k < 256
  · have key : ∀ i, word v i = word v' i → i = k / 64 → v.testBit k = v'.testBit k := by
      intro i hi e
      have h1 := testBit_word v i (k % 64)
      have h2 := testBit_word v' i (k % 64)
      have hm : k % 64 < 64 := Nat.mod_lt _ (by omega)
      rw [show 64 * i + k % 64 = k by omega] at h1 h2
      simp only [hm, decide_true, Bool.true_and] at h1 h2
      rw [← h1, ← h2, hi]
    have : k / 64 = 0 ∨ k / 64 = 1 ∨ k / 64 = 2 ∨ k / 64 = 3 := by omega
    rcases this with e | e | e | e
    · exact key 0 e0 e.symm
    · exact key 1 e1 e.symm
    · exact key 2 e2 e.symm
    · exact key 3 e3 e.symm
  · have h3 : 2 ^ 256 ≤ 2 ^ k := Nat.pow_le_pow_right (by omega) (by omega)
    rw [Nat.testBit_lt_two_pow (Nat.lt_of_lt_of_le h h3), Nat.testBit_lt_two_pow (Nat.lt_of_lt_of_le h' h3)]
theorem Blk.one {w : World} {g : Nat} {t : TypeId} {cs cs' : Array Value} (h : Blk w g t cs) (h' : Blk w g t cs') : cs = cs' := by
  unfold Blk at h h'
  rw [h] at h'
  injection h' with h'
  injection h' with h' _
def kindOf : Tr → Int
  | .empty => 0
  | .cls _ => 1
  | .cat _ _ => 2
  | .alt _ _ => 3
  | .star _ => 4
  | .plus _ => 5
  | .quest _ => 6
theorem TreeIs.kind {w : World} : ∀ {t : Tr} {p : Nat}, TreeIs w t p → ∃ v ks, Blk w p 52 (nodeCells (kindOf t) v ks)
  | .empty, _, h => ⟨_, _, h⟩
  | .cls _, _, h => ⟨_, _, h.2⟩
  | .cat _ _, _, ⟨_, _, _, _, _, _, e2⟩ => ⟨_, _, e2⟩
  | .alt _ _, _, ⟨_, _, _, _, _, _, e2⟩ => ⟨_, _, e2⟩
  | .star _, _, ⟨_, _, _, _, e2⟩ => ⟨_, _, e2⟩
  | .plus _, _, ⟨_, _, _, _, e2⟩ => ⟨_, _, e2⟩
  | .quest _, _, ⟨_, _, _, _, e2⟩ => ⟨_, _, e2⟩
theorem TreeIs.kind_one {w : World} {t t' : Tr} {p : Nat} (h : TreeIs w t p) (h' : TreeIs w t' p) : kindOf t = kindOf t' := by
  obtain ⟨v, ks, hb⟩ := h.kind
  obtain ⟨v', ks', hb'⟩ := h'.kind
  have := hb.one hb'
  simp [nodeCells] at this
  exact this.1
theorem one_one {w : World} {kd : Int} {A A' : Nat → Prop} {p : Nat} (h : OneIs w kd A p) (h' : OneIs w kd A' p) : ∃ pa, A pa ∧ A' pa := by
  obtain ⟨k, pa, ha, hk, hp⟩ := h
  obtain ⟨k', pa', ha', hk', hp'⟩ := h'
  have e := hp.one hp'
  simp [nodeCells] at e
  subst e
  have e := hk.one hk'
  simp at e
  subst e
  exact ⟨pa, ha, ha'⟩
theorem two_one {w : World} {kd : Int} {A A' B B' : Nat → Prop} {p : Nat} (h : TwoIs w kd A B p) (h' : TwoIs w kd A' B' p) : ∃ pa pb, A pa ∧ A' pa ∧ B pb ∧ B' pb := by
  obtain ⟨k, pa, pb, ha, hb, hk, hp⟩ := h
  obtain ⟨k', pa', pb', ha', hb', hk', hp'⟩ := h'
  have e := hp.one hp'
  simp [nodeCells] at e
  subst e
  have e := hk.one hk'
  simp at e
  obtain ⟨rfl, rfl⟩ := e
  exact ⟨pa, pb, ha, ha', hb, hb'⟩
/-- One place holds one tree. -/
theorem TreeIs.one {w : World} : ∀ {t t' : Tr} {p : Nat}, TreeIs w t p → TreeIs w t' p → t = t'
  | .empty, t', p, h, h' => by
    have := h.kind_one h'
    cases t' <;> simp [kindOf] at this
    rfl
  | .cls v, t', p, h, h' => by
    have := h.kind_one h'
    cases t' with
    | cls v' =>
      have e := h.2.one h'.2
      simp [nodeCells] at e
      obtain ⟨e0, e1, e2, e3⟩ := e
      rw [word_inj h.1 h'.1 (by omega) (by omega) (by omega) (by omega)]
    | _ => simp [kindOf] at this
  | .cat a b, t', p, h, h' => by
    have := h.kind_one h'
    cases t' with
    | cat a' b' =>
      obtain ⟨pa, pb, h1, h2, h3, h4⟩ := two_one h h'
      rw [TreeIs.one h1 h2, TreeIs.one h3 h4]
    | _ => simp [kindOf] at this
  | .alt a b, t', p, h, h' => by
    have := h.kind_one h'
    cases t' with
    | alt a' b' =>
      obtain ⟨pa, pb, h1, h2, h3, h4⟩ := two_one h h'
      rw [TreeIs.one h1 h2, TreeIs.one h3 h4]
    | _ => simp [kindOf] at this
  | .star a, t', p, h, h' => by
    have := h.kind_one h'
    cases t' with
    | star a' =>
      obtain ⟨pa, h1, h2⟩ := one_one h h'
      rw [TreeIs.one h1 h2]
    | _ => simp [kindOf] at this
  | .plus a, t', p, h, h' => by
    have := h.kind_one h'
    cases t' with
    | plus a' =>
      obtain ⟨pa, h1, h2⟩ := one_one h h'
      rw [TreeIs.one h1 h2]
    | _ => simp [kindOf] at this
  | .quest a, t', p, h, h' => by
    have := h.kind_one h'
    cases t' with
    | quest a' =>
      obtain ⟨pa, h1, h2⟩ := one_one h h'
      rw [TreeIs.one h1 h2]
    | _ => simp [kindOf] at this

/-- The value v is a rest: the trees c, one behind the other. -/
def ChainIs (w : World) : List Tr → Value → Prop
  | [], v => v = .pointer none
  | t :: c, v => ∃ q p v', v = .pointer (some ⟨q, 0, none⟩) ∧ Blk w q 64 #[.pointer (some ⟨p, 0, none⟩), v'] ∧ TreeIs w t p ∧ ChainIs w c v'
theorem ChainIs.keep {w w' : World} (hk : Keeps w w') : ∀ {c : List Tr} {v : Value}, ChainIs w c v → ChainIs w' c v
  | [], _, h => h
  | _ :: _, _, ⟨q, p, v', h1, h2, h3, h4⟩ => ⟨q, p, v', h1, hk _ _ _ h2, h3.keep hk, ChainIs.keep hk h4⟩
theorem ChainIs.ptr {w : World} : ∀ {c : List Tr} {v : Value}, ChainIs w c v → PtrIs w v
  | [], _, h => .inl h
  | _ :: _, _, ⟨q, p, v', h1, h2, _, _⟩ => .inr ⟨q, _, _, h1, h2⟩

theorem ChainIs.one {w : World} : ∀ {c c' : List Tr} {v : Value}, ChainIs w c v → ChainIs w c' v → c = c'
  | [], [], _, _, _ => rfl
  | [], _ :: _, _, h, ⟨q, p, v', h1, _⟩ => by rw [show _ = Value.pointer none from h] at h1; cases h1
  | _ :: _, [], _, ⟨q, p, v', h1, _⟩, h => by rw [show _ = Value.pointer none from h] at h1; cases h1
  | t :: c, t' :: c', v, ⟨q, p, u, h1, h2, h3, h4⟩, ⟨q', p', u', h1', h2', h3', h4'⟩ => by
    subst h1
    simp at h1'
    subst h1'
    have e := h2.one h2'
    simp at e
    obtain ⟨rfl, rfl⟩ := e
    rw [h3.one h3', ChainIs.one h4 h4']

def RestEntry (w : World) (e : MapEntry) : Prop :=
  ∃ a b q, PtrIs w a ∧ PtrIs w b ∧ e.key = .agg #[a, b] ∧ e.val = .pointer (some ⟨q, 0, none⟩) ∧ Blk w q 64 #[a, b]
def StarEntry (w : World) (e : MapEntry) : Prop :=
  ∃ p q ks, e.key = .pointer (some ⟨p, 0, none⟩) ∧ e.val = .pointer (some ⟨q, 0, none⟩) ∧ Blk w p 52 (nodeCells 5 0 ks) ∧ Blk w q 52 (nodeCells 4 0 ks)
/-- What a run holds. -/
structure DMem (w : World) (R M1 M2 : Nat) : Prop where
  run : Blk w R 81 #[.map (some M1), .map (some M2)]
  m1 : ∃ es clock, w.heap[M1]? = some (.map es clock) ∧ ∀ e ∈ es.toList, RestEntry w e
  m2 : ∃ es clock, w.heap[M2]? = some (.map es clock) ∧ ∀ e ∈ es.toList, StarEntry w e
  ne : M1 ≠ M2

set_option maxHeartbeats 1000000 in
theorem nullable_calls : ∀ (t : Tr) (p : Nat) (w : World), TreeIs w t p →
    Calls Try.prog 26 #[.pointer (some ⟨p, 0, none⟩)] w fun e w' => e = .returned (.bool (null t)) ∧ w = w'
  | .empty, p, w, h => by
    have c0 : _ = some (Value.int .i64 0) := Blk.cell h 0
    go_enter Try.func26, Try.ntmps26
    go_wp2_with fail
    go_ret
    exact ⟨rfl, rfl⟩
  | .cls v, p, w, h => by
    have c0 : _ = some (Value.int .i64 1) := Blk.cell h.2 0
    go_enter Try.func26, Try.ntmps26
    go_wp2_with fail
    go_ret
    exact ⟨rfl, rfl⟩
  | .star a, p, w, ⟨_, _, _, _, h⟩ => by
    have c0 : _ = some (Value.int .i64 4) := Blk.cell h 0
    go_enter Try.func26, Try.ntmps26
    go_wp2_with fail
    go_ret
    exact ⟨rfl, rfl⟩
  | .quest a, p, w, ⟨_, _, _, _, h⟩ => by
    have c0 : _ = some (Value.int .i64 6) := Blk.cell h 0
    go_enter Try.func26, Try.ntmps26
    go_wp2_with fail
    go_ret
    exact ⟨rfl, rfl⟩
  | .plus a, p, w, ⟨k, pa, ha, hk, h⟩ => by
    have c0 : _ = some (Value.int .i64 5) := Blk.cell h 0
    have c5 : _ = some (Value.slice (some ⟨k, 0, none⟩) 1 1) := Blk.cell h 5
    have k0 : _ = some (Value.pointer (some ⟨pa, 0, none⟩)) := Blk.cell hk 0
    go_enter Try.func26, Try.ntmps26
    go_wp2_with fail
    refine (nullable_calls a pa w ha).mono ?_
    rintro e w1 ⟨rfl, rfl⟩
    go_wp2_with fail
    go_ret
    exact ⟨rfl, rfl⟩
  | .cat a b, p, w, ⟨k, pa, pb, ha, hb, hk, h⟩ => by
    have c0 : _ = some (Value.int .i64 2) := Blk.cell h 0
    have c5 : _ = some (Value.slice (some ⟨k, 0, none⟩) 2 2) := Blk.cell h 5
    have k0 : _ = some (Value.pointer (some ⟨pa, 0, none⟩)) := Blk.cell hk 0
    have k1 : _ = some (Value.pointer (some ⟨pb, 0, none⟩)) := Blk.cell hk 1
    obtain ⟨x, hx⟩ : ∃ x, null a = x := ⟨_, rfl⟩
    have HX := Lib.hid hx
    clear hx
    go_enter Try.func26, Try.ntmps26
    go_wp2_with fail
    refine (nullable_calls a pa w ha).mono ?_
    rintro e w1 ⟨rfl, rfl⟩
    rw [HX.out]
    cases x with
    | false =>
      go_wp2_with fail
      go_ret
      exact ⟨by rw [null, HX.out]; rfl, rfl⟩
    | true =>
      go_wp2_with fail
      refine (nullable_calls b pb w hb).mono ?_
      rintro e w1 ⟨rfl, rfl⟩
      go_wp2_with fail
      go_ret
      exact ⟨by rw [null, HX.out]; rfl, rfl⟩
  | .alt a b, p, w, ⟨k, pa, pb, ha, hb, hk, h⟩ => by
    have c0 : _ = some (Value.int .i64 3) := Blk.cell h 0
    have c5 : _ = some (Value.slice (some ⟨k, 0, none⟩) 2 2) := Blk.cell h 5
    have k0 : _ = some (Value.pointer (some ⟨pa, 0, none⟩)) := Blk.cell hk 0
    have k1 : _ = some (Value.pointer (some ⟨pb, 0, none⟩)) := Blk.cell hk 1
    obtain ⟨x, hx⟩ : ∃ x, null a = x := ⟨_, rfl⟩
    have HX := Lib.hid hx
    clear hx
    go_enter Try.func26, Try.ntmps26
    go_wp2_with fail
    refine (nullable_calls a pa w ha).mono ?_
    rintro e w1 ⟨rfl, rfl⟩
    rw [HX.out]
    cases x with
    | true =>
      go_wp2_with fail
      go_ret
      exact ⟨by rw [null, HX.out]; rfl, rfl⟩
    | false =>
      go_wp2_with fail
      refine (nullable_calls b pb w hb).mono ?_
      rintro e w1 ⟨rfl, rfl⟩
      go_wp2_with fail
      go_ret
      exact ⟨by rw [null, HX.out]; rfl, rfl⟩
end Go.Proofs.Ytlmnincllndpnaa
