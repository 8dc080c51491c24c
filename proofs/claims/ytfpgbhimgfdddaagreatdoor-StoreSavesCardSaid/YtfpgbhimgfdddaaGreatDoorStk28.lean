/- Merged (what the claim wants of): StoWalksD, StoWalksE. -/
import Derived.Test.YtfpgbhimgfdddaaGreatDoorStk27
import Derived.Test.YtfpgbhimgfdddaaGreatDoorStk02
set_option linter.unusedVariables false
set_option linter.unusedSimpArgs false
/- The walks of layer 20 (store): the list of a manifest's numbers. -/
namespace Go.Proofs.YtfpgbhimgfdddaaGreatDoor
open Go.RowKit Go.Shelf Go.Sort
attribute [local go_sem ↓] Go.wp_at_zero Go.wp_at_succ
attribute [local go_sem] Later.cell Later.frozen

theorem run_loadVar_one (w : World) (a : Addr) (ty : TypeId) (v : Value) (d : TypeDesc) (hu : Tryz.prog.underlying ty = some d) (hd : (match d with | .struct _ | .array _ _ => true | _ => false) = false) (hv : w.cell? a = some v) :
    (loadVar ty a).run Tryz.prog w = .ok v w := by
  have hagg : (isAgg ty).run Tryz.prog w = .ok false w := by
    unfold isAgg
    rw [Sem.run_bind, run_underlying hu w]
    cases d <;> simp_all
  simp [loadVar, Sem.run_bind, hagg, load, Sem.run, hv]
theorem results_cells3 {fn : Func} {p q r : Tmp} {t u v : TypeId} (h : fn.results = #[.cell p t, .cell q u, .cell r v]) (tmps : Array Value) (w : World) (a b c : Addr) (x y z : Value)
    (hp : tmps.getD p undef = .pointer (some a)) (hq : tmps.getD q undef = .pointer (some b)) (hr : tmps.getD r undef = .pointer (some c))
    (hx : (loadVar t a).run Tryz.prog w = .ok x w) (hy : (loadVar u b).run Tryz.prog w = .ok y w) (hz : (loadVar v c).run Tryz.prog w = .ok z w) :
    (results fn tmps).run Tryz.prog w = .ok (.tuple #[x, y, z]) w := by
  have hp' : tmps[p]?.getD undef = .pointer (some a) := by simpa using hp
  have hq' : tmps[q]?.getD undef = .pointer (some b) := by simpa using hq
  have hr' : tmps[r]?.getD undef = .pointer (some c) := by simpa using hr
  simp only [results, h]
  simp [Sem.run_bind, Result.andThen, asAddr, hp', hq', hr', hx, hy, hz]
def ptrV (m k : Nat) : Value := .pointer (some ⟨m, k, none⟩)
def P3 (m i : Nat) : List Value := (List.range i).flatMap fun k => [ptrV m k, ptrV m (7 + k), ptrV m (10 + k)]
def L3 (i : Nat) : List Value := (List.range i).flatMap fun _ => [Value.int .i64 1, .int .i64 0, .int .i64 0]
def G3 (i : Nat) : List Value := (List.range i).flatMap fun _ => [Value.int .i64 1099511627776, .int .i64 1125899906842625, .int .i64 1125899906842625]
theorem P3_succ (m i : Nat) : P3 m (i + 1) = ((P3 m i ++ [ptrV m i]) ++ [ptrV m (7 + i)]) ++ [ptrV m (10 + i)] := by simp [P3, List.range_succ]
theorem L3_succ (i : Nat) : L3 (i + 1) = ((L3 i ++ [.int .i64 1]) ++ [.int .i64 0]) ++ [.int .i64 0] := by simp [L3, List.range_succ]
theorem G3_succ (i : Nat) : G3 (i + 1) = ((G3 i ++ [.int .i64 1099511627776]) ++ [.int .i64 1125899906842625]) ++ [.int .i64 1125899906842625] := by simp [G3, List.range_succ]
/-- The ten pointers, the ten least and the ten greatest numbers. -/
def tenP (m : Nat) : List Value := P3 m 3 ++ [ptrV m 6]
def tenL : List Value := L3 3 ++ [.int .i64 0]
def tenG : List Value := G3 3 ++ [.int .i64 1125899906842625]
def NumsOut (m : Nat) (w : World) (e : Ending) (w' : World) : Prop :=
  ∃ g0 c0 g1 c1 g2 c2, e = .returned (.tuple #[.slice (some ⟨g0, 0, none⟩) 10 c0, .slice (some ⟨g1, 0, none⟩) 10 c1, .slice (some ⟨g2, 0, none⟩) 10 c2]) ∧
    w'.ownsRow w.heap.size 114 1 (.slice (some ⟨g0, 0, none⟩) 10 c0) 10 (tenP m) ∧ w'.ownsRow w.heap.size 2 1 (.slice (some ⟨g1, 0, none⟩) 10 c1) 10 tenL ∧ w'.ownsRow w.heap.size 2 1 (.slice (some ⟨g2, 0, none⟩) 10 c2) 10 tenG ∧ Below w.heap.size w w'
set_option maxRecDepth 100000 in
set_option maxHeartbeats 4000000 in
theorem numbers_calls (m : Nat) (w : World) :
    Calls Tryz.prog 49 #[.pointer (some ⟨m, 0, none⟩)] w (NumsOut m w) := by
  go_enter Tryz.func49, Tryz.ntmps49
  go_upto_block 0 with fail
  obtain ⟨W, hW⟩ : ∃ x, ((w.alloc (.cells #[.slice none 0 0] 111)).alloc (.cells #[.slice none 0 0] 107)).alloc (.cells #[.slice none 0 0] 107) = x := ⟨_, rfl⟩
  have hbW : Below w.heap.size w W := by rw [← hW]; exact (((Below.refl _ _).alloc (Nat.le_refl _) _).alloc (by simp) _).alloc (by simp; omega) _
  have hnum : Num3 W w.heap.size 0 [] [] [] := by
    rw [← hW]
    refine ⟨_, _, _, ((Blk.new _ _ _).alloc _).alloc _, (Blk.newAt (by simp)).alloc _, Blk.newAt (by simp), World.ownsRow_nil _ _ _ _, World.ownsRow_nil _ _ _ _, World.ownsRow_nil _ _ _ _, fun x e => (by cases e), fun x e => (by cases e)⟩
  rw [hW]
  obtain ⟨b0, hb0⟩ : ∃ b, w.heap.size = b := ⟨_, rfl⟩
  have HB0 := Lib.hid hb0
  rw [hb0] at hbW hnum ⊢
  clear hW hb0
  go_cut [] (fun wz => Num3 wz b0 9 (P3 m 3) (L3 3) (G3 3) ∧ Below b0 w wz)
  case first =>
    go_wp2_with fail
    go_loopg [8] 3 (fun g s8 wr => ∃ i : Nat, i + g = 3 ∧ s8 = .int .i64 (i : Int) ∧ Num3 wr b0 (3 * i) (P3 m i) (L3 i) (G3 i) ∧ Below b0 w wr)
    case atStart => exact ⟨0, rfl, rfl, hnum, hbW⟩
    case round =>
      obtain ⟨i, hig, rfl, hn, hb⟩ := hrel
      have HIG := Lib.hid hig
      have HN := Lib.hid hn
      have HB := Lib.hid hb
      clear hig hn hb hnum hbW
      by_cases hi : i < 3
      · have el : decide ((i : Int) < 3) = true := by simp; omega
        have e0 : (i : Int) < 3 := by omega
        have e1 : (0 : Int) ≤ (i : Int) := by omega
        go_wp2_with fail
        refine (one_calls b0 (3 * i) _ _ _ _ _ _ _ HN.out (by omega)).mono ?_
        rintro e w1 ⟨rfl, hn1, hb1⟩
        have HN1 := Lib.hid hn1
        have HB1 := Lib.hid (HB.out.trans hb1)
        clear hn1 hb1
        go_wp2_with fail
        refine (one_calls b0 (3 * i + 1) _ _ _ _ _ _ _ HN1.out (by omega)).mono ?_
        rintro e w2 ⟨rfl, hn2, hb2⟩
        have HN2 := Lib.hid hn2
        have HB2 := Lib.hid (HB1.out.trans hb2)
        clear hn2 hb2
        go_wp2_with fail
        refine (one_calls b0 (3 * i + 1 + 1) _ _ _ _ _ _ _ HN2.out (by omega)).mono ?_
        rintro e w3 ⟨rfl, hn3, hb3⟩
        have HN3 := Lib.hid hn3
        have HB3 := Lib.hid (HB2.out.trans hb3)
        clear hn3 hb3
        go_wp2_with fail
        go_roundg (gk - 1)
        case measure => have := HIG.out; omega
        case rel => exact ⟨i + 1, by have := HIG.out; omega, by go_num, by rw [P3_succ, L3_succ, G3_succ, show 3 * (i + 1) = 3 * i + 1 + 1 + 1 by omega]; exact HN3.out, HB3.out⟩
      · have el : decide ((i : Int) < 3) = false := by simp; omega
        have hi3 : i = 3 := by have := HIG.out; omega
        subst hi3
        go_wp2_with fail
        go_meet
        exact ⟨HN.out, HB.out⟩
  case rest =>
    obtain ⟨hn, hb⟩ := hcut
    obtain ⟨w3, rfl⟩ : ∃ x, x = wc := ⟨_, rfl⟩
    have HN := Lib.hid hn
    have HB := Lib.hid hb
    clear hn hb hnum hbW
    go_wp2_with fail
    refine (one_calls b0 9 _ _ _ _ _ _ _ HN.out (by omega)).mono ?_
    rintro e w4 ⟨rfl, hn4, hb4⟩
    obtain ⟨vo, vl, vg, k0, k1, k2, ho, hl, hg, hd, hd2⟩ := hn4.ex
    obtain ⟨g0, e0, rfl⟩ := own_shape ho
    obtain ⟨g1, e1, rfl⟩ := own_shape hl
    obtain ⟨g2, e2, rfl⟩ := own_shape hg
    have m0 := k0.cell 0
    have m1 := k1.cell 0
    have m2 := k2.cell 0
    have z0 := k0.frozen 0
    have z1 := k1.frozen 0
    have z2 := k2.frozen 0
    have HB4 := Lib.hid (HB.out.trans hb4)
    have HR := Lib.hid (⟨k0, k1, k2, ho, hl, hg⟩ : Blk w4 b0 111 #[.slice (some ⟨g0, 0, none⟩) (9 + 1) e0] ∧ Blk w4 (b0 + 1) 107 #[.slice (some ⟨g1, 0, none⟩) (9 + 1) e1] ∧ Blk w4 (b0 + 2) 107 #[.slice (some ⟨g2, 0, none⟩) (9 + 1) e2] ∧ _ ∧ _ ∧ _)
    clear k0 k1 k2 ho hl hg hd hd2 hn4 hb4
    go_upto_region 10 with fail
    go_region
    go_wp2_with fail
    obtain ⟨k0, k1, k2, ho, hl, hg⟩ := HR.out
    have K0 := (((k0.set_ 0 (.slice (some ⟨g0, 0, none⟩) 10 e0)).far (p := ⟨b0 + 1, 0, none⟩) (by simp <;> omega) (.slice (some ⟨g1, 0, none⟩) 10 e1)).far (p := ⟨b0 + 1 + 1, 0, none⟩) (by simp <;> omega) (.slice (some ⟨g2, 0, none⟩) 10 e2)).drew
    have K1 := (((k1.far (p := ⟨b0, 0, none⟩) (by simp <;> omega) (.slice (some ⟨g0, 0, none⟩) 10 e0)).set_ 0 (.slice (some ⟨g1, 0, none⟩) 10 e1)).far (p := ⟨b0 + 1 + 1, 0, none⟩) (by simp <;> omega) (.slice (some ⟨g2, 0, none⟩) 10 e2)).drew
    have K2 := (((k2.far (p := ⟨b0, 0, none⟩) (by simp <;> omega) (.slice (some ⟨g0, 0, none⟩) 10 e0)).far (p := ⟨b0 + 1, 0, none⟩) (by simp <;> omega) (.slice (some ⟨g1, 0, none⟩) 10 e1)).set_ 0 (.slice (some ⟨g2, 0, none⟩) 10 e2)).drew
    have hB5 := (((HB4.out.setCell (p := ⟨b0, 0, none⟩) (Nat.le_refl _) (.slice (some ⟨g0, 0, none⟩) 10 e0)).setCell (p := ⟨b0 + 1, 0, none⟩) (by simp) (.slice (some ⟨g1, 0, none⟩) 10 e1)).setCell (p := ⟨b0 + 1 + 1, 0, none⟩) (by simp; omega) (.slice (some ⟨g2, 0, none⟩) 10 e2)).drew
    have same : ∀ k, b0 + 3 ≤ k → ((((w4.setCell ⟨b0, 0, none⟩ (.slice (some ⟨g0, 0, none⟩) 10 e0)).setCell ⟨b0 + 1, 0, none⟩ (.slice (some ⟨g1, 0, none⟩) 10 e1)).setCell ⟨b0 + 1 + 1, 0, none⟩ (.slice (some ⟨g2, 0, none⟩) 10 e2)).drew).heap[k]? = w4.heap[k]? := fun k hk =>
      ((Below.heap_setCell _ _ _ k (by simp; omega)).trans (Below.heap_setCell _ _ _ k (by simp; omega))).trans (Below.heap_setCell _ _ _ k (by simp; omega))
    have row : ∀ {T : TypeId} {v : Value} {xs : List Value}, w4.ownsRow (b0 + 3) T 1 v (9 + 1) xs → ((((w4.setCell ⟨b0, 0, none⟩ (.slice (some ⟨g0, 0, none⟩) 10 e0)).setCell ⟨b0 + 1, 0, none⟩ (.slice (some ⟨g1, 0, none⟩) 10 e1)).setCell ⟨b0 + 1 + 1, 0, none⟩ (.slice (some ⟨g2, 0, none⟩) 10 e2)).drew).ownsRow b0 T 1 v 10 xs := fun h =>
      (ownsRow.same h fun k hk => same k (World.ownsRow.lt h k hk).1).mono (by omega)
    refine bodyPost_ret (results_cells3 rfl _ _ _ _ _ _ _ _ rfl rfl rfl (run_loadVar_one _ _ _ _ _ rfl rfl (K0.cell 0)) (run_loadVar_one _ _ _ _ _ rfl rfl (K1.cell 0)) (run_loadVar_one _ _ _ _ _ rfl rfl (K2.cell 0))) rfl ?_
    have hw := HB0.out
    refine ⟨g0, e0, g1, e1, g2, e2, rfl, ?_, ?_, ?_, ?_⟩
    · rw [hw]; exact row ho
    · rw [hw]; exact row hl
    · rw [hw]; exact row hg
    · rw [hw]; exact hB5
end Go.Proofs.YtfpgbhimgfdddaaGreatDoor

/- The walks of layer 20 (store): may a manifest be written? -/
namespace Go.Proofs.YtfpgbhimgfdddaaGreatDoor
open Go.RowKit Go.Shelf Go.Sort
attribute [local go_sem ↓] Go.wp_at_zero Go.wp_at_succ
attribute [local go_sem] Later.cell Later.frozen

def encInf (x : Inf) : List Value := [.int .i64 x.id, .int .i64 x.res, .int .i64 x.frm, .int .i64 x.to_, .int .i64 x.bytes]
def Infs (w : World) (A : Option Addr) (n : Nat) (l : List Inf) : Prop := Elems w w.heap.size 5 encInf A n l
theorem Infs.at_ {w : World} {A : Option Addr} {n : Nat} {l : List Inf} (h : Infs w A n l) {i : Nat} (hi : i < n) : ∃ b off, A = some ⟨b, off, none⟩ ∧ b < w.heap.size ∧ ∀ j u, (encInf l[i]!)[j]? = some u → w.cell? ⟨b, off + i * 5 + j, none⟩ = some u := by
  obtain ⟨b, off, e, hb, hc⟩ := h.2 (by omega)
  have hl : i < l.length := by have : l.length = n := Elems.len h; omega
  have hx := hc i l[i]! (by rw [getElem!_pos l i hl, List.getElem?_eq_getElem hl])
  exact ⟨b, off, e, hb, fun j u hu => by simpa using hx j _ hu⟩
theorem Infs.below {w w' : World} {A : Option Addr} {n : Nat} {l : List Inf} (h : Infs w A n l) (hb : Below w.heap.size w w') : Infs w' A n l := (Elems.below h hb).more hb.size
theorem Infs.of_own {w : World} {base : Nat} {v : Value} {n : Nat} {l : List Inf} (h : w.ownsRow base 116 5 v n (l.flatMap encInf)) (hn : l.length = n) : ∃ A c, v = .slice A n c ∧ Infs w A n l ∧ (∀ a, A = some a → base ≤ a.block) ∧ n ≤ c :=
  Elems.of_own (enc := encInf) (xs := l) (fun _ _ => rfl) rfl h hn
/-- A manifest's cells. -/
def manV (m : Man) (v : Value) : Array Value :=
  #[.int .i64 m.w0, .int .i64 m.w1, .int .i64 m.w2, .int .i64 m.next, .int .i64 m.log, v, .int .i64 m.cut, .int .i64 m.r0, .int .i64 m.r1, .int .i64 m.r2, .int .i64 m.l0, .int .i64 m.l1, .int .i64 m.l2]
def tenK (i : Nat) : Nat := #[0, 7, 10, 1, 8, 11, 2, 9, 12, 6].getD i 0
def loI (i : Nat) : Int := #[1, 0, 0, 1, 0, 0, 1, 0, 0, 0].getD i 0
def hiI (i : Nat) : Int := #[1099511627776, 1125899906842625, 1125899906842625, 1099511627776, 1125899906842625, 1125899906842625, 1099511627776, 1125899906842625, 1125899906842625, 1125899906842625].getD i 0
def tenI (m : Man) (i : Nat) : Int := m.tens.getD i 0
theorem ten_facts (m : Man) (v : Value) (b : Nat) : ∀ i, i < 10 → (tenP b)[i]? = some (ptrV b (tenK i)) ∧ (manV m v)[tenK i]? = some (.int .i64 (tenI m i)) ∧ tenL[i]? = some (.int .i64 (loI i)) ∧ tenG[i]? = some (.int .i64 (hiI i))
  | 0, _ => ⟨rfl, rfl, rfl, rfl⟩ | 1, _ => ⟨rfl, rfl, rfl, rfl⟩ | 2, _ => ⟨rfl, rfl, rfl, rfl⟩ | 3, _ => ⟨rfl, rfl, rfl, rfl⟩ | 4, _ => ⟨rfl, rfl, rfl, rfl⟩
  | 5, _ => ⟨rfl, rfl, rfl, rfl⟩ | 6, _ => ⟨rfl, rfl, rfl, rfl⟩ | 7, _ => ⟨rfl, rfl, rfl, rfl⟩ | 8, _ => ⟨rfl, rfl, rfl, rfl⟩ | 9, _ => ⟨rfl, rfl, rfl, rfl⟩
  | i + 10, h => absurd h (by omega)
def Good (next : Int) (l : List Inf) (j : Nat) : Prop := infB next l[j]! = true ∧ (0 < j → l[j - 1]!.id < l[j]!.id)
def TenOk (m : Man) (j : Nat) : Prop := loI j ≤ tenI m j ∧ tenI m j ≤ hiI j
theorem riseB_iff : ∀ l : List Inf, riseB l = true ↔ ∀ j, j < l.length → 0 < j → l[j - 1]!.id < l[j]!.id
  | [] => by simp [riseB]
  | [x] => by
    simp only [riseB, true_iff, List.length_singleton]
    intro j h1 h2
    omega
  | x :: y :: l => by
    have ih := riseB_iff (y :: l)
    simp only [riseB, Bool.and_eq_true, decide_eq_true_eq]
    rw [ih]
    constructor
    · rintro ⟨h1, h2⟩ j hj hp
      match j, hj, hp with
      | 1, _, _ => exact h1
      | j + 2, hj, _ =>
        have := h2 (j + 1) (by simpa using hj) (by omega)
        simpa using this
    · intro h
      refine ⟨by simpa using h 1 (by simp) (by omega), fun j hj hp => ?_⟩
      obtain ⟨k, rfl⟩ : ∃ k, j = k + 1 := ⟨j - 1, by omega⟩
      have := h (k + 2) (by simpa using hj) (by omega)
      simpa using this
theorem fit_iff (m : Man) : m.fit = true ↔ (∀ j, j < 10 → TenOk m j) ∧ (∀ j, j < m.blocks.length → Good m.next m.blocks j) ∧ 1 ≤ m.next ∧ m.next ≤ 99999999 ∧ 1 ≤ m.log ∧ m.log ≤ 99999999 := by
  have ht : (∀ j, j < 10 → TenOk m j) ↔ (TenOk m 0 ∧ TenOk m 1 ∧ TenOk m 2 ∧ TenOk m 3 ∧ TenOk m 4 ∧ TenOk m 5 ∧ TenOk m 6 ∧ TenOk m 7 ∧ TenOk m 8 ∧ TenOk m 9) := by
    constructor
    · intro h
      exact ⟨h 0 (by omega), h 1 (by omega), h 2 (by omega), h 3 (by omega), h 4 (by omega), h 5 (by omega), h 6 (by omega), h 7 (by omega), h 8 (by omega), h 9 (by omega)⟩
    · rintro ⟨h0, h1, h2, h3, h4, h5, h6, h7, h8, h9⟩ j hj
      match j, hj with
      | 0, _ => exact h0
      | 1, _ => exact h1
      | 2, _ => exact h2
      | 3, _ => exact h3
      | 4, _ => exact h4
      | 5, _ => exact h5
      | 6, _ => exact h6
      | 7, _ => exact h7
      | 8, _ => exact h8
      | 9, _ => exact h9
      | j + 10, hj => exact absurd hj (by omega)
  have hb : (∀ j, j < m.blocks.length → Good m.next m.blocks j) ↔ (m.blocks.all (infB m.next) = true ∧ riseB m.blocks = true) := by
    rw [riseB_iff]
    unfold Good
    constructor
    · intro h
      refine ⟨?_, fun j hj => (h j hj).2⟩
      rw [List.all_eq_true]
      intro x hx
      obtain ⟨j, hj, rfl⟩ := List.getElem_of_mem hx
      have := (h j hj).1
      rwa [getElem!_pos m.blocks j hj] at this
    · rintro ⟨h1, h2⟩ j hj
      rw [List.all_eq_true] at h1
      refine ⟨?_, h2 j hj⟩
      rw [getElem!_pos m.blocks j hj]
      exact h1 _ (List.getElem_mem hj)
  rw [ht, hb]
  unfold Man.fit
  simp only [Bool.and_eq_true]
  simp only [TenOk, widthB, timeB, loI, hiI, tenI, Man.tens, Bool.and_eq_true, decide_eq_true_eq]
  constructor
  · rintro ⟨⟨⟨⟨⟨⟨⟨⟨⟨⟨⟨⟨⟨⟨⟨h1, h2⟩, h3⟩, h4⟩, h5⟩, h6⟩, h7⟩, h8⟩, h9⟩, h10⟩, h11⟩, h12⟩, h13⟩, h14⟩, h15⟩, h16⟩
    exact ⟨⟨h1, h4, h7, h2, h5, h8, h3, h6, h9, h10⟩, ⟨h15, h16⟩, h11, h12, h13, h14⟩
  · rintro ⟨⟨h1, h4, h7, h2, h5, h8, h3, h6, h9, h10⟩, ⟨h15, h16⟩, h11, h12, h13, h14⟩
    exact ⟨⟨⟨⟨⟨⟨⟨⟨⟨⟨⟨⟨⟨⟨⟨h1, h2⟩, h3⟩, h4⟩, h5⟩, h6⟩, h7⟩, h8⟩, h9⟩, h10⟩, h11⟩, h12⟩, h13⟩, h14⟩, h15⟩, h16⟩
/-- What fit keeps in its hands. -/
structure FitAt (w : World) (m : Man) (A : Option Addr) (c : Nat) (g0 c0 g1 c1 g2 c2 : Nat) (wr : World) : Prop where
  below : Below w.heap.size w wr
  blk : Blk wr w.heap.size 25 (manV m (.slice A m.blocks.length c))
  o0 : wr.ownsRow (w.heap.size + 1) 114 1 (.slice (some ⟨g0, 0, none⟩) 10 c0) 10 (tenP w.heap.size)
  o1 : wr.ownsRow (w.heap.size + 1) 2 1 (.slice (some ⟨g1, 0, none⟩) 10 c1) 10 tenL
  o2 : wr.ownsRow (w.heap.size + 1) 2 1 (.slice (some ⟨g2, 0, none⟩) 10 c2) 10 tenG
theorem FitAt.drew {w : World} {m : Man} {A : Option Addr} {c g0 c0 g1 c1 g2 c2 : Nat} {wr : World} (h : FitAt w m A c g0 c0 g1 c1 g2 c2 wr) : FitAt w m A c g0 c0 g1 c1 g2 c2 wr.drew :=
  ⟨h.below.drew, h.blk.drew, h.o0.drew, h.o1.drew, h.o2.drew⟩
theorem FitAt.alloc {w : World} {m : Man} {A : Option Addr} {c g0 c0 g1 c1 g2 c2 : Nat} {wr : World} (h : FitAt w m A c g0 c0 g1 c1 g2 c2 wr) (o : Obj) : FitAt w m A c g0 c0 g1 c1 g2 c2 (wr.alloc o) :=
  ⟨h.below.alloc h.below.size _, h.blk.alloc _, h.o0.alloc _, h.o1.alloc _, h.o2.alloc _⟩
end Go.Proofs.YtfpgbhimgfdddaaGreatDoor
