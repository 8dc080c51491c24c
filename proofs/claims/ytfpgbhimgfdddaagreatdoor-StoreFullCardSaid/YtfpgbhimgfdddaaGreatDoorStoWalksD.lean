/- The walks of layer 20 (store): the list of a manifest's numbers. -/
import Derived.Test.YtfpgbhimgfdddaaGreatDoorStoWalksC
set_option linter.unusedVariables false
set_option linter.unusedSimpArgs false
namespace Go.Proofs.YtfpgbhimgfdddaaGreatDoor
open Go.RowKit Go.Shelf Go.Sort
attribute [local go_sem ↓] Go.wp_at_zero Go.wp_at_succ
attribute [local go_sem] Later.cell Later.frozen

theorem run_loadVar_one (w : World) (a : Addr) (ty : TypeId) (v : Value) (d : TypeDesc) (hu : Tryz.prog.underlying ty = some d) (hd : (match d with | .struct _ | .array _ _ => true | _ => false) = false) (hv : w.cell? a = some v) :
    (loadVar ty a).run Tryz.prog w = .ok v w := by
  have hagg : (isAgg ty).run Tryz.prog w = .ok false w := by
    unfold isAgg
    rw [Sem.run_bind, run_underlying hu w]
    cases d <;> simp_all
  simp [loadVar, Sem.run_bind, hagg, load, Sem.run, hv]
theorem results_cells3 {fn : Func} {p q r : Tmp} {t u v : TypeId} (h : fn.results = #[.cell p t, .cell q u, .cell r v]) (tmps : Array Value) (w : World) (a b c : Addr) (x y z : Value)
    (hp : tmps.getD p undef = .pointer (some a)) (hq : tmps.getD q undef = .pointer (some b)) (hr : tmps.getD r undef = .pointer (some c))
    (hx : (loadVar t a).run Tryz.prog w = .ok x w) (hy : (loadVar u b).run Tryz.prog w = .ok y w) (hz : (loadVar v c).run Tryz.prog w = .ok z w) :
    (results fn tmps).run Tryz.prog w = .ok (.tuple #[x, y, z]) w := by
  have hp' : tmps[p]?.getD undef = .pointer (some a) := by simpa using hp
  have hq' : tmps[q]?.getD undef = .pointer (some b) := by simpa using hq
  have hr' : tmps[r]?.getD undef = .pointer (some c) := by simpa using hr
  simp only [results, h]
  simp [Sem.run_bind, Result.andThen, asAddr, hp', hq', hr', hx, hy, hz]
def ptrV (m k : Nat) : Value := .pointer (some ⟨m, k, none⟩)
def P3 (m i : Nat) : List Value := (List.range i).flatMap fun k => [ptrV m k, ptrV m (7 + k), ptrV m (10 + k)]
def L3 (i : Nat) : List Value := (List.range i).flatMap fun _ => [Value.int .i64 1, .int .i64 0, .int .i64 0]
def G3 (i : Nat) : List Value := (List.range i).flatMap fun _ => [Value.int .i64 1099511627776, .int .i64 1125899906842625, .int .i64 1125899906842625]
theorem P3_succ (m i : Nat) : P3 m (i + 1) = ((P3 m i ++ [ptrV m i]) ++ [ptrV m (7 + i)]) ++ [ptrV m (10 + i)] := by simp [P3, List.range_succ]
theorem L3_succ (i : Nat) : L3 (i + 1) = ((L3 i ++ [.int .i64 1]) ++ [.int .i64 0]) ++ [.int .i64 0] := by simp [L3, List.range_succ]
theorem G3_succ (i : Nat) : G3 (i + 1) = ((G3 i ++ [.int .i64 1099511627776]) ++ [.int .i64 1125899906842625]) ++ [.int .i64 1125899906842625] := by simp [G3, List.range_succ]
/-- The ten pointers, the ten least and the ten greatest numbers. -/
def tenP (m : Nat) : List Value := P3 m 3 ++ [ptrV m 6]
def tenL : List Value := L3 3 ++ [.int .i64 0]
def tenG : List Value := G3 3 ++ [.int .i64 1125899906842625]
def NumsOut (m : Nat) (w : World) (e : Ending) (w' : World) : Prop :=
  ∃ g0 c0 g1 c1 g2 c2, e = .returned (.tuple #[.slice (some ⟨g0, 0, none⟩) 10 c0, .slice (some ⟨g1, 0, none⟩) 10 c1, .slice (some ⟨g2, 0, none⟩) 10 c2]) ∧
    w'.ownsRow w.heap.size 114 1 (.slice (some ⟨g0, 0, none⟩) 10 c0) 10 (tenP m) ∧ w'.ownsRow w.heap.size 2 1 (.slice (some ⟨g1, 0, none⟩) 10 c1) 10 tenL ∧ w'.ownsRow w.heap.size 2 1 (.slice (some ⟨g2, 0, none⟩) 10 c2) 10 tenG ∧ Below w.heap.size w w'
set_option maxRecDepth 100000 in
set_option maxHeartbeats 4000000 in
theorem numbers_calls (m : Nat) (w : World) :
    Calls Tryz.prog 49 #[.pointer (some ⟨m, 0, none⟩)] w (NumsOut m w) := by
  go_enter Tryz.func49, Tryz.ntmps49
  go_upto_block 0 with fail
  obtain ⟨W, hW⟩ : ∃ x, ((w.alloc (.cells #[.slice none 0 0] 111)).alloc (.cells #[.slice none 0 0] 107)).alloc (.cells #[.slice none 0 0] 107) = x := ⟨_, rfl⟩
  have hbW : Below w.heap.size w W := by rw [← hW]; exact (((Below.refl _ _).alloc (Nat.le_refl _) _).alloc (by simp) _).alloc (by simp; omega) _
  have hnum : Num3 W w.heap.size 0 [] [] [] := by
    rw [← hW]
    refine ⟨_, _, _, ((Blk.new _ _ _).alloc _).alloc _, (Blk.newAt (by simp)).alloc _, Blk.newAt (by simp), World.ownsRow_nil _ _ _ _, World.ownsRow_nil _ _ _ _, World.ownsRow_nil _ _ _ _, fun x e => (by cases e), fun x e => (by cases e)⟩
  rw [hW]
  obtain ⟨b0, hb0⟩ : ∃ b, w.heap.size = b := ⟨_, rfl⟩
  have HB0 := Lib.hid hb0
  rw [hb0] at hbW hnum ⊢
  clear hW hb0
  go_cut [] (fun wz => Num3 wz b0 9 (P3 m 3) (L3 3) (G3 3) ∧ Below b0 w wz)
  case first =>
    go_wp2_with fail
    go_loopg [8] 3 (fun g s8 wr => ∃ i : Nat, i + g = 3 ∧ s8 = .int .i64 (i : Int) ∧ Num3 wr b0 (3 * i) (P3 m i) (L3 i) (G3 i) ∧ Below b0 w wr)
    case atStart => exact ⟨0, rfl, rfl, hnum, hbW⟩
    case round =>
      obtain ⟨i, hig, rfl, hn, hb⟩ := hrel
      have HIG := Lib.hid hig
      have HN := Lib.hid hn
      have HB := Lib.hid hb
      clear hig hn hb hnum hbW
      by_cases hi : i < 3
      · have el : decide ((i : Int) < 3) = true := by simp; omega
        have e0 : (i : Int) < 3 := by omega
        have e1 : (0 : Int) ≤ (i : Int) := by omega
        go_wp2_with fail
        refine (one_calls b0 (3 * i) _ _ _ _ _ _ _ HN.out (by omega)).mono ?_
        rintro e w1 ⟨rfl, hn1, hb1⟩
        have HN1 := Lib.hid hn1
        have HB1 := Lib.hid (HB.out.trans hb1)
        clear hn1 hb1
        go_wp2_with fail
        refine (one_calls b0 (3 * i + 1) _ _ _ _ _ _ _ HN1.out (by omega)).mono ?_
        rintro e w2 ⟨rfl, hn2, hb2⟩
        have HN2 := Lib.hid hn2
        have HB2 := Lib.hid (HB1.out.trans hb2)
        clear hn2 hb2
        go_wp2_with fail
        refine (one_calls b0 (3 * i + 1 + 1) _ _ _ _ _ _ _ HN2.out (by omega)).mono ?_
        rintro e w3 ⟨rfl, hn3, hb3⟩
        have HN3 := Lib.hid hn3
        have HB3 := Lib.hid (HB2.out.trans hb3)
        clear hn3 hb3
        go_wp2_with fail
        go_roundg (gk - 1)
        case measure => have := HIG.out; omega
        case rel => exact ⟨i + 1, by have := HIG.out; omega, by go_num, by rw [P3_succ, L3_succ, G3_succ, show 3 * (i + 1) = 3 * i + 1 + 1 + 1 by omega]; exact HN3.out, HB3.out⟩
      · have el : decide ((i : Int) < 3) = false := by simp; omega
        have hi3 : i = 3 := by have := HIG.out; omega
        subst hi3
        go_wp2_with fail
        go_meet
        exact ⟨HN.out, HB.out⟩
  case rest =>
    obtain ⟨hn, hb⟩ := hcut
    obtain ⟨w3, rfl⟩ : ∃ x, x = wc := ⟨_, rfl⟩
    have HN := Lib.hid hn
    have HB := Lib.hid hb
    clear hn hb hnum hbW
    go_wp2_with fail
    refine (one_calls b0 9 _ _ _ _ _ _ _ HN.out (by omega)).mono ?_
    rintro e w4 ⟨rfl, hn4, hb4⟩
    obtain ⟨vo, vl, vg, k0, k1, k2, ho, hl, hg, hd, hd2⟩ := hn4.ex
    obtain ⟨g0, e0, rfl⟩ := own_shape ho
    obtain ⟨g1, e1, rfl⟩ := own_shape hl
    obtain ⟨g2, e2, rfl⟩ := own_shape hg
    have m0 := k0.cell 0
    have m1 := k1.cell 0
    have m2 := k2.cell 0
    have z0 := k0.frozen 0
    have z1 := k1.frozen 0
    have z2 := k2.frozen 0
    have HB4 := Lib.hid (HB.out.trans hb4)
    have HR := Lib.hid (⟨k0, k1, k2, ho, hl, hg⟩ : Blk w4 b0 111 #[.slice (some ⟨g0, 0, none⟩) (9 + 1) e0] ∧ Blk w4 (b0 + 1) 107 #[.slice (some ⟨g1, 0, none⟩) (9 + 1) e1] ∧ Blk w4 (b0 + 2) 107 #[.slice (some ⟨g2, 0, none⟩) (9 + 1) e2] ∧ _ ∧ _ ∧ _)
    clear k0 k1 k2 ho hl hg hd hd2 hn4 hb4
    go_upto_region 10 with fail
    go_region
    go_wp2_with fail
    obtain ⟨k0, k1, k2, ho, hl, hg⟩ := HR.out
    have K0 := (((k0.set_ 0 (.slice (some ⟨g0, 0, none⟩) 10 e0)).far (p := ⟨b0 + 1, 0, none⟩) (by simp <;> omega) (.slice (some ⟨g1, 0, none⟩) 10 e1)).far (p := ⟨b0 + 1 + 1, 0, none⟩) (by simp <;> omega) (.slice (some ⟨g2, 0, none⟩) 10 e2)).drew
    have K1 := (((k1.far (p := ⟨b0, 0, none⟩) (by simp <;> omega) (.slice (some ⟨g0, 0, none⟩) 10 e0)).set_ 0 (.slice (some ⟨g1, 0, none⟩) 10 e1)).far (p := ⟨b0 + 1 + 1, 0, none⟩) (by simp <;> omega) (.slice (some ⟨g2, 0, none⟩) 10 e2)).drew
    have K2 := (((k2.far (p := ⟨b0, 0, none⟩) (by simp <;> omega) (.slice (some ⟨g0, 0, none⟩) 10 e0)).far (p := ⟨b0 + 1, 0, none⟩) (by simp <;> omega) (.slice (some ⟨g1, 0, none⟩) 10 e1)).set_ 0 (.slice (some ⟨g2, 0, none⟩) 10 e2)).drew
    have hB5 := (((HB4.out.setCell (p := ⟨b0, 0, none⟩) (Nat.le_refl _) (.slice (some ⟨g0, 0, none⟩) 10 e0)).setCell (p := ⟨b0 + 1, 0, none⟩) (by simp) (.slice (some ⟨g1, 0, none⟩) 10 e1)).setCell (p := ⟨b0 + 1 + 1, 0, none⟩) (by simp; omega) (.slice (some ⟨g2, 0, none⟩) 10 e2)).drew
    have same : ∀ k, b0 + 3 ≤ k → ((((w4.setCell ⟨b0, 0, none⟩ (.slice (some ⟨g0, 0, none⟩) 10 e0)).setCell ⟨b0 + 1, 0, none⟩ (.slice (some ⟨g1, 0, none⟩) 10 e1)).setCell ⟨b0 + 1 + 1, 0, none⟩ (.slice (some ⟨g2, 0, none⟩) 10 e2)).drew).heap[k]? = w4.heap[k]? := fun k hk =>
      ((Below.heap_setCell _ _ _ k (by simp; omega)).trans (Below.heap_setCell _ _ _ k (by simp; omega))).trans (Below.heap_setCell _ _ _ k (by simp; omega))
    have row : ∀ {T : TypeId} {v : Value} {xs : List Value}, w4.ownsRow (b0 + 3) T 1 v (9 + 1) xs → ((((w4.setCell ⟨b0, 0, none⟩ (.slice (some ⟨g0, 0, none⟩) 10 e0)).setCell ⟨b0 + 1, 0, none⟩ (.slice (some ⟨g1, 0, none⟩) 10 e1)).setCell ⟨b0 + 1 + 1, 0, none⟩ (.slice (some ⟨g2, 0, none⟩) 10 e2)).drew).ownsRow b0 T 1 v 10 xs := fun h =>
      (ownsRow.same h fun k hk => same k (World.ownsRow.lt h k hk).1).mono (by omega)
    refine bodyPost_ret (results_cells3 rfl _ _ _ _ _ _ _ _ rfl rfl rfl (run_loadVar_one _ _ _ _ _ rfl rfl (K0.cell 0)) (run_loadVar_one _ _ _ _ _ rfl rfl (K1.cell 0)) (run_loadVar_one _ _ _ _ _ rfl rfl (K2.cell 0))) rfl ?_
    have hw := HB0.out
    refine ⟨g0, e0, g1, e1, g2, e2, rfl, ?_, ?_, ?_, ?_⟩
    · rw [hw]; exact row ho
    · rw [hw]; exact row hl
    · rw [hw]; exact row hg
    · rw [hw]; exact hB5
end Go.Proofs.YtfpgbhimgfdddaaGreatDoor
