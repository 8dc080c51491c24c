/- Merged (what the claim wants of): BlkSeries, LabCmpW, LabCmpG, KeyMap, KeyMap2, KeyIter, SortRow, BlkListsA. -/
import Derived.Test.YtdoiekknhnbepaaGreatDoorBka06
import Derived.Test.YtdoiekknhnbepaaGreatDoorBka03
import Derived.Shelf.SlSortCmp.QuietGrown
import Derived.WideKeyEntry
import Derived.DeepKeys4
import Derived.MapKept
import Derived.Carry
import Derived.Maps.Range
import Derived.Test.YtdoiekknhnbepaaGreatDoorBka05
import Derived.Maps.RangeWalk
import Derived.Test.YtdoiekknhnbepaaGreatDoorBka01
import Derived.Shelf.SlSortCmp.NoneTotal
set_option linter.unusedVariables false
set_option linter.unusedSimpArgs false
namespace Go.Proofs.YtdoiekknhnbepaaGreatDoor
open Go.RowKit
open Lib renaming hid → Jh
attribute [local go_sem ↓] Go.wp_at_zero Go.wp_at_succ
attribute [local go_sem] Later.cell
theorem Koy {I : List UInt8} : ∀ (g : Nat) (out : List Txt) (i : Nat) {t : List Txt} {j : Nat}, Kep I g out i = some (t, j) → (∀ x ∈ out, x.length ≤ I.length) → out.length ≤ i → i ≤ I.length → (∀ x ∈ t, x.length ≤ I.length) ∧ t.length ≤ I.length
 | 0, out, i, t, j, h, ho, hi, hl => by
  injection h with h; injection h with h _; subst h; exact ⟨ho, by omega⟩
 | g + 1, out, i, t, j, h, ho, hi, hl => by
  rw [Kep] at h; obtain ⟨x, n, e, hr⟩ : ∃ x n e, Kbg I (i : Int) = (x, n, e) := ⟨_, _, _, rfl⟩; rw [hr] at h; dsimp only at h
  by_cases he : e = 0
  ·subst he; rw [if_neg (by simp)] at h
   split at h
   ·cases h
   ·obtain ⟨h1, h2, h3⟩ := Kir hr; refine Koy g _ _ h (fun y hy => ?_) (by rw [List.length_append, List.length_singleton]; omega) h2; rcases List.mem_append.1 hy with h4 | h4
    ·exact ho y h4
    ·rw [List.mem_singleton.1 h4]; exact h3
  ·rw [if_pos he] at h; cases h
theorem Qdy {I : List UInt8} {t : List Txt} {j : Nat} (h : tabR I 0 = some (t, j)) : (∀ x ∈ t, x.length ≤ I.length) ∧ t.length ≤ I.length := by
 unfold tabR at h
 split at h
 ·cases h
 ·rename_i he
  obtain ⟨v, n, e, hr⟩ : ∃ v n e, Kan I ((0 : Nat) : Int) = (v, n, e) := ⟨_, _, _, rfl⟩; rw [hr] at h he; have he0 : e = 0 := by simpa using he
  subst he0
  have hru : ruAt I 0 = some (v, n) := by
   rcases Key I 0 with ⟨a, b, h1, h2, _⟩ | ⟨a, b, c, h1, h2, _⟩
   ·rw [hr] at h1; injection h1 with h1 h3; injection h3 with h3 _; rw [h2, h1, h3]
   ·rw [hr] at h1; injection h1 with _ h3; injection h3 with _ h3; exact absurd h3.symm h2
  exact Koy _ _ _ h (by simp) (Nat.zero_le _) (Kgt hru)
def BadE (e : Ending) : Prop := ∃ t x, e = .panicked [{ v := .iface t x, recovered := false }]
theorem BadE.fault (f : Nat) : BadE (Kaq f) := ⟨_, _, rfl⟩
structure Grow (O O' : Nat → Prop) (w w' : World) : Prop where
 size : w.heap.size ≤ w'.heap.size
 block : ∀ k, k < w.heap.size → ¬ O k → w'.heap[k]? = w.heap[k]?
 own : ∀ k, O' k → O k ∨ w.heap.size ≤ k
theorem Grow.refl (O : Nat → Prop) (w : World) : Grow O O w w := ⟨Nat.le_refl _, fun _ _ _ => rfl, fun _ h => .inl h⟩
theorem Kri (t : List Txt) (s : List UInt8) : ∀ (g : Nat) (out : List Lb) (p : Nat), (unpL t s g out p).1.length ≤ out.length + g
 | 0, out, p => by simp [unpL]
 | g + 1, out, p => by
  rw [unpL]
  repeat' split
  all_goals (try simp)
  refine Nat.le_trans (Kri t s g _ _) ?_; simp; omega
theorem Kqv (t : List Txt) (s : List UInt8) (k : Int) : (unpR t s k).1.length ≤ 8 := by
 unfold unpR
 repeat' split
 all_goals (try simp)
 have := Kri t s (Kan s k).1 [] (Kan s k).2.1; simp at this; omega
def LabOk (l : List Lb) : Prop := l.length ≤ 8 ∧ (∀ y ∈ l, y.n.length ≤ 32 ∧ y.v.length ≤ 64) ∧ (names l).Pairwise (· < ·)
theorem Qeo {out : List Lb} {y : Lb} (h : (names out).Pairwise (· < ·)) (hl : Kfj out y.n = false) : (names (out ++ [y])).Pairwise (· < ·) := by
 unfold names at *; rw [List.map_append, List.pairwise_append]; refine ⟨h, List.pairwise_singleton _ _, fun a ha b hb => ?_⟩; have e : b = y.n := by simpa using hb
 subst e; unfold Kfj at hl; rw [decide_eq_false_iff_not] at hl
 have hne : 0 < out.length := by
  rcases out with _ | ⟨x, l⟩
  ·simp at ha
  ·simp
 have hlast : (out[out.length - 1]!).n < y.n := Decidable.byContradiction fun hc => hl ⟨hne, hc⟩
 obtain ⟨x, hx, rfl⟩ := List.mem_map.1 ha; obtain ⟨k, hk, rfl⟩ := List.mem_iff_getElem.1 hx; rw [getElem!_pos _ _ (by omega)] at hlast
 by_cases he : k = out.length - 1
 ·subst he; exact hlast
 ·have hp := List.pairwise_iff_getElem.1 h k (out.length - 1) (by rw [List.length_map]; omega) (by rw [List.length_map]; omega) (by omega); rw [List.getElem_map, List.getElem_map] at hp; exact List.lt_trans hp hlast
theorem Kya (t : List Txt) (s : List UInt8) : ∀ (g : Nat) (out : List Lb) (p : Nat) {l : List Lb} {j : Nat}, unpL t s g out p = (l, j, 0) → (∀ y ∈ out, y.n.length ≤ 32 ∧ y.v.length ≤ 64) → (names out).Pairwise (· < ·) → (∀ y ∈ l, y.n.length ≤ 32 ∧ y.v.length ≤ 64) ∧ (names l).Pairwise (· < ·)
 | 0, out, p, l, j, h, ho, hp => by
  injection h with h _; subst h; exact ⟨ho, hp⟩
 | g + 1, out, p, l, j, h, ho, hp => by
  have bad : ∀ {e : Nat}, e ≠ 0 → ([], 0, e) = ((l, j, 0) : List Lb × Nat × Nat) → False := fun he h => by
   injection h with _ h; injection h with _ h; exact he h
  rw [unpL] at h
  split at h
  ·rename_i h1; exact (bad h1 h).elim
  split at h
  ·rename_i h1; exact (bad h1 h).elim
  split at h
  ·exact (bad (by decide) h).elim
  rename_i hf1
  split at h
  ·exact (bad (by decide) h).elim
  rename_i hf2
  split at h
  ·exact (bad (by decide) h).elim
  rename_i hlow
  refine Kya t s g _ _ h (fun y hy => ?_) (Qeo hp (by simpa using hlow)); rcases List.mem_append.1 hy with hy | hy
  ·exact ho y hy
  ·rw [List.mem_singleton.1 hy]; have a := Bool.not_eq_false _ ▸ hf1; have b := Bool.not_eq_false _ ▸ hf2; unfold fitN at a; unfold fitV at b; simp only [Bool.and_eq_true, decide_eq_true_eq] at a b; dsimp only; omega
theorem Kxs {t : List Txt} {s : List UInt8} {k : Int} {l : List Lb} {j : Nat} (h : unpR t s k = (l, j, 0)) : LabOk l := by
 have h8 := Kqv t s k; rw [h] at h8
 have bad : ∀ {e : Nat}, e ≠ 0 → ([], 0, e) = ((l, j, 0) : List Lb × Nat × Nat) → False := fun he h => by
  injection h with _ h; injection h with _ h; exact he h
 unfold unpR at h
 split at h
 ·rename_i h1; exact (bad h1 h).elim
 split at h
 ·exact (bad (by decide) h).elim
 split at h
 ·exact (bad (by decide) h).elim
 exact ⟨h8, Kya t s _ _ _ h (by simp) List.Pairwise.nil⟩
structure Kug {σ : Type} (sz : σ → Nat) (Z : Nat) (pr : Nat) (M : σ → (Nat → Prop) → World → Prop) (N : World → Prop) (each : σ → List Lb → σ) (part : σ → Nat → Option σ) (ge gp : FuncId) (ce cp : Array Value) : Prop where
 ege : ∀ args W, (callFunc ge args).run Tryz.prog W = .ok (.enter ge args) W
 egp : ∀ args W, (callFunc gp args).run Tryz.prog W = .ok (.enter gp args) W
 lt : ∀ s O w, M s O w → ∀ k, O k → k < w.heap.size
 prn : ∀ s O w, M s O w → ¬ O pr
 keep : ∀ s O w w', M s O w → Kept w.heap.size [pr] w w' → M s O w'
 bad : ∀ s O w, M s O w → N w
 sze : ∀ s l, sz (each s l) = sz s + 1
 szp : ∀ s n s', 0 < sz s → part s n = some s' → sz s' = sz s
 each : ∀ s O w A n c l, M s O w → sz s < Z → Elems w w.heap.size 2 encLb A n l → n ≤ c → n ≤ 8 → LabOk l → (∀ a, A = some a → ¬ O a.block ∧ a.block ≠ pr) → Calls Tryz.prog ge (#[.slice A n c] ++ ce) w fun e w' => e = .returned (.tuple #[]) ∧ ∃ O', M (each s l) O' w' ∧ Grow O O' w w'
 part : ∀ s O w n, M s O w → 0 < sz s → sz s ≤ Z → n < 2 ^ 64 → Calls Tryz.prog gp (#[.int .u64 (n : Int)] ++ cp) w fun e w' => match part s n with
  | some s' => e = .returned (.tuple #[]) ∧ ∃ O', M s' O' w' ∧ Grow O O' w w'
  | none => BadE e ∧ N w'
def SerO {σ : Type} (pr : Nat) (M : σ → (Nat → Prop) → World → Prop) (N : World → Prop) (S : ByteArray) (O : Nat → Prop) (w : World) (r : Option (σ × Nat)) (e : Ending) (w' : World) : Prop := match r with
 | some (s, i) => e = .returned (.tuple #[]) ∧ ∃ O', M s O' w' ∧ Rdr pr S i w' ∧ (∀ k, O' k → O k ∨ w.heap.size ≤ k) ∧ w.heap.size ≤ w'.heap.size ∧ ∀ k, k < w.heap.size → ¬ O k → k ≠ pr → w'.heap[k]? = w.heap[k]?
 | none => BadE e ∧ N w'
structure SerI (O : Nat → Prop) (pr : Nat) (w3 : World) (O9 : Nat → Prop) (wr : World) : Prop where
 size : w3.heap.size ≤ wr.heap.size
 same : ∀ k, k < w3.heap.size → ¬ O k → k ≠ pr → wr.heap[k]? = w3.heap[k]?
 own : ∀ k, O9 k → O k ∨ w3.heap.size ≤ k
section
variable {O O9 O' : Nat → Prop} {pr : Nat} {w3 wr w' : World}
theorem SerI.start (O : Nat → Prop) (pr : Nat) (w : World) : SerI O pr w O w := ⟨Nat.le_refl _, fun _ _ _ _ => rfl, fun _ h => .inl h⟩
theorem SerI.kept (h : SerI O pr w3 O9 wr) (hk : Kept wr.heap.size [pr] wr w') : SerI O pr w3 O9 w' :=
 ⟨Nat.le_trans h.size hk.size, fun k h1 h2 h3 => (hk.block k (Nat.lt_of_lt_of_le h1 h.size) (by simpa using h3)).trans (h.same k h1 h2 h3), h.own⟩
theorem SerI.grow (h : SerI O pr w3 O9 wr) (hg : Grow O9 O' wr w') : SerI O pr w3 O' w' := by
 refine ⟨Nat.le_trans h.size hg.size, fun k h1 h2 h3 => (hg.block k (Nat.lt_of_lt_of_le h1 h.size) fun h4 => ?_).trans (h.same k h1 h2 h3), fun k hk => ?_⟩
 ·rcases h.own k h4 with h5 | h5
  ·exact h2 h5
  ·omega
 ·rcases hg.own k hk with h4 | h4
  ·exact h.own k h4
  ·exact .inr (Nat.le_trans h.size h4)
end
theorem Koz {s : List UInt8} {i v n : Nat} (h : Kan s (i : Int) = (v, n, 0)) (hi : i ≤ s.length) : i < n ∧ n ≤ s.length := by
 rcases Key s i with ⟨a, b, h1, h2, _⟩ | ⟨a, b, c, h1, h2, _⟩
 ·rw [h] at h1; injection h1 with h1 h3; injection h3 with h3 _; rw [h3]; exact Kbt hi h2
 ·rw [h] at h1; injection h1 with _ h3; injection h3 with _ h3; exact absurd h3.symm h2
theorem Kud {t : List Txt} {s : List UInt8} {i n : Nat} {x : Txt} (h : symR t s (i : Int) = (x, n, 0)) (hi : i ≤ s.length) : i < n ∧ n ≤ s.length := by
 obtain ⟨v, m, e, hr⟩ : ∃ v m e, Kan s (i : Int) = (v, m, e) := ⟨_, _, _, rfl⟩; unfold symR at h; rw [hr] at h; dsimp only at h
 by_cases he : e = 0
 ·subst he; rw [if_neg (by simp)] at h
  split at h
  ·injection h with _ h; injection h with _ h; cases h
  ·injection h with _ h; injection h with h _; rw [← h]; exact Koz hr hi
 ·rw [if_pos he] at h; injection h with _ h; injection h with _ h; exact absurd h he
theorem Kuw {t : List Txt} {s : List UInt8} : ∀ (g : Nat) (out : List Lb) (p : Nat) {l : List Lb} {j : Nat}, unpL t s g out p = (l, j, 0) → p ≤ s.length → p ≤ j ∧ j ≤ s.length
 | 0, out, p, l, j, h, hp => by
  injection h with _ h; injection h with h _; exact ⟨by omega, by omega⟩
 | g + 1, out, p, l, j, h, hp => by
  rw [unpL] at h; obtain ⟨x, n, e, hr⟩ : ∃ x n e, symR t s (p : Int) = (x, n, e) := ⟨_, _, _, rfl⟩; rw [hr] at h; dsimp only at h
  by_cases he : e = 0
  ·subst he; rw [if_neg (by simp)] at h; obtain ⟨h1, h2⟩ := Kud hr hp; obtain ⟨y, m, e2, hr2⟩ : ∃ x' n' e', symR t s (n : Int) = (x', n', e') := ⟨_, _, _, rfl⟩; rw [hr2] at h; dsimp only at h
   by_cases he2 : e2 = 0
   ·subst he2; rw [if_neg (by simp)] at h; obtain ⟨h3, h4⟩ := Kud hr2 h2
    split at h
    ·injection h with _ h; injection h with _ h; cases h
    ·split at h
     ·injection h with _ h; injection h with _ h; cases h
     ·split at h
      ·injection h with _ h; injection h with _ h; cases h
      ·obtain ⟨h5, h6⟩ := Kuw g _ _ h h4; exact ⟨by omega, h6⟩
   ·rw [if_pos he2] at h; injection h with _ h; injection h with _ h; exact absurd h he2
  ·rw [if_pos he] at h; injection h with _ h; injection h with _ h; exact absurd h he
theorem Kvc {t : List Txt} {s : List UInt8} {i j : Nat} {l : List Lb} (h : unpR t s (i : Int) = (l, j, 0)) (hi : i ≤ s.length) : i < j ∧ j ≤ s.length := by
 obtain ⟨v, m, e, hr⟩ : ∃ v m e, Kan s (i : Int) = (v, m, e) := ⟨_, _, _, rfl⟩; unfold unpR at h; rw [hr] at h; dsimp only at h
 by_cases he : e = 0
 ·subst he; rw [if_neg (by simp)] at h; obtain ⟨h1, h2⟩ := Koz hr hi
  split at h
  ·injection h with _ h; injection h with _ h; cases h
  ·split at h
   ·injection h with _ h; injection h with _ h; cases h
   ·obtain ⟨h3, h4⟩ := Kuw _ _ _ h h2; exact ⟨by omega, h4⟩
 ·rw [if_pos he] at h; injection h with _ h; injection h with _ h; exact absurd h he
theorem Kea {s : List UInt8} {i v j : Nat} (h : ruAt s i = some (v, j)) : v < 2 ^ 64 := by
 rcases Key s i with ⟨a, b, _, h2, h3⟩ | ⟨a, b, c, _, _, h2⟩
 ·rw [h] at h2; injection h2 with h2; injection h2 with h2 _; rw [h2]; exact h3
 ·rw [h] at h2; cases h2
theorem Rdr.kept {pr i : Nat} {S : ByteArray} {O O' : Nat → Prop} {w w' : World} (h : Rdr pr S i w) (hg : Grow O O' w w') (hn : ¬ O pr) : Rdr pr S i w' := (hg.block pr h.lt hn).trans h
section
variable {σ : Type} {sz : σ → Nat} {Z : Nat} {pr : Nat} {M : σ → (Nat → Prop) → World → Prop} {N : World → Prop} {each : σ → List Lb → σ} {part : σ → Nat → Option σ} {ge gp : FuncId} {ce cp : Array Value}
set_option maxRecDepth 100000 in
set_option maxHeartbeats 4000000 in
theorem Kjp (E : Kug sz Z pr M N each part ge gp ce cp) (S : ByteArray) (s : σ) (O : Nat → Prop) (w : World) (hM : M s O w) (hr : Rdr pr S 0 w) (hS : S.size ≤ 1099511627776) (hZ : S.size ≤ Z) (hs0 : sz s = 0) :
  Calls Tryz.prog 81 #[.pointer (some ⟨pr, 0, none⟩), .func (.func ge) #[] ce, .func (.func gp) #[] cp] w (SerO pr M N S O w (Kdc each part S.data.toList s)) := by
 have hEe := E.ege; have hEp := E.egp; have hlen : S.data.toList.length = S.size := rfl; obtain ⟨R, hR⟩ : ∃ R, Kdc each part S.data.toList s = R := ⟨_, rfl⟩; rw [hR]; have HR := Jh hR; have HM := Jh hM; have HRD := Jh hr; have hfault : ∀ (W : World) (f : Nat), Below w.heap.size w W → BadE (Kaq f) ∧ N W := fun W f hb => ⟨BadE.fault _, E.bad _ _ _ (E.keep _ _ _ _ hM (Kept.of_below hb))⟩
 have HFT := Jh hfault; clear hfault
 cases ht : tabR S.data.toList 0 with
 | none =>
  have hT := Kjh S 0 w.drew hS; rw [ht] at hT
  have HC := Jh (Kmg pr 0 S w hr (fun _ _ _ => False) True (hT.mono (by
   rintro e w' ⟨f, hf, rfl, hb⟩
   exact ⟨Kbw hb, .inr ⟨trivial, _, _, f, hf, rfl⟩⟩)))
  have hre : R = none := by rw [← HR.out]; unfold Kdc; rw [ht]
  subst hre; clear hT ht hR hM hr; go_enter Tryz.func81, Tryz.ntmps81
  go_wp2_with fail
  refine HC.out.mono ?_; rintro e w1 (⟨v, j, w2, rfl, hno, _⟩ | ⟨_, f, hf, rfl, hb⟩)
  ·exact hno.elim
  ·have HB := Jh hb; clear hb; unfold Kaq; go_wp2_with fail
   refine Kag rfl ?_; exact HFT.out _ _ HB.out
 | some x =>
  obtain ⟨t, i0⟩ := x; have hT := Kjh S 0 w.drew hS; rw [ht] at hT; obtain ⟨htz, htn⟩ := Qdy ht
  have HC := Jh (Kmg pr 0 S w hr (fun v j w' => ∃ p, v = .pointer (some ⟨p, 0, none⟩) ∧ j = i0 ∧ Kem w.heap.size w' p t) False (hT.mono (by
   rintro e w' ⟨p, rfl, htab, hb⟩
   exact ⟨Kbw hb, .inl ⟨_, i0, rfl, p, rfl, rfl, htab⟩⟩)))
  have hR2 : (match ruAt S.data.toList i0 with
   | none => none
   | some (n, i1) => serG each part t S.data.toList n s i1) = R := by
   rw [← HR.out]; unfold Kdc; rw [ht]; rfl
  have HR2 := Jh hR2; have HTZ := Jh htz; clear hT ht hR hM hr hR2 htz HR; go_enter Tryz.func81, Tryz.ntmps81
  go_wp2_with fail
  refine HC.out.mono ?_; rintro e w1 (⟨v, j, w2, rfl, ⟨p, rfl, rfl, htab⟩, hb2, rfl⟩ | ⟨hno, _⟩)
  rotate_left
  ·exact hno.elim
  have hk3 := Kjb (pr := pr) (v := .int .i64 (j : Int)) hb2; have hr3 : Rdr pr S j (w2.setCell ⟨pr, 1, none⟩ (.int .i64 (j : Int))) := HRD.out.set hb2; have htab3 : Kem w.heap.size (w2.setCell ⟨pr, 1, none⟩ (.int .i64 (j : Int))) p t := htab.keep (by simp [World.setCell]) (fun k h1 h2 => Below.heap_setCell _ _ _ _ (fun e => by have h3 := HRD.out.lt; rw [e] at h1; exact absurd h1 (by show ¬ w.heap.size ≤ pr; omega))); obtain ⟨w3, hw3⟩ : ∃ w3, w2.setCell ⟨pr, 1, none⟩ (.int .i64 (j : Int)) = w3 := ⟨_, rfl⟩; rw [hw3] at hk3 hr3 htab3 ⊢; have HK3 := Jh hk3; have HR3 := Jh hr3; have HTAB3 := Jh htab3; have HM3 := Jh (E.keep _ _ _ _ HM.out hk3); have HU := Jh (Kdo pr j S w3 hr3 hS); clear hk3 hr3 htab3 htab hb2 hw3; go_wp2_with fail
  refine HU.out.mono ?_; intro e w4 h4
  cases hru : ruAt S.data.toList j with
  | none =>
   rw [hru] at h4; obtain ⟨⟨f, hf, rfl⟩, hb4⟩ := h4; have hre : R = none := by rw [← HR2.out, hru]
   have HRE := Jh hre; have HB4 := Jh (HK3.out.then_ hb4); clear hb4 hru hre; unfold Kaq; go_wp2_with fail
   refine Kag rfl ?_; rw [HRE.out]; exact ⟨BadE.fault _, E.bad _ _ _ (E.keep _ _ _ _ HM.out HB4.out)⟩
  | some x =>
   obtain ⟨n, i1⟩ := x; rw [hru] at h4; obtain ⟨rfl, hr4, hk4⟩ := h4; have hn64 := Kea hru; have HI1 := Jh (Kgt hru); have hR5 : serG each part t S.data.toList n s i1 = R := by rw [← HR2.out, hru]
   have HR5 := Jh hR5; have HI4 := Jh ((SerI.start O pr w3).kept hk4); have HM4 := Jh (E.keep _ _ _ _ HM3.out hk4); have HRD4 := Jh hr4; have hmf : ∀ (fn : Fn) (first cap : Array Value) (w : World), (Instr.makeFunc fn first cap).run Tryz.prog w = .ok (.func fn first cap) w := fun _ _ _ _ => rfl
   clear hru hr4 hk4 hR5; go_wp2_with fail
   go_loopg [7] n (fun g s7 wr => ∃ (s9 : σ) (O9 : Nat → Prop) (i : Nat), s7 = .int .u64 (g : Int) ∧ g < 2 ^ 64 ∧ M s9 O9 wr ∧ Rdr pr S i wr ∧ SerI O pr w3 O9 wr ∧ (sz s9 ≤ i ∧ i ≤ S.data.toList.length) ∧ serG each part t S.data.toList g s9 i = R)
   case atStart => exact ⟨s, O, i1, rfl, hn64, HM4.out, HRD4.out, HI4.out, ⟨by omega, HI1.out⟩, HR5.out⟩
   case round =>
    obtain ⟨s9, O9, i, rfl, hg64, hM9, hr9, hI9, hsz9, hRR⟩ := hrel; have HSZ9 := Jh hsz9; clear hsz9; obtain ⟨wo, rfl⟩ : ∃ x, x = wr := ⟨_, rfl⟩; have HM9 := Jh hM9; have HR9 := Jh hr9; have HI9 := Jh hI9; have HRR := Jh hRR; clear hM9 hr9 hI9 hRR
    cases gk with
    | zero =>
     have hre : R = some (s9, i) := by rw [← HRR.out]; rfl
     have HRE := Jh hre; clear hre; go_wp2_with fail
     go_end0
     rw [HRE.out]; have hB := HK3.out; refine ⟨rfl, O9, HM9.out, HR9.out, fun k hk => ?_, Nat.le_trans hB.size HI9.out.size, fun k h1 h2 h3 => ?_⟩
     ·rcases HI9.out.own k hk with h | h
      ·exact .inl h
      ·exact .inr (Nat.le_trans hB.size h)
     ·exact (HI9.out.same k (Nat.lt_of_lt_of_le h1 hB.size) h2 h3).trans (hB.block k h1 (by simpa using h3))
    | succ g =>
     have el : decide (0 < g + 1) = true := by rw [decide_eq_true_eq]; omega
     have hg1 : IntKind.u64.wrap (((g + 1 : Nat) : Int) - 1) = (g : Int) := by
      rw [show ((g + 1 : Nat) : Int) - 1 = (g : Int) by omega]; exact IntWalk.u64_in _ (by omega)
     have HG1 := Jh hg1; clear hg1; go_upto_block 1 with fail
     go_cut [] (fun wz => ∃ (s2 : σ) (O2 : Nat → Prop) (i : Nat), M s2 O2 wz ∧ Rdr pr S i wz ∧ SerI O pr w3 O2 wz ∧ (sz s2 ≤ i ∧ i ≤ S.data.toList.length) ∧ serG each part t S.data.toList g s2 i = R)
     case first =>
      have hlt := E.lt _ _ _ HM.out; have hprl := HRD.out.lt; have htab9 : Kem w.heap.size wo p t := HTAB3.out.keep HI9.out.size fun k h1 h2 => HI9.out.same k h2 (fun h => absurd (hlt k h) (by omega)) (by omega)
      have hrr := HRR.out; rw [serG] at hrr; obtain ⟨l, j1, er, hun⟩ : ∃ l j e, unpR t S.data.toList (i : Int) = (l, j, e) := ⟨_, _, _, rfl⟩; have hup := Kvd (.pointer (some ⟨p, 0, none⟩)) t S (i : Int) wo.drew (l, j1, er) hun (htab9.at_.below ((Below.refl _ _).drew)) (by omega) (by omega) (fun x hx => by have := HTZ.out x hx; omega); rw [hun] at hrr; dsimp only at hrr
      by_cases her : er = 0
      ·subst her; rw [if_neg (by simp)] at hrr
       have HL := Jh (Kmi pr i S (.pointer (some ⟨p, 0, none⟩)) wo HR9.out (fun v j w' => ∃ A c, v = .slice A l.length c ∧ j = j1 ∧ Elems w' w'.heap.size 2 encLb A l.length l ∧ l.length ≤ c ∧ ∀ a, A = some a → wo.heap.size ≤ a.block) False (hup.mono (by
        rintro e w' ⟨A, c, rfl, h1, h2, h3, h4⟩
        exact ⟨Kbw h3, .inl ⟨_, j1, rfl, A, c, rfl, rfl, h1, h2, h4⟩⟩)))
       have HRR2 := Jh hrr; have HUN := Jh hun; have HPOS := Jh (Kvc hun HSZ9.out.2); clear hup hrr hun htab9 hlt; go_wp2_with fail
       refine HL.out.mono ?_; rintro e w5 (⟨v, j, w6, rfl, ⟨A, c, rfl, rfl, hE, hc, hA⟩, hb6, rfl⟩ | ⟨hno, _⟩)
       rotate_left
       ·exact hno.elim
       have hl8 : l.length ≤ 8 := by have := Kqv t S.data.toList (i : Int); rw [HUN.out] at this; exact this
       have hk7 := Kjb (pr := pr) (v := .int .i64 (j : Int)) hb6; have hr7 : Rdr pr S j (w6.setCell ⟨pr, 1, none⟩ (.int .i64 (j : Int))) := HR9.out.set hb6; have hprw : pr < wo.heap.size := HR9.out.lt; have hAne : ∀ a, A = some a → a.block ≠ pr := fun a ha => by have := hA a ha; omega
       have hE7 : Elems (w6.setCell ⟨pr, 1, none⟩ (.int .i64 (j : Int))) (w6.setCell ⟨pr, 1, none⟩ (.int .i64 (j : Int))).heap.size 2 encLb A l.length l := by
        refine (hE.keepAt fun a _ ha => ?_).more (by simp [World.setCell])
        cases A with
        | none => cases ha
        | some x =>
         have h1 : x.block = a.block := by simpa using ha
         exact World.cell?_of_block (w := w6) (Below.heap_setCell _ ⟨pr, 1, none⟩ _ a.block (fun e => hAne x rfl (h1.trans e)))
       obtain ⟨w7, hw7⟩ : ∃ w7, w6.setCell ⟨pr, 1, none⟩ (.int .i64 (j : Int)) = w7 := ⟨_, rfl⟩; rw [hw7] at hk7 hr7 hE7 ⊢; have hM7 := E.keep _ _ _ _ HM9.out hk7; have hlt9 := E.lt _ _ _ HM9.out; have HEA := Jh (E.each s9 O9 w7 A l.length c l hM7 (by have := HPOS.out; have := HSZ9.out; omega) hE7 hc hl8 (Kxs HUN.out) (fun a ha => ⟨fun h => by have := hlt9 _ h; have := hA a ha; omega, hAne a ha⟩)); have HI7 := Jh (HI9.out.kept hk7); have HR7 := Jh hr7; have hno7 := E.prn _ _ _ hM7; clear hk7 hr7 hE7 hM7 hlt9 hw7 hAne hA hE hb6; go_wp2_with fail
       refine HEA.out.mono ?_; rintro _ w8 ⟨rfl, O8, hM8, hg8⟩; have HM8 := Jh hM8; have HI8 := Jh (HI7.out.grow hg8); have hr8 := HR7.out.kept hg8 hno7; have HU8 := Jh (Kdo pr j S w8 hr8 hS); clear hM8 hg8 hr8 hno7; go_wp2_with fail
       refine HU8.out.mono ?_; intro e w9 h9
       cases hru : ruAt S.data.toList j with
       | none =>
        rw [hru] at h9; obtain ⟨⟨f, hf, rfl⟩, hb9⟩ := h9; have hre : R = none := by rw [← HRR2.out, hru]
        have HRE := Jh hre; have HB9 := Jh hb9; clear hb9 hru hre; unfold Kaq; go_wp2_with fail
        refine Kag rfl ?_; rw [HRE.out]; exact ⟨BadE.fault _, E.bad _ _ _ (E.keep _ _ _ _ HM8.out (Kept.of_below HB9.out))⟩
       | some x =>
        obtain ⟨m, i2⟩ := x; rw [hru] at h9; obtain ⟨rfl, hr9, hk9⟩ := h9; have hm64 := Kea hru; have HP2 := Jh (Kbt HPOS.out.2 hru)
        have hR9 : (match Kdy part S.data.toList m (each s9 l) i2 with
         | none => none
         | some (s', i3) => serG each part t S.data.toList g s' i3) = R := by
         rw [← HRR2.out, hru]; rfl
        have HR9b := Jh hR9; have HM9b := Jh (E.keep _ _ _ _ HM8.out hk9); have HI9b := Jh (HI8.out.kept hk9); have HRD9 := Jh hr9; clear hru hr9 hk9 hR9; go_wp2_with fail
        go_loopg [8] m (fun h s8 wr => ∃ (s2 : σ) (O2 : Nat → Prop) (i : Nat), s8 = .int .u64 (h : Int) ∧ h < 2 ^ 64 ∧ M s2 O2 wr ∧ Rdr pr S i wr ∧ SerI O pr w3 O2 wr ∧ (sz s2 ≤ i ∧ i ≤ S.data.toList.length ∧ 0 < sz s2) ∧ (match Kdy part S.data.toList h s2 i with
         | none => none
         | some (s', i3) => serG each part t S.data.toList g s' i3) = R)
        case atStart => exact ⟨each s9 l, O8, i2, rfl, hm64, HM9b.out, HRD9.out, HI9b.out, by have := E.sze s9 l; have := HPOS.out; have := HSZ9.out; have := HP2.out; exact ⟨by omega, by omega, by omega⟩, HR9b.out⟩
        case round =>
         obtain ⟨s2, O2, ii, rfl, hh64, hM2, hr2, hI2, hsz2, hRR2⟩ := hrel; have HSZ2 := Jh hsz2; clear hsz2; obtain ⟨wk, rfl⟩ : ∃ x, x = wr := ⟨_, rfl⟩; have HM2 := Jh hM2; have HR2b := Jh hr2; have HI2 := Jh hI2; have HRRk := Jh hRR2; clear hM2 hr2 hI2 hRR2
         cases gk with
         | zero =>
          have hfin : serG each part t S.data.toList g s2 ii = R := HRRk.out; have HFIN := Jh hfin; clear hfin; go_wp2_with fail
          go_meet
          exact ⟨s2, O2, ii, HM2.out, HR2b.out, HI2.out, ⟨HSZ2.out.1, HSZ2.out.2.1⟩, HFIN.out⟩
         | succ h =>
          have el2 : decide (0 < h + 1) = true := by rw [decide_eq_true_eq]; omega
          have hh1 : IntKind.u64.wrap (((h + 1 : Nat) : Int) - 1) = (h : Int) := by
           rw [show ((h + 1 : Nat) : Int) - 1 = (h : Int) by omega]; exact IntWalk.u64_in _ (by omega)
          have HH1 := Jh hh1; have HUK := Jh (Kdo pr ii S wk HR2b.out hS); have hrrk := HRRk.out; rw [Kdy] at hrrk; clear hh1; go_wp2_with fail
          refine HUK.out.mono ?_; intro e w10 h10
          cases hru : ruAt S.data.toList ii with
          | none =>
           rw [hru] at h10 hrrk; obtain ⟨⟨f, hf, rfl⟩, hb10⟩ := h10; have hre : R = none := hrrk.symm; have HRE := Jh hre; have HB10 := Jh hb10; clear hb10 hru hre hrrk; unfold Kaq; go_wp2_with fail
           refine Kag rfl ?_; rw [HRE.out]; exact ⟨BadE.fault _, E.bad _ _ _ (E.keep _ _ _ _ HM2.out (Kept.of_below HB10.out))⟩
          | some x =>
           obtain ⟨mm, i4⟩ := x; rw [hru] at h10 hrrk; obtain ⟨rfl, hr10, hk10⟩ := h10; dsimp only at hrrk; have hM10 := E.keep _ _ _ _ HM2.out hk10; have hno10 := E.prn _ _ _ hM10; have HP4 := Jh (Kbt HSZ2.out.2.1 hru); have HEP := Jh (E.part s2 O2 w10 mm hM10 HSZ2.out.2.2 (by have := HSZ2.out; have : S.data.toList.length = S.size := rfl; omega) (Kea hru)); have HI10 := Jh (HI2.out.kept hk10); have HR10 := Jh hr10; have HRR10 := Jh hrrk; have HNO10 := Jh hno10; clear hru hr10 hk10 hM10 hno10 hrrk; go_wp2_with fail
           refine HEP.out.mono ?_; intro e w11 h11
           cases hpt : part s2 mm with
           | none =>
            rw [hpt] at h11; obtain ⟨⟨tt, xx, rfl⟩, hN⟩ := h11; have hre : R = none := by rw [← HRR10.out, hpt]
            have HRE := Jh hre; have HNN := Jh hN; clear hN hre hpt; go_wp2_with fail
            refine Kag rfl ?_; rw [HRE.out]; exact ⟨⟨_, _, rfl⟩, HNN.out⟩
           | some s3 =>
            rw [hpt] at h11; obtain ⟨rfl, O3, hM11, hg11⟩ := h11
            have hR11 : (match Kdy part S.data.toList h s3 i4 with
             | none => none
             | some (s', i3) => serG each part t S.data.toList g s' i3) = R := by
             rw [← HRR10.out, hpt]
            have HR11 := Jh hR11; have HM11 := Jh hM11; have HSZ3 := Jh (E.szp s2 mm s3 HSZ2.out.2.2 hpt); have HI11 := Jh (HI10.out.grow hg11); have HRD11 := Jh (HR10.out.kept hg11 HNO10.out); clear hM11 hg11 hR11 hpt; go_wp2_with fail
            go_roundg h
            case measure => omega
            case rel => exact ⟨s3, O3, i4, by first | rfl | exact vi HH1.out, by omega, HM11.out, HRD11.out, HI11.out, by have := HSZ3.out; have := HSZ2.out; have := HP4.out; exact ⟨by omega, by omega, by omega⟩, HR11.out⟩
      ·rw [if_pos her] at hrr
       have HL := Jh (Kmi pr i S (.pointer (some ⟨p, 0, none⟩)) wo HR9.out (fun _ _ _ => False) True (hup.mono (by
        rintro e w' ⟨A, c, rfl, h1, h2, h3, h4⟩
        exact ⟨Kbw h3, .inr ⟨trivial, _, _, er, her, rfl⟩⟩)))
       have HRE := Jh hrr; clear hup hrr hun htab9 hlt; go_wp2_with fail
       refine HL.out.mono ?_; rintro e w5 (⟨v, j, w6, rfl, hno, _⟩ | ⟨_, f, hf, rfl, hb⟩)
       ·exact hno.elim
       ·have HB9 := Jh hb; clear hb; unfold Kaq; go_wp2_with fail
        refine Kag rfl ?_; rw [← HRE.out]; exact ⟨BadE.fault _, E.bad _ _ _ (E.keep _ _ _ _ HM9.out (Kept.of_below HB9.out))⟩
     case rest =>
      obtain ⟨s2, O2, ii, hM2, hr2, hI2, hsz2, hRR2⟩ := hcut; have HSZ2 := Jh hsz2; clear hsz2; have HM2 := Jh hM2; have HR2b := Jh hr2; have HI2 := Jh hI2; have HRR2 := Jh hRR2; clear hM2 hr2 hI2 hRR2; go_wp2_with fail
      go_roundg g
      case measure => omega
      case rel => exact ⟨s2, O2, ii, by first | rfl | exact vi HG1.out, by omega, HM2.out, HR2b.out, HI2.out, HSZ2.out, HRR2.out⟩
end
end Go.Proofs.YtdoiekknhnbepaaGreatDoor
namespace Go.Proofs.YtdoiekknhnbepaaGreatDoor
open Go.RowKit Go.Sort
open Lib renaming hid → Jh
attribute [local go_sem ↓] Go.wp_at_zero Go.wp_at_succ
attribute [local go_sem] Later.cell
theorem Kiz : ∀ a b : Txt, Lib.compareBytes a b = if a < b then -1 else if b < a then 1 else 0
 | [], [] => by simp [Lib.compareBytes]
 | [], _ :: _ => by simp [Lib.compareBytes]
 | _ :: _, [] => by simp [Lib.compareBytes]
 | x :: a, y :: b => by
  have ih := Kiz a b; rw [Lib.compareBytes]
  by_cases h1 : x < y
  ·have : x :: a < y :: b := List.cons_lt_cons_iff.2 (.inl h1); rw [if_pos h1, if_pos this]
  ·by_cases h2 : y < x
   ·have h3 : y :: b < x :: a := List.cons_lt_cons_iff.2 (.inl h2); have h4 : ¬ x :: a < y :: b := fun h => List.lt_asymm h h3
    rw [if_neg h1, if_pos h2, if_neg h4, if_pos h3]
   ·have e : x = y := UInt8.le_antisymm (UInt8.not_lt.1 h2) (UInt8.not_lt.1 h1); subst e; rw [if_neg h1, if_neg h1, ih]; have e1 : (x :: a < x :: b) ↔ a < b := by rw [List.cons_lt_cons_iff]; simp
    have e2 : (x :: b < x :: a) ↔ b < a := by rw [List.cons_lt_cons_iff]; simp
    by_cases h3 : a < b
    ·rw [if_pos h3, if_pos (e1.2 h3)]
    ·rw [if_neg h3, if_neg (fun h => h3 (e1.1 h))]
     by_cases h4 : b < a
     ·rw [if_pos h4, if_pos (e2.2 h4)]
     ·rw [if_neg h4, if_neg (fun h => h4 (e2.1 h))]
def cmp1 (x y : Lb) : Int := if Lib.compareBytes x.n y.n ≠ 0 then Lib.compareBytes x.n y.n else Lib.compareBytes x.v y.v
theorem Kqf (x y : Lb) (a b : List Lb) : cmpL (x :: a) (y :: b) = if cmp1 x y ≠ 0 then cmp1 x y else cmpL a b := by
 rw [cmpL]; unfold cmp1; rw [Kiz x.n y.n, Kiz x.v y.v]
 by_cases h1 : x.n < y.n
 ·simp [h1]
 ·by_cases h2 : y.n < x.n
  ·simp [h1, h2]
  ·by_cases h3 : x.v < y.v
   ·simp [h1, h2, h3]
   ·by_cases h4 : y.v < x.v
    ·simp [h1, h2, h3, h4]
    ·simp [h1, h2, h3, h4]
set_option maxHeartbeats 400000 in
theorem Kqe (g : Nat) (a b : Int) (w : World) (hq : Blk w g 3 #[.int .i64 a, .int .i64 b]) :
  Calls Tryz.prog 129 #[.slice (some ⟨g, 0, none⟩) 2 2] w fun e w' => e = .returned (.int .i64 (if a ≠ 0 then a else b)) ∧ w = w' := by
 have q0 : w.cell? ⟨g, 0, none⟩ = some (Value.int .i64 a) := hq.cell 0; have q1 : w.cell? ⟨g, 1, none⟩ = some (Value.int .i64 b) := hq.cell 1; clear hq
 by_cases h0 : a = 0
 ·subst h0; rw [if_neg (by simp)]
  by_cases h1 : b = 0
  ·subst h1; go_enter Tryz.func129, Tryz.ntmps129
   go_wp2_with fail
   refine wp_loop_rounds 3 ?_; rw [rounds_succ]; go_wp2_with fail
   rw [rounds_succ]; go_wp2_with fail
   rw [rounds_succ]; go_wp2_with fail
   go_ret
   exact ⟨rfl, rfl⟩
  ·have e1 : (b != 0) = true := by simp [h1]
   go_enter Tryz.func129, Tryz.ntmps129
   go_wp2_with fail
   refine wp_loop_rounds 3 ?_; rw [rounds_succ]; go_wp2_with fail
   rw [rounds_succ]; go_wp2_with fail
   go_ret
   exact ⟨rfl, rfl⟩
 ·rw [if_pos h0]; have e1 : (a != 0) = true := by simp [h0]
  go_enter Tryz.func129, Tryz.ntmps129
  go_wp2_with fail
  refine wp_loop_rounds 3 ?_; rw [rounds_succ]; go_wp2_with fail
  go_ret
  exact ⟨rfl, rfl⟩
set_option maxRecDepth 100000 in
set_option maxHeartbeats 1000000 in
theorem Kpr (x y : Lb) (w : World) :
  Calls Tryz.prog 128 #[.agg #[.string ⟨x.n.toArray⟩, .string ⟨x.v.toArray⟩], .agg #[.string ⟨y.n.toArray⟩, .string ⟨y.v.toArray⟩]] w fun e w' => e = .returned (.int .i64 (cmp1 x y)) ∧ Below w.heap.size w w' := by
 obtain ⟨ca, hca⟩ : ∃ ca, Lib.compareBytes x.n y.n = ca := ⟨_, rfl⟩; obtain ⟨cb, hcb⟩ : ∃ cb, Lib.compareBytes x.v y.v = cb := ⟨_, rfl⟩
 have hbn : ∀ W : World, Calls Tryz.prog 130 #[.agg #[.string ⟨x.n.toArray⟩, .string ⟨x.v.toArray⟩], .agg #[.string ⟨y.n.toArray⟩, .string ⟨y.v.toArray⟩]] W fun e w' => e = .returned (.int .i64 ca) ∧ Below W.heap.size W w' := fun W => by
  have := Kkr x y W; rwa [hca] at this
 have hco : ∀ W : World, Calls Tryz.prog 131 #[.string ⟨x.v.toArray⟩, .string ⟨y.v.toArray⟩] W fun e w' => e = .returned (.int .i64 cb) ∧ W = w' := fun W => by
  refine (Tryz.strings_Compare ⟨x.v.toArray⟩ ⟨y.v.toArray⟩ W).mono ?_; rintro e w' ⟨rfl, rfl⟩; exact ⟨by rw [← hcb], rfl⟩
 have hr : cmp1 x y = if ca ≠ 0 then ca else cb := by unfold cmp1; rw [hca, hcb]
 obtain ⟨rr, hrr⟩ : ∃ rr, (if ca ≠ 0 then ca else cb) = rr := ⟨_, rfl⟩; rw [hr, hrr]; have HRR := Jh hrr; clear hca hcb hr hrr; obtain ⟨N, hN⟩ : ∃ N : ByteArray, (⟨x.n.toArray⟩ : ByteArray) = N := ⟨_, rfl⟩; obtain ⟨V, hV⟩ : ∃ N : ByteArray, (⟨x.v.toArray⟩ : ByteArray) = N := ⟨_, rfl⟩; obtain ⟨N2, hN2⟩ : ∃ N : ByteArray, (⟨y.n.toArray⟩ : ByteArray) = N := ⟨_, rfl⟩; obtain ⟨V2, hV2⟩ : ∃ N : ByteArray, (⟨y.v.toArray⟩ : ByteArray) = N := ⟨_, rfl⟩; rw [hN, hV, hN2, hV2] at hbn ⊢; rw [hV, hV2] at hco; have HBN := Jh hbn; have HCO := Jh hco; clear hN hV hN2 hV2 hbn hco; go_enter Tryz.func128, Tryz.ntmps128
 go_upto_region 1 with fail
 obtain ⟨w1, hw1⟩ : ∃ x, (w.alloc (.cells #[.string N, .string V] 99)).alloc (.cells #[.string N2, .string V2] 99) = x := ⟨_, rfl⟩; have hb1 : Below w.heap.size w w1 := by rw [← hw1]; exact ((Below.refl _ _).alloc (Nat.le_refl _) _).alloc (by simp) _
 have hq : Blk w1 w.heap.size 99 #[.string N, .string V] := by rw [← hw1]; exact (Blk.new _ _ _).alloc _
 have hp : Blk w1 (w.heap.size + 1) 99 #[.string N2, .string V2] := by rw [← hw1]; exact Blk.newAt (by simp)
 rw [hw1]; obtain ⟨a, hA⟩ : ∃ a, w.heap.size = a := ⟨_, rfl⟩; rw [hA] at hq hp ⊢; clear hw1; have q0 : _ = some (Value.string N) := hq.cell 0; have q1 : _ = some (Value.string V) := hq.cell 1; have p0 : _ = some (Value.string N2) := hp.cell 0; have p1 : _ = some (Value.string V2) := hp.cell 1; have hql := hq.lt; have hpl := hp.lt; refine Kai 8 (by kernel_rfl) (by kernel_rfl) ?_; simp only [List.take_succ_cons, List.take_zero, List.drop_succ_cons, List.drop_zero]
 repeat (go_big_quiet_step ((first | (go_at_call 130; exact Kal _ (HBN.out _)) | (go_at_call 131; exact Knz _ (HCO.out _)))))
 refine wpQuiet_nil ?_; rintro w2 ⟨⟨_, hb2⟩, rfl⟩; have hB2 : Below w.heap.size w w2 := then_ hb1 hb2; go_wp2_with fail
 have hg : Blk (w2.alloc (.cells #[.int .i64 ca, .int .i64 cb] 3)) w2.heap.size 3 #[.int .i64 ca, .int .i64 cb] := Blk.new _ _ _; refine (Kqe _ ca cb _ hg).mono ?_; rintro _ w3 ⟨rfl, rfl⟩; rw [HRR.out]; go_wp2_with fail
 go_ret
 exact ⟨rfl, by first | exact hB2.alloc hB2.size _ | (rw [← hA]; exact hB2.alloc hB2.size _)⟩
set_option maxRecDepth 100000 in
set_option maxHeartbeats 2000000 in
theorem Kla (l m : List Lb) (A B : Option Addr) (n k ca cb : Nat) (w : World) (r : Int) (hr : cmpL l m = r) (hA : Elems w w.heap.size 2 encLb A n l) (hB : Elems w w.heap.size 2 encLb B k m) (hn : n ≤ 140737488351232) (hk : k ≤ 140737488351232) :
  Calls Tryz.prog 127 #[.slice A n ca, .slice B k cb, .func (.func 128) #[] #[]] w fun e w' => e = .returned (.int .i64 r) ∧ Below w.heap.size w w' := by
 have hl := hA.len; have hm := hB.len; have HL := Jh hl; have HM := Jh hm; have HR := Jh hr; clear hl hm hr; go_enter Tryz.func127, Tryz.ntmps127
 go_wp2_with fail
 go_loopg [13] n (fun g s13 wr => ∃ i : Nat, i + g = n ∧ s13 = .int .i64 (i : Int) ∧ Below w.heap.size w wr ∧ i ≤ k ∧ cmpL (l.drop i) (m.drop i) = r)
 case atStart => exact ⟨0, by omega, rfl, Below.refl _ _, Nat.zero_le _, HR.out⟩
 case round =>
  obtain ⟨i, hig, rfl, hBw, hik, hcr⟩ := hrel; have HIG := Jh hig; have HCR := Jh hcr; clear hig hcr
  by_cases hi : i < n
  ·have el : decide ((i : Int) < (n : Int)) = true := by simp; omega
   have el' : decide (i < n) = true := by simp; omega
   have hil : i < l.length := by have := HL.out; omega
   have hdl : l.drop i = l[i]! :: l.drop (i + 1) := by rw [getElem!_pos l i hil]; exact List.drop_eq_getElem_cons hil
   obtain ⟨ba, oa, rfl, _, _⟩ := hA.2 (by omega); obtain ⟨hba, a0, a1⟩ := Kbm hA (by omega) hBw i hil; obtain ⟨X, hX⟩ : ∃ N : ByteArray, (⟨l[i]!.n.toArray⟩ : ByteArray) = N := ⟨_, rfl⟩; obtain ⟨Y, hY⟩ : ∃ N : ByteArray, (⟨l[i]!.v.toArray⟩ : ByteArray) = N := ⟨_, rfl⟩; have HX := Jh hX; have HY := Jh hY; have HDL := Jh hdl; rw [hX] at a0; rw [hY] at a1; clear hX hY hdl
   by_cases hk2 : i < k
   ·have eg : decide ((k : Int) ≤ (i : Int)) = false := by simp; omega
    have eg' : decide (k ≤ i) = false := by simp; omega
    have him : i < m.length := by have := HM.out; omega
    have hdm : m.drop i = m[i]! :: m.drop (i + 1) := by rw [getElem!_pos m i him]; exact List.drop_eq_getElem_cons him
    obtain ⟨bb, ob, rfl, _, _⟩ := hB.2 (by omega); have hcmp := fun W => Kpr l[i]! m[i]! W
    obtain ⟨X2, hX2⟩ : ∃ N : ByteArray, (⟨m[i]!.n.toArray⟩ : ByteArray) = N := ⟨_, rfl⟩; obtain ⟨Y2, hY2⟩ : ∃ N : ByteArray, (⟨m[i]!.v.toArray⟩ : ByteArray) = N := ⟨_, rfl⟩; have HX2 := Jh hX2; have HY2 := Jh hY2; have hcr := HCR.out; rw [HDL.out, hdm, Kqf] at hcr; obtain ⟨c, hc⟩ : ∃ c, cmp1 l[i]! m[i]! = c := ⟨_, rfl⟩; simp only [HX.out, HY.out, hX2, hY2, hc] at hcmp; rw [hc] at hcr; have HCMP := Jh hcmp; have HC1 := Jh hcr; clear hX2 hY2 hcmp hcr hc hdm; go_upto_region 4 with fail
    obtain ⟨w1, hw1⟩ : ∃ x, wr.alloc (.cells #[.string X, .string Y] 99) = x := ⟨_, rfl⟩; have hB1 : Below w.heap.size w w1 := by rw [← hw1]; exact hBw.alloc hBw.size _
    have hq : Blk w1 wr.heap.size 99 #[.string X, .string Y] := by rw [← hw1]; exact Blk.new _ _ _
    rw [hw1]; obtain ⟨p, hp⟩ : ∃ p, wr.heap.size = p := ⟨_, rfl⟩; rw [hp] at hq ⊢; obtain ⟨hbb, b0, b1⟩ := Kbm hB (by omega) hB1 i him; rw [HX2.out] at b0; rw [HY2.out] at b1; clear hw1 hp a0 a1 hBw; go_upto_region 7 with fail
    obtain ⟨w2, hw2⟩ : ∃ x, w1.alloc (.cells #[.string X2, .string Y2] 99) = x := ⟨_, rfl⟩; have hB2 : Below w.heap.size w w2 := by rw [← hw2]; exact hB1.alloc hB1.size _
    have hq2 : Blk w2 p 99 #[.string X, .string Y] := by rw [← hw2]; exact hq.alloc _
    have hr2 : Blk w2 w1.heap.size 99 #[.string X2, .string Y2] := by rw [← hw2]; exact Blk.new _ _ _
    rw [hw2]; obtain ⟨p2, hp2⟩ : ∃ p, w1.heap.size = p := ⟨_, rfl⟩; rw [hp2] at hr2 ⊢; clear hw2 hp2 b0 b1 hB1 hq; have q0 : _ = some (Value.string X) := hq2.cell 0; have q1 : _ = some (Value.string Y) := hq2.cell 1; have r0 : _ = some (Value.string X2) := hr2.cell 0; have r1 : _ = some (Value.string Y2) := hr2.cell 1; go_wp2_with fail
    refine (HCMP.out w2).mono ?_; rintro _ w3 ⟨rfl, hb3⟩; have hB3 := then_ hB2 hb3
    by_cases h0 : c = 0
    ·subst h0; have h1 := HC1.out; rw [if_neg (by simp)] at h1; have HC2 := Jh h1; clear h1; go_wp2_with fail
     go_roundg (gk - 1)
     case measure => have := HIG.out; omega
     case rel => exact ⟨i + 1, by have := HIG.out; omega, by go_num, hB3, by omega, HC2.out⟩
    ·have e0 : (c != 0) = true := by simp [h0]
     have h1 := HC1.out; rw [if_pos h0] at h1; have HC2 := Jh h1; clear h1; go_wp2_with fail
     go_ret
     exact ⟨by rw [← HC2.out]; rfl, hB3⟩
   ·have eg : decide ((k : Int) ≤ (i : Int)) = true := by simp; omega
    have eg' : decide (k ≤ i) = true := by simp; omega
    have hdm : m.drop i = [] := List.drop_eq_nil_of_le (by have := HM.out; omega); have hcr := HCR.out; rw [HDL.out, hdm] at hcr; have h1 : (1 : Int) = r := hcr; have H1 := Jh h1; clear hdm hcr h1; go_wp2_with fail
    go_ret
    exact ⟨by rw [← H1.out]; rfl, hBw.alloc hBw.size _⟩
  ·have hin : i = n := by have := HIG.out; omega
   subst hin; have hdl : l.drop i = [] := List.drop_eq_nil_of_le (by have := HL.out; omega); have hcr := HCR.out; rw [hdl] at hcr; have el : decide ((i : Int) < (i : Int)) = false := by simp
   by_cases hk2 : i < k
   ·have eg : decide ((i : Int) < (k : Int)) = true := by simp; omega
    have eg' : decide (i < k) = true := by simp; omega
    have him : i < m.length := by have := HM.out; omega
    have hdm : m.drop i = m[i] :: m.drop (i + 1) := List.drop_eq_getElem_cons him; rw [hdm] at hcr; have h1 : (-1 : Int) = r := hcr; have H1 := Jh h1; clear hdm hcr h1 hdl; go_wp2_with fail
    go_ret
    exact ⟨by rw [← H1.out]; rfl, hBw⟩
   ·have eg : decide ((i : Int) < (k : Int)) = false := by simp; omega
    have eg' : decide (i < k) = false := by simp; omega
    have hdm : m.drop i = [] := List.drop_eq_nil_of_le (by have := HM.out; omega); rw [hdm] at hcr; have h1 : (0 : Int) = r := hcr; have H1 := Jh h1; clear hdm hcr h1 hdl; go_wp2_with fail
    go_ret
    exact ⟨by rw [← H1.out]; rfl, hBw⟩
set_option maxHeartbeats 400000 in
theorem Kps (l m : List Lb) (A B : Option Addr) (n k ca cb : Nat) (w : World) (r : Int) (hr : cmpL l m = r) (hA : Elems w w.heap.size 2 encLb A n l) (hB : Elems w w.heap.size 2 encLb B k m) (hn : n ≤ 140737488351232) (hk : k ≤ 140737488351232) :
  Calls Tryz.prog 60 #[.slice A n ca, .slice B k cb] w fun e w' => e = .returned (.int .i64 r) ∧ Below w.heap.size w w' := by
 have HC := Jh (Kla l m A B n k ca cb w r hr hA hB hn hk); clear hr; go_enter Tryz.func60, Tryz.ntmps60
 go_wp2_with fail
 refine HC.out.mono ?_; rintro _ w1 ⟨rfl, hb⟩; go_wp2_with fail
 go_ret
 exact ⟨rfl, hb⟩
end Go.Proofs.YtdoiekknhnbepaaGreatDoor
namespace Go.Proofs.YtdoiekknhnbepaaGreatDoor
open Go.RowKit Go.Sort
open Lib renaming hid → Jh
attribute [local go_sem ↓] Go.wp_at_zero Go.wp_at_succ
def Grown (w w' : World) : Prop := ∃ p : GrownBy, w' = grow (w.drewN p.n) p.os
section
variable {w w1 w2 : World}
theorem Grown.of (w : World) (q : Nat) (os : Array Obj) : Grown w (grow (w.drewN q) os) := ⟨⟨q, os⟩, rfl⟩
theorem Grown.refl (w : World) : Grown w w := ⟨⟨0, #[]⟩, by rw [grow_empty]; rfl⟩
theorem Grown.trans (h : Grown w w1) (k : Grown w1 w2) : Grown w w2 := by
 obtain ⟨p, rfl⟩ := h; obtain ⟨q, rfl⟩ := k; exact ⟨⟨p.n + q.n, p.os ++ q.os⟩, by show grow (grow ((w.drewN p.n).drewN q.n) p.os) q.os = _; rw [grow_grow, World.drewN_drewN]⟩
theorem Grown.below (h : Grown w w1) : Below w.heap.size w w1 := by
 obtain ⟨p, rfl⟩ := h; exact below_grown w p.n p.os
theorem Grown.alloc (h : Grown w w1) (o : Obj) : Grown w (w1.alloc o) := h.trans ⟨⟨0, #[o]⟩, by rw [alloc_eq_grow]; rfl⟩
theorem Grown.drew (h : Grown w w1) : Grown w w1.drew := h.trans ⟨⟨1, #[]⟩, by rw [grow_empty]; rfl⟩
end
structure Kdv (w0 : World) where
 w : World
 h : Grown w0 w
instance Kdv.some {w : World} : Nonempty (Kdv w) := ⟨⟨w, Grown.refl _⟩⟩
theorem Kdv.cell {w : World} (x : Kdv w) (b o : Nat) (hb : b < w.heap.size) : x.w.cell? ⟨b, o, none⟩ = w.cell? ⟨b, o, none⟩ := x.h.below.cell (p := ⟨b, o, none⟩) hb
attribute [local go_sem] Kdv.cell
theorem Ktk {P : Program} {f : FuncId} {args : Array Value} {w : World} (x : Kdv w) {v : Value} (h : Calls P f args x.w fun e w' => e = .returned v ∧ Grown x.w w') :
  Calls P f args x.w fun e w'' => e = .returned v ∧ ∃ y : Kdv w, w'' = y.w :=
 h.mono fun _ w' ⟨he, hb⟩ => ⟨he, ⟨w', x.h.trans hb⟩, rfl⟩
theorem Kwc {P : Program} {f : FuncId} {args : Array Value} {w : World} (x : Kdv w) {v : Value} (h : Calls P f args x.w fun e w' => e = .returned v ∧ x.w = w') :
  Calls P f args x.w fun e w'' => e = .returned v ∧ ∃ y : Kdv w, w'' = y.w :=
 h.mono fun _ _ ⟨he, hb⟩ => ⟨he, x, hb.symm⟩
theorem Kie {P : Program} {id : Nat} {Q : Exit → Act → World → Prop} {a : Act} {w : World} {l : List Oper} (n : Nat) (hm : P.follows .mixedOrders = true) (hB : Region.lexTailB .any l.toArray n = true)
  (h : wpQuiet P l.toArray (fun w' => ∃ x : Kdv w, w' = x.w) (fun a' => ∀ w', (∃ x : Kdv w, w' = x.w) → wpList P l.toArray Q (l.drop n) a' w') (l.take n) a) : (Code.region id l.toArray true).wp P Q a w :=
 Kfh (C := fun w' => ∃ x : Kdv w, w' = x.w) n hm hB ⟨⟨w.drew, (Grown.refl _).drew⟩, rfl⟩ h
theorem Qgx (x y : Lb) (W : World) :
  Calls Tryz.prog 130 #[.agg #[.string ⟨x.n.toArray⟩, .string ⟨x.v.toArray⟩], .agg #[.string ⟨y.n.toArray⟩, .string ⟨y.v.toArray⟩]] W fun e w' => e = .returned (.int .i64 (Lib.compareBytes x.n y.n)) ∧ Grown W w' := by
 refine (Kgx x y W).mono ?_; rintro e w' ⟨he, q, os, rfl⟩; exact ⟨he, Grown.of _ _ _⟩
set_option maxRecDepth 100000 in
set_option maxHeartbeats 1000000 in
theorem Kod (x y : Lb) (w : World) :
  Calls Tryz.prog 128 #[.agg #[.string ⟨x.n.toArray⟩, .string ⟨x.v.toArray⟩], .agg #[.string ⟨y.n.toArray⟩, .string ⟨y.v.toArray⟩]] w fun e w' => e = .returned (.int .i64 (cmp1 x y)) ∧ Grown w w' := by
 obtain ⟨ca, hca⟩ : ∃ ca, Lib.compareBytes x.n y.n = ca := ⟨_, rfl⟩; obtain ⟨cb, hcb⟩ : ∃ cb, Lib.compareBytes x.v y.v = cb := ⟨_, rfl⟩
 have hbn : ∀ W : World, Calls Tryz.prog 130 #[.agg #[.string ⟨x.n.toArray⟩, .string ⟨x.v.toArray⟩], .agg #[.string ⟨y.n.toArray⟩, .string ⟨y.v.toArray⟩]] W fun e w' => e = .returned (.int .i64 ca) ∧ Grown W w' := fun W => by
  have := Qgx x y W; rwa [hca] at this
 have hco : ∀ W : World, Calls Tryz.prog 131 #[.string ⟨x.v.toArray⟩, .string ⟨y.v.toArray⟩] W fun e w' => e = .returned (.int .i64 cb) ∧ W = w' := fun W => by
  refine (Tryz.strings_Compare ⟨x.v.toArray⟩ ⟨y.v.toArray⟩ W).mono ?_; rintro e w' ⟨rfl, rfl⟩; exact ⟨by rw [← hcb], rfl⟩
 have hr : cmp1 x y = if ca ≠ 0 then ca else cb := by unfold cmp1; rw [hca, hcb]
 obtain ⟨rr, hrr⟩ : ∃ rr, (if ca ≠ 0 then ca else cb) = rr := ⟨_, rfl⟩; rw [hr, hrr]; have HRR := Jh hrr; clear hca hcb hr hrr; obtain ⟨N, hN⟩ : ∃ N : ByteArray, (⟨x.n.toArray⟩ : ByteArray) = N := ⟨_, rfl⟩; obtain ⟨V, hV⟩ : ∃ N : ByteArray, (⟨x.v.toArray⟩ : ByteArray) = N := ⟨_, rfl⟩; obtain ⟨N2, hN2⟩ : ∃ N : ByteArray, (⟨y.n.toArray⟩ : ByteArray) = N := ⟨_, rfl⟩; obtain ⟨V2, hV2⟩ : ∃ N : ByteArray, (⟨y.v.toArray⟩ : ByteArray) = N := ⟨_, rfl⟩; rw [hN, hV, hN2, hV2] at hbn ⊢; rw [hV, hV2] at hco; have HBN := Jh hbn; have HCO := Jh hco; clear hN hV hN2 hV2 hbn hco; go_enter Tryz.func128, Tryz.ntmps128
 go_upto_region 1 with fail
 obtain ⟨w1, hw1⟩ : ∃ x, (w.alloc (.cells #[.string N, .string V] 99)).alloc (.cells #[.string N2, .string V2] 99) = x := ⟨_, rfl⟩; have hb1 : Grown w w1 := by rw [← hw1]; exact ((Grown.refl _).alloc _).alloc _
 have hq : Blk w1 w.heap.size 99 #[.string N, .string V] := by rw [← hw1]; exact (Blk.new _ _ _).alloc _
 have hp : Blk w1 (w.heap.size + 1) 99 #[.string N2, .string V2] := by rw [← hw1]; exact Blk.newAt (by simp)
 rw [hw1]; obtain ⟨a, hA⟩ : ∃ a, w.heap.size = a := ⟨_, rfl⟩; rw [hA] at hq hp ⊢; clear hw1; have q0 : _ = some (Value.string N) := hq.cell 0; have q1 : _ = some (Value.string V) := hq.cell 1; have p0 : _ = some (Value.string N2) := hp.cell 0; have p1 : _ = some (Value.string V2) := hp.cell 1; have hql := hq.lt; have hpl := hp.lt; refine Kie 8 (by kernel_rfl) (by kernel_rfl) ?_; simp only [List.take_succ_cons, List.take_zero, List.drop_succ_cons, List.drop_zero]
 repeat (go_big_quiet_step ((first | (go_at_call 130; exact Ktk _ (HBN.out _)) | (go_at_call 131; exact Kwc _ (HCO.out _)))))
 refine wpQuiet_nil ?_; rintro w2 ⟨⟨_, hb2⟩, rfl⟩; have hB2 : Grown w w2 := hb1.trans hb2; go_wp2_with fail
 have hg : Blk (w2.alloc (.cells #[.int .i64 ca, .int .i64 cb] 3)) w2.heap.size 3 #[.int .i64 ca, .int .i64 cb] := Blk.new _ _ _; refine (Kqe _ ca cb _ hg).mono ?_; rintro _ w3 ⟨rfl, rfl⟩; rw [HRR.out]; go_wp2_with fail
 go_ret
 exact ⟨rfl, by first | exact hB2.alloc _ | (rw [← hA]; exact hB2.alloc _)⟩
set_option maxRecDepth 100000 in
set_option maxHeartbeats 2000000 in
theorem Kjo (l m : List Lb) (A B : Option Addr) (n k ca cb : Nat) (w : World) (r : Int) (hr : cmpL l m = r) (hA : Elems w w.heap.size 2 encLb A n l) (hB : Elems w w.heap.size 2 encLb B k m) (hn : n ≤ 140737488351232) (hk : k ≤ 140737488351232) :
  Calls Tryz.prog 127 #[.slice A n ca, .slice B k cb, .func (.func 128) #[] #[]] w fun e w' => e = .returned (.int .i64 r) ∧ Grown w w' := by
 have hl := hA.len; have hm := hB.len; have HL := Jh hl; have HM := Jh hm; have HR := Jh hr; clear hl hm hr; go_enter Tryz.func127, Tryz.ntmps127
 go_wp2_with fail
 go_loopg [13] n (fun g s13 wr => ∃ i : Nat, i + g = n ∧ s13 = .int .i64 (i : Int) ∧ Grown w wr ∧ i ≤ k ∧ cmpL (l.drop i) (m.drop i) = r)
 case atStart => exact ⟨0, by omega, rfl, Grown.refl _, Nat.zero_le _, HR.out⟩
 case round =>
  obtain ⟨i, hig, rfl, hBw, hik, hcr⟩ := hrel; have HIG := Jh hig; have HCR := Jh hcr; clear hig hcr
  by_cases hi : i < n
  ·have el : decide ((i : Int) < (n : Int)) = true := by simp; omega
   have el' : decide (i < n) = true := by simp; omega
   have hil : i < l.length := by have := HL.out; omega
   have hdl : l.drop i = l[i]! :: l.drop (i + 1) := by rw [getElem!_pos l i hil]; exact List.drop_eq_getElem_cons hil
   obtain ⟨ba, oa, rfl, _, _⟩ := hA.2 (by omega); obtain ⟨hba, a0, a1⟩ := Kbm hA (by omega) hBw.below i hil; obtain ⟨X, hX⟩ : ∃ N : ByteArray, (⟨l[i]!.n.toArray⟩ : ByteArray) = N := ⟨_, rfl⟩; obtain ⟨Y, hY⟩ : ∃ N : ByteArray, (⟨l[i]!.v.toArray⟩ : ByteArray) = N := ⟨_, rfl⟩; have HX := Jh hX; have HY := Jh hY; have HDL := Jh hdl; rw [hX] at a0; rw [hY] at a1; clear hX hY hdl
   by_cases hk2 : i < k
   ·have eg : decide ((k : Int) ≤ (i : Int)) = false := by simp; omega
    have eg' : decide (k ≤ i) = false := by simp; omega
    have him : i < m.length := by have := HM.out; omega
    have hdm : m.drop i = m[i]! :: m.drop (i + 1) := by rw [getElem!_pos m i him]; exact List.drop_eq_getElem_cons him
    obtain ⟨bb, ob, rfl, _, _⟩ := hB.2 (by omega); have hcmp := fun W => Kod l[i]! m[i]! W
    obtain ⟨X2, hX2⟩ : ∃ N : ByteArray, (⟨m[i]!.n.toArray⟩ : ByteArray) = N := ⟨_, rfl⟩; obtain ⟨Y2, hY2⟩ : ∃ N : ByteArray, (⟨m[i]!.v.toArray⟩ : ByteArray) = N := ⟨_, rfl⟩; have HX2 := Jh hX2; have HY2 := Jh hY2; have hcr := HCR.out; rw [HDL.out, hdm, Kqf] at hcr; obtain ⟨c, hc⟩ : ∃ c, cmp1 l[i]! m[i]! = c := ⟨_, rfl⟩; simp only [HX.out, HY.out, hX2, hY2, hc] at hcmp; rw [hc] at hcr; have HCMP := Jh hcmp; have HC1 := Jh hcr; clear hX2 hY2 hcmp hcr hc hdm; go_upto_region 4 with fail
    obtain ⟨w1, hw1⟩ : ∃ x, wr.alloc (.cells #[.string X, .string Y] 99) = x := ⟨_, rfl⟩; have hB1 : Grown w w1 := by rw [← hw1]; exact hBw.alloc _
    have hq : Blk w1 wr.heap.size 99 #[.string X, .string Y] := by rw [← hw1]; exact Blk.new _ _ _
    rw [hw1]; obtain ⟨p, hp⟩ : ∃ p, wr.heap.size = p := ⟨_, rfl⟩; rw [hp] at hq ⊢; obtain ⟨hbb, b0, b1⟩ := Kbm hB (by omega) hB1.below i him; rw [HX2.out] at b0; rw [HY2.out] at b1; clear hw1 hp a0 a1 hBw; go_upto_region 7 with fail
    obtain ⟨w2, hw2⟩ : ∃ x, w1.alloc (.cells #[.string X2, .string Y2] 99) = x := ⟨_, rfl⟩; have hB2 : Grown w w2 := by rw [← hw2]; exact hB1.alloc _
    have hq2 : Blk w2 p 99 #[.string X, .string Y] := by rw [← hw2]; exact hq.alloc _
    have hr2 : Blk w2 w1.heap.size 99 #[.string X2, .string Y2] := by rw [← hw2]; exact Blk.new _ _ _
    rw [hw2]; obtain ⟨p2, hp2⟩ : ∃ p, w1.heap.size = p := ⟨_, rfl⟩; rw [hp2] at hr2 ⊢; clear hw2 hp2 b0 b1 hB1 hq; have q0 : _ = some (Value.string X) := hq2.cell 0; have q1 : _ = some (Value.string Y) := hq2.cell 1; have r0 : _ = some (Value.string X2) := hr2.cell 0; have r1 : _ = some (Value.string Y2) := hr2.cell 1; go_wp2_with fail
    refine (HCMP.out w2).mono ?_; rintro _ w3 ⟨rfl, hb3⟩; have hB3 := hB2.trans hb3
    by_cases h0 : c = 0
    ·subst h0; have h1 := HC1.out; rw [if_neg (by simp)] at h1; have HC2 := Jh h1; clear h1; go_wp2_with fail
     go_roundg (gk - 1)
     case measure => have := HIG.out; omega
     case rel => exact ⟨i + 1, by have := HIG.out; omega, by go_num, hB3, by omega, HC2.out⟩
    ·have e0 : (c != 0) = true := by simp [h0]
     have h1 := HC1.out; rw [if_pos h0] at h1; have HC2 := Jh h1; clear h1; go_wp2_with fail
     go_ret
     exact ⟨by rw [← HC2.out]; rfl, hB3⟩
   ·have eg : decide ((k : Int) ≤ (i : Int)) = true := by simp; omega
    have eg' : decide (k ≤ i) = true := by simp; omega
    have hdm : m.drop i = [] := List.drop_eq_nil_of_le (by have := HM.out; omega); have hcr := HCR.out; rw [HDL.out, hdm] at hcr; have h1 : (1 : Int) = r := hcr; have H1 := Jh h1; clear hdm hcr h1; go_wp2_with fail
    go_ret
    exact ⟨by rw [← H1.out]; rfl, hBw.alloc _⟩
  ·have hin : i = n := by have := HIG.out; omega
   subst hin; have hdl : l.drop i = [] := List.drop_eq_nil_of_le (by have := HL.out; omega); have hcr := HCR.out; rw [hdl] at hcr; have el : decide ((i : Int) < (i : Int)) = false := by simp
   by_cases hk2 : i < k
   ·have eg : decide ((i : Int) < (k : Int)) = true := by simp; omega
    have eg' : decide (i < k) = true := by simp; omega
    have him : i < m.length := by have := HM.out; omega
    have hdm : m.drop i = m[i] :: m.drop (i + 1) := List.drop_eq_getElem_cons him; rw [hdm] at hcr; have h1 : (-1 : Int) = r := hcr; have H1 := Jh h1; clear hdm hcr h1 hdl; go_wp2_with fail
    go_ret
    exact ⟨by rw [← H1.out]; rfl, hBw⟩
   ·have eg : decide ((i : Int) < (k : Int)) = false := by simp; omega
    have eg' : decide (i < k) = false := by simp; omega
    have hdm : m.drop i = [] := List.drop_eq_nil_of_le (by have := HM.out; omega); rw [hdm] at hcr; have h1 : (0 : Int) = r := hcr; have H1 := Jh h1; clear hdm hcr h1 hdl; go_wp2_with fail
    go_ret
    exact ⟨by rw [← H1.out]; rfl, hBw⟩
set_option maxHeartbeats 400000 in
theorem Kog (l m : List Lb) (A B : Option Addr) (n k ca cb : Nat) (w : World) (r : Int) (hr : cmpL l m = r) (hA : Elems w w.heap.size 2 encLb A n l) (hB : Elems w w.heap.size 2 encLb B k m) (hn : n ≤ 140737488351232) (hk : k ≤ 140737488351232) :
  Calls Tryz.prog 60 #[.slice A n ca, .slice B k cb] w fun e w' => e = .returned (.int .i64 r) ∧ Grown w w' := by
 have HC := Jh (Kjo l m A B n k ca cb w r hr hA hB hn hk); clear hr; go_enter Tryz.func60, Tryz.ntmps60
 go_wp2_with fail
 refine HC.out.mono ?_; rintro _ w1 ⟨rfl, hb⟩; go_wp2_with fail
 go_ret
 exact ⟨rfl, hb⟩
end Go.Proofs.YtdoiekknhnbepaaGreatDoor
namespace Go.Proofs.YtdoiekknhnbepaaGreatDoor
open Go.RowKit
open Go.ChangeMaps (setBlock)
open Go.MapKept
open Go.WideMaps (KeyLaw)
def lbV (x : Lb) : Value := .agg #[.string ⟨x.n.toArray⟩, .string ⟨x.v.toArray⟩]
theorem Kfd {x y : Lb} (h : lbV x = lbV y) : x = y := by
 obtain ⟨a, b⟩ := x; obtain ⟨c, d⟩ := y; unfold lbV at h; injection h with h; have h1 := congrArg Array.toList h; injection h1 with h2 h3; injection h3 with h4 _; injection h2 with h2; injection h4 with h4; injection h2 with h2; injection h4 with h4; have e1 := congrArg Array.toList h2; have e2 := congrArg Array.toList h4; simp only [List.toList_toArray] at e1 e2; rw [e1, e2]
theorem lbLaw : KeyLaw Tryz.prog 99 := by
 have hm2 : Nat.blt 99 Tryz.prog.types.size = true := by kernel_rfl
 exact deep_law_laid (by kernel_rfl) (m := 2) (by omega) (Nat.blt_eq.mp hm2) (by kernel_rfl) (by kernel_rfl)
theorem Kze : ∃ f1 f2, Tryz.prog.underlying 99 = some (.struct #[f1, f2]) ∧ (f1.name != "_") = true ∧ (f2.name != "_") = true ∧ f1.offset = 0 ∧ f2.offset = 1 ∧ f1.type = 9 ∧ f2.type = 9 := ⟨_, _, Tryz.underlying99, by decide, by decide, rfl, rfl, rfl, rfl⟩
theorem Kmm (x : Lb) (h1 : x.n.length ≤ maxLen) (h2 : x.v.length ≤ maxLen) : ∃ l, keyOf Tryz.prog 99 (lbV x) = some l := by
 obtain ⟨f1, f2, hu, n1, n2, o1, o2, t1, t2⟩ := Kze; have hkt : Tryz.prog.keyType 99 = true := by kernel_rfl
 have hco : Tryz.prog.cellsOf 99 = 2 := by kernel_rfl
 have hcs : Tryz.prog.cellsOf 9 = 1 := by kernel_rfl
 have hm2 : Nat.blt 0 Tryz.prog.types.size = true := by kernel_rfl
 obtain ⟨m, hm⟩ : ∃ m, Tryz.prog.types.size = m + 1 := ⟨Tryz.prog.types.size - 1, by have := Nat.blt_eq.mp hm2; omega⟩; have hs : Tryz.prog.underlying 9 = some .string := Tryz.underlying9; unfold keyOf lbV; rw [hu]; dsimp only; rw [if_pos (by simp [hkt, Value.formed, hu, hco]), hm]; unfold Program.keyLits; simp only [hu, Value.cells]; rw [if_pos (by simp [hco, n1, n2])]
 have one : ∀ (d : Nat) (s : ByteArray), s.size ≤ maxLen → Tryz.prog.keyLits (d + 1) 9 [.string s] = some [.string s.data.toList] := fun d s h => by
  unfold Program.keyLits; simp only [hs]; rw [if_pos h]
 have s1 : (⟨x.n.toArray⟩ : ByteArray).size ≤ maxLen := by show x.n.toArray.size ≤ _; rw [List.size_toArray]; exact h1
 have s2 : (⟨x.v.toArray⟩ : ByteArray).size ≤ maxLen := by show x.v.toArray.size ≤ _; rw [List.size_toArray]; exact h2
 simp [o1, o2, t1, t2, hcs, one m _ s1, one m _ s2]
section
variable {w : World} {b : Nat} {es : Array MapEntry} {clock : Nat}
theorem Kwy (hb : w.heap[b]? = some (.map es clock)) (hst : Stamped es clock) (hk : ∀ e ∈ es.toList, ∃ l, keyOf Tryz.prog 99 e.key = some l) {key : Value} {kl : Lit} (hkey : keyOf Tryz.prog 99 key = some kl) :
  (∃ j e0, es.toList[j]? = some e0 ∧ e0.key = key ∧ (Instr.mapEntry 104 (.map (some b)) key).run Tryz.prog w = .ok (.tuple #[e0.val, goInt e0.born]) (setBlock w b (.map es clock)) ∧
   ∀ (w2 : World) (val : Value), w2.heap[b]? = some (.map es clock) → (Instr.entryStore 104 (.map (some b)) (goInt e0.born) val).run Tryz.prog w2 = .ok () (setBlock w2 b (.map (es.modify j fun e => { e with val := val }) clock))) ∨
  ((∀ e ∈ es.toList, e.key ≠ key) ∧ (Instr.mapEntry 104 (.map (some b)) key).run Tryz.prog w = .ok (.tuple #[.slice none 0 0, goInt clock]) (setBlock w b (.map (es.push ⟨key, .slice none 0 0, clock⟩) (clock + 1))) ∧
   ∀ (w2 : World) (val : Value), w2.heap[b]? = some (.map (es.push ⟨key, .slice none 0 0, clock⟩) (clock + 1)) → (Instr.entryStore 104 (.map (some b)) (goInt clock) val).run Tryz.prog w2 = .ok () (setBlock w2 b (.map (es.push ⟨key, val, clock⟩) (clock + 1)))) := by
 have ht : Tryz.prog.underlying 104 = some (.map 99 69) := Tryz.underlying104; have hz : ∀ u : World, (zeroValue 69).run Tryz.prog u = .ok (.slice none 0 0) u := fun u => by kernel_rfl
 obtain ⟨s1, s2, _⟩ := hst; rcases lbLaw.find w hkey es.toList hk with ⟨h1, h2⟩ | ⟨j, e0, h1, h2, h3⟩
 ·refine .inr ⟨h2, ?_, fun w2 val hw2 => ?_⟩
  ·simp [Instr.mapEntry, run_underlying ht, MapKept.run_getObj_map hb, lbLaw.check w false hkey, h1, hz, MapKept.run_setObj_map _ hb, Result.andThen, setBlock]
  ·have hidx : (es.push ⟨key, .slice none 0 0, clock⟩).findIdx? (fun e => ((e.born : Nat) : Int) == ((clock : Nat) : Int)) = some es.size := by
    rw [WideElems.findIdx_arr]
    have := WideElems.findIdx_born (l := (es.push ⟨key, .slice none 0 0, clock⟩).toList) (j := es.size) (e0 := ⟨key, .slice none 0 0, clock⟩) (by
     simp only [Array.toList_push, List.map_append, List.map_cons, List.map_nil]; refine List.nodup_append.2 ⟨s2, by simp, fun a ha c hc e1 => ?_⟩; simp only [List.mem_singleton] at hc; obtain ⟨x, hx, rfl⟩ := List.mem_map.1 ha; have := s1 x hx
     omega) (by simp)
    exact this
   have hmod : (es.push ⟨key, .slice none 0 0, clock⟩).modify es.size (fun e => { e with val := val }) = es.push ⟨key, val, clock⟩ := by
    apply Array.ext'; rw [Array.toList_modify, Array.toList_push, Array.toList_push, ← Array.length_toList, WideElems.modify_last]
   simp [Instr.entryStore, MapKept.run_getObj_map hw2, asInt, asIntOf, goInt, hidx, hmod, MapKept.run_setObj_map _ hw2, Result.andThen, setBlock]
 ·have hj : es[j]? = some e0 := by simpa using h2
  have hsame : es.modify j (fun e => { e with key := key }) = es := by
   apply Array.ext'; rw [Array.toList_modify, ChangeMaps.modify_eq_set _ _ _ _ h2]; have : ({ e0 with key := key } : MapEntry) = e0 := by rw [← h3]
   rw [this]; exact WideElems.set_self _ _ _ h2
  refine .inl ⟨j, e0, h2, h3, ?_, fun w2 val hw2 => ?_⟩
  ·simp [Instr.mapEntry, run_underlying ht, MapKept.run_getObj_map hb, lbLaw.check w false hkey, h1, hj, h3, lbLaw.stays w hkey, hsame, MapKept.run_setObj_map _ hb, Result.andThen, setBlock]
  ·have hidx : es.findIdx? (fun e => ((e.born : Nat) : Int) == ((e0.born : Nat) : Int)) = some j := by
    rw [WideElems.findIdx_arr]; exact WideElems.findIdx_born s2 h2
   simp [Instr.entryStore, MapKept.run_getObj_map hw2, asInt, asIntOf, goInt, hidx, MapKept.run_setObj_map _ hw2, Result.andThen, setBlock]
theorem Kys (hb : w.heap[b]? = some (.map es clock)) (hk : ∀ e ∈ es.toList, ∃ l, keyOf Tryz.prog 99 e.key = some l) {key : Value} {kl : Lit} (hkey : keyOf Tryz.prog 99 key = some kl) {e0 : MapEntry} (he : e0 ∈ es.toList) (hek : e0.key = key) (hn : (es.toList.map (·.key)).Nodup) :
  (Instr.lookup 104 (.map (some b)) key false).run Tryz.prog w = .ok e0.val w := by
 have ht : Tryz.prog.underlying 104 = some (.map 99 69) := Tryz.underlying104; rcases lbLaw.find w hkey es.toList hk with ⟨h1, h2⟩ | ⟨j, e1, h1, h2, h3⟩
 ·exact absurd hek (h2 _ he)
 ·have e1e : e1 = e0 := by
   have hm := List.mem_of_getElem? h2; have hp := List.pairwise_map.1 (show (es.toList.map (·.key)).Pairwise (· ≠ ·) from hn); exact entry_eq_of_key hp hm he (h3.trans hek.symm)
  subst e1e; simp [Instr.lookup, run_underlying ht, MapKept.run_getObj_map hb, lbLaw.check w es.isEmpty hkey, h1, Result.andThen]
end
theorem Qgi {es : Array MapEntry} {j : Nat} {e0 : MapEntry} (hj : es.toList[j]? = some e0) (hn : (es.toList.map (·.key)).Nodup) (val : Value) (e' : MapEntry) : e' ∈ (es.modify j fun e => { e with val := val }).toList ↔ e' = { e0 with val := val } ∨ (e' ∈ es.toList ∧ e'.key ≠ e0.key) := by
 have hj' : es[j]? = some e0 := by simpa using hj
 constructor
 ·intro h; obtain ⟨i, hi⟩ := List.mem_iff_getElem?.1 h; rw [Array.getElem?_toList, Array.getElem?_modify] at hi
  by_cases hij : j = i
  ·subst hij; simp [hj'] at hi; exact .inl hi.symm
  ·rw [if_neg hij] at hi; have hi' : es.toList[i]? = some e' := by simpa using hi
   refine .inr ⟨List.mem_of_getElem? hi', fun hk => hij ?_⟩; have h1 : (es.toList.map (·.key))[i]? = some e'.key := by rw [List.getElem?_map, hi']; rfl
   have h2 : (es.toList.map (·.key))[j]? = some e0.key := by rw [List.getElem?_map, hj]; rfl
   rw [hk, ← h2] at h1
   have hil : i < (es.toList.map (·.key)).length := by
    have := (List.getElem?_eq_some_iff.1 hi').1; rwa [List.length_map]
   exact ((List.getElem?_inj hil hn).1 h1).symm
 ·rintro (rfl | ⟨h, hk⟩)
  ·exact List.mem_of_getElem? (i := j) (by rw [Array.getElem?_toList, Array.getElem?_modify]; simp [hj'])
  ·obtain ⟨i, hi⟩ := List.mem_iff_getElem?.1 h
   have hij : j ≠ i := by
    rintro rfl; rw [hj] at hi; injection hi with hi; exact hk (by rw [hi])
   exact List.mem_of_getElem? (i := i) (by rw [Array.getElem?_toList, Array.getElem?_modify, if_neg hij]; simpa using hi)
section
variable {w : World} {b : Nat} {es : Array MapEntry} {clock : Nat}
theorem Qfc (hb : w.heap[b]? = some (.map es clock)) (hst : Stamped es clock) (hk : ∀ e ∈ es.toList, ∃ l, keyOf Tryz.prog 99 e.key = some l) {key : Value} {kl : Lit} (hkey : keyOf Tryz.prog 99 key = some kl) :
  ∃ (v0 : Value) (st : Nat) (es1 : Array MapEntry) (clock1 : Nat), (Instr.mapEntry 104 (.map (some b)) key).run Tryz.prog w = .ok (.tuple #[v0, .int .i64 (st : Int)]) (setBlock w b (.map es1 clock1)) ∧
   ((∃ e0 ∈ es.toList, e0.key = key ∧ v0 = e0.val) ∨ ((∀ e ∈ es.toList, e.key ≠ key) ∧ v0 = .slice none 0 0)) ∧
   ∀ (w2 : World) (val : Value), w2.heap[b]? = some (.map es1 clock1) → ∃ es' clock', (Instr.entryStore 104 (.map (some b)) (.int .i64 (st : Int)) val).run Tryz.prog w2 = .ok () (setBlock w2 b (.map es' clock')) ∧ Stamped es' clock' ∧ es'.size ≤ es.size + 1 ∧
    ∀ e', e' ∈ es'.toList ↔ e' = ⟨key, val, st⟩ ∨ (e' ∈ es.toList ∧ e'.key ≠ key) := by
 rcases Kwy hb hst hk hkey with ⟨j, e0, h1, h2, h3, h4⟩ | ⟨h1, h2, h3⟩
 ·refine ⟨e0.val, e0.born, es, clock, h3, .inl ⟨e0, List.mem_of_getElem? h1, h2, rfl⟩, fun w2 val hw2 => ⟨_, _, h4 w2 val hw2, ?_, ?_, fun e' => ?_⟩⟩
  ·exact stamped_modify hst j _ (fun _ _ => rfl) (fun _ _ _ => rfl)
  ·rw [Array.size_modify]; omega
  ·rw [Qgi h1 hst.2.2]; rw [← h2]
 ·refine ⟨_, clock, _, _, h2, .inr ⟨h1, rfl⟩, fun w2 val hw2 => ⟨_, _, h3 w2 val hw2, stamped_push hst h1, by rw [Array.size_push]; omega, fun e' => ?_⟩⟩; rw [Array.toList_push, List.mem_append, List.mem_singleton]; constructor
  ·rintro (h | h)
   ·exact .inr ⟨h, h1 _ h⟩
   ·exact .inl h
  ·rintro (h | h)
   ·exact .inr h
   ·exact .inl h.1
end
structure LMap (w : World) (B b : Nat) (f : Lb → List Nat) (n : Nat) (es : Array MapEntry) (clock : Nat) : Prop where
 h : w.heap[b]? = some (.map es clock)
 st : Stamped es clock
 sz : es.size ≤ n
 k : ∀ e ∈ es.toList, ∃ x : Lb, (x.n.length ≤ 1099511627776 ∧ x.v.length ≤ 1099511627776) ∧ e.key = lbV x ∧ f x ≠ [] ∧ w.ownsRow B 3 1 e.val (f x).length ((f x).flatMap encN)
 a : ∀ x, f x ≠ [] → ∃ e ∈ es.toList, e.key = lbV x
 o : ∀ e ∈ es.toList, ∀ e' ∈ es.toList, e.key ≠ e'.key → e.val.ownBlock ≠ e'.val.ownBlock
theorem Kcg {w : World} {B n sz r : Nat} {T : TypeId} {v : Value} {xs : List Value} (h : w.ownsRow B T sz v n xs) (hv : v.ownBlock = some r) : ∃ cur, w.heap[r]? = some (.cells cur T (0, 0)) := by
 rcases h.2 with ⟨rfl, _⟩ | ⟨g, cap, cur, rfl, _, hg, _⟩
 ·cases hv
 ·cases hv; exact ⟨cur, hg⟩
theorem Ktc {w : World} {B n sz : Nat} {T : TypeId} {v : Value} {xs : List Value} (h : w.ownsRow B T sz v n xs) (hn : n ≠ 0) : ∃ r, v.ownBlock = some r := by
 rcases h.2 with ⟨rfl, h0⟩ | ⟨g, cap, cur, rfl, _⟩
 ·exact absurd h0 hn
 ·exact ⟨g, rfl⟩
theorem Kdb {w : World} {b : Nat} (o' : Obj) : w.grownBy (setBlock w b o') (some b) :=
 ⟨rfl, rfl, rfl, by show _ ≤ (w.heap.setIfInBounds b o').size; simp, fun k hk hne => by
  show (w.heap.setIfInBounds b o')[k]? = _
  rw [Array.getElem?_setIfInBounds, if_neg]; rintro rfl
  exact hne rfl⟩
theorem Kfu {w : World} {b : Nat} {o : Obj} (o' : Obj) (h : w.heap[b]? = some o) : (setBlock w b o').heap[b]? = some o' := by
 show (w.heap.setIfInBounds b o')[b]? = _
 rw [Array.getElem?_setIfInBounds, if_pos rfl, if_pos (Array.getElem?_eq_some_iff.1 h).1]
theorem Khp (w : World) (b : Nat) (o' : Obj) : (setBlock w b o').heap.size = w.heap.size := by
 show (w.heap.setIfInBounds b o').size = _
 simp
theorem Khz {w : World} {B n sz b : Nat} {T : TypeId} {v : Value} {xs : List Value} {es : Array MapEntry} {clock : Nat} (h : w.ownsRow B T sz v n xs) (hb : w.heap[b]? = some (.map es clock)) : v.ownBlock ≠ some b := fun hv => by
 obtain ⟨cur, hc⟩ := Kcg h hv; rw [hb] at hc; cases hc
theorem Kyf {w : World} {B b n : Nat} {f : Lb → List Nat} {es : Array MapEntry} {clock : Nat} (h : LMap w B b f n es clock) : ∀ e ∈ es.toList, ∃ l, keyOf Tryz.prog 99 e.key = some l := fun e he => by
 obtain ⟨x, hz, hk, _⟩ := h.k e he; rw [hk]; exact Kmm x (by unfold maxLen; omega) (by unfold maxLen; omega)
theorem LMap.new (w : World) (B : Nat) : LMap (w.alloc (.map #[] 0)) B w.heap.size (fun _ => []) 0 #[] 0 :=
 ⟨World.alloc_heap_new w _, ⟨by simp, by simp, by simp⟩, by simp, by simp, fun x hx => absurd rfl hx, by simp⟩
theorem LMap.kept {w w' : World} {B b n : Nat} {f : Lb → List Nat} {es : Array MapEntry} {clock : Nat} (h : LMap w B b f n es clock) {row : Option Nat} (hg : w.grownBy w' row) (hr : ∀ r, row = some r → ∃ cur t, w.heap[r]? = some (.cells cur t (0, 0)) ∧ t ≠ 3) : LMap w' B b f n es clock := by
 have hlt := (Array.getElem?_eq_some_iff.1 h.h).1; refine ⟨(hg.block b hlt (fun e => ?_)).trans h.h, h.st, h.sz, fun e he => ?_, h.a, h.o⟩
 ·obtain ⟨cur, t, hc, _⟩ := hr b e.symm; rw [h.h] at hc; cases hc
 ·obtain ⟨x, hz, hk, hf, hw⟩ := h.k e he; refine ⟨x, hz, hk, hf, hw.kept hg (.inr fun e' => ?_)⟩; obtain ⟨r, hr'⟩ := Ktc hw (by rw [Ne, List.length_eq_zero_iff]; exact hf); obtain ⟨cur, hc⟩ := Kcg hw hr'; obtain ⟨cur2, t, hc2, ht⟩ := hr r (e' ▸ hr'); rw [hc] at hc2; injection hc2 with hc2; injection hc2 with _ hc2; exact ht hc2.symm
theorem LMap.mono {w : World} {B b n m : Nat} {f : Lb → List Nat} {es : Array MapEntry} {clock : Nat} (h : LMap w B b f n es clock) (hm : n ≤ m) : LMap w B b f m es clock := ⟨h.h, h.st, Nat.le_trans h.sz hm, h.k, h.a, h.o⟩
theorem LMap.below {w w' : World} {B b n : Nat} {f : Lb → List Nat} {es : Array MapEntry} {clock : Nat} (h : LMap w B b f n es clock) (hb : Below w.heap.size w w') : LMap w' B b f n es clock :=
 h.kept (row := none) ⟨hb.os, hb.tape, hb.output, hb.size, fun k hk _ => hb.block k hk⟩ (fun r e => by cases e)
def addF (f : Lb → List Nat) (x : Lb) (i : Nat) : Lb → List Nat := fun y => if y = x then f x ++ [i] else f y
theorem LMap.step {w : World} {B b n : Nat} {f : Lb → List Nat} {es : Array MapEntry} {clock : Nat} (h : LMap w B b f n es clock) (x : Lb) (hx : x.n.length ≤ 1099511627776 ∧ x.v.length ≤ 1099511627776) (i : Nat) (hB : B ≤ w.heap.size) :
  ∃ (v0 : Value) (st : Nat) (es1 : Array MapEntry) (clock1 : Nat), (Instr.mapEntry 104 (.map (some b)) (lbV x)).run Tryz.prog w = .ok (.tuple #[v0, .int .i64 (st : Int)]) (setBlock w b (.map es1 clock1)) ∧
   (setBlock w b (.map es1 clock1)).ownsRow B 3 1 v0 (f x).length ((f x).flatMap encN) ∧ v0.ownBlock ≠ some b ∧
   ∀ (w2 : World) (val : Value), (setBlock w b (.map es1 clock1)).grownBy w2 v0.ownBlock → w2.ownsRow B 3 1 val ((f x).length + 1) ((f x).flatMap encN ++ encN i) → (val.ownBlock = v0.ownBlock ∨ val.ownBlock = some w.heap.size) →
    ∃ es' clock', (Instr.entryStore 104 (.map (some b)) (.int .i64 (st : Int)) val).run Tryz.prog w2 = .ok () (setBlock w2 b (.map es' clock')) ∧ LMap (setBlock w2 b (.map es' clock')) B b (addF f x i) (n + 1) es' clock' ∧ (∀ e' ∈ es'.toList, e'.val = val ∨ e' ∈ es.toList) ∧ (v0.ownBlock = none ∨ ∃ e ∈ es.toList, e.val = v0) := by
 obtain ⟨kl, hkl⟩ := Kmm x (by unfold maxLen; omega) (by unfold maxLen; omega); obtain ⟨v0, st, es1, clock1, h1, h2, h3⟩ := Qfc h.h h.st (Kyf h) hkl; have hg1 : w.grownBy (setBlock w b (.map es1 clock1)) (some b) := Kdb _
 have hrow : w.ownsRow B 3 1 v0 (f x).length ((f x).flatMap encN) := by
  rcases h2 with ⟨e0, he0, hk0, rfl⟩ | ⟨hno, rfl⟩
  ·obtain ⟨y, _, hy, _, hw⟩ := h.k e0 he0; rw [hk0] at hy; rw [Kfd hy]; exact hw
  ·have hf : f x = [] := by
    rcases hfx : f x with _ | ⟨a, l⟩
    ·rfl
    ·obtain ⟨e, he, hk⟩ := h.a x (by rw [hfx]; simp); exact absurd hk (hno e he)
   rw [hf]; exact World.ownsRow_nil _ _ _ _
 have hvb := Khz hrow h.h; refine ⟨v0, st, es1, clock1, h1, hrow.kept hg1 (.inr hvb), hvb, fun w2 val hg2 hr2 hblk => ?_⟩; have hb2 : w2.heap[b]? = some (.map es1 clock1) := (hg2.block b (by rw [Khp]; exact (Array.getElem?_eq_some_iff.1 h.h).1) (Ne.symm hvb)).trans (Kfu _ h.h); obtain ⟨es', clock', h4, h5, h6, h7⟩ := h3 w2 val hb2; have hg3 : w2.grownBy (setBlock w2 b (.map es' clock')) (some b) := Kdb _
 have others : ∀ e ∈ es.toList, e.key ≠ lbV x → e.val.ownBlock ≠ v0.ownBlock ∧ e.val.ownBlock ≠ val.ownBlock := fun e he hk => by
  obtain ⟨y, _, hy, hf, hw⟩ := h.k e he; obtain ⟨r, hr⟩ := Ktc hw (by rw [Ne, List.length_eq_zero_iff]; exact hf)
  have q1 : e.val.ownBlock ≠ v0.ownBlock := by
   rcases h2 with ⟨e0, he0, hk0, rfl⟩ | ⟨_, rfl⟩
   ·exact h.o e he e0 he0 (by rw [hk0]; exact hk)
   ·rw [hr]; intro h; cases h
  refine ⟨q1, fun hh => ?_⟩; rcases hblk with hv | hv
  ·exact q1 (hh.trans hv)
  ·rw [hr] at hh; rw [hv] at hh; injection hh with hh; have := (hw.lt r hr).2; omega
 refine ⟨es', clock', h4, ⟨Kfu _ hb2, h5, by have := h.sz; omega, fun e he => ?_, fun y hy => ?_, fun e he e' he' hne => ?_⟩, fun e he => ?_, ?_⟩
 ·rcases (h7 e).1 he with rfl | ⟨he, hk⟩
  ·refine ⟨x, hx, rfl, by simp [addF], ?_⟩; have e1 : addF f x i x = f x ++ [i] := by simp [addF]
   rw [e1, List.length_append, List.flatMap_append]; have := hr2.kept hg3 (.inr (Khz hr2 hb2)); simpa using this
  ·obtain ⟨y, hz, hy, hf, hw⟩ := h.k e he
   have hyx : y ≠ x := by
    rintro rfl; exact hk hy
   have e1 : addF f x i y = f y := by simp [addF, hyx]
   refine ⟨y, hz, hy, by rw [e1]; exact hf, ?_⟩; rw [e1]; have w1 := hw.kept hg1 (.inr (Khz hw h.h)); have w2' := w1.kept hg2 (.inr (others e he hk).1); exact w2'.kept hg3 (.inr (Khz w2' hb2))
 ·by_cases hyx : y = x
  ·subst hyx; exact ⟨_, (h7 _).2 (.inl rfl), rfl⟩
  ·have e1 : addF f x i y = f y := by simp [addF, hyx]
   rw [e1] at hy; obtain ⟨e, he, hk⟩ := h.a y hy; exact ⟨e, (h7 e).2 (.inr ⟨he, by rw [hk]; exact fun h => hyx (Kfd h)⟩), hk⟩
 ·rcases (h7 e).1 he with rfl | ⟨he, hk⟩
  ·rcases (h7 e').1 he' with rfl | ⟨he', hk'⟩
   ·exact absurd rfl hne
   ·exact Ne.symm (others e' he' hk').2
  ·rcases (h7 e').1 he' with rfl | ⟨he', hk'⟩
   ·exact (others e he hk).2
   ·exact h.o e he e' he' hne
 ·rcases (h7 e).1 he with rfl | ⟨he, _⟩
  ·exact .inl rfl
  ·exact .inr he
 ·rcases h2 with ⟨e0, he0, _, rfl⟩ | ⟨_, rfl⟩
  ·exact .inr ⟨e0, he0, rfl⟩
  ·exact .inl rfl
end Go.Proofs.YtdoiekknhnbepaaGreatDoor
namespace Go.Proofs.YtdoiekknhnbepaaGreatDoor
open Go.RowKit
open Go.ChangeMaps (setBlock)
open Go.MapKept
structure RIt (w : World) (b r : Nat) (es : Array MapEntry) (clock : Nat) (out : List MapEntry) (cnt : Nat) : Prop where
 ex : ∃ since seen c0, w.heap[b]? = some (.map es clock) ∧ w.heap[r]? = some (.mapIter (some b) since seen c0) ∧ (∀ x ∈ es.toList, x.born < since) ∧ (leftOf es seen).size = cnt ∧
  (∀ x ∈ es.toList, seen.contains x.born = true ↔ x ∈ out) ∧ since ≤ c0 ∧ since ≤ clock
 sub : ∀ x ∈ out, x ∈ es.toList
 nd : out.Nodup
section
variable {w w' : World} {b r : Nat} {es : Array MapEntry} {clock : Nat} {out : List MapEntry} {cnt : Nat}
theorem RIt.map (h : RIt w b r es clock out cnt) : w.heap[b]? = some (.map es clock) := by obtain ⟨_, _, _, hb, _⟩ := h.ex; exact hb
theorem RIt.blt (h : RIt w b r es clock out cnt) : b < w.heap.size := (Array.getElem?_eq_some_iff.1 h.map).1
theorem RIt.rlt (h : RIt w b r es clock out cnt) : r < w.heap.size := by obtain ⟨_, _, _, _, hr, _⟩ := h.ex; exact (Array.getElem?_eq_some_iff.1 hr).1
theorem RIt.ne (h : RIt w b r es clock out cnt) : r ≠ b := by
 obtain ⟨_, _, _, hb, hr, _⟩ := h.ex; intro e; rw [e, hb] at hr; cases hr
theorem RIt.kept {row : Option Nat} (h : RIt w b r es clock out cnt) (hg : w.grownBy w' row) (hb' : some b ≠ row) (hr' : some r ≠ row) : RIt w' b r es clock out cnt := by
 have h1 := h.blt; have h2 := h.rlt; obtain ⟨since, seen, c0, hb, hr, rest⟩ := h.ex; exact ⟨⟨since, seen, c0, (hg.block b h1 hb').trans hb, (hg.block r h2 hr').trans hr, rest⟩, h.sub, h.nd⟩
theorem RIt.below (h : RIt w b r es clock out cnt) (hb : Below w.heap.size w w') : RIt w' b r es clock out cnt := h.kept (row := none) ⟨hb.os, hb.tape, hb.output, hb.size, fun k hk _ => hb.block k hk⟩ (by simp) (by simp)
variable {P : Program} {ops : Array Oper} {rest : List Oper} {o : Oper} {a : Act} {Q : Exit → Act → World → Prop}
theorem Kmu (hg : o.guard = none) (m : Operand) (t : TypeId) (hop : o.op = Op.range t m) (k e : TypeId) (ht : P.underlying t = some (.map k e)) (hm : a.eval m = .map (some b)) (hb : w.heap[b]? = some (.map es clock)) (hst : Stamped es clock)
  (hK : ∀ w', RIt w' b w.heap.size es clock [] es.size → w.grownBy w' none → w'.heap.size = w.heap.size + 1 → wpList P ops Q rest (a.put o.dst (.pointer (some ⟨w.heap.size, 0, none⟩))) w') :
  wpList P ops Q (o :: rest) a w := by
 refine wpList_plain hg fun K' hK' => ?_
 have hlt := (Array.getElem?_eq_some_iff.1 hb).1; have hrun := run_range_map (P := P) w t k e b es clock ht hb; unfold Oper.wp; simp [execOp, hop, hm, hrun, Result.andThen]; refine hK' _ _ (hK _ ⟨⟨clock, #[], clock, ((MapKept.heap_alloc w _).2 b hlt).trans hb, (MapKept.heap_alloc w _).1, hst.1, by simp [leftOf], fun x _ => by simp, Nat.le_refl _, Nat.le_refl _⟩, by simp, by simp⟩ (World.grownBy_alloc w _ none) (by simp))
theorem RIt.next (h : RIt w b r es clock out cnt) (hst : Stamped es clock) (ty : TypeId) :
  (cnt = 0 ∧ (∀ x ∈ es.toList, x ∈ out) ∧ (Instr.next (.pointer (some ⟨r, 0, none⟩)) false ty).run P w = .ok (.tuple #[.bool false]) w) ∨
  ∃ e w' cnt', e ∈ es.toList ∧ e ∉ out ∧ (Instr.next (.pointer (some ⟨r, 0, none⟩)) false ty).run P w = .ok (.tuple #[.bool true, e.key, e.val]) w' ∧ RIt w' b r es clock (out ++ [e]) cnt' ∧ cnt' < cnt ∧ w.grownBy w' (some r) ∧ w'.heap.size = w.heap.size ∧
   (Instr.entry (.pointer (some ⟨r, 0, none⟩))).run P w' = .ok (.tuple #[e.key, e.val]) w' := by
 have hne := h.ne; have hsub := h.sub; have hnd := h.nd; obtain ⟨since, seen, c0, hb, hr, hold, rfl, hl1, hsc, hsk⟩ := h.ex; rcases run_next_at (P := P) w ty r b since c0 seen es clock hr hb hold hsc with ⟨h0, hrun⟩ | ⟨e, he, w1, hal, hrun⟩
 ·exact Or.inl ⟨h0, fun x hx => (hl1 x hx).1 (all_seen es seen h0 x hx), hrun⟩
 ·obtain ⟨hem, hes⟩ := mem_left he; have hr1 : w1.heap[r]? = some (.mapIter (some b) since seen c0) := by rcases hal with rfl | rfl <;> exact hr
  have hb1 : w1.heap[b]? = some (.map es clock) := by rcases hal with rfl | rfl <;> exact hb
  have hset := heap_set (o' := .mapIter (some b) since (seen.push e.born) clock) hr1; have hb' : (setBlock w1 r (.mapIter (some b) since (seen.push e.born) clock)).heap[b]? = some (.map es clock) := (hset.2 b (fun e1 => hne e1.symm)).trans hb1
  have heo : e ∉ out := fun hm => by
   have := (hl1 e hem).2 hm; rw [hes] at this; cases this
  refine Or.inr ⟨e, _, _, hem, heo, hrun, ⟨⟨since, seen.push e.born, clock, hb', hset.1, hold, rfl, fun x hx => ?_, hsk, hsk⟩, fun x hx => ?_, ?_⟩, left_shrinks es seen e he, ?_, ?_, run_entry_at _ r b since seen es clock e hset.1 hb' hem hst.2.1⟩
  ·rw [contains_push, List.mem_append, List.mem_singleton, ← hl1 x hx, Bool.or_eq_true, beq_iff_eq]; constructor
   ·rintro (h | h)
    ·exact .inl h
    ·exact .inr (born_inj hst.2.1 hx hem h)
   ·rintro (h | h)
    ·exact .inl h
    ·exact .inr (by rw [h])
  ·rcases List.mem_append.1 hx with h | h
   ·exact hsub x h
   ·rw [List.mem_singleton.1 h]; exact hem
  ·exact List.nodup_append.2 ⟨hnd, by simp, fun x hx y hy => by rw [List.mem_singleton.1 hy]; rintro rfl; exact heo hx⟩
  ·rcases hal with rfl | rfl <;> exact ⟨rfl, rfl, rfl, by simp [setBlock], fun i _ hi => hset.2 i (fun e1 => hi (by rw [e1]))⟩
  ·rcases hal with rfl | rfl <;> simp [setBlock]
structure Qhn (es : Array MapEntry) (out : List MapEntry) (cnt : Nat) : Prop where
 z : cnt = 0
 all : ∀ x ∈ es.toList, x ∈ out
structure Qgt {α : Type} (P : Program) (mkK : α → Value) (w : World) (b r : Nat) (es : Array MapEntry) (clock : Nat) (out : List MapEntry) (cnt : Nat) (x : α) (v : Value) (w' : World) : Prop where
 ex : ∃ e cnt', e ∈ es.toList ∧ e ∉ out ∧ e.key = mkK x ∧ e.val = v ∧ RIt w' b r es clock (out ++ [e]) cnt' ∧ cnt' < cnt
 g : w.grownBy w' (some r)
 s : w'.heap.size = w.heap.size
 run : (Instr.entry (.pointer (some ⟨r, 0, none⟩))).run P w' = .ok (.tuple #[mkK x, v]) w'
theorem Knu {α : Type} (hg : o.guard = none) (it : Operand) (hop : o.op = Op.next it false) (mkK : α → Value) (b r : Nat) (es : Array MapEntry) (clock : Nat) (out : List MapEntry) (cnt : Nat) (hst : Stamped es clock) (hk : ∀ e ∈ es.toList, ∃ x, e.key = mkK x)
  (hit : a.eval it = .pointer (some ⟨r, 0, none⟩)) (h : RIt w b r es clock out cnt)
  (hDone : Qhn es out cnt → wpList P ops Q rest (a.put o.dst (.tuple #[.bool false])) w)
  (hMore : ∀ (x : α) (v : Value) (w' : World), Qgt P mkK w b r es clock out cnt x v w' → wpList P ops Q rest (a.put o.dst (.tuple #[.bool true, mkK x, v])) w') :
  wpList P ops Q (o :: rest) a w := by
 refine wpList_plain hg fun K' hK' => ?_
 unfold Oper.wp; rcases h.next (P := P) hst o.type with ⟨h0, hl, hrun⟩ | ⟨e, w', cnt', he, hno, hrun, hrg, hlt, hgr, hsz, hen⟩
 ·simp [execOp, hop, hit, hrun, Result.andThen]; exact hK' _ _ (hDone ⟨h0, hl⟩)
 ·obtain ⟨x, hx⟩ := hk e he; rw [hx] at hrun hen; simp [execOp, hop, hit, hrun, Result.andThen]; exact hK' _ _ (hMore x _ w' ⟨⟨e, cnt', he, hno, hx, rfl, hrg, hlt⟩, hgr, hsz, hen⟩)
end
end Go.Proofs.YtdoiekknhnbepaaGreatDoor
namespace Go.Proofs.YtdoiekknhnbepaaGreatDoor
open Go.RowKit Go.Shelf Go.Sort
theorem Kqh {α : Type} {enc : α → List Value} {k : Nat} (hk : ∀ x, (enc x).length = k) (l : List α) : (l.flatMap enc).length = l.length * k := by
 induction l with
 | nil => simp
 | cons x l ih => rw [List.flatMap_cons, List.length_append, ih, hk, List.length_cons, Nat.succ_mul]; omega
theorem Kta {α : Type} {enc : α → List Value} {k : Nat} (hk : ∀ x, (enc x).length = k) : ∀ (l : List α) (i j : Nat) (x : α), l[i]? = some x → j < k → (l.flatMap enc)[i * k + j]? = (enc x)[j]?
 | [], _, _, _, h, _ => by simp at h
 | y :: l, 0, j, x, h, hj => by
  simp only [List.getElem?_cons_zero, Option.some.injEq] at h; subst h; rw [List.flatMap_cons, List.getElem?_append_left (by rw [hk]; omega), Nat.zero_mul, Nat.zero_add]
 | y :: l, i + 1, j, x, h, hj => by
  rw [List.flatMap_cons, List.getElem?_append_right (by rw [hk, Nat.succ_mul]; omega), hk, show (i + 1) * k + j - k = i * k + j by rw [Nat.succ_mul]; omega]; exact Kta hk l i j x (by simpa using h) hj
theorem Krb {α : Type} [Inhabited α] {enc : α → List Value} {k : Nat} (hk : ∀ x, (enc x).length = k) (h0 : 0 < k) {l : List α} {t : Nat} (h : t < l.length * k) : (l.flatMap enc)[t]? = some ((enc l[t / k]!)[t % k]!) := by
 have hl : t / k < l.length := Nat.div_lt_of_lt_mul (by rw [Nat.mul_comm]; exact h); have h1 : l[t / k]? = some l[t / k]! := by rw [getElem!_pos l _ hl, List.getElem?_eq_getElem hl]
 have h2 := Kta hk l (t / k) (t % k) _ h1 (Nat.mod_lt _ h0); rw [show t / k * k + t % k = t by rw [Nat.mul_comm]; exact Nat.div_add_mod t k] at h2; have h3 : t % k < (enc l[t / k]!).length := by rw [hk]; exact Nat.mod_lt _ h0
 rw [h2, List.getElem?_eq_getElem h3, getElem!_pos (enc l[t / k]!) _ h3]
section
variable {α : Type} [Inhabited α] {enc : α → List Value} {k : Nat} {w : World} {B g n cap : Nat} {T : TypeId} {l : List α}
theorem Kyr (hk : ∀ x, (enc x).length = k) (h0 : 0 < k) (hown : w.ownsRow B T k (.slice (some ⟨g, 0, none⟩) n cap) n (l.flatMap enc)) (hl : l.length = n) : HoldsK enc k w g 0 l.toArray := by
 rcases hown.2 with ⟨he, _⟩ | ⟨g', cap', cur, he, h1, h2, h3, h4, h5, h6⟩
 ·cases he
 ·injection he with he _ hcc; injection he with he; injection he with he _ _; subst he hcc; intro t ht; rw [size_flatK] at ht; have ht' : t < l.length * k := by simpa using ht
  refine ⟨?_, by simp [World.frozen?, h2]⟩; rw [get_flatK _ _ _ _ ht, Nat.zero_add, cell_of_row w g t cur _ (0, 0) h2]
  have e1 : cur[t]? = (l.flatMap enc)[t]? := by
   rw [← h6, List.getElem?_take_of_lt (by rw [hl] at ht'; exact ht')]; simp
  rw [e1, Krb hk h0 ht']; simp only [List.getElem!_toArray, id]
theorem Kxj (enc : α → List Value) (k : Nat) (w : World) (blk off n : Nat) (d : Array α) (os : Array Obj) : w.grownBy (sortWorldK enc k w blk off n d os) (some blk) := by
 refine ⟨rfl, rfl, rfl, ?_, ?_⟩
 ·simp [sortWorldK, grow, putRowK, putRow, mapBlock, Sort.ahead]
 ·intro j hj hne; have hb : ¬ blk = j := fun e => hne (by rw [e])
  simp only [sortWorldK, grow, putRowK, putRow, mapBlock, Sort.ahead]; rw [Array.getElem?_append_left (by simpa using hj), Array.getElem?_modify, if_neg hb]
theorem Kzf (hk : ∀ x, (enc x).length = k) (h0 : 0 < k) (hown : w.ownsRow B T k (.slice (some ⟨g, 0, none⟩) n cap) n (l.flatMap enc)) (hl : l.length = n) (d : Array α) (hd : d.size = n) (m : Nat) (os : Array Obj) :
  (sortWorldK enc k w g 0 m d os).ownsRow B T k (.slice (some ⟨g, 0, none⟩) n cap) n (d.toList.flatMap enc) := by
 have hlt := World.ownsRow.lt hown g rfl; rcases hown.2 with ⟨he, _⟩ | ⟨g', cap', cur, he, h1, h2, h3, h4, h5, h6⟩
 ·cases he
 ·injection he with he _ hcc; injection he with he; injection he with he _ _; subst he hcc; refine ⟨by rw [Kqh hk]; simp [hd], .inr ⟨g, cap, putCells id 0 (flatK enc k d) cur, rfl, h1, ?_, h3, h4, by simp [putCells, h5], ?_⟩⟩
  ·simp only [sortWorldK, grow, putRowK, putRow, mapBlock, Sort.ahead]; rw [Array.getElem?_append_left (by simpa using hlt.2), Array.getElem?_modify, if_pos rfl, h2]; rfl
  ·apply List.ext_getElem?; intro t
   by_cases ht : t < n * k
   ·rw [List.getElem?_take_of_lt ht, Krb hk h0 (by simpa [hd] using ht)]; have htc : t < cur.size := by rw [h5]; exact Nat.lt_of_lt_of_le ht (Nat.mul_le_mul_right k h3)
    have hts : t < (flatK enc k d).size := by rw [size_flatK, hd]; exact ht
    simp only [putCells, Array.getElem?_toList, Array.getElem?_mapIdx, Array.getElem?_eq_getElem htc, Option.map_some]; rw [if_pos ⟨Nat.zero_le _, by simpa using hts⟩, Nat.sub_zero, get_flatK _ _ _ _ (by rw [hd]; exact ht)]; congr 2; have hq : t / k < d.size := Nat.div_lt_of_lt_mul (by rw [Nat.mul_comm, hd]; exact ht); rw [getElem!_pos d _ hq, getElem!_pos d.toList _ (by simpa using hq)]; simp
   ·rw [List.getElem?_eq_none (by rw [List.length_take]; omega), List.getElem?_eq_none (by rw [Kqh hk]; simp [hd]; omega)]
theorem Kyo {d : Array α} (hl : l.length = n) (h : PermIn 0 n l.toArray d) : d.size = n ∧ d.toList.Perm l := by
 obtain ⟨hsz, _, hpm⟩ := h; have hsz' : d.size = n := by rw [hsz]; simpa using hl
 refine ⟨hsz', ?_⟩; have e1 : (d.extract 0 n) = d := by rw [← hsz']; simp
 have e2 : (l.toArray.extract 0 n) = l.toArray := by rw [← hl]; simp
 rw [e1, e2] at hpm; simpa using hpm
theorem Kyx {d : Array α} {lt : α → α → Bool} (hd : d.size = n) (h : SortedIn lt 0 n d) : d.toList.Pairwise fun a b => lt b a = false := by
 rw [List.pairwise_iff_getElem]; intro i j hi hj hij; have hi' : i < d.size := by simpa using hi
 have hj' : j < d.size := by simpa using hj
 have := h i j (Nat.zero_le _) hij (by omega); rw [getElem!_pos d j hj', getElem!_pos d i hi'] at this; exact this
end
end Go.Proofs.YtdoiekknhnbepaaGreatDoor
namespace Go.Proofs.YtdoiekknhnbepaaGreatDoor
open Go.RowKit Go.Shelf Go.Sort
attribute [local go_sem ↓] Go.wp_at_zero Go.wp_at_succ
attribute [local go_sem] Later.cell
def cfK (x y : Lb) : Int := cmpL [x] [y]
theorem Qfo (x y : Lb) : cmpL [x] [y] < 0 ↔ ltB x y := by
 rw [Qdx]; constructor
 ·rintro (h | ⟨_, h⟩)
  ·exact h
  ·simp [cmpL] at h
 ·exact .inl
theorem ltK (x y : Lb) : ltOf cfK x y = decide (ltB x y) := by
 unfold ltOf cfK; rw [decide_eq_decide]; exact Qfo x y
theorem Krh (x y : Lb) : ltB x y ∨ x = y ∨ ltB y x := by
 by_cases h1 : ltB x y
 ·exact .inl h1
 ·by_cases h2 : ltB y x
  ·exact .inr (.inr h2)
  ·exact .inr (.inl (Kpu h1 h2))
theorem swoK : SWO (ltOf cfK) where
 irrefl x := by rw [ltK]; simpa using Keb x
 trans x y z h1 h2 := by
  rw [ltK, decide_eq_true_eq] at h1 h2 ⊢; exact Kfw h1 h2
 ntrans x y z h1 h2 := by
  rw [ltK, decide_eq_false_iff_not] at h1 h2 ⊢; intro h; rcases Krh x y with k | rfl | k
  ·exact h1 k
  ·exact h2 h
  ·exact h2 (Kfw k h)
set_option maxRecDepth 100000 in
set_option maxHeartbeats 1000000 in
theorem Kwk (x y : Lb) (W : World) :
  Calls Tryz.prog 120 #[.agg (encLb x).toArray, .agg (encLb y).toArray] W fun e w' => e = .returned (.int .i64 (cfK x y)) ∧ ∃ q os', w' = grow (W.drewN q) os' := by
 suffices h : Calls Tryz.prog 120 #[.agg (encLb x).toArray, .agg (encLb y).toArray] W fun e w' => e = .returned (.int .i64 (cfK x y)) ∧ Grown W w' by
  refine h.mono ?_; rintro e w' ⟨he, ⟨p, hp⟩⟩; exact ⟨he, p.n, p.os, hp⟩
 have HC := Lib.hid (fun (w : World) (p q : Nat) (h1 : Blk w p 99 #[.string ⟨x.n.toArray⟩, .string ⟨x.v.toArray⟩]) (h2 : Blk w q 99 #[.string ⟨y.n.toArray⟩, .string ⟨y.v.toArray⟩]) =>
  Kog [x] [y] (some ⟨p, 0, none⟩) (some ⟨q, 0, none⟩) 1 1 1 1 w (cfK x y) rfl
   (⟨rfl, fun _ => ⟨p, 0, rfl, h1.lt, fun i z hz j v hv => by
    cases i with
    | zero => simp only [List.getElem?_cons_zero, Option.some.injEq] at hz; subst hz; rw [h1.cell]; simpa [encLb] using hv
    | succ i => simp at hz⟩⟩)
   (⟨rfl, fun _ => ⟨q, 0, rfl, h2.lt, fun i z hz j v hv => by
    cases i with
    | zero => simp only [List.getElem?_cons_zero, Option.some.injEq] at hz; subst hz; rw [h2.cell]; simpa [encLb] using hv
    | succ i => simp at hz⟩⟩) (by decide) (by decide))
 obtain ⟨r, hr⟩ : ∃ r, cfK x y = r := ⟨_, rfl⟩; unfold encLb; obtain ⟨N, hN⟩ : ∃ N : ByteArray, (⟨x.n.toArray⟩ : ByteArray) = N := ⟨_, rfl⟩; obtain ⟨V, hV⟩ : ∃ N : ByteArray, (⟨x.v.toArray⟩ : ByteArray) = N := ⟨_, rfl⟩; obtain ⟨N2, hN2⟩ : ∃ N : ByteArray, (⟨y.n.toArray⟩ : ByteArray) = N := ⟨_, rfl⟩; obtain ⟨V2, hV2⟩ : ∃ N : ByteArray, (⟨y.v.toArray⟩ : ByteArray) = N := ⟨_, rfl⟩; rw [hr] at HC ⊢; rw [hN, hV, hN2, hV2] at HC ⊢; clear hN hV hN2 hV2 hr; go_enter Tryz.func120, Tryz.ntmps120
 go_wp2_with fail
 have hg : Grown W ((((W.alloc (.cells #[.string N, .string V] 99)).alloc (.cells #[.string N2, .string V2] 99)).alloc (.cells #[.string N, .string V] 99)).alloc (.cells #[.string N2, .string V2] 99)) := ((((Grown.refl _).alloc _).alloc _).alloc _).alloc _; refine (HC.out _ (W.heap.size + 1 + 1) (W.heap.size + 1 + 1 + 1) ((Blk.newAt (by simp)).alloc _) (Blk.newAt (by simp))).mono ?_; rintro _ w' ⟨rfl, hb⟩; go_wp2_with fail
 go_ret
 exact ⟨rfl, hg.trans hb⟩
end Go.Proofs.YtdoiekknhnbepaaGreatDoor
