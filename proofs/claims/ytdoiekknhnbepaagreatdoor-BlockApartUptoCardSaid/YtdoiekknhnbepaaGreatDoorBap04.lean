/- Merged (what the claim wants of): RegTake, BlkTake, CrcPlain, EncSealE, EncSealF, UnpPlain, BackPlain, PostPlain, SpnPlain2. -/
import Derived.Test.YtdoiekknhnbepaaGreatDoorBap01
import Derived.OrdersHeld
import Derived.Test.YtdoiekknhnbepaaGreatDoorBap03
import Derived.Test.YtdoiekknhnbepaaGreatDoorBap02
set_option linter.unusedVariables false
set_option linter.unusedSimpArgs false
set_option maxRecDepth 100000
set_option maxHeartbeats 8000000
namespace Go.Proofs.YtdoiekknhnbepaaGreatDoor
section
open Go.RowKit
section
variable {P : Program} {ops : Array Oper} {Q : Exit → Act → World → Prop} {md : Region.Mode} {S : World → Prop} {k : Nat}
def Kcg (P : Program) (md : Region.Mode) (ops : Array Oper) (Q : Exit → Act → World → Prop) (S : World → Prop) (k : Nat) : Nat → Array Bool → Act → World → Prop
 | 0, L, a, w => Region.ready md ops L = [] ∧ Q .normal a w
 | f + 1, L, a, w => (Region.ready md ops L = [] → Q .normal a w) ∧ ∀ i ∈ Region.ready md ops L, wpOp P ops Q i (fun a' w' => ((L.setIfInBounds i true).getD k false = false → S w') ∧ Kcg P md ops Q S k f (L.setIfInBounds i true) a' w') a w
theorem Koi : ∀ (f : Nat) (L : Array Bool) (a : Act) (w : World), Kcg P md ops Q S k f L a w → wpAny P md ops Q f L a w
 | 0, _, _, _, h => h
 | f + 1, _, _, _, h => ⟨h.1, fun i hi => wpOp_mono (fun a' w' h' => Koi f _ a' w' h'.2) (h.2 i hi)⟩
theorem Ksq {i : Nat} {oi : Oper} {v : Value} (hi : ops[i]? = some oi) (hsel : ∀ (j : Nat) (o : Oper) cs b, ops[j]? = some o → o.op ≠ .select cs b)
  (hQ : ∀ c a w, Q (.panic c) (a.put oi.dst v) w → Q (.panic c) a w) (hki : k ≠ i) (hkw : ∀ ok, ops[k]? = some ok → ∃ e ∈ ok.after, Region.binds md e = true ∧ e.on = i) :
  ∀ (f : Nat) (L : Array Bool) (a : Act) (w : World),
   (∀ j oj, ops[j]? = some oj → j ≠ i → L.getD j true = false → (∀ e ∈ oj.after, Region.binds md e = true → e.on ≠ i) → oi.apart ops oj = true) →
   i ∈ Region.ready md ops L → YieldsIf P ops S oi v a → L.getD k false = false → S w →
   Kcg P md ops Q S k f (L.setIfInBounds i true) (a.put oi.dst v) w → Kcg P md ops Q S k (f + 1) L a w := by
 intro f
 induction f with
 | zero =>
  intro L a w hfree hr hy hl hS H; refine ⟨fun h => (by rw [h] at hr; cases hr), fun j hj => ?_⟩
  by_cases hji : j = i
  ·subst hji; exact hy.wpOp hi hS ⟨fun _ => hS, H⟩
  ·have := ready_mono hj hji; rw [H.1] at this; cases this
 | succ f ih =>
  intro L a w hfree hr hy hl hS H; refine ⟨fun h => (by rw [h] at hr; cases hr), fun j hj => ?_⟩
  by_cases hji : j = i
  ·subst hji; exact hy.wpOp hi hS ⟨fun _ => hS, H⟩
  ·have h1 := H.2 j (ready_mono hj hji); obtain ⟨hjun, oj, hoj, hall⟩ := mem_ready.1 hj
   have hnot : ∀ e ∈ oj.after, Region.binds md e = true → e.on ≠ i := fun e he hb heq => by
    have h1 := hall e he hb; have h0 := (mem_ready.1 hr).1; rw [heq] at h1; rcases Nat.lt_or_ge i L.size with h' | h'
    ·simp [h'] at h0 h1; rw [h0] at h1; cases h1
    ·simp [Array.getElem?_eq_none h'] at h1
   have hjk : j ≠ k := by
    rintro rfl; obtain ⟨e, he, hb, heq⟩ := hkw oj hoj; exact hnot e he hb heq
   have h2 := wpOp_putIf hoj (hfree j oj hoj hji hjun hnot) (fun cs b => hsel i oi cs b hi) (fun cs b => hsel j oj cs b hoj) hQ hy h1
   have hfree' : ∀ k ok, ops[k]? = some ok → k ≠ i → (L.setIfInBounds j true).getD k true = false →
     (∀ e ∈ ok.after, Region.binds md e = true → e.on ≠ i) → oi.apart ops ok = true := fun k ok hk hki hun hno => by
    refine hfree k ok hk hki ?_ hno
    by_cases hjk : j = k
    ·subst hjk; exact hjun
    ·rw [getD_set_ne true hjk] at hun; exact hun
   have hl1 : (L.setIfInBounds j true).getD k false = false := by rw [getD_set_ne false hjk]; exact hl
   have hl2 : ((L.setIfInBounds i true).setIfInBounds j true).getD k false = false := by rw [getD_set_ne false hjk, getD_set_ne false (Ne.symm hki)]; exact hl
   refine wpOp_mono (fun a' w' h3 => ⟨fun _ => h3.2.1 hl2, ih (L.setIfInBounds j true) a' w' hfree' (ready_mono hr (Ne.symm hji)) h3.1 hl1 (h3.2.1 hl2) ?_⟩) h2; rw [Array.setIfInBounds_comm _ _ hji]; exact h3.2.2
theorem Krl {i : Nat} {oi : Oper} {v : Value} (hi : ops[i]? = some oi) (hsel : ∀ (j : Nat) (o : Oper) cs b, ops[j]? = some o → o.op ≠ .select cs b)
  (hQ : ∀ c a w, Q (.panic c) (a.put oi.dst v) w → Q (.panic c) a w) (hki : k ≠ i) :
  ∀ (f : Nat) (L : Array Bool) (a : Act) (w : World),
   (∀ j oj, ops[j]? = some oj → j ≠ i → L.getD j true = false → (∀ e ∈ oj.after, Region.binds md e = true → e.on ≠ i) → oi.apart ops oj = true) →
   i ∈ Region.ready md ops L → YieldsIf P ops (fun _ => True) oi v a → (L.getD k false = false → S w) →
   Kcg P md ops Q S k f (L.setIfInBounds i true) (a.put oi.dst v) w → Kcg P md ops Q S k (f + 1) L a w := by
 have same : ∀ L : Array Bool, (L.setIfInBounds i true).getD k false = L.getD k false := fun L => getD_set_ne false (Ne.symm hki)
 intro f
 induction f with
 | zero =>
  intro L a w hfree hr hy hS H; refine ⟨fun h => (by rw [h] at hr; cases hr), fun j hj => ?_⟩
  by_cases hji : j = i
  ·subst hji; exact hy.wpOp hi trivial ⟨fun h => hS (by rw [same] at h; exact h), H⟩
  ·have := ready_mono hj hji; rw [H.1] at this; cases this
 | succ f ih =>
  intro L a w hfree hr hy hS H; refine ⟨fun h => (by rw [h] at hr; cases hr), fun j hj => ?_⟩
  by_cases hji : j = i
  ·subst hji; exact hy.wpOp hi trivial ⟨fun h => hS (by rw [same] at h; exact h), H⟩
  ·have h1 := H.2 j (ready_mono hj hji); obtain ⟨hjun, oj, hoj, hall⟩ := mem_ready.1 hj
   have hnot : ∀ e ∈ oj.after, Region.binds md e = true → e.on ≠ i := fun e he hb heq => by
    have h1 := hall e he hb; have h0 := (mem_ready.1 hr).1; rw [heq] at h1; rcases Nat.lt_or_ge i L.size with h' | h'
    ·simp [h'] at h0 h1; rw [h0] at h1; cases h1
    ·simp [Array.getElem?_eq_none h'] at h1
   have h2 := wpOp_putIf hoj (hfree j oj hoj hji hjun hnot) (fun cs b => hsel i oi cs b hi) (fun cs b => hsel j oj cs b hoj) hQ hy h1
   have hfree' : ∀ k ok, ops[k]? = some ok → k ≠ i → (L.setIfInBounds j true).getD k true = false →
     (∀ e ∈ ok.after, Region.binds md e = true → e.on ≠ i) → oi.apart ops ok = true := fun k ok hk hki hun hno => by
    refine hfree k ok hk hki ?_ hno
    by_cases hjk : j = k
    ·subst hjk; exact hjun
    ·rw [getD_set_ne true hjk] at hun; exact hun
   have hl2 : ((L.setIfInBounds i true).setIfInBounds j true).getD k false = (L.setIfInBounds j true).getD k false := by
    rw [Array.setIfInBounds_comm _ _ (Ne.symm hji), same]
   refine wpOp_mono (fun a' w' h3 => ⟨fun h => h3.2.1 (by rw [hl2]; exact h), ih (L.setIfInBounds j true) a' w' hfree' (ready_mono hr (Ne.symm hji)) h3.1 (fun h => h3.2.1 (by rw [hl2]; exact h)) ?_⟩) h2; rw [Array.setIfInBounds_comm _ _ hji]; exact h3.2.2
def Kul (md : Region.Mode) (ops : Array Oper) (k i : Nat) : Bool := k != i && match ops[k]? with | some ok => ok.after.any fun e => Region.binds md e && e.on == i | none => true
theorem Kaf {i : Nat} {oi : Oper} {v : Value} {f : Nat} {L : Array Bool} {a : Act} {w : World} {d : Option Tmp} (hi : ops[i]? = some oi) (hd : oi.dst = d)
  (hs : Region.noSelect ops = true) (hf : Region.free md ops L i = true) (hr : (Region.ready md ops L).contains i = true) (hkw : Kul md ops k i = true) (hl : L.getD k false = false)
  (hQ : ∀ c a w, Q (.panic c) (a.put oi.dst v) w → Q (.panic c) a w) (hy : YieldsIf P ops S oi v a) (hS : S w)
  (h : Kcg P md ops Q S k f (L.setIfInBounds i true) (a.put d v) w) : Kcg P md ops Q S k (f + 1) L a w := by
 subst hd; simp only [Kul, Bool.and_eq_true, bne_iff_ne, ne_eq] at hkw; refine Ksq hi (Region.noSelect_spec hs) hQ hkw.1 (fun ok hok => ?_) f L a w (Region.free_spec hi hf) (by simpa using hr) hy hl hS h; have h2 := hkw.2; rw [hok] at h2; obtain ⟨e, he, hb⟩ := Array.any_eq_true'.1 h2; simp only [Bool.and_eq_true, beq_iff_eq] at hb; exact ⟨e, he, hb.1, hb.2⟩
theorem Kaa {i : Nat} {oi : Oper} {v : Value} {f : Nat} {L : Array Bool} {a : Act} {w : World} {d : Option Tmp} (hi : ops[i]? = some oi) (hd : oi.dst = d)
  (hs : Region.noSelect ops = true) (hf : Region.free md ops L i = true) (hr : (Region.ready md ops L).contains i = true) (hki : (k != i) = true)
  (hQ : ∀ c a w, Q (.panic c) (a.put oi.dst v) w → Q (.panic c) a w) (hw : Region.wanted oi (yielded ops a.tmps) = true) (hy : ∀ w, (execOp a.eval oi).run P w = .ok (.value v) w) (hS : L.getD k false = false → S w)
  (h : Kcg P md ops Q S k f (L.setIfInBounds i true) (a.put d v) w) : Kcg P md ops Q S k (f + 1) L a w := by
 subst hd; exact Krl hi (Region.noSelect_spec hs) hQ (by simpa using hki) f L a w (Region.free_spec hi hf) (by simpa using hr) (.inl ⟨hw, fun w _ => hy w⟩) hS h
@[irreducible] def OpW (o : Oper) (P : Program) (a : Act) (w : World) (K : Act → World → Prop) (Q : Exit → Act → World → Prop) : Prop := o.wp P a w K Q
theorem OpW.of {o : Oper} {P : Program} {a : Act} {w : World} {K : Act → World → Prop} {Q : Exit → Act → World → Prop} (h : o.wp P a w K Q) : OpW o P a w K Q := by
 unfold OpW; exact h
theorem OpW.out {o : Oper} {P : Program} {a : Act} {w : World} {K : Act → World → Prop} {Q : Exit → Act → World → Prop} (h : OpW o P a w K Q) : o.wp P a w K Q := by
 unfold OpW at h; exact h
theorem Kac {i : Nat} {o : Oper} {f : Nat} {L : Array Bool} {a : Act} {w : World} (hr0 : (Region.ready md ops L == [i]) = true) (ho : ops[i]? = some o) (hg : o.guard = none)
  (h : OpW o P a w (fun a' w' => ((L.setIfInBounds i true).getD k false = false → S w') ∧ Kcg P md ops Q S k f (L.setIfInBounds i true) a' w') Q) : Kcg P md ops Q S k (f + 1) L a w := by
 have hr : Region.ready md ops L = [i] := eq_of_beq hr0; refine ⟨fun h0 => absurd (hr.symm.trans h0) (by simp), fun j hj => ?_⟩; rw [hr] at hj; obtain rfl : j = i := by simpa using hj
 unfold wpOp; simp only [ho]; rw [if_pos (by simp [Region.wanted, hg])]; exact .inl h.out
theorem Kav {i : Nat} {o : Oper} {f : Nat} {L : Array Bool} {a : Act} {w : World} (hr : (Region.ready md ops L == [i]) = true) (ho : ops[i]? = some o) (hg : o.guard = none) (hL : (L.setIfInBounds i true).getD k false = true)
  (h : OpW o P a w (fun a' w' => Kcg P md ops Q S k f (L.setIfInBounds i true) a' w') Q) : Kcg P md ops Q S k (f + 1) L a w :=
 Kac hr ho hg (.of (Oper.wp_mono (fun a' w' h' => ⟨fun e => absurd (hL.symm.trans e) (by simp), h'⟩) h.out))
theorem Kcs {i j : Nat} {o o' : Oper} {f : Nat} {L : Array Bool} {a : Act} {w : World} (hr0 : (Region.ready md ops L == [i, j]) = true) (ho : ops[i]? = some o) (hg : o.guard = none) (ho' : ops[j]? = some o') (hg' : o'.guard = none)
  (h : OpW o P a w (fun a' w' => ((L.setIfInBounds i true).getD k false = false → S w') ∧ Kcg P md ops Q S k f (L.setIfInBounds i true) a' w') Q)
  (h' : OpW o' P a w (fun a' w' => ((L.setIfInBounds j true).getD k false = false → S w') ∧ Kcg P md ops Q S k f (L.setIfInBounds j true) a' w') Q) : Kcg P md ops Q S k (f + 1) L a w := by
 have hr : Region.ready md ops L = [i, j] := eq_of_beq hr0; refine ⟨fun h0 => absurd (hr.symm.trans h0) (by simp), fun l hl => ?_⟩; rw [hr] at hl; rcases (by simpa using hl : l = i ∨ l = j) with rfl | rfl
 ·unfold wpOp; simp only [ho]; rw [if_pos (by simp [Region.wanted, hg])]; exact .inl h.out
 ·unfold wpOp; simp only [ho']; rw [if_pos (by simp [Region.wanted, hg'])]; exact .inl h'.out
theorem Kao {L : Array Bool} {a : Act} {w : World} (hr : (Region.ready md ops L == []) = true) (h : Q .normal a w) : ∀ f, Kcg P md ops Q S k f L a w
 | 0 => ⟨eq_of_beq hr, h⟩
 | _ + 1 => ⟨fun _ => h, by rw [eq_of_beq hr]; simp⟩
theorem Kas {id : Nat} {a : Act} {w : World} (S : World → Prop) (k n : Nat) (hm : P.follows .mixedOrders = true) (hn : ops.size = n)
  (h : Kcg P .any ops Q S k n (Array.replicate n false) a w.drew) : (Code.region id ops true).wp P Q a w := by
 subst hn; exact wp_region_any hm (Koi _ _ _ _ h)
theorem Oper.wp_ran {o : Oper} {a : Act} {w w' : World} {v : Value} {d : Option Tmp} {K : Act → World → Prop} (hd : o.dst = d) (h : (execOp a.eval o).run P w = .ok (.value v) w') (hK : K (a.put d v) w') : OpW o P a w K Q := .of <| by
 subst hd; unfold Oper.wp; rw [h]; exact hK
theorem Oper.wp_skipped {o : Oper} {a : Act} {w w' : World} {K : Act → World → Prop} (hd : o.dst = none) (h : (execOp a.eval o).run P w = .ok .skip w') (hK : K (a.put none undef) w') : OpW o P a w K Q := .of <| by
 unfold Oper.wp; rw [h]; show K (a.put o.dst undef) w'
 rw [hd]; exact hK
theorem Oper.wp_called {o : Oper} {a : Act} {w w1 : World} {g : FuncId} {args : Array Value} {d : Option Tmp} {K : Act → World → Prop} (hd : o.dst = d) (h : (execOp a.eval o).run P w = .ok (.enter g args) w1) {N : Value → World → Prop}
  (hc : Calls P g args w1 fun e w' => ∃ u, e = .returned u ∧ N u w') (hK : ∀ u w', N u w' → K (a.put d u) w') : OpW o P a w K Q := .of <| by
 subst hd; unfold Oper.wp; rw [h]; refine Calls.mono hc ?_; rintro e w' ⟨u, rfl, hn⟩; exact hK u w' hn
end
end
section
open Go.RowKit
open Lib renaming hid → Jh
open List renaming setIfInBounds_toArray → Ja, set_cons_zero → Jb, set_cons_succ → Jc
attribute [local go_sem ↓] Go.wp_at_zero Go.wp_at_succ
attribute [local go_sem] Later.cell
def Rdr (pr : Nat) (S : ByteArray) (i : Nat) (w : World) : Prop := Blk w pr 167 #[.string S, .int .i64 (i : Int)]
def TkO (w : World) (OK : Value → Nat → World → Prop) (BAD : Prop) (e : Ending) (w' : World) : Prop :=
 Below w.heap.size w w' ∧ ((∃ v j, e = .returned (.tuple #[v, .int .i64 ((j : Nat) : Int), .int .i64 0]) ∧ OK v j w') ∨ (BAD ∧ ∃ v n f, f ≠ 0 ∧ e = .returned (.tuple #[v, n, .int .i64 ((f : Nat) : Int)])))
def RdTk (pr : Nat) (w : World) (OK : Value → Nat → World → Prop) (BAD : Prop) (e : Ending) (w' : World) : Prop :=
 (∃ v j w1, e = .returned v ∧ OK v j w1 ∧ Below w.heap.size w w1 ∧ w' = w1.setCell ⟨pr, 1, none⟩ (.int .i64 ((j : Nat) : Int))) ∨ (BAD ∧ ∃ f, f ≠ 0 ∧ e = Kaq f ∧ Below w.heap.size w w')
theorem Klg (pr i : Nat) (S : ByteArray) (w : World) (h : Rdr pr S i w) (OK : Value → Nat → World → Prop) (BAD : Prop) (hc : Calls Tryz.prog 78 #[.string S, .int .i64 (i : Int)] w.drew (TkO w OK BAD)) :
  Calls Tryz.prog 77 #[.pointer (some ⟨pr, 0, none⟩), .func (.func 78) #[] #[]] w (RdTk pr w OK BAD) := by
 have H := Jh h; have HC := Jh hc; have c0 : w.drew.cell? ⟨pr, 0, none⟩ = some (.string S) := (show Blk w _ _ _ from h).drew.cell 0; have c1 : w.drew.cell? ⟨pr, 1, none⟩ = some (.int .i64 (i : Int)) := (show Blk w _ _ _ from h).drew.cell 1; clear h hc; go_enter Tryz.func77, Tryz.ntmps77
 go_upto_region 1 with fail
 have hS : w.drew.cell? ⟨pr, 0, none⟩ = some (.string S) ∧ w.drew.cell? ⟨pr, 1, none⟩ = some (.int .i64 (i : Int)) := ⟨c0, c1⟩; refine Kas (fun w' => w'.cell? ⟨pr, 0, none⟩ = some (.string S) ∧ w'.cell? ⟨pr, 1, none⟩ = some (.int .i64 (i : Int))) 9 17 (by kernel_rfl) rfl ?_; rw [show Array.replicate 17 false = #[false, false, false, false, false, false, false, false, false, false, false, false, false, false, false, false, false] from rfl]; refine Kaa (i := 0) (d := some 9) rfl rfl (by kernel_rfl) (by kernel_rfl) (by kernel_rfl) rfl (fun _ _ _ h => h) (by rfl) (fun w => by go_simp; try rfl) (fun _ => hS) ?_; simp only [Act.put, Ja, Jb, Jc]; refine Kaa (i := 1) (d := some 10) rfl rfl (by kernel_rfl) (by kernel_rfl) (by kernel_rfl) rfl (fun _ _ _ h => h) (by rfl) (fun w => by go_simp; try rfl) (fun _ => hS) ?_; simp only [Act.put, Ja, Jb, Jc]; refine Kaa (i := 2) (d := some 11) rfl rfl (by kernel_rfl) (by kernel_rfl) (by kernel_rfl) rfl (fun _ _ _ h => h) (by rfl) (fun w => by go_simp; try rfl) (fun _ => hS) ?_; simp only [Act.put, Ja, Jb, Jc]; refine Kaa (i := 3) (d := some 12) rfl rfl (by kernel_rfl) (by kernel_rfl) (by kernel_rfl) rfl (fun _ _ _ h => h) (by rfl) (fun w => by go_simp; try rfl) (fun _ => hS) ?_; simp only [Act.put, Ja, Jb, Jc]; refine Kaf (i := 4) (d := some 13) rfl rfl (by kernel_rfl) (by kernel_rfl) (by kernel_rfl) (by kernel_rfl) rfl (fun _ _ _ h => h) (.inl ⟨by rfl, fun w hw => by (obtain ⟨ha, hb⟩ := hw; go_simp; try rfl)⟩) hS ?_; simp only [Act.put, Ja, Jb, Jc]; refine Kaa (i := 5) (d := some 14) rfl rfl (by kernel_rfl) (by kernel_rfl) (by kernel_rfl) rfl (fun _ _ _ h => h) (by rfl) (fun w => by go_simp; try rfl) (fun _ => hS) ?_; simp only [Act.put, Ja, Jb, Jc]; refine Kaa (i := 6) (d := some 15) rfl rfl (by kernel_rfl) (by kernel_rfl) (by kernel_rfl) rfl (fun _ _ _ h => h) (by rfl) (fun w => by go_simp; try rfl) (fun _ => hS) ?_; simp only [Act.put, Ja, Jb, Jc]; refine Kaa (i := 7) (d := some 16) rfl rfl (by kernel_rfl) (by kernel_rfl) (by kernel_rfl) rfl (fun _ _ _ h => h) (by rfl) (fun w => by go_simp; try rfl) (fun _ => hS) ?_; simp only [Act.put, Ja, Jb, Jc]; refine Kaf (i := 8) (d := some 17) rfl rfl (by kernel_rfl) (by kernel_rfl) (by kernel_rfl) (by kernel_rfl) rfl (fun _ _ _ h => h) (.inl ⟨by rfl, fun w hw => by (obtain ⟨ha, hb⟩ := hw; go_simp; try rfl)⟩) hS ?_; simp only [Act.put, Ja, Jb, Jc]; refine Kac (i := 9) (by kernel_rfl) rfl rfl ?_; refine Oper.wp_called (d := some 18) (w1 := w.drew) (g := 78) (args := #[.string S, .int .i64 (i : Int)]) rfl (by go_simp; try rfl) (N := fun u w' => Below w.heap.size w w' ∧ ((∃ v j, u = .tuple #[v, .int .i64 ((j : Nat) : Int), .int .i64 0] ∧ OK v j w') ∨ (BAD ∧ ∃ v n f, f ≠ 0 ∧ u = .tuple #[v, n, .int .i64 ((f : Nat) : Int)]))) (HC.out.mono ?_) ?_
 ·rintro _ w2 ⟨hb, ⟨v, j, rfl, hok⟩ | ⟨hbad, v, n, f, hf, rfl⟩⟩
  ·exact ⟨_, rfl, hb, .inl ⟨v, j, rfl, hok⟩⟩
  ·exact ⟨_, rfl, hb, .inr ⟨hbad, v, n, f, hf, rfl⟩⟩
 ·rintro _ w2 ⟨hb, ⟨v, j, rfl, hok⟩ | ⟨hbad, v, n, f, hf, rfl⟩⟩
  ·refine ⟨fun h => absurd h (by decide), ?_⟩; simp only [Act.put, Ja, Jb, Jc]; refine Kaa (i := 10) (d := some 8) rfl rfl (by kernel_rfl) (by kernel_rfl) (by kernel_rfl) rfl (fun _ _ _ h => h) (by rfl) (fun w => by go_simp; try rfl) (fun h => absurd h (by decide)) ?_; simp only [Act.put, Ja, Jb, Jc]; refine Kaa (i := 11) (d := some 19) rfl rfl (by kernel_rfl) (by kernel_rfl) (by kernel_rfl) rfl (fun _ _ _ h => h) (by rfl) (fun w => by go_simp; try rfl) (fun h => absurd h (by decide)) ?_; simp only [Act.put, Ja, Jb, Jc]; refine Kaa (i := 12) (d := some 20) rfl rfl (by kernel_rfl) (by kernel_rfl) (by kernel_rfl) rfl (fun _ _ _ h => h) (by rfl) (fun w => by go_simp; try rfl) (fun h => absurd h (by decide)) ?_; simp only [Act.put, Ja, Jb, Jc]; refine Kaa (i := 13) (d := some 21) rfl rfl (by kernel_rfl) (by kernel_rfl) (by kernel_rfl) rfl (fun _ _ _ h => h) (by rfl) (fun w => by go_simp; try rfl) (fun h => absurd h (by decide)) ?_; simp only [Act.put, Ja, Jb, Jc]; refine Kaa (i := 14) (d := some 5) rfl rfl (by kernel_rfl) (by kernel_rfl) (by kernel_rfl) rfl (fun _ _ _ h => h) (by rfl) (fun w => by go_simp; try rfl) (fun h => absurd h (by decide)) ?_; simp only [Act.put, Ja, Jb, Jc]; refine Kaa (i := 15) (d := some 6) rfl rfl (by kernel_rfl) (by kernel_rfl) (by kernel_rfl) rfl (fun _ _ _ h => h) (by rfl) (fun w => by go_simp; try rfl) (fun h => absurd h (by decide)) ?_; simp only [Act.put, Ja, Jb, Jc]; refine Kaa (i := 16) (d := some 7) rfl rfl (by kernel_rfl) (by kernel_rfl) (by kernel_rfl) rfl (fun _ _ _ h => h) (by rfl) (fun w => by go_simp; try rfl) (fun h => absurd h (by decide)) ?_; simp only [Act.put, Ja, Jb, Jc]; refine Kao (by kernel_rfl) ?_ _; have HOK := Jh hok; have HB := Jh hb; have hq := (show Blk w _ _ _ from H.out).below hb (show Blk w _ _ _ from H.out).lt; have d0 : w2.cell? ⟨pr, 0, none⟩ = some (.string S) := hq.cell 0; have d1 : w2.cell? ⟨pr, 1, none⟩ = some (.int .i64 (i : Int)) := hq.cell 1; have f1 : w2.frozen? ⟨pr, 1, none⟩ = false := hq.frozen 1; clear hok hb hq hS c0 c1; go_wp2_with fail
   go_ret
   exact .inl ⟨v, j, w2, rfl, HOK.out, HB.out, rfl⟩
  ·have e0 : ((f : Int) != 0) = true := by simp; omega
   refine ⟨fun h => absurd h (by decide), ?_⟩; simp only [Act.put, Ja, Jb, Jc]; refine Kaa (i := 10) (d := some 8) rfl rfl (by kernel_rfl) (by kernel_rfl) (by kernel_rfl) rfl (fun _ _ _ h => h) (by rfl) (fun w => by go_simp; try rfl) (fun h => absurd h (by decide)) ?_; simp only [Act.put, Ja, Jb, Jc]; refine Kaa (i := 11) (d := some 19) rfl rfl (by kernel_rfl) (by kernel_rfl) (by kernel_rfl) rfl (fun _ _ _ h => h) (by rfl) (fun w => by go_simp; try rfl) (fun h => absurd h (by decide)) ?_; simp only [Act.put, Ja, Jb, Jc]; refine Kaa (i := 12) (d := some 20) rfl rfl (by kernel_rfl) (by kernel_rfl) (by kernel_rfl) rfl (fun _ _ _ h => h) (by rfl) (fun w => by go_simp; try rfl) (fun h => absurd h (by decide)) ?_; simp only [Act.put, Ja, Jb, Jc]; refine Kaa (i := 13) (d := some 21) rfl rfl (by kernel_rfl) (by kernel_rfl) (by kernel_rfl) rfl (fun _ _ _ h => h) (by rfl) (fun w => by go_simp; try rfl) (fun h => absurd h (by decide)) ?_; simp only [Act.put, Ja, Jb, Jc]; refine Kaa (i := 14) (d := some 5) rfl rfl (by kernel_rfl) (by kernel_rfl) (by kernel_rfl) rfl (fun _ _ _ h => h) (by rfl) (fun w => by go_simp; try rfl) (fun h => absurd h (by decide)) ?_; simp only [Act.put, Ja, Jb, Jc]; refine Kaa (i := 15) (d := some 6) rfl rfl (by kernel_rfl) (by kernel_rfl) (by kernel_rfl) rfl (fun _ _ _ h => h) (by rfl) (fun w => by go_simp; try rfl) (fun h => absurd h (by decide)) ?_; simp only [Act.put, Ja, Jb, Jc]; refine Kaa (i := 16) (d := some 7) rfl rfl (by kernel_rfl) (by kernel_rfl) (by kernel_rfl) rfl (fun _ _ _ h => h) (by rfl) (fun w => by go_simp; try rfl) (fun h => absurd h (by decide)) ?_; simp only [Act.put, Ja, Jb, Jc]; refine Kao (by kernel_rfl) ?_ _; have HB := Jh hb; clear hb hS c0 c1; go_wp2_with fail
   refine Kae rfl ?_; exact .inr ⟨hbad, f, hf, rfl, HB.out⟩
theorem Klb (pr i : Nat) (S : ByteArray) (w : World) (h : Rdr pr S i w) (OK : Value → Nat → World → Prop) (BAD : Prop) (hc : Calls Tryz.prog 80 #[.string S, .int .i64 (i : Int)] w.drew (TkO w OK BAD)) :
  Calls Tryz.prog 79 #[.pointer (some ⟨pr, 0, none⟩), .func (.func 80) #[] #[]] w (RdTk pr w OK BAD) := by
 have H := Jh h; have HC := Jh hc; have c0 : w.drew.cell? ⟨pr, 0, none⟩ = some (.string S) := (show Blk w _ _ _ from h).drew.cell 0; have c1 : w.drew.cell? ⟨pr, 1, none⟩ = some (.int .i64 (i : Int)) := (show Blk w _ _ _ from h).drew.cell 1; clear h hc; go_enter Tryz.func79, Tryz.ntmps79
 go_upto_region 1 with fail
 have hS : w.drew.cell? ⟨pr, 0, none⟩ = some (.string S) ∧ w.drew.cell? ⟨pr, 1, none⟩ = some (.int .i64 (i : Int)) := ⟨c0, c1⟩; refine Kas (fun w' => w'.cell? ⟨pr, 0, none⟩ = some (.string S) ∧ w'.cell? ⟨pr, 1, none⟩ = some (.int .i64 (i : Int))) 9 17 (by kernel_rfl) rfl ?_; rw [show Array.replicate 17 false = #[false, false, false, false, false, false, false, false, false, false, false, false, false, false, false, false, false] from rfl]; refine Kaa (i := 0) (d := some 9) rfl rfl (by kernel_rfl) (by kernel_rfl) (by kernel_rfl) rfl (fun _ _ _ h => h) (by rfl) (fun w => by go_simp; try rfl) (fun _ => hS) ?_; simp only [Act.put, Ja, Jb, Jc]; refine Kaa (i := 1) (d := some 10) rfl rfl (by kernel_rfl) (by kernel_rfl) (by kernel_rfl) rfl (fun _ _ _ h => h) (by rfl) (fun w => by go_simp; try rfl) (fun _ => hS) ?_; simp only [Act.put, Ja, Jb, Jc]; refine Kaa (i := 2) (d := some 11) rfl rfl (by kernel_rfl) (by kernel_rfl) (by kernel_rfl) rfl (fun _ _ _ h => h) (by rfl) (fun w => by go_simp; try rfl) (fun _ => hS) ?_; simp only [Act.put, Ja, Jb, Jc]; refine Kaa (i := 3) (d := some 12) rfl rfl (by kernel_rfl) (by kernel_rfl) (by kernel_rfl) rfl (fun _ _ _ h => h) (by rfl) (fun w => by go_simp; try rfl) (fun _ => hS) ?_; simp only [Act.put, Ja, Jb, Jc]; refine Kaf (i := 4) (d := some 13) rfl rfl (by kernel_rfl) (by kernel_rfl) (by kernel_rfl) (by kernel_rfl) rfl (fun _ _ _ h => h) (.inl ⟨by rfl, fun w hw => by (obtain ⟨ha, hb⟩ := hw; go_simp; try rfl)⟩) hS ?_; simp only [Act.put, Ja, Jb, Jc]; refine Kaa (i := 5) (d := some 14) rfl rfl (by kernel_rfl) (by kernel_rfl) (by kernel_rfl) rfl (fun _ _ _ h => h) (by rfl) (fun w => by go_simp; try rfl) (fun _ => hS) ?_; simp only [Act.put, Ja, Jb, Jc]; refine Kaa (i := 6) (d := some 15) rfl rfl (by kernel_rfl) (by kernel_rfl) (by kernel_rfl) rfl (fun _ _ _ h => h) (by rfl) (fun w => by go_simp; try rfl) (fun _ => hS) ?_; simp only [Act.put, Ja, Jb, Jc]; refine Kaa (i := 7) (d := some 16) rfl rfl (by kernel_rfl) (by kernel_rfl) (by kernel_rfl) rfl (fun _ _ _ h => h) (by rfl) (fun w => by go_simp; try rfl) (fun _ => hS) ?_; simp only [Act.put, Ja, Jb, Jc]; refine Kaf (i := 8) (d := some 17) rfl rfl (by kernel_rfl) (by kernel_rfl) (by kernel_rfl) (by kernel_rfl) rfl (fun _ _ _ h => h) (.inl ⟨by rfl, fun w hw => by (obtain ⟨ha, hb⟩ := hw; go_simp; try rfl)⟩) hS ?_; simp only [Act.put, Ja, Jb, Jc]; refine Kac (i := 9) (by kernel_rfl) rfl rfl ?_; refine Oper.wp_called (d := some 18) (w1 := w.drew) (g := 80) (args := #[.string S, .int .i64 (i : Int)]) rfl (by go_simp; try rfl) (N := fun u w' => Below w.heap.size w w' ∧ ((∃ v j, u = .tuple #[v, .int .i64 ((j : Nat) : Int), .int .i64 0] ∧ OK v j w') ∨ (BAD ∧ ∃ v n f, f ≠ 0 ∧ u = .tuple #[v, n, .int .i64 ((f : Nat) : Int)]))) (HC.out.mono ?_) ?_
 ·rintro _ w2 ⟨hb, ⟨v, j, rfl, hok⟩ | ⟨hbad, v, n, f, hf, rfl⟩⟩
  ·exact ⟨_, rfl, hb, .inl ⟨v, j, rfl, hok⟩⟩
  ·exact ⟨_, rfl, hb, .inr ⟨hbad, v, n, f, hf, rfl⟩⟩
 ·rintro _ w2 ⟨hb, ⟨v, j, rfl, hok⟩ | ⟨hbad, v, n, f, hf, rfl⟩⟩
  ·refine ⟨fun h => absurd h (by decide), ?_⟩; simp only [Act.put, Ja, Jb, Jc]; refine Kaa (i := 10) (d := some 8) rfl rfl (by kernel_rfl) (by kernel_rfl) (by kernel_rfl) rfl (fun _ _ _ h => h) (by rfl) (fun w => by go_simp; try rfl) (fun h => absurd h (by decide)) ?_; simp only [Act.put, Ja, Jb, Jc]; refine Kaa (i := 11) (d := some 19) rfl rfl (by kernel_rfl) (by kernel_rfl) (by kernel_rfl) rfl (fun _ _ _ h => h) (by rfl) (fun w => by go_simp; try rfl) (fun h => absurd h (by decide)) ?_; simp only [Act.put, Ja, Jb, Jc]; refine Kaa (i := 12) (d := some 20) rfl rfl (by kernel_rfl) (by kernel_rfl) (by kernel_rfl) rfl (fun _ _ _ h => h) (by rfl) (fun w => by go_simp; try rfl) (fun h => absurd h (by decide)) ?_; simp only [Act.put, Ja, Jb, Jc]; refine Kaa (i := 13) (d := some 21) rfl rfl (by kernel_rfl) (by kernel_rfl) (by kernel_rfl) rfl (fun _ _ _ h => h) (by rfl) (fun w => by go_simp; try rfl) (fun h => absurd h (by decide)) ?_; simp only [Act.put, Ja, Jb, Jc]; refine Kaa (i := 14) (d := some 5) rfl rfl (by kernel_rfl) (by kernel_rfl) (by kernel_rfl) rfl (fun _ _ _ h => h) (by rfl) (fun w => by go_simp; try rfl) (fun h => absurd h (by decide)) ?_; simp only [Act.put, Ja, Jb, Jc]; refine Kaa (i := 15) (d := some 6) rfl rfl (by kernel_rfl) (by kernel_rfl) (by kernel_rfl) rfl (fun _ _ _ h => h) (by rfl) (fun w => by go_simp; try rfl) (fun h => absurd h (by decide)) ?_; simp only [Act.put, Ja, Jb, Jc]; refine Kaa (i := 16) (d := some 7) rfl rfl (by kernel_rfl) (by kernel_rfl) (by kernel_rfl) rfl (fun _ _ _ h => h) (by rfl) (fun w => by go_simp; try rfl) (fun h => absurd h (by decide)) ?_; simp only [Act.put, Ja, Jb, Jc]; refine Kao (by kernel_rfl) ?_ _; have HOK := Jh hok; have HB := Jh hb; have hq := (show Blk w _ _ _ from H.out).below hb (show Blk w _ _ _ from H.out).lt; have d0 : w2.cell? ⟨pr, 0, none⟩ = some (.string S) := hq.cell 0; have d1 : w2.cell? ⟨pr, 1, none⟩ = some (.int .i64 (i : Int)) := hq.cell 1; have f1 : w2.frozen? ⟨pr, 1, none⟩ = false := hq.frozen 1; clear hok hb hq hS c0 c1; go_wp2_with fail
   go_ret
   exact .inl ⟨v, j, w2, rfl, HOK.out, HB.out, rfl⟩
  ·have e0 : ((f : Int) != 0) = true := by simp; omega
   refine ⟨fun h => absurd h (by decide), ?_⟩; simp only [Act.put, Ja, Jb, Jc]; refine Kaa (i := 10) (d := some 8) rfl rfl (by kernel_rfl) (by kernel_rfl) (by kernel_rfl) rfl (fun _ _ _ h => h) (by rfl) (fun w => by go_simp; try rfl) (fun h => absurd h (by decide)) ?_; simp only [Act.put, Ja, Jb, Jc]; refine Kaa (i := 11) (d := some 19) rfl rfl (by kernel_rfl) (by kernel_rfl) (by kernel_rfl) rfl (fun _ _ _ h => h) (by rfl) (fun w => by go_simp; try rfl) (fun h => absurd h (by decide)) ?_; simp only [Act.put, Ja, Jb, Jc]; refine Kaa (i := 12) (d := some 20) rfl rfl (by kernel_rfl) (by kernel_rfl) (by kernel_rfl) rfl (fun _ _ _ h => h) (by rfl) (fun w => by go_simp; try rfl) (fun h => absurd h (by decide)) ?_; simp only [Act.put, Ja, Jb, Jc]; refine Kaa (i := 13) (d := some 21) rfl rfl (by kernel_rfl) (by kernel_rfl) (by kernel_rfl) rfl (fun _ _ _ h => h) (by rfl) (fun w => by go_simp; try rfl) (fun h => absurd h (by decide)) ?_; simp only [Act.put, Ja, Jb, Jc]; refine Kaa (i := 14) (d := some 5) rfl rfl (by kernel_rfl) (by kernel_rfl) (by kernel_rfl) rfl (fun _ _ _ h => h) (by rfl) (fun w => by go_simp; try rfl) (fun h => absurd h (by decide)) ?_; simp only [Act.put, Ja, Jb, Jc]; refine Kaa (i := 15) (d := some 6) rfl rfl (by kernel_rfl) (by kernel_rfl) (by kernel_rfl) rfl (fun _ _ _ h => h) (by rfl) (fun w => by go_simp; try rfl) (fun h => absurd h (by decide)) ?_; simp only [Act.put, Ja, Jb, Jc]; refine Kaa (i := 16) (d := some 7) rfl rfl (by kernel_rfl) (by kernel_rfl) (by kernel_rfl) rfl (fun _ _ _ h => h) (by rfl) (fun w => by go_simp; try rfl) (fun h => absurd h (by decide)) ?_; simp only [Act.put, Ja, Jb, Jc]; refine Kao (by kernel_rfl) ?_ _; have HB := Jh hb; clear hb hS c0 c1; go_wp2_with fail
   refine Kae rfl ?_; exact .inr ⟨hbad, f, hf, rfl, HB.out⟩
theorem Klh (pr i : Nat) (S : ByteArray) (w : World) (h : Rdr pr S i w) (OK : Value → Nat → World → Prop) (BAD : Prop) (hc : Calls Tryz.prog 91 #[.string S, .int .i64 (i : Int)] w.drew (TkO w OK BAD)) :
  Calls Tryz.prog 90 #[.pointer (some ⟨pr, 0, none⟩), .func (.func 91) #[] #[]] w (RdTk pr w OK BAD) := by
 have H := Jh h; have HC := Jh hc; have c0 : w.drew.cell? ⟨pr, 0, none⟩ = some (.string S) := (show Blk w _ _ _ from h).drew.cell 0; have c1 : w.drew.cell? ⟨pr, 1, none⟩ = some (.int .i64 (i : Int)) := (show Blk w _ _ _ from h).drew.cell 1; clear h hc; go_enter Tryz.func90, Tryz.ntmps90
 go_upto_region 1 with fail
 have hS : w.drew.cell? ⟨pr, 0, none⟩ = some (.string S) ∧ w.drew.cell? ⟨pr, 1, none⟩ = some (.int .i64 (i : Int)) := ⟨c0, c1⟩; refine Kas (fun w' => w'.cell? ⟨pr, 0, none⟩ = some (.string S) ∧ w'.cell? ⟨pr, 1, none⟩ = some (.int .i64 (i : Int))) 9 17 (by kernel_rfl) rfl ?_; rw [show Array.replicate 17 false = #[false, false, false, false, false, false, false, false, false, false, false, false, false, false, false, false, false] from rfl]; refine Kaa (i := 0) (d := some 9) rfl rfl (by kernel_rfl) (by kernel_rfl) (by kernel_rfl) rfl (fun _ _ _ h => h) (by rfl) (fun w => by go_simp; try rfl) (fun _ => hS) ?_; simp only [Act.put, Ja, Jb, Jc]; refine Kaa (i := 1) (d := some 10) rfl rfl (by kernel_rfl) (by kernel_rfl) (by kernel_rfl) rfl (fun _ _ _ h => h) (by rfl) (fun w => by go_simp; try rfl) (fun _ => hS) ?_; simp only [Act.put, Ja, Jb, Jc]; refine Kaa (i := 2) (d := some 11) rfl rfl (by kernel_rfl) (by kernel_rfl) (by kernel_rfl) rfl (fun _ _ _ h => h) (by rfl) (fun w => by go_simp; try rfl) (fun _ => hS) ?_; simp only [Act.put, Ja, Jb, Jc]; refine Kaa (i := 3) (d := some 12) rfl rfl (by kernel_rfl) (by kernel_rfl) (by kernel_rfl) rfl (fun _ _ _ h => h) (by rfl) (fun w => by go_simp; try rfl) (fun _ => hS) ?_; simp only [Act.put, Ja, Jb, Jc]; refine Kaf (i := 4) (d := some 13) rfl rfl (by kernel_rfl) (by kernel_rfl) (by kernel_rfl) (by kernel_rfl) rfl (fun _ _ _ h => h) (.inl ⟨by rfl, fun w hw => by (obtain ⟨ha, hb⟩ := hw; go_simp; try rfl)⟩) hS ?_; simp only [Act.put, Ja, Jb, Jc]; refine Kaa (i := 5) (d := some 14) rfl rfl (by kernel_rfl) (by kernel_rfl) (by kernel_rfl) rfl (fun _ _ _ h => h) (by rfl) (fun w => by go_simp; try rfl) (fun _ => hS) ?_; simp only [Act.put, Ja, Jb, Jc]; refine Kaa (i := 6) (d := some 15) rfl rfl (by kernel_rfl) (by kernel_rfl) (by kernel_rfl) rfl (fun _ _ _ h => h) (by rfl) (fun w => by go_simp; try rfl) (fun _ => hS) ?_; simp only [Act.put, Ja, Jb, Jc]; refine Kaa (i := 7) (d := some 16) rfl rfl (by kernel_rfl) (by kernel_rfl) (by kernel_rfl) rfl (fun _ _ _ h => h) (by rfl) (fun w => by go_simp; try rfl) (fun _ => hS) ?_; simp only [Act.put, Ja, Jb, Jc]; refine Kaf (i := 8) (d := some 17) rfl rfl (by kernel_rfl) (by kernel_rfl) (by kernel_rfl) (by kernel_rfl) rfl (fun _ _ _ h => h) (.inl ⟨by rfl, fun w hw => by (obtain ⟨ha, hb⟩ := hw; go_simp; try rfl)⟩) hS ?_; simp only [Act.put, Ja, Jb, Jc]; refine Kac (i := 9) (by kernel_rfl) rfl rfl ?_; refine Oper.wp_called (d := some 18) (w1 := w.drew) (g := 91) (args := #[.string S, .int .i64 (i : Int)]) rfl (by go_simp; try rfl) (N := fun u w' => Below w.heap.size w w' ∧ ((∃ v j, u = .tuple #[v, .int .i64 ((j : Nat) : Int), .int .i64 0] ∧ OK v j w') ∨ (BAD ∧ ∃ v n f, f ≠ 0 ∧ u = .tuple #[v, n, .int .i64 ((f : Nat) : Int)]))) (HC.out.mono ?_) ?_
 ·rintro _ w2 ⟨hb, ⟨v, j, rfl, hok⟩ | ⟨hbad, v, n, f, hf, rfl⟩⟩
  ·exact ⟨_, rfl, hb, .inl ⟨v, j, rfl, hok⟩⟩
  ·exact ⟨_, rfl, hb, .inr ⟨hbad, v, n, f, hf, rfl⟩⟩
 ·rintro _ w2 ⟨hb, ⟨v, j, rfl, hok⟩ | ⟨hbad, v, n, f, hf, rfl⟩⟩
  ·refine ⟨fun h => absurd h (by decide), ?_⟩; simp only [Act.put, Ja, Jb, Jc]; refine Kaa (i := 10) (d := some 8) rfl rfl (by kernel_rfl) (by kernel_rfl) (by kernel_rfl) rfl (fun _ _ _ h => h) (by rfl) (fun w => by go_simp; try rfl) (fun h => absurd h (by decide)) ?_; simp only [Act.put, Ja, Jb, Jc]; refine Kaa (i := 11) (d := some 19) rfl rfl (by kernel_rfl) (by kernel_rfl) (by kernel_rfl) rfl (fun _ _ _ h => h) (by rfl) (fun w => by go_simp; try rfl) (fun h => absurd h (by decide)) ?_; simp only [Act.put, Ja, Jb, Jc]; refine Kaa (i := 12) (d := some 20) rfl rfl (by kernel_rfl) (by kernel_rfl) (by kernel_rfl) rfl (fun _ _ _ h => h) (by rfl) (fun w => by go_simp; try rfl) (fun h => absurd h (by decide)) ?_; simp only [Act.put, Ja, Jb, Jc]; refine Kaa (i := 13) (d := some 21) rfl rfl (by kernel_rfl) (by kernel_rfl) (by kernel_rfl) rfl (fun _ _ _ h => h) (by rfl) (fun w => by go_simp; try rfl) (fun h => absurd h (by decide)) ?_; simp only [Act.put, Ja, Jb, Jc]; refine Kaa (i := 14) (d := some 5) rfl rfl (by kernel_rfl) (by kernel_rfl) (by kernel_rfl) rfl (fun _ _ _ h => h) (by rfl) (fun w => by go_simp; try rfl) (fun h => absurd h (by decide)) ?_; simp only [Act.put, Ja, Jb, Jc]; refine Kaa (i := 15) (d := some 6) rfl rfl (by kernel_rfl) (by kernel_rfl) (by kernel_rfl) rfl (fun _ _ _ h => h) (by rfl) (fun w => by go_simp; try rfl) (fun h => absurd h (by decide)) ?_; simp only [Act.put, Ja, Jb, Jc]; refine Kaa (i := 16) (d := some 7) rfl rfl (by kernel_rfl) (by kernel_rfl) (by kernel_rfl) rfl (fun _ _ _ h => h) (by rfl) (fun w => by go_simp; try rfl) (fun h => absurd h (by decide)) ?_; simp only [Act.put, Ja, Jb, Jc]; refine Kao (by kernel_rfl) ?_ _; have HOK := Jh hok; have HB := Jh hb; have hq := (show Blk w _ _ _ from H.out).below hb (show Blk w _ _ _ from H.out).lt; have d0 : w2.cell? ⟨pr, 0, none⟩ = some (.string S) := hq.cell 0; have d1 : w2.cell? ⟨pr, 1, none⟩ = some (.int .i64 (i : Int)) := hq.cell 1; have f1 : w2.frozen? ⟨pr, 1, none⟩ = false := hq.frozen 1; clear hok hb hq hS c0 c1; go_wp2_with fail
   go_ret
   exact .inl ⟨v, j, w2, rfl, HOK.out, HB.out, rfl⟩
  ·have e0 : ((f : Int) != 0) = true := by simp; omega
   refine ⟨fun h => absurd h (by decide), ?_⟩; simp only [Act.put, Ja, Jb, Jc]; refine Kaa (i := 10) (d := some 8) rfl rfl (by kernel_rfl) (by kernel_rfl) (by kernel_rfl) rfl (fun _ _ _ h => h) (by rfl) (fun w => by go_simp; try rfl) (fun h => absurd h (by decide)) ?_; simp only [Act.put, Ja, Jb, Jc]; refine Kaa (i := 11) (d := some 19) rfl rfl (by kernel_rfl) (by kernel_rfl) (by kernel_rfl) rfl (fun _ _ _ h => h) (by rfl) (fun w => by go_simp; try rfl) (fun h => absurd h (by decide)) ?_; simp only [Act.put, Ja, Jb, Jc]; refine Kaa (i := 12) (d := some 20) rfl rfl (by kernel_rfl) (by kernel_rfl) (by kernel_rfl) rfl (fun _ _ _ h => h) (by rfl) (fun w => by go_simp; try rfl) (fun h => absurd h (by decide)) ?_; simp only [Act.put, Ja, Jb, Jc]; refine Kaa (i := 13) (d := some 21) rfl rfl (by kernel_rfl) (by kernel_rfl) (by kernel_rfl) rfl (fun _ _ _ h => h) (by rfl) (fun w => by go_simp; try rfl) (fun h => absurd h (by decide)) ?_; simp only [Act.put, Ja, Jb, Jc]; refine Kaa (i := 14) (d := some 5) rfl rfl (by kernel_rfl) (by kernel_rfl) (by kernel_rfl) rfl (fun _ _ _ h => h) (by rfl) (fun w => by go_simp; try rfl) (fun h => absurd h (by decide)) ?_; simp only [Act.put, Ja, Jb, Jc]; refine Kaa (i := 15) (d := some 6) rfl rfl (by kernel_rfl) (by kernel_rfl) (by kernel_rfl) rfl (fun _ _ _ h => h) (by rfl) (fun w => by go_simp; try rfl) (fun h => absurd h (by decide)) ?_; simp only [Act.put, Ja, Jb, Jc]; refine Kaa (i := 16) (d := some 7) rfl rfl (by kernel_rfl) (by kernel_rfl) (by kernel_rfl) rfl (fun _ _ _ h => h) (by rfl) (fun w => by go_simp; try rfl) (fun h => absurd h (by decide)) ?_; simp only [Act.put, Ja, Jb, Jc]; refine Kao (by kernel_rfl) ?_ _; have HB := Jh hb; clear hb hS c0 c1; go_wp2_with fail
   refine Kae rfl ?_; exact .inr ⟨hbad, f, hf, rfl, HB.out⟩
theorem Klp (pr i : Nat) (S : ByteArray) (w : World) (h : Rdr pr S i w) (OK : Value → Nat → World → Prop) (BAD : Prop) (hc : Calls Tryz.prog 148 #[.string S, .int .i64 (i : Int)] w.drew (TkO w OK BAD)) :
  Calls Tryz.prog 147 #[.pointer (some ⟨pr, 0, none⟩), .func (.func 148) #[] #[]] w (RdTk pr w OK BAD) := by
 have H := Jh h; have HC := Jh hc; have c0 : w.drew.cell? ⟨pr, 0, none⟩ = some (.string S) := (show Blk w _ _ _ from h).drew.cell 0; have c1 : w.drew.cell? ⟨pr, 1, none⟩ = some (.int .i64 (i : Int)) := (show Blk w _ _ _ from h).drew.cell 1; clear h hc; go_enter Tryz.func147, Tryz.ntmps147
 go_upto_region 1 with fail
 have hS : w.drew.cell? ⟨pr, 0, none⟩ = some (.string S) ∧ w.drew.cell? ⟨pr, 1, none⟩ = some (.int .i64 (i : Int)) := ⟨c0, c1⟩; refine Kas (fun w' => w'.cell? ⟨pr, 0, none⟩ = some (.string S) ∧ w'.cell? ⟨pr, 1, none⟩ = some (.int .i64 (i : Int))) 9 17 (by kernel_rfl) rfl ?_; rw [show Array.replicate 17 false = #[false, false, false, false, false, false, false, false, false, false, false, false, false, false, false, false, false] from rfl]; refine Kaa (i := 0) (d := some 9) rfl rfl (by kernel_rfl) (by kernel_rfl) (by kernel_rfl) rfl (fun _ _ _ h => h) (by rfl) (fun w => by go_simp; try rfl) (fun _ => hS) ?_; simp only [Act.put, Ja, Jb, Jc]; refine Kaa (i := 1) (d := some 10) rfl rfl (by kernel_rfl) (by kernel_rfl) (by kernel_rfl) rfl (fun _ _ _ h => h) (by rfl) (fun w => by go_simp; try rfl) (fun _ => hS) ?_; simp only [Act.put, Ja, Jb, Jc]; refine Kaa (i := 2) (d := some 11) rfl rfl (by kernel_rfl) (by kernel_rfl) (by kernel_rfl) rfl (fun _ _ _ h => h) (by rfl) (fun w => by go_simp; try rfl) (fun _ => hS) ?_; simp only [Act.put, Ja, Jb, Jc]; refine Kaa (i := 3) (d := some 12) rfl rfl (by kernel_rfl) (by kernel_rfl) (by kernel_rfl) rfl (fun _ _ _ h => h) (by rfl) (fun w => by go_simp; try rfl) (fun _ => hS) ?_; simp only [Act.put, Ja, Jb, Jc]; refine Kaf (i := 4) (d := some 13) rfl rfl (by kernel_rfl) (by kernel_rfl) (by kernel_rfl) (by kernel_rfl) rfl (fun _ _ _ h => h) (.inl ⟨by rfl, fun w hw => by (obtain ⟨ha, hb⟩ := hw; go_simp; try rfl)⟩) hS ?_; simp only [Act.put, Ja, Jb, Jc]; refine Kaa (i := 5) (d := some 14) rfl rfl (by kernel_rfl) (by kernel_rfl) (by kernel_rfl) rfl (fun _ _ _ h => h) (by rfl) (fun w => by go_simp; try rfl) (fun _ => hS) ?_; simp only [Act.put, Ja, Jb, Jc]; refine Kaa (i := 6) (d := some 15) rfl rfl (by kernel_rfl) (by kernel_rfl) (by kernel_rfl) rfl (fun _ _ _ h => h) (by rfl) (fun w => by go_simp; try rfl) (fun _ => hS) ?_; simp only [Act.put, Ja, Jb, Jc]; refine Kaa (i := 7) (d := some 16) rfl rfl (by kernel_rfl) (by kernel_rfl) (by kernel_rfl) rfl (fun _ _ _ h => h) (by rfl) (fun w => by go_simp; try rfl) (fun _ => hS) ?_; simp only [Act.put, Ja, Jb, Jc]; refine Kaf (i := 8) (d := some 17) rfl rfl (by kernel_rfl) (by kernel_rfl) (by kernel_rfl) (by kernel_rfl) rfl (fun _ _ _ h => h) (.inl ⟨by rfl, fun w hw => by (obtain ⟨ha, hb⟩ := hw; go_simp; try rfl)⟩) hS ?_; simp only [Act.put, Ja, Jb, Jc]; refine Kac (i := 9) (by kernel_rfl) rfl rfl ?_; refine Oper.wp_called (d := some 18) (w1 := w.drew) (g := 148) (args := #[.string S, .int .i64 (i : Int)]) rfl (by go_simp; try rfl) (N := fun u w' => Below w.heap.size w w' ∧ ((∃ v j, u = .tuple #[v, .int .i64 ((j : Nat) : Int), .int .i64 0] ∧ OK v j w') ∨ (BAD ∧ ∃ v n f, f ≠ 0 ∧ u = .tuple #[v, n, .int .i64 ((f : Nat) : Int)]))) (HC.out.mono ?_) ?_
 ·rintro _ w2 ⟨hb, ⟨v, j, rfl, hok⟩ | ⟨hbad, v, n, f, hf, rfl⟩⟩
  ·exact ⟨_, rfl, hb, .inl ⟨v, j, rfl, hok⟩⟩
  ·exact ⟨_, rfl, hb, .inr ⟨hbad, v, n, f, hf, rfl⟩⟩
 ·rintro _ w2 ⟨hb, ⟨v, j, rfl, hok⟩ | ⟨hbad, v, n, f, hf, rfl⟩⟩
  ·refine ⟨fun h => absurd h (by decide), ?_⟩; simp only [Act.put, Ja, Jb, Jc]; refine Kaa (i := 10) (d := some 8) rfl rfl (by kernel_rfl) (by kernel_rfl) (by kernel_rfl) rfl (fun _ _ _ h => h) (by rfl) (fun w => by go_simp; try rfl) (fun h => absurd h (by decide)) ?_; simp only [Act.put, Ja, Jb, Jc]; refine Kaa (i := 11) (d := some 19) rfl rfl (by kernel_rfl) (by kernel_rfl) (by kernel_rfl) rfl (fun _ _ _ h => h) (by rfl) (fun w => by go_simp; try rfl) (fun h => absurd h (by decide)) ?_; simp only [Act.put, Ja, Jb, Jc]; refine Kaa (i := 12) (d := some 20) rfl rfl (by kernel_rfl) (by kernel_rfl) (by kernel_rfl) rfl (fun _ _ _ h => h) (by rfl) (fun w => by go_simp; try rfl) (fun h => absurd h (by decide)) ?_; simp only [Act.put, Ja, Jb, Jc]; refine Kaa (i := 13) (d := some 21) rfl rfl (by kernel_rfl) (by kernel_rfl) (by kernel_rfl) rfl (fun _ _ _ h => h) (by rfl) (fun w => by go_simp; try rfl) (fun h => absurd h (by decide)) ?_; simp only [Act.put, Ja, Jb, Jc]; refine Kaa (i := 14) (d := some 5) rfl rfl (by kernel_rfl) (by kernel_rfl) (by kernel_rfl) rfl (fun _ _ _ h => h) (by rfl) (fun w => by go_simp; try rfl) (fun h => absurd h (by decide)) ?_; simp only [Act.put, Ja, Jb, Jc]; refine Kaa (i := 15) (d := some 6) rfl rfl (by kernel_rfl) (by kernel_rfl) (by kernel_rfl) rfl (fun _ _ _ h => h) (by rfl) (fun w => by go_simp; try rfl) (fun h => absurd h (by decide)) ?_; simp only [Act.put, Ja, Jb, Jc]; refine Kaa (i := 16) (d := some 7) rfl rfl (by kernel_rfl) (by kernel_rfl) (by kernel_rfl) rfl (fun _ _ _ h => h) (by rfl) (fun w => by go_simp; try rfl) (fun h => absurd h (by decide)) ?_; simp only [Act.put, Ja, Jb, Jc]; refine Kao (by kernel_rfl) ?_ _; have HOK := Jh hok; have HB := Jh hb; have hq := (show Blk w _ _ _ from H.out).below hb (show Blk w _ _ _ from H.out).lt; have d0 : w2.cell? ⟨pr, 0, none⟩ = some (.string S) := hq.cell 0; have d1 : w2.cell? ⟨pr, 1, none⟩ = some (.int .i64 (i : Int)) := hq.cell 1; have f1 : w2.frozen? ⟨pr, 1, none⟩ = false := hq.frozen 1; clear hok hb hq hS c0 c1; go_wp2_with fail
   go_ret
   exact .inl ⟨v, j, w2, rfl, HOK.out, HB.out, rfl⟩
  ·have e0 : ((f : Int) != 0) = true := by simp; omega
   refine ⟨fun h => absurd h (by decide), ?_⟩; simp only [Act.put, Ja, Jb, Jc]; refine Kaa (i := 10) (d := some 8) rfl rfl (by kernel_rfl) (by kernel_rfl) (by kernel_rfl) rfl (fun _ _ _ h => h) (by rfl) (fun w => by go_simp; try rfl) (fun h => absurd h (by decide)) ?_; simp only [Act.put, Ja, Jb, Jc]; refine Kaa (i := 11) (d := some 19) rfl rfl (by kernel_rfl) (by kernel_rfl) (by kernel_rfl) rfl (fun _ _ _ h => h) (by rfl) (fun w => by go_simp; try rfl) (fun h => absurd h (by decide)) ?_; simp only [Act.put, Ja, Jb, Jc]; refine Kaa (i := 12) (d := some 20) rfl rfl (by kernel_rfl) (by kernel_rfl) (by kernel_rfl) rfl (fun _ _ _ h => h) (by rfl) (fun w => by go_simp; try rfl) (fun h => absurd h (by decide)) ?_; simp only [Act.put, Ja, Jb, Jc]; refine Kaa (i := 13) (d := some 21) rfl rfl (by kernel_rfl) (by kernel_rfl) (by kernel_rfl) rfl (fun _ _ _ h => h) (by rfl) (fun w => by go_simp; try rfl) (fun h => absurd h (by decide)) ?_; simp only [Act.put, Ja, Jb, Jc]; refine Kaa (i := 14) (d := some 5) rfl rfl (by kernel_rfl) (by kernel_rfl) (by kernel_rfl) rfl (fun _ _ _ h => h) (by rfl) (fun w => by go_simp; try rfl) (fun h => absurd h (by decide)) ?_; simp only [Act.put, Ja, Jb, Jc]; refine Kaa (i := 15) (d := some 6) rfl rfl (by kernel_rfl) (by kernel_rfl) (by kernel_rfl) rfl (fun _ _ _ h => h) (by rfl) (fun w => by go_simp; try rfl) (fun h => absurd h (by decide)) ?_; simp only [Act.put, Ja, Jb, Jc]; refine Kaa (i := 16) (d := some 7) rfl rfl (by kernel_rfl) (by kernel_rfl) (by kernel_rfl) rfl (fun _ _ _ h => h) (by rfl) (fun w => by go_simp; try rfl) (fun h => absurd h (by decide)) ?_; simp only [Act.put, Ja, Jb, Jc]; refine Kao (by kernel_rfl) ?_ _; have HB := Jh hb; clear hb hS c0 c1; go_wp2_with fail
   refine Kae rfl ?_; exact .inr ⟨hbad, f, hf, rfl, HB.out⟩
theorem Kln (pr i : Nat) (S : ByteArray) (w : World) (h : Rdr pr S i w) (OK : Value → Nat → World → Prop) (BAD : Prop) (hc : Calls Tryz.prog 93 #[.string S, .int .i64 (i : Int)] w.drew (TkO w OK BAD)) :
  Calls Tryz.prog 92 #[.pointer (some ⟨pr, 0, none⟩), .func (.func 93) #[] #[]] w (RdTk pr w OK BAD) := by
 have H := Jh h; have HC := Jh hc; have c0 : w.drew.cell? ⟨pr, 0, none⟩ = some (.string S) := (show Blk w _ _ _ from h).drew.cell 0; have c1 : w.drew.cell? ⟨pr, 1, none⟩ = some (.int .i64 (i : Int)) := (show Blk w _ _ _ from h).drew.cell 1; clear h hc; go_enter Tryz.func92, Tryz.ntmps92
 go_upto_region 1 with fail
 have hS : w.drew.cell? ⟨pr, 0, none⟩ = some (.string S) ∧ w.drew.cell? ⟨pr, 1, none⟩ = some (.int .i64 (i : Int)) := ⟨c0, c1⟩; refine Kas (fun w' => w'.cell? ⟨pr, 0, none⟩ = some (.string S) ∧ w'.cell? ⟨pr, 1, none⟩ = some (.int .i64 (i : Int))) 9 17 (by kernel_rfl) rfl ?_; rw [show Array.replicate 17 false = #[false, false, false, false, false, false, false, false, false, false, false, false, false, false, false, false, false] from rfl]; refine Kaa (i := 0) (d := some 9) rfl rfl (by kernel_rfl) (by kernel_rfl) (by kernel_rfl) rfl (fun _ _ _ h => h) (by rfl) (fun w => by go_simp; try rfl) (fun _ => hS) ?_; simp only [Act.put, Ja, Jb, Jc]; refine Kaa (i := 1) (d := some 10) rfl rfl (by kernel_rfl) (by kernel_rfl) (by kernel_rfl) rfl (fun _ _ _ h => h) (by rfl) (fun w => by go_simp; try rfl) (fun _ => hS) ?_; simp only [Act.put, Ja, Jb, Jc]; refine Kaa (i := 2) (d := some 11) rfl rfl (by kernel_rfl) (by kernel_rfl) (by kernel_rfl) rfl (fun _ _ _ h => h) (by rfl) (fun w => by go_simp; try rfl) (fun _ => hS) ?_; simp only [Act.put, Ja, Jb, Jc]; refine Kaa (i := 3) (d := some 12) rfl rfl (by kernel_rfl) (by kernel_rfl) (by kernel_rfl) rfl (fun _ _ _ h => h) (by rfl) (fun w => by go_simp; try rfl) (fun _ => hS) ?_; simp only [Act.put, Ja, Jb, Jc]; refine Kaf (i := 4) (d := some 13) rfl rfl (by kernel_rfl) (by kernel_rfl) (by kernel_rfl) (by kernel_rfl) rfl (fun _ _ _ h => h) (.inl ⟨by rfl, fun w hw => by (obtain ⟨ha, hb⟩ := hw; go_simp; try rfl)⟩) hS ?_; simp only [Act.put, Ja, Jb, Jc]; refine Kaa (i := 5) (d := some 14) rfl rfl (by kernel_rfl) (by kernel_rfl) (by kernel_rfl) rfl (fun _ _ _ h => h) (by rfl) (fun w => by go_simp; try rfl) (fun _ => hS) ?_; simp only [Act.put, Ja, Jb, Jc]; refine Kaa (i := 6) (d := some 15) rfl rfl (by kernel_rfl) (by kernel_rfl) (by kernel_rfl) rfl (fun _ _ _ h => h) (by rfl) (fun w => by go_simp; try rfl) (fun _ => hS) ?_; simp only [Act.put, Ja, Jb, Jc]; refine Kaa (i := 7) (d := some 16) rfl rfl (by kernel_rfl) (by kernel_rfl) (by kernel_rfl) rfl (fun _ _ _ h => h) (by rfl) (fun w => by go_simp; try rfl) (fun _ => hS) ?_; simp only [Act.put, Ja, Jb, Jc]; refine Kaf (i := 8) (d := some 17) rfl rfl (by kernel_rfl) (by kernel_rfl) (by kernel_rfl) (by kernel_rfl) rfl (fun _ _ _ h => h) (.inl ⟨by rfl, fun w hw => by (obtain ⟨ha, hb⟩ := hw; go_simp; try rfl)⟩) hS ?_; simp only [Act.put, Ja, Jb, Jc]; refine Kac (i := 9) (by kernel_rfl) rfl rfl ?_; refine Oper.wp_called (d := some 18) (w1 := w.drew) (g := 93) (args := #[.string S, .int .i64 (i : Int)]) rfl (by go_simp; try rfl) (N := fun u w' => Below w.heap.size w w' ∧ ((∃ v j, u = .tuple #[v, .int .i64 ((j : Nat) : Int), .int .i64 0] ∧ OK v j w') ∨ (BAD ∧ ∃ v n f, f ≠ 0 ∧ u = .tuple #[v, n, .int .i64 ((f : Nat) : Int)]))) (HC.out.mono ?_) ?_
 ·rintro _ w2 ⟨hb, ⟨v, j, rfl, hok⟩ | ⟨hbad, v, n, f, hf, rfl⟩⟩
  ·exact ⟨_, rfl, hb, .inl ⟨v, j, rfl, hok⟩⟩
  ·exact ⟨_, rfl, hb, .inr ⟨hbad, v, n, f, hf, rfl⟩⟩
 ·rintro _ w2 ⟨hb, ⟨v, j, rfl, hok⟩ | ⟨hbad, v, n, f, hf, rfl⟩⟩
  ·refine ⟨fun h => absurd h (by decide), ?_⟩; simp only [Act.put, Ja, Jb, Jc]; refine Kaa (i := 10) (d := some 8) rfl rfl (by kernel_rfl) (by kernel_rfl) (by kernel_rfl) rfl (fun _ _ _ h => h) (by rfl) (fun w => by go_simp; try rfl) (fun h => absurd h (by decide)) ?_; simp only [Act.put, Ja, Jb, Jc]; refine Kaa (i := 11) (d := some 19) rfl rfl (by kernel_rfl) (by kernel_rfl) (by kernel_rfl) rfl (fun _ _ _ h => h) (by rfl) (fun w => by go_simp; try rfl) (fun h => absurd h (by decide)) ?_; simp only [Act.put, Ja, Jb, Jc]; refine Kaa (i := 12) (d := some 20) rfl rfl (by kernel_rfl) (by kernel_rfl) (by kernel_rfl) rfl (fun _ _ _ h => h) (by rfl) (fun w => by go_simp; try rfl) (fun h => absurd h (by decide)) ?_; simp only [Act.put, Ja, Jb, Jc]; refine Kaa (i := 13) (d := some 21) rfl rfl (by kernel_rfl) (by kernel_rfl) (by kernel_rfl) rfl (fun _ _ _ h => h) (by rfl) (fun w => by go_simp; try rfl) (fun h => absurd h (by decide)) ?_; simp only [Act.put, Ja, Jb, Jc]; refine Kaa (i := 14) (d := some 5) rfl rfl (by kernel_rfl) (by kernel_rfl) (by kernel_rfl) rfl (fun _ _ _ h => h) (by rfl) (fun w => by go_simp; try rfl) (fun h => absurd h (by decide)) ?_; simp only [Act.put, Ja, Jb, Jc]; refine Kaa (i := 15) (d := some 6) rfl rfl (by kernel_rfl) (by kernel_rfl) (by kernel_rfl) rfl (fun _ _ _ h => h) (by rfl) (fun w => by go_simp; try rfl) (fun h => absurd h (by decide)) ?_; simp only [Act.put, Ja, Jb, Jc]; refine Kaa (i := 16) (d := some 7) rfl rfl (by kernel_rfl) (by kernel_rfl) (by kernel_rfl) rfl (fun _ _ _ h => h) (by rfl) (fun w => by go_simp; try rfl) (fun h => absurd h (by decide)) ?_; simp only [Act.put, Ja, Jb, Jc]; refine Kao (by kernel_rfl) ?_ _; have HOK := Jh hok; have HB := Jh hb; have hq := (show Blk w _ _ _ from H.out).below hb (show Blk w _ _ _ from H.out).lt; have d0 : w2.cell? ⟨pr, 0, none⟩ = some (.string S) := hq.cell 0; have d1 : w2.cell? ⟨pr, 1, none⟩ = some (.int .i64 (i : Int)) := hq.cell 1; have f1 : w2.frozen? ⟨pr, 1, none⟩ = false := hq.frozen 1; clear hok hb hq hS c0 c1; go_wp2_with fail
   go_ret
   exact .inl ⟨v, j, w2, rfl, HOK.out, HB.out, rfl⟩
  ·have e0 : ((f : Int) != 0) = true := by simp; omega
   refine ⟨fun h => absurd h (by decide), ?_⟩; simp only [Act.put, Ja, Jb, Jc]; refine Kaa (i := 10) (d := some 8) rfl rfl (by kernel_rfl) (by kernel_rfl) (by kernel_rfl) rfl (fun _ _ _ h => h) (by rfl) (fun w => by go_simp; try rfl) (fun h => absurd h (by decide)) ?_; simp only [Act.put, Ja, Jb, Jc]; refine Kaa (i := 11) (d := some 19) rfl rfl (by kernel_rfl) (by kernel_rfl) (by kernel_rfl) rfl (fun _ _ _ h => h) (by rfl) (fun w => by go_simp; try rfl) (fun h => absurd h (by decide)) ?_; simp only [Act.put, Ja, Jb, Jc]; refine Kaa (i := 12) (d := some 20) rfl rfl (by kernel_rfl) (by kernel_rfl) (by kernel_rfl) rfl (fun _ _ _ h => h) (by rfl) (fun w => by go_simp; try rfl) (fun h => absurd h (by decide)) ?_; simp only [Act.put, Ja, Jb, Jc]; refine Kaa (i := 13) (d := some 21) rfl rfl (by kernel_rfl) (by kernel_rfl) (by kernel_rfl) rfl (fun _ _ _ h => h) (by rfl) (fun w => by go_simp; try rfl) (fun h => absurd h (by decide)) ?_; simp only [Act.put, Ja, Jb, Jc]; refine Kaa (i := 14) (d := some 5) rfl rfl (by kernel_rfl) (by kernel_rfl) (by kernel_rfl) rfl (fun _ _ _ h => h) (by rfl) (fun w => by go_simp; try rfl) (fun h => absurd h (by decide)) ?_; simp only [Act.put, Ja, Jb, Jc]; refine Kaa (i := 15) (d := some 6) rfl rfl (by kernel_rfl) (by kernel_rfl) (by kernel_rfl) rfl (fun _ _ _ h => h) (by rfl) (fun w => by go_simp; try rfl) (fun h => absurd h (by decide)) ?_; simp only [Act.put, Ja, Jb, Jc]; refine Kaa (i := 16) (d := some 7) rfl rfl (by kernel_rfl) (by kernel_rfl) (by kernel_rfl) rfl (fun _ _ _ h => h) (by rfl) (fun w => by go_simp; try rfl) (fun h => absurd h (by decide)) ?_; simp only [Act.put, Ja, Jb, Jc]; refine Kao (by kernel_rfl) ?_ _; have HB := Jh hb; clear hb hS c0 c1; go_wp2_with fail
   refine Kae rfl ?_; exact .inr ⟨hbad, f, hf, rfl, HB.out⟩
theorem Kkw (pr i : Nat) (S : ByteArray) (tv : Value) (w : World) (h : Rdr pr S i w) (OK : Value → Nat → World → Prop) (BAD : Prop) (hc : Calls Tryz.prog 150 #[tv, .string S, .int .i64 (i : Int)] w.drew (TkO w OK BAD)) :
  Calls Tryz.prog 149 #[.pointer (some ⟨pr, 0, none⟩), .func (.func 150) #[tv] #[]] w (RdTk pr w OK BAD) := by
 have H := Jh h; have HC := Jh hc; have c0 : w.drew.cell? ⟨pr, 0, none⟩ = some (.string S) := (show Blk w _ _ _ from h).drew.cell 0; have c1 : w.drew.cell? ⟨pr, 1, none⟩ = some (.int .i64 (i : Int)) := (show Blk w _ _ _ from h).drew.cell 1; clear h hc; go_enter Tryz.func149, Tryz.ntmps149
 go_upto_region 1 with fail
 have hS : w.drew.cell? ⟨pr, 0, none⟩ = some (.string S) ∧ w.drew.cell? ⟨pr, 1, none⟩ = some (.int .i64 (i : Int)) := ⟨c0, c1⟩; refine Kas (fun w' => w'.cell? ⟨pr, 0, none⟩ = some (.string S) ∧ w'.cell? ⟨pr, 1, none⟩ = some (.int .i64 (i : Int))) 9 17 (by kernel_rfl) rfl ?_; rw [show Array.replicate 17 false = #[false, false, false, false, false, false, false, false, false, false, false, false, false, false, false, false, false] from rfl]; refine Kaa (i := 0) (d := some 9) rfl rfl (by kernel_rfl) (by kernel_rfl) (by kernel_rfl) rfl (fun _ _ _ h => h) (by rfl) (fun w => by go_simp; try rfl) (fun _ => hS) ?_; simp only [Act.put, Ja, Jb, Jc]; refine Kaa (i := 1) (d := some 10) rfl rfl (by kernel_rfl) (by kernel_rfl) (by kernel_rfl) rfl (fun _ _ _ h => h) (by rfl) (fun w => by go_simp; try rfl) (fun _ => hS) ?_; simp only [Act.put, Ja, Jb, Jc]; refine Kaa (i := 2) (d := some 11) rfl rfl (by kernel_rfl) (by kernel_rfl) (by kernel_rfl) rfl (fun _ _ _ h => h) (by rfl) (fun w => by go_simp; try rfl) (fun _ => hS) ?_; simp only [Act.put, Ja, Jb, Jc]; refine Kaa (i := 3) (d := some 12) rfl rfl (by kernel_rfl) (by kernel_rfl) (by kernel_rfl) rfl (fun _ _ _ h => h) (by rfl) (fun w => by go_simp; try rfl) (fun _ => hS) ?_; simp only [Act.put, Ja, Jb, Jc]; refine Kaf (i := 4) (d := some 13) rfl rfl (by kernel_rfl) (by kernel_rfl) (by kernel_rfl) (by kernel_rfl) rfl (fun _ _ _ h => h) (.inl ⟨by rfl, fun w hw => by (obtain ⟨ha, hb⟩ := hw; go_simp; try rfl)⟩) hS ?_; simp only [Act.put, Ja, Jb, Jc]; refine Kaa (i := 5) (d := some 14) rfl rfl (by kernel_rfl) (by kernel_rfl) (by kernel_rfl) rfl (fun _ _ _ h => h) (by rfl) (fun w => by go_simp; try rfl) (fun _ => hS) ?_; simp only [Act.put, Ja, Jb, Jc]; refine Kaa (i := 6) (d := some 15) rfl rfl (by kernel_rfl) (by kernel_rfl) (by kernel_rfl) rfl (fun _ _ _ h => h) (by rfl) (fun w => by go_simp; try rfl) (fun _ => hS) ?_; simp only [Act.put, Ja, Jb, Jc]; refine Kaa (i := 7) (d := some 16) rfl rfl (by kernel_rfl) (by kernel_rfl) (by kernel_rfl) rfl (fun _ _ _ h => h) (by rfl) (fun w => by go_simp; try rfl) (fun _ => hS) ?_; simp only [Act.put, Ja, Jb, Jc]; refine Kaf (i := 8) (d := some 17) rfl rfl (by kernel_rfl) (by kernel_rfl) (by kernel_rfl) (by kernel_rfl) rfl (fun _ _ _ h => h) (.inl ⟨by rfl, fun w hw => by (obtain ⟨ha, hb⟩ := hw; go_simp; try rfl)⟩) hS ?_; simp only [Act.put, Ja, Jb, Jc]; refine Kac (i := 9) (by kernel_rfl) rfl rfl ?_; refine Oper.wp_called (d := some 18) (w1 := w.drew) (g := 150) (args := #[tv, .string S, .int .i64 (i : Int)]) rfl (by go_simp; try rfl) (N := fun u w' => Below w.heap.size w w' ∧ ((∃ v j, u = .tuple #[v, .int .i64 ((j : Nat) : Int), .int .i64 0] ∧ OK v j w') ∨ (BAD ∧ ∃ v n f, f ≠ 0 ∧ u = .tuple #[v, n, .int .i64 ((f : Nat) : Int)]))) (HC.out.mono ?_) ?_
 ·rintro _ w2 ⟨hb, ⟨v, j, rfl, hok⟩ | ⟨hbad, v, n, f, hf, rfl⟩⟩
  ·exact ⟨_, rfl, hb, .inl ⟨v, j, rfl, hok⟩⟩
  ·exact ⟨_, rfl, hb, .inr ⟨hbad, v, n, f, hf, rfl⟩⟩
 ·rintro _ w2 ⟨hb, ⟨v, j, rfl, hok⟩ | ⟨hbad, v, n, f, hf, rfl⟩⟩
  ·refine ⟨fun h => absurd h (by decide), ?_⟩; simp only [Act.put, Ja, Jb, Jc]; refine Kaa (i := 10) (d := some 8) rfl rfl (by kernel_rfl) (by kernel_rfl) (by kernel_rfl) rfl (fun _ _ _ h => h) (by rfl) (fun w => by go_simp; try rfl) (fun h => absurd h (by decide)) ?_; simp only [Act.put, Ja, Jb, Jc]; refine Kaa (i := 11) (d := some 19) rfl rfl (by kernel_rfl) (by kernel_rfl) (by kernel_rfl) rfl (fun _ _ _ h => h) (by rfl) (fun w => by go_simp; try rfl) (fun h => absurd h (by decide)) ?_; simp only [Act.put, Ja, Jb, Jc]; refine Kaa (i := 12) (d := some 20) rfl rfl (by kernel_rfl) (by kernel_rfl) (by kernel_rfl) rfl (fun _ _ _ h => h) (by rfl) (fun w => by go_simp; try rfl) (fun h => absurd h (by decide)) ?_; simp only [Act.put, Ja, Jb, Jc]; refine Kaa (i := 13) (d := some 21) rfl rfl (by kernel_rfl) (by kernel_rfl) (by kernel_rfl) rfl (fun _ _ _ h => h) (by rfl) (fun w => by go_simp; try rfl) (fun h => absurd h (by decide)) ?_; simp only [Act.put, Ja, Jb, Jc]; refine Kaa (i := 14) (d := some 5) rfl rfl (by kernel_rfl) (by kernel_rfl) (by kernel_rfl) rfl (fun _ _ _ h => h) (by rfl) (fun w => by go_simp; try rfl) (fun h => absurd h (by decide)) ?_; simp only [Act.put, Ja, Jb, Jc]; refine Kaa (i := 15) (d := some 6) rfl rfl (by kernel_rfl) (by kernel_rfl) (by kernel_rfl) rfl (fun _ _ _ h => h) (by rfl) (fun w => by go_simp; try rfl) (fun h => absurd h (by decide)) ?_; simp only [Act.put, Ja, Jb, Jc]; refine Kaa (i := 16) (d := some 7) rfl rfl (by kernel_rfl) (by kernel_rfl) (by kernel_rfl) rfl (fun _ _ _ h => h) (by rfl) (fun w => by go_simp; try rfl) (fun h => absurd h (by decide)) ?_; simp only [Act.put, Ja, Jb, Jc]; refine Kao (by kernel_rfl) ?_ _; have HOK := Jh hok; have HB := Jh hb; have hq := (show Blk w _ _ _ from H.out).below hb (show Blk w _ _ _ from H.out).lt; have d0 : w2.cell? ⟨pr, 0, none⟩ = some (.string S) := hq.cell 0; have d1 : w2.cell? ⟨pr, 1, none⟩ = some (.int .i64 (i : Int)) := hq.cell 1; have f1 : w2.frozen? ⟨pr, 1, none⟩ = false := hq.frozen 1; clear hok hb hq hS c0 c1; go_wp2_with fail
   go_ret
   exact .inl ⟨v, j, w2, rfl, HOK.out, HB.out, rfl⟩
  ·have e0 : ((f : Int) != 0) = true := by simp; omega
   refine ⟨fun h => absurd h (by decide), ?_⟩; simp only [Act.put, Ja, Jb, Jc]; refine Kaa (i := 10) (d := some 8) rfl rfl (by kernel_rfl) (by kernel_rfl) (by kernel_rfl) rfl (fun _ _ _ h => h) (by rfl) (fun w => by go_simp; try rfl) (fun h => absurd h (by decide)) ?_; simp only [Act.put, Ja, Jb, Jc]; refine Kaa (i := 11) (d := some 19) rfl rfl (by kernel_rfl) (by kernel_rfl) (by kernel_rfl) rfl (fun _ _ _ h => h) (by rfl) (fun w => by go_simp; try rfl) (fun h => absurd h (by decide)) ?_; simp only [Act.put, Ja, Jb, Jc]; refine Kaa (i := 12) (d := some 20) rfl rfl (by kernel_rfl) (by kernel_rfl) (by kernel_rfl) rfl (fun _ _ _ h => h) (by rfl) (fun w => by go_simp; try rfl) (fun h => absurd h (by decide)) ?_; simp only [Act.put, Ja, Jb, Jc]; refine Kaa (i := 13) (d := some 21) rfl rfl (by kernel_rfl) (by kernel_rfl) (by kernel_rfl) rfl (fun _ _ _ h => h) (by rfl) (fun w => by go_simp; try rfl) (fun h => absurd h (by decide)) ?_; simp only [Act.put, Ja, Jb, Jc]; refine Kaa (i := 14) (d := some 5) rfl rfl (by kernel_rfl) (by kernel_rfl) (by kernel_rfl) rfl (fun _ _ _ h => h) (by rfl) (fun w => by go_simp; try rfl) (fun h => absurd h (by decide)) ?_; simp only [Act.put, Ja, Jb, Jc]; refine Kaa (i := 15) (d := some 6) rfl rfl (by kernel_rfl) (by kernel_rfl) (by kernel_rfl) rfl (fun _ _ _ h => h) (by rfl) (fun w => by go_simp; try rfl) (fun h => absurd h (by decide)) ?_; simp only [Act.put, Ja, Jb, Jc]; refine Kaa (i := 16) (d := some 7) rfl rfl (by kernel_rfl) (by kernel_rfl) (by kernel_rfl) rfl (fun _ _ _ h => h) (by rfl) (fun w => by go_simp; try rfl) (fun h => absurd h (by decide)) ?_; simp only [Act.put, Ja, Jb, Jc]; refine Kao (by kernel_rfl) ?_ _; have HB := Jh hb; clear hb hS c0 c1; go_wp2_with fail
   refine Kae rfl ?_; exact .inr ⟨hbad, f, hf, rfl, HB.out⟩
end
section
def zig (v : Int) : Nat := if 0 ≤ v then (2 * v).toNat else (-2 * v - 1).toNat
def unzig (n : Nat) : Int := if n % 2 = 0 then ((n / 2 : Nat) : Int) else -((n / 2 : Nat) : Int) - 1
theorem Kzk (v : Int) : unzig (zig v) = v := by
 unfold unzig zig
 split <;> split <;> omega
theorem Kmq {v : Int} (h1 : -9223372036854775808 ≤ v) (h2 : v ≤ 9223372036854775807) : zig v < 2 ^ 64 := by
 unfold zig
 split <;> omega
def intT (v : Int) : List UInt8 := uintT (zig v)
def readI (l : List UInt8) : Except Nat (Int × Nat) := match readU l with | .error e => .error e | .ok (v, k) => .ok (unzig v, k)
theorem Qcf {v : Int} (h1 : -9223372036854775808 ≤ v) (h2 : v ≤ 9223372036854775807) (l : List UInt8) : readI (intT v ++ l) = .ok (v, (intT v).length) := by
 unfold readI intT; rw [Kej (Kmq h1 h2)]; simp only [Kzk]
def nibs : List Nat := [0x00000000, 0x105ec76f, 0x20bd8ede, 0x30e349b1, 0x417b1dbc, 0x5125dad3, 0x61c69362, 0x7198540d, 0x82f63b78, 0x92a8fc17, 0xa24bb5a6, 0xb21572c9, 0xc38d26c4, 0xd3d3e1ab, 0xe330a81a, 0xf36e6f75]
def nibN (c : Nat) : Nat := nibs.getD (c % 16) 0 ^^^ (c / 16)
def crcB (c : Nat) (b : UInt8) : Nat := nibN (nibN (c ^^^ b.toNat))
def crcF (c : Nat) (l : List UInt8) : Nat := l.foldl crcB c
def crcL (l : List UInt8) : Nat := crcF 4294967295 l ^^^ 4294967295
theorem Kwt : ∀ i, nibs.getD i 0 < 4294967296 := by
 intro i
 by_cases h : i < 16
 ·revert i
  decide
 ·have : nibs.length ≤ i := by simp [nibs]; omega
  rw [List.getD_eq_getElem?_getD, List.getElem?_eq_none this]; decide
theorem Kgo {a b : Nat} (ha : a < 4294967296) (hb : b < 4294967296) : a ^^^ b < 4294967296 := Nat.xor_lt_two_pow (n := 32) ha hb
theorem Kko {c : Nat} (h : c < 4294967296) : nibN c < 4294967296 := Kgo (Kwt _) (by omega)
theorem Qgd {c : Nat} (h : c < 4294967296) (b : UInt8) : crcB c b < 4294967296 := Kko (Kko (Kgo h (by have := UInt8.toNat_lt b; omega)))
theorem Kxj : ∀ (l : List UInt8) {c : Nat}, c < 4294967296 → crcF c l < 4294967296
 | [], _, h => h
 | b :: l, _, h => Kxj l (Qgd h b)
theorem Kxc (l : List UInt8) : crcL l < 4294967296 := Kgo (Kxj l (by decide)) (by decide)
theorem Kwb (c : Nat) (l m : List UInt8) : crcF c (l ++ m) = crcF (crcF c l) m := by unfold crcF; rw [List.foldl_append]
theorem Qac (c : Nat) (l : List UInt8) (b : UInt8) : crcF c (l ++ [b]) = crcB (crcF c l) b := by rw [Kwb]; rfl
def fourT (v : Nat) : List UInt8 := [UInt8.ofNat v, UInt8.ofNat (v / 256), UInt8.ofNat (v / 65536), UInt8.ofNat (v / 16777216)]
def numT (l : List UInt8) : Nat := match l with | a :: b :: c :: d :: _ => a.toNat + 256 * b.toNat + 65536 * c.toNat + 16777216 * d.toNat | _ => 0
theorem Qbd {v : Nat} (h : v < 4294967296) (r : List UInt8) : numT (fourT v ++ r) = v := by
 simp only [fourT, List.cons_append, numT, UInt8.toNat_ofNat']; omega
def sealT (b : List UInt8) : List UInt8 := b ++ fourT (crcL b)
def Kat (s : List UInt8) : Except Nat (List UInt8) := if s.length < 4 then .error 20 else if crcL (s.take (s.length - 4)) = numT (s.drop (s.length - 4)) then .ok (s.take (s.length - 4)) else .error 22
theorem Kfu (b : List UInt8) : (sealT b).length = b.length + 4 := by simp [sealT, fourT]
theorem Klq (b : List UInt8) : Kat (sealT b) = .ok b := by
 unfold Kat; have h1 : (sealT b).length - 4 = b.length := by rw [Kfu]; omega
 rw [h1, if_neg (by rw [Kfu]; omega)]; have h2 : (sealT b).take b.length = b := by simp [sealT]
 have h3 : (sealT b).drop b.length = fourT (crcL b) := by simp [sealT]
 rw [h2, h3]; have h4 := Qbd (Kxc b) []; rw [List.append_nil] at h4; rw [if_pos h4.symm]
end
section
open Go.RowKit
open Lib renaming hid → Jh
attribute [local go_sem ↓] Go.wp_at_zero Go.wp_at_succ
attribute [local go_sem] Later.cell
theorem Qbp {l : List Txt} {i : Nat} (hi : i < l.length) : (l.take (i + 1)).flatten = (l.take i).flatten ++ l[i]! := by
 rw [List.take_succ_eq_append_getElem hi, List.flatten_append, getElem!_pos l i hi]; simp
theorem Qef {n a : Nat} (ha : a < 2 ^ n) : a ^^^ (2 ^ n - 1) = 2 ^ n - 1 - a := by
 have h := BitVec.toNat_not (x := BitVec.ofNat n a); rw [← BitVec.xor_allOnes, BitVec.toNat_xor, BitVec.toNat_allOnes, BitVec.toNat_ofNat, Nat.mod_eq_of_lt ha] at h; exact h
theorem Kom {a : Nat} (ha : a < 18446744073709551616) : a ^^^ 18446744073709551615 = 18446744073709551615 - a := Qef (n := 64) ha
theorem Qdb {v : Int} (h1 : -9223372036854775808 ≤ v) (h2 : v ≤ 9223372036854775807) :
  bits .xor .u64 (IntKind.u64.wrap (wrap64 (v * 2))) (IntKind.u64.wrap (v / 9223372036854775808)) = ((zig v : Nat) : Int) := by
 rw [IntKind.wrap_u64, IntKind.wrap_u64]; unfold wrap64
 by_cases h : 0 ≤ v
 ·have e1 : ((v * 2 + 9223372036854775808) % 18446744073709551616 - 9223372036854775808) % 18446744073709551616 = ((zig v : Nat) : Int) := by unfold zig; rw [if_pos h]; omega
  have e2 : v / 9223372036854775808 % 18446744073709551616 = ((0 : Nat) : Int) := by omega
  rw [e1, e2, bits_xor_u64_nat _ _ (by have := Kmq h1 h2; omega) (by decide), Nat.xor_zero]
 ·have e1 : ((v * 2 + 9223372036854775808) % 18446744073709551616 - 9223372036854775808) % 18446744073709551616 = ((18446744073709551615 - zig v : Nat) : Int) := by unfold zig; rw [if_neg h]; omega
  have e2 : v / 9223372036854775808 % 18446744073709551616 = ((18446744073709551615 : Nat) : Int) := by omega
  rw [e1, e2, bits_xor_u64_nat _ _ (by omega) (by decide), Kom (by omega)]; have := Kmq h1 h2; omega
theorem Kzs (v : Nat) : bits .and .u64 (v : Int) 1 = ((v % 2 : Nat) : Int) := by
 unfold bits; simp only [BitVec.ofInt_natCast]; have e : (BitVec.ofInt 64 1 : BitVec 64) = BitVec.ofNat 64 1 := rfl; show IntKind.u64.wrap (((BitVec.ofNat 64 v &&& BitVec.ofInt 64 1).toNat : Nat) : Int) = _
 rw [e, BitVec.toNat_and, BitVec.toNat_ofNat, BitVec.toNat_ofNat]
 have h1 : (v % 2 ^ 64) &&& (1 % 2 ^ 64) = v % 2 := by
  rw [show (1 % 2 ^ 64 : Nat) = 2 ^ 1 - 1 by decide, Nat.and_two_pow_sub_one_eq_mod]; omega
 rw [h1, IntKind.wrap_u64]; omega
theorem Kuq (a b : Int) : bits .xor .i64 a b = IntKind.i64.wrap (((BitVec.ofInt 64 a ^^^ BitVec.ofInt 64 b).toNat : Nat) : Int) := rfl
theorem Kyn {v : Nat} (h : v < 18446744073709551616) :
  bits .xor .i64 (wrap64 ((v : Int) / 2)) (wrap64 (-wrap64 (bits .and .u64 (v : Int) 1))) = unzig v := by
 rw [Kzs, Kuq]; unfold wrap64; have e1 : ((v : Int) / 2 + 9223372036854775808) % 18446744073709551616 - 9223372036854775808 = ((v / 2 : Nat) : Int) := by omega
 rw [e1]; rcases Nat.mod_two_eq_zero_or_one v with h2 | h2
 ·have e2 : (-((((v % 2 : Nat) : Int) + 9223372036854775808) % 18446744073709551616 - 9223372036854775808) + 9223372036854775808) % 18446744073709551616 - 9223372036854775808 = ((0 : Nat) : Int) := by omega
  rw [e2, BitVec.ofInt_natCast, BitVec.ofInt_natCast, BitVec.toNat_xor, BitVec.toNat_ofNat, BitVec.toNat_ofNat, Nat.zero_mod, Nat.xor_zero, IntKind.wrap_i64]; unfold unzig; rw [if_pos h2]; omega
 ·have e2 : (-((((v % 2 : Nat) : Int) + 9223372036854775808) % 18446744073709551616 - 9223372036854775808) + 9223372036854775808) % 18446744073709551616 - 9223372036854775808 = -1 := by omega
  have e3 : (BitVec.ofInt 64 (-1) : BitVec 64) = BitVec.ofNat 64 18446744073709551615 := rfl; rw [e2, e3, BitVec.ofInt_natCast, BitVec.toNat_xor, BitVec.toNat_ofNat, BitVec.toNat_ofNat]; have e4 : (v / 2) % 2 ^ 64 = v / 2 := by omega
  have e5 : (18446744073709551615 : Nat) % 2 ^ 64 = 18446744073709551615 := by decide
  rw [e4, e5, Kom (by omega), IntKind.wrap_i64]; unfold unzig; rw [if_neg (by omega)]; omega
theorem Qbl {s : List UInt8} {k : Int} {v n e : Nat} (h : Kan s k = (v, n, e)) : v < 18446744073709551616 := by
 unfold Kan at h
 split at h
 ·injection h with h1 h2; omega
 ·split at h
  ·injection h with h1 h2; omega
  ·rename_i v' n' hr
   injection h with h1 h2; have := (Kdd hr).1; omega
theorem Kmc (n : Int) (h0 : 0 ≤ n) (h1 : n < 2 ^ 32) : IntKind.u32.wrap n = n := by
 rw [IntKind.wrap_u32]; omega
theorem Kwz {a b : Nat} (ha : a < 4294967296) (hb : b < 4294967296) : bits .and .u32 (a : Int) (b : Int) = ((a &&& b : Nat) : Int) := (bits_nat .u32 32 (by decide) Kmc a b ha hb).1
theorem Ksb {a b : Nat} (ha : a < 4294967296) (hb : b < 4294967296) : bits .or .u32 (a : Int) (b : Int) = ((a ||| b : Nat) : Int) := (bits_nat .u32 32 (by decide) Kmc a b ha hb).2
theorem Kpe {a b : Nat} (ha : a < 4294967296) (hb : b < 4294967296) : bits .xor .u32 (a : Int) (b : Int) = ((a ^^^ b : Nat) : Int) := by
 have h : bits .xor .u32 (a : Int) (b : Int) = IntKind.u32.wrap (((BitVec.ofInt 32 (a : Int) ^^^ BitVec.ofInt 32 (b : Int)).toNat : Nat) : Int) := rfl; rw [h, BitVec.ofInt_natCast, BitVec.ofInt_natCast, BitVec.toNat_xor, BitVec.toNat_ofNat, BitVec.toNat_ofNat, Nat.mod_eq_of_lt (show a < 2 ^ 32 by omega), Nat.mod_eq_of_lt (show b < 2 ^ 32 by omega)]; exact Kmc _ (Int.natCast_nonneg _) (by have := Kgo ha hb; omega)
theorem Kfw {k x : Nat} (y : Nat) (h : x < 2 ^ k) : (y * 2 ^ k) ||| x = y * 2 ^ k + x := by
 have := Nat.shiftLeft_add_eq_or_of_lt h y; rw [Nat.shiftLeft_eq] at this; exact this.symm
theorem Qdf {x1 x0 y1 y0 : Nat} (hx : x0 < 65536) (hy : y0 < 65536) : (x1 * 65536 + x0) ||| (y1 * 65536 + y0) = (x1 ||| y1) * 65536 + (x0 ||| y0) := by
 have e1 := Kfw (k := 16) x1 (show x0 < 2 ^ 16 from hx); have e2 := Kfw (k := 16) y1 (show y0 < 2 ^ 16 from hy); have e3 := Kfw (k := 16) (x1 ||| y1) (Nat.or_lt_two_pow (show x0 < 2 ^ 16 from hx) (show y0 < 2 ^ 16 from hy))
 have e4 : (x1 ||| y1) * 2 ^ 16 = x1 * 2 ^ 16 ||| y1 * 2 ^ 16 := by
  rw [← Nat.shiftLeft_eq, ← Nat.shiftLeft_eq, ← Nat.shiftLeft_eq, Nat.shiftLeft_or_distrib]
 have e16 : (65536 : Nat) = 2 ^ 16 := by decide
 rw [e16, ← e1, ← e2, ← e3, e4, Nat.or_assoc, Nat.or_assoc]; congr 1; rw [← Nat.or_assoc, ← Nat.or_assoc, Nat.or_comm x0]
theorem Kgu (v : Nat) : v &&& 16711935 = v / 65536 % 256 * 65536 + v % 256 := by
 have h1 : (16711935 : Nat) = 255 <<< 16 ||| 255 := by decide
 have h2 : v &&& 255 = v % 256 := Nat.and_two_pow_sub_one_eq_mod v 8
 have h3 : v &&& (255 <<< 16) = ((v >>> 16) &&& 255) <<< 16 := by
  apply Nat.eq_of_testBit_eq; intro i; simp only [Nat.testBit_and, Nat.testBit_shiftLeft, Nat.testBit_shiftRight]
  by_cases h : 16 ≤ i
  ·simp [h, Nat.add_sub_cancel' h]
  ·simp [h]
 have h4 : (v >>> 16) &&& 255 = v / 65536 % 256 := by
  rw [Nat.shiftRight_eq_div_pow]; exact Nat.and_two_pow_sub_one_eq_mod _ 8
 rw [h1, Nat.and_or_distrib_left, h2, h3, h4, Nat.shiftLeft_eq]; exact Kfw (k := 16) _ (by omega)
def revN (v : Nat) : Nat := v % 256 * 16777216 + v / 256 % 256 * 65536 + v / 65536 % 256 * 256 + v / 16777216
theorem Qes {v : Nat} (hv : v < 4294967296) : ((v / 256) &&& 16711935) ||| ((v &&& 16711935) * 256) = (v / 65536 % 256 * 256 + v / 16777216) * 65536 + (v % 256 * 256 + v / 256 % 256) := by
 rw [Kgu, Kgu]; have e1 : (v / 65536 % 256 * 65536 + v % 256) * 256 = (v / 65536 % 256 * 256) * 65536 + v % 256 * 256 := by omega
 have e2 : v / 256 / 65536 % 256 = v / 16777216 := by omega
 rw [e1, e2, Qdf (by omega) (by omega)]; have e3 := Kfw (k := 8) (v / 65536 % 256) (show v / 16777216 < 2 ^ 8 by omega); have e4 := Kfw (k := 8) (v % 256) (show v / 256 % 256 < 2 ^ 8 by omega); have e8 : (2 : Nat) ^ 8 = 256 := by decide
 rw [e8] at e3 e4; rw [Nat.or_comm (v / 16777216), Nat.or_comm (v / 256 % 256), e3, e4]
set_option maxHeartbeats 400000 in
theorem Kpj (v : Int) (h1 : -9223372036854775808 ≤ v) (h2 : v ≤ 9223372036854775807) (w : World) :
  Calls Tryz.prog 46 #[.int .i64 v] w fun e w' => e = .returned (.string ⟨(intT v).toArray⟩) ∧ Below w.heap.size w w' := by
 have HU := Jh (fun w => Kau (zig v) (Kmq h1 h2) w); go_enter Tryz.func46, Tryz.ntmps46
 go_wp2_with fail
 rw [Qdb h1 h2]; refine (HU.out w).mono ?_; rintro _ w1 ⟨rfl, hb⟩; go_wp2_with fail
 go_ret
 exact ⟨rfl, hb⟩
set_option maxHeartbeats 400000 in
theorem Kjc (s : ByteArray) (k : Int) (v n e : Nat) (hr : Kan s.data.toList k = (v, n, e)) (hs : s.size ≤ 140737488351232) (w : World) :
  Calls Tryz.prog 80 #[.string s, .int .i64 k] w fun en w' => en = .returned (.tuple #[.int .i64 (if e = 0 then unzig v else 0), .int .i64 (if e = 0 then (n : Int) else 0), .int .i64 e]) ∧ w = w' := by
 have HR := Jh (Kam s k v n e hr hs w); go_enter Tryz.func80, Tryz.ntmps80
 go_wp2_with fail
 refine HR.out.mono ?_; rintro _ w1 ⟨rfl, rfl⟩
 cases e with
 | succ e =>
  go_wp2_with fail
  go_ret3
  exact ⟨by simp, rfl⟩
 | zero =>
  go_wp2_with fail
  rw [Kyn (by have := Qbl hr; omega)]; go_ret3
  exact ⟨rfl, rfl⟩
theorem Qdh {v : Nat} (hv : v < 4294967296) : bits .or .u32 (bits .and .u32 ((v : Int) / 256) 16711935) (bits .and .u32 (v : Int) 16711935 * 256 % 4294967296) = (((v / 65536 % 256 * 256 + v / 16777216) * 65536 + (v % 256 * 256 + v / 256 % 256) : Nat) : Int) := by
 have e1 : (v : Int) / 256 = ((v / 256 : Nat) : Int) := by omega
 have e2 : ∀ x : Nat, x < 4294967296 → bits .and .u32 (x : Int) 16711935 = ((x &&& 16711935 : Nat) : Int) := fun x hx => Kwz hx (by decide)
 have e3 : ((v &&& 16711935 : Nat) : Int) * 256 % 4294967296 = (((v &&& 16711935) * 256 : Nat) : Int) := by rw [Kgu]; omega
 rw [e1, e2 _ (by omega), e2 _ hv, e3, Ksb (by rw [Kgu]; omega) (by rw [Kgu]; omega), Qes hv]
theorem Qep {v : Nat} (hv : v < 4294967296) {T : Int} (hT : T = (((v / 65536 % 256 * 256 + v / 16777216) * 65536 + (v % 256 * 256 + v / 256 % 256) : Nat) : Int)) :
  bits .or .u32 (T / 65536) (T * 65536 % 4294967296) = ((revN v : Nat) : Int) := by
 subst hT; have e1 : (((v / 65536 % 256 * 256 + v / 16777216) * 65536 + (v % 256 * 256 + v / 256 % 256) : Nat) : Int) / 65536 = ((v / 65536 % 256 * 256 + v / 16777216 : Nat) : Int) := by omega
 have e2 : (((v / 65536 % 256 * 256 + v / 16777216) * 65536 + (v % 256 * 256 + v / 256 % 256) : Nat) : Int) * 65536 % 4294967296 = (((v % 256 * 256 + v / 256 % 256) * 65536 : Nat) : Int) := by omega
 rw [e1, e2, Ksb (by omega) (by omega), Nat.or_comm]; have e3 := Kfw (k := 16) (v % 256 * 256 + v / 256 % 256) (show v / 65536 % 256 * 256 + v / 16777216 < 2 ^ 16 by omega); have e16 : (2 : Nat) ^ 16 = 65536 := by decide
 rw [e16] at e3; rw [e3]; unfold revN; omega
set_option maxHeartbeats 400000 in
theorem Qbt (v : Nat) (hv : v < 4294967296) (w : World) :
  Calls Tryz.prog 175 #[.int .u32 v] w fun e w' => e = .returned (.int .u32 (revN v : Nat)) ∧ w = w' := by
 go_enter Tryz.func175, Tryz.ntmps175
 go_wp2_with fail
 rw [Qep hv (Qdh hv)]; go_ret
 exact ⟨rfl, rfl⟩
theorem Kxu (a b c d : UInt8) (g : Nat) (w : World) (h0 : w.cell? ⟨g, 0, none⟩ = some (.int .u8 (a.toNat : Int))) (h1 : w.cell? ⟨g, 1, none⟩ = some (.int .u8 (b.toNat : Int))) (h2 : w.cell? ⟨g, 2, none⟩ = some (.int .u8 (c.toNat : Int))) (h3 : w.cell? ⟨g, 3, none⟩ = some (.int .u8 (d.toNat : Int))) :
  (convert 76 9 (.slice (some ⟨g, 0, none⟩) 4 4)).run Tryz.prog w = .ok (.string ⟨#[a, b, c, d]⟩) w :=
 run_convert_bytes_back w _ _ 5 ⟨g, 0, none⟩ 4 [a, b, c, d] Tryz.underlying76 Tryz.underlying5 Tryz.underlying9 (fun j hj => by
  match j, hj with
  | 0, _ => exact h0
  | 1, _ => exact h1
  | 2, _ => exact h2
  | 3, _ => exact h3
  | _ + 4, hj => simp at hj; omega)
theorem Qbz {a b c d r : Nat} (ha : a < 256) (hb : b < 256) (hc : c < 256) (hd : d < 256) (hr : a * 16777216 + b * 65536 + c * 256 + d = r) :
  (r : Int) / 16777216 = (a : Int) ∧ (r : Int) / 65536 % 256 = (b : Int) ∧ (r : Int) / 256 % 256 = (c : Int) ∧ (r : Int) % 256 = (d : Int) := by
 subst hr; refine ⟨?_, ?_, ?_, ?_⟩ <;> omega
set_option maxHeartbeats 400000 in
theorem Kza (v : Nat) (hv : v < 4294967296) (w : World) :
  Calls Tryz.prog 122 #[.int .u32 v] w fun e w' => e = .returned (.string ⟨(fourT v).toArray⟩) ∧ Below w.heap.size w w' := by
 have HR := Jh (Qbt v hv w); obtain ⟨r, hr⟩ : ∃ r, revN v = r := ⟨_, rfl⟩; rw [hr] at HR; have hr2 : r < 4294967296 := by rw [← hr]; unfold revN; omega
 obtain ⟨b0, h0⟩ : ∃ b, UInt8.ofNat v = b := ⟨_, rfl⟩; obtain ⟨b1, h1⟩ : ∃ b, UInt8.ofNat (v / 256) = b := ⟨_, rfl⟩; obtain ⟨b2, h2⟩ : ∃ b, UInt8.ofNat (v / 65536) = b := ⟨_, rfl⟩; obtain ⟨b3, h3⟩ : ∃ b, UInt8.ofNat (v / 16777216) = b := ⟨_, rfl⟩; obtain ⟨p0, p1, p2, p3⟩ := Qbz (a := v % 256) (b := v / 256 % 256) (c := v / 65536 % 256) (d := v / 16777216) (by omega) (by omega) (by omega) (by omega) hr; have k0 : (r : Int) / 16777216 = (b0.toNat : Int) := by rw [p0, ← h0, UInt8.toNat_ofNat']
 have k1 : (r : Int) / 65536 % 256 = (b1.toNat : Int) := by rw [p1, ← h1, UInt8.toNat_ofNat']
 have k2 : (r : Int) / 256 % 256 = (b2.toNat : Int) := by rw [p2, ← h2, UInt8.toNat_ofNat']
 have k3 : (r : Int) % 256 = (b3.toNat : Int) := by rw [p3, ← h3, UInt8.toNat_ofNat']; omega
 have hcv := Kxu b0 b1 b2 b3 w.heap.size (w.alloc (.cells #[.int .u8 ((r : Int) / 16777216), .int .u8 ((r : Int) / 65536 % 256), .int .u8 ((r : Int) / 256 % 256), .int .u8 ((r : Int) % 256)] 5)) (by rw [k0]; simp [go_sem]) (by rw [k1]; simp [go_sem]) (by rw [k2]; simp [go_sem]) (by rw [k3]; simp [go_sem]); have hb : Below w.heap.size w (w.alloc (.cells #[.int .u8 ((r : Int) / 16777216), .int .u8 ((r : Int) / 65536 % 256), .int .u8 ((r : Int) / 256 % 256), .int .u8 ((r : Int) % 256)] 5)) := (Below.refl _ _).alloc (Nat.le_refl _) _; have hfin : (⟨#[b0, b1, b2, b3]⟩ : ByteArray) = ⟨(fourT v).toArray⟩ := by rw [← h0, ← h1, ← h2, ← h3]; rfl
 have HFIN := Jh hfin; have HB := Jh hb; clear k0 k1 k2 k3 h0 h1 h2 h3 hr hfin hb p0 p1 p2 p3; go_enter Tryz.func122, Tryz.ntmps122
 go_wp2_with fail
 refine HR.out.mono ?_; rintro _ w1 ⟨rfl, rfl⟩; go_wp2_with fail
 go_ret
 exact ⟨by first | rfl | (rw [HFIN.out]; rfl), HB.out⟩
def Kbz (w : World) : Prop := ∀ i, i < 16 → w.cell? ⟨0, i, none⟩ = some (.int .u32 (nibs.getD i 0 : Nat))
theorem Kbz.below {B : Nat} {w w' : World} (h : Kbz w) (hB : 0 < B) (hb : Below B w w') : Kbz w' := fun i hi => (hb.cell (p := ⟨0, i, none⟩) hB).trans (h i hi)
theorem and15 {c : Nat} (h : c < 4294967296) : bits .and .u32 (c : Int) 15 = ((c % 16 : Nat) : Int) := by
 have h1 : bits .and .u32 (c : Int) 15 = ((c &&& 15 : Nat) : Int) := Kwz h (by decide); rw [h1]; congr 1; exact Nat.and_two_pow_sub_one_eq_mod c 4
theorem Kwo {c : Nat} (h : c < 4294967296) : bits .xor .u32 ((nibs.getD (c % 16) 0 : Nat) : Int) ((c : Int) / 16) = ((nibN c : Nat) : Int) := by
 have e1 : (c : Int) / 16 = ((c / 16 : Nat) : Int) := by omega
 rw [e1, Kpe (Kwt _) (by omega)]; rfl
theorem Qbg (Ao : Option Addr) (n c : Nat) (l : List Txt) (w : World) (h : Strs w Ao n l) (hn : n ≤ 140737488355328) (hs : ∀ s ∈ l, s.length ≤ 140737488355328) (hT : Kbz w) :
  Calls Tryz.prog 123 #[.slice Ao n c] w fun e w' => e = .returned (.int .u32 (crcL l.flatten : Nat)) ∧ w = w' := by
 have hln := h.len; have HS := Jh hs; have HH := Jh h; have HT := Jh hT; clear hs h hT; go_enter Tryz.func123, Tryz.ntmps123
 go_wp2_with fail
 go_loopg [3, 9] n (fun g s3 s9 wr => ∃ i c : Nat, i + g = n ∧ s9 = .int .i64 (i : Int) ∧ s3 = .int .u32 (c : Int) ∧ c < 4294967296 ∧ crcF 4294967295 (l.take i).flatten = c ∧ wr = w)
 case atStart => exact ⟨0, 4294967295, by omega, rfl, rfl, by decide, rfl, rfl⟩
 case round =>
  obtain ⟨i, c, hig, rfl, rfl, hc, hcr, rfl⟩ := hrel; have HIG := Jh hig; have HCR := Jh hcr; clear hig hcr
  by_cases hi : i < n
  ·have el : decide ((i : Int) < (n : Int)) = true := by simp; omega
   have el' : decide (i < n) = true := by simp; omega
   have hiin : (i : Int) < (n : Int) := by omega
   obtain ⟨b, off, hXe, hbl, x0⟩ := HH.out.at_ hi; subst hXe; have hil : i < l.length := by omega
   obtain ⟨T, hT⟩ : ∃ T : ByteArray, (⟨l[i]!.toArray⟩ : ByteArray) = T := ⟨_, rfl⟩; have hTl : T.data.toList = l[i]! := by rw [← hT]
   have hTs : T.size ≤ 140737488355328 := by
    have := HS.out l[i]! (by rw [getElem!_pos l i hil]; exact List.getElem_mem _); rw [← hTl, Kah] at this; exact this
   unfold txtV at x0; rw [hT] at x0; have hft := Qbp hil; rw [← hTl] at hft; have HFT := Jh hft; obtain ⟨og, rfl⟩ : ∃ x, x = gk := ⟨_, rfl⟩; clear hft hT hTl; go_wp2_with fail
   go_loopg [3, 15] T.size (fun g s3 s15 wr2 => ∃ j c : Nat, j + g = T.size ∧ s15 = .int .i64 (j : Int) ∧ s3 = .int .u32 (c : Int) ∧ c < 4294967296 ∧ crcF 4294967295 ((l.take i).flatten ++ T.data.toList.take j) = c ∧ wr2 = wr)
   case atStart => exact ⟨0, c, by omega, rfl, rfl, hc, by rw [List.take_zero, List.append_nil]; exact HCR.out, rfl⟩
   case round =>
    obtain ⟨j, c', hjg, rfl, rfl, hc', hcr', rfl⟩ := hrel; have HJG := Jh hjg; have HCR2 := Jh hcr'; clear hjg hcr'
    by_cases hj : j < T.size
    ·have fl : decide ((j : Int) < (T.size : Int)) = true := by simp; omega
     have fl' : decide (j < T.size) = true := by simp; omega
     have hjin : (j : Int) < (T.size : Int) := by omega
     have hbt := UInt8.toNat_lt T[j]; obtain ⟨c0, hc0⟩ : ∃ x, c' ^^^ T[j].toNat = x := ⟨_, rfl⟩; have hx0 : bits .xor .u32 (c' : Int) (T[j].toNat : Int) = (c0 : Int) := by rw [← hc0]; exact Kpe hc' (by omega)
     have hl0 : c0 < 4294967296 := by rw [← hc0]; exact Kgo hc' (by omega)
     obtain ⟨i0, hi0⟩ : ∃ x, c0 % 16 = x := ⟨_, rfl⟩; have ha0 : bits .and .u32 (c0 : Int) 15 = (i0 : Int) := by rw [← hi0]; exact and15 hl0
     have hi16 : i0 < 16 := by omega
     obtain ⟨n0, hn0⟩ : ∃ x, nibs.getD i0 0 = x := ⟨_, rfl⟩; have hm0 := HT.out i0 hi16; rw [hn0] at hm0; obtain ⟨c1, hc1⟩ : ∃ x, nibN c0 = x := ⟨_, rfl⟩; have hy0 : bits .xor .u32 (n0 : Int) ((c0 : Int) / 16) = (c1 : Int) := by rw [← hn0, ← hi0, ← hc1]; exact Kwo hl0
     have hl1 : c1 < 4294967296 := by rw [← hc1]; exact Kko hl0
     obtain ⟨i1, hi1⟩ : ∃ x, c1 % 16 = x := ⟨_, rfl⟩; have ha1 : bits .and .u32 (c1 : Int) 15 = (i1 : Int) := by rw [← hi1]; exact and15 hl1
     have hi17 : i1 < 16 := by omega
     obtain ⟨n1, hn1⟩ : ∃ x, nibs.getD i1 0 = x := ⟨_, rfl⟩; have hm1 := HT.out i1 hi17; rw [hn1] at hm1; obtain ⟨c2, hc2⟩ : ∃ x, nibN c1 = x := ⟨_, rfl⟩; have hy1 : bits .xor .u32 (n1 : Int) ((c1 : Int) / 16) = (c2 : Int) := by rw [← hn1, ← hi1, ← hc2]; exact Kwo hl1
     have hl2 : c2 < 4294967296 := by rw [← hc2]; exact Kko hl1
     have hnext : crcF 4294967295 ((l.take i).flatten ++ T.data.toList.take (j + 1)) = c2 := by
      have e : T.data.toList.take (j + 1) = T.data.toList.take j ++ [T[j]] := by
       rw [List.take_add_one, List.getElem?_eq_getElem (by simpa using hj)]; simp [ByteArray.getElem_eq_getElem_data]
      rw [e, ← List.append_assoc, Qac, HCR2.out, ← hc2, ← hc1, ← hc0]; rfl
     have HNX := Jh hnext; clear hnext hc0 hc1 hc2 hn0 hn1 hi0 hi1; go_wp2_with fail
     go_roundg (gk - 1)
     case measure => have := HJG.out; omega
     case rel => exact ⟨j + 1, c2, by have := HJG.out; omega, by go_num, rfl, hl2, HNX.out, rfl⟩
    ·have fl : decide ((j : Int) < (T.size : Int)) = false := by simp; omega
     have fl' : decide (j < T.size) = false := by simp; omega
     have hfull : crcF 4294967295 (l.take (i + 1)).flatten = c' := by
      have := HCR2.out; have e : T.data.toList.take j = T.data.toList := List.take_of_length_le (by rw [Kah]; omega); rw [e, ← HFT.out] at this; exact this
     have HF := Jh hfull; clear hfull; go_wp2_with fail
     go_roundg (og - 1)
     case measure => have := HIG.out; omega
     case rel => exact ⟨i + 1, c', by have := HIG.out; omega, by go_num, rfl, hc', HF.out, rfl⟩
  ·have el : decide ((i : Int) < (n : Int)) = false := by simp; omega
   have el' : decide (i < n) = false := by simp; omega
   have hend : bits .xor .u32 IntKind.u32.max (c : Int) = ((crcL l.flatten : Nat) : Int) := by
    have h1 : bits .xor .u32 IntKind.u32.max (c : Int) = ((4294967295 ^^^ c : Nat) : Int) := Kpe (a := 4294967295) (by decide) hc; have h2 := HCR.out; rw [List.take_of_length_le (by omega)] at h2; rw [h1]; unfold crcL; rw [h2, Nat.xor_comm]
   go_wp2_with fail
   go_ret
   exact ⟨rfl, rfl⟩
def leV : List UInt8 → Nat
 | [] => 0
 | b :: l => b.toNat + 256 * leV l
theorem Qfr {l : List UInt8} (h : 4 ≤ l.length) : leV (l.take 4) = numT l := by
 match l, h with
 | a :: b :: c :: d :: r, _ =>
  simp only [List.take_succ_cons, List.take_zero, leV, numT]; omega
theorem Qcc : ∀ l : List UInt8, leV l < 256 ^ l.length
 | [] => by simp [leV]
 | b :: l => by
  have := Qcc l; have := UInt8.toNat_lt b; rw [leV, List.length_cons, Nat.pow_succ]; omega
theorem Qfa {v b : Nat} (hv : v < 16777216) (hb : b < 256) : bits .or .u32 ((v : Int) * 256) (b : Int) = ((b + 256 * v : Nat) : Int) := by
 have e1 : (v : Int) * 256 = ((v * 256 : Nat) : Int) := by omega
 rw [e1, Ksb (by omega) (by omega)]; have e3 := Kfw (k := 8) v (show b < 2 ^ 8 from hb); have e8 : (2 : Nat) ^ 8 = 256 := by decide
 rw [e8] at e3; rw [e3]; congr 1; omega
theorem Kuc (s : ByteArray) (hs : 4 ≤ s.size) (hz : s.size ≤ 140737488355328) (w : World) :
  Calls Tryz.prog 185 #[.string s] w fun e w' => e = .returned (.int .u32 (numT s.data.toList : Nat)) ∧ w = w' := by
 have hfin := Qfr (l := s.data.toList) (by rw [Kah]; exact hs); have HFIN := Jh hfin; clear hfin; have hl4 : (s.data.toList.take 4).length = 4 := by rw [List.length_take, Kah]; omega
 go_enter Tryz.func185, Tryz.ntmps185
 go_wp2_with fail
 go_loopg [3, 4] 4 (fun g s3 s4 wr => ∃ v : Nat, g ≤ 4 ∧ s4 = .int .i64 ((g : Int) - 1) ∧ s3 = .int .u32 (v : Int) ∧ leV ((s.data.toList.take 4).drop g) = v ∧ wr = w)
 case atStart => exact ⟨0, by omega, rfl, rfl, by rw [List.drop_of_length_le (by omega)]; rfl, rfl⟩
 case round =>
  obtain ⟨v, hg4, rfl, rfl, hv, rfl⟩ := hrel; have hvl := Qcc ((s.data.toList.take 4).drop gk); rw [hv, List.length_drop, hl4] at hvl
  by_cases hg : 0 < gk
  ·obtain ⟨j, rfl⟩ : ∃ j, gk = j + 1 := ⟨gk - 1, by omega⟩; have ej : ((j + 1 : Nat) : Int) - 1 = (j : Int) := by omega
   rw [ej]; have el : decide ((0 : Int) ≤ (j : Int)) = true := by simp
   have hj : j < s.size := by omega
   have hbt := UInt8.toNat_lt s[j]
   have hv24 : v < 16777216 := by
    refine Nat.lt_of_lt_of_le hvl ?_; have : 256 ^ (4 - (j + 1)) ≤ 256 ^ 3 := Nat.pow_le_pow_right (by decide) (by omega); exact this
   have hor := Qfa hv24 hbt
   have hn : leV ((s.data.toList.take 4).drop j) = s[j].toNat + 256 * v := by
    have hjl : j < (s.data.toList.take 4).length := by omega
    rw [List.drop_eq_getElem_cons hjl, leV, hv]; congr 2; rw [List.getElem_take]; simp [ByteArray.getElem_eq_getElem_data]
   have HN := Jh hn; clear hn hv hvl; go_wp2_with fail
   go_roundg j
   case measure => omega
   case rel => exact ⟨_, by omega, by go_num, rfl, HN.out, rfl⟩
  ·obtain rfl : gk = 0 := by omega
   have el : decide ((0 : Int) ≤ ((0 : Nat) : Int) - 1) = false := by simp
   rw [List.drop_zero, HFIN.out] at hv; subst hv; go_wp2_with fail
   go_ret
   exact ⟨rfl, rfl⟩
theorem Qfd {w : World} {b : Nat} {l : List Txt} (h : Blk w b 9 (l.map txtV).toArray) : Strs w (some ⟨b, 0, none⟩) l.length l :=
 ⟨rfl, fun _ => ⟨b, 0, rfl, h.lt, fun i x hx j v hv => by
  match j, hv with
  | 0, hv =>
   injection hv with hv; subst hv; have h1 := h.cell i; have h2 : (l.map txtV).toArray[i]? = some (txtV x) := by simp [hx]
   simpa [h2] using h1
  | j + 1, hv => simp [enc1] at hv⟩⟩
theorem Qdj {a b : ByteArray} (h : a.data.toList = b.data.toList) : a = b := by
 cases a; cases b
 simp at h; rw [h]
theorem Kzc (s : ByteArray) (k : Nat) : (s.extract 0 k).data.toList = s.data.toList.take k := by
 simp only [ByteArray.data_extract, Array.toList_extract]; simp
theorem Kyz (s : ByteArray) (k : Nat) : (s.extract k s.size).data.toList = s.data.toList.drop k := by
 simp only [ByteArray.data_extract, Array.toList_extract]; rw [← Kah, List.extract_eq_take_drop, List.take_of_length_le]; simp
theorem Kbz.lt {w : World} (h : Kbz w) : 0 < w.heap.size := Kek (h 0 (by decide))
theorem Qdv {w : World} {b : Nat} {S : ByteArray} (h : Blk w b 9 #[.string S]) : Strs w (some ⟨b, 0, none⟩) 1 [S.data.toList] := Qfd (by unfold txtV; exact h)
theorem Kwp {w : World} {b c : Nat} {S : ByteArray} (h : Blk w b 9 #[.string S]) (hS : S.size ≤ 140737488355328) (hT : Kbz w) :
  Calls Tryz.prog 123 #[.slice (some ⟨b, 0, none⟩) 1 c] w fun e w' => e = .returned (.int .u32 (crcL S.data.toList : Nat)) ∧ w = w' := by
 have h1 := Qbg (some ⟨b, 0, none⟩) 1 c [S.data.toList] w (Qdv h) (by decide) (fun s hs => by rw [List.mem_singleton.1 hs, Kah]; exact hS) hT; have e : [S.data.toList].flatten = S.data.toList := by simp
 rw [e] at h1; exact h1
theorem Kzf (s : ByteArray) (hs : s.size ≤ 140737488351232) (w : World) (hT : Kbz w) :
  Calls Tryz.prog 47 #[.string s] w fun e w' => e = .returned (.string ⟨(sealT s.data.toList).toArray⟩) ∧ Below w.heap.size w w' := by
 obtain ⟨w1, hw1⟩ : ∃ x, w.alloc (.cells #[.string s] 9) = x := ⟨_, rfl⟩; have hb1 : Below w.heap.size w w1 := by rw [← hw1]; exact (Below.refl _ _).alloc (Nat.le_refl _) _
 have hk1 : Blk w1 w.heap.size 9 #[.string s] := by rw [← hw1]; exact Blk.new _ _ _
 have HC := Jh (Kwp (c := 1) hk1 (by omega) (hT.below hT.lt hb1)); have HF := Jh (fun w => Kza (crcL s.data.toList) (Kxc _) w); have HW := Jh hw1; obtain ⟨F, hF⟩ : ∃ F : ByteArray, (⟨(fourT (crcL s.data.toList)).toArray⟩ : ByteArray) = F := ⟨_, rfl⟩; have hF4 : F.size = 4 := by rw [← hF]; rfl
 have hfin : s ++ F = (⟨(sealT s.data.toList).toArray⟩ : ByteArray) := Qdj (by rw [← hF]; simp [sealT, ByteArray.data_append]); rw [hF] at HF; have HFIN := Jh hfin; clear hw1 hk1 hfin hF; go_enter Tryz.func47, Tryz.ntmps47
 go_wp2_with fail
 rw [HW.out]; refine HC.out.mono ?_; rintro _ w2 ⟨rfl, rfl⟩; go_wp2_with fail
 refine (HF.out w1).mono ?_; rintro _ w2 ⟨rfl, hb2⟩; go_wp2_with fail
 rw [HFIN.out]; go_ret
 exact ⟨rfl, then_ hb1 hb2⟩
theorem Kkm (s : ByteArray) (hs : s.size ≤ 140737488351232) (w : World) (hT : Kbz w) :
  Calls Tryz.prog 146 #[.string s] w fun e w' => e = .returned (match Kat s.data.toList with | .ok b => .tuple #[.string ⟨b.toArray⟩, .int .i64 0] | .error c => .tuple #[.string ⟨#[]⟩, .int .i64 (c : Int)]) ∧ Below w.heap.size w w' := by
 obtain ⟨n, hn⟩ : ∃ n, s.size = n := ⟨_, rfl⟩; have HN := Jh hn
 by_cases h4 : n < 4
 ·have d1 : decide ((n : Int) - 4 < 0) = true := by simp; omega
  have hu : Kat s.data.toList = .error 20 := by unfold Kat; rw [if_pos (by rw [Kah]; omega)]
  rw [hu]; clear hu; go_enter Tryz.func146, Tryz.ntmps146
  go_wp2_with fail
  go_ret2
  exact ⟨rfl, Below.refl _ _⟩
 ·obtain ⟨m, rfl⟩ : ∃ m, n = m + 4 := ⟨n - 4, by omega⟩; have ej : ((m + 4 : Nat) : Int) - 4 = (m : Int) := by omega
  have d1 : decide ((m : Int) < 0) = false := by simp
  obtain ⟨X, hX⟩ : ∃ X, s.extract 0 m = X := ⟨_, rfl⟩; obtain ⟨Y, hY⟩ : ∃ Y, s.extract m (m + 4) = Y := ⟨_, rfl⟩; have hXl : X.data.toList = s.data.toList.take m := by rw [← hX]; exact Kzc s m
  have hYl : Y.data.toList = s.data.toList.drop m := by rw [← hY, ← hn]; exact Kyz s m
  have hXs : X.size = m := by rw [← Kah, hXl, List.length_take, Kah]; omega
  have hYs : Y.size = 4 := by rw [← Kah, hYl, List.length_drop, Kah]; omega
  have hu : Kat s.data.toList = if crcL X.data.toList = numT Y.data.toList then .ok X.data.toList else .error 22 := by
   unfold Kat; rw [Kah, hn, if_neg (by omega), show m + 4 - 4 = m by omega, ← hXl, ← hYl]
  have HU := Jh hu; have HM := Jh (fun w' => Kuc Y (by omega) (by omega) w'); have hb1 : Below w.heap.size w (w.alloc (.cells #[.string X] 9)).drew := ((Below.refl _ _).alloc (Nat.le_refl _) _).drew; have hk1 : Blk (w.alloc (.cells #[.string X] 9)).drew w.heap.size 9 #[.string X] := Blk.new _ _ _; have HC := Jh (Kwp (c := 1) hk1 (by omega) (hT.below hT.lt hb1)); have HB := Jh hb1; clear hk1; have HX := Jh hX; have HY := Jh hY; obtain ⟨c1, hc1⟩ : ∃ c, crcL X.data.toList = c := ⟨_, rfl⟩; obtain ⟨c2, hc2⟩ : ∃ c, numT Y.data.toList = c := ⟨_, rfl⟩; rw [hc1] at HC; rw [hc2] at HM; rw [hc1, hc2] at HU; rw [hu, hc1, hc2]; clear hb1 hu hc1 hc2 hXl hYl; go_enter Tryz.func146, Tryz.ntmps146
  have b0 : (0 : Int) ≤ (m : Int) := by omega
  have b1 : (m : Int) ≤ (s.size : Int) := by omega
  have b2 : (m : Int) ≤ ((m + 4 : Nat) : Int) := by omega
  have b3 : (m : Int) ≤ (m : Int) + 4 := by omega
  have b4 : m ≤ s.size := by omega
  have b5 : m ≤ m + 4 := by omega
  go_upto_region 4 with fail
  go_region_held3 (fun _ => True) (go_keep) (first | (go_at_call 123; (try rw [HX.out]); with_reducible refine HC.out.mono ?_; rintro e w2 ⟨rfl, rfl⟩) | (go_at_call 185; (try rw [HY.out]); with_reducible refine (HM.out _).mono ?_; rintro e w3 ⟨rfl, rfl⟩))
  by_cases hcc : c1 = c2
  ·subst hcc; have e1 : ((c1 : Int) != (c1 : Int)) = false := by simp
   have hfin : (match (if c1 = c1 then Except.ok X.data.toList else Except.error 22 : Except Nat (List UInt8)) with | .ok b => Value.tuple #[.string ⟨b.toArray⟩, .int .i64 0] | .error c => .tuple #[.string ⟨#[]⟩, .int .i64 (c : Int)]) = .tuple #[.string X, .int .i64 0] := by rw [if_pos rfl]
   have HFIN := Jh hfin; clear hfin; go_wp2_with fail
   go_ret2
   exact ⟨congrArg Ending.returned HFIN.out.symm, HB.out⟩
  ·have e1 : ((c1 : Int) != (c2 : Int)) = true := by simp; omega
   go_wp2_with fail
   go_ret2
   exact ⟨by first | rfl | (rw [if_neg hcc]; rfl), HB.out⟩
end
section
def symR (t : List Txt) (s : List UInt8) (k : Int) : Txt × Nat × Nat :=
 if (Kan s k).2.2 ≠ 0 then ([], 0, (Kan s k).2.2) else if t.length ≤ (Kan s k).1 then ([], 0, 50) else (t[(Kan s k).1]!, (Kan s k).2.1, 0)
def Kff (out : List Lb) (x : Txt) : Bool := decide (0 < out.length ∧ ¬ (out[out.length - 1]!).n < x)
def unpL (t : List Txt) (s : List UInt8) : Nat → List Lb → Nat → List Lb × Nat × Nat
 | 0, out, p => (out, p, 0)
 | g + 1, out, p =>
  if (symR t s p).2.2 ≠ 0 then ([], 0, (symR t s p).2.2) else
  if (symR t s (symR t s p).2.1).2.2 ≠ 0 then ([], 0, (symR t s (symR t s p).2.1).2.2) else
  if fitN (symR t s p).1 = false then ([], 0, 40) else
  if fitV (symR t s (symR t s p).2.1).1 = false then ([], 0, 41) else
  if Kff out (symR t s p).1 = true then ([], 0, 42) else
  unpL t s g (out ++ [⟨(symR t s p).1, (symR t s (symR t s p).2.1).1⟩]) (symR t s (symR t s p).2.1).2.1
def unpR (t : List Txt) (s : List UInt8) (k : Int) : List Lb × Nat × Nat :=
 if (Kan s k).2.2 ≠ 0 then ([], 0, (Kan s k).2.2) else if (Kan s k).1 = 0 then ([], 0, 43) else if 8 < (Kan s k).1 then ([], 0, 44) else unpL t s (Kan s k).1 [] (Kan s k).2.1
theorem Krs {t : List Txt} {s : List UInt8} {k : Int} {x : Txt} {n e : Nat} (h : symR t s k = (x, n, e)) : x = [] ∨ x ∈ t := by
 unfold symR at h
 split at h
 ·injection h with h _; exact .inl h.symm
 ·split at h
  ·injection h with h _; exact .inl h.symm
  ·rename_i hlt
   injection h with h _; right; rw [← h, getElem!_pos t _ (by omega)]; exact List.getElem_mem _
theorem Kwd (x : Lb) : Kbj [x] = if fitN x.n = false then 40 else if fitV x.v = false then 41 else 0 := by
 simp [Kbj, Kdj]
end
section
open List renaming length_append → Jd
theorem Ktd {t : List Txt} (ha : Asc t) {x : Txt} (hx : x ∈ t) : t[below t x]? = some x := by
 obtain ⟨i, hi, e⟩ := List.getElem_of_mem hx; have h1 : t[i]? = some x := by rw [List.getElem?_eq_getElem hi, e]
 rw [Qcp ha h1]; exact h1
theorem Kvd {t : List Txt} (ha : Asc t) {x : Txt} (hx : x ∈ t) : numR t x = (below t x, 0) := by rw [numR, if_pos (Ktd ha hx)]
def pkS (t : List Txt) (xs : List Txt) : List UInt8 := xs.flatMap fun x => uintT (below t x)
def pk (t : List Txt) (l : List Lb) : List UInt8 := uintT l.length ++ pkS t (texts l)
theorem Kim (t : List Txt) (x : Txt) (r : List Txt) : pkS t (x :: r) = uintT (below t x) ++ pkS t r := rfl
theorem Kqv {t : List Txt} (ha : Asc t) : ∀ xs : List Txt, (∀ x ∈ xs, x ∈ t) → packS t xs = some (pkS t xs)
 | [], _ => rfl
 | x :: r, h => by
  rw [packS, Kvd ha (h x (by simp)), Kqv ha r (fun y hy => h y (by simp [hy]))]; simp [Kim]
theorem Qax {t : List Txt} (ha : Asc t) {l : List Lb} (he : Kci l = 0) (h : ∀ x ∈ texts l, x ∈ t) : packR t l = (pk t l, 0) := by
 rw [packR, he, Kqv ha _ h]; simp [pk]
theorem Kkx (pre post : List UInt8) {v : Nat} (hv : v < 2 ^ 64) : Kan (pre ++ (uintT v ++ post)) (pre.length : Int) = (v, pre.length + (uintT v).length, 0) := by
 rw [Kcz, List.drop_left, Kej hv]; rfl
theorem Kqd {t : List Txt} (ha : Asc t) (ht : t.length < 2 ^ 64) (pre post : List UInt8) {x : Txt} (hx : x ∈ t) : symR t (pre ++ (uintT (below t x) ++ post)) (pre.length : Int) = (x, pre.length + (uintT (below t x)).length, 0) := by
 have hb := Ktd ha hx; have hl : below t x < t.length := (List.getElem?_eq_some_iff.1 hb).1; have hr := Kkx pre post (v := below t x) (by omega); unfold symR; rw [hr]; simp only [ne_eq, not_true_eq_false, if_false]; rw [if_neg (by omega), getElem!_pos t _ hl]; rw [List.getElem?_eq_getElem hl] at hb; injection hb with hb; rw [hb]
theorem Kvo {out l : List Lb} {x : Lb} (h : (names (out ++ x :: l)).Pairwise (· < ·)) : Kff out x.n = false := by
 unfold Kff; rw [decide_eq_false_iff_not]; rintro ⟨h0, h1⟩; apply h1; rw [getElem!_pos out _ (by omega)]; unfold names at h; rw [List.map_append, List.pairwise_append] at h; exact h.2.2 _ (List.mem_map_of_mem (List.getElem_mem _)) _ (by simp)
theorem Kqx {t : List Txt} (ha : Asc t) (ht : t.length < 2 ^ 64) : ∀ (l out : List Lb) (pre post : List UInt8), (∀ x ∈ l, fitN x.n = true ∧ fitV x.v = true) → (names (out ++ l)).Pairwise (· < ·) → (∀ x ∈ texts l, x ∈ t) →
  unpL t (pre ++ (pkS t (texts l) ++ post)) l.length out pre.length = (out ++ l, pre.length + (pkS t (texts l)).length, 0)
 | [], out, pre, post, _, _, _ => by simp [unpL, texts, pkS]
 | x :: l, out, pre, post, hf, hn, hm => by
  rw [Kgh] at hm ⊢; rw [Kim, Kim, List.length_cons, unpL]; have hx1 : x.n ∈ t := hm _ (by simp); have hx2 : x.v ∈ t := hm _ (by simp); have e1 : pre ++ ((uintT (below t x.n) ++ (uintT (below t x.v) ++ pkS t (texts l))) ++ post) = pre ++ (uintT (below t x.n) ++ (uintT (below t x.v) ++ (pkS t (texts l) ++ post))) := by simp
  have s1 := Kqd ha ht pre (uintT (below t x.v) ++ (pkS t (texts l) ++ post)) hx1; have e2 : pre ++ (uintT (below t x.n) ++ (uintT (below t x.v) ++ (pkS t (texts l) ++ post))) = (pre ++ uintT (below t x.n)) ++ (uintT (below t x.v) ++ (pkS t (texts l) ++ post)) := by simp
  have s2 := Kqd ha ht (pre ++ uintT (below t x.n)) (pkS t (texts l) ++ post) hx2; rw [← e2, Jd] at s2; have e3 : pre ++ (uintT (below t x.n) ++ (uintT (below t x.v) ++ (pkS t (texts l) ++ post))) = (pre ++ uintT (below t x.n) ++ uintT (below t x.v)) ++ (pkS t (texts l) ++ post) := by simp
  have ih := Kqx ha ht l (out ++ [x]) (pre ++ uintT (below t x.n) ++ uintT (below t x.v)) post (fun y hy => hf y (by simp [hy])) (by simpa using hn) (fun y hy => hm y (by simp [hy])); rw [← e3, Jd, Jd] at ih; obtain ⟨f1, f2⟩ := hf x (by simp); have htl := Kvo hn; rw [e1, s1]; simp only []; rw [s2]; simp only [ne_eq, not_true_eq_false, if_false, f1, f2, htl, Bool.false_eq_true, Bool.true_eq_false]; rw [ih]; simp [Nat.add_assoc]
theorem Qco {t : List Txt} (ha : Asc t) (ht : t.length < 2 ^ 64) {l : List Lb} (he : Kci l = 0) (hm : ∀ x ∈ texts l, x ∈ t) (pre post : List UInt8) :
  unpR t (pre ++ (pk t l ++ post)) (pre.length : Int) = (l, pre.length + (pk t l).length, 0) := by
 have hmk : Kbj l = 0 := by
  rcases Kgt l with ⟨h1, h2⟩ | ⟨h1, _⟩ | ⟨h1, _⟩
  ·rw [h2] at he; exact he
  ·exact h1
  ·exact h1
 have hpw : (names l).Pairwise (· < ·) := by
  unfold Kci at he; rw [if_neg (by simp [hmk])] at he
  split at he
  ·assumption
  ·omega
 obtain ⟨h0, h8, hf, _⟩ := Kei hmk; have hr := Kkx pre (pkS t (texts l) ++ post) (v := l.length) (by omega); unfold pk; rw [List.append_assoc, unpR, hr]; simp only [ne_eq, not_true_eq_false, if_false]; rw [if_neg h0, if_neg (by omega)]; have := Kqx ha ht l [] (pre ++ uintT l.length) post hf (by simpa using hpw) hm; rw [Jd, List.append_assoc] at this; rw [this]; simp [Nat.add_assoc]
theorem Kwq (t : List Txt) : ∀ xs : List Txt, (pkS t xs).length ≤ 11 * xs.length
 | [] => by simp [pkS]
 | x :: r => by
  have h1 := Kwq t r; have h2 := Kab (below t x); rw [Kim, Jd, List.length_cons]; omega
theorem Qai (t : List Txt) (l : List Lb) : (pk t l).length ≤ 11 + 22 * l.length := by
 have h1 := Kwq t (texts l); have h2 := Kab l.length
 have h3 : (texts l).length = 2 * l.length := by
  clear h1 h2
  induction l with
  | nil => rfl
  | cons x l ih => rw [Kgh, List.length_cons, List.length_cons, ih, List.length_cons]; omega
 unfold pk; rw [Jd]; omega
end
section
def Kbw : Nat → List Nat → List UInt8
 | _, [] => []
 | a, x :: l => uintT (x - a) ++ Kbw x l
def postT (l : List Nat) : List UInt8 := uintT l.length ++ Kbw 0 l
def Kgp : Nat → Bool → List Nat → Prop
 | _, _, [] => True
 | a, first, x :: l => (a < x ∨ (first = true ∧ a ≤ x)) ∧ x ≤ 4611686018427387904 ∧ Kgp x false l
def Ken (s : List UInt8) : Nat → Nat → Bool → Nat → Option (List Nat × Nat)
 | 0, _, _, i => some ([], i)
 | n + 1, a, first, i => match ruAt s i with
  | none => none
  | some (st, i') => if (first = false ∧ st = 0) ∨ 4611686018427387904 - a < st then none else match Ken s n (a + st) false i' with
   | none => none
   | some (l, i2) => some ((a + st) :: l, i2)
def postR (s : List UInt8) (i : Nat) : Option (List Nat × Nat) := match ruAt s i with
 | none => none
 | some (n, i') => Ken s n 0 true i'
theorem Koj {s r : List UInt8} : ∀ (l : List Nat) {i a : Nat} {first : Bool}, Kgp a first l → s.drop i = Kbw a l ++ r → Ken s l.length a first i = some (l, i + (Kbw a l).length) ∧ s.drop (i + (Kbw a l).length) = r
 | [], i, a, first, _, h => ⟨rfl, h⟩
 | x :: l, i, a, first, hr, h => by
  obtain ⟨h1, h2, h3⟩ := hr; rw [Kbw, List.append_assoc] at h; obtain ⟨e1, k1⟩ := ru_of (v := x - a) (by omega) h; obtain ⟨e2, k2⟩ := Koj l h3 k1; have ha : a + (x - a) = x := by omega
  rw [List.length_cons, Ken, e1]; dsimp only
  have hc : ¬ ((first = false ∧ x - a = 0) ∨ 4611686018427387904 - a < x - a) := by
   rintro (⟨hf, h0⟩ | h0)
   ·rcases h1 with h1 | ⟨h1, _⟩
    ·omega
    ·rw [h1] at hf; cases hf
   ·rcases h1 with h1 | ⟨_, h1⟩ <;> omega
  rw [if_neg hc, ha, e2]; simp only [Kbw, List.length_append, Nat.add_assoc] at k2 ⊢; exact ⟨trivial, k2⟩
theorem Qbj {s r : List UInt8} {i : Nat} {l : List Nat} (hr : Kgp 0 true l) (hn : l.length < 2 ^ 64) (h : s.drop i = postT l ++ r) : postR s i = some (l, i + (postT l).length) ∧ s.drop (i + (postT l).length) = r := by
 unfold postT at h ⊢; rw [List.append_assoc] at h; obtain ⟨e1, k1⟩ := ru_of hn h; obtain ⟨e2, k2⟩ := Koj l hr k1; unfold postR; rw [e1]; dsimp only; rw [e2]; simp only [List.length_append, Nat.add_assoc] at k2 ⊢; exact ⟨trivial, k2⟩
def riAt (s : List UInt8) (i : Nat) : Option (Int × Nat) := match readI (s.drop i) with
 | .ok (v, k) => some (v, i + k)
 | .error _ => none
theorem ri_of {s r : List UInt8} {i : Nat} {v : Int} (h1 : -9223372036854775808 ≤ v) (h2 : v ≤ 9223372036854775807) (h : s.drop i = intT v ++ r) : riAt s i = some (v, i + (intT v).length) ∧ s.drop (i + (intT v).length) = r := by
 refine ⟨?_, ?_⟩
 ·unfold riAt; rw [h, Qcf h1 h2]
 ·rw [← List.drop_drop, h, List.drop_left]
end
end Go.Proofs.YtdoiekknhnbepaaGreatDoor
