/- DiskTwins answers true for all scripts of bulk at most 1048576: the tied card. -/
import Derived.Test.YtdaidbnbfjgjeaaGreatDoorDsa32
import Derived.Test.YtdaidbnbfjgjeaaGreatDoorDskTwins
import Derived.Test.YtdaidbnbfjgjeaaGreatDoorCards
import Derived.Test.YtdaidbnbfjgjeaaGreatDoorTie
import Derived.WalkKit
import Derived.Deep.DeepHandedRow
import Derived.Deep.DeepWitnessRowRef
import Derived.Lib.LaidTab
set_option linter.unusedVariables false
set_option linter.unusedSimpArgs false
namespace Go.Proofs.YtdaidbnbfjgjeaaGreatDoor
open Go.ChangeShapes Go.WideShapes Go.ChangeAt Go.RowKit Go.ChangeMaps

theorem twins_reads (os : Os) {H : Type} (enc : TypeId × Value → H) : ∃ places, DataW.whole enc Tryz.prog ((laidWorld os).forCall (fun _ _ => 0) ⟨#[], #[.slice none 0 0, .slice none 0 0], []⟩).memory Tryz.f5.params.toList Rows.diskTwinsSpec.vars false #[Value.slice none 0 0, .slice none 0 0].toList 8 = some ([.nil, .nil], [], places) :=
  ⟨[], by kernel_rfl⟩

set_option maxRecDepth 100000 in
theorem twins_contract (H : Type) (enc : TypeId × Value → H) (W : World) (base : Nat) (args : Array Value) (ds gs : List (DataW H)) (before : List MemPlace)
    (hval0 : ∀ (j : Nat) t v, Tryz.f5.params[j]? = some t → args[j]? = some v → Value.okWide Tryz.prog W .any base t v)
    (hW : DataW.Whole enc Tryz.prog Tryz.f5.params.toList Rows.diskTwinsSpec.vars false W args.toList ds gs before) (hk0 : Rows.uptoSmall H (ds ++ gs) = true) (hL : laidMetH Tryz.prog Rows.diskTwinsRow.laid W) :
    Calls Tryz.prog 5 args W fun e W' => ∃ v, e = .returned v ∧ Rows.diskTwinsSpec.post enc Tryz.prog Tryz.f5 false true false false W args v W' := by
  have hval := hval0
  have hW' := hW
  obtain ⟨p, q, hA0, hV, rfl, _, _⟩ := hW
  have hA : DataW.TrodAll enc Tryz.prog W 0 (fun _ => true) true Tryz.f5.params.toList args.toList ds p := hA0
  rw [Tryz.params5] at hA hval
  obtain ⟨v0, v1, d0, d1, p0, p1, rfl, rfl, rfl, h0, h1⟩ := trodAll_two hA
  obtain ⟨rfl, rfl⟩ := trodVars_none hV
  clear hA0 hval0
  simp only [List.append_nil] at hW' hk0
  have hbulk := bulk_all hk0
  simp only [Rows.uptoBulkAll, Nat.add_zero] at hbulk
  have hlt : ∀ x ∈ p0 ++ p1, x.block < W.heap.size := fun x hx => by simpa using hW'.lt x (by simpa using hx)
  have hargs : ∀ (W' : World), Below W.heap.size W W' → DataW.TrodAll enc Tryz.prog W' 0 (fun b => decide (b < W.heap.size)) true [40, 40] [v0, v1] [d0, d1] (p0 ++ p1) :=
    fun W' hn => trodAll_mk2 (Below.trod Tryz.laidOut (by kernel_rfl) (of_decide_eq_true (by kernel_rfl)) h0 hn (fun x hx => hlt x (by simp [hx]))) (Below.trod Tryz.laidOut (by kernel_rfl) (of_decide_eq_true (by kernel_rfl)) h1 hn (fun x hx => hlt x (by simp [hx])))
  obtain ⟨fu0, hf0⟩ := id h0
  obtain ⟨x0, y0, z0, rfl⟩ := okWide_slice Tryz.underlying40 (hval 0 40 v0 rfl rfl)
  obtain ⟨A0, n0, c0, l0, he0, hr0⟩ := open_script hf0
  injection he0 with x0e y0e z0e
  subst x0e y0e z0e
  obtain ⟨fu1, hf1⟩ := id h1
  obtain ⟨x1, y1, z1, rfl⟩ := okWide_slice Tryz.underlying40 (hval 1 40 v1 rfl rfl)
  obtain ⟨A1, n1, c1, l1, he1, hr1⟩ := open_script hf1
  injection he1 with x1e y1e z1e
  subst x1e y1e z1e
  obtain ⟨hs0, hc0⟩ := hr0 (by dsimp only; omega)
  obtain ⟨hs1, hc1⟩ := hr1 (by dsimp only; omega)
  obtain ⟨a, hst⟩ := start_of hL
  refine (twins_calls x0 x1 y0 z0 y1 z1 l0 l1 W hst hs0 hs1 (by omega) (by omega)).mono fun e W' ⟨he, hb⟩ => ?_
  subst he
  exact ⟨_, rfl, _, _, _, [], _, [], hW', trodAll_mk1 (shut_bool Tryz.underlying4 true), hargs _ hb, rfl, hb.frame _, fun h => by cases h⟩

set_option maxRecDepth 100000 in
theorem twins_lifted (os : Os) (started : os.Started) (H : Type) (enc : TypeId × Value → H) (F : Stop.Interp) :
    ReturnsInHanded {} Tryz.checked os 5 .any ((Rows.OpenSpec.upto Rows.diskTwinsSpec).preRow enc Tryz.prog Tryz.f5 Rows.diskTwinsUptoRow.domain false Rows.diskTwinsUptoRow.laid) (((Rows.OpenSpec.upto Rows.diskTwinsSpec).at F).post enc Tryz.prog Tryz.f5 false true false false) := by
  obtain ⟨places, hx⟩ := twins_reads os enc
  refine returnsInHanded_of_row (C := Tryz.checked) (s := Rows.OpenSpec.upto Rows.diskTwinsSpec) Tryz.own started (by kernel_rfl) Tryz.func5
    (witness_row_atRef (enc := enc) (C := Tryz.checked) false (laidWorld os) #[.slice none 0 0, .slice none 0 0] rfl (by kernel_rfl) (by kernel_rfl) (by kernel_rfl)
      (OpenSpec.preRow_of_cond 8 hx (by kernel_rfl) (fun k hk => by cases hk; kernel_rfl) (by kernel_rfl) (laid_met7 os _))) ?_
  intro W base args ds gs before hval hW _ hcond _ hL _ _
  exact twins_contract H enc W base args ds gs before hval hW (hcond _ rfl) hL

theorem twins_said : Rows.DiskTwinsUptoSaid :=
  OpenClaim.holds_of_cond 5 Tryz.f5 rfl rfl rfl rfl rfl rfl rfl ⟨rfl, rfl, rfl, rfl, rfl⟩ rfl rfl rfl rfl rfl (by kernel_rfl) Tryz.func5 (by kernel_rfl)
    (of_decide_eq_true (by kernel_rfl)) (by unfold Func.isWrapper; first | (rw [if_pos (by decide +kernel)]; kernel_rfl) | (rw [if_neg (by decide +kernel)]; exact ⟨rfl, rfl⟩))
    (fun os started H enc _ F => by rw [OpenClaim.pre_eq_preRow]; exact twins_lifted os started H enc F)
theorem twins_plain (f : FuncId) (fn : Func) (hf : Tryz.pinned.checked.prog.funcNamed "almanac/almanaclaw03.DiskTwins" = some f) (hfn : Tryz.pinned.checked.prog.funcs[f]? = some fn) :
    true = Tryz.pinned.checked.prog.looks [] ∧ ∀ (j : Nat) t, fn.params[j]? = some t → Tryz.pinned.checked.prog.wantsStandIn t = false := by
  obtain rfl : f = 5 := Option.some.inj ((show Tryz.prog.funcNamed "almanac/almanaclaw03.DiskTwins" = some 5 by kernel_rfl).symm.trans hf) |>.symm
  obtain rfl : fn = Tryz.f5 := (Option.some.inj (Tryz.func5.symm.trans hfn)).symm
  refine ⟨by kernel_rfl, fun j t ht => ?_⟩
  rw [Tryz.params5] at ht
  have hm : t = 40 := by simpa using Array.mem_of_getElem? ht
  rcases hm with rfl
  · exact (show Tryz.prog.wantsStandIn 40 = false by kernel_rfl)
theorem diskTwins_holds : Rows.DiskTwinsUptoCardSaid :=
  Claim7.holds_tied_plain_at .later [] _ _ _ _ twins_said (fun _ h => by cases h) (by kernel_rfl) (fun _ h => by cases h) diskTwinsUpto_row_tie rfl ⟨rfl, rfl⟩ (by kernel_rfl) rfl twins_plain (by kernel_rfl)
end Go.Proofs.YtdaidbnbfjgjeaaGreatDoor
