/- SymbolsBack answers true for every list of lists of labels whose bulk is at most 1048576. -/
import Derived.Test.YtpmahljbkgielaaOpenS
import Derived.Deep.CondSized
import Derived.Test.YtpmahljbkgielaaOpenSets
import Derived.Test.YtpmahljbkgielaaSymLawE
namespace Go.Proofs.Ytpmahljbkgielaa
open Go.ChangeShapes Go.WideShapes Go.ChangeAt Go.RowKit Go.ChangeMaps

set_option maxRecDepth 100000 in
theorem symbolsBack_contract (H : Type) (enc : TypeId × Value → H) (W : World) (base : Nat) (args : Array Value) (ds gs : List (DataW H)) (before : List MemPlace)
    (hval0 : ∀ (j : Nat) t v, Try.f7.params[j]? = some t → args[j]? = some v → Value.okWide Try.prog W .any base t v)
    (hW : DataW.Whole enc Try.prog Try.f7.params.toList Rows.symbolsBackSpec.vars false W args.toList ds gs before) (hk0 : Rows.uptoSmall H (ds ++ gs) = true)
    (hsz0 : (DataW.weightsEach Try.prog (Try.f7.params.toList ++ Rows.symbolsBackSpec.plain.varTypes Try.prog) (ds ++ gs)).all (· ≤ reachBytes) = true) :
    Calls Try.prog 7 args W fun e W' => ∃ v, e = .returned v ∧ Rows.symbolsBackSpec.post enc Try.prog Try.f7 false true false false W args v W' := by
  have hsz := hsz0
  have hval := hval0
  have hW' := hW
  obtain ⟨p, q, hA0, hV, rfl, _, _⟩ := hW
  have hA : DataW.TrodAll enc Try.prog W 0 (fun _ => true) true Try.f7.params.toList args.toList ds p := hA0
  rw [Try.params7] at hA hval hsz
  obtain ⟨v0, d0, rfl, rfl, h0⟩ := trodAll_one hA
  obtain ⟨p0, rfl⟩ : ∃ p0, p0 = p := ⟨_, rfl⟩
  obtain ⟨rfl, rfl⟩ := trodVars_none hV
  clear hA0 hval0 hsz0
  simp only [List.append_nil] at hW' hk0
  have hbulk := bulk_all hk0
  simp only [Rows.uptoBulkAll, Nat.add_zero] at hbulk
  have hlt : ∀ x ∈ p0, x.block < W.heap.size := fun x hx => by simpa using hW'.lt x (by simpa using hx)
  have hargs : ∀ (W' : World), Below W.heap.size W W' → DataW.TrodAll enc Try.prog W' 0 (fun b => decide (b < W.heap.size)) true [45] [v0] [d0] (p0) :=
    fun W' hn => trodAll_mk1 (Below.trod Try.laidOut (by kernel_rfl) (of_decide_eq_true (by kernel_rfl)) h0 hn (fun x hx => hlt x (by simp [hx])))
  obtain ⟨fu0, hf0⟩ := id h0
  obtain ⟨x0, y0, z0, rfl⟩ := okWide_slice Try.underlying45 (hval 0 45 v0 rfl rfl)
  obtain ⟨A0, n0, c0, l0, he0, hc0, hE0, hr0⟩ := open_sets hf0
  injection he0 with x0e y0e z0e
  subst x0e y0e z0e
  have w0 := hr0 (by omega)
  refine (symbolsBack_calls l0 x0 y0 z0 W hE0 w0.1 w0.2.1 w0.2.2.1).mono fun e W' ⟨he, hb⟩ => ?_
  subst he
  exact ⟨_, rfl, _, _, _, [], _, [], hW', trodAll_mk1 (shut_bool Try.underlying4 true), hargs _ hb, rfl, hb.frame _, fun h => by cases h⟩

set_option maxRecDepth 100000 in
theorem symbolsBack_lifted (os : Os) (started : os.Started) (H : Type) (enc : TypeId × Value → H) (F : Stop.Interp) :
    ReturnsInHanded {} Try.checked os 7 .any ((Rows.OpenSpec.upto Rows.symbolsBackSpec).pre6 enc Try.prog Try.f7 Rows.symbolsBackUptoRow.domain false) (((Rows.OpenSpec.upto Rows.symbolsBackSpec).at F).post enc Try.prog Try.f7 false true false false) := by
  refine returnsInHanded_of_cond_sized (C := Try.checked) (s := Rows.OpenSpec.upto Rows.symbolsBackSpec) (k := Rows.uptoSmall) rfl Try.own started (by kernel_rfl) Try.func7
    (OpenSpec.witness (enc := enc) (C := Try.checked) (s := Rows.OpenSpec.upto Rows.symbolsBackSpec) (k := Rows.uptoSmall) rfl false ⟨#[], #[.slice none 0 0], []⟩ 8 (by kernel_rfl) (by kernel_rfl) (by kernel_rfl)
      (x := ([.nil], [], [])) (by kernel_rfl) rfl (by kernel_rfl)) ?_
  intro W base args ds gs before hval hW _ hk hsz _
  exact symbolsBack_contract H enc W base args ds gs before hval hW hk hsz

theorem symbolsBack_holds : Rows.SymbolsBackUptoSaid :=
  OpenClaim.holds_of_cond 7 Try.f7 rfl rfl rfl rfl rfl rfl rfl ⟨rfl, rfl, rfl, rfl, rfl⟩ rfl rfl rfl rfl rfl (by kernel_rfl) Try.func7 (by kernel_rfl)
    (of_decide_eq_true (by kernel_rfl)) (by unfold Func.isWrapper; first | (rw [if_pos (by decide +kernel)]; kernel_rfl) | (rw [if_neg (by decide +kernel)]; exact ⟨rfl, rfl⟩))
    (fun os started H enc _ F => symbolsBack_lifted os started H enc F)

end Go.Proofs.Ytpmahljbkgielaa
