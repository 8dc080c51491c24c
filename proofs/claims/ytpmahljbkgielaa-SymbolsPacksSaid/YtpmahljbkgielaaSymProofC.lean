/- SymbolsPacks answers true for every list of texts, list of labels and text. -/
import Derived.Test.YtpmahljbkgielaaOpenS
import Derived.Test.YtpmahljbkgielaaOpenLab
import Derived.Test.YtpmahljbkgielaaSymLawC
namespace Go.Proofs.Ytpmahljbkgielaa
open Go.ChangeShapes Go.WideShapes Go.ChangeAt Go.RowKit Go.ChangeMaps

set_option maxRecDepth 100000 in
theorem symbolsPacks_lifted (os : Os) (started : os.Started) (H : Type) (enc : TypeId × Value → H) :
    ReturnsInHanded {} Try.checked os 6 .any (Rows.symbolsPacksSpec.pre6 enc Try.prog Try.f6 Rows.symbolsPacksRow.domain false) (Rows.symbolsPacksSpec.post enc Try.prog Try.f6 false true false false) := by
  refine returnsInHanded_of_change_sized (C := Try.checked) Try.own started (by kernel_rfl) Try.func6
    (ChangeSpec.witness6 (enc := enc) (C := Try.checked) false ⟨#[], #[.slice none 0 0, .slice none 0 0, .string ⟨#[]⟩], []⟩ 8 (by kernel_rfl) (by kernel_rfl) (by kernel_rfl) (by kernel_rfl)) ?_
  intro W base args ds gs before hval0 hW _ hsz0 _
  have hsz : (DataW.weightsEach Try.prog (Try.f6.params.toList ++ Rows.symbolsPacksSpec.plain.varTypes Try.prog) (ds ++ gs)).all (· ≤ reachBytes) = true := hsz0
  clear hsz0
  have hval : ∀ (j : Nat) t v, Try.f6.params[j]? = some t → args[j]? = some v → Value.okWide Try.prog W .any base t v := hval0
  have hW' := hW
  obtain ⟨p, q, hA0, hV, rfl, _, _⟩ := hW
  have hA : DataW.TrodAll enc Try.prog W 0 (fun _ => true) true Try.f6.params.toList args.toList ds p := hA0
  rw [Try.params6] at hA hval hsz
  obtain ⟨v0, v1, v2, d0, d1, d2, p0, p1, p2, rfl, rfl, rfl, h0, h1, h2⟩ := trodAll_three hA
  obtain ⟨rfl, rfl⟩ := trodVars_none hV
  clear hA0 hval0
  simp only [List.append_nil] at hW'
  have hlt : ∀ x ∈ p0 ++ (p1 ++ p2), x.block < W.heap.size := fun x hx => by simpa using hW'.lt x (by simpa using hx)
  have hargs : ∀ (W' : World), Below W.heap.size W W' → DataW.TrodAll enc Try.prog W' 0 (fun b => decide (b < W.heap.size)) true [22, 36, 9] [v0, v1, v2] [d0, d1, d2] (p0 ++ (p1 ++ p2)) :=
    fun W' hn => trodAll_mk3 (Below.trod Try.laidOut (by kernel_rfl) (of_decide_eq_true (by kernel_rfl)) h0 hn (fun x hx => hlt x (by simp [hx]))) (Below.trod Try.laidOut (by kernel_rfl) (of_decide_eq_true (by kernel_rfl)) h1 hn (fun x hx => hlt x (by simp [hx]))) (Below.trod Try.laidOut (by kernel_rfl) (of_decide_eq_true (by kernel_rfl)) h2 hn (fun x hx => hlt x (by simp [hx])))
  have w00 := Light.of hsz (j := 0) rfl rfl
  obtain ⟨fu0, hf0⟩ := id h0
  obtain ⟨x0, y0, z0, rfl⟩ := okWide_slice Try.underlying22 (hval 0 22 v0 rfl rfl)
  obtain ⟨A0, n0, c0, l0, he0, hA0, hc0, hE0, hr0⟩ := open_texts hf0
  injection he0 with x0e y0e z0e
  subst x0e y0e z0e
  have w0 := hr0 w00
  have w10 := Light.of hsz (j := 1) rfl rfl
  obtain ⟨fu1, hf1⟩ := id h1
  obtain ⟨x1, y1, z1, rfl⟩ := okWide_slice Try.underlying36 (hval 1 36 v1 rfl rfl)
  obtain ⟨A1, n1, c1, l1, he1, hA1, hc1, hE1, hr1⟩ := open_labels hf1
  injection he1 with x1e y1e z1e
  subst x1e y1e z1e
  have w1 := hr1 w10
  obtain ⟨a2, rfl, rfl, rfl, ws2⟩ := open_string Try.underlying9 (hval 2 9 v2 rfl rfl) h2
  have w2 := string_weight (List.all_eq_true.2 fun m hm => List.all_eq_true.1 hsz m (DataW.weights_mem_each (j := 2) rfl rfl m hm))
  refine (symbolsPacks_calls l0 x0 y0 z0 l1 x1 y1 z1 a2 W hE0 hA0 hc0 w0.1 w0.2 hE1 hA1 hc1 w1.1 w1.2 w2).mono fun e W' ⟨he, hb⟩ => ?_
  subst he
  exact ⟨_, rfl, _, _, _, [], _, [], hW', trodAll_mk1 (shut_bool Try.underlying4 true), hargs _ hb, rfl, hb.frame _, fun h => by cases h⟩

theorem symbolsPacks_holds : Rows.SymbolsPacksSaid :=
  OpenClaim.holds_of_wide 6 Try.f6 rfl rfl rfl rfl rfl rfl rfl ⟨rfl, rfl, rfl, rfl, rfl⟩ rfl rfl rfl rfl rfl (by kernel_rfl) Try.func6 (by kernel_rfl)
    (of_decide_eq_true (by kernel_rfl)) (by unfold Func.isWrapper; first | (rw [if_pos (by decide +kernel)]; kernel_rfl) | (rw [if_neg (by decide +kernel)]; exact ⟨rfl, rfl⟩))
    (fun os started H enc _ => symbolsPacks_lifted os started H enc)

end Go.Proofs.Ytpmahljbkgielaa
