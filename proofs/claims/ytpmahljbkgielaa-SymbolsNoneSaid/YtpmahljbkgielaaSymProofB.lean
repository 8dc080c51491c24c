/- SymbolsNone answers true for every list, number and list of labels. -/
import Derived.Test.YtpmahljbkgielaaOpenS
import Derived.Test.YtpmahljbkgielaaOpenLab
import Derived.Test.YtpmahljbkgielaaSymLawB
namespace Go.Proofs.Ytpmahljbkgielaa
open Go.ChangeShapes Go.WideShapes Go.ChangeAt Go.RowKit Go.ChangeMaps

set_option maxRecDepth 100000 in
theorem symbolsNone_lifted (os : Os) (started : os.Started) (H : Type) (enc : TypeId × Value → H) :
    ReturnsInHanded {} Try.checked os 4 .any (Rows.symbolsNoneSpec.pre6 enc Try.prog Try.f4 Rows.symbolsNoneRow.domain false) (Rows.symbolsNoneSpec.post enc Try.prog Try.f4 false true false false) := by
  refine returnsInHanded_of_change_sized (C := Try.checked) Try.own started (by kernel_rfl) Try.func4
    (ChangeSpec.witness6 (enc := enc) (C := Try.checked) false ⟨#[], #[.slice none 0 0, .int .i64 0, .slice none 0 0], []⟩ 8 (by kernel_rfl) (by kernel_rfl) (by kernel_rfl) (by kernel_rfl)) ?_
  intro W base args ds gs before hval0 hW _ hsz0 _
  have hsz : (DataW.weightsEach Try.prog (Try.f4.params.toList ++ Rows.symbolsNoneSpec.plain.varTypes Try.prog) (ds ++ gs)).all (· ≤ reachBytes) = true := hsz0
  clear hsz0
  have hval : ∀ (j : Nat) t v, Try.f4.params[j]? = some t → args[j]? = some v → Value.okWide Try.prog W .any base t v := hval0
  have hW' := hW
  obtain ⟨p, q, hA0, hV, rfl, _, _⟩ := hW
  have hA : DataW.TrodAll enc Try.prog W 0 (fun _ => true) true Try.f4.params.toList args.toList ds p := hA0
  rw [Try.params4] at hA hval hsz
  obtain ⟨v0, v1, v2, d0, d1, d2, p0, p1, p2, rfl, rfl, rfl, h0, h1, h2⟩ := trodAll_three hA
  obtain ⟨rfl, rfl⟩ := trodVars_none hV
  clear hA0 hval0
  simp only [List.append_nil] at hW'
  have hlt : ∀ x ∈ p0 ++ (p1 ++ p2), x.block < W.heap.size := fun x hx => by simpa using hW'.lt x (by simpa using hx)
  have hargs : ∀ (W' : World), Below W.heap.size W W' → DataW.TrodAll enc Try.prog W' 0 (fun b => decide (b < W.heap.size)) true [22, 3, 36] [v0, v1, v2] [d0, d1, d2] (p0 ++ (p1 ++ p2)) :=
    fun W' hn => trodAll_mk3 (Below.trod Try.laidOut (by kernel_rfl) (of_decide_eq_true (by kernel_rfl)) h0 hn (fun x hx => hlt x (by simp [hx]))) (Below.trod Try.laidOut (by kernel_rfl) (of_decide_eq_true (by kernel_rfl)) h1 hn (fun x hx => hlt x (by simp [hx]))) (Below.trod Try.laidOut (by kernel_rfl) (of_decide_eq_true (by kernel_rfl)) h2 hn (fun x hx => hlt x (by simp [hx])))
  have w00 := Light.of hsz (j := 0) rfl rfl
  obtain ⟨fu0, hf0⟩ := id h0
  obtain ⟨x0, y0, z0, rfl⟩ := okWide_slice Try.underlying22 (hval 0 22 v0 rfl rfl)
  obtain ⟨A0, n0, c0, l0, he0, hA0, hc0, hE0, hr0⟩ := open_texts hf0
  injection he0 with x0e y0e z0e
  subst x0e y0e z0e
  have w0 := hr0 w00
  obtain ⟨a1, rfl, rfl, rfl, wn1⟩ := open_int Try.underlying3 (hval 1 3 v1 rfl rfl) h1
  have w1 := wf_lo wn1
  have w20 := Light.of hsz (j := 2) rfl rfl
  obtain ⟨fu2, hf2⟩ := id h2
  obtain ⟨x2, y2, z2, rfl⟩ := okWide_slice Try.underlying36 (hval 2 36 v2 rfl rfl)
  obtain ⟨A2, n2, c2, l2, he2, hA2, hc2, hE2, hr2⟩ := open_labels hf2
  injection he2 with x2e y2e z2e
  subst x2e y2e z2e
  have w2 := hr2 w20
  refine (symbolsNone_calls l0 x0 y0 z0 a1 l2 x2 y2 z2 W hE0 hA0 w0.1 hE2 hc2 w2.1 w2.2 w1.1 w1.2).mono fun e W' ⟨he, hb⟩ => ?_
  subst he
  exact ⟨_, rfl, _, _, _, [], _, [], hW', trodAll_mk1 (shut_bool Try.underlying4 true), hargs _ hb, rfl, hb.frame _, fun h => by cases h⟩

theorem symbolsNone_holds : Rows.SymbolsNoneSaid :=
  OpenClaim.holds_of_wide 4 Try.f4 rfl rfl rfl rfl rfl rfl rfl ⟨rfl, rfl, rfl, rfl, rfl⟩ rfl rfl rfl rfl rfl (by kernel_rfl) Try.func4 (by kernel_rfl)
    (of_decide_eq_true (by kernel_rfl)) (by unfold Func.isWrapper; first | (rw [if_pos (by decide +kernel)]; kernel_rfl) | (rw [if_neg (by decide +kernel)]; exact ⟨rfl, rfl⟩))
    (fun os started H enc _ => symbolsNone_lifted os started H enc)

end Go.Proofs.Ytpmahljbkgielaa
