/- Opening arguments: lists of labels, lists of such lists. -/
import Derived.Test.YtpmahljbkgielaaOpenSym
import Derived.Test.YtpmahljbkgielaaLabWalksB
namespace Go.Proofs.Ytpmahljbkgielaa
open Go.ChangeShapes Go.WideShapes Go.ChangeAt Go.RowKit Go.Deep
section
variable {H : Type} {enc : TypeId × Value → H} {w : World} {base : Nat} {spare : Nat → Bool} {held : Bool}
theorem cells_lab : Try.prog.cellsOf 69 = 2 := by kernel_rfl
theorem bytes_lab : Try.prog.bytesOf 69 = 32 := by kernel_rfl
/-- Every text of the label is within the reach. -/
def Lb.short (x : Lb) : Prop := x.n.length ≤ 140737488351232 ∧ x.v.length ≤ 140737488351232
set_option maxRecDepth 100000 in
theorem open_lab {fuel : Nat} {l : List Value} {x : DataW H × List MemPlace} (h : DataW.trod enc Try.prog w base spare held fuel 69 l = some x) : ∃ y : Lb, l = encLb y ∧ x.1 = .agg [litT y.n, litT y.v] := by
  obtain ⟨xs, n, _, hx, hcl, hlen, hg⟩ := DataW.trod_struct Try.underlying69 h
  rw [cells_lab] at hcl
  match l, hcl, xs, hlen with
  | [c0, c1], _, [x0, x1], _ =>
    have g0 := hg 0 _ rfl
    have g1 := hg 1 _ rfl
    simp [cells_string] at g0 g1
    obtain ⟨a, e0, f0⟩ := open_txt g0
    obtain ⟨b, e1, f1⟩ := open_txt g1
    simp at e0 e1
    subst e0 e1
    refine ⟨⟨a, b⟩, rfl, ?_⟩
    rw [hx]
    simp [f0, f1]
theorem lab_light {y : Lb} (h : Light (H := H) Try.prog 69 (.agg [litT y.n, litT y.v])) : y.short :=
  ⟨(h.part Try.underlying69 (j := 0) rfl rfl).text, (h.part Try.underlying69 (j := 1) rfl rfl).text⟩
theorem open_labels {fuel : Nat} {v : Value} {x : DataW H × List MemPlace} (h : DataW.trod enc Try.prog w base spare held fuel 36 [v] = some x) :
    ∃ A n c l, v = .slice A n c ∧ (A = none → c = 0) ∧ n ≤ c ∧ Elems w w.heap.size 2 encLb A n l ∧ (Light Try.prog 36 x.1 → n * 32 ≤ 140737488351232 ∧ ∀ s ∈ l, s.short) := by
  obtain ⟨A, n, c, l, rfl, h1, h2, h3, h4, _⟩ := open_row (ea := encLb) (Q := fun d s => d = .agg [litT s.n, litT s.v]) Try.underlying36 cells_lab (by omega) (fun _ => rfl) (fun _ _ _ h => open_lab h) h
  refine ⟨A, n, c, l, rfl, h1, h2, h3, fun hL => ?_⟩
  obtain ⟨h5, h6⟩ := h4 hL
  rw [bytes_lab] at h5
  refine ⟨h5, fun s hs => ?_⟩
  obtain ⟨d, hd, rfl⟩ := h6 s hs
  exact lab_light hd
end
end Go.Proofs.Ytpmahljbkgielaa
