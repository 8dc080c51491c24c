/- Opening arguments: lists of texts. -/
import Derived.Test.YtpmahljbkgielaaOpenRow
import Derived.Test.YtpmahljbkgielaaSymWalksA
namespace Go.Proofs.Ytpmahljbkgielaa
open Go.ChangeShapes Go.WideShapes Go.ChangeAt Go.RowKit Go.Deep
section
variable {H : Type} {enc : TypeId × Value → H} {w : World} {base : Nat} {spare : Nat → Bool} {held : Bool}
theorem cells_string : Try.prog.cellsOf 9 = 1 := by kernel_rfl
theorem bytes_string : Try.prog.bytesOf 9 = 16 := by kernel_rfl
def litT (s : Txt) : DataW H := .lit (.string s)
theorem open_txt {fuel : Nat} {l : List Value} {x : DataW H × List MemPlace} (h : DataW.trod enc Try.prog w base spare held fuel 9 l = some x) : ∃ s : Txt, l = [txtV s] ∧ x.1 = litT s := by
  obtain ⟨s, rfl, rfl, _⟩ := DataW.trod_string Try.underlying9 h
  exact ⟨s.data.toList, rfl, rfl⟩
theorem open_texts {fuel : Nat} {v : Value} {x : DataW H × List MemPlace} (h : DataW.trod enc Try.prog w base spare held fuel 22 [v] = some x) :
    ∃ A n c l, v = .slice A n c ∧ (A = none → c = 0) ∧ n ≤ c ∧ Strs w A n l ∧ (Light Try.prog 22 x.1 → n * 16 ≤ 140737488351232 ∧ ∀ s ∈ l, s.length ≤ 140737488351232) := by
  obtain ⟨A, n, c, l, rfl, h1, h2, h3, h4, _⟩ := open_row (ea := enc1) (Q := fun d s => d = litT s) Try.underlying22 cells_string (by omega) (fun _ => rfl) (fun _ _ _ h => open_txt h) h
  refine ⟨A, n, c, l, rfl, h1, h2, h3, fun hL => ?_⟩
  obtain ⟨h5, h6⟩ := h4 hL
  rw [bytes_string] at h5
  refine ⟨h5, fun s hs => ?_⟩
  obtain ⟨d, hd, rfl⟩ := h6 s hs
  exact hd.text
end
end Go.Proofs.Ytpmahljbkgielaa
