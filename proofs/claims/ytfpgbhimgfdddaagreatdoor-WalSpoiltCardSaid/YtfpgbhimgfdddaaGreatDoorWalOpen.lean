/- Opening a script of layer 16's laws. -/
import Derived.Test.YtfpgbhimgfdddaaGreatDoorOpenRow
import Derived.Test.YtfpgbhimgfdddaaGreatDoorStgD
import Derived.Test.YtfpgbhimgfdddaaGreatDoorWax05
set_option linter.unusedVariables false
set_option linter.unusedSimpArgs false
namespace Go.Proofs.YtfpgbhimgfdddaaGreatDoor
open Go.ChangeShapes Go.WideShapes Go.ChangeAt Go.RowKit Go.Deep
instance : Inhabited OpW16 := ⟨⟨0, 0, []⟩⟩
theorem cells_opw : Tryz.prog.cellsOf 179 = 3 := by kernel_rfl
theorem bytes_opw : Tryz.prog.bytesOf 179 = 32 := by kernel_rfl
theorem cells_intW : Tryz.prog.cellsOf 3 = 1 := by kernel_rfl
theorem cells_strW : Tryz.prog.cellsOf 9 = 1 := by kernel_rfl
section
variable {H : Type} {enc : TypeId × Value → H} {w : World} {base : Nat} {spare : Nat → Bool} {held : Bool}
set_option maxRecDepth 100000 in
theorem open_opw {fuel : Nat} {l : List Value} {x : DataW H × List MemPlace} (h : DataW.trod enc Tryz.prog w base spare held fuel 179 l = some x) : ∃ y : OpW16, l = encOpW y ∧ (i64 y.kind ∧ i64 y.n ∧ (Light Tryz.prog 179 x.1 → y.t.length ≤ 140737488351232)) := by
  obtain ⟨xs, n, _, hx, hcl, hlen, hg⟩ := DataW.trod_struct Tryz.underlying179 h
  rw [cells_opw] at hcl
  match l, hcl, xs, hlen with
  | [c0, c1, c2], _, [x0, x1, x2], _ =>
    have g0 := hg 0 _ rfl
    have g1 := hg 1 _ rfl
    have g2 := hg 2 _ rfl
    simp [cells_intW, cells_strW] at g0 g1 g2
    obtain ⟨a, e0, f0, wa⟩ := DataW.trod_int Tryz.underlying3 g0
    obtain ⟨b, e1, f1, wb⟩ := DataW.trod_int Tryz.underlying3 g1
    obtain ⟨X, e2, f2, _⟩ := DataW.trod_string Tryz.underlying9 g2
    simp at e0 e1 e2
    subst e0 e1 e2
    refine ⟨⟨a, b, X.data.toList⟩, rfl, wf_i64 wa, wf_i64 wb, fun hL => ?_⟩
    rw [hx] at hL
    have h2 : Light Tryz.prog 9 x2.1 := hL.part Tryz.underlying179 (j := 2) rfl rfl
    rw [f2] at h2
    exact h2.text
theorem open_opsW {fuel : Nat} {v : Value} {x : DataW H × List MemPlace} (h : DataW.trod enc Tryz.prog w base spare held fuel 92 [v] = some x) :
    ∃ A n c l, v = .slice A n c ∧ (A = none → c = 0) ∧ n ≤ c ∧ Elems w w.heap.size 3 encOpW A n l ∧ (∀ y ∈ l, i64 y.kind ∧ i64 y.n) ∧ (Light Tryz.prog 92 x.1 → n ≤ 140737488351232 ∧ ∀ y ∈ l, y.t.length ≤ 140737488351232) := by
  obtain ⟨A, n, c, l, rfl, h1, h2, h3, h4, h5⟩ := open_row (ea := encOpW) (Q := fun d (y : OpW16) => i64 y.kind ∧ i64 y.n ∧ (Light Tryz.prog 179 d → y.t.length ≤ 140737488351232)) Tryz.underlying92 cells_opw (by omega) (fun _ => rfl) (fun _ _ _ h => open_opw h) h
  refine ⟨A, n, c, l, rfl, h1, h2, h3, fun y hy => ?_, fun hL => ⟨?_, fun y hy => ?_⟩⟩
  · obtain ⟨_, q1, q2, _⟩ := h5 y hy
    exact ⟨q1, q2⟩
  · have := (h4 hL).1
    rw [bytes_opw] at this
    omega
  · obtain ⟨d, hd, q1, q2, q3⟩ := (h4 hL).2 y hy
    exact q3 hd
end
end Go.Proofs.YtfpgbhimgfdddaaGreatDoor
