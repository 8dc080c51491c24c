/- Opening the turns of a text (layer 20's law StoreOne), within the bound on the bulk. -/
import Derived.Test.YtfpgbhimgfdddaaGreatDoorStk35
import Derived.Test.YtfpgbhimgfdddaaGreatDoorStoOneA
set_option linter.unusedVariables false
set_option linter.unusedSimpArgs false
namespace Go.Proofs.YtfpgbhimgfdddaaGreatDoor
open Go.ChangeShapes Go.WideShapes Go.ChangeAt Go.RowKit Go.Deep
instance : Inhabited Trn := ⟨⟨0, 0, []⟩⟩
theorem cells_turn : Tryz.prog.cellsOf 48 = 3 := by kernel_rfl
section
variable {H : Type} {enc : TypeId × Value → H} {w : World} {base : Nat} {spare : Nat → Bool} {held : Bool}
set_option maxRecDepth 100000 in
theorem open_turn {fuel : Nat} {l : List Value} {x : DataW H × List MemPlace} (h : DataW.trod enc Tryz.prog w base spare held fuel 48 l = some x) : ∃ y : Trn, l = encTrn y ∧ (i64 y.at_ ∧ i64 y.out ∧ y.t.length + 1 ≤ Rows.uptoBulk x.1) := by
  obtain ⟨xs, n, _, hx, hcl, hlen, hg⟩ := DataW.trod_struct Tryz.underlying48 h
  rw [cells_turn] at hcl
  match l, hcl, xs, hlen with
  | [c0, c1, c2], _, [x0, x1, x2], _ =>
    have g0 := hg 0 _ rfl
    have g1 := hg 1 _ rfl
    have g2 := hg 2 _ rfl
    simp [cells_intT, cells_str3] at g0 g1 g2
    obtain ⟨a, e0, f0, wa⟩ := DataW.trod_int Tryz.underlying3 g0
    obtain ⟨b, e1, f1, wb⟩ := DataW.trod_int Tryz.underlying3 g1
    obtain ⟨X, e2, f2, _⟩ := DataW.trod_string Tryz.underlying9 g2
    simp at e0 e1 e2
    subst e0 e1 e2
    refine ⟨⟨a, b, X.data.toList⟩, rfl, wf_i64 wa, wf_i64 wb, ?_⟩
    rw [hx]
    simp only [List.map_cons, List.map_nil, Rows.uptoBulk, Rows.uptoBulkAll, f0, f1, f2]
    simp only [text_size3]
    omega
theorem turns_sum : ∀ l : List Trn, Trn.len l + l.length = (l.map fun y => y.t.length + 1).sum
  | [] => rfl
  | s :: l => by
    have := turns_sum l
    simp only [Trn.len, List.length_cons, List.map_cons, List.sum_cons] at *
    omega
theorem open_turns {fuel : Nat} {v : Value} {x : DataW H × List MemPlace} (h : DataW.trod enc Tryz.prog w base spare held fuel 46 [v] = some x) :
    ∃ A n c l, v = .slice A n c ∧ (A = none → c = 0) ∧ n ≤ c ∧ Elems w w.heap.size 3 encTrn A n l ∧ (∀ y ∈ l, i64 y.at_ ∧ i64 y.out) ∧ Trn.len l + l.length + 1 ≤ Rows.uptoBulk x.1 := by
  obtain ⟨A, n, c, l, rfl, h1, h2, h3, ds, sp, hx, hl, hQ⟩ := open_row2 (ea := encTrn) (Q := fun d (y : Trn) => i64 y.at_ ∧ i64 y.out ∧ y.t.length + 1 ≤ Rows.uptoBulk d) Tryz.underlying46 cells_turn (by omega) (fun _ => rfl) (fun _ _ _ h => open_turn h) h
  refine ⟨A, n, c, l, rfl, h1, h2, h3, fun y hy => ?_, ?_⟩
  · obtain ⟨i, hi, rfl⟩ := List.mem_iff_getElem.1 hy
    have := hQ i (ds[i]'(by omega)) l[i] (List.getElem?_eq_getElem _) (List.getElem?_eq_getElem hi)
    exact ⟨this.1, this.2.1⟩
  · rw [turns_sum]
    exact bulk_row (fun y : Trn => y.t.length + 1) hx hl fun i d y hd hy => (hQ i d y hd hy).2.2
end
end Go.Proofs.YtfpgbhimgfdddaaGreatDoor
