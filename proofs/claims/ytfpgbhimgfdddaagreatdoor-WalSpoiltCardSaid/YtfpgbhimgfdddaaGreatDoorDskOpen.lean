/- Opening a script of calls, within the bound on the bulk. -/
import Derived.Test.YtfpgbhimgfdddaaGreatDoorOpenBulk
import Derived.Test.YtfpgbhimgfdddaaGreatDoorWak16
set_option linter.unusedVariables false
set_option linter.unusedSimpArgs false
namespace Go.Proofs.YtfpgbhimgfdddaaGreatDoor
open Go.ChangeShapes Go.WideShapes Go.ChangeAt Go.RowKit Go.Deep
theorem wf_i64 {n : Int} (h : (Lit.int .i64 n).wf = true) : -9223372036854775808 ≤ n ∧ n ≤ 9223372036854775807 := by
  have h1 : IntKind.i64.min = -9223372036854775808 := rfl
  have h2 : IntKind.i64.max = 9223372036854775807 := rfl
  simp only [Lit.wf, Bool.and_eq_true, decide_eq_true_eq] at h
  omega
theorem cells_str3 : Tryz.prog.cellsOf 9 = 1 := by kernel_rfl
theorem cells_int3 : Tryz.prog.cellsOf 3 = 1 := by kernel_rfl
theorem cells_bool3 : Tryz.prog.cellsOf 4 = 1 := by kernel_rfl
theorem cells_sstr3 : Tryz.prog.cellsOf 78 = 1 := by kernel_rfl
theorem cells_sint3 : Tryz.prog.cellsOf 58 = 1 := by kernel_rfl
section
variable {H : Type} {enc : TypeId × Value → H} {w : World} {base : Nat} {spare : Nat → Bool} {held : Bool}
theorem one_slice3 {l : List Value} {x : DataW H × List MemPlace} {fuel : Nat} {t e : TypeId} {P : Program} (ht : P.underlying t = some (.slice e)) (h : DataW.trod enc P w base spare held fuel t l = some x) : ∃ v, l = [v] := by
  rcases open_slice ht h with ⟨hcs, _⟩ | ⟨a, len, cap, m, n, D, Pl, hcs, _⟩
  · exact ⟨_, hcs⟩
  · exact ⟨_, hcs⟩
theorem flat_sum : ∀ l : List Txt, l.flatten.length + l.length = (l.map fun s => s.length + 1).sum
  | [] => rfl
  | s :: l => by
    have := flat_sum l
    simp only [List.flatten_cons, List.length_append, List.length_cons, List.map_cons, List.sum_cons]
    omega
theorem open_texts3 {fuel : Nat} {v : Value} {x : DataW H × List MemPlace} (h : DataW.trod enc Tryz.prog w base spare held fuel 78 [v] = some x) :
    ∃ A n c l, v = .slice A n c ∧ (A = none → c = 0) ∧ n ≤ c ∧ Strs w A n l ∧ l.flatten.length + l.length + 1 ≤ Rows.uptoBulk x.1 := by
  obtain ⟨A, n, c, l, rfl, h1, h2, h3, ds, sp, hx, hl, hQ⟩ := open_row2 (ea := enc1) (Q := fun d s => d = .lit (.string s)) Tryz.underlying78 cells_str3 (by omega) (fun _ => rfl) (fun _ _ _ h => by
    obtain ⟨s, rfl, rfl, _⟩ := DataW.trod_string Tryz.underlying9 h
    exact ⟨s.data.toList, rfl, rfl⟩) h
  refine ⟨A, n, c, l, rfl, h1, h2, h3, ?_⟩
  rw [flat_sum]
  exact bulk_row (fun s : Txt => s.length + 1) hx hl fun i d y hd hy => by rw [hQ i d y hd hy, bulk_text]; exact Nat.le_refl _
theorem open_ints3 {fuel : Nat} {v : Value} {x : DataW H × List MemPlace} (h : DataW.trod enc Tryz.prog w base spare held fuel 58 [v] = some x) :
    ∃ A n c l, v = .slice A n c ∧ (A = none → c = 0) ∧ n ≤ c ∧ Ints3 w A n l ∧ (∀ z ∈ l, -9223372036854775808 ≤ z ∧ z ≤ 9223372036854775807) ∧ l.length + 1 ≤ Rows.uptoBulk x.1 := by
  obtain ⟨A, n, c, l, rfl, h1, h2, h3, ds, sp, hx, hl, hQ⟩ := open_row2 (ea := I1) (Q := fun d (z : Int) => d = .lit (.int .i64 z) ∧ (Lit.int .i64 z).wf = true) Tryz.underlying58 cells_int3 (by omega) (fun _ => rfl) (fun _ _ _ h => by
    obtain ⟨z, rfl, rfl, hz⟩ := DataW.trod_int Tryz.underlying3 h
    exact ⟨z, rfl, rfl, hz⟩) h
  refine ⟨A, n, c, l, rfl, h1, h2, h3, fun z hz => ?_, ?_⟩
  · obtain ⟨i, hi, rfl⟩ := List.mem_iff_getElem.1 hz
    exact wf_i64 (hQ i (ds[i]'(by omega)) l[i] (List.getElem?_eq_getElem _) (List.getElem?_eq_getElem hi)).2
  · have := bulk_row (fun _ : Int => 1) hx hl fun i d y hd hy => by rw [(hQ i d y hd hy).1]; simp [Rows.uptoBulk]
    have e : (l.map fun _ => 1).sum = l.length := by clear this h3 hQ hl; induction l with | nil => rfl | cons z l ih => simp [ih]; omega
    omega
def OpQ (w : World) (d : DataW H) (y : OpE) : Prop := (Rows.uptoBulk d ≤ 1048576 → OpM w (fun _ => 0) y.o y.parts y.data y.parts.flatten.length) ∧ costO y ≤ Rows.uptoBulk d
theorem bulk_mem {d : DataW H} : ∀ {ds : List (DataW H)}, d ∈ ds → Rows.uptoBulk d ≤ Rows.uptoBulkAll ds
  | x :: r, h => by
    simp only [Rows.uptoBulkAll]
    rcases List.mem_cons.1 h with rfl | h
    · omega
    · have := bulk_mem h; omega
theorem costs_len : ∀ l : List OpE, l.length ≤ costs l
  | [] => Nat.zero_le _
  | e :: l => by
    have := costs_len l
    simp only [costs, List.map_cons, List.sum_cons, List.length_cons, costO] at *
    omega
end
end Go.Proofs.YtfpgbhimgfdddaaGreatDoor
