/- Opening an argument that is a list of lists of labels, within the bound on the bulk. -/
import Derived.Test.YtpmahljbkgielaaOpenBulk
import Derived.Test.YtpmahljbkgielaaOpenLab
import Derived.Test.YtpmahljbkgielaaColWalks
namespace Go.Proofs.Ytpmahljbkgielaa
open Go.ChangeShapes Go.WideShapes Go.ChangeAt Go.RowKit Go.Deep
section
variable {H : Type} {enc : TypeId × Value → H} {w : World} {base : Nat} {spare : Nat → Bool} {held : Bool}
def Lb.mass (x : Lb) : Nat := x.n.length + x.v.length + 3
def massL (l : List Lb) : Nat := (l.map Lb.mass).sum + 1
theorem massL_len : ∀ l : List Lb, 2 * l.length + 1 ≤ massL l
  | [] => by simp [massL]
  | x :: l => by have := massL_len l; simp only [massL, List.map_cons, List.sum_cons, List.length_cons, Lb.mass] at *; omega
theorem massL_mem {l : List Lb} {x : Lb} (h : x ∈ l) : x.n.length ≤ massL l ∧ x.v.length ≤ massL l := by
  induction l with
  | nil => cases h
  | cons y l ih =>
    simp only [massL, List.map_cons, List.sum_cons, Lb.mass] at *
    rcases List.mem_cons.1 h with rfl | h
    · omega
    · have := ih h; omega
theorem cells_slab : Try.prog.cellsOf 36 = 1 := by kernel_rfl
theorem open_labels2 {fuel : Nat} {v : Value} {x : DataW H × List MemPlace} (h : DataW.trod enc Try.prog w base spare held fuel 36 [v] = some x) :
    ∃ A n c l, v = .slice A n c ∧ n ≤ c ∧ Elems w w.heap.size 2 encLb A n l ∧ massL l ≤ Rows.uptoBulk x.1 := by
  obtain ⟨A, n, c, l, rfl, _, h2, h3, ds, sp, hx, hl, hQ⟩ := open_row2 (ea := encLb) (Q := fun d s => d = .agg [litT s.n, litT s.v]) Try.underlying36 cells_lab (by omega) (fun _ => rfl) (fun _ _ _ h => open_lab h) h
  refine ⟨A, n, c, l, rfl, h2, h3, bulk_row Lb.mass hx hl fun i d y hd hy => ?_⟩
  rw [hQ i d y hd hy]
  simp [Rows.uptoBulk, Rows.uptoBulkAll, litT, Lb.mass]
  omega
theorem one_of_slice {l : List Value} {x : DataW H × List MemPlace} {fuel : Nat} {t e : TypeId} {P : Program} (ht : P.underlying t = some (.slice e)) (h : DataW.trod enc P w base spare held fuel t l = some x) : ∃ v, l = [v] := by
  rcases open_slice ht h with ⟨hcs, _⟩ | ⟨a, len, cap, m, n, D, Pl, hcs, _⟩
  · exact ⟨_, hcs⟩
  · exact ⟨_, hcs⟩
theorem sum_mem {α : Type} (f : α → Nat) : ∀ {l : List α} {x : α}, x ∈ l → f x ≤ (l.map f).sum
  | y :: l, x, h => by
    simp only [List.map_cons, List.sum_cons]
    rcases List.mem_cons.1 h with rfl | h
    · omega
    · have := sum_mem f h; omega
theorem allT_mass : ∀ L : List (List Lb), (allT L).length + L.length ≤ (L.map massL).sum
  | [] => by simp [allT]
  | l :: L => by
    have h1 := allT_mass L
    have h2 := massL_len l
    rw [allT_cons, List.length_append, texts_len]
    simp only [List.map_cons, List.sum_cons, List.length_cons]
    omega
theorem open_sets {fuel : Nat} {v : Value} {x : DataW H × List MemPlace} (h : DataW.trod enc Try.prog w base spare held fuel 45 [v] = some x) :
    ∃ A n c L, v = .slice A n c ∧ n ≤ c ∧ Sets w A n L ∧ (Rows.uptoBulk x.1 ≤ 1048576 → n ≤ 1048576 ∧ (allT L).length ≤ 1048576 ∧ (∀ x ∈ allT L, x.length ≤ 1048576) ∧ (L.map massL).sum ≤ 1048576) := by
  obtain ⟨A, n, c, hs, rfl, _, h2, h3, ds, sp, hx, hl, hQ⟩ := open_row2 (ea := encH) (Q := fun d y => ∃ l, Elems w w.heap.size 2 encLb y.A y.n l ∧ y.n ≤ y.c ∧ massL l ≤ Rows.uptoBulk d) Try.underlying45 cells_slab (by omega) (fun _ => rfl) (fun _ l x h => by
    obtain ⟨v, rfl⟩ := one_of_slice Try.underlying36 h
    obtain ⟨A, n, c, l, rfl, a1, a2, a3⟩ := open_labels2 h
    exact ⟨⟨A, n, c⟩, rfl, l, a2, a1, a3⟩) h
  have hn := h3.len
  obtain ⟨f, hf⟩ := choose_lt (α := List Lb) (n := n) (p := fun i l => ∀ d y, ds[i]? = some d → hs[i]? = some y → Elems w w.heap.size 2 encLb y.A y.n l ∧ y.n ≤ y.c ∧ massL l ≤ Rows.uptoBulk d) (by
    intro i hi
    have h1 : i < hs.length := by omega
    have h4 : i < ds.length := by omega
    obtain ⟨l, hl'⟩ := hQ i ds[i] hs[i] (List.getElem?_eq_getElem h4) (List.getElem?_eq_getElem h1)
    refine ⟨l, fun d y hd hy => ?_⟩
    rw [List.getElem?_eq_getElem h4] at hd
    rw [List.getElem?_eq_getElem h1] at hy
    injection hd with hd
    injection hy with hy
    subst hd hy
    exact hl')
  refine ⟨A, n, c, (List.range n).map f, rfl, h2, ⟨hs, h3, by simp, fun i y hy => ?_⟩, fun hb => ?_⟩
  · have hi : i < n := by have := (List.getElem?_eq_some_iff.1 hy).1; omega
    have h4 : i < ds.length := by omega
    obtain ⟨a1, a2, _⟩ := hf i hi ds[i] y (List.getElem?_eq_getElem h4) hy
    rw [getElem!_pos _ i (by simpa using hi)]
    simpa using ⟨a1, a2⟩
  · have hsum : (((List.range n).map f).map massL).sum + 1 ≤ Rows.uptoBulk x.1 := by
      refine bulk_row massL hx (by simp; omega) fun i d l hd hl' => ?_
      have hi : i < n := by have := (List.getElem?_eq_some_iff.1 hl').1; simpa using this
      have e : f i = l := by simpa [hi] using hl'
      have h1 : i < hs.length := by omega
      rw [← e]
      exact (hf i hi d hs[i] hd (List.getElem?_eq_getElem h1)).2.2
    obtain ⟨L, hL⟩ : ∃ L, (List.range n).map f = L := ⟨_, rfl⟩
    have hLn : L.length = n := by rw [← hL]; simp
    rw [hL] at hsum ⊢
    have hm := allT_mass L
    refine ⟨by omega, by omega, fun t ht => ?_, by omega⟩
    obtain ⟨l, hl', ht'⟩ := List.mem_flatMap.1 ht
    obtain ⟨y, hy, hty⟩ := List.mem_flatMap.1 ht'
    have h5 := sum_mem massL hl'
    have h6 := massL_mem hy
    simp at hty
    rcases hty with rfl | rfl <;> omega
end
end Go.Proofs.Ytpmahljbkgielaa
