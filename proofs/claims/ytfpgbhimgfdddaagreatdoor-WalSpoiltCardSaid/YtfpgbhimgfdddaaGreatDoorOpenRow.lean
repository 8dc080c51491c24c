/- Opening an argument that is a slice: its elements, whatever they are, and how much they weigh. -/
import Derived.Test.YtfpgbhimgfdddaaGreatDoorOpenS
import Derived.Test.YtfpgbhimgfdddaaGreatDoorWak01
import Derived.Deep.Slices
set_option linter.unusedVariables false
set_option linter.unusedSimpArgs false
namespace Go.Proofs.YtfpgbhimgfdddaaGreatDoor
open Go.ChangeShapes Go.WideShapes Go.ChangeAt Go.RowKit Go.Deep

/-- No weight of the datum passes the reach. -/
def Light {H : Type} (P : Program) (t : TypeId) (d : DataW H) : Prop := ∀ m ∈ d.weights P t, m ≤ 140737488351232
theorem Light.of {H : Type} {P : Program} {ts : List TypeId} {ds : List (DataW H)} (hsz : (DataW.weightsEach P ts ds).all (· ≤ reachBytes) = true) {j : Nat} {t : TypeId} {d : DataW H} (ht : ts[j]? = some t) (hd : ds[j]? = some d) : Light P t d := by
  intro m hm
  have := List.all_eq_true.1 hsz m (DataW.weights_mem_each ht hd m hm)
  have h3 : reachBytes = 140737488351232 := rfl
  have h4 : m ≤ reachBytes := by simpa using this
  omega
theorem weightsAll_mem {H : Type} {P : Program} {e : TypeId} {d : DataW H} {m : Nat} (hm : m ∈ d.weights P e) : ∀ {l : List (DataW H)}, d ∈ l → m ∈ DataW.weightsAll P e l
  | x :: l, h => by
    rw [DataW.weightsAll, List.mem_append]
    rcases List.mem_cons.1 h with rfl | h
    · exact .inl hm
    · exact .inr (weightsAll_mem hm h)
theorem Light.elem {H : Type} {P : Program} {t e : TypeId} {l sp : List (DataW H)} (h : Light P t (.slice l sp)) (ht : P.underlying t = some (.slice e)) {d : DataW H} (hd : d ∈ l) : Light P e d := by
  intro m hm
  refine h m ?_
  simp only [DataW.weights, ht, List.mem_cons, List.mem_append]
  exact .inr (.inl (weightsAll_mem hm hd))
theorem Light.row {H : Type} {P : Program} {t e : TypeId} {l sp : List (DataW H)} (h : Light P t (.slice l sp)) (ht : P.underlying t = some (.slice e)) : l.length * P.bytesOf e ≤ 140737488351232 := by
  have := h ((l.length + sp.length) * P.bytesOf e) (by simp [DataW.weights, ht])
  rw [Nat.add_mul] at this
  omega
theorem Light.part {H : Type} {P : Program} {t : TypeId} {fs : Array Field} {l : List (DataW H)} (h : Light P t (.agg l)) (ht : P.underlying t = some (.struct fs)) {j : Nat} {u : TypeId} {d : DataW H} (hu : (fs.toList.map (·.type))[j]? = some u) (hd : l[j]? = some d) : Light P u d := by
  intro m hm
  refine h m ?_
  simp only [DataW.weights, ht]
  exact DataW.weights_mem_each hu hd m hm
theorem Light.text {H : Type} {P : Program} {t : TypeId} {l : List UInt8} (h : Light P t (.lit (.string l) : DataW H)) : l.length ≤ 140737488351232 :=
  h _ (by simp [DataW.weights])

section
variable {H : Type} {enc : TypeId × Value → H} {P : Program} {w : World} {base : Nat} {spare : Nat → Bool} {held : Bool}

theorem open_row {α : Type} [Inhabited α] {t e : TypeId} {sz : Nat} {ea : α → List Value} {Q : DataW H → α → Prop} (ht : P.underlying t = some (.slice e)) (hc : P.cellsOf e = sz) (h0 : 0 < sz) (hz : ∀ y, (ea y).length = sz)
    (ho : ∀ (fuel : Nat) (l : List Value) (x : DataW H × List MemPlace), DataW.trod enc P w base spare held fuel e l = some x → ∃ y, l = ea y ∧ Q x.1 y)
    {fuel : Nat} {v : Value} {x : DataW H × List MemPlace} (h : DataW.trod enc P w base spare held fuel t [v] = some x) :
    ∃ A n c ys, v = .slice A n c ∧ (A = none → c = 0) ∧ n ≤ c ∧ Elems w w.heap.size sz ea A n ys ∧ (Light P t x.1 → n * P.bytesOf e ≤ 140737488351232 ∧ ∀ y ∈ ys, ∃ d, Light P e d ∧ Q d y) ∧ ∀ y ∈ ys, ∃ d, Q d y := by
  rcases open_slice ht h with ⟨hcs, _⟩ | ⟨a, len, cap, m, n, D, Pl, hcs, _, hl, _, hmm, hx, hi⟩
  · simp at hcs
    subst hcs
    exact ⟨none, 0, 0, [], rfl, fun _ => rfl, Nat.le_refl _, Elems.nil_, fun _ => ⟨by omega, fun y hy => by cases hy⟩, fun y hy => by cases hy⟩
  · simp at hcs
    subst hcs
    rw [hc] at hi
    have hlm : len ≤ m := by rw [hmm]; split <;> omega
    obtain ⟨f, hf⟩ := choose_lt (α := α) (n := len) (p := fun i y => (∀ j u, (ea y)[j]? = some u → w.cell? (a.add (i * sz + j)) = some u) ∧ Q (D i) y) (by
      intro i hlt
      obtain ⟨cs', hc', ht'⟩ := hi i (by omega)
      obtain ⟨y, rfl, hq⟩ := ho _ _ _ ht'
      obtain ⟨_, hcl, hat⟩ := World.cells?_some hc'
      refine ⟨y, fun j u hu => ?_, hq⟩
      have hj : j < sz := by have := (List.getElem?_eq_some_iff.1 hu).1; rw [hz] at this; exact this
      have := hat j hj
      rw [Go.Deep.add_add] at this
      rw [this, hu])
    refine ⟨some a, len, cap, (List.range len).map f, rfl, (fun h => by cases h), hl, ⟨by simp, fun h0' => ?_⟩, fun hL => ?_, ?_⟩
    · obtain ⟨b, off, spot⟩ := a
      have hp : 0 < (ea (f 0)).length := by rw [hz]; exact h0
      have h00 := (hf 0 h0').1 0 _ (List.getElem?_eq_getElem hp)
      have hspot : spot = none := by simpa [Addr.add] using World.cell?_spot h00
      subst hspot
      refine ⟨b, off, rfl, by simpa [Addr.add] using lt_of_cell h00, fun i x hx j u hu => ?_⟩
      have hil : i < len := by have := (List.getElem?_eq_some_iff.1 hx).1; simpa using this
      have hxe : f i = x := by simpa [hil] using hx
      subst hxe
      have := (hf i hil).1 j u hu
      rw [add_plain] at this
      rw [← this, Nat.add_assoc]
    · rw [hx] at hL
      refine ⟨by simpa using hL.row ht, fun y hy => ?_⟩
      obtain ⟨i, hi', rfl⟩ := List.mem_map.1 hy
      have hil : i < len := List.mem_range.1 hi'
      exact ⟨D i, hL.elem ht (List.mem_map_of_mem hi'), (hf i hil).2⟩
    · intro y hy
      obtain ⟨i, hi', rfl⟩ := List.mem_map.1 hy
      exact ⟨D i, (hf i (List.mem_range.1 hi')).2⟩
end
end Go.Proofs.YtfpgbhimgfdddaaGreatDoor
