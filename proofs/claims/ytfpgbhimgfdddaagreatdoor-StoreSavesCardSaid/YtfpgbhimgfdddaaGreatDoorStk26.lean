/- Merged (what the claim wants of): OpenRow, OpenBulk, DskOpen, DskLaid, StgD. -/
import Derived.Test.YtfpgbhimgfdddaaGreatDoorStk25
import Derived.Test.YtfpgbhimgfdddaaGreatDoorStk01
import Derived.Deep.Slices
import Derived.Test.YtfpgbhimgfdddaaGreatDoorStk20
import Derived.Test.YtfpgbhimgfdddaaGreatDoorRows
import Derived.Stop.LaidTwo
import Derived.Test.YtfpgbhimgfdddaaGreatDoorCards
import Derived.Test.YtfpgbhimgfdddaaGreatDoorTie
import Derived.WalkKit
import Derived.Deep.DeepHandedRow
import Derived.Deep.DeepWitnessRowRef
import Derived.Lib.LaidTab
set_option linter.unusedVariables false
set_option linter.unusedSimpArgs false
/- Opening an argument that is a slice: its elements, whatever they are, and how much they weigh. -/
namespace Go.Proofs.YtfpgbhimgfdddaaGreatDoor
open Go.ChangeShapes Go.WideShapes Go.ChangeAt Go.RowKit Go.Deep

/-- No weight of the datum passes the reach. -/
def Light {H : Type} (P : Program) (t : TypeId) (d : DataW H) : Prop := ∀ m ∈ d.weights P t, m ≤ 140737488351232
theorem Light.of {H : Type} {P : Program} {ts : List TypeId} {ds : List (DataW H)} (hsz : (DataW.weightsEach P ts ds).all (· ≤ reachBytes) = true) {j : Nat} {t : TypeId} {d : DataW H} (ht : ts[j]? = some t) (hd : ds[j]? = some d) : Light P t d := by
  intro m hm
  have := List.all_eq_true.1 hsz m (DataW.weights_mem_each ht hd m hm)
  have h3 : reachBytes = 140737488351232 := rfl
  have h4 : m ≤ reachBytes := by simpa using this
  omega
theorem weightsAll_mem {H : Type} {P : Program} {e : TypeId} {d : DataW H} {m : Nat} (hm : m ∈ d.weights P e) : ∀ {l : List (DataW H)}, d ∈ l → m ∈ DataW.weightsAll P e l
  | x :: l, h => by
    rw [DataW.weightsAll, List.mem_append]
    rcases List.mem_cons.1 h with rfl | h
    · exact .inl hm
    · exact .inr (weightsAll_mem hm h)
theorem Light.elem {H : Type} {P : Program} {t e : TypeId} {l sp : List (DataW H)} (h : Light P t (.slice l sp)) (ht : P.underlying t = some (.slice e)) {d : DataW H} (hd : d ∈ l) : Light P e d := by
  intro m hm
  refine h m ?_
  simp only [DataW.weights, ht, List.mem_cons, List.mem_append]
  exact .inr (.inl (weightsAll_mem hm hd))
theorem Light.row {H : Type} {P : Program} {t e : TypeId} {l sp : List (DataW H)} (h : Light P t (.slice l sp)) (ht : P.underlying t = some (.slice e)) : l.length * P.bytesOf e ≤ 140737488351232 := by
  have := h ((l.length + sp.length) * P.bytesOf e) (by simp [DataW.weights, ht])
  rw [Nat.add_mul] at this
  omega
theorem Light.part {H : Type} {P : Program} {t : TypeId} {fs : Array Field} {l : List (DataW H)} (h : Light P t (.agg l)) (ht : P.underlying t = some (.struct fs)) {j : Nat} {u : TypeId} {d : DataW H} (hu : (fs.toList.map (·.type))[j]? = some u) (hd : l[j]? = some d) : Light P u d := by
  intro m hm
  refine h m ?_
  simp only [DataW.weights, ht]
  exact DataW.weights_mem_each hu hd m hm
theorem Light.text {H : Type} {P : Program} {t : TypeId} {l : List UInt8} (h : Light P t (.lit (.string l) : DataW H)) : l.length ≤ 140737488351232 :=
  h _ (by simp [DataW.weights])

section
variable {H : Type} {enc : TypeId × Value → H} {P : Program} {w : World} {base : Nat} {spare : Nat → Bool} {held : Bool}

theorem open_row {α : Type} [Inhabited α] {t e : TypeId} {sz : Nat} {ea : α → List Value} {Q : DataW H → α → Prop} (ht : P.underlying t = some (.slice e)) (hc : P.cellsOf e = sz) (h0 : 0 < sz) (hz : ∀ y, (ea y).length = sz)
    (ho : ∀ (fuel : Nat) (l : List Value) (x : DataW H × List MemPlace), DataW.trod enc P w base spare held fuel e l = some x → ∃ y, l = ea y ∧ Q x.1 y)
    {fuel : Nat} {v : Value} {x : DataW H × List MemPlace} (h : DataW.trod enc P w base spare held fuel t [v] = some x) :
    ∃ A n c ys, v = .slice A n c ∧ (A = none → c = 0) ∧ n ≤ c ∧ Elems w w.heap.size sz ea A n ys ∧ (Light P t x.1 → n * P.bytesOf e ≤ 140737488351232 ∧ ∀ y ∈ ys, ∃ d, Light P e d ∧ Q d y) ∧ ∀ y ∈ ys, ∃ d, Q d y := by
  rcases open_slice ht h with ⟨hcs, _⟩ | ⟨a, len, cap, m, n, D, Pl, hcs, _, hl, _, hmm, hx, hi⟩
  · simp at hcs
    subst hcs
    exact ⟨none, 0, 0, [], rfl, fun _ => rfl, Nat.le_refl _, Elems.nil_, fun _ => ⟨by omega, fun y hy => by cases hy⟩, fun y hy => by cases hy⟩
  · simp at hcs
    subst hcs
    rw [hc] at hi
    have hlm : len ≤ m := by rw [hmm]; split <;> omega
    obtain ⟨f, hf⟩ := choose_lt (α := α) (n := len) (p := fun i y => (∀ j u, (ea y)[j]? = some u → w.cell? (a.add (i * sz + j)) = some u) ∧ Q (D i) y) (by
      intro i hlt
      obtain ⟨cs', hc', ht'⟩ := hi i (by omega)
      obtain ⟨y, rfl, hq⟩ := ho _ _ _ ht'
      obtain ⟨_, hcl, hat⟩ := World.cells?_some hc'
      refine ⟨y, fun j u hu => ?_, hq⟩
      have hj : j < sz := by have := (List.getElem?_eq_some_iff.1 hu).1; rw [hz] at this; exact this
      have := hat j hj
      rw [Go.Deep.add_add] at this
      rw [this, hu])
    refine ⟨some a, len, cap, (List.range len).map f, rfl, (fun h => by cases h), hl, ⟨by simp, fun h0' => ?_⟩, fun hL => ?_, ?_⟩
    · obtain ⟨b, off, spot⟩ := a
      have hp : 0 < (ea (f 0)).length := by rw [hz]; exact h0
      have h00 := (hf 0 h0').1 0 _ (List.getElem?_eq_getElem hp)
      have hspot : spot = none := by simpa [Addr.add] using World.cell?_spot h00
      subst hspot
      refine ⟨b, off, rfl, by simpa [Addr.add] using lt_of_cell h00, fun i x hx j u hu => ?_⟩
      have hil : i < len := by have := (List.getElem?_eq_some_iff.1 hx).1; simpa using this
      have hxe : f i = x := by simpa [hil] using hx
      subst hxe
      have := (hf i hil).1 j u hu
      rw [add_plain] at this
      rw [← this, Nat.add_assoc]
    · rw [hx] at hL
      refine ⟨by simpa using hL.row ht, fun y hy => ?_⟩
      obtain ⟨i, hi', rfl⟩ := List.mem_map.1 hy
      have hil : i < len := List.mem_range.1 hi'
      exact ⟨D i, hL.elem ht (List.mem_map_of_mem hi'), (hf i hil).2⟩
    · intro y hy
      obtain ⟨i, hi', rfl⟩ := List.mem_map.1 hy
      exact ⟨D i, (hf i (List.mem_range.1 hi')).2⟩
end
end Go.Proofs.YtfpgbhimgfdddaaGreatDoor

/- Opening an argument that is a slice, each element beside its datum; what the bound on the bulk gives. -/
namespace Go.Proofs.YtfpgbhimgfdddaaGreatDoor
open Go.ChangeShapes Go.WideShapes Go.ChangeAt Go.RowKit Go.Deep

section
variable {H : Type} {enc : TypeId × Value → H} {P : Program} {w : World} {base : Nat} {spare : Nat → Bool} {held : Bool}

theorem open_row2 {α : Type} [Inhabited α] {t e : TypeId} {sz : Nat} {ea : α → List Value} {Q : DataW H → α → Prop} (ht : P.underlying t = some (.slice e)) (hc : P.cellsOf e = sz) (h0 : 0 < sz) (hz : ∀ y, (ea y).length = sz)
    (ho : ∀ (fuel : Nat) (l : List Value) (x : DataW H × List MemPlace), DataW.trod enc P w base spare held fuel e l = some x → ∃ y, l = ea y ∧ Q x.1 y)
    {fuel : Nat} {v : Value} {x : DataW H × List MemPlace} (h : DataW.trod enc P w base spare held fuel t [v] = some x) :
    ∃ A n c ys, v = .slice A n c ∧ (A = none → c = 0) ∧ n ≤ c ∧ Elems w w.heap.size sz ea A n ys ∧ ∃ ds sp, (x.1 = .slice ds sp ∨ (x.1 = .nil ∧ ds = [])) ∧ ds.length = ys.length ∧ ∀ (i : Nat) d y, ds[i]? = some d → ys[i]? = some y → Q d y := by
  rcases open_slice ht h with ⟨hcs, hx⟩ | ⟨a, len, cap, m, n, D, Pl, hcs, _, hl, _, hmm, hx, hi⟩
  · simp at hcs
    subst hcs
    exact ⟨none, 0, 0, [], rfl, fun _ => rfl, Nat.le_refl _, Elems.nil_, [], [], .inr ⟨by rw [hx], rfl⟩, rfl, fun i d y hd => by simp at hd⟩
  · simp at hcs
    subst hcs
    rw [hc] at hi
    have hlm : len ≤ m := by rw [hmm]; split <;> omega
    obtain ⟨f, hf⟩ := choose_lt (α := α) (n := len) (p := fun i y => (∀ j u, (ea y)[j]? = some u → w.cell? (a.add (i * sz + j)) = some u) ∧ Q (D i) y) (by
      intro i hlt
      obtain ⟨cs', hc', ht'⟩ := hi i (by omega)
      obtain ⟨y, rfl, hq⟩ := ho _ _ _ ht'
      obtain ⟨_, hcl, hat⟩ := World.cells?_some hc'
      refine ⟨y, fun j u hu => ?_, hq⟩
      have hj : j < sz := by have := (List.getElem?_eq_some_iff.1 hu).1; rw [hz] at this; exact this
      have := hat j hj
      rw [Go.Deep.add_add] at this
      rw [this, hu])
    refine ⟨some a, len, cap, (List.range len).map f, rfl, (fun h => by cases h), hl, ⟨by simp, fun h0' => ?_⟩, (List.range len).map D, _, .inl (by rw [hx]), by simp, fun i d y hd hy => ?_⟩
    · obtain ⟨b, off, spot⟩ := a
      have hp : 0 < (ea (f 0)).length := by rw [hz]; exact h0
      have h00 := (hf 0 h0').1 0 _ (List.getElem?_eq_getElem hp)
      have hspot : spot = none := by simpa [Addr.add] using World.cell?_spot h00
      subst hspot
      refine ⟨b, off, rfl, by simpa [Addr.add] using lt_of_cell h00, fun i x hx j u hu => ?_⟩
      have hil : i < len := by have := (List.getElem?_eq_some_iff.1 hx).1; simpa using this
      have hxe : f i = x := by simpa [hil] using hx
      subst hxe
      have := (hf i hil).1 j u hu
      rw [add_plain] at this
      rw [← this, Nat.add_assoc]
    · have hil : i < len := by have := (List.getElem?_eq_some_iff.1 hd).1; simpa using this
      have h1 : D i = d := by simpa [hil] using hd
      have h2 : f i = y := by simpa [hil] using hy
      rw [← h1, ← h2]
      exact (hf i hil).2
end

/-! ### the bulk -/
theorem bulk_slice {H : Type} (l sp : List (DataW H)) : Rows.uptoBulkAll l + 1 ≤ Rows.uptoBulk (.slice l sp) := by simp only [Rows.uptoBulk]; omega
theorem bulk_all {H : Type} {l : List (DataW H)} (hk : Rows.uptoSmall H l = true) : Rows.uptoBulkAll l ≤ 1048576 := of_decide_eq_true hk
/-- The measures of the elements, added up, are no more than the bulk. -/
theorem bulk_sum {H α : Type} (mu : α → Nat) : ∀ (ds : List (DataW H)) (ys : List α), ds.length = ys.length → (∀ (i : Nat) d y, ds[i]? = some d → ys[i]? = some y → mu y ≤ Rows.uptoBulk d) → (ys.map mu).sum ≤ Rows.uptoBulkAll ds
  | [], [], _, _ => by simp
  | d :: ds, y :: ys, hl, h => by
    have h1 := h 0 d y rfl rfl
    have h2 := bulk_sum mu ds ys (by simpa using hl) (fun i d' y' hd hy => h (i + 1) d' y' (by simpa using hd) (by simpa using hy))
    simp only [List.map_cons, List.sum_cons, Rows.uptoBulkAll]
    omega
  | [], _ :: _, hl, _ => by simp at hl
  | _ :: _, [], hl, _ => by simp at hl
theorem bulk_row {H α : Type} (mu : α → Nat) {d : DataW H} {ds sp : List (DataW H)} {ys : List α} (hd : d = .slice ds sp ∨ (d = .nil ∧ ds = [])) (hl : ds.length = ys.length) (h : ∀ (i : Nat) d y, ds[i]? = some d → ys[i]? = some y → mu y ≤ Rows.uptoBulk d) : (ys.map mu).sum + 1 ≤ Rows.uptoBulk d := by
  have := bulk_sum mu ds ys hl h
  rcases hd with rfl | ⟨rfl, rfl⟩
  · have := bulk_slice ds sp; omega
  · obtain rfl : ys = [] := List.eq_nil_of_length_eq_zero (by simpa using hl.symm)
    simp [Rows.uptoBulk]
end Go.Proofs.YtfpgbhimgfdddaaGreatDoor

/- Opening a script of calls, within the bound on the bulk. -/
namespace Go.Proofs.YtfpgbhimgfdddaaGreatDoor
open Go.ChangeShapes Go.WideShapes Go.ChangeAt Go.RowKit Go.Deep
theorem wf_i64 {n : Int} (h : (Lit.int .i64 n).wf = true) : -9223372036854775808 ≤ n ∧ n ≤ 9223372036854775807 := by
  have h1 : IntKind.i64.min = -9223372036854775808 := rfl
  have h2 : IntKind.i64.max = 9223372036854775807 := rfl
  simp only [Lit.wf, Bool.and_eq_true, decide_eq_true_eq] at h
  omega
theorem cells_str3 : Tryz.prog.cellsOf 9 = 1 := by kernel_rfl
section
variable {H : Type} {enc : TypeId × Value → H} {w : World} {base : Nat} {spare : Nat → Bool} {held : Bool}
end
end Go.Proofs.YtfpgbhimgfdddaaGreatDoor

/- What the row's list gives: the failures' variables. -/
namespace Go.Proofs.YtfpgbhimgfdddaaGreatDoor
open Go.RowKit

theorem laidMet_tail {P : Program} {W : World} {x : String × DataW Unit} {r : List (String × DataW Unit)} (h : laidMet P (x :: r) W) : laidMet P r W := by
  obtain ⟨ps, ⟨g, t, cs, f, p, q, hg, ht, hv, hd, hr, e⟩, hnd, hrows⟩ := h
  subst e
  refine ⟨q, hr, ?_, fun b off hm => hrows b off (by simp [hm])⟩
  first | exact (List.nodup_append.1 hnd).2.1 | exact (List.nodup_append.1 (List.nodup_append.1 hnd).2.1).2.1
theorem star_err : "*" ++ "errors.errorString" = "*errors.errorString" := by decide
theorem row_err (u : TypeId) (h : Tryz.prog.typeName? 3 u = some "*errors.errorString") : u = 306 :=
  typeName_ptr_named (nm := "errors.errorString") (by rw [star_err]; kernel_rfl) (by kernel_rfl) (by decide) u (by rw [star_err]; exact h)
set_option maxRecDepth 100000 in
/-- One sentinel of the list: its address, its text, its block. -/
theorem sent_at {n : String} {text : List UInt8} {r : List (String × DataW Unit)} {W : World} {g : Nat}
    (h : laidMet Tryz.prog ((n, .iface "*errors.errorString" (.ptr (.agg [.lit (.string text)]))) :: r) W) (hg : Tryz.prog.globalNamed n = some g) (ht : (Tryz.prog.globals[g]?).map (·.type) = some 32) :
    ∃ (a : Addr) (s : ByteArray), W.cell? ⟨g, 0, none⟩ = some (.iface 306 (.pointer (some a))) ∧ W.cell? a = some (.string s) ∧ s.data.toList = text ∧ ∃ c t, W.heap[a.block]? = some (.cells c t (0, 0)) := by
  obtain ⟨ps, ⟨g0', t0', cs0, f0, p0, q0, hg0', ht0', hv0, hd0, _, e0⟩, hnd, hrows⟩ := h
  obtain rfl := Option.some.inj (hg.symm.trans hg0')
  obtain rfl := Option.some.inj (ht.symm.trans ht0')
  subst e0
  obtain ⟨l0⟩ := cs0
  have ok0 : ∀ u v, l0 = [.iface u v] → Value.okWide Tryz.prog W .any 0 u v := fun u v e => by
    subst e
    exact (hrows g 0 (by simp [MemPlace.row])).2 u v (by simpa using World.var?_cell hg0' hv0 0)
  obtain ⟨a0, s0, rfl, hc0, hs0, hz0, rfl⟩ := errorString_of_trod Tryz.underlying32 row_err Tryz.underlying306 Tryz.underlying308 rfl rfl Tryz.underlying9 (by kernel_rfl) (by kernel_rfl) hd0 ok0
  refine ⟨a0, s0, by simpa using World.var?_cell hg0' hv0 0, hc0, hs0, (hrows a0.block a0.off (by simp [MemPlace.row])).1⟩
def sentT : Nat → List UInt8
  | 1 => [116, 104, 101, 32, 112, 111, 119, 101, 114, 32, 105, 115, 32, 111, 102, 102]
  | 2 => [110, 111, 32, 112, 97, 116, 104]
  | 3 => [97, 32, 100, 105, 114, 101, 99, 116, 111, 114, 121]
  | 4 => [110, 111, 116, 32, 116, 104, 101, 114, 101]
  | 5 => [116, 104, 101, 114, 101, 32, 97, 108, 114, 101, 97, 100, 121]
  | 6 => [111, 117, 116, 32, 111, 102, 32, 114, 97, 110, 103, 101]
  | _ => [110, 111, 32, 115, 112, 97, 99, 101]
theorem sentT_inj : ∀ i ∈ [1, 2, 3, 4, 5, 6, 7], ∀ j ∈ [1, 2, 3, 4, 5, 6, 7], i ≠ j → sentT i ≠ sentT j := by decide
/-- A sentinel as it lies. -/
def SentIs (W : World) (k : Nat) (a : Addr) : Prop := W.cell? ⟨failG k, 0, none⟩ = some (.iface 306 (.pointer (some a))) ∧ (∃ s : ByteArray, W.cell? a = some (.string s) ∧ s.data.toList = sentT k) ∧ ∃ c t, W.heap[a.block]? = some (.cells c t (0, 0))
end Go.Proofs.YtfpgbhimgfdddaaGreatDoor

/- StoOpen, StoLaid, StoWorld together. -/
namespace Go.Proofs.YtfpgbhimgfdddaaGreatDoor
section
open Go.ChangeShapes Go.WideShapes Go.ChangeAt Go.RowKit Go.Deep
theorem cells_files : Tryz.prog.cellsOf 57 = 3 := by kernel_rfl
section
variable {H : Type} {enc : TypeId × Value → H} {w : World} {base : Nat} {spare : Nat → Bool} {held : Bool}
theorem size_txt (X : ByteArray) : X.data.toList.length = X.size := by simp
set_option maxRecDepth 100000 in
theorem open_filesL {fuel : Nat} {l : List Value} {x : DataW H × List MemPlace} (h : DataW.trod enc Tryz.prog w base spare held fuel 57 l = some x) : ∃ FA FB FC : ByteArray, l = [.string FA, .string FB, .string FC] ∧ x.1 = .agg [.lit (.string FA.data.toList), .lit (.string FB.data.toList), .lit (.string FC.data.toList)] := by
  obtain ⟨xs, n, _, hx, hcl, hlen, hg⟩ := DataW.trod_struct Tryz.underlying57 h
  rw [cells_files] at hcl
  match l, hcl, xs, hlen with
  | [c0, c1, c2], _, [x0, x1, x2], _ =>
    have g0 := hg 0 _ rfl
    have g1 := hg 1 _ rfl
    have g2 := hg 2 _ rfl
    simp [cells_str3] at g0 g1 g2
    obtain ⟨a, e0, f0, _⟩ := DataW.trod_string Tryz.underlying9 g0
    obtain ⟨b, e1, f1, _⟩ := DataW.trod_string Tryz.underlying9 g1
    obtain ⟨c, e2, f2, _⟩ := DataW.trod_string Tryz.underlying9 g2
    simp at e0 e1 e2
    subst e0 e1 e2
    refine ⟨a, b, c, rfl, ?_⟩
    rw [hx]
    simp [f0, f1, f2]
set_option maxRecDepth 100000 in
theorem files_light {a b c : ByteArray} (h : Light (H := H) Tryz.prog 57 (.agg [.lit (.string a.data.toList), .lit (.string b.data.toList), .lit (.string c.data.toList)])) : a.size ≤ 140737488351232 ∧ b.size ≤ 140737488351232 ∧ c.size ≤ 140737488351232 := by
  rw [← size_txt a, ← size_txt b, ← size_txt c]
  exact ⟨(h.part Tryz.underlying57 (j := 0) rfl rfl).text, (h.part Tryz.underlying57 (j := 1) rfl rfl).text, (h.part Tryz.underlying57 (j := 2) rfl rfl).text⟩
set_option maxRecDepth 100000 in
theorem open_files {r : Reach} {b0 : Nat} {v : Value} {d : DataW H} {ps : List MemPlace} (hv : Value.okWide Tryz.prog w r b0 57 v) (h : DataW.Trod enc Tryz.prog w base spare held 57 v d ps) :
    ∃ FA FB FC : ByteArray, v = fsV FA FB FC ∧ (Light (H := H) Tryz.prog 57 d → FA.size ≤ 140737488351232 ∧ FB.size ≤ 140737488351232 ∧ FC.size ≤ 140737488351232) := by
  obtain ⟨cs, rfl, hsz⟩ := okWide_struct Tryz.underlying57 hv
  obtain ⟨l⟩ := cs
  obtain ⟨fuel, hf⟩ := h
  obtain ⟨a, b, c, h1, h2⟩ := open_filesL hf
  refine ⟨a, b, c, ?_, fun hL => ?_⟩
  · unfold fsV
    have h3 : l = [.string a, .string b, .string c] := by simpa [Value.cells] using h1
    rw [h3]
  · simp only at h2
    rw [h2] at hL
    exact files_light hL
end
end

section
open Go.ChangeShapes Go.WideShapes Go.ChangeAt Go.RowKit Go.ChangeMaps
/-- Six addresses apart, and a seventh. -/
theorem seventh (a : Nat → Addr) : ∃ x : Addr, x.block = (a 1).block ∧ ∀ k, 1 ≤ k → k ≤ 7 → x ≠ a k := by
  refine ⟨⟨(a 1).block, (a 1).off + (a 2).off + (a 3).off + (a 4).off + (a 5).off + (a 6).off + (a 7).off + 1, none⟩, rfl, fun k h1 h2 e => ?_⟩
  have e2 : (a k).off = (a 1).off + (a 2).off + (a 3).off + (a 4).off + (a 5).off + (a 6).off + (a 7).off + 1 := by rw [← e]
  rcases (by omega : k = 1 ∨ k = 2 ∨ k = 3 ∨ k = 4 ∨ k = 5 ∨ k = 6 ∨ k = 7) with rfl | rfl | rfl | rfl | rfl | rfl | rfl <;> omega
set_option maxRecDepth 100000 in
theorem store_start {W : World} (h : laidMet Tryz.prog Rows.storeFullRow.laid W) : ∃ a, SCon W.heap.size a ∧ SEnv W.heap.size a W := by
  have h1 := laidMet_tail h
  have h2 := laidMet_tail h1
  have h3 := laidMet_tail h2
  have h4 := laidMet_tail h3
  have h5 := laidMet_tail h4
  have h6 := laidMet_tail h5
  have h7 := laidMet_tail h6
  have h8 := laidMet_tail h7
  have h9 := laidMet_tail h8
  obtain ⟨a1, s1, p1, q1, r1, b1⟩ := sent_at h3 (g := 5) (by kernel_rfl) (by kernel_rfl)
  obtain ⟨a2, s2, p2, q2, r2, b2⟩ := sent_at h4 (g := 6) (by kernel_rfl) (by kernel_rfl)
  obtain ⟨a3, s3, p3, q3, r3, b3⟩ := sent_at h5 (g := 3) (by kernel_rfl) (by kernel_rfl)
  obtain ⟨a4, s4, p4, q4, r4, b4⟩ := sent_at h6 (g := 0) (by kernel_rfl) (by kernel_rfl)
  obtain ⟨a5, s5, p5, q5, r5, b5⟩ := sent_at h7 (g := 1) (by kernel_rfl) (by kernel_rfl)
  obtain ⟨a7, s7, p7, q7, r7, b7⟩ := sent_at h8 (g := 2) (by kernel_rfl) (by kernel_rfl)
  have hpow : PowTab W := Lib.tabIs_of_head (g := 9) (t := 284) (e := 186) (n := 20) (by kernel_rfl) (by kernel_rfl) (by kernel_rfl) (by kernel_rfl) (by kernel_rfl) (by kernel_rfl) h2
  have hnibT : Lib.TabIs Tryz.prog W "almanac/enc.nibbles" .u32 [0, 274646895, 549293790, 820201905, 1098587580, 1361435347, 1640403810, 1905808397, 2197175160, 2460548119, 2722870694, 2987750089, 3280807620, 3553878443, 3811616794, 4084100981] := Lib.tabIs_of_head (g := 7) (t := 219) (e := 183) (n := 16) (by kernel_rfl) (by kernel_rfl) (by kernel_rfl) (by kernel_rfl) (by kernel_rfl) (by kernel_rfl) h9
  have hnib : NibTab W := fun i hi => by
    rw [hnibT.cell (by kernel_rfl) i hi]
    rcases (by omega : i = 0 ∨ i = 1 ∨ i = 2 ∨ i = 3 ∨ i = 4 ∨ i = 5 ∨ i = 6 ∨ i = 7 ∨ i = 8 ∨ i = 9 ∨ i = 10 ∨ i = 11 ∨ i = 12 ∨ i = 13 ∨ i = 14 ∨ i = 15) with rfl | rfl | rfl | rfl | rfl | rfl | rfl | rfl | rfl | rfl | rfl | rfl | rfl | rfl | rfl | rfl <;> rfl
  obtain ⟨x6, hx6, hx6n⟩ := seventh (fun k => match k with | 1 => a1 | 2 => a2 | 3 => a3 | 4 => a4 | 5 => a5 | 6 => a7 | _ => a7)
  have hall : ∀ k, k ≠ 6 → SentIs W k (match k with | 1 => a1 | 2 => a2 | 3 => a3 | 4 => a4 | 5 => a5 | 6 => x6 | _ => a7) := by
    intro k hk
    match k, hk with
    | 1, _ => exact ⟨p1, ⟨s1, q1, r1⟩, b1⟩
    | 2, _ => exact ⟨p2, ⟨s2, q2, r2⟩, b2⟩
    | 3, _ => exact ⟨p3, ⟨s3, q3, r3⟩, b3⟩
    | 4, _ => exact ⟨p4, ⟨s4, q4, r4⟩, b4⟩
    | 5, _ => exact ⟨p5, ⟨s5, q5, r5⟩, b5⟩
    | 6, h => exact absurd rfl h
    | 0, _ => exact ⟨p7, ⟨s7, q7, r7⟩, b7⟩
    | _ + 7, _ => exact ⟨p7, ⟨s7, q7, r7⟩, b7⟩
  have h6b : ∃ cs t, W.heap[x6.block]? = some (.cells cs t (0, 0)) := by rw [hx6]; exact b1
  have h6n : x6 ≠ a1 ∧ x6 ≠ a2 ∧ x6 ≠ a3 ∧ x6 ≠ a4 ∧ x6 ≠ a5 ∧ x6 ≠ a7 := ⟨hx6n 1 (by omega) (by omega), hx6n 2 (by omega) (by omega), hx6n 3 (by omega) (by omega), hx6n 4 (by omega) (by omega), hx6n 5 (by omega) (by omega), hx6n 7 (by omega) (by omega)⟩
  have hap : ∀ k, 1 ≤ k → k ≤ 7 → k ≠ 6 → x6 ≠ (match k with | 1 => a1 | 2 => a2 | 3 => a3 | 4 => a4 | 5 => a5 | 6 => x6 | _ => a7) := by
    intro k h1 h2 h6
    rcases (by omega : k = 1 ∨ k = 2 ∨ k = 3 ∨ k = 4 ∨ k = 5 ∨ k = 7) with rfl | rfl | rfl | rfl | rfl | rfl
    · exact h6n.1
    · exact h6n.2.1
    · exact h6n.2.2.1
    · exact h6n.2.2.2.1
    · exact h6n.2.2.2.2.1
    · exact h6n.2.2.2.2.2
  have ha6 : (match 6 with | 1 => a1 | 2 => a2 | 3 => a3 | 4 => a4 | 5 => a5 | 6 => x6 | _ => a7) = x6 := rfl
  obtain ⟨a, ha, ha6, hap⟩ : ∃ a : Nat → Addr, (∀ k, k ≠ 6 → SentIs W k (a k)) ∧ a 6 = x6 ∧ ∀ k, 1 ≤ k → k ≤ 7 → k ≠ 6 → x6 ≠ a k := ⟨_, hall, ha6, hap⟩
  refine ⟨a, ⟨fun i j hi1 hi2 hj1 hj2 hne e => ?_, lt_of_cell (hnib 0 (by decide)), lt_of_cell (Lib.TabIs.cell hpow (by kernel_rfl) 0 (by decide))⟩, ⟨⟨fun k hk => ⟨lt_of_cell (ha k hk).1, (ha k hk).1⟩, fun k h1 h2 => ?_⟩, hnib, hpow, Nat.le_refl _⟩⟩
  · by_cases h6i : i = 6
    · subst h6i
      rw [ha6] at e
      exact hap j hj1 hj2 (fun h => hne h.symm) e
    · by_cases h6j : j = 6
      · subst h6j
        rw [ha6] at e
        exact hap i hi1 hi2 h6i e.symm
      · obtain ⟨si, ci, ti⟩ := (ha i h6i).2.1
        obtain ⟨sj, cj, tj⟩ := (ha j h6j).2.1
        rw [e, cj] at ci
        injection ci with ci
        injection ci with ci
        refine sentT_inj i ?_ j ?_ hne ?_
        · simp; omega
        · simp; omega
        · rw [← ti, ← tj, ci]
  · by_cases h6 : k = 6
    · subst h6
      rw [ha6]
      obtain ⟨cs, t, e⟩ := h6b
      exact ⟨(Array.getElem?_eq_some_iff.1 e).1, cs, t, e⟩
    · obtain ⟨c, t, e⟩ := (ha k h6).2.2
      exact ⟨(Array.getElem?_eq_some_iff.1 e).1, c, t, e⟩
end

section
open Go.ChangeShapes Go.WideShapes Go.ChangeAt Go.RowKit Go.ChangeMaps

def litCells : DataW Unit → Array Value
  | .agg l => (l.map fun | .lit (.int k v) => Value.int k v | _ => undef).toArray
  | _ => #[]
/-- A world for the witness: the settled one, the tables and the six variables holding what their initialisers lay. -/
noncomputable def storeWorld (os : Os) : World :=
  let N := (World.settled Tryz.prog os).heap.size
  let w0 := World.holding Tryz.prog os ⟨#[
    .cells #[.string ⟨(sentT 1).toArray⟩] 308, .cells #[.string ⟨(sentT 2).toArray⟩] 308, .cells #[.string ⟨(sentT 3).toArray⟩] 308,
    .cells #[.string ⟨(sentT 4).toArray⟩] 308, .cells #[.string ⟨(sentT 5).toArray⟩] 308, .cells #[.string ⟨(sentT 7).toArray⟩] 308], #[], []⟩
  let put (h : Array Obj) (g : Nat) (k : Nat) : Array Obj := h.modify g fun
    | .cells _ t frozen => .cells #[.iface 306 (.pointer (some ⟨N + k, 0, none⟩))] t frozen
    | o => o
  let tab (h : Array Obj) (g : Nat) (d : DataW Unit) : Array Obj := h.modify g fun
    | .cells _ t frozen => .cells (litCells d) t frozen
    | o => o
  { w0 with heap := tab (tab (tab (tab (put (put (put (put (put (put w0.heap 5 0) 6 1) 3 2) 0 3) 1 4) 2 5)
    12 Rows.laid_math_bits_deBruijn32tab) 13 Rows.laid_math_bits_deBruijn64tab) 9 Rows.laid_internal_strconv_uint64pow10) 7 Rows.laid_almanac_enc_nibbles }
set_option maxRecDepth 1000000 in
theorem store_met (os : Os) (args : Array Value) : laidMet Tryz.prog Rows.storeFullRow.laid ((storeWorld os).forCall (fun _ _ => 0) ⟨#[], args, []⟩).memory :=
  laidMet_of_run' 8 (by kernel_rfl) (by kernel_rfl)
end
end Go.Proofs.YtfpgbhimgfdddaaGreatDoor
