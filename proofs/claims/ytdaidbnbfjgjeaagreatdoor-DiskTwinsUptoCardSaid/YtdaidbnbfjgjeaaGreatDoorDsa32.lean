/- Merged: DskPlays, OpenS, OpenRow, OpenBulk, DskOpen, DskLaid, DskWorld. -/
import Derived.Test.YtdaidbnbfjgjeaaGreatDoorDsa31
import Derived.Test.YtdaidbnbfjgjeaaGreatDoorRows
import Derived.ProofKit
import Derived.SizedLaws
import Derived.OpenShut
import Derived.ChangeMaps5
import Derived.Test.YtdaidbnbfjgjeaaGreatDoorDsa01
import Derived.Deep.Slices
import Derived.Stop.LaidTwo
import Derived.Test.YtdaidbnbfjgjeaaGreatDoorCards
import Derived.Test.YtdaidbnbfjgjeaaGreatDoorTie
import Derived.WalkKit
import Derived.Deep.DeepHandedRow
import Derived.Deep.DeepWitnessRowRef
import Derived.Lib.LaidTab
set_option linter.unusedVariables false
set_option linter.unusedSimpArgs false
/-! ## DskPlays -/
/- Layer 3's laws: DiskPlays. -/
namespace Go.Proofs.YtdaidbnbfjgjeaaGreatDoor
open Go.RowKit Go.Shelf Go.Maps Go.Sort
attribute [local go_sem ↓] Go.wp_at_zero Go.wp_at_succ
attribute [local go_sem] Later.cell Later.frozen

set_option maxRecDepth 100000 in
set_option maxHeartbeats 8000000 in
theorem plays_calls {a : Nat → Addr} (cap : Int) (X : Option Addr) (n c : Nat) (l : List OpE) (W : World) (hst : Start a W) (hs : ScriptM W X n l) (hc1 : cap ≤ 9223372036854775807) (hc2 : -9223372036854775808 ≤ cap) (hL : costs l ≤ 536870912) :
    Calls Tryz.prog 4 #[.int .i64 cap, .slice X n c] W fun e w' => e = .returned (.bool true) ∧ Below W.heap.size W w' := by
  have hll : l.length = n := Elems.len hs.row
  have hn := hs.n
  have HN := Lib.hid hll
  have HS := Lib.hid hs
  have HL := Lib.hid hL
  clear hs hll hL
  go_enter Tryz.func4, Tryz.ntmps4
  go_wp2_with fail
  refine (run_new cap hc1 hc2 W (Below.refl _ _)).mono ?_
  rintro e w1 ⟨p, rfl, hr⟩
  have HR := Lib.hid hr
  clear hr
  go_wp2_with fail
  refine HR.out.mono ?_
  clear HR
  rintro e w2 ⟨q, rfl, hrun⟩
  go_wp2_with fail
  refine (wakes_calls (B0 := W.heap.size) (a := a) w2 hrun.below.size (hst.env.below hrun.below).f).mono ?_
  rintro e w3 ⟨rfl, hb3⟩
  have hrun := hrun.later hb3
  clear hb3
  go_wp2_with fail
  go_loopg [21] n (fun g s21 wr => ∃ i : Nat, i + g = n ∧ s21 = .int .i64 (i : Int) ∧ ∃ d, Run (costs (l.take i)) W wr p q d)
  case atStart => exact ⟨0, by omega, rfl, _, hrun⟩
  case round =>
    obtain ⟨i, hig, rfl, d, hr⟩ := hrel
    have HIG := Lib.hid hig
    clear hig
    by_cases hi : i < n
    · have el : decide ((i : Int) < (n : Int)) = true := by simp; omega
      have el' : decide (i < n) = true := by simp; omega
      have hiin : (i : Int) < (n : Int) := by omega
      have hil : i < l.length := by rw [HN.out]; exact hi
      have hct := costs_take hil
      have hcl := costs_le (l := l) (i + 1)
      have HCT := Lib.hid hct
      have HCL := Lib.hid (Nat.le_trans hcl HL.out)
      clear hct hcl
      have hmem : l[i]! ∈ l := by rw [getElem!_pos l i hil]; exact List.getElem_mem _
      have hop := HS.out.ops _ hmem
      obtain ⟨b, off, hXe, hbl, x0, x1, x2, x3, x4, x5, x6, x7⟩ := ops_at HS.out.row hi
      obtain ⟨e, he⟩ : ∃ e, l[i]! = e := ⟨_, rfl⟩
      rw [he] at x0 x1 x2 x3 x4 x5 x6 x7 hop HCT
      have hB := hr.below
      have x0 := (hB.cell (p := ⟨b, off + i * 8, none⟩) hbl).trans x0
      have x1 := (hB.cell (p := ⟨b, off + i * 8 + 1, none⟩) hbl).trans x1
      have x2 := (hB.cell (p := ⟨b, off + i * 8 + 2, none⟩) hbl).trans x2
      have x3 := (hB.cell (p := ⟨b, off + i * 8 + 3, none⟩) hbl).trans x3
      have x4 := (hB.cell (p := ⟨b, off + i * 8 + 4, none⟩) hbl).trans x4
      have x5 := (hB.cell (p := ⟨b, off + i * 8 + 5, none⟩) hbl).trans x5
      have x6 := (hB.cell (p := ⟨b, off + i * 8 + 6, none⟩) hbl).trans x6
      have x7 := (hB.cell (p := ⟨b, off + i * 8 + 7, none⟩) hbl).trans x7
      subst hXe
      have hbr : b < wr.heap.size := lt_of_cell x0
      have HOP := Lib.hid hop
      have HST := Lib.hid (fun w' M d (h : Run M W w' p q d) (hM : M + costO e ≤ 536870912) => h.step hst e hop hM)
      clear hmem hop he hB
      obtain ⟨⟨K, A, B, N, M', pa, pn, pc, da, dn, dc, yes⟩, parts, data⟩ := e
      dsimp only at x0 x1 x2 x3 x4 x5 x6 x7 HST
      go_upto_region 7 with fail
      obtain ⟨w4, hw4⟩ : ∃ x, wr.alloc (.cells #[.int .i64 K, .string A, .string B, .int .i64 N, .int .i64 M', .slice pa pn pc, .slice da dn dc, .bool yes] 44) = x := ⟨_, rfl⟩
      have hb4 : Below wr.heap.size wr w4 := by rw [← hw4]; exact (Below.refl _ _).alloc (Nat.le_refl _) _
      have hk4 : OpBox w4 wr.heap.size ⟨K, A, B, N, M', pa, pn, pc, da, dn, dc, yes⟩ := by rw [← hw4]; exact Blk.new _ _ _
      have hall := hk4.all
      rw [hw4]
      obtain ⟨r, hrr⟩ : ∃ r, wr.heap.size = r := ⟨_, rfl⟩
      rw [hrr] at hall ⊢
      have b0 := hall.c0
      have b1 := hall.c1
      have b2 := hall.c2
      have b3 := hall.c3
      have b4 := hall.c4
      have b5 := hall.c5
      have b6 := hall.c6
      have b7 := hall.c7
      have HR4 := Lib.hid (hr.later hb4)
      clear x0 x1 x2 x3 x4 x5 x6 x7 hall hk4 hb4 hw4 hrr hr hbl hbr
      go_wp2_with fail
      refine (HST.out _ _ _ HR4.out (by rw [← HCT.out]; exact HCL.out)).mono ?_
      rintro x w5 ⟨rfl, hr5⟩
      have HR5 := Lib.hid hr5
      clear b0 b1 b2 b3 b4 b5 b6 b7 hr5
      go_wp2_with fail
      refine (HR5.out.alike hst (by rw [← HCT.out]; exact HCL.out)).mono ?_
      rintro x w6 ⟨rfl, hr6⟩
      have HR6 := Lib.hid hr6
      clear hr6
      go_wp2_with fail
      go_roundg (gk - 1)
      case measure => have := HIG.out; omega
      case rel => exact ⟨i + 1, by have := HIG.out; omega, by go_num, _, by rw [HCT.out]; exact HR6.out⟩
    · have el : decide ((i : Int) < (n : Int)) = false := by simp; omega
      have el' : decide (i < n) = false := by simp; omega
      have HB := Lib.hid hr.below
      clear hr
      go_wp2_with fail
      go_ret
      exact ⟨rfl, HB.out⟩
end Go.Proofs.YtdaidbnbfjgjeaaGreatDoor

/-! ## OpenS -/
/- Small facts for opening the arguments of a statement whose parameters are strings and numbers. -/
namespace Go.Proofs.YtdaidbnbfjgjeaaGreatDoor
open Go.ChangeShapes Go.WideShapes Go.ChangeAt Go.RowKit

theorem Tryz.own : ownKnob Tryz.prog.godebug = none := by kernel_rfl
theorem Tryz.laidOut : laidOutB Tryz.prog = true := by kernel_rfl
theorem wf_lo {n : Int} (h : (Lit.int .i64 n).wf = true) : -9223372036854775808 ≤ n ∧ n ≤ 9223372036854775807 := by
  have h1 : IntKind.i64.min = -9223372036854775808 := rfl
  have h2 : IntKind.i64.max = 9223372036854775807 := rfl
  simp only [Lit.wf, Bool.and_eq_true, decide_eq_true_eq] at h
  omega
theorem wf_u8 {n : Int} (h : (Lit.int .u8 n).wf = true) : 0 ≤ n ∧ n < 256 := by
  have h1 : IntKind.u8.min = 0 := rfl
  have h2 : IntKind.u8.max = 255 := rfl
  simp only [Lit.wf, Bool.and_eq_true, decide_eq_true_eq] at h
  omega
/-- A string's weight is its length. -/
theorem string_weight {H : Type} {s : ByteArray} (h : ((DataW.lit (.string s.data.toList) : DataW H).weights Tryz.prog 9).all (· ≤ reachBytes) = true) : s.size ≤ 140737488351232 := by
  have h3 : reachBytes = 140737488351232 := rfl
  simp only [DataW.weights, Tryz.underlying9] at h
  simp at h
  have e : s.data.toList.length = s.size := rfl
  omega
end Go.Proofs.YtdaidbnbfjgjeaaGreatDoor

/-! ## OpenRow -/
/- Opening an argument that is a slice: its elements, whatever they are, and how much they weigh. -/
namespace Go.Proofs.YtdaidbnbfjgjeaaGreatDoor
open Go.ChangeShapes Go.WideShapes Go.ChangeAt Go.RowKit Go.Deep

/-- No weight of the datum passes the reach. -/
def Light {H : Type} (P : Program) (t : TypeId) (d : DataW H) : Prop := ∀ m ∈ d.weights P t, m ≤ 140737488351232
theorem Light.of {H : Type} {P : Program} {ts : List TypeId} {ds : List (DataW H)} (hsz : (DataW.weightsEach P ts ds).all (· ≤ reachBytes) = true) {j : Nat} {t : TypeId} {d : DataW H} (ht : ts[j]? = some t) (hd : ds[j]? = some d) : Light P t d := by
  intro m hm
  have := List.all_eq_true.1 hsz m (DataW.weights_mem_each ht hd m hm)
  have h3 : reachBytes = 140737488351232 := rfl
  have h4 : m ≤ reachBytes := by simpa using this
  omega
theorem weightsAll_mem {H : Type} {P : Program} {e : TypeId} {d : DataW H} {m : Nat} (hm : m ∈ d.weights P e) : ∀ {l : List (DataW H)}, d ∈ l → m ∈ DataW.weightsAll P e l
  | x :: l, h => by
    rw [DataW.weightsAll, List.mem_append]
    rcases List.mem_cons.1 h with rfl | h
    · exact .inl hm
    · exact .inr (weightsAll_mem hm h)
theorem Light.elem {H : Type} {P : Program} {t e : TypeId} {l sp : List (DataW H)} (h : Light P t (.slice l sp)) (ht : P.underlying t = some (.slice e)) {d : DataW H} (hd : d ∈ l) : Light P e d := by
  intro m hm
  refine h m ?_
  simp only [DataW.weights, ht, List.mem_cons, List.mem_append]
  exact .inr (.inl (weightsAll_mem hm hd))
theorem Light.row {H : Type} {P : Program} {t e : TypeId} {l sp : List (DataW H)} (h : Light P t (.slice l sp)) (ht : P.underlying t = some (.slice e)) : l.length * P.bytesOf e ≤ 140737488351232 := by
  have := h ((l.length + sp.length) * P.bytesOf e) (by simp [DataW.weights, ht])
  rw [Nat.add_mul] at this
  omega
theorem Light.part {H : Type} {P : Program} {t : TypeId} {fs : Array Field} {l : List (DataW H)} (h : Light P t (.agg l)) (ht : P.underlying t = some (.struct fs)) {j : Nat} {u : TypeId} {d : DataW H} (hu : (fs.toList.map (·.type))[j]? = some u) (hd : l[j]? = some d) : Light P u d := by
  intro m hm
  refine h m ?_
  simp only [DataW.weights, ht]
  exact DataW.weights_mem_each hu hd m hm
theorem Light.text {H : Type} {P : Program} {t : TypeId} {l : List UInt8} (h : Light P t (.lit (.string l) : DataW H)) : l.length ≤ 140737488351232 :=
  h _ (by simp [DataW.weights])

section
variable {H : Type} {enc : TypeId × Value → H} {P : Program} {w : World} {base : Nat} {spare : Nat → Bool} {held : Bool}

theorem open_row {α : Type} [Inhabited α] {t e : TypeId} {sz : Nat} {ea : α → List Value} {Q : DataW H → α → Prop} (ht : P.underlying t = some (.slice e)) (hc : P.cellsOf e = sz) (h0 : 0 < sz) (hz : ∀ y, (ea y).length = sz)
    (ho : ∀ (fuel : Nat) (l : List Value) (x : DataW H × List MemPlace), DataW.trod enc P w base spare held fuel e l = some x → ∃ y, l = ea y ∧ Q x.1 y)
    {fuel : Nat} {v : Value} {x : DataW H × List MemPlace} (h : DataW.trod enc P w base spare held fuel t [v] = some x) :
    ∃ A n c ys, v = .slice A n c ∧ (A = none → c = 0) ∧ n ≤ c ∧ Elems w w.heap.size sz ea A n ys ∧ (Light P t x.1 → n * P.bytesOf e ≤ 140737488351232 ∧ ∀ y ∈ ys, ∃ d, Light P e d ∧ Q d y) ∧ ∀ y ∈ ys, ∃ d, Q d y := by
  rcases open_slice ht h with ⟨hcs, _⟩ | ⟨a, len, cap, m, n, D, Pl, hcs, _, hl, _, hmm, hx, hi⟩
  · simp at hcs
    subst hcs
    exact ⟨none, 0, 0, [], rfl, fun _ => rfl, Nat.le_refl _, Elems.nil_, fun _ => ⟨by omega, fun y hy => by cases hy⟩, fun y hy => by cases hy⟩
  · simp at hcs
    subst hcs
    rw [hc] at hi
    have hlm : len ≤ m := by rw [hmm]; split <;> omega
    obtain ⟨f, hf⟩ := choose_lt (α := α) (n := len) (p := fun i y => (∀ j u, (ea y)[j]? = some u → w.cell? (a.add (i * sz + j)) = some u) ∧ Q (D i) y) (by
      intro i hlt
      obtain ⟨cs', hc', ht'⟩ := hi i (by omega)
      obtain ⟨y, rfl, hq⟩ := ho _ _ _ ht'
      obtain ⟨_, hcl, hat⟩ := World.cells?_some hc'
      refine ⟨y, fun j u hu => ?_, hq⟩
      have hj : j < sz := by have := (List.getElem?_eq_some_iff.1 hu).1; rw [hz] at this; exact this
      have := hat j hj
      rw [Go.Deep.add_add] at this
      rw [this, hu])
    refine ⟨some a, len, cap, (List.range len).map f, rfl, (fun h => by cases h), hl, ⟨by simp, fun h0' => ?_⟩, fun hL => ?_, ?_⟩
    · obtain ⟨b, off, spot⟩ := a
      have hp : 0 < (ea (f 0)).length := by rw [hz]; exact h0
      have h00 := (hf 0 h0').1 0 _ (List.getElem?_eq_getElem hp)
      have hspot : spot = none := by simpa [Addr.add] using World.cell?_spot h00
      subst hspot
      refine ⟨b, off, rfl, by simpa [Addr.add] using lt_of_cell h00, fun i x hx j u hu => ?_⟩
      have hil : i < len := by have := (List.getElem?_eq_some_iff.1 hx).1; simpa using this
      have hxe : f i = x := by simpa [hil] using hx
      subst hxe
      have := (hf i hil).1 j u hu
      rw [add_plain] at this
      rw [← this, Nat.add_assoc]
    · rw [hx] at hL
      refine ⟨by simpa using hL.row ht, fun y hy => ?_⟩
      obtain ⟨i, hi', rfl⟩ := List.mem_map.1 hy
      have hil : i < len := List.mem_range.1 hi'
      exact ⟨D i, hL.elem ht (List.mem_map_of_mem hi'), (hf i hil).2⟩
    · intro y hy
      obtain ⟨i, hi', rfl⟩ := List.mem_map.1 hy
      exact ⟨D i, (hf i (List.mem_range.1 hi')).2⟩
end
end Go.Proofs.YtdaidbnbfjgjeaaGreatDoor

/-! ## OpenBulk -/
/- Opening an argument that is a slice, each element beside its datum; what the bound on the bulk gives. -/
namespace Go.Proofs.YtdaidbnbfjgjeaaGreatDoor
open Go.ChangeShapes Go.WideShapes Go.ChangeAt Go.RowKit Go.Deep

section
variable {H : Type} {enc : TypeId × Value → H} {P : Program} {w : World} {base : Nat} {spare : Nat → Bool} {held : Bool}

theorem open_row2 {α : Type} [Inhabited α] {t e : TypeId} {sz : Nat} {ea : α → List Value} {Q : DataW H → α → Prop} (ht : P.underlying t = some (.slice e)) (hc : P.cellsOf e = sz) (h0 : 0 < sz) (hz : ∀ y, (ea y).length = sz)
    (ho : ∀ (fuel : Nat) (l : List Value) (x : DataW H × List MemPlace), DataW.trod enc P w base spare held fuel e l = some x → ∃ y, l = ea y ∧ Q x.1 y)
    {fuel : Nat} {v : Value} {x : DataW H × List MemPlace} (h : DataW.trod enc P w base spare held fuel t [v] = some x) :
    ∃ A n c ys, v = .slice A n c ∧ (A = none → c = 0) ∧ n ≤ c ∧ Elems w w.heap.size sz ea A n ys ∧ ∃ ds sp, (x.1 = .slice ds sp ∨ (x.1 = .nil ∧ ds = [])) ∧ ds.length = ys.length ∧ ∀ (i : Nat) d y, ds[i]? = some d → ys[i]? = some y → Q d y := by
  rcases open_slice ht h with ⟨hcs, hx⟩ | ⟨a, len, cap, m, n, D, Pl, hcs, _, hl, _, hmm, hx, hi⟩
  · simp at hcs
    subst hcs
    exact ⟨none, 0, 0, [], rfl, fun _ => rfl, Nat.le_refl _, Elems.nil_, [], [], .inr ⟨by rw [hx], rfl⟩, rfl, fun i d y hd => by simp at hd⟩
  · simp at hcs
    subst hcs
    rw [hc] at hi
    have hlm : len ≤ m := by rw [hmm]; split <;> omega
    obtain ⟨f, hf⟩ := choose_lt (α := α) (n := len) (p := fun i y => (∀ j u, (ea y)[j]? = some u → w.cell? (a.add (i * sz + j)) = some u) ∧ Q (D i) y) (by
      intro i hlt
      obtain ⟨cs', hc', ht'⟩ := hi i (by omega)
      obtain ⟨y, rfl, hq⟩ := ho _ _ _ ht'
      obtain ⟨_, hcl, hat⟩ := World.cells?_some hc'
      refine ⟨y, fun j u hu => ?_, hq⟩
      have hj : j < sz := by have := (List.getElem?_eq_some_iff.1 hu).1; rw [hz] at this; exact this
      have := hat j hj
      rw [Go.Deep.add_add] at this
      rw [this, hu])
    refine ⟨some a, len, cap, (List.range len).map f, rfl, (fun h => by cases h), hl, ⟨by simp, fun h0' => ?_⟩, (List.range len).map D, _, .inl (by rw [hx]), by simp, fun i d y hd hy => ?_⟩
    · obtain ⟨b, off, spot⟩ := a
      have hp : 0 < (ea (f 0)).length := by rw [hz]; exact h0
      have h00 := (hf 0 h0').1 0 _ (List.getElem?_eq_getElem hp)
      have hspot : spot = none := by simpa [Addr.add] using World.cell?_spot h00
      subst hspot
      refine ⟨b, off, rfl, by simpa [Addr.add] using lt_of_cell h00, fun i x hx j u hu => ?_⟩
      have hil : i < len := by have := (List.getElem?_eq_some_iff.1 hx).1; simpa using this
      have hxe : f i = x := by simpa [hil] using hx
      subst hxe
      have := (hf i hil).1 j u hu
      rw [add_plain] at this
      rw [← this, Nat.add_assoc]
    · have hil : i < len := by have := (List.getElem?_eq_some_iff.1 hd).1; simpa using this
      have h1 : D i = d := by simpa [hil] using hd
      have h2 : f i = y := by simpa [hil] using hy
      rw [← h1, ← h2]
      exact (hf i hil).2
end

/-! ### the bulk -/
theorem bulk_one {H : Type} (d : DataW H) : 1 ≤ Rows.uptoBulk d := by
  cases d with
  | lit l => cases l <;> simp [Rows.uptoBulk]
  | nil => simp [Rows.uptoBulk]
  | ptr d => simp [Rows.uptoBulk]
  | slice elems spare => simp [Rows.uptoBulk]
  | agg parts => simp [Rows.uptoBulk]
  | iface t d => simp [Rows.uptoBulk]
  | map entries => simp [Rows.uptoBulk]
  | held h => simp [Rows.uptoBulk]
theorem bulk_text {H : Type} (l : List UInt8) : Rows.uptoBulk (DataW.lit (H := H) (.string l)) = l.length + 1 := by simp [Rows.uptoBulk]
theorem bulk_slice {H : Type} (l sp : List (DataW H)) : Rows.uptoBulkAll l + 1 ≤ Rows.uptoBulk (.slice l sp) := by simp only [Rows.uptoBulk]; omega
theorem bulk_all {H : Type} {l : List (DataW H)} (hk : Rows.uptoSmall H l = true) : Rows.uptoBulkAll l ≤ 1048576 := of_decide_eq_true hk
/-- The measures of the elements, added up, are no more than the bulk. -/
theorem bulk_sum {H α : Type} (mu : α → Nat) : ∀ (ds : List (DataW H)) (ys : List α), ds.length = ys.length → (∀ (i : Nat) d y, ds[i]? = some d → ys[i]? = some y → mu y ≤ Rows.uptoBulk d) → (ys.map mu).sum ≤ Rows.uptoBulkAll ds
  | [], [], _, _ => by simp
  | d :: ds, y :: ys, hl, h => by
    have h1 := h 0 d y rfl rfl
    have h2 := bulk_sum mu ds ys (by simpa using hl) (fun i d' y' hd hy => h (i + 1) d' y' (by simpa using hd) (by simpa using hy))
    simp only [List.map_cons, List.sum_cons, Rows.uptoBulkAll]
    omega
  | [], _ :: _, hl, _ => by simp at hl
  | _ :: _, [], hl, _ => by simp at hl
theorem bulk_row {H α : Type} (mu : α → Nat) {d : DataW H} {ds sp : List (DataW H)} {ys : List α} (hd : d = .slice ds sp ∨ (d = .nil ∧ ds = [])) (hl : ds.length = ys.length) (h : ∀ (i : Nat) d y, ds[i]? = some d → ys[i]? = some y → mu y ≤ Rows.uptoBulk d) : (ys.map mu).sum + 1 ≤ Rows.uptoBulk d := by
  have := bulk_sum mu ds ys hl h
  rcases hd with rfl | ⟨rfl, rfl⟩
  · have := bulk_slice ds sp; omega
  · obtain rfl : ys = [] := List.eq_nil_of_length_eq_zero (by simpa using hl.symm)
    simp [Rows.uptoBulk]
end Go.Proofs.YtdaidbnbfjgjeaaGreatDoor

/-! ## DskOpen -/
/- Opening a script of calls, within the bound on the bulk. -/
namespace Go.Proofs.YtdaidbnbfjgjeaaGreatDoor
open Go.ChangeShapes Go.WideShapes Go.ChangeAt Go.RowKit Go.Deep
theorem wf_i64 {n : Int} (h : (Lit.int .i64 n).wf = true) : -9223372036854775808 ≤ n ∧ n ≤ 9223372036854775807 := by
  have h1 : IntKind.i64.min = -9223372036854775808 := rfl
  have h2 : IntKind.i64.max = 9223372036854775807 := rfl
  simp only [Lit.wf, Bool.and_eq_true, decide_eq_true_eq] at h
  omega
theorem cells_str3 : Tryz.prog.cellsOf 9 = 1 := by kernel_rfl
theorem cells_int3 : Tryz.prog.cellsOf 3 = 1 := by kernel_rfl
theorem cells_bool3 : Tryz.prog.cellsOf 4 = 1 := by kernel_rfl
theorem cells_sstr3 : Tryz.prog.cellsOf 22 = 1 := by kernel_rfl
theorem cells_sint3 : Tryz.prog.cellsOf 23 = 1 := by kernel_rfl
theorem cells_op3 : Tryz.prog.cellsOf 44 = 8 := by kernel_rfl
section
variable {H : Type} {enc : TypeId × Value → H} {w : World} {base : Nat} {spare : Nat → Bool} {held : Bool}
theorem one_slice3 {l : List Value} {x : DataW H × List MemPlace} {fuel : Nat} {t e : TypeId} {P : Program} (ht : P.underlying t = some (.slice e)) (h : DataW.trod enc P w base spare held fuel t l = some x) : ∃ v, l = [v] := by
  rcases open_slice ht h with ⟨hcs, _⟩ | ⟨a, len, cap, m, n, D, Pl, hcs, _⟩
  · exact ⟨_, hcs⟩
  · exact ⟨_, hcs⟩
theorem flat_sum : ∀ l : List Txt, l.flatten.length + l.length = (l.map fun s => s.length + 1).sum
  | [] => rfl
  | s :: l => by
    have := flat_sum l
    simp only [List.flatten_cons, List.length_append, List.length_cons, List.map_cons, List.sum_cons]
    omega
theorem open_texts3 {fuel : Nat} {v : Value} {x : DataW H × List MemPlace} (h : DataW.trod enc Tryz.prog w base spare held fuel 22 [v] = some x) :
    ∃ A n c l, v = .slice A n c ∧ (A = none → c = 0) ∧ n ≤ c ∧ Strs w A n l ∧ l.flatten.length + l.length + 1 ≤ Rows.uptoBulk x.1 := by
  obtain ⟨A, n, c, l, rfl, h1, h2, h3, ds, sp, hx, hl, hQ⟩ := open_row2 (ea := enc1) (Q := fun d s => d = .lit (.string s)) Tryz.underlying22 cells_str3 (by omega) (fun _ => rfl) (fun _ _ _ h => by
    obtain ⟨s, rfl, rfl, _⟩ := DataW.trod_string Tryz.underlying9 h
    exact ⟨s.data.toList, rfl, rfl⟩) h
  refine ⟨A, n, c, l, rfl, h1, h2, h3, ?_⟩
  rw [flat_sum]
  exact bulk_row (fun s : Txt => s.length + 1) hx hl fun i d y hd hy => by rw [hQ i d y hd hy, bulk_text]; exact Nat.le_refl _
theorem open_ints3 {fuel : Nat} {v : Value} {x : DataW H × List MemPlace} (h : DataW.trod enc Tryz.prog w base spare held fuel 23 [v] = some x) :
    ∃ A n c l, v = .slice A n c ∧ (A = none → c = 0) ∧ n ≤ c ∧ Ints3 w A n l ∧ (∀ z ∈ l, -9223372036854775808 ≤ z ∧ z ≤ 9223372036854775807) ∧ l.length + 1 ≤ Rows.uptoBulk x.1 := by
  obtain ⟨A, n, c, l, rfl, h1, h2, h3, ds, sp, hx, hl, hQ⟩ := open_row2 (ea := I1) (Q := fun d (z : Int) => d = .lit (.int .i64 z) ∧ (Lit.int .i64 z).wf = true) Tryz.underlying23 cells_int3 (by omega) (fun _ => rfl) (fun _ _ _ h => by
    obtain ⟨z, rfl, rfl, hz⟩ := DataW.trod_int Tryz.underlying3 h
    exact ⟨z, rfl, rfl, hz⟩) h
  refine ⟨A, n, c, l, rfl, h1, h2, h3, fun z hz => ?_, ?_⟩
  · obtain ⟨i, hi, rfl⟩ := List.mem_iff_getElem.1 hz
    exact wf_i64 (hQ i (ds[i]'(by omega)) l[i] (List.getElem?_eq_getElem _) (List.getElem?_eq_getElem hi)).2
  · have := bulk_row (fun _ : Int => 1) hx hl fun i d y hd hy => by rw [(hQ i d y hd hy).1]; simp [Rows.uptoBulk]
    have e : (l.map fun _ => 1).sum = l.length := by clear this h3 hQ hl; induction l with | nil => rfl | cons z l ih => simp [ih]; omega
    omega
def OpQ (w : World) (d : DataW H) (y : OpE) : Prop := (Rows.uptoBulk d ≤ 1048576 → OpM w (fun _ => 0) y.o y.parts y.data y.parts.flatten.length) ∧ costO y ≤ Rows.uptoBulk d
set_option maxRecDepth 100000 in
theorem open_op {fuel : Nat} {l : List Value} {x : DataW H × List MemPlace} (h : DataW.trod enc Tryz.prog w base spare held fuel 44 l = some x) : ∃ y : OpE, l = encO y ∧ OpQ w x.1 y := by
  obtain ⟨xs, n, _, hx, hcl, hlen, hg⟩ := DataW.trod_struct Tryz.underlying44 h
  rw [cells_op3] at hcl
  match l, hcl, xs, hlen with
  | [c0, c1, c2, c3, c4, c5, c6, c7], _, [x0, x1, x2, x3, x4, x5, x6, x7], _ =>
    have g0 := hg 0 _ rfl
    have g1 := hg 1 _ rfl
    have g2 := hg 2 _ rfl
    have g3 := hg 3 _ rfl
    have g4 := hg 4 _ rfl
    have g5 := hg 5 _ rfl
    have g6 := hg 6 _ rfl
    have g7 := hg 7 _ rfl
    simp [cells_int3, cells_str3, cells_bool3, cells_sstr3, cells_sint3] at g0 g1 g2 g3 g4 g5 g6 g7
    obtain ⟨K, e0, f0, w0⟩ := DataW.trod_int Tryz.underlying3 g0
    obtain ⟨X, e1, f1, _⟩ := DataW.trod_string Tryz.underlying9 g1
    obtain ⟨Y, e2, f2, _⟩ := DataW.trod_string Tryz.underlying9 g2
    obtain ⟨N, e3, f3, w3⟩ := DataW.trod_int Tryz.underlying3 g3
    obtain ⟨M, e4, f4, w4⟩ := DataW.trod_int Tryz.underlying3 g4
    obtain ⟨pa, pn, pc, parts, e5, p1, p2, p3, p4⟩ := open_texts3 g5
    obtain ⟨da, dn, dc, data, e6, d1, d2, d3, d4, d5⟩ := open_ints3 g6
    obtain ⟨b, e7, f7, _⟩ := DataW.trod_bool Tryz.underlying4 g7
    simp at e0 e1 e2 e3 e4 e7
    subst e0 e1 e2 e3 e4 e5 e6 e7
    have hpl : parts.length = pn := p3.len
    have hdl : data.length = dn := Elems.len d3
    have hb : X.size + Y.size + (parts.flatten.length + parts.length + 1) + (data.length + 1) + 1 ≤ Rows.uptoBulk x.1 := by
      rw [hx]
      simp only [List.map_cons, List.map_nil, Rows.uptoBulk, Rows.uptoBulkAll, f1, f2]
      simp only [text_size3]
      omega
    refine ⟨⟨⟨K, X, Y, N, M, pa, pn, pc, da, dn, dc, b⟩, parts, data⟩, rfl, fun hk => ⟨by dsimp only; omega, by dsimp only; omega, (wf_i64 w3).1, (wf_i64 w3).2, (wf_i64 w4).1, (wf_i64 w4).2, p3, p2, by dsimp only; omega, p1, fun _ _ _ => rfl, Nat.le_refl _, d3, by dsimp only; omega, d1, fun _ _ _ => rfl, d4⟩, ?_⟩
    unfold costO
    dsimp only
    omega
theorem bulk_mem {d : DataW H} : ∀ {ds : List (DataW H)}, d ∈ ds → Rows.uptoBulk d ≤ Rows.uptoBulkAll ds
  | x :: r, h => by
    simp only [Rows.uptoBulkAll]
    rcases List.mem_cons.1 h with rfl | h
    · omega
    · have := bulk_mem h; omega
theorem costs_len : ∀ l : List OpE, l.length ≤ costs l
  | [] => Nat.zero_le _
  | e :: l => by
    have := costs_len l
    simp only [costs, List.map_cons, List.sum_cons, List.length_cons, costO] at *
    omega
theorem open_script {fuel : Nat} {v : Value} {x : DataW H × List MemPlace} (h : DataW.trod enc Tryz.prog w base spare held fuel 40 [v] = some x) :
    ∃ A n c l, v = .slice A n c ∧ (Rows.uptoBulk x.1 ≤ 1048576 → ScriptM w A n l ∧ costs l ≤ 1048576) := by
  obtain ⟨A, n, c, l, rfl, h1, h2, h3, ds, sp, hx, hl, hQ⟩ := open_row2 (ea := encO) (Q := fun d y => OpQ w d y) Tryz.underlying40 cells_op3 (by omega) (fun _ => rfl) (fun _ _ _ h => open_op h) h
  refine ⟨A, n, c, l, rfl, fun hb => ?_⟩
  have hc := bulk_row costO hx hl fun i d y hd hy => (hQ i d y hd hy).2
  have hcc : costs l ≤ 1048576 := by unfold costs; omega
  have hln : l.length = n := Elems.len h3
  refine ⟨⟨h3, fun e he => ?_, by have := costs_len l; omega⟩, hcc⟩
  obtain ⟨i, hi, rfl⟩ := List.mem_iff_getElem.1 he
  have hi2 : i < ds.length := by omega
  refine (hQ i ds[i] l[i] (List.getElem?_eq_getElem hi2) (List.getElem?_eq_getElem hi)).1 ?_
  have hm := bulk_mem (List.getElem_mem hi2)
  rcases hx with hx | ⟨hx, hn⟩
  · rw [hx] at hb
    have := bulk_slice ds sp
    omega
  · subst hn; simp at hi2
end
end Go.Proofs.YtdaidbnbfjgjeaaGreatDoor

/-! ## DskLaid -/
/- What the row's list gives: the failures' variables. -/
namespace Go.Proofs.YtdaidbnbfjgjeaaGreatDoor
open Go.RowKit

theorem laidMet_tail {P : Program} {W : World} {x : String × DataW Unit} {r : List (String × DataW Unit)} (h : laidMet P (x :: r) W) : laidMet P r W := by
  obtain ⟨ps, ⟨g, t, cs, f, p, q, hg, ht, hv, hd, hr, e⟩, hnd, hrows⟩ := h
  subst e
  refine ⟨q, hr, ?_, fun b off hm => hrows b off (by simp [hm])⟩
  first | exact (List.nodup_append.1 hnd).2.1 | exact (List.nodup_append.1 (List.nodup_append.1 hnd).2.1).2.1
theorem star_err : "*" ++ "errors.errorString" = "*errors.errorString" := by decide
theorem row_err (u : TypeId) (h : Tryz.prog.typeName? 3 u = some "*errors.errorString") : u = 199 :=
  typeName_ptr_named (nm := "errors.errorString") (by rw [star_err]; kernel_rfl) (by kernel_rfl) (by decide) u (by rw [star_err]; exact h)
set_option maxRecDepth 100000 in
/-- One sentinel of the list: its address, its text, its block. -/
theorem sent_at {n : String} {text : List UInt8} {r : List (String × DataW Unit)} {W : World} {g : Nat}
    (h : laidMet Tryz.prog ((n, .iface "*errors.errorString" (.ptr (.agg [.lit (.string text)]))) :: r) W) (hg : Tryz.prog.globalNamed n = some g) (ht : (Tryz.prog.globals[g]?).map (·.type) = some 28) :
    ∃ (a : Addr) (s : ByteArray), W.cell? ⟨g, 0, none⟩ = some (.iface 199 (.pointer (some a))) ∧ W.cell? a = some (.string s) ∧ s.data.toList = text ∧ ∃ c t, W.heap[a.block]? = some (.cells c t (0, 0)) := by
  obtain ⟨ps, ⟨g0', t0', cs0, f0, p0, q0, hg0', ht0', hv0, hd0, _, e0⟩, hnd, hrows⟩ := h
  obtain rfl := Option.some.inj (hg.symm.trans hg0')
  obtain rfl := Option.some.inj (ht.symm.trans ht0')
  subst e0
  obtain ⟨l0⟩ := cs0
  have ok0 : ∀ u v, l0 = [.iface u v] → Value.okWide Tryz.prog W .any 0 u v := fun u v e => by
    subst e
    exact (hrows g 0 (by simp [MemPlace.row])).2 u v (by simpa using World.var?_cell hg0' hv0 0)
  obtain ⟨a0, s0, rfl, hc0, hs0, hz0, rfl⟩ := errorString_of_trod Tryz.underlying28 row_err Tryz.underlying199 Tryz.underlying213 rfl rfl Tryz.underlying9 (by kernel_rfl) (by kernel_rfl) hd0 ok0
  refine ⟨a0, s0, by simpa using World.var?_cell hg0' hv0 0, hc0, hs0, (hrows a0.block a0.off (by simp [MemPlace.row])).1⟩
def sentT : Nat → List UInt8
  | 1 => [116, 104, 101, 32, 112, 111, 119, 101, 114, 32, 105, 115, 32, 111, 102, 102]
  | 2 => [110, 111, 32, 112, 97, 116, 104]
  | 3 => [97, 32, 100, 105, 114, 101, 99, 116, 111, 114, 121]
  | 4 => [110, 111, 116, 32, 116, 104, 101, 114, 101]
  | 5 => [116, 104, 101, 114, 101, 32, 97, 108, 114, 101, 97, 100, 121]
  | 6 => [111, 117, 116, 32, 111, 102, 32, 114, 97, 110, 103, 101]
  | _ => [110, 111, 32, 115, 112, 97, 99, 101]
theorem sentT_inj : ∀ i ∈ [1, 2, 3, 4, 5, 6, 7], ∀ j ∈ [1, 2, 3, 4, 5, 6, 7], i ≠ j → sentT i ≠ sentT j := by decide
/-- A sentinel as it lies. -/
def SentIs (W : World) (k : Nat) (a : Addr) : Prop := W.cell? ⟨failG k, 0, none⟩ = some (.iface 199 (.pointer (some a))) ∧ (∃ s : ByteArray, W.cell? a = some (.string s) ∧ s.data.toList = sentT k) ∧ ∃ c t, W.heap[a.block]? = some (.cells c t (0, 0))
theorem start_of {W : World} (h : laidMet Tryz.prog [("almanac/api.FailOff", Rows.laid_almanac_api_FailOff), ("almanac/api.FailName", Rows.laid_almanac_api_FailName), ("almanac/api.FailKind", Rows.laid_almanac_api_FailKind), ("almanac/api.FailMissing", Rows.laid_almanac_api_FailMissing), ("almanac/api.FailExists", Rows.laid_almanac_api_FailExists), ("almanac/api.FailRange", Rows.laid_almanac_api_FailRange), ("almanac/api.FailSpace", Rows.laid_almanac_api_FailSpace)] W) : ∃ a, Start a W := by
  have h2 := laidMet_tail h
  have h3 := laidMet_tail h2
  have h4 := laidMet_tail h3
  have h5 := laidMet_tail h4
  have h6 := laidMet_tail h5
  have h7 := laidMet_tail h6
  obtain ⟨a1, s1, p1, q1, r1, b1⟩ := sent_at h (g := 4) (by kernel_rfl) (by kernel_rfl)
  obtain ⟨a2, s2, p2, q2, r2, b2⟩ := sent_at h2 (g := 5) (by kernel_rfl) (by kernel_rfl)
  obtain ⟨a3, s3, p3, q3, r3, b3⟩ := sent_at h3 (g := 3) (by kernel_rfl) (by kernel_rfl)
  obtain ⟨a4, s4, p4, q4, r4, b4⟩ := sent_at h4 (g := 1) (by kernel_rfl) (by kernel_rfl)
  obtain ⟨a5, s5, p5, q5, r5, b5⟩ := sent_at h5 (g := 0) (by kernel_rfl) (by kernel_rfl)
  obtain ⟨a6, s6, p6, q6, r6, b6⟩ := sent_at h6 (g := 6) (by kernel_rfl) (by kernel_rfl)
  obtain ⟨a7, s7, p7, q7, r7, b7⟩ := sent_at h7 (g := 2) (by kernel_rfl) (by kernel_rfl)
  have hall : ∀ k, SentIs W k (match k with | 1 => a1 | 2 => a2 | 3 => a3 | 4 => a4 | 5 => a5 | 6 => a6 | _ => a7) := by
    intro k
    match k with
    | 1 => exact ⟨p1, ⟨s1, q1, r1⟩, b1⟩
    | 2 => exact ⟨p2, ⟨s2, q2, r2⟩, b2⟩
    | 3 => exact ⟨p3, ⟨s3, q3, r3⟩, b3⟩
    | 4 => exact ⟨p4, ⟨s4, q4, r4⟩, b4⟩
    | 5 => exact ⟨p5, ⟨s5, q5, r5⟩, b5⟩
    | 6 => exact ⟨p6, ⟨s6, q6, r6⟩, b6⟩
    | 0 => exact ⟨p7, ⟨s7, q7, r7⟩, b7⟩
    | _ + 7 => exact ⟨p7, ⟨s7, q7, r7⟩, b7⟩
  obtain ⟨a, hall⟩ : ∃ a : Nat → Addr, ∀ k, SentIs W k (a k) := ⟨_, hall⟩
  clear p1 p2 p3 p4 p5 p6 p7
  refine ⟨a, ⟨⟨fun k _ => ⟨lt_of_cell (hall k).1, (hall k).1⟩, ⟨lt_of_cell (hall 6).1, (hall 6).1⟩, fun k _ _ => ⟨?_, (hall k).2.2⟩⟩, ?_⟩⟩
  · obtain ⟨c, t, e⟩ := (hall k).2.2
    exact (Array.getElem?_eq_some_iff.1 e).1
  · intro i j hi1 hi2 hj1 hj2 hne e
    obtain ⟨si, ci, ti⟩ := (hall i).2.1
    obtain ⟨sj, cj, tj⟩ := (hall j).2.1
    rw [e, cj] at ci
    injection ci with ci
    injection ci with ci
    refine sentT_inj i ?_ j ?_ hne ?_
    · simp; omega
    · simp; omega
    · rw [← ti, ← tj, ci]
end Go.Proofs.YtdaidbnbfjgjeaaGreatDoor

/-! ## DskWorld -/
/- A world for the witnesses of the disk's laws. -/
namespace Go.Proofs.YtdaidbnbfjgjeaaGreatDoor
open Go.ChangeShapes Go.WideShapes Go.ChangeAt Go.RowKit Go.ChangeMaps

/-- A world for the witness: the settled one, the seven variables holding what their initialisers lay. -/
noncomputable def laidWorld (os : Os) : World :=
  let N := (World.settled Tryz.prog os).heap.size
  let w0 := World.holding Tryz.prog os ⟨#[
    .cells #[.string ⟨(sentT 1).toArray⟩] 213, .cells #[.string ⟨(sentT 2).toArray⟩] 213, .cells #[.string ⟨(sentT 3).toArray⟩] 213,
    .cells #[.string ⟨(sentT 4).toArray⟩] 213, .cells #[.string ⟨(sentT 5).toArray⟩] 213, .cells #[.string ⟨(sentT 6).toArray⟩] 213, .cells #[.string ⟨(sentT 7).toArray⟩] 213], #[], []⟩
  let put (h : Array Obj) (g : Nat) (k : Nat) : Array Obj := h.modify g fun
    | .cells _ t frozen => .cells #[.iface 199 (.pointer (some ⟨N + k, 0, none⟩))] t frozen
    | o => o
  { w0 with heap := put (put (put (put (put (put (put w0.heap 4 0) 5 1) 3 2) 1 3) 0 4) 6 5) 2 6 }
set_option maxRecDepth 1000000 in
theorem laid_met7 (os : Os) (args : Array Value) : laidMet Tryz.prog Rows.diskPlaysRow.laid ((laidWorld os).forCall (fun _ _ => 0) ⟨#[], args, []⟩).memory :=
  laidMet_of_run' 8 (by kernel_rfl) (by kernel_rfl)
end Go.Proofs.YtdaidbnbfjgjeaaGreatDoor
