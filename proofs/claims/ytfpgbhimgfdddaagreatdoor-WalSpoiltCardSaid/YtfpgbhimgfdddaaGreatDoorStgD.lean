/- StoOpen, StoLaid, StoWorld together. -/
import Derived.Test.YtfpgbhimgfdddaaGreatDoorWak17
import Derived.Test.YtfpgbhimgfdddaaGreatDoorDskOpen
import Derived.Test.YtfpgbhimgfdddaaGreatDoorOpenRow
import Derived.Test.YtfpgbhimgfdddaaGreatDoorDskLaid
import Derived.Test.YtfpgbhimgfdddaaGreatDoorOpenS
import Derived.Test.YtfpgbhimgfdddaaGreatDoorCards
import Derived.Test.YtfpgbhimgfdddaaGreatDoorTie
import Derived.WalkKit
import Derived.Deep.DeepHandedRow
import Derived.Deep.DeepWitnessRowRef
import Derived.Lib.LaidTab
set_option linter.unusedVariables false
set_option linter.unusedSimpArgs false
namespace Go.Proofs.YtfpgbhimgfdddaaGreatDoor
section
open Go.ChangeShapes Go.WideShapes Go.ChangeAt Go.RowKit Go.Deep
theorem cells_files : Tryz.prog.cellsOf 57 = 3 := by kernel_rfl
section
variable {H : Type} {enc : TypeId × Value → H} {w : World} {base : Nat} {spare : Nat → Bool} {held : Bool}
theorem size_txt (X : ByteArray) : X.data.toList.length = X.size := by simp
set_option maxRecDepth 100000 in
theorem open_filesL {fuel : Nat} {l : List Value} {x : DataW H × List MemPlace} (h : DataW.trod enc Tryz.prog w base spare held fuel 57 l = some x) : ∃ FA FB FC : ByteArray, l = [.string FA, .string FB, .string FC] ∧ x.1 = .agg [.lit (.string FA.data.toList), .lit (.string FB.data.toList), .lit (.string FC.data.toList)] := by
  obtain ⟨xs, n, _, hx, hcl, hlen, hg⟩ := DataW.trod_struct Tryz.underlying57 h
  rw [cells_files] at hcl
  match l, hcl, xs, hlen with
  | [c0, c1, c2], _, [x0, x1, x2], _ =>
    have g0 := hg 0 _ rfl
    have g1 := hg 1 _ rfl
    have g2 := hg 2 _ rfl
    simp [cells_str3] at g0 g1 g2
    obtain ⟨a, e0, f0, _⟩ := DataW.trod_string Tryz.underlying9 g0
    obtain ⟨b, e1, f1, _⟩ := DataW.trod_string Tryz.underlying9 g1
    obtain ⟨c, e2, f2, _⟩ := DataW.trod_string Tryz.underlying9 g2
    simp at e0 e1 e2
    subst e0 e1 e2
    refine ⟨a, b, c, rfl, ?_⟩
    rw [hx]
    simp [f0, f1, f2]
set_option maxRecDepth 100000 in
theorem files_light {a b c : ByteArray} (h : Light (H := H) Tryz.prog 57 (.agg [.lit (.string a.data.toList), .lit (.string b.data.toList), .lit (.string c.data.toList)])) : a.size ≤ 140737488351232 ∧ b.size ≤ 140737488351232 ∧ c.size ≤ 140737488351232 := by
  rw [← size_txt a, ← size_txt b, ← size_txt c]
  exact ⟨(h.part Tryz.underlying57 (j := 0) rfl rfl).text, (h.part Tryz.underlying57 (j := 1) rfl rfl).text, (h.part Tryz.underlying57 (j := 2) rfl rfl).text⟩
set_option maxRecDepth 100000 in
theorem open_files {r : Reach} {b0 : Nat} {v : Value} {d : DataW H} {ps : List MemPlace} (hv : Value.okWide Tryz.prog w r b0 57 v) (h : DataW.Trod enc Tryz.prog w base spare held 57 v d ps) :
    ∃ FA FB FC : ByteArray, v = fsV FA FB FC ∧ (Light (H := H) Tryz.prog 57 d → FA.size ≤ 140737488351232 ∧ FB.size ≤ 140737488351232 ∧ FC.size ≤ 140737488351232) := by
  obtain ⟨cs, rfl, hsz⟩ := okWide_struct Tryz.underlying57 hv
  obtain ⟨l⟩ := cs
  obtain ⟨fuel, hf⟩ := h
  obtain ⟨a, b, c, h1, h2⟩ := open_filesL hf
  refine ⟨a, b, c, ?_, fun hL => ?_⟩
  · unfold fsV
    have h3 : l = [.string a, .string b, .string c] := by simpa [Value.cells] using h1
    rw [h3]
  · simp only at h2
    rw [h2] at hL
    exact files_light hL
end
end

section
open Go.ChangeShapes Go.WideShapes Go.ChangeAt Go.RowKit Go.ChangeMaps
/-- Six addresses apart, and a seventh. -/
theorem seventh (a : Nat → Addr) : ∃ x : Addr, x.block = (a 1).block ∧ ∀ k, 1 ≤ k → k ≤ 7 → x ≠ a k := by
  refine ⟨⟨(a 1).block, (a 1).off + (a 2).off + (a 3).off + (a 4).off + (a 5).off + (a 6).off + (a 7).off + 1, none⟩, rfl, fun k h1 h2 e => ?_⟩
  have e2 : (a k).off = (a 1).off + (a 2).off + (a 3).off + (a 4).off + (a 5).off + (a 6).off + (a 7).off + 1 := by rw [← e]
  rcases (by omega : k = 1 ∨ k = 2 ∨ k = 3 ∨ k = 4 ∨ k = 5 ∨ k = 6 ∨ k = 7) with rfl | rfl | rfl | rfl | rfl | rfl | rfl <;> omega
set_option maxRecDepth 100000 in
theorem store_start {W : World} (h : laidMet Tryz.prog Rows.storeFullRow.laid W) : ∃ a, SCon W.heap.size a ∧ SEnv W.heap.size a W := by
  have h1 := laidMet_tail h
  have h2 := laidMet_tail h1
  have h3 := laidMet_tail h2
  have h4 := laidMet_tail h3
  have h5 := laidMet_tail h4
  have h6 := laidMet_tail h5
  have h7 := laidMet_tail h6
  have h8 := laidMet_tail h7
  have h9 := laidMet_tail h8
  obtain ⟨a1, s1, p1, q1, r1, b1⟩ := sent_at h3 (g := 5) (by kernel_rfl) (by kernel_rfl)
  obtain ⟨a2, s2, p2, q2, r2, b2⟩ := sent_at h4 (g := 6) (by kernel_rfl) (by kernel_rfl)
  obtain ⟨a3, s3, p3, q3, r3, b3⟩ := sent_at h5 (g := 3) (by kernel_rfl) (by kernel_rfl)
  obtain ⟨a4, s4, p4, q4, r4, b4⟩ := sent_at h6 (g := 0) (by kernel_rfl) (by kernel_rfl)
  obtain ⟨a5, s5, p5, q5, r5, b5⟩ := sent_at h7 (g := 1) (by kernel_rfl) (by kernel_rfl)
  obtain ⟨a7, s7, p7, q7, r7, b7⟩ := sent_at h8 (g := 2) (by kernel_rfl) (by kernel_rfl)
  have hpow : PowTab W := Lib.tabIs_of_head (g := 9) (t := 284) (e := 186) (n := 20) (by kernel_rfl) (by kernel_rfl) (by kernel_rfl) (by kernel_rfl) (by kernel_rfl) (by kernel_rfl) h2
  have hnibT : Lib.TabIs Tryz.prog W "almanac/enc.nibbles" .u32 [0, 274646895, 549293790, 820201905, 1098587580, 1361435347, 1640403810, 1905808397, 2197175160, 2460548119, 2722870694, 2987750089, 3280807620, 3553878443, 3811616794, 4084100981] := Lib.tabIs_of_head (g := 7) (t := 219) (e := 183) (n := 16) (by kernel_rfl) (by kernel_rfl) (by kernel_rfl) (by kernel_rfl) (by kernel_rfl) (by kernel_rfl) h9
  have hnib : NibTab W := fun i hi => by
    rw [hnibT.cell (by kernel_rfl) i hi]
    rcases (by omega : i = 0 ∨ i = 1 ∨ i = 2 ∨ i = 3 ∨ i = 4 ∨ i = 5 ∨ i = 6 ∨ i = 7 ∨ i = 8 ∨ i = 9 ∨ i = 10 ∨ i = 11 ∨ i = 12 ∨ i = 13 ∨ i = 14 ∨ i = 15) with rfl | rfl | rfl | rfl | rfl | rfl | rfl | rfl | rfl | rfl | rfl | rfl | rfl | rfl | rfl | rfl <;> rfl
  obtain ⟨x6, hx6, hx6n⟩ := seventh (fun k => match k with | 1 => a1 | 2 => a2 | 3 => a3 | 4 => a4 | 5 => a5 | 6 => a7 | _ => a7)
  have hall : ∀ k, k ≠ 6 → SentIs W k (match k with | 1 => a1 | 2 => a2 | 3 => a3 | 4 => a4 | 5 => a5 | 6 => x6 | _ => a7) := by
    intro k hk
    match k, hk with
    | 1, _ => exact ⟨p1, ⟨s1, q1, r1⟩, b1⟩
    | 2, _ => exact ⟨p2, ⟨s2, q2, r2⟩, b2⟩
    | 3, _ => exact ⟨p3, ⟨s3, q3, r3⟩, b3⟩
    | 4, _ => exact ⟨p4, ⟨s4, q4, r4⟩, b4⟩
    | 5, _ => exact ⟨p5, ⟨s5, q5, r5⟩, b5⟩
    | 6, h => exact absurd rfl h
    | 0, _ => exact ⟨p7, ⟨s7, q7, r7⟩, b7⟩
    | _ + 7, _ => exact ⟨p7, ⟨s7, q7, r7⟩, b7⟩
  have h6b : ∃ cs t, W.heap[x6.block]? = some (.cells cs t (0, 0)) := by rw [hx6]; exact b1
  have h6n : x6 ≠ a1 ∧ x6 ≠ a2 ∧ x6 ≠ a3 ∧ x6 ≠ a4 ∧ x6 ≠ a5 ∧ x6 ≠ a7 := ⟨hx6n 1 (by omega) (by omega), hx6n 2 (by omega) (by omega), hx6n 3 (by omega) (by omega), hx6n 4 (by omega) (by omega), hx6n 5 (by omega) (by omega), hx6n 7 (by omega) (by omega)⟩
  have hap : ∀ k, 1 ≤ k → k ≤ 7 → k ≠ 6 → x6 ≠ (match k with | 1 => a1 | 2 => a2 | 3 => a3 | 4 => a4 | 5 => a5 | 6 => x6 | _ => a7) := by
    intro k h1 h2 h6
    rcases (by omega : k = 1 ∨ k = 2 ∨ k = 3 ∨ k = 4 ∨ k = 5 ∨ k = 7) with rfl | rfl | rfl | rfl | rfl | rfl
    · exact h6n.1
    · exact h6n.2.1
    · exact h6n.2.2.1
    · exact h6n.2.2.2.1
    · exact h6n.2.2.2.2.1
    · exact h6n.2.2.2.2.2
  have ha6 : (match 6 with | 1 => a1 | 2 => a2 | 3 => a3 | 4 => a4 | 5 => a5 | 6 => x6 | _ => a7) = x6 := rfl
  obtain ⟨a, ha, ha6, hap⟩ : ∃ a : Nat → Addr, (∀ k, k ≠ 6 → SentIs W k (a k)) ∧ a 6 = x6 ∧ ∀ k, 1 ≤ k → k ≤ 7 → k ≠ 6 → x6 ≠ a k := ⟨_, hall, ha6, hap⟩
  refine ⟨a, ⟨fun i j hi1 hi2 hj1 hj2 hne e => ?_, lt_of_cell (hnib 0 (by decide)), lt_of_cell (Lib.TabIs.cell hpow (by kernel_rfl) 0 (by decide))⟩, ⟨⟨fun k hk => ⟨lt_of_cell (ha k hk).1, (ha k hk).1⟩, fun k h1 h2 => ?_⟩, hnib, hpow, Nat.le_refl _⟩⟩
  · by_cases h6i : i = 6
    · subst h6i
      rw [ha6] at e
      exact hap j hj1 hj2 (fun h => hne h.symm) e
    · by_cases h6j : j = 6
      · subst h6j
        rw [ha6] at e
        exact hap i hi1 hi2 h6i e.symm
      · obtain ⟨si, ci, ti⟩ := (ha i h6i).2.1
        obtain ⟨sj, cj, tj⟩ := (ha j h6j).2.1
        rw [e, cj] at ci
        injection ci with ci
        injection ci with ci
        refine sentT_inj i ?_ j ?_ hne ?_
        · simp; omega
        · simp; omega
        · rw [← ti, ← tj, ci]
  · by_cases h6 : k = 6
    · subst h6
      rw [ha6]
      obtain ⟨cs, t, e⟩ := h6b
      exact ⟨(Array.getElem?_eq_some_iff.1 e).1, cs, t, e⟩
    · obtain ⟨c, t, e⟩ := (ha k h6).2.2
      exact ⟨(Array.getElem?_eq_some_iff.1 e).1, c, t, e⟩
end

section
open Go.ChangeShapes Go.WideShapes Go.ChangeAt Go.RowKit Go.ChangeMaps

def litCells : DataW Unit → Array Value
  | .agg l => (l.map fun | .lit (.int k v) => Value.int k v | _ => undef).toArray
  | _ => #[]
/-- A world for the witness: the settled one, the tables and the six variables holding what their initialisers lay. -/
noncomputable def storeWorld (os : Os) : World :=
  let N := (World.settled Tryz.prog os).heap.size
  let w0 := World.holding Tryz.prog os ⟨#[
    .cells #[.string ⟨(sentT 1).toArray⟩] 308, .cells #[.string ⟨(sentT 2).toArray⟩] 308, .cells #[.string ⟨(sentT 3).toArray⟩] 308,
    .cells #[.string ⟨(sentT 4).toArray⟩] 308, .cells #[.string ⟨(sentT 5).toArray⟩] 308, .cells #[.string ⟨(sentT 7).toArray⟩] 308], #[], []⟩
  let put (h : Array Obj) (g : Nat) (k : Nat) : Array Obj := h.modify g fun
    | .cells _ t frozen => .cells #[.iface 306 (.pointer (some ⟨N + k, 0, none⟩))] t frozen
    | o => o
  let tab (h : Array Obj) (g : Nat) (d : DataW Unit) : Array Obj := h.modify g fun
    | .cells _ t frozen => .cells (litCells d) t frozen
    | o => o
  { w0 with heap := tab (tab (tab (tab (put (put (put (put (put (put w0.heap 5 0) 6 1) 3 2) 0 3) 1 4) 2 5)
    12 Rows.laid_math_bits_deBruijn32tab) 13 Rows.laid_math_bits_deBruijn64tab) 9 Rows.laid_internal_strconv_uint64pow10) 7 Rows.laid_almanac_enc_nibbles }
set_option maxRecDepth 1000000 in
theorem store_met (os : Os) (args : Array Value) : laidMet Tryz.prog Rows.storeFullRow.laid ((storeWorld os).forCall (fun _ _ => 0) ⟨#[], args, []⟩).memory :=
  laidMet_of_run' 8 (by kernel_rfl) (by kernel_rfl)
end
end Go.Proofs.YtfpgbhimgfdddaaGreatDoor
