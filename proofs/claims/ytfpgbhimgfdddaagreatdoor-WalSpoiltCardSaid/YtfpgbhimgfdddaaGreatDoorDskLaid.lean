/- What the row's list gives: the failures' variables. -/
import Derived.Test.YtfpgbhimgfdddaaGreatDoorWak16
import Derived.Test.YtfpgbhimgfdddaaGreatDoorRows
import Derived.Stop.LaidTwo
set_option linter.unusedVariables false
set_option linter.unusedSimpArgs false
namespace Go.Proofs.YtfpgbhimgfdddaaGreatDoor
open Go.RowKit

theorem laidMet_tail {P : Program} {W : World} {x : String × DataW Unit} {r : List (String × DataW Unit)} (h : laidMet P (x :: r) W) : laidMet P r W := by
  obtain ⟨ps, ⟨g, t, cs, f, p, q, hg, ht, hv, hd, hr, e⟩, hnd, hrows⟩ := h
  subst e
  refine ⟨q, hr, ?_, fun b off hm => hrows b off (by simp [hm])⟩
  first | exact (List.nodup_append.1 hnd).2.1 | exact (List.nodup_append.1 (List.nodup_append.1 hnd).2.1).2.1
theorem star_err : "*" ++ "errors.errorString" = "*errors.errorString" := by decide
theorem row_err (u : TypeId) (h : Tryz.prog.typeName? 3 u = some "*errors.errorString") : u = 306 :=
  typeName_ptr_named (nm := "errors.errorString") (by rw [star_err]; kernel_rfl) (by kernel_rfl) (by decide) u (by rw [star_err]; exact h)
set_option maxRecDepth 100000 in
/-- One sentinel of the list: its address, its text, its block. -/
theorem sent_at {n : String} {text : List UInt8} {r : List (String × DataW Unit)} {W : World} {g : Nat}
    (h : laidMet Tryz.prog ((n, .iface "*errors.errorString" (.ptr (.agg [.lit (.string text)]))) :: r) W) (hg : Tryz.prog.globalNamed n = some g) (ht : (Tryz.prog.globals[g]?).map (·.type) = some 32) :
    ∃ (a : Addr) (s : ByteArray), W.cell? ⟨g, 0, none⟩ = some (.iface 306 (.pointer (some a))) ∧ W.cell? a = some (.string s) ∧ s.data.toList = text ∧ ∃ c t, W.heap[a.block]? = some (.cells c t (0, 0)) := by
  obtain ⟨ps, ⟨g0', t0', cs0, f0, p0, q0, hg0', ht0', hv0, hd0, _, e0⟩, hnd, hrows⟩ := h
  obtain rfl := Option.some.inj (hg.symm.trans hg0')
  obtain rfl := Option.some.inj (ht.symm.trans ht0')
  subst e0
  obtain ⟨l0⟩ := cs0
  have ok0 : ∀ u v, l0 = [.iface u v] → Value.okWide Tryz.prog W .any 0 u v := fun u v e => by
    subst e
    exact (hrows g 0 (by simp [MemPlace.row])).2 u v (by simpa using World.var?_cell hg0' hv0 0)
  obtain ⟨a0, s0, rfl, hc0, hs0, hz0, rfl⟩ := errorString_of_trod Tryz.underlying32 row_err Tryz.underlying306 Tryz.underlying308 rfl rfl Tryz.underlying9 (by kernel_rfl) (by kernel_rfl) hd0 ok0
  refine ⟨a0, s0, by simpa using World.var?_cell hg0' hv0 0, hc0, hs0, (hrows a0.block a0.off (by simp [MemPlace.row])).1⟩
def sentT : Nat → List UInt8
  | 1 => [116, 104, 101, 32, 112, 111, 119, 101, 114, 32, 105, 115, 32, 111, 102, 102]
  | 2 => [110, 111, 32, 112, 97, 116, 104]
  | 3 => [97, 32, 100, 105, 114, 101, 99, 116, 111, 114, 121]
  | 4 => [110, 111, 116, 32, 116, 104, 101, 114, 101]
  | 5 => [116, 104, 101, 114, 101, 32, 97, 108, 114, 101, 97, 100, 121]
  | 6 => [111, 117, 116, 32, 111, 102, 32, 114, 97, 110, 103, 101]
  | _ => [110, 111, 32, 115, 112, 97, 99, 101]
theorem sentT_inj : ∀ i ∈ [1, 2, 3, 4, 5, 6, 7], ∀ j ∈ [1, 2, 3, 4, 5, 6, 7], i ≠ j → sentT i ≠ sentT j := by decide
/-- A sentinel as it lies. -/
def SentIs (W : World) (k : Nat) (a : Addr) : Prop := W.cell? ⟨failG k, 0, none⟩ = some (.iface 306 (.pointer (some a))) ∧ (∃ s : ByteArray, W.cell? a = some (.string s) ∧ s.data.toList = sentT k) ∧ ∃ c t, W.heap[a.block]? = some (.cells c t (0, 0))
theorem start_of {W : World} (h : laidMet Tryz.prog [("almanac/api.FailOff", Rows.laid_almanac_api_FailOff), ("almanac/api.FailName", Rows.laid_almanac_api_FailName), ("almanac/api.FailKind", Rows.laid_almanac_api_FailKind), ("almanac/api.FailMissing", Rows.laid_almanac_api_FailMissing), ("almanac/api.FailExists", Rows.laid_almanac_api_FailExists), ("almanac/api.FailRange", Rows.laid_almanac_api_FailRange), ("almanac/api.FailSpace", Rows.laid_almanac_api_FailSpace)] W) : ∃ a, Start a W := by
  have h2 := laidMet_tail h
  have h3 := laidMet_tail h2
  have h4 := laidMet_tail h3
  have h5 := laidMet_tail h4
  have h6 := laidMet_tail h5
  have h7 := laidMet_tail h6
  obtain ⟨a1, s1, p1, q1, r1, b1⟩ := sent_at h (g := 5) (by kernel_rfl) (by kernel_rfl)
  obtain ⟨a2, s2, p2, q2, r2, b2⟩ := sent_at h2 (g := 6) (by kernel_rfl) (by kernel_rfl)
  obtain ⟨a3, s3, p3, q3, r3, b3⟩ := sent_at h3 (g := 3) (by kernel_rfl) (by kernel_rfl)
  obtain ⟨a4, s4, p4, q4, r4, b4⟩ := sent_at h4 (g := 0) (by kernel_rfl) (by kernel_rfl)
  obtain ⟨a5, s5, p5, q5, r5, b5⟩ := sent_at h5 (g := 1) (by kernel_rfl) (by kernel_rfl)
  obtain ⟨a6, s6, p6, q6, r6, b6⟩ := sent_at h6 (g := 4) (by kernel_rfl) (by kernel_rfl)
  obtain ⟨a7, s7, p7, q7, r7, b7⟩ := sent_at h7 (g := 2) (by kernel_rfl) (by kernel_rfl)
  have hall : ∀ k, SentIs W k (match k with | 1 => a1 | 2 => a2 | 3 => a3 | 4 => a4 | 5 => a5 | 6 => a6 | _ => a7) := by
    intro k
    match k with
    | 1 => exact ⟨p1, ⟨s1, q1, r1⟩, b1⟩
    | 2 => exact ⟨p2, ⟨s2, q2, r2⟩, b2⟩
    | 3 => exact ⟨p3, ⟨s3, q3, r3⟩, b3⟩
    | 4 => exact ⟨p4, ⟨s4, q4, r4⟩, b4⟩
    | 5 => exact ⟨p5, ⟨s5, q5, r5⟩, b5⟩
    | 6 => exact ⟨p6, ⟨s6, q6, r6⟩, b6⟩
    | 0 => exact ⟨p7, ⟨s7, q7, r7⟩, b7⟩
    | _ + 7 => exact ⟨p7, ⟨s7, q7, r7⟩, b7⟩
  obtain ⟨a, hall⟩ : ∃ a : Nat → Addr, ∀ k, SentIs W k (a k) := ⟨_, hall⟩
  clear p1 p2 p3 p4 p5 p6 p7
  refine ⟨a, ⟨⟨fun k _ => ⟨lt_of_cell (hall k).1, (hall k).1⟩, ⟨lt_of_cell (hall 6).1, (hall 6).1⟩, fun k _ _ => ⟨?_, (hall k).2.2⟩⟩, ?_⟩⟩
  · obtain ⟨c, t, e⟩ := (hall k).2.2
    exact (Array.getElem?_eq_some_iff.1 e).1
  · intro i j hi1 hi2 hj1 hj2 hne e
    obtain ⟨si, ci, ti⟩ := (hall i).2.1
    obtain ⟨sj, cj, tj⟩ := (hall j).2.1
    rw [e, cj] at ci
    injection ci with ci
    injection ci with ci
    refine sentT_inj i ?_ j ?_ hne ?_
    · simp; omega
    · simp; omega
    · rw [← ti, ← tj, ci]
end Go.Proofs.YtfpgbhimgfdddaaGreatDoor
