/- What DiskSafe's list gives: six failures' variables; a world for its witness. -/
import Derived.Test.YtdaidbnbfjgjeaaGreatDoorDsa32
import Derived.Test.YtdaidbnbfjgjeaaGreatDoorRows
set_option linter.unusedVariables false
set_option linter.unusedSimpArgs false
namespace Go.Proofs.YtdaidbnbfjgjeaaGreatDoor
open Go.ChangeShapes Go.WideShapes Go.ChangeAt Go.RowKit Go.ChangeMaps

theorem fails_of {W : World} (h : laidMet Tryz.prog [("almanac/api.FailOff", Rows.laid_almanac_api_FailOff), ("almanac/api.FailName", Rows.laid_almanac_api_FailName), ("almanac/api.FailKind", Rows.laid_almanac_api_FailKind), ("almanac/api.FailMissing", Rows.laid_almanac_api_FailMissing), ("almanac/api.FailExists", Rows.laid_almanac_api_FailExists), ("almanac/api.FailSpace", Rows.laid_almanac_api_FailSpace)] W) : ∃ a, Fails W.heap.size a W := by
  have h2 := laidMet_tail h
  have h3 := laidMet_tail h2
  have h4 := laidMet_tail h3
  have h5 := laidMet_tail h4
  have h7 := laidMet_tail h5
  obtain ⟨a1, s1, p1, q1, r1, b1⟩ := sent_at h (g := 4) (by kernel_rfl) (by kernel_rfl)
  obtain ⟨a2, s2, p2, q2, r2, b2⟩ := sent_at h2 (g := 5) (by kernel_rfl) (by kernel_rfl)
  obtain ⟨a3, s3, p3, q3, r3, b3⟩ := sent_at h3 (g := 3) (by kernel_rfl) (by kernel_rfl)
  obtain ⟨a4, s4, p4, q4, r4, b4⟩ := sent_at h4 (g := 1) (by kernel_rfl) (by kernel_rfl)
  obtain ⟨a5, s5, p5, q5, r5, b5⟩ := sent_at h5 (g := 0) (by kernel_rfl) (by kernel_rfl)
  obtain ⟨a7, s7, p7, q7, r7, b7⟩ := sent_at h7 (g := 2) (by kernel_rfl) (by kernel_rfl)
  have hall : ∀ k, k ≠ 6 → W.cell? ⟨failG k, 0, none⟩ = some (.iface 199 (.pointer (some (match k with | 1 => a1 | 2 => a2 | 3 => a3 | 4 => a4 | 5 => a5 | _ => a7)))) := by
    intro k hk
    match k with
    | 1 => exact p1
    | 2 => exact p2
    | 3 => exact p3
    | 4 => exact p4
    | 5 => exact p5
    | 6 => exact absurd rfl hk
    | 0 => exact p7
    | _ + 7 => exact p7
  exact ⟨_, fun k hk => ⟨lt_of_cell (hall k hk), hall k hk⟩⟩
set_option maxRecDepth 1000000 in
theorem laid_met6 (os : Os) (args : Array Value) : laidMet Tryz.prog Rows.diskSafeRow.laid ((laidWorld os).forCall (fun _ _ => 0) ⟨#[], args, []⟩).memory :=
  laidMet_of_run' 8 (by kernel_rfl) (by kernel_rfl)
end Go.Proofs.YtdaidbnbfjgjeaaGreatDoor
