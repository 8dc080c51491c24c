/-
  DERIVED. GIVEN WITH THE SEED: THE PROGRAM's TIES (one call each: nine closed facts by the kernel) AND EACH ROW's TIE, after the 31st guide's Derived/Test/Toyas{Tie, Card}.lean. No idea stands in it: it is a product of the set-up. Laid BY PROGRAM, IN A SANDBOX (cutbox-door.mjs). By AI agents, Wed Nov 11 2026. No macro, syntax, notation, axiom, sorry.
-/
import Derived.Test.YtefpndiiedkmpaaGreatDoorRows
import Derived.LaidByTextLater
import Derived.SevenTiedAt
import Derived.LaidSub
import Derived.LaidOnce
namespace Go.Proofs.YtefpndiiedkmpaaGreatDoor
open Go
set_option maxRecDepth 100000
theorem seatTie1 : Tryz.prog.laidByTextLater [("math/bits.deBruijn64tab", Rows.laid_math_bits_deBruijn64tab), ("almanac/api.FailOff", Rows.laid_almanac_api_FailOff), ("almanac/api.FailName", Rows.laid_almanac_api_FailName), ("almanac/api.FailKind", Rows.laid_almanac_api_FailKind), ("almanac/api.FailMissing", Rows.laid_almanac_api_FailMissing), ("almanac/api.FailExists", Rows.laid_almanac_api_FailExists), ("almanac/api.FailRange", Rows.laid_almanac_api_FailRange), ("almanac/api.FailSpace", Rows.laid_almanac_api_FailSpace), ("almanac/enc.nibbles", Rows.laid_almanac_enc_nibbles)] [.data, .sentinel, .sentinel, .sentinel, .sentinel, .sentinel, .sentinel, .sentinel, .data] true :=
  Program.laidByTextLater_by_one 152 8 65 (by kernel_rfl) (by kernel_rfl) (by kernel_rfl) (by kernel_rfl) (by kernel_rfl) (by kernel_rfl) (fun _ _ => by kernel_rfl)
theorem noOwnUnsafe : Tryz.pinned.checked.prog.headLifts.contains "ownunsafe" = false := by kernel_rfl
theorem tie : Tryz.prog.laidByTextLater [("math/bits.deBruijn64tab", Rows.laid_math_bits_deBruijn64tab), ("almanac/api.FailOff", Rows.laid_almanac_api_FailOff), ("almanac/api.FailName", Rows.laid_almanac_api_FailName), ("almanac/api.FailKind", Rows.laid_almanac_api_FailKind), ("almanac/api.FailMissing", Rows.laid_almanac_api_FailMissing), ("almanac/api.FailExists", Rows.laid_almanac_api_FailExists), ("almanac/api.FailSpace", Rows.laid_almanac_api_FailSpace), ("almanac/enc.nibbles", Rows.laid_almanac_enc_nibbles)] [.data, .sentinel, .sentinel, .sentinel, .sentinel, .sentinel, .sentinel, .data] true :=
  Program.laidByTextLater.sub seatTie1 ["math/bits.deBruijn64tab", "almanac/api.FailOff", "almanac/api.FailName", "almanac/api.FailKind", "almanac/api.FailMissing", "almanac/api.FailExists", "almanac/api.FailSpace", "almanac/enc.nibbles"] (by kernel_rfl) (by kernel_rfl)
theorem ckptBack_row_tie : Rows.ckptBackRow.laidByTextAt .later Tryz.pinned [.data, .sentinel, .sentinel, .sentinel, .sentinel, .sentinel, .sentinel, .data] true :=
  OpenClaim.laidByTextAt_later rfl rfl tie noOwnUnsafe
theorem ckptOne_row_tie : Rows.ckptOneRow.laidByTextAt .later Tryz.pinned [.data, .sentinel, .sentinel, .sentinel, .sentinel, .sentinel, .sentinel, .data] true :=
  OpenClaim.laidByTextAt_later rfl rfl tie noOwnUnsafe
theorem ckptApart_row_tie : Rows.ckptApartRow.laidByTextAt .later Tryz.pinned [.data, .sentinel, .sentinel, .sentinel, .sentinel, .sentinel, .sentinel, .data] true :=
  OpenClaim.laidByTextAt_later rfl rfl tie noOwnUnsafe
theorem ckptFull_row_tie : Rows.ckptFullRow.laidByTextAt .later Tryz.pinned [.data, .sentinel, .sentinel, .sentinel, .sentinel, .sentinel, .sentinel, .data] true :=
  OpenClaim.laidByTextAt_later rfl rfl tie noOwnUnsafe
theorem ckptSwaps_row_tie : Rows.ckptSwapsRow.laidByTextAt .later Tryz.pinned [.data, .sentinel, .sentinel, .sentinel, .sentinel, .sentinel, .sentinel, .data] true :=
  OpenClaim.laidByTextAt_later rfl rfl tie noOwnUnsafe
theorem tie2 : Tryz.prog.laidByTextLater [("math/bits.deBruijn64tab", Rows.laid_math_bits_deBruijn64tab), ("almanac/api.FailOff", Rows.laid_almanac_api_FailOff), ("almanac/api.FailName", Rows.laid_almanac_api_FailName), ("almanac/api.FailKind", Rows.laid_almanac_api_FailKind), ("almanac/api.FailMissing", Rows.laid_almanac_api_FailMissing), ("almanac/api.FailExists", Rows.laid_almanac_api_FailExists), ("almanac/api.FailRange", Rows.laid_almanac_api_FailRange), ("almanac/api.FailSpace", Rows.laid_almanac_api_FailSpace), ("almanac/enc.nibbles", Rows.laid_almanac_enc_nibbles)] [.data, .sentinel, .sentinel, .sentinel, .sentinel, .sentinel, .sentinel, .sentinel, .data] true :=
  Program.laidByTextLater.sub seatTie1 ["math/bits.deBruijn64tab", "almanac/api.FailOff", "almanac/api.FailName", "almanac/api.FailKind", "almanac/api.FailMissing", "almanac/api.FailExists", "almanac/api.FailRange", "almanac/api.FailSpace", "almanac/enc.nibbles"] (by kernel_rfl) (by kernel_rfl)
theorem ckptSpoilt_row_tie : Rows.ckptSpoiltRow.laidByTextAt .later Tryz.pinned [.data, .sentinel, .sentinel, .sentinel, .sentinel, .sentinel, .sentinel, .sentinel, .data] true :=
  OpenClaim.laidByTextAt_later rfl rfl tie2 noOwnUnsafe
theorem ckptBackUpto_row_tie : Rows.ckptBackUptoRow.laidByTextAt .later Tryz.pinned [.data, .sentinel, .sentinel, .sentinel, .sentinel, .sentinel, .sentinel, .data] true :=
  OpenClaim.laidByTextAt_later rfl rfl tie noOwnUnsafe
theorem ckptOneUpto_row_tie : Rows.ckptOneUptoRow.laidByTextAt .later Tryz.pinned [.data, .sentinel, .sentinel, .sentinel, .sentinel, .sentinel, .sentinel, .data] true :=
  OpenClaim.laidByTextAt_later rfl rfl tie noOwnUnsafe
theorem ckptApartUpto_row_tie : Rows.ckptApartUptoRow.laidByTextAt .later Tryz.pinned [.data, .sentinel, .sentinel, .sentinel, .sentinel, .sentinel, .sentinel, .data] true :=
  OpenClaim.laidByTextAt_later rfl rfl tie noOwnUnsafe
theorem ckptSpoiltUpto_row_tie : Rows.ckptSpoiltUptoRow.laidByTextAt .later Tryz.pinned [.data, .sentinel, .sentinel, .sentinel, .sentinel, .sentinel, .sentinel, .sentinel, .data] true :=
  OpenClaim.laidByTextAt_later rfl rfl tie2 noOwnUnsafe
theorem ckptFullUpto_row_tie : Rows.ckptFullUptoRow.laidByTextAt .later Tryz.pinned [.data, .sentinel, .sentinel, .sentinel, .sentinel, .sentinel, .sentinel, .data] true :=
  OpenClaim.laidByTextAt_later rfl rfl tie noOwnUnsafe
theorem ckptSwapsUpto_row_tie : Rows.ckptSwapsUptoRow.laidByTextAt .later Tryz.pinned [.data, .sentinel, .sentinel, .sentinel, .sentinel, .sentinel, .sentinel, .data] true :=
  OpenClaim.laidByTextAt_later rfl rfl tie noOwnUnsafe
end Go.Proofs.YtefpndiiedkmpaaGreatDoor
