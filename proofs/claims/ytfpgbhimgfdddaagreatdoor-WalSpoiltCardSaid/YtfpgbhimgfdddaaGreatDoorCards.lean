/-
  DERIVED. GIVEN WITH THE SEED: THE CARDS: each row of YtfpgbhimgfdddaaGreatDoorRows.lean that lists a variable, with what it lists TIED to the program's text (the seventh form; the later family's looks); each row that meets fmt, with fmt's text TOLD by the authors' own Lean function (tested against real Go, not proved from fmt's source: count such statements apart). THE CARD IS WHAT COUNTS. Prove the row's statement (the work); the ties are given (YtfpgbhimgfdddaaGreatDoorTie.lean); close each card by the builder's one call (the guide's Derived/Test/ToyasCard.lean, 'card_holds'). Laid BY PROGRAM, IN A SANDBOX (cutbox-door.mjs). By AI agents, Wed Nov 11 2026. No macro, syntax, notation, axiom, sorry.
-/
import Derived.Test.YtfpgbhimgfdddaaGreatDoorRows
import GoSem.ClaimSeven
namespace Go.Proofs.YtfpgbhimgfdddaaGreatDoor
namespace Rows

/-- THE TIED CARD OF 'almanaclaw20.StoreBack'. -/
def storeBackCard : Claim7 := { stood := { row := storeBackRow, standIns := [], harness := (true, "726950984492c71da34e8d2526ee2e3b61fbd1b22492589fe017722e98cb1c53"), looks := true }, kinds := [], alts := [], laidByText := true, laidKinds := [.data, .data, .data, .sentinel, .sentinel, .sentinel, .sentinel, .sentinel, .sentinel, .data], laidTests := true, laidLooks := .later }
def StoreBackCardSaid : Prop := Claim7.holds Tryz.pinned (.plain (OpenSpec.ofChange storeBackSpec)) storeBackCard

/-- THE TIED CARD OF 'almanaclaw20.StoreOne'. -/
def storeOneCard : Claim7 := { stood := { row := storeOneRow, standIns := [], harness := (true, "726950984492c71da34e8d2526ee2e3b61fbd1b22492589fe017722e98cb1c53"), looks := true }, kinds := [], alts := [], laidByText := true, laidKinds := [.data, .data, .data, .sentinel, .sentinel, .sentinel, .sentinel, .sentinel, .sentinel, .data], laidTests := true, laidLooks := .later }
def StoreOneCardSaid : Prop := Claim7.holds Tryz.pinned (.plain (OpenSpec.ofChange storeOneSpec)) storeOneCard

/-- THE TIED CARD OF 'almanaclaw20.StoreSaves'. -/
def storeSavesCard : Claim7 := { stood := { row := storeSavesRow, standIns := [], harness := (true, "726950984492c71da34e8d2526ee2e3b61fbd1b22492589fe017722e98cb1c53"), looks := true }, kinds := [], alts := [], laidByText := true, laidKinds := [.data, .data, .data, .sentinel, .sentinel, .sentinel, .sentinel, .sentinel, .sentinel, .data], laidTests := true, laidLooks := .later }
def StoreSavesCardSaid : Prop := Claim7.holds Tryz.pinned (.plain (OpenSpec.ofChange storeSavesSpec)) storeSavesCard

/-- THE TIED CARD OF 'almanaclaw20.StoreFull'. -/
def storeFullCard : Claim7 := { stood := { row := storeFullRow, standIns := [], harness := (true, "726950984492c71da34e8d2526ee2e3b61fbd1b22492589fe017722e98cb1c53"), looks := true }, kinds := [], alts := [], laidByText := true, laidKinds := [.data, .data, .data, .sentinel, .sentinel, .sentinel, .sentinel, .sentinel, .sentinel, .data], laidTests := true, laidLooks := .later }
def StoreFullCardSaid : Prop := Claim7.holds Tryz.pinned (.plain (OpenSpec.ofChange storeFullSpec)) storeFullCard

/-- THE TIED CARD OF 'almanaclaw16.WalSpoilt'. -/
def walSpoiltCard : Claim7 := { stood := { row := walSpoiltRow, standIns := [], harness := (true, "726950984492c71da34e8d2526ee2e3b61fbd1b22492589fe017722e98cb1c53"), looks := true }, kinds := [], alts := [], laidByText := true, laidKinds := [.data, .data, .data, .data, .sentinel, .sentinel, .sentinel, .sentinel, .sentinel, .sentinel, .sentinel, .sentinel, .sentinel, .data, .pinned], laidTests := true, laidLooks := .later }
def WalSpoiltCardSaid : Prop := Claim7.holds Tryz.pinned (.plain (OpenSpec.ofChange walSpoiltSpec)) walSpoiltCard

/-- THE TIED CARD OF 'almanaclaw16.WalKeeps'. -/
def walKeepsCard : Claim7 := { stood := { row := walKeepsRow, standIns := [], harness := (true, "726950984492c71da34e8d2526ee2e3b61fbd1b22492589fe017722e98cb1c53"), looks := true }, kinds := [], alts := [], laidByText := true, laidKinds := [.data, .data, .data, .data, .sentinel, .sentinel, .sentinel, .sentinel, .sentinel, .sentinel, .sentinel, .sentinel, .sentinel, .data, .pinned], laidTests := true, laidLooks := .later }
def WalKeepsCardSaid : Prop := Claim7.holds Tryz.pinned (.plain (OpenSpec.ofChange walKeepsSpec)) walKeepsCard

/-- THE TIED CARD OF 'almanaclaw16.WalRefuses'. -/
def walRefusesCard : Claim7 := { stood := { row := walRefusesRow, standIns := [], harness := (true, "726950984492c71da34e8d2526ee2e3b61fbd1b22492589fe017722e98cb1c53"), looks := true }, kinds := [], alts := [], laidByText := true, laidKinds := [.data, .data, .data, .data, .sentinel, .sentinel, .sentinel, .sentinel, .sentinel, .sentinel, .sentinel, .sentinel, .sentinel, .data, .pinned], laidTests := true, laidLooks := .later }
def WalRefusesCardSaid : Prop := Claim7.holds Tryz.pinned (.plain (OpenSpec.ofChange walRefusesSpec)) walRefusesCard

/-- THE SECOND FORM's CARD OF 'almanaclaw20.StoreBack'. -/
def storeBackUptoCard : Claim7 := { stood := { row := storeBackUptoRow, standIns := [], harness := (true, "726950984492c71da34e8d2526ee2e3b61fbd1b22492589fe017722e98cb1c53"), looks := true }, kinds := [], alts := [], laidByText := true, laidKinds := [.data, .data, .data, .sentinel, .sentinel, .sentinel, .sentinel, .sentinel, .sentinel, .data], laidTests := true, laidLooks := .later }
def StoreBackUptoCardSaid : Prop := Claim7.holds Tryz.pinned (.plain (OpenSpec.upto storeBackSpec)) storeBackUptoCard

/-- THE SECOND FORM's CARD OF 'almanaclaw20.StoreOne'. -/
def storeOneUptoCard : Claim7 := { stood := { row := storeOneUptoRow, standIns := [], harness := (true, "726950984492c71da34e8d2526ee2e3b61fbd1b22492589fe017722e98cb1c53"), looks := true }, kinds := [], alts := [], laidByText := true, laidKinds := [.data, .data, .data, .sentinel, .sentinel, .sentinel, .sentinel, .sentinel, .sentinel, .data], laidTests := true, laidLooks := .later }
def StoreOneUptoCardSaid : Prop := Claim7.holds Tryz.pinned (.plain (OpenSpec.upto storeOneSpec)) storeOneUptoCard

/-- THE SECOND FORM's CARD OF 'almanaclaw20.StoreSaves'. -/
def storeSavesUptoCard : Claim7 := { stood := { row := storeSavesUptoRow, standIns := [], harness := (true, "726950984492c71da34e8d2526ee2e3b61fbd1b22492589fe017722e98cb1c53"), looks := true }, kinds := [], alts := [], laidByText := true, laidKinds := [.data, .data, .data, .sentinel, .sentinel, .sentinel, .sentinel, .sentinel, .sentinel, .data], laidTests := true, laidLooks := .later }
def StoreSavesUptoCardSaid : Prop := Claim7.holds Tryz.pinned (.plain (OpenSpec.upto storeSavesSpec)) storeSavesUptoCard

/-- THE SECOND FORM's CARD OF 'almanaclaw20.StoreFull'. -/
def storeFullUptoCard : Claim7 := { stood := { row := storeFullUptoRow, standIns := [], harness := (true, "726950984492c71da34e8d2526ee2e3b61fbd1b22492589fe017722e98cb1c53"), looks := true }, kinds := [], alts := [], laidByText := true, laidKinds := [.data, .data, .data, .sentinel, .sentinel, .sentinel, .sentinel, .sentinel, .sentinel, .data], laidTests := true, laidLooks := .later }
def StoreFullUptoCardSaid : Prop := Claim7.holds Tryz.pinned (.plain (OpenSpec.upto storeFullSpec)) storeFullUptoCard

/-- THE SECOND FORM's CARD OF 'almanaclaw16.WalSpoilt'. -/
def walSpoiltUptoCard : Claim7 := { stood := { row := walSpoiltUptoRow, standIns := [], harness := (true, "726950984492c71da34e8d2526ee2e3b61fbd1b22492589fe017722e98cb1c53"), looks := true }, kinds := [], alts := [], laidByText := true, laidKinds := [.data, .data, .data, .data, .sentinel, .sentinel, .sentinel, .sentinel, .sentinel, .sentinel, .sentinel, .sentinel, .sentinel, .data, .pinned], laidTests := true, laidLooks := .later }
def WalSpoiltUptoCardSaid : Prop := Claim7.holds Tryz.pinned (.plain (OpenSpec.upto walSpoiltSpec)) walSpoiltUptoCard

/-- THE SECOND FORM's CARD OF 'almanaclaw16.WalKeeps'. -/
def walKeepsUptoCard : Claim7 := { stood := { row := walKeepsUptoRow, standIns := [], harness := (true, "726950984492c71da34e8d2526ee2e3b61fbd1b22492589fe017722e98cb1c53"), looks := true }, kinds := [], alts := [], laidByText := true, laidKinds := [.data, .data, .data, .data, .sentinel, .sentinel, .sentinel, .sentinel, .sentinel, .sentinel, .sentinel, .sentinel, .sentinel, .data, .pinned], laidTests := true, laidLooks := .later }
def WalKeepsUptoCardSaid : Prop := Claim7.holds Tryz.pinned (.plain (OpenSpec.upto walKeepsSpec)) walKeepsUptoCard

/-- THE SECOND FORM's CARD OF 'almanaclaw16.WalRefuses'. -/
def walRefusesUptoCard : Claim7 := { stood := { row := walRefusesUptoRow, standIns := [], harness := (true, "726950984492c71da34e8d2526ee2e3b61fbd1b22492589fe017722e98cb1c53"), looks := true }, kinds := [], alts := [], laidByText := true, laidKinds := [.data, .data, .data, .data, .sentinel, .sentinel, .sentinel, .sentinel, .sentinel, .sentinel, .sentinel, .sentinel, .sentinel, .data, .pinned], laidTests := true, laidLooks := .later }
def WalRefusesUptoCardSaid : Prop := Claim7.holds Tryz.pinned (.plain (OpenSpec.upto walRefusesSpec)) walRefusesUptoCard
end Rows
end Go.Proofs.YtfpgbhimgfdddaaGreatDoor
