/-
  DERIVED. GIVEN WITH THE SEED: THE CARDS: each row of YtdiiafgoccakkaaGreatDoorRows.lean that lists a variable, with what it lists TIED to the program's text (the seventh form; the later family's looks); each row that meets fmt, with fmt's text TOLD by the authors' own Lean function (tested against real Go, not proved from fmt's source: count such statements apart). THE CARD IS WHAT COUNTS. Prove the row's statement (the work); the ties are given (YtdiiafgoccakkaaGreatDoorTie.lean); close each card by the builder's one call (the guide's Derived/Test/ToyasCard.lean, 'card_holds'). Laid BY PROGRAM, IN A SANDBOX (cutbox-door.mjs). By AI agents, Wed Nov 11 2026. No macro, syntax, notation, axiom, sorry.
-/
import Derived.Test.YtdiiafgoccakkaaGreatDoorRows
import GoSem.ClaimSeven
namespace Go.Proofs.YtdiiafgoccakkaaGreatDoor
namespace Rows

/-- THE TIED CARD OF 'modcertlaw52.StoreChecks'. -/
def storeChecksCard : Claim7 := { stood := { row := storeChecksRow, standIns := [], harness := (true, "e8d6f0e2032cb87fd394fcf342e40e71521d8ac1fe6cc4ddc68f875f5c6f5a04"), looks := true }, kinds := [], alts := [], laidByText := true, laidKinds := [.data, .pinned], laidTests := true, laidLooks := .later }
def StoreChecksCardSaid : Prop := Claim7.holds Tryz.pinned (.plain (OpenSpec.ofChange storeChecksSpec)) storeChecksCard

/-- THE TIED CARD OF 'modcertlaw52.StoreOpens'. -/
def storeOpensCard : Claim7 := { stood := { row := storeOpensRow, standIns := [], harness := (true, "e8d6f0e2032cb87fd394fcf342e40e71521d8ac1fe6cc4ddc68f875f5c6f5a04"), looks := true }, kinds := [], alts := [], laidByText := true, laidKinds := [.data, .pinned], laidTests := true, laidLooks := .later }
def StoreOpensCardSaid : Prop := Claim7.holds Tryz.pinned (.plain (OpenSpec.ofChange storeOpensSpec)) storeOpensCard

/-- THE TIED CARD OF 'modcertlaw52.StoreKeeps'. -/
def storeKeepsCard : Claim7 := { stood := { row := storeKeepsRow, standIns := [], harness := (true, "e8d6f0e2032cb87fd394fcf342e40e71521d8ac1fe6cc4ddc68f875f5c6f5a04"), looks := true }, kinds := [], alts := [], laidByText := true, laidKinds := [.data, .pinned], laidTests := true, laidLooks := .later }
def StoreKeepsCardSaid : Prop := Claim7.holds Tryz.pinned (.plain (OpenSpec.ofChange storeKeepsSpec)) storeKeepsCard

/-- THE SECOND FORM's CARD OF 'modcertlaw52.StoreChecks'. -/
def storeChecksUptoCard : Claim7 := { stood := { row := storeChecksUptoRow, standIns := [], harness := (true, "e8d6f0e2032cb87fd394fcf342e40e71521d8ac1fe6cc4ddc68f875f5c6f5a04"), looks := true }, kinds := [], alts := [], laidByText := true, laidKinds := [.data, .pinned], laidTests := true, laidLooks := .later }
def StoreChecksUptoCardSaid : Prop := Claim7.holds Tryz.pinned (.plain (OpenSpec.upto storeChecksSpec)) storeChecksUptoCard

/-- THE SECOND FORM's CARD OF 'modcertlaw52.StoreOpens'. -/
def storeOpensUptoCard : Claim7 := { stood := { row := storeOpensUptoRow, standIns := [], harness := (true, "e8d6f0e2032cb87fd394fcf342e40e71521d8ac1fe6cc4ddc68f875f5c6f5a04"), looks := true }, kinds := [], alts := [], laidByText := true, laidKinds := [.data, .pinned], laidTests := true, laidLooks := .later }
def StoreOpensUptoCardSaid : Prop := Claim7.holds Tryz.pinned (.plain (OpenSpec.upto storeOpensSpec)) storeOpensUptoCard

/-- THE SECOND FORM's CARD OF 'modcertlaw52.StoreKeeps'. -/
def storeKeepsUptoCard : Claim7 := { stood := { row := storeKeepsUptoRow, standIns := [], harness := (true, "e8d6f0e2032cb87fd394fcf342e40e71521d8ac1fe6cc4ddc68f875f5c6f5a04"), looks := true }, kinds := [], alts := [], laidByText := true, laidKinds := [.data, .pinned], laidTests := true, laidLooks := .later }
def StoreKeepsUptoCardSaid : Prop := Claim7.holds Tryz.pinned (.plain (OpenSpec.upto storeKeepsSpec)) storeKeepsUptoCard
end Rows
end Go.Proofs.YtdiiafgoccakkaaGreatDoor
