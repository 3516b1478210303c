/-
  DERIVED. GIVEN WITH THE SEED: THE CARDS: each row of YtjlmglgmcekmhaaGreatDoorRows.lean that lists a variable, with what it lists TIED to the program's text (the seventh form; the later family's looks); each row that meets fmt, with fmt's text TOLD by the authors' own Lean function (tested against real Go, not proved from fmt's source: count such statements apart). THE CARD IS WHAT COUNTS. Prove the row's statement (the work); the ties are given (YtjlmglgmcekmhaaGreatDoorTie.lean); close each card by the builder's one call (the guide's Derived/Test/ToyasCard.lean, 'card_holds'). Laid BY PROGRAM, IN A SANDBOX (cutbox-door.mjs). By AI agents, Wed Nov 11 2026. No macro, syntax, notation, axiom, sorry.
-/
import Derived.Test.YtjlmglgmcekmhaaGreatDoorRows
import GoSem.ClaimSeven
namespace Go.Proofs.YtjlmglgmcekmhaaGreatDoor
namespace Rows

/-- THE TIED CARD OF 'modcertlaw53.OwnersApplies'. -/
def ownersAppliesCard : Claim7 := { stood := { row := ownersAppliesRow, standIns := [], harness := (true, "263f77d6c1341399e33538ca4a0a3a89ae09e1ccaaad6e84070411b5caa3f78c"), looks := false }, kinds := [], alts := [], laidByText := true, laidKinds := [.data, .pinned], laidTests := true, laidLooks := .later }
def OwnersAppliesCardSaid : Prop := Claim7.holds Tryz.pinned (.plain (OpenSpec.ofChange ownersAppliesSpec)) ownersAppliesCard

/-- THE TIED CARD OF 'modcertlaw53.OwnersBytes'. -/
def ownersBytesCard : Claim7 := { stood := { row := ownersBytesRow, standIns := [], harness := (true, "263f77d6c1341399e33538ca4a0a3a89ae09e1ccaaad6e84070411b5caa3f78c"), looks := false }, kinds := [], alts := [], laidByText := true, laidKinds := [.data, .pinned], laidTests := true, laidLooks := .later }
def OwnersBytesCardSaid : Prop := Claim7.holds Tryz.pinned (.plain (OpenSpec.ofChange ownersBytesSpec)) ownersBytesCard

/-- THE TIED CARD OF 'modcertlaw53.OwnersNearest'. -/
def ownersNearestCard : Claim7 := { stood := { row := ownersNearestRow, standIns := [], harness := (true, "263f77d6c1341399e33538ca4a0a3a89ae09e1ccaaad6e84070411b5caa3f78c"), looks := false }, kinds := [], alts := [], laidByText := true, laidKinds := [.data, .pinned], laidTests := true, laidLooks := .later }
def OwnersNearestCardSaid : Prop := Claim7.holds Tryz.pinned (.plain (OpenSpec.ofChange ownersNearestSpec)) ownersNearestCard

/-- THE TIED CARD OF 'modcertlaw53.OwnersStays'. -/
def ownersStaysCard : Claim7 := { stood := { row := ownersStaysRow, standIns := [], harness := (true, "263f77d6c1341399e33538ca4a0a3a89ae09e1ccaaad6e84070411b5caa3f78c"), looks := false }, kinds := [], alts := [], laidByText := true, laidKinds := [.data, .pinned], laidTests := true, laidLooks := .later }
def OwnersStaysCardSaid : Prop := Claim7.holds Tryz.pinned (.plain (OpenSpec.ofChange ownersStaysSpec)) ownersStaysCard

/-- THE TIED CARD OF 'modcertlaw53.OwnersApproves'. -/
def ownersApprovesCard : Claim7 := { stood := { row := ownersApprovesRow, standIns := [], harness := (true, "263f77d6c1341399e33538ca4a0a3a89ae09e1ccaaad6e84070411b5caa3f78c"), looks := false }, kinds := [], alts := [], laidByText := true, laidKinds := [.data, .pinned], laidTests := true, laidLooks := .later }
def OwnersApprovesCardSaid : Prop := Claim7.holds Tryz.pinned (.plain (OpenSpec.ofChange ownersApprovesSpec)) ownersApprovesCard

/-- THE TIED CARD OF 'modcertlaw53.OwnersQuorum'. -/
def ownersQuorumCard : Claim7 := { stood := { row := ownersQuorumRow, standIns := [], harness := (true, "263f77d6c1341399e33538ca4a0a3a89ae09e1ccaaad6e84070411b5caa3f78c"), looks := false }, kinds := [], alts := [], laidByText := true, laidKinds := [.data, .pinned], laidTests := true, laidLooks := .later }
def OwnersQuorumCardSaid : Prop := Claim7.holds Tryz.pinned (.plain (OpenSpec.ofChange ownersQuorumSpec)) ownersQuorumCard

/-- THE TIED CARD OF 'modcertlaw53.OwnersOnce'. -/
def ownersOnceCard : Claim7 := { stood := { row := ownersOnceRow, standIns := [], harness := (true, "263f77d6c1341399e33538ca4a0a3a89ae09e1ccaaad6e84070411b5caa3f78c"), looks := false }, kinds := [], alts := [], laidByText := true, laidKinds := [.data, .pinned], laidTests := true, laidLooks := .later }
def OwnersOnceCardSaid : Prop := Claim7.holds Tryz.pinned (.plain (OpenSpec.ofChange ownersOnceSpec)) ownersOnceCard

/-- THE TIED CARD OF 'modcertlaw53.OwnersRotates'. -/
def ownersRotatesCard : Claim7 := { stood := { row := ownersRotatesRow, standIns := [], harness := (true, "263f77d6c1341399e33538ca4a0a3a89ae09e1ccaaad6e84070411b5caa3f78c"), looks := false }, kinds := [], alts := [], laidByText := true, laidKinds := [.data, .pinned], laidTests := true, laidLooks := .later }
def OwnersRotatesCardSaid : Prop := Claim7.holds Tryz.pinned (.plain (OpenSpec.ofChange ownersRotatesSpec)) ownersRotatesCard

/-- THE SECOND FORM's CARD OF 'modcertlaw53.OwnersApplies'. -/
def ownersAppliesUptoCard : Claim7 := { stood := { row := ownersAppliesUptoRow, standIns := [], harness := (true, "263f77d6c1341399e33538ca4a0a3a89ae09e1ccaaad6e84070411b5caa3f78c"), looks := false }, kinds := [], alts := [], laidByText := true, laidKinds := [.data, .pinned], laidTests := true, laidLooks := .later }
def OwnersAppliesUptoCardSaid : Prop := Claim7.holds Tryz.pinned (.plain (OpenSpec.upto ownersAppliesSpec)) ownersAppliesUptoCard

/-- THE SECOND FORM's CARD OF 'modcertlaw53.OwnersBytes'. -/
def ownersBytesUptoCard : Claim7 := { stood := { row := ownersBytesUptoRow, standIns := [], harness := (true, "263f77d6c1341399e33538ca4a0a3a89ae09e1ccaaad6e84070411b5caa3f78c"), looks := false }, kinds := [], alts := [], laidByText := true, laidKinds := [.data, .pinned], laidTests := true, laidLooks := .later }
def OwnersBytesUptoCardSaid : Prop := Claim7.holds Tryz.pinned (.plain (OpenSpec.upto ownersBytesSpec)) ownersBytesUptoCard

/-- THE SECOND FORM's CARD OF 'modcertlaw53.OwnersNearest'. -/
def ownersNearestUptoCard : Claim7 := { stood := { row := ownersNearestUptoRow, standIns := [], harness := (true, "263f77d6c1341399e33538ca4a0a3a89ae09e1ccaaad6e84070411b5caa3f78c"), looks := false }, kinds := [], alts := [], laidByText := true, laidKinds := [.data, .pinned], laidTests := true, laidLooks := .later }
def OwnersNearestUptoCardSaid : Prop := Claim7.holds Tryz.pinned (.plain (OpenSpec.upto ownersNearestSpec)) ownersNearestUptoCard

/-- THE SECOND FORM's CARD OF 'modcertlaw53.OwnersStays'. -/
def ownersStaysUptoCard : Claim7 := { stood := { row := ownersStaysUptoRow, standIns := [], harness := (true, "263f77d6c1341399e33538ca4a0a3a89ae09e1ccaaad6e84070411b5caa3f78c"), looks := false }, kinds := [], alts := [], laidByText := true, laidKinds := [.data, .pinned], laidTests := true, laidLooks := .later }
def OwnersStaysUptoCardSaid : Prop := Claim7.holds Tryz.pinned (.plain (OpenSpec.upto ownersStaysSpec)) ownersStaysUptoCard

/-- THE SECOND FORM's CARD OF 'modcertlaw53.OwnersApproves'. -/
def ownersApprovesUptoCard : Claim7 := { stood := { row := ownersApprovesUptoRow, standIns := [], harness := (true, "263f77d6c1341399e33538ca4a0a3a89ae09e1ccaaad6e84070411b5caa3f78c"), looks := false }, kinds := [], alts := [], laidByText := true, laidKinds := [.data, .pinned], laidTests := true, laidLooks := .later }
def OwnersApprovesUptoCardSaid : Prop := Claim7.holds Tryz.pinned (.plain (OpenSpec.upto ownersApprovesSpec)) ownersApprovesUptoCard

/-- THE SECOND FORM's CARD OF 'modcertlaw53.OwnersQuorum'. -/
def ownersQuorumUptoCard : Claim7 := { stood := { row := ownersQuorumUptoRow, standIns := [], harness := (true, "263f77d6c1341399e33538ca4a0a3a89ae09e1ccaaad6e84070411b5caa3f78c"), looks := false }, kinds := [], alts := [], laidByText := true, laidKinds := [.data, .pinned], laidTests := true, laidLooks := .later }
def OwnersQuorumUptoCardSaid : Prop := Claim7.holds Tryz.pinned (.plain (OpenSpec.upto ownersQuorumSpec)) ownersQuorumUptoCard

/-- THE SECOND FORM's CARD OF 'modcertlaw53.OwnersOnce'. -/
def ownersOnceUptoCard : Claim7 := { stood := { row := ownersOnceUptoRow, standIns := [], harness := (true, "263f77d6c1341399e33538ca4a0a3a89ae09e1ccaaad6e84070411b5caa3f78c"), looks := false }, kinds := [], alts := [], laidByText := true, laidKinds := [.data, .pinned], laidTests := true, laidLooks := .later }
def OwnersOnceUptoCardSaid : Prop := Claim7.holds Tryz.pinned (.plain (OpenSpec.upto ownersOnceSpec)) ownersOnceUptoCard

/-- THE SECOND FORM's CARD OF 'modcertlaw53.OwnersRotates'. -/
def ownersRotatesUptoCard : Claim7 := { stood := { row := ownersRotatesUptoRow, standIns := [], harness := (true, "263f77d6c1341399e33538ca4a0a3a89ae09e1ccaaad6e84070411b5caa3f78c"), looks := false }, kinds := [], alts := [], laidByText := true, laidKinds := [.data, .pinned], laidTests := true, laidLooks := .later }
def OwnersRotatesUptoCardSaid : Prop := Claim7.holds Tryz.pinned (.plain (OpenSpec.upto ownersRotatesSpec)) ownersRotatesUptoCard
end Rows
end Go.Proofs.YtjlmglgmcekmhaaGreatDoor
