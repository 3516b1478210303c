/-
  DERIVED. GIVEN WITH THE SEED: THE CARDS: each row of YtnijhlphcjjpbaaGreatDoorRows.lean that lists a variable, with what it lists TIED to the program's text (the seventh form; the later family's looks); each row that meets fmt, with fmt's text TOLD by the authors' own Lean function (tested against real Go, not proved from fmt's source: count such statements apart). THE CARD IS WHAT COUNTS. Prove the row's statement (the work); the ties are given (YtnijhlphcjjpbaaGreatDoorTie.lean); close each card by the builder's one call (the guide's Derived/Test/ToyasCard.lean, 'card_holds'). Laid BY PROGRAM, IN A SANDBOX (cutbox-door.mjs). By AI agents, Wed Nov 11 2026. No macro, syntax, notation, axiom, sorry.
-/
import Derived.Test.YtnijhlphcjjpbaaGreatDoorRows
import GoSem.ClaimSeven
namespace Go.Proofs.YtnijhlphcjjpbaaGreatDoor
namespace Rows

/-- THE TIED CARD OF 'modcertlaw54.ReviewQueues'. -/
def reviewQueuesCard : Claim7 := { stood := { row := reviewQueuesRow, standIns := [], harness := (true, "e401bb220c5ed6cf62ebbd82da435d314220a2e80f46d8ab13f5feaa3ea89b9e"), looks := false }, kinds := [], alts := [], laidByText := true, laidKinds := [.data, .pinned], laidTests := true, laidLooks := .later }
def ReviewQueuesCardSaid : Prop := Claim7.holds Tryz.pinned (.plain (OpenSpec.ofChange reviewQueuesSpec)) reviewQueuesCard

/-- THE TIED CARD OF 'modcertlaw54.ReviewVotes'. -/
def reviewVotesCard : Claim7 := { stood := { row := reviewVotesRow, standIns := [], harness := (true, "e401bb220c5ed6cf62ebbd82da435d314220a2e80f46d8ab13f5feaa3ea89b9e"), looks := false }, kinds := [], alts := [], laidByText := true, laidKinds := [.data, .pinned], laidTests := true, laidLooks := .later }
def ReviewVotesCardSaid : Prop := Claim7.holds Tryz.pinned (.plain (OpenSpec.ofChange reviewVotesSpec)) reviewVotesCard

/-- THE TIED CARD OF 'modcertlaw54.ReviewMerges'. -/
def reviewMergesCard : Claim7 := { stood := { row := reviewMergesRow, standIns := [], harness := (true, "e401bb220c5ed6cf62ebbd82da435d314220a2e80f46d8ab13f5feaa3ea89b9e"), looks := false }, kinds := [], alts := [], laidByText := true, laidKinds := [.data, .pinned], laidTests := true, laidLooks := .later }
def ReviewMergesCardSaid : Prop := Claim7.holds Tryz.pinned (.plain (OpenSpec.ofChange reviewMergesSpec)) reviewMergesCard

/-- THE TIED CARD OF 'modcertlaw54.ReviewDecides'. -/
def reviewDecidesCard : Claim7 := { stood := { row := reviewDecidesRow, standIns := [], harness := (true, "e401bb220c5ed6cf62ebbd82da435d314220a2e80f46d8ab13f5feaa3ea89b9e"), looks := false }, kinds := [], alts := [], laidByText := true, laidKinds := [.data, .pinned], laidTests := true, laidLooks := .later }
def ReviewDecidesCardSaid : Prop := Claim7.holds Tryz.pinned (.plain (OpenSpec.ofChange reviewDecidesSpec)) reviewDecidesCard

/-- THE TIED CARD OF 'modcertlaw54.ReviewOnce'. -/
def reviewOnceCard : Claim7 := { stood := { row := reviewOnceRow, standIns := [], harness := (true, "e401bb220c5ed6cf62ebbd82da435d314220a2e80f46d8ab13f5feaa3ea89b9e"), looks := false }, kinds := [], alts := [], laidByText := true, laidKinds := [.data, .pinned], laidTests := true, laidLooks := .later }
def ReviewOnceCardSaid : Prop := Claim7.holds Tryz.pinned (.plain (OpenSpec.ofChange reviewOnceSpec)) reviewOnceCard

/-- THE TIED CARD OF 'modcertlaw54.ReviewMembers'. -/
def reviewMembersCard : Claim7 := { stood := { row := reviewMembersRow, standIns := [], harness := (true, "e401bb220c5ed6cf62ebbd82da435d314220a2e80f46d8ab13f5feaa3ea89b9e"), looks := false }, kinds := [], alts := [], laidByText := true, laidKinds := [.data, .pinned], laidTests := true, laidLooks := .later }
def ReviewMembersCardSaid : Prop := Claim7.holds Tryz.pinned (.plain (OpenSpec.ofChange reviewMembersSpec)) reviewMembersCard

/-- THE TIED CARD OF 'modcertlaw54.ReviewOrder'. -/
def reviewOrderCard : Claim7 := { stood := { row := reviewOrderRow, standIns := [], harness := (true, "e401bb220c5ed6cf62ebbd82da435d314220a2e80f46d8ab13f5feaa3ea89b9e"), looks := false }, kinds := [], alts := [], laidByText := true, laidKinds := [.data, .pinned], laidTests := true, laidLooks := .later }
def ReviewOrderCardSaid : Prop := Claim7.holds Tryz.pinned (.plain (OpenSpec.ofChange reviewOrderSpec)) reviewOrderCard

/-- THE SECOND FORM's CARD OF 'modcertlaw54.ReviewQueues'. -/
def reviewQueuesUptoCard : Claim7 := { stood := { row := reviewQueuesUptoRow, standIns := [], harness := (true, "e401bb220c5ed6cf62ebbd82da435d314220a2e80f46d8ab13f5feaa3ea89b9e"), looks := false }, kinds := [], alts := [], laidByText := true, laidKinds := [.data, .pinned], laidTests := true, laidLooks := .later }
def ReviewQueuesUptoCardSaid : Prop := Claim7.holds Tryz.pinned (.plain (OpenSpec.upto reviewQueuesSpec)) reviewQueuesUptoCard

/-- THE SECOND FORM's CARD OF 'modcertlaw54.ReviewVotes'. -/
def reviewVotesUptoCard : Claim7 := { stood := { row := reviewVotesUptoRow, standIns := [], harness := (true, "e401bb220c5ed6cf62ebbd82da435d314220a2e80f46d8ab13f5feaa3ea89b9e"), looks := false }, kinds := [], alts := [], laidByText := true, laidKinds := [.data, .pinned], laidTests := true, laidLooks := .later }
def ReviewVotesUptoCardSaid : Prop := Claim7.holds Tryz.pinned (.plain (OpenSpec.upto reviewVotesSpec)) reviewVotesUptoCard

/-- THE SECOND FORM's CARD OF 'modcertlaw54.ReviewMerges'. -/
def reviewMergesUptoCard : Claim7 := { stood := { row := reviewMergesUptoRow, standIns := [], harness := (true, "e401bb220c5ed6cf62ebbd82da435d314220a2e80f46d8ab13f5feaa3ea89b9e"), looks := false }, kinds := [], alts := [], laidByText := true, laidKinds := [.data, .pinned], laidTests := true, laidLooks := .later }
def ReviewMergesUptoCardSaid : Prop := Claim7.holds Tryz.pinned (.plain (OpenSpec.upto reviewMergesSpec)) reviewMergesUptoCard

/-- THE SECOND FORM's CARD OF 'modcertlaw54.ReviewDecides'. -/
def reviewDecidesUptoCard : Claim7 := { stood := { row := reviewDecidesUptoRow, standIns := [], harness := (true, "e401bb220c5ed6cf62ebbd82da435d314220a2e80f46d8ab13f5feaa3ea89b9e"), looks := false }, kinds := [], alts := [], laidByText := true, laidKinds := [.data, .pinned], laidTests := true, laidLooks := .later }
def ReviewDecidesUptoCardSaid : Prop := Claim7.holds Tryz.pinned (.plain (OpenSpec.upto reviewDecidesSpec)) reviewDecidesUptoCard

/-- THE SECOND FORM's CARD OF 'modcertlaw54.ReviewOnce'. -/
def reviewOnceUptoCard : Claim7 := { stood := { row := reviewOnceUptoRow, standIns := [], harness := (true, "e401bb220c5ed6cf62ebbd82da435d314220a2e80f46d8ab13f5feaa3ea89b9e"), looks := false }, kinds := [], alts := [], laidByText := true, laidKinds := [.data, .pinned], laidTests := true, laidLooks := .later }
def ReviewOnceUptoCardSaid : Prop := Claim7.holds Tryz.pinned (.plain (OpenSpec.upto reviewOnceSpec)) reviewOnceUptoCard

/-- THE SECOND FORM's CARD OF 'modcertlaw54.ReviewMembers'. -/
def reviewMembersUptoCard : Claim7 := { stood := { row := reviewMembersUptoRow, standIns := [], harness := (true, "e401bb220c5ed6cf62ebbd82da435d314220a2e80f46d8ab13f5feaa3ea89b9e"), looks := false }, kinds := [], alts := [], laidByText := true, laidKinds := [.data, .pinned], laidTests := true, laidLooks := .later }
def ReviewMembersUptoCardSaid : Prop := Claim7.holds Tryz.pinned (.plain (OpenSpec.upto reviewMembersSpec)) reviewMembersUptoCard

/-- THE SECOND FORM's CARD OF 'modcertlaw54.ReviewOrder'. -/
def reviewOrderUptoCard : Claim7 := { stood := { row := reviewOrderUptoRow, standIns := [], harness := (true, "e401bb220c5ed6cf62ebbd82da435d314220a2e80f46d8ab13f5feaa3ea89b9e"), looks := false }, kinds := [], alts := [], laidByText := true, laidKinds := [.data, .pinned], laidTests := true, laidLooks := .later }
def ReviewOrderUptoCardSaid : Prop := Claim7.holds Tryz.pinned (.plain (OpenSpec.upto reviewOrderSpec)) reviewOrderUptoCard
end Rows
end Go.Proofs.YtnijhlphcjjpbaaGreatDoor
