/-
  DERIVED. GIVEN WITH THE SEED: THE CARDS: each row of YtfgjjdjaiddllaaDoorRows.lean that lists a variable, with what it lists TIED to the program's text (the seventh form; the later family's looks); each row that meets fmt, with fmt's text TOLD by the authors' own Lean function (tested against real Go, not proved from fmt's source: count such statements apart). THE CARD IS WHAT COUNTS. Prove the row's statement (the work); the ties are given (YtfgjjdjaiddllaaDoorTie.lean); close each card by the builder's one call (the guide's Derived/Test/ToyasCard.lean, 'card_holds'). Laid BY PROGRAM, IN A SANDBOX (cutbox-door.mjs). By AI agents, Wed Nov 11 2026. No macro, syntax, notation, axiom, sorry.
-/
import Derived.Test.YtfgjjdjaiddllaaDoorRows
import GoSem.ClaimSeven
namespace Go.Proofs.YtfgjjdjaiddllaaDoor
namespace Rows

/-- THE TIED CARD OF 'modcertlaw51.JournalReads'. -/
def journalReadsCard : Claim7 := { stood := { row := journalReadsRow, standIns := [], harness := (true, "2adc2a460ad08a7064a5a00a6cff59ef7659141082282c9ac2cbf1b8cd0b165c"), looks := false }, kinds := [], alts := [], laidByText := true, laidKinds := [.data, .pinned], laidTests := true, laidLooks := .later }
def JournalReadsCardSaid : Prop := Claim7.holds Tryd.pinned (.plain (OpenSpec.ofChange journalReadsSpec)) journalReadsCard

/-- THE TIED CARD OF 'modcertlaw51.JournalReturns'. -/
def journalReturnsCard : Claim7 := { stood := { row := journalReturnsRow, standIns := [], harness := (true, "2adc2a460ad08a7064a5a00a6cff59ef7659141082282c9ac2cbf1b8cd0b165c"), looks := false }, kinds := [], alts := [], laidByText := true, laidKinds := [.data, .pinned], laidTests := true, laidLooks := .later }
def JournalReturnsCardSaid : Prop := Claim7.holds Tryd.pinned (.plain (OpenSpec.ofChange journalReturnsSpec)) journalReturnsCard

/-- THE TIED CARD OF 'modcertlaw51.JournalEpochs'. -/
def journalEpochsCard : Claim7 := { stood := { row := journalEpochsRow, standIns := [], harness := (true, "2adc2a460ad08a7064a5a00a6cff59ef7659141082282c9ac2cbf1b8cd0b165c"), looks := false }, kinds := [], alts := [], laidByText := true, laidKinds := [.data, .pinned], laidTests := true, laidLooks := .later }
def JournalEpochsCardSaid : Prop := Claim7.holds Tryd.pinned (.plain (OpenSpec.ofChange journalEpochsSpec)) journalEpochsCard

/-- THE TIED CARD OF 'modcertlaw51.JournalApart'. -/
def journalApartCard : Claim7 := { stood := { row := journalApartRow, standIns := [], harness := (true, "2adc2a460ad08a7064a5a00a6cff59ef7659141082282c9ac2cbf1b8cd0b165c"), looks := false }, kinds := [], alts := [], laidByText := true, laidKinds := [.data, .pinned], laidTests := true, laidLooks := .later }
def JournalApartCardSaid : Prop := Claim7.holds Tryd.pinned (.plain (OpenSpec.ofChange journalApartSpec)) journalApartCard

/-- THE TIED CARD OF 'modcertlaw51.JournalNeeds'. -/
def journalNeedsCard : Claim7 := { stood := { row := journalNeedsRow, standIns := [], harness := (true, "2adc2a460ad08a7064a5a00a6cff59ef7659141082282c9ac2cbf1b8cd0b165c"), looks := false }, kinds := [], alts := [], laidByText := true, laidKinds := [.data, .pinned], laidTests := true, laidLooks := .later }
def JournalNeedsCardSaid : Prop := Claim7.holds Tryd.pinned (.plain (OpenSpec.ofChange journalNeedsSpec)) journalNeedsCard

/-- THE TIED CARD OF 'modcertlaw51.JournalAppends'. -/
def journalAppendsCard : Claim7 := { stood := { row := journalAppendsRow, standIns := [], harness := (true, "2adc2a460ad08a7064a5a00a6cff59ef7659141082282c9ac2cbf1b8cd0b165c"), looks := false }, kinds := [], alts := [], laidByText := true, laidKinds := [.data, .pinned], laidTests := true, laidLooks := .later }
def JournalAppendsCardSaid : Prop := Claim7.holds Tryd.pinned (.plain (OpenSpec.ofChange journalAppendsSpec)) journalAppendsCard

/-- THE SECOND FORM's CARD OF 'modcertlaw51.JournalReads'. -/
def journalReadsUptoCard : Claim7 := { stood := { row := journalReadsUptoRow, standIns := [], harness := (true, "2adc2a460ad08a7064a5a00a6cff59ef7659141082282c9ac2cbf1b8cd0b165c"), looks := false }, kinds := [], alts := [], laidByText := true, laidKinds := [.data, .pinned], laidTests := true, laidLooks := .later }
def JournalReadsUptoCardSaid : Prop := Claim7.holds Tryd.pinned (.plain (OpenSpec.upto journalReadsSpec)) journalReadsUptoCard

/-- THE SECOND FORM's CARD OF 'modcertlaw51.JournalReturns'. -/
def journalReturnsUptoCard : Claim7 := { stood := { row := journalReturnsUptoRow, standIns := [], harness := (true, "2adc2a460ad08a7064a5a00a6cff59ef7659141082282c9ac2cbf1b8cd0b165c"), looks := false }, kinds := [], alts := [], laidByText := true, laidKinds := [.data, .pinned], laidTests := true, laidLooks := .later }
def JournalReturnsUptoCardSaid : Prop := Claim7.holds Tryd.pinned (.plain (OpenSpec.upto journalReturnsSpec)) journalReturnsUptoCard

/-- THE SECOND FORM's CARD OF 'modcertlaw51.JournalEpochs'. -/
def journalEpochsUptoCard : Claim7 := { stood := { row := journalEpochsUptoRow, standIns := [], harness := (true, "2adc2a460ad08a7064a5a00a6cff59ef7659141082282c9ac2cbf1b8cd0b165c"), looks := false }, kinds := [], alts := [], laidByText := true, laidKinds := [.data, .pinned], laidTests := true, laidLooks := .later }
def JournalEpochsUptoCardSaid : Prop := Claim7.holds Tryd.pinned (.plain (OpenSpec.upto journalEpochsSpec)) journalEpochsUptoCard

/-- THE SECOND FORM's CARD OF 'modcertlaw51.JournalApart'. -/
def journalApartUptoCard : Claim7 := { stood := { row := journalApartUptoRow, standIns := [], harness := (true, "2adc2a460ad08a7064a5a00a6cff59ef7659141082282c9ac2cbf1b8cd0b165c"), looks := false }, kinds := [], alts := [], laidByText := true, laidKinds := [.data, .pinned], laidTests := true, laidLooks := .later }
def JournalApartUptoCardSaid : Prop := Claim7.holds Tryd.pinned (.plain (OpenSpec.upto journalApartSpec)) journalApartUptoCard

/-- THE SECOND FORM's CARD OF 'modcertlaw51.JournalNeeds'. -/
def journalNeedsUptoCard : Claim7 := { stood := { row := journalNeedsUptoRow, standIns := [], harness := (true, "2adc2a460ad08a7064a5a00a6cff59ef7659141082282c9ac2cbf1b8cd0b165c"), looks := false }, kinds := [], alts := [], laidByText := true, laidKinds := [.data, .pinned], laidTests := true, laidLooks := .later }
def JournalNeedsUptoCardSaid : Prop := Claim7.holds Tryd.pinned (.plain (OpenSpec.upto journalNeedsSpec)) journalNeedsUptoCard

/-- THE SECOND FORM's CARD OF 'modcertlaw51.JournalAppends'. -/
def journalAppendsUptoCard : Claim7 := { stood := { row := journalAppendsUptoRow, standIns := [], harness := (true, "2adc2a460ad08a7064a5a00a6cff59ef7659141082282c9ac2cbf1b8cd0b165c"), looks := false }, kinds := [], alts := [], laidByText := true, laidKinds := [.data, .pinned], laidTests := true, laidLooks := .later }
def JournalAppendsUptoCardSaid : Prop := Claim7.holds Tryd.pinned (.plain (OpenSpec.upto journalAppendsSpec)) journalAppendsUptoCard
end Rows
end Go.Proofs.YtfgjjdjaiddllaaDoor
