/-
  NARROWER THAN 'FOR EVERY INPUT', by the rows' own cells (each row's printed sentence says how): JournalReads: laid · JournalReturns: laid · JournalEpochs: laid · JournalApart: laid · JournalNeeds: laid · JournalAppends: laid.
  DERIVED. THE GIVEN ROWS OF THIS SEAT. 6 by the template 'for every input the law returns true; each argument reads behind the call as it read before'; 0 by the template 'total and deterministic' (their statements: YtfgjjdjaiddllaaDoorTotals.lean).
  GIVEN WITH THE SEED: the statements are not yours to turn. If you find one false, say at which input.
  Laid BY PROGRAM, IN A SANDBOX (cutbox-rows.mjs): the forced cells as the released guide's own fill.sh prints them over the translation fd2f6b75d9555e41… (all of the seat's roots in one cut). By AI agents, Wed Nov 11 2026. No macro, syntax, notation, axiom, sorry.
-/
import Derived.Test.YtfgjjdjaiddllaaDoorChecked
import GoSem.PinnedTables
import GoSem.Claim
import GoSem.ClaimJoined
import GoSem.ClaimMapViews
import Derived.JoinedTies
import Derived.KernelRfl
namespace Go.Proofs.YtfgjjdjaiddllaaDoor
/- THE CELL 'sum', in the pinned program and in every row, IS THE sha256 OF THE DUMP (.gsa) THAT YtfgjjdjaiddllaaDoorProg.lean LOADS. Nothing in Lean hashes anything: it is a label: what it is worth is what the hold of that sum in a sandbox is worth. -/
noncomputable def Tryd.pinned : Pinned := { name := "ytfgjjdjaiddllaadoor", sum := "fd2f6b75d9555e412d236635834136ab50c0f67220c395fc09b3ab59a4d0ea23", checked := Tryd.checked }
namespace Rows
def none {H : Type} : Left H := { results := [], args := [] }

/- WHAT THE LISTED PACKAGE-LEVEL VARIABLES READ AS WHEN THE CALL BEGINS. Each datum BY PROGRAM (the guide's laid-datum.mjs) off the statement by which the dump's own 'gosem.cut.vars' lays the variable. In a bare row this is a premise. The card (YtfgjjdjaiddllaaDoorCards.lean) ties it to the program's text. -/
def laid_unicode_utf8_acceptRanges {H : Type} : DataW H := .agg [.agg [.lit (.int .u8 128), .lit (.int .u8 191)], .agg [.lit (.int .u8 160), .lit (.int .u8 191)], .agg [.lit (.int .u8 128), .lit (.int .u8 159)], .agg [.lit (.int .u8 144), .lit (.int .u8 191)], .agg [.lit (.int .u8 128), .lit (.int .u8 143)], .agg [.lit (.int .u8 0), .lit (.int .u8 0)], .agg [.lit (.int .u8 0), .lit (.int .u8 0)], .agg [.lit (.int .u8 0), .lit (.int .u8 0)], .agg [.lit (.int .u8 0), .lit (.int .u8 0)], .agg [.lit (.int .u8 0), .lit (.int .u8 0)], .agg [.lit (.int .u8 0), .lit (.int .u8 0)], .agg [.lit (.int .u8 0), .lit (.int .u8 0)], .agg [.lit (.int .u8 0), .lit (.int .u8 0)], .agg [.lit (.int .u8 0), .lit (.int .u8 0)], .agg [.lit (.int .u8 0), .lit (.int .u8 0)], .agg [.lit (.int .u8 0), .lit (.int .u8 0)]]
/-- One of Go's own tables, pinned by name: the form's constant. -/
def laid_unicode_utf8_first : DataW Unit := Go.Pinned.utf8First

/-- 'modcertlaw51.JournalReads': WHATEVER THE INPUT: true; the input reads as it did. -/
def journalReadsSpec : ChangeSpec := { name := "journalReads", fn := fun _ => fun
  | [d1, d2, d3, d4] => { results := [.lit (.bool true)], args := [d1, d2, d3, d4] }
  | _ => none }
def journalReadsRow : OpenClaim := { program := "ytfgjjdjaiddllaadoor", sum := "fd2f6b75d9555e412d236635834136ab50c0f67220c395fc09b3ab59a4d0ea23", func := "modcert/modcertlaw51.JournalReads", spec := "journalReads", inPlace := ["internal/abi.NoEscape", "internal/bytealg.MakeNoZero", "internal/bytealg.IndexByteString", "internal/bytealg.IndexString"], unfollowed := true, recurses := true, named := ["unicode/utf8.first", "unicode/utf8.acceptRanges", "internal/bytealg.MaxLen"], apart := false, laid := [("unicode/utf8.acceptRanges", laid_unicode_utf8_acceptRanges), ("unicode/utf8.first", laid_unicode_utf8_first)] }
def JournalReadsSaid : Prop := journalReadsRow.holds Tryd.pinned (OpenSpec.ofChange journalReadsSpec)

/-- ITS FALSE NEIGHBOUR: 'it returns false'. Refute it at one input. -/
def journalReadsWrong : ChangeSpec := { name := "journalReads", fn := fun _ => fun
  | [d1, d2, d3, d4] => { results := [.lit (.bool false)], args := [d1, d2, d3, d4] }
  | _ => none }
def JournalReadsWrongFalsely : Prop := journalReadsRow.holds Tryd.pinned (OpenSpec.ofChange journalReadsWrong)

/-- 'modcertlaw51.JournalReturns': WHATEVER THE INPUT: true; the input reads as it did. -/
def journalReturnsSpec : ChangeSpec := { name := "journalReturns", fn := fun _ => fun
  | [d1, d2, d3] => { results := [.lit (.bool true)], args := [d1, d2, d3] }
  | _ => none }
def journalReturnsRow : OpenClaim := { program := "ytfgjjdjaiddllaadoor", sum := "fd2f6b75d9555e412d236635834136ab50c0f67220c395fc09b3ab59a4d0ea23", func := "modcert/modcertlaw51.JournalReturns", spec := "journalReturns", inPlace := ["internal/abi.NoEscape", "internal/bytealg.MakeNoZero", "internal/bytealg.IndexByteString", "internal/bytealg.IndexString"], unfollowed := true, recurses := true, named := ["unicode/utf8.first", "unicode/utf8.acceptRanges", "internal/bytealg.MaxLen"], apart := false, laid := [("unicode/utf8.acceptRanges", laid_unicode_utf8_acceptRanges), ("unicode/utf8.first", laid_unicode_utf8_first)] }
def JournalReturnsSaid : Prop := journalReturnsRow.holds Tryd.pinned (OpenSpec.ofChange journalReturnsSpec)

/-- ITS FALSE NEIGHBOUR: 'it returns false'. Refute it at one input. -/
def journalReturnsWrong : ChangeSpec := { name := "journalReturns", fn := fun _ => fun
  | [d1, d2, d3] => { results := [.lit (.bool false)], args := [d1, d2, d3] }
  | _ => none }
def JournalReturnsWrongFalsely : Prop := journalReturnsRow.holds Tryd.pinned (OpenSpec.ofChange journalReturnsWrong)

/-- 'modcertlaw51.JournalEpochs': WHATEVER THE INPUT: true; the input reads as it did. -/
def journalEpochsSpec : ChangeSpec := { name := "journalEpochs", fn := fun _ => fun
  | [d1, d2, d3] => { results := [.lit (.bool true)], args := [d1, d2, d3] }
  | _ => none }
def journalEpochsRow : OpenClaim := { program := "ytfgjjdjaiddllaadoor", sum := "fd2f6b75d9555e412d236635834136ab50c0f67220c395fc09b3ab59a4d0ea23", func := "modcert/modcertlaw51.JournalEpochs", spec := "journalEpochs", inPlace := ["internal/abi.NoEscape", "internal/bytealg.MakeNoZero", "internal/bytealg.IndexByteString", "internal/bytealg.IndexString"], unfollowed := true, recurses := true, named := ["unicode/utf8.first", "unicode/utf8.acceptRanges", "internal/bytealg.MaxLen"], apart := false, laid := [("unicode/utf8.acceptRanges", laid_unicode_utf8_acceptRanges), ("unicode/utf8.first", laid_unicode_utf8_first)] }
def JournalEpochsSaid : Prop := journalEpochsRow.holds Tryd.pinned (OpenSpec.ofChange journalEpochsSpec)

/-- ITS FALSE NEIGHBOUR: 'it returns false'. Refute it at one input. -/
def journalEpochsWrong : ChangeSpec := { name := "journalEpochs", fn := fun _ => fun
  | [d1, d2, d3] => { results := [.lit (.bool false)], args := [d1, d2, d3] }
  | _ => none }
def JournalEpochsWrongFalsely : Prop := journalEpochsRow.holds Tryd.pinned (OpenSpec.ofChange journalEpochsWrong)

/-- 'modcertlaw51.JournalApart': WHATEVER THE INPUT: true; the input reads as it did. -/
def journalApartSpec : ChangeSpec := { name := "journalApart", fn := fun _ => fun
  | [d1, d2, d3, d4] => { results := [.lit (.bool true)], args := [d1, d2, d3, d4] }
  | _ => none }
def journalApartRow : OpenClaim := { program := "ytfgjjdjaiddllaadoor", sum := "fd2f6b75d9555e412d236635834136ab50c0f67220c395fc09b3ab59a4d0ea23", func := "modcert/modcertlaw51.JournalApart", spec := "journalApart", inPlace := ["internal/abi.NoEscape", "internal/bytealg.MakeNoZero", "internal/bytealg.IndexByteString", "internal/bytealg.IndexString"], unfollowed := true, recurses := true, named := ["unicode/utf8.first", "unicode/utf8.acceptRanges", "internal/bytealg.MaxLen"], apart := false, laid := [("unicode/utf8.acceptRanges", laid_unicode_utf8_acceptRanges), ("unicode/utf8.first", laid_unicode_utf8_first)] }
def JournalApartSaid : Prop := journalApartRow.holds Tryd.pinned (OpenSpec.ofChange journalApartSpec)

/-- ITS FALSE NEIGHBOUR: 'it returns false'. Refute it at one input. -/
def journalApartWrong : ChangeSpec := { name := "journalApart", fn := fun _ => fun
  | [d1, d2, d3, d4] => { results := [.lit (.bool false)], args := [d1, d2, d3, d4] }
  | _ => none }
def JournalApartWrongFalsely : Prop := journalApartRow.holds Tryd.pinned (OpenSpec.ofChange journalApartWrong)

/-- 'modcertlaw51.JournalNeeds': WHATEVER THE INPUT: true; the input reads as it did. -/
def journalNeedsSpec : ChangeSpec := { name := "journalNeeds", fn := fun _ => fun
  | [d] => { results := [.lit (.bool true)], args := [d] }
  | _ => none }
def journalNeedsRow : OpenClaim := { program := "ytfgjjdjaiddllaadoor", sum := "fd2f6b75d9555e412d236635834136ab50c0f67220c395fc09b3ab59a4d0ea23", func := "modcert/modcertlaw51.JournalNeeds", spec := "journalNeeds", inPlace := ["internal/abi.NoEscape", "internal/bytealg.MakeNoZero", "internal/bytealg.IndexByteString", "internal/bytealg.IndexString"], unfollowed := true, recurses := true, named := ["unicode/utf8.first", "unicode/utf8.acceptRanges", "internal/bytealg.MaxLen"], apart := false, laid := [("unicode/utf8.acceptRanges", laid_unicode_utf8_acceptRanges), ("unicode/utf8.first", laid_unicode_utf8_first)] }
def JournalNeedsSaid : Prop := journalNeedsRow.holds Tryd.pinned (OpenSpec.ofChange journalNeedsSpec)

/-- ITS FALSE NEIGHBOUR: 'it returns false'. Refute it at one input. -/
def journalNeedsWrong : ChangeSpec := { name := "journalNeeds", fn := fun _ => fun
  | [d] => { results := [.lit (.bool false)], args := [d] }
  | _ => none }
def JournalNeedsWrongFalsely : Prop := journalNeedsRow.holds Tryd.pinned (OpenSpec.ofChange journalNeedsWrong)

/-- 'modcertlaw51.JournalAppends': WHATEVER THE INPUT: true; the input reads as it did. -/
def journalAppendsSpec : ChangeSpec := { name := "journalAppends", fn := fun _ => fun
  | [d1, d2, d3, d4] => { results := [.lit (.bool true)], args := [d1, d2, d3, d4] }
  | _ => none }
def journalAppendsRow : OpenClaim := { program := "ytfgjjdjaiddllaadoor", sum := "fd2f6b75d9555e412d236635834136ab50c0f67220c395fc09b3ab59a4d0ea23", func := "modcert/modcertlaw51.JournalAppends", spec := "journalAppends", inPlace := ["internal/abi.NoEscape", "internal/bytealg.MakeNoZero", "internal/bytealg.IndexByteString", "internal/bytealg.IndexString"], unfollowed := true, recurses := true, named := ["unicode/utf8.first", "unicode/utf8.acceptRanges", "internal/bytealg.MaxLen"], apart := false, laid := [("unicode/utf8.acceptRanges", laid_unicode_utf8_acceptRanges), ("unicode/utf8.first", laid_unicode_utf8_first)] }
def JournalAppendsSaid : Prop := journalAppendsRow.holds Tryd.pinned (OpenSpec.ofChange journalAppendsSpec)

/-- ITS FALSE NEIGHBOUR: 'it returns false'. Refute it at one input. -/
def journalAppendsWrong : ChangeSpec := { name := "journalAppends", fn := fun _ => fun
  | [d1, d2, d3, d4] => { results := [.lit (.bool false)], args := [d1, d2, d3, d4] }
  | _ => none }
def JournalAppendsWrongFalsely : Prop := journalAppendsRow.holds Tryd.pinned (OpenSpec.ofChange journalAppendsWrong)

/- THE SECOND FORM. 'bulk': how many values and letters a reading holds, each counted each time it is reached (what is shared counts as often as it is met; a slice's spare places count too). A statement '..UptoSaid' is the law's where the arguments, and the package variables that the reading takes, are together of bulk at most 1048576: NARROWER than '..Said'. Prove '..Said' where nothing that the law and all that it calls make is longer than what came in: it says more and counts as full. Else prove '..UptoSaid'. A law counts once. -/
mutual
def uptoBulk {H : Type} : DataW H → Nat
  | .lit (.string bytes) => bytes.length + 1
  | .lit _ => 1
  | .nil => 1
  | .ptr d => uptoBulk d + 1
  | .slice elems spare => uptoBulkAll elems + uptoBulkAll spare + 1
  | .agg parts => uptoBulkAll parts + 1
  | .iface _ d => uptoBulk d + 1
  | .map entries => uptoBulkEntries entries + 1
  | .held _ => 1
def uptoBulkAll {H : Type} : List (DataW H) → Nat
  | [] => 0
  | d :: r => uptoBulk d + uptoBulkAll r
def uptoBulkEntries {H : Type} : List (Lit × DataW H) → Nat
  | [] => 0
  | x :: r => uptoBulkEntry x + uptoBulkEntries r
def uptoBulkEntry {H : Type} : Lit × DataW H → Nat
  | (.string bytes, d) => bytes.length + uptoBulk d + 1
  | (_, d) => uptoBulk d + 1
 end
def uptoSmall : (H : Type) → List (DataW H) → Bool := fun _ ds => decide (uptoBulkAll ds ≤ 1048576)
def OpenSpec.upto (s : _root_.Go.ChangeSpec) : _root_.Go.OpenSpec := { _root_.Go.OpenSpec.ofChange s with cond := some uptoSmall }

/-- 'modcertlaw51.JournalReads', WHERE WHAT IT READS IS OF BULK AT MOST 1048576: true; the input reads as it did. -/
def journalReadsUptoRow : OpenClaim := { program := "ytfgjjdjaiddllaadoor", sum := "fd2f6b75d9555e412d236635834136ab50c0f67220c395fc09b3ab59a4d0ea23", func := "modcert/modcertlaw51.JournalReads", spec := "journalReads", inPlace := ["internal/abi.NoEscape", "internal/bytealg.MakeNoZero", "internal/bytealg.IndexByteString", "internal/bytealg.IndexString"], unfollowed := true, recurses := true, named := ["unicode/utf8.first", "unicode/utf8.acceptRanges", "internal/bytealg.MaxLen"], apart := false, laid := [("unicode/utf8.acceptRanges", laid_unicode_utf8_acceptRanges), ("unicode/utf8.first", laid_unicode_utf8_first)], narrowed := true }
def JournalReadsUptoSaid : Prop := journalReadsUptoRow.holds Tryd.pinned (OpenSpec.upto journalReadsSpec)

/-- 'modcertlaw51.JournalReturns', WHERE WHAT IT READS IS OF BULK AT MOST 1048576: true; the input reads as it did. -/
def journalReturnsUptoRow : OpenClaim := { program := "ytfgjjdjaiddllaadoor", sum := "fd2f6b75d9555e412d236635834136ab50c0f67220c395fc09b3ab59a4d0ea23", func := "modcert/modcertlaw51.JournalReturns", spec := "journalReturns", inPlace := ["internal/abi.NoEscape", "internal/bytealg.MakeNoZero", "internal/bytealg.IndexByteString", "internal/bytealg.IndexString"], unfollowed := true, recurses := true, named := ["unicode/utf8.first", "unicode/utf8.acceptRanges", "internal/bytealg.MaxLen"], apart := false, laid := [("unicode/utf8.acceptRanges", laid_unicode_utf8_acceptRanges), ("unicode/utf8.first", laid_unicode_utf8_first)], narrowed := true }
def JournalReturnsUptoSaid : Prop := journalReturnsUptoRow.holds Tryd.pinned (OpenSpec.upto journalReturnsSpec)

/-- 'modcertlaw51.JournalEpochs', WHERE WHAT IT READS IS OF BULK AT MOST 1048576: true; the input reads as it did. -/
def journalEpochsUptoRow : OpenClaim := { program := "ytfgjjdjaiddllaadoor", sum := "fd2f6b75d9555e412d236635834136ab50c0f67220c395fc09b3ab59a4d0ea23", func := "modcert/modcertlaw51.JournalEpochs", spec := "journalEpochs", inPlace := ["internal/abi.NoEscape", "internal/bytealg.MakeNoZero", "internal/bytealg.IndexByteString", "internal/bytealg.IndexString"], unfollowed := true, recurses := true, named := ["unicode/utf8.first", "unicode/utf8.acceptRanges", "internal/bytealg.MaxLen"], apart := false, laid := [("unicode/utf8.acceptRanges", laid_unicode_utf8_acceptRanges), ("unicode/utf8.first", laid_unicode_utf8_first)], narrowed := true }
def JournalEpochsUptoSaid : Prop := journalEpochsUptoRow.holds Tryd.pinned (OpenSpec.upto journalEpochsSpec)

/-- 'modcertlaw51.JournalApart', WHERE WHAT IT READS IS OF BULK AT MOST 1048576: true; the input reads as it did. -/
def journalApartUptoRow : OpenClaim := { program := "ytfgjjdjaiddllaadoor", sum := "fd2f6b75d9555e412d236635834136ab50c0f67220c395fc09b3ab59a4d0ea23", func := "modcert/modcertlaw51.JournalApart", spec := "journalApart", inPlace := ["internal/abi.NoEscape", "internal/bytealg.MakeNoZero", "internal/bytealg.IndexByteString", "internal/bytealg.IndexString"], unfollowed := true, recurses := true, named := ["unicode/utf8.first", "unicode/utf8.acceptRanges", "internal/bytealg.MaxLen"], apart := false, laid := [("unicode/utf8.acceptRanges", laid_unicode_utf8_acceptRanges), ("unicode/utf8.first", laid_unicode_utf8_first)], narrowed := true }
def JournalApartUptoSaid : Prop := journalApartUptoRow.holds Tryd.pinned (OpenSpec.upto journalApartSpec)

/-- 'modcertlaw51.JournalNeeds', WHERE WHAT IT READS IS OF BULK AT MOST 1048576: true; the input reads as it did. -/
def journalNeedsUptoRow : OpenClaim := { program := "ytfgjjdjaiddllaadoor", sum := "fd2f6b75d9555e412d236635834136ab50c0f67220c395fc09b3ab59a4d0ea23", func := "modcert/modcertlaw51.JournalNeeds", spec := "journalNeeds", inPlace := ["internal/abi.NoEscape", "internal/bytealg.MakeNoZero", "internal/bytealg.IndexByteString", "internal/bytealg.IndexString"], unfollowed := true, recurses := true, named := ["unicode/utf8.first", "unicode/utf8.acceptRanges", "internal/bytealg.MaxLen"], apart := false, laid := [("unicode/utf8.acceptRanges", laid_unicode_utf8_acceptRanges), ("unicode/utf8.first", laid_unicode_utf8_first)], narrowed := true }
def JournalNeedsUptoSaid : Prop := journalNeedsUptoRow.holds Tryd.pinned (OpenSpec.upto journalNeedsSpec)

/-- 'modcertlaw51.JournalAppends', WHERE WHAT IT READS IS OF BULK AT MOST 1048576: true; the input reads as it did. -/
def journalAppendsUptoRow : OpenClaim := { program := "ytfgjjdjaiddllaadoor", sum := "fd2f6b75d9555e412d236635834136ab50c0f67220c395fc09b3ab59a4d0ea23", func := "modcert/modcertlaw51.JournalAppends", spec := "journalAppends", inPlace := ["internal/abi.NoEscape", "internal/bytealg.MakeNoZero", "internal/bytealg.IndexByteString", "internal/bytealg.IndexString"], unfollowed := true, recurses := true, named := ["unicode/utf8.first", "unicode/utf8.acceptRanges", "internal/bytealg.MaxLen"], apart := false, laid := [("unicode/utf8.acceptRanges", laid_unicode_utf8_acceptRanges), ("unicode/utf8.first", laid_unicode_utf8_first)], narrowed := true }
def JournalAppendsUptoSaid : Prop := journalAppendsUptoRow.holds Tryd.pinned (OpenSpec.upto journalAppendsSpec)

end Rows
end Go.Proofs.YtfgjjdjaiddllaaDoor
