/-
  NARROWER THAN 'FOR EVERY INPUT', by the rows' own cells (each row's printed sentence says how): ReviewQueues: laid · ReviewVotes: laid · ReviewMerges: laid · ReviewDecides: laid · ReviewOnce: laid · ReviewMembers: laid · ReviewOrder: laid.
  DERIVED. THE GIVEN ROWS OF THIS SEAT. 7 by the template 'for every input the law returns true; each argument reads behind the call as it read before'; 0 by the template 'total and deterministic' (their statements: YtnijhlphcjjpbaaGreatDoorTotals.lean).
  GIVEN WITH THE SEED: the statements are not yours to turn. If you find one false, say at which input.
  Laid BY PROGRAM, IN A SANDBOX (cutbox-rows.mjs): the forced cells as the released guide's own fill.sh prints them over the translation e517e868cdc091b9… (all of the seat's roots in one cut). By AI agents, Wed Nov 11 2026. No macro, syntax, notation, axiom, sorry.
-/
import Derived.Test.YtnijhlphcjjpbaaGreatDoorChecked
import GoSem.PinnedTables
import GoSem.Claim
import GoSem.ClaimJoined
import GoSem.ClaimMapViews
import Derived.JoinedTies
import Derived.KernelRfl
namespace Go.Proofs.YtnijhlphcjjpbaaGreatDoor
/- THE CELL 'sum', in the pinned program and in every row, IS THE sha256 OF THE DUMP (.gsa) THAT YtnijhlphcjjpbaaGreatDoorProg.lean LOADS. Nothing in Lean hashes anything: it is a label: what it is worth is what the hold of that sum in a sandbox is worth. -/
noncomputable def Tryz.pinned : Pinned := { name := "ytnijhlphcjjpbaagreatdoor", sum := "e517e868cdc091b993432e0307d256a0a78a7212ee34cfce32c2404065c5a601", checked := Tryz.checked }
namespace Rows
def none {H : Type} : Left H := { results := [], args := [] }

/- WHAT THE LISTED PACKAGE-LEVEL VARIABLES READ AS WHEN THE CALL BEGINS. Each datum BY PROGRAM (the guide's laid-datum.mjs) off the statement by which the dump's own 'gosem.cut.vars' lays the variable. In a bare row this is a premise. The card (YtnijhlphcjjpbaaGreatDoorCards.lean) ties it to the program's text. -/
def laid_unicode_utf8_acceptRanges {H : Type} : DataW H := .agg [.agg [.lit (.int .u8 128), .lit (.int .u8 191)], .agg [.lit (.int .u8 160), .lit (.int .u8 191)], .agg [.lit (.int .u8 128), .lit (.int .u8 159)], .agg [.lit (.int .u8 144), .lit (.int .u8 191)], .agg [.lit (.int .u8 128), .lit (.int .u8 143)], .agg [.lit (.int .u8 0), .lit (.int .u8 0)], .agg [.lit (.int .u8 0), .lit (.int .u8 0)], .agg [.lit (.int .u8 0), .lit (.int .u8 0)], .agg [.lit (.int .u8 0), .lit (.int .u8 0)], .agg [.lit (.int .u8 0), .lit (.int .u8 0)], .agg [.lit (.int .u8 0), .lit (.int .u8 0)], .agg [.lit (.int .u8 0), .lit (.int .u8 0)], .agg [.lit (.int .u8 0), .lit (.int .u8 0)], .agg [.lit (.int .u8 0), .lit (.int .u8 0)], .agg [.lit (.int .u8 0), .lit (.int .u8 0)], .agg [.lit (.int .u8 0), .lit (.int .u8 0)]]
/-- One of Go's own tables, pinned by name: the form's constant. -/
def laid_unicode_utf8_first : DataW Unit := Go.Pinned.utf8First

/-- 'modcertlaw54.ReviewQueues': WHATEVER THE INPUT: true; the input reads as it did. -/
def reviewQueuesSpec : ChangeSpec := { name := "reviewQueues", fn := fun _ => fun
  | [d1, d2, d3, d4, d5, d6] => { results := [.lit (.bool true)], args := [d1, d2, d3, d4, d5, d6] }
  | _ => none }
def reviewQueuesRow : OpenClaim := { program := "ytnijhlphcjjpbaagreatdoor", sum := "e517e868cdc091b993432e0307d256a0a78a7212ee34cfce32c2404065c5a601", func := "modcert/modcertlaw54.ReviewQueues", spec := "reviewQueues", inPlace := ["internal/abi.NoEscape", "internal/bytealg.MakeNoZero", "internal/bytealg.CountString", "internal/bytealg.IndexByteString", "internal/bytealg.IndexString", "slices.overlaps[modcert/api.KeyUse]", "slices.overlaps[modcert/api.Vote]"], unfollowed := true, recurses := true, named := ["unicode/utf8.first", "unicode/utf8.acceptRanges", "internal/bytealg.MaxLen"], apart := false, laid := [("unicode/utf8.acceptRanges", laid_unicode_utf8_acceptRanges), ("unicode/utf8.first", laid_unicode_utf8_first)] }
def ReviewQueuesSaid : Prop := reviewQueuesRow.holds Tryz.pinned (OpenSpec.ofChange reviewQueuesSpec)

/-- ITS FALSE NEIGHBOUR: 'it returns false'. Refute it at one input. -/
def reviewQueuesWrong : ChangeSpec := { name := "reviewQueues", fn := fun _ => fun
  | [d1, d2, d3, d4, d5, d6] => { results := [.lit (.bool false)], args := [d1, d2, d3, d4, d5, d6] }
  | _ => none }
def ReviewQueuesWrongFalsely : Prop := reviewQueuesRow.holds Tryz.pinned (OpenSpec.ofChange reviewQueuesWrong)

/-- 'modcertlaw54.ReviewVotes': WHATEVER THE INPUT: true; the input reads as it did. -/
def reviewVotesSpec : ChangeSpec := { name := "reviewVotes", fn := fun _ => fun
  | [d1, d2, d3, d4, d5, d6] => { results := [.lit (.bool true)], args := [d1, d2, d3, d4, d5, d6] }
  | _ => none }
def reviewVotesRow : OpenClaim := { program := "ytnijhlphcjjpbaagreatdoor", sum := "e517e868cdc091b993432e0307d256a0a78a7212ee34cfce32c2404065c5a601", func := "modcert/modcertlaw54.ReviewVotes", spec := "reviewVotes", inPlace := ["internal/abi.NoEscape", "internal/bytealg.MakeNoZero", "internal/bytealg.CountString", "internal/bytealg.IndexByteString", "internal/bytealg.IndexString", "slices.overlaps[modcert/api.KeyUse]", "slices.overlaps[modcert/api.Vote]"], unfollowed := true, recurses := true, named := ["unicode/utf8.first", "unicode/utf8.acceptRanges", "internal/bytealg.MaxLen"], apart := false, laid := [("unicode/utf8.acceptRanges", laid_unicode_utf8_acceptRanges), ("unicode/utf8.first", laid_unicode_utf8_first)] }
def ReviewVotesSaid : Prop := reviewVotesRow.holds Tryz.pinned (OpenSpec.ofChange reviewVotesSpec)

/-- ITS FALSE NEIGHBOUR: 'it returns false'. Refute it at one input. -/
def reviewVotesWrong : ChangeSpec := { name := "reviewVotes", fn := fun _ => fun
  | [d1, d2, d3, d4, d5, d6] => { results := [.lit (.bool false)], args := [d1, d2, d3, d4, d5, d6] }
  | _ => none }
def ReviewVotesWrongFalsely : Prop := reviewVotesRow.holds Tryz.pinned (OpenSpec.ofChange reviewVotesWrong)

/-- 'modcertlaw54.ReviewMerges': WHATEVER THE INPUT: true; the input reads as it did. -/
def reviewMergesSpec : ChangeSpec := { name := "reviewMerges", fn := fun _ => fun
  | [d1, d2, d3, d4] => { results := [.lit (.bool true)], args := [d1, d2, d3, d4] }
  | _ => none }
def reviewMergesRow : OpenClaim := { program := "ytnijhlphcjjpbaagreatdoor", sum := "e517e868cdc091b993432e0307d256a0a78a7212ee34cfce32c2404065c5a601", func := "modcert/modcertlaw54.ReviewMerges", spec := "reviewMerges", inPlace := ["internal/abi.NoEscape", "internal/bytealg.MakeNoZero", "internal/bytealg.CountString", "internal/bytealg.IndexByteString", "internal/bytealg.IndexString", "slices.overlaps[modcert/api.KeyUse]", "slices.overlaps[modcert/api.Vote]"], unfollowed := true, recurses := true, named := ["unicode/utf8.first", "unicode/utf8.acceptRanges", "internal/bytealg.MaxLen"], apart := false, laid := [("unicode/utf8.acceptRanges", laid_unicode_utf8_acceptRanges), ("unicode/utf8.first", laid_unicode_utf8_first)] }
def ReviewMergesSaid : Prop := reviewMergesRow.holds Tryz.pinned (OpenSpec.ofChange reviewMergesSpec)

/-- ITS FALSE NEIGHBOUR: 'it returns false'. Refute it at one input. -/
def reviewMergesWrong : ChangeSpec := { name := "reviewMerges", fn := fun _ => fun
  | [d1, d2, d3, d4] => { results := [.lit (.bool false)], args := [d1, d2, d3, d4] }
  | _ => none }
def ReviewMergesWrongFalsely : Prop := reviewMergesRow.holds Tryz.pinned (OpenSpec.ofChange reviewMergesWrong)

/-- 'modcertlaw54.ReviewDecides': WHATEVER THE INPUT: true; the input reads as it did. -/
def reviewDecidesSpec : ChangeSpec := { name := "reviewDecides", fn := fun _ => fun
  | [d1, d2, d3] => { results := [.lit (.bool true)], args := [d1, d2, d3] }
  | _ => none }
def reviewDecidesRow : OpenClaim := { program := "ytnijhlphcjjpbaagreatdoor", sum := "e517e868cdc091b993432e0307d256a0a78a7212ee34cfce32c2404065c5a601", func := "modcert/modcertlaw54.ReviewDecides", spec := "reviewDecides", inPlace := ["internal/abi.NoEscape", "internal/bytealg.MakeNoZero", "internal/bytealg.CountString", "internal/bytealg.IndexByteString", "internal/bytealg.IndexString", "slices.overlaps[modcert/api.KeyUse]", "slices.overlaps[modcert/api.Vote]"], unfollowed := true, recurses := true, named := ["unicode/utf8.first", "unicode/utf8.acceptRanges", "internal/bytealg.MaxLen"], apart := false, laid := [("unicode/utf8.acceptRanges", laid_unicode_utf8_acceptRanges), ("unicode/utf8.first", laid_unicode_utf8_first)] }
def ReviewDecidesSaid : Prop := reviewDecidesRow.holds Tryz.pinned (OpenSpec.ofChange reviewDecidesSpec)

/-- ITS FALSE NEIGHBOUR: 'it returns false'. Refute it at one input. -/
def reviewDecidesWrong : ChangeSpec := { name := "reviewDecides", fn := fun _ => fun
  | [d1, d2, d3] => { results := [.lit (.bool false)], args := [d1, d2, d3] }
  | _ => none }
def ReviewDecidesWrongFalsely : Prop := reviewDecidesRow.holds Tryz.pinned (OpenSpec.ofChange reviewDecidesWrong)

/-- 'modcertlaw54.ReviewOnce': WHATEVER THE INPUT: true; the input reads as it did. -/
def reviewOnceSpec : ChangeSpec := { name := "reviewOnce", fn := fun _ => fun
  | [d1, d2, d3, d4] => { results := [.lit (.bool true)], args := [d1, d2, d3, d4] }
  | _ => none }
def reviewOnceRow : OpenClaim := { program := "ytnijhlphcjjpbaagreatdoor", sum := "e517e868cdc091b993432e0307d256a0a78a7212ee34cfce32c2404065c5a601", func := "modcert/modcertlaw54.ReviewOnce", spec := "reviewOnce", inPlace := ["internal/abi.NoEscape", "internal/bytealg.MakeNoZero", "internal/bytealg.CountString", "internal/bytealg.IndexByteString", "internal/bytealg.IndexString", "slices.overlaps[modcert/api.KeyUse]", "slices.overlaps[modcert/api.Vote]"], unfollowed := true, recurses := true, named := ["unicode/utf8.first", "unicode/utf8.acceptRanges", "internal/bytealg.MaxLen"], apart := false, laid := [("unicode/utf8.acceptRanges", laid_unicode_utf8_acceptRanges), ("unicode/utf8.first", laid_unicode_utf8_first)] }
def ReviewOnceSaid : Prop := reviewOnceRow.holds Tryz.pinned (OpenSpec.ofChange reviewOnceSpec)

/-- ITS FALSE NEIGHBOUR: 'it returns false'. Refute it at one input. -/
def reviewOnceWrong : ChangeSpec := { name := "reviewOnce", fn := fun _ => fun
  | [d1, d2, d3, d4] => { results := [.lit (.bool false)], args := [d1, d2, d3, d4] }
  | _ => none }
def ReviewOnceWrongFalsely : Prop := reviewOnceRow.holds Tryz.pinned (OpenSpec.ofChange reviewOnceWrong)

/-- 'modcertlaw54.ReviewMembers': WHATEVER THE INPUT: true; the input reads as it did. -/
def reviewMembersSpec : ChangeSpec := { name := "reviewMembers", fn := fun _ => fun
  | [d1, d2] => { results := [.lit (.bool true)], args := [d1, d2] }
  | _ => none }
def reviewMembersRow : OpenClaim := { program := "ytnijhlphcjjpbaagreatdoor", sum := "e517e868cdc091b993432e0307d256a0a78a7212ee34cfce32c2404065c5a601", func := "modcert/modcertlaw54.ReviewMembers", spec := "reviewMembers", inPlace := ["internal/abi.NoEscape", "internal/bytealg.MakeNoZero", "internal/bytealg.CountString", "internal/bytealg.IndexByteString", "internal/bytealg.IndexString", "slices.overlaps[modcert/api.KeyUse]", "slices.overlaps[modcert/api.Vote]"], unfollowed := true, recurses := true, named := ["unicode/utf8.first", "unicode/utf8.acceptRanges", "internal/bytealg.MaxLen"], apart := false, laid := [("unicode/utf8.acceptRanges", laid_unicode_utf8_acceptRanges), ("unicode/utf8.first", laid_unicode_utf8_first)] }
def ReviewMembersSaid : Prop := reviewMembersRow.holds Tryz.pinned (OpenSpec.ofChange reviewMembersSpec)

/-- ITS FALSE NEIGHBOUR: 'it returns false'. Refute it at one input. -/
def reviewMembersWrong : ChangeSpec := { name := "reviewMembers", fn := fun _ => fun
  | [d1, d2] => { results := [.lit (.bool false)], args := [d1, d2] }
  | _ => none }
def ReviewMembersWrongFalsely : Prop := reviewMembersRow.holds Tryz.pinned (OpenSpec.ofChange reviewMembersWrong)

/-- 'modcertlaw54.ReviewOrder': WHATEVER THE INPUT: true; the input reads as it did. -/
def reviewOrderSpec : ChangeSpec := { name := "reviewOrder", fn := fun _ => fun
  | [d1, d2] => { results := [.lit (.bool true)], args := [d1, d2] }
  | _ => none }
def reviewOrderRow : OpenClaim := { program := "ytnijhlphcjjpbaagreatdoor", sum := "e517e868cdc091b993432e0307d256a0a78a7212ee34cfce32c2404065c5a601", func := "modcert/modcertlaw54.ReviewOrder", spec := "reviewOrder", inPlace := ["internal/abi.NoEscape", "internal/bytealg.MakeNoZero", "internal/bytealg.CountString", "internal/bytealg.IndexByteString", "internal/bytealg.IndexString", "slices.overlaps[modcert/api.KeyUse]", "slices.overlaps[modcert/api.Vote]"], unfollowed := true, recurses := true, named := ["unicode/utf8.first", "unicode/utf8.acceptRanges", "internal/bytealg.MaxLen"], apart := false, laid := [("unicode/utf8.acceptRanges", laid_unicode_utf8_acceptRanges), ("unicode/utf8.first", laid_unicode_utf8_first)] }
def ReviewOrderSaid : Prop := reviewOrderRow.holds Tryz.pinned (OpenSpec.ofChange reviewOrderSpec)

/-- ITS FALSE NEIGHBOUR: 'it returns false'. Refute it at one input. -/
def reviewOrderWrong : ChangeSpec := { name := "reviewOrder", fn := fun _ => fun
  | [d1, d2] => { results := [.lit (.bool false)], args := [d1, d2] }
  | _ => none }
def ReviewOrderWrongFalsely : Prop := reviewOrderRow.holds Tryz.pinned (OpenSpec.ofChange reviewOrderWrong)

/- THE SECOND FORM. 'bulk': how many values and letters a reading holds, each counted each time it is reached (what is shared counts as often as it is met; a slice's spare places count too). A statement '..UptoSaid' is the law's where the arguments, and the package variables that the reading takes, are together of bulk at most 1048576: NARROWER than '..Said'. Prove '..Said' where nothing that the law and all that it calls make is longer than what came in: it says more and counts as full. Else prove '..UptoSaid'. A law counts once. -/
mutual
def uptoBulk {H : Type} : DataW H → Nat
  | .lit (.string bytes) => bytes.length + 1
  | .lit _ => 1
  | .nil => 1
  | .ptr d => uptoBulk d + 1
  | .slice elems spare => uptoBulkAll elems + uptoBulkAll spare + 1
  | .agg parts => uptoBulkAll parts + 1
  | .iface _ d => uptoBulk d + 1
  | .map entries => uptoBulkEntries entries + 1
  | .held _ => 1
def uptoBulkAll {H : Type} : List (DataW H) → Nat
  | [] => 0
  | d :: r => uptoBulk d + uptoBulkAll r
def uptoBulkEntries {H : Type} : List (Lit × DataW H) → Nat
  | [] => 0
  | x :: r => uptoBulkEntry x + uptoBulkEntries r
def uptoBulkEntry {H : Type} : Lit × DataW H → Nat
  | (.string bytes, d) => bytes.length + uptoBulk d + 1
  | (_, d) => uptoBulk d + 1
 end
def uptoSmall : (H : Type) → List (DataW H) → Bool := fun _ ds => decide (uptoBulkAll ds ≤ 1048576)
def OpenSpec.upto (s : _root_.Go.ChangeSpec) : _root_.Go.OpenSpec := { _root_.Go.OpenSpec.ofChange s with cond := some uptoSmall }

/-- 'modcertlaw54.ReviewQueues', WHERE WHAT IT READS IS OF BULK AT MOST 1048576: true; the input reads as it did. -/
def reviewQueuesUptoRow : OpenClaim := { program := "ytnijhlphcjjpbaagreatdoor", sum := "e517e868cdc091b993432e0307d256a0a78a7212ee34cfce32c2404065c5a601", func := "modcert/modcertlaw54.ReviewQueues", spec := "reviewQueues", inPlace := ["internal/abi.NoEscape", "internal/bytealg.MakeNoZero", "internal/bytealg.CountString", "internal/bytealg.IndexByteString", "internal/bytealg.IndexString", "slices.overlaps[modcert/api.KeyUse]", "slices.overlaps[modcert/api.Vote]"], unfollowed := true, recurses := true, named := ["unicode/utf8.first", "unicode/utf8.acceptRanges", "internal/bytealg.MaxLen"], apart := false, laid := [("unicode/utf8.acceptRanges", laid_unicode_utf8_acceptRanges), ("unicode/utf8.first", laid_unicode_utf8_first)], narrowed := true }
def ReviewQueuesUptoSaid : Prop := reviewQueuesUptoRow.holds Tryz.pinned (OpenSpec.upto reviewQueuesSpec)

/-- 'modcertlaw54.ReviewVotes', WHERE WHAT IT READS IS OF BULK AT MOST 1048576: true; the input reads as it did. -/
def reviewVotesUptoRow : OpenClaim := { program := "ytnijhlphcjjpbaagreatdoor", sum := "e517e868cdc091b993432e0307d256a0a78a7212ee34cfce32c2404065c5a601", func := "modcert/modcertlaw54.ReviewVotes", spec := "reviewVotes", inPlace := ["internal/abi.NoEscape", "internal/bytealg.MakeNoZero", "internal/bytealg.CountString", "internal/bytealg.IndexByteString", "internal/bytealg.IndexString", "slices.overlaps[modcert/api.KeyUse]", "slices.overlaps[modcert/api.Vote]"], unfollowed := true, recurses := true, named := ["unicode/utf8.first", "unicode/utf8.acceptRanges", "internal/bytealg.MaxLen"], apart := false, laid := [("unicode/utf8.acceptRanges", laid_unicode_utf8_acceptRanges), ("unicode/utf8.first", laid_unicode_utf8_first)], narrowed := true }
def ReviewVotesUptoSaid : Prop := reviewVotesUptoRow.holds Tryz.pinned (OpenSpec.upto reviewVotesSpec)

/-- 'modcertlaw54.ReviewMerges', WHERE WHAT IT READS IS OF BULK AT MOST 1048576: true; the input reads as it did. -/
def reviewMergesUptoRow : OpenClaim := { program := "ytnijhlphcjjpbaagreatdoor", sum := "e517e868cdc091b993432e0307d256a0a78a7212ee34cfce32c2404065c5a601", func := "modcert/modcertlaw54.ReviewMerges", spec := "reviewMerges", inPlace := ["internal/abi.NoEscape", "internal/bytealg.MakeNoZero", "internal/bytealg.CountString", "internal/bytealg.IndexByteString", "internal/bytealg.IndexString", "slices.overlaps[modcert/api.KeyUse]", "slices.overlaps[modcert/api.Vote]"], unfollowed := true, recurses := true, named := ["unicode/utf8.first", "unicode/utf8.acceptRanges", "internal/bytealg.MaxLen"], apart := false, laid := [("unicode/utf8.acceptRanges", laid_unicode_utf8_acceptRanges), ("unicode/utf8.first", laid_unicode_utf8_first)], narrowed := true }
def ReviewMergesUptoSaid : Prop := reviewMergesUptoRow.holds Tryz.pinned (OpenSpec.upto reviewMergesSpec)

/-- 'modcertlaw54.ReviewDecides', WHERE WHAT IT READS IS OF BULK AT MOST 1048576: true; the input reads as it did. -/
def reviewDecidesUptoRow : OpenClaim := { program := "ytnijhlphcjjpbaagreatdoor", sum := "e517e868cdc091b993432e0307d256a0a78a7212ee34cfce32c2404065c5a601", func := "modcert/modcertlaw54.ReviewDecides", spec := "reviewDecides", inPlace := ["internal/abi.NoEscape", "internal/bytealg.MakeNoZero", "internal/bytealg.CountString", "internal/bytealg.IndexByteString", "internal/bytealg.IndexString", "slices.overlaps[modcert/api.KeyUse]", "slices.overlaps[modcert/api.Vote]"], unfollowed := true, recurses := true, named := ["unicode/utf8.first", "unicode/utf8.acceptRanges", "internal/bytealg.MaxLen"], apart := false, laid := [("unicode/utf8.acceptRanges", laid_unicode_utf8_acceptRanges), ("unicode/utf8.first", laid_unicode_utf8_first)], narrowed := true }
def ReviewDecidesUptoSaid : Prop := reviewDecidesUptoRow.holds Tryz.pinned (OpenSpec.upto reviewDecidesSpec)

/-- 'modcertlaw54.ReviewOnce', WHERE WHAT IT READS IS OF BULK AT MOST 1048576: true; the input reads as it did. -/
def reviewOnceUptoRow : OpenClaim := { program := "ytnijhlphcjjpbaagreatdoor", sum := "e517e868cdc091b993432e0307d256a0a78a7212ee34cfce32c2404065c5a601", func := "modcert/modcertlaw54.ReviewOnce", spec := "reviewOnce", inPlace := ["internal/abi.NoEscape", "internal/bytealg.MakeNoZero", "internal/bytealg.CountString", "internal/bytealg.IndexByteString", "internal/bytealg.IndexString", "slices.overlaps[modcert/api.KeyUse]", "slices.overlaps[modcert/api.Vote]"], unfollowed := true, recurses := true, named := ["unicode/utf8.first", "unicode/utf8.acceptRanges", "internal/bytealg.MaxLen"], apart := false, laid := [("unicode/utf8.acceptRanges", laid_unicode_utf8_acceptRanges), ("unicode/utf8.first", laid_unicode_utf8_first)], narrowed := true }
def ReviewOnceUptoSaid : Prop := reviewOnceUptoRow.holds Tryz.pinned (OpenSpec.upto reviewOnceSpec)

/-- 'modcertlaw54.ReviewMembers', WHERE WHAT IT READS IS OF BULK AT MOST 1048576: true; the input reads as it did. -/
def reviewMembersUptoRow : OpenClaim := { program := "ytnijhlphcjjpbaagreatdoor", sum := "e517e868cdc091b993432e0307d256a0a78a7212ee34cfce32c2404065c5a601", func := "modcert/modcertlaw54.ReviewMembers", spec := "reviewMembers", inPlace := ["internal/abi.NoEscape", "internal/bytealg.MakeNoZero", "internal/bytealg.CountString", "internal/bytealg.IndexByteString", "internal/bytealg.IndexString", "slices.overlaps[modcert/api.KeyUse]", "slices.overlaps[modcert/api.Vote]"], unfollowed := true, recurses := true, named := ["unicode/utf8.first", "unicode/utf8.acceptRanges", "internal/bytealg.MaxLen"], apart := false, laid := [("unicode/utf8.acceptRanges", laid_unicode_utf8_acceptRanges), ("unicode/utf8.first", laid_unicode_utf8_first)], narrowed := true }
def ReviewMembersUptoSaid : Prop := reviewMembersUptoRow.holds Tryz.pinned (OpenSpec.upto reviewMembersSpec)

/-- 'modcertlaw54.ReviewOrder', WHERE WHAT IT READS IS OF BULK AT MOST 1048576: true; the input reads as it did. -/
def reviewOrderUptoRow : OpenClaim := { program := "ytnijhlphcjjpbaagreatdoor", sum := "e517e868cdc091b993432e0307d256a0a78a7212ee34cfce32c2404065c5a601", func := "modcert/modcertlaw54.ReviewOrder", spec := "reviewOrder", inPlace := ["internal/abi.NoEscape", "internal/bytealg.MakeNoZero", "internal/bytealg.CountString", "internal/bytealg.IndexByteString", "internal/bytealg.IndexString", "slices.overlaps[modcert/api.KeyUse]", "slices.overlaps[modcert/api.Vote]"], unfollowed := true, recurses := true, named := ["unicode/utf8.first", "unicode/utf8.acceptRanges", "internal/bytealg.MaxLen"], apart := false, laid := [("unicode/utf8.acceptRanges", laid_unicode_utf8_acceptRanges), ("unicode/utf8.first", laid_unicode_utf8_first)], narrowed := true }
def ReviewOrderUptoSaid : Prop := reviewOrderUptoRow.holds Tryz.pinned (OpenSpec.upto reviewOrderSpec)

end Rows
end Go.Proofs.YtnijhlphcjjpbaaGreatDoor
