/-
  NARROWER THAN 'FOR EVERY INPUT', by the rows' own cells (each row's printed sentence says how): OwnersApplies: laid · OwnersBytes: laid · OwnersNearest: laid · OwnersStays: laid · OwnersApproves: laid · OwnersQuorum: laid · OwnersOnce: laid · OwnersRotates: laid.
  DERIVED. THE GIVEN ROWS OF THIS SEAT. 8 by the template 'for every input the law returns true; each argument reads behind the call as it read before'; 0 by the template 'total and deterministic' (their statements: YtjlmglgmcekmhaaGreatDoorTotals.lean).
  GIVEN WITH THE SEED: the statements are not yours to turn. If you find one false, say at which input.
  Laid BY PROGRAM, IN A SANDBOX (cutbox-rows.mjs): the forced cells as the released guide's own fill.sh prints them over the translation a22024aca222449e… (all of the seat's roots in one cut). By AI agents, Wed Nov 11 2026. No macro, syntax, notation, axiom, sorry.
-/
import Derived.Test.YtjlmglgmcekmhaaGreatDoorChecked
import GoSem.PinnedTables
import GoSem.Claim
import GoSem.ClaimJoined
import GoSem.ClaimMapViews
import Derived.JoinedTies
import Derived.KernelRfl
namespace Go.Proofs.YtjlmglgmcekmhaaGreatDoor
/- THE CELL 'sum', in the pinned program and in every row, IS THE sha256 OF THE DUMP (.gsa) THAT YtjlmglgmcekmhaaGreatDoorProg.lean LOADS. Nothing in Lean hashes anything: it is a label: what it is worth is what the hold of that sum in a sandbox is worth. -/
noncomputable def Tryz.pinned : Pinned := { name := "ytjlmglgmcekmhaagreatdoor", sum := "a22024aca222449e64a4177626a421f5e8378c9ace541daf0321031f816aa113", checked := Tryz.checked }
namespace Rows
def none {H : Type} : Left H := { results := [], args := [] }

/- WHAT THE LISTED PACKAGE-LEVEL VARIABLES READ AS WHEN THE CALL BEGINS. Each datum BY PROGRAM (the guide's laid-datum.mjs) off the statement by which the dump's own 'gosem.cut.vars' lays the variable. In a bare row this is a premise. The card (YtjlmglgmcekmhaaGreatDoorCards.lean) ties it to the program's text. -/
def laid_unicode_utf8_acceptRanges {H : Type} : DataW H := .agg [.agg [.lit (.int .u8 128), .lit (.int .u8 191)], .agg [.lit (.int .u8 160), .lit (.int .u8 191)], .agg [.lit (.int .u8 128), .lit (.int .u8 159)], .agg [.lit (.int .u8 144), .lit (.int .u8 191)], .agg [.lit (.int .u8 128), .lit (.int .u8 143)], .agg [.lit (.int .u8 0), .lit (.int .u8 0)], .agg [.lit (.int .u8 0), .lit (.int .u8 0)], .agg [.lit (.int .u8 0), .lit (.int .u8 0)], .agg [.lit (.int .u8 0), .lit (.int .u8 0)], .agg [.lit (.int .u8 0), .lit (.int .u8 0)], .agg [.lit (.int .u8 0), .lit (.int .u8 0)], .agg [.lit (.int .u8 0), .lit (.int .u8 0)], .agg [.lit (.int .u8 0), .lit (.int .u8 0)], .agg [.lit (.int .u8 0), .lit (.int .u8 0)], .agg [.lit (.int .u8 0), .lit (.int .u8 0)], .agg [.lit (.int .u8 0), .lit (.int .u8 0)]]
/-- One of Go's own tables, pinned by name: the form's constant. -/
def laid_unicode_utf8_first : DataW Unit := Go.Pinned.utf8First

/-- 'modcertlaw53.OwnersApplies': WHATEVER THE INPUT: true; the input reads as it did. -/
def ownersAppliesSpec : ChangeSpec := { name := "ownersApplies", fn := fun _ => fun
  | [d1, d2, d3] => { results := [.lit (.bool true)], args := [d1, d2, d3] }
  | _ => none }
def ownersAppliesRow : OpenClaim := { program := "ytjlmglgmcekmhaagreatdoor", sum := "a22024aca222449e64a4177626a421f5e8378c9ace541daf0321031f816aa113", func := "modcert/modcertlaw53.OwnersApplies", spec := "ownersApplies", inPlace := ["internal/abi.NoEscape", "internal/bytealg.MakeNoZero", "internal/bytealg.CountString", "internal/bytealg.IndexByteString", "internal/bytealg.IndexString", "slices.overlaps[modcert/api.KeyUse]", "slices.overlaps[modcert/api.Space]"], unfollowed := true, recurses := true, named := ["unicode/utf8.first", "unicode/utf8.acceptRanges", "internal/bytealg.MaxLen"], apart := false, laid := [("unicode/utf8.acceptRanges", laid_unicode_utf8_acceptRanges), ("unicode/utf8.first", laid_unicode_utf8_first)] }
def OwnersAppliesSaid : Prop := ownersAppliesRow.holds Tryz.pinned (OpenSpec.ofChange ownersAppliesSpec)

/-- ITS FALSE NEIGHBOUR: 'it returns false'. Refute it at one input. -/
def ownersAppliesWrong : ChangeSpec := { name := "ownersApplies", fn := fun _ => fun
  | [d1, d2, d3] => { results := [.lit (.bool false)], args := [d1, d2, d3] }
  | _ => none }
def OwnersAppliesWrongFalsely : Prop := ownersAppliesRow.holds Tryz.pinned (OpenSpec.ofChange ownersAppliesWrong)

/-- 'modcertlaw53.OwnersBytes': WHATEVER THE INPUT: true; the input reads as it did. -/
def ownersBytesSpec : ChangeSpec := { name := "ownersBytes", fn := fun _ => fun
  | [d1, d2] => { results := [.lit (.bool true)], args := [d1, d2] }
  | _ => none }
def ownersBytesRow : OpenClaim := { program := "ytjlmglgmcekmhaagreatdoor", sum := "a22024aca222449e64a4177626a421f5e8378c9ace541daf0321031f816aa113", func := "modcert/modcertlaw53.OwnersBytes", spec := "ownersBytes", inPlace := ["internal/abi.NoEscape", "internal/bytealg.MakeNoZero", "internal/bytealg.CountString", "internal/bytealg.IndexByteString", "internal/bytealg.IndexString", "slices.overlaps[modcert/api.KeyUse]", "slices.overlaps[modcert/api.Space]"], unfollowed := true, recurses := true, named := ["unicode/utf8.first", "unicode/utf8.acceptRanges", "internal/bytealg.MaxLen"], apart := false, laid := [("unicode/utf8.acceptRanges", laid_unicode_utf8_acceptRanges), ("unicode/utf8.first", laid_unicode_utf8_first)] }
def OwnersBytesSaid : Prop := ownersBytesRow.holds Tryz.pinned (OpenSpec.ofChange ownersBytesSpec)

/-- ITS FALSE NEIGHBOUR: 'it returns false'. Refute it at one input. -/
def ownersBytesWrong : ChangeSpec := { name := "ownersBytes", fn := fun _ => fun
  | [d1, d2] => { results := [.lit (.bool false)], args := [d1, d2] }
  | _ => none }
def OwnersBytesWrongFalsely : Prop := ownersBytesRow.holds Tryz.pinned (OpenSpec.ofChange ownersBytesWrong)

/-- 'modcertlaw53.OwnersNearest': WHATEVER THE INPUT: true; the input reads as it did. -/
def ownersNearestSpec : ChangeSpec := { name := "ownersNearest", fn := fun _ => fun
  | [d1, d2, d3] => { results := [.lit (.bool true)], args := [d1, d2, d3] }
  | _ => none }
def ownersNearestRow : OpenClaim := { program := "ytjlmglgmcekmhaagreatdoor", sum := "a22024aca222449e64a4177626a421f5e8378c9ace541daf0321031f816aa113", func := "modcert/modcertlaw53.OwnersNearest", spec := "ownersNearest", inPlace := ["internal/abi.NoEscape", "internal/bytealg.MakeNoZero", "internal/bytealg.CountString", "internal/bytealg.IndexByteString", "internal/bytealg.IndexString", "slices.overlaps[modcert/api.KeyUse]", "slices.overlaps[modcert/api.Space]"], unfollowed := true, recurses := true, named := ["unicode/utf8.first", "unicode/utf8.acceptRanges", "internal/bytealg.MaxLen"], apart := false, laid := [("unicode/utf8.acceptRanges", laid_unicode_utf8_acceptRanges), ("unicode/utf8.first", laid_unicode_utf8_first)] }
def OwnersNearestSaid : Prop := ownersNearestRow.holds Tryz.pinned (OpenSpec.ofChange ownersNearestSpec)

/-- ITS FALSE NEIGHBOUR: 'it returns false'. Refute it at one input. -/
def ownersNearestWrong : ChangeSpec := { name := "ownersNearest", fn := fun _ => fun
  | [d1, d2, d3] => { results := [.lit (.bool false)], args := [d1, d2, d3] }
  | _ => none }
def OwnersNearestWrongFalsely : Prop := ownersNearestRow.holds Tryz.pinned (OpenSpec.ofChange ownersNearestWrong)

/-- 'modcertlaw53.OwnersStays': WHATEVER THE INPUT: true; the input reads as it did. -/
def ownersStaysSpec : ChangeSpec := { name := "ownersStays", fn := fun _ => fun
  | [d1, d2] => { results := [.lit (.bool true)], args := [d1, d2] }
  | _ => none }
def ownersStaysRow : OpenClaim := { program := "ytjlmglgmcekmhaagreatdoor", sum := "a22024aca222449e64a4177626a421f5e8378c9ace541daf0321031f816aa113", func := "modcert/modcertlaw53.OwnersStays", spec := "ownersStays", inPlace := ["internal/abi.NoEscape", "internal/bytealg.MakeNoZero", "internal/bytealg.CountString", "internal/bytealg.IndexByteString", "internal/bytealg.IndexString", "slices.overlaps[modcert/api.KeyUse]", "slices.overlaps[modcert/api.Space]"], unfollowed := true, recurses := true, named := ["unicode/utf8.first", "unicode/utf8.acceptRanges", "internal/bytealg.MaxLen"], apart := false, laid := [("unicode/utf8.acceptRanges", laid_unicode_utf8_acceptRanges), ("unicode/utf8.first", laid_unicode_utf8_first)] }
def OwnersStaysSaid : Prop := ownersStaysRow.holds Tryz.pinned (OpenSpec.ofChange ownersStaysSpec)

/-- ITS FALSE NEIGHBOUR: 'it returns false'. Refute it at one input. -/
def ownersStaysWrong : ChangeSpec := { name := "ownersStays", fn := fun _ => fun
  | [d1, d2] => { results := [.lit (.bool false)], args := [d1, d2] }
  | _ => none }
def OwnersStaysWrongFalsely : Prop := ownersStaysRow.holds Tryz.pinned (OpenSpec.ofChange ownersStaysWrong)

/-- 'modcertlaw53.OwnersApproves': WHATEVER THE INPUT: true; the input reads as it did. -/
def ownersApprovesSpec : ChangeSpec := { name := "ownersApproves", fn := fun _ => fun
  | [d1, d2, d3, d4] => { results := [.lit (.bool true)], args := [d1, d2, d3, d4] }
  | _ => none }
def ownersApprovesRow : OpenClaim := { program := "ytjlmglgmcekmhaagreatdoor", sum := "a22024aca222449e64a4177626a421f5e8378c9ace541daf0321031f816aa113", func := "modcert/modcertlaw53.OwnersApproves", spec := "ownersApproves", inPlace := ["internal/abi.NoEscape", "internal/bytealg.MakeNoZero", "internal/bytealg.CountString", "internal/bytealg.IndexByteString", "internal/bytealg.IndexString", "slices.overlaps[modcert/api.KeyUse]", "slices.overlaps[modcert/api.Space]"], unfollowed := true, recurses := true, named := ["unicode/utf8.first", "unicode/utf8.acceptRanges", "internal/bytealg.MaxLen"], apart := false, laid := [("unicode/utf8.acceptRanges", laid_unicode_utf8_acceptRanges), ("unicode/utf8.first", laid_unicode_utf8_first)] }
def OwnersApprovesSaid : Prop := ownersApprovesRow.holds Tryz.pinned (OpenSpec.ofChange ownersApprovesSpec)

/-- ITS FALSE NEIGHBOUR: 'it returns false'. Refute it at one input. -/
def ownersApprovesWrong : ChangeSpec := { name := "ownersApproves", fn := fun _ => fun
  | [d1, d2, d3, d4] => { results := [.lit (.bool false)], args := [d1, d2, d3, d4] }
  | _ => none }
def OwnersApprovesWrongFalsely : Prop := ownersApprovesRow.holds Tryz.pinned (OpenSpec.ofChange ownersApprovesWrong)

/-- 'modcertlaw53.OwnersQuorum': WHATEVER THE INPUT: true; the input reads as it did. -/
def ownersQuorumSpec : ChangeSpec := { name := "ownersQuorum", fn := fun _ => fun
  | [d1, d2, d3, d4] => { results := [.lit (.bool true)], args := [d1, d2, d3, d4] }
  | _ => none }
def ownersQuorumRow : OpenClaim := { program := "ytjlmglgmcekmhaagreatdoor", sum := "a22024aca222449e64a4177626a421f5e8378c9ace541daf0321031f816aa113", func := "modcert/modcertlaw53.OwnersQuorum", spec := "ownersQuorum", inPlace := ["internal/abi.NoEscape", "internal/bytealg.MakeNoZero", "internal/bytealg.CountString", "internal/bytealg.IndexByteString", "internal/bytealg.IndexString", "slices.overlaps[modcert/api.KeyUse]", "slices.overlaps[modcert/api.Space]"], unfollowed := true, recurses := true, named := ["unicode/utf8.first", "unicode/utf8.acceptRanges", "internal/bytealg.MaxLen"], apart := false, laid := [("unicode/utf8.acceptRanges", laid_unicode_utf8_acceptRanges), ("unicode/utf8.first", laid_unicode_utf8_first)] }
def OwnersQuorumSaid : Prop := ownersQuorumRow.holds Tryz.pinned (OpenSpec.ofChange ownersQuorumSpec)

/-- ITS FALSE NEIGHBOUR: 'it returns false'. Refute it at one input. -/
def ownersQuorumWrong : ChangeSpec := { name := "ownersQuorum", fn := fun _ => fun
  | [d1, d2, d3, d4] => { results := [.lit (.bool false)], args := [d1, d2, d3, d4] }
  | _ => none }
def OwnersQuorumWrongFalsely : Prop := ownersQuorumRow.holds Tryz.pinned (OpenSpec.ofChange ownersQuorumWrong)

/-- 'modcertlaw53.OwnersOnce': WHATEVER THE INPUT: true; the input reads as it did. -/
def ownersOnceSpec : ChangeSpec := { name := "ownersOnce", fn := fun _ => fun
  | [d1, d2] => { results := [.lit (.bool true)], args := [d1, d2] }
  | _ => none }
def ownersOnceRow : OpenClaim := { program := "ytjlmglgmcekmhaagreatdoor", sum := "a22024aca222449e64a4177626a421f5e8378c9ace541daf0321031f816aa113", func := "modcert/modcertlaw53.OwnersOnce", spec := "ownersOnce", inPlace := ["internal/abi.NoEscape", "internal/bytealg.MakeNoZero", "internal/bytealg.CountString", "internal/bytealg.IndexByteString", "internal/bytealg.IndexString", "slices.overlaps[modcert/api.KeyUse]", "slices.overlaps[modcert/api.Space]"], unfollowed := true, recurses := true, named := ["unicode/utf8.first", "unicode/utf8.acceptRanges", "internal/bytealg.MaxLen"], apart := false, laid := [("unicode/utf8.acceptRanges", laid_unicode_utf8_acceptRanges), ("unicode/utf8.first", laid_unicode_utf8_first)] }
def OwnersOnceSaid : Prop := ownersOnceRow.holds Tryz.pinned (OpenSpec.ofChange ownersOnceSpec)

/-- ITS FALSE NEIGHBOUR: 'it returns false'. Refute it at one input. -/
def ownersOnceWrong : ChangeSpec := { name := "ownersOnce", fn := fun _ => fun
  | [d1, d2] => { results := [.lit (.bool false)], args := [d1, d2] }
  | _ => none }
def OwnersOnceWrongFalsely : Prop := ownersOnceRow.holds Tryz.pinned (OpenSpec.ofChange ownersOnceWrong)

/-- 'modcertlaw53.OwnersRotates': WHATEVER THE INPUT: true; the input reads as it did. -/
def ownersRotatesSpec : ChangeSpec := { name := "ownersRotates", fn := fun _ => fun
  | [d1, d2, d3] => { results := [.lit (.bool true)], args := [d1, d2, d3] }
  | _ => none }
def ownersRotatesRow : OpenClaim := { program := "ytjlmglgmcekmhaagreatdoor", sum := "a22024aca222449e64a4177626a421f5e8378c9ace541daf0321031f816aa113", func := "modcert/modcertlaw53.OwnersRotates", spec := "ownersRotates", inPlace := ["internal/abi.NoEscape", "internal/bytealg.MakeNoZero", "internal/bytealg.CountString", "internal/bytealg.IndexByteString", "internal/bytealg.IndexString", "slices.overlaps[modcert/api.KeyUse]", "slices.overlaps[modcert/api.Space]"], unfollowed := true, recurses := true, named := ["unicode/utf8.first", "unicode/utf8.acceptRanges", "internal/bytealg.MaxLen"], apart := false, laid := [("unicode/utf8.acceptRanges", laid_unicode_utf8_acceptRanges), ("unicode/utf8.first", laid_unicode_utf8_first)] }
def OwnersRotatesSaid : Prop := ownersRotatesRow.holds Tryz.pinned (OpenSpec.ofChange ownersRotatesSpec)

/-- ITS FALSE NEIGHBOUR: 'it returns false'. Refute it at one input. -/
def ownersRotatesWrong : ChangeSpec := { name := "ownersRotates", fn := fun _ => fun
  | [d1, d2, d3] => { results := [.lit (.bool false)], args := [d1, d2, d3] }
  | _ => none }
def OwnersRotatesWrongFalsely : Prop := ownersRotatesRow.holds Tryz.pinned (OpenSpec.ofChange ownersRotatesWrong)

/- THE SECOND FORM. 'bulk': how many values and letters a reading holds, each counted each time it is reached (what is shared counts as often as it is met; a slice's spare places count too). A statement '..UptoSaid' is the law's where the arguments, and the package variables that the reading takes, are together of bulk at most 1048576: NARROWER than '..Said'. Prove '..Said' where nothing that the law and all that it calls make is longer than what came in: it says more and counts as full. Else prove '..UptoSaid'. A law counts once. -/
mutual
def uptoBulk {H : Type} : DataW H → Nat
  | .lit (.string bytes) => bytes.length + 1
  | .lit _ => 1
  | .nil => 1
  | .ptr d => uptoBulk d + 1
  | .slice elems spare => uptoBulkAll elems + uptoBulkAll spare + 1
  | .agg parts => uptoBulkAll parts + 1
  | .iface _ d => uptoBulk d + 1
  | .map entries => uptoBulkEntries entries + 1
  | .held _ => 1
def uptoBulkAll {H : Type} : List (DataW H) → Nat
  | [] => 0
  | d :: r => uptoBulk d + uptoBulkAll r
def uptoBulkEntries {H : Type} : List (Lit × DataW H) → Nat
  | [] => 0
  | x :: r => uptoBulkEntry x + uptoBulkEntries r
def uptoBulkEntry {H : Type} : Lit × DataW H → Nat
  | (.string bytes, d) => bytes.length + uptoBulk d + 1
  | (_, d) => uptoBulk d + 1
 end
def uptoSmall : (H : Type) → List (DataW H) → Bool := fun _ ds => decide (uptoBulkAll ds ≤ 1048576)
def OpenSpec.upto (s : _root_.Go.ChangeSpec) : _root_.Go.OpenSpec := { _root_.Go.OpenSpec.ofChange s with cond := some uptoSmall }

/-- 'modcertlaw53.OwnersApplies', WHERE WHAT IT READS IS OF BULK AT MOST 1048576: true; the input reads as it did. -/
def ownersAppliesUptoRow : OpenClaim := { program := "ytjlmglgmcekmhaagreatdoor", sum := "a22024aca222449e64a4177626a421f5e8378c9ace541daf0321031f816aa113", func := "modcert/modcertlaw53.OwnersApplies", spec := "ownersApplies", inPlace := ["internal/abi.NoEscape", "internal/bytealg.MakeNoZero", "internal/bytealg.CountString", "internal/bytealg.IndexByteString", "internal/bytealg.IndexString", "slices.overlaps[modcert/api.KeyUse]", "slices.overlaps[modcert/api.Space]"], unfollowed := true, recurses := true, named := ["unicode/utf8.first", "unicode/utf8.acceptRanges", "internal/bytealg.MaxLen"], apart := false, laid := [("unicode/utf8.acceptRanges", laid_unicode_utf8_acceptRanges), ("unicode/utf8.first", laid_unicode_utf8_first)], narrowed := true }
def OwnersAppliesUptoSaid : Prop := ownersAppliesUptoRow.holds Tryz.pinned (OpenSpec.upto ownersAppliesSpec)

/-- 'modcertlaw53.OwnersBytes', WHERE WHAT IT READS IS OF BULK AT MOST 1048576: true; the input reads as it did. -/
def ownersBytesUptoRow : OpenClaim := { program := "ytjlmglgmcekmhaagreatdoor", sum := "a22024aca222449e64a4177626a421f5e8378c9ace541daf0321031f816aa113", func := "modcert/modcertlaw53.OwnersBytes", spec := "ownersBytes", inPlace := ["internal/abi.NoEscape", "internal/bytealg.MakeNoZero", "internal/bytealg.CountString", "internal/bytealg.IndexByteString", "internal/bytealg.IndexString", "slices.overlaps[modcert/api.KeyUse]", "slices.overlaps[modcert/api.Space]"], unfollowed := true, recurses := true, named := ["unicode/utf8.first", "unicode/utf8.acceptRanges", "internal/bytealg.MaxLen"], apart := false, laid := [("unicode/utf8.acceptRanges", laid_unicode_utf8_acceptRanges), ("unicode/utf8.first", laid_unicode_utf8_first)], narrowed := true }
def OwnersBytesUptoSaid : Prop := ownersBytesUptoRow.holds Tryz.pinned (OpenSpec.upto ownersBytesSpec)

/-- 'modcertlaw53.OwnersNearest', WHERE WHAT IT READS IS OF BULK AT MOST 1048576: true; the input reads as it did. -/
def ownersNearestUptoRow : OpenClaim := { program := "ytjlmglgmcekmhaagreatdoor", sum := "a22024aca222449e64a4177626a421f5e8378c9ace541daf0321031f816aa113", func := "modcert/modcertlaw53.OwnersNearest", spec := "ownersNearest", inPlace := ["internal/abi.NoEscape", "internal/bytealg.MakeNoZero", "internal/bytealg.CountString", "internal/bytealg.IndexByteString", "internal/bytealg.IndexString", "slices.overlaps[modcert/api.KeyUse]", "slices.overlaps[modcert/api.Space]"], unfollowed := true, recurses := true, named := ["unicode/utf8.first", "unicode/utf8.acceptRanges", "internal/bytealg.MaxLen"], apart := false, laid := [("unicode/utf8.acceptRanges", laid_unicode_utf8_acceptRanges), ("unicode/utf8.first", laid_unicode_utf8_first)], narrowed := true }
def OwnersNearestUptoSaid : Prop := ownersNearestUptoRow.holds Tryz.pinned (OpenSpec.upto ownersNearestSpec)

/-- 'modcertlaw53.OwnersStays', WHERE WHAT IT READS IS OF BULK AT MOST 1048576: true; the input reads as it did. -/
def ownersStaysUptoRow : OpenClaim := { program := "ytjlmglgmcekmhaagreatdoor", sum := "a22024aca222449e64a4177626a421f5e8378c9ace541daf0321031f816aa113", func := "modcert/modcertlaw53.OwnersStays", spec := "ownersStays", inPlace := ["internal/abi.NoEscape", "internal/bytealg.MakeNoZero", "internal/bytealg.CountString", "internal/bytealg.IndexByteString", "internal/bytealg.IndexString", "slices.overlaps[modcert/api.KeyUse]", "slices.overlaps[modcert/api.Space]"], unfollowed := true, recurses := true, named := ["unicode/utf8.first", "unicode/utf8.acceptRanges", "internal/bytealg.MaxLen"], apart := false, laid := [("unicode/utf8.acceptRanges", laid_unicode_utf8_acceptRanges), ("unicode/utf8.first", laid_unicode_utf8_first)], narrowed := true }
def OwnersStaysUptoSaid : Prop := ownersStaysUptoRow.holds Tryz.pinned (OpenSpec.upto ownersStaysSpec)

/-- 'modcertlaw53.OwnersApproves', WHERE WHAT IT READS IS OF BULK AT MOST 1048576: true; the input reads as it did. -/
def ownersApprovesUptoRow : OpenClaim := { program := "ytjlmglgmcekmhaagreatdoor", sum := "a22024aca222449e64a4177626a421f5e8378c9ace541daf0321031f816aa113", func := "modcert/modcertlaw53.OwnersApproves", spec := "ownersApproves", inPlace := ["internal/abi.NoEscape", "internal/bytealg.MakeNoZero", "internal/bytealg.CountString", "internal/bytealg.IndexByteString", "internal/bytealg.IndexString", "slices.overlaps[modcert/api.KeyUse]", "slices.overlaps[modcert/api.Space]"], unfollowed := true, recurses := true, named := ["unicode/utf8.first", "unicode/utf8.acceptRanges", "internal/bytealg.MaxLen"], apart := false, laid := [("unicode/utf8.acceptRanges", laid_unicode_utf8_acceptRanges), ("unicode/utf8.first", laid_unicode_utf8_first)], narrowed := true }
def OwnersApprovesUptoSaid : Prop := ownersApprovesUptoRow.holds Tryz.pinned (OpenSpec.upto ownersApprovesSpec)

/-- 'modcertlaw53.OwnersQuorum', WHERE WHAT IT READS IS OF BULK AT MOST 1048576: true; the input reads as it did. -/
def ownersQuorumUptoRow : OpenClaim := { program := "ytjlmglgmcekmhaagreatdoor", sum := "a22024aca222449e64a4177626a421f5e8378c9ace541daf0321031f816aa113", func := "modcert/modcertlaw53.OwnersQuorum", spec := "ownersQuorum", inPlace := ["internal/abi.NoEscape", "internal/bytealg.MakeNoZero", "internal/bytealg.CountString", "internal/bytealg.IndexByteString", "internal/bytealg.IndexString", "slices.overlaps[modcert/api.KeyUse]", "slices.overlaps[modcert/api.Space]"], unfollowed := true, recurses := true, named := ["unicode/utf8.first", "unicode/utf8.acceptRanges", "internal/bytealg.MaxLen"], apart := false, laid := [("unicode/utf8.acceptRanges", laid_unicode_utf8_acceptRanges), ("unicode/utf8.first", laid_unicode_utf8_first)], narrowed := true }
def OwnersQuorumUptoSaid : Prop := ownersQuorumUptoRow.holds Tryz.pinned (OpenSpec.upto ownersQuorumSpec)

/-- 'modcertlaw53.OwnersOnce', WHERE WHAT IT READS IS OF BULK AT MOST 1048576: true; the input reads as it did. -/
def ownersOnceUptoRow : OpenClaim := { program := "ytjlmglgmcekmhaagreatdoor", sum := "a22024aca222449e64a4177626a421f5e8378c9ace541daf0321031f816aa113", func := "modcert/modcertlaw53.OwnersOnce", spec := "ownersOnce", inPlace := ["internal/abi.NoEscape", "internal/bytealg.MakeNoZero", "internal/bytealg.CountString", "internal/bytealg.IndexByteString", "internal/bytealg.IndexString", "slices.overlaps[modcert/api.KeyUse]", "slices.overlaps[modcert/api.Space]"], unfollowed := true, recurses := true, named := ["unicode/utf8.first", "unicode/utf8.acceptRanges", "internal/bytealg.MaxLen"], apart := false, laid := [("unicode/utf8.acceptRanges", laid_unicode_utf8_acceptRanges), ("unicode/utf8.first", laid_unicode_utf8_first)], narrowed := true }
def OwnersOnceUptoSaid : Prop := ownersOnceUptoRow.holds Tryz.pinned (OpenSpec.upto ownersOnceSpec)

/-- 'modcertlaw53.OwnersRotates', WHERE WHAT IT READS IS OF BULK AT MOST 1048576: true; the input reads as it did. -/
def ownersRotatesUptoRow : OpenClaim := { program := "ytjlmglgmcekmhaagreatdoor", sum := "a22024aca222449e64a4177626a421f5e8378c9ace541daf0321031f816aa113", func := "modcert/modcertlaw53.OwnersRotates", spec := "ownersRotates", inPlace := ["internal/abi.NoEscape", "internal/bytealg.MakeNoZero", "internal/bytealg.CountString", "internal/bytealg.IndexByteString", "internal/bytealg.IndexString", "slices.overlaps[modcert/api.KeyUse]", "slices.overlaps[modcert/api.Space]"], unfollowed := true, recurses := true, named := ["unicode/utf8.first", "unicode/utf8.acceptRanges", "internal/bytealg.MaxLen"], apart := false, laid := [("unicode/utf8.acceptRanges", laid_unicode_utf8_acceptRanges), ("unicode/utf8.first", laid_unicode_utf8_first)], narrowed := true }
def OwnersRotatesUptoSaid : Prop := ownersRotatesUptoRow.holds Tryz.pinned (OpenSpec.upto ownersRotatesSpec)

end Rows
end Go.Proofs.YtjlmglgmcekmhaaGreatDoor
