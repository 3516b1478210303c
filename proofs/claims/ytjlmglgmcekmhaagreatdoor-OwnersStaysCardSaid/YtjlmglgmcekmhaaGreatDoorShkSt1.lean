/- OwnersStays returns true for every input; the input reads as it did. -/
import Derived.Test.YtjlmglgmcekmhaaGreatDoorRows
import Derived.Test.YtjlmglgmcekmhaaGreatDoorCards
import Derived.Test.YtjlmglgmcekmhaaGreatDoorTie
import Derived.ProofKit
import Derived.OpenShut
import Derived.LaidMore
import Derived.Lay
import Derived.SevenTiedAt
import Derived.Stop.Joined
set_option linter.unusedVariables false
set_option linter.unusedSimpArgs false
namespace Go.Proofs.YtjlmglgmcekmhaaGreatDoor
section
open Go Go.ChangeShapes Go.WideShapes Go.ChangeAt Go.RowKit
theorem zeW (h:∀ (os:Os) (started:os.Started) (H:Type) (enc:TypeId × Value->H),
 ReturnsInHanded {} Tryz.checked os 6 .any (fun w args=>(Rows.ownersStaysSpec.pre enc Tryz.prog Tryz.f6 Rows.ownersStaysRow.domain false w args/\laidMetH Tryz.prog Rows.ownersStaysRow.laid w)/\sizedMet enc Tryz.prog Tryz.f6 (OpenSpec.ofChange Rows.ownersStaysSpec) false w args)
  (Rows.ownersStaysSpec.post enc Tryz.prog Tryz.f6 false true false false)):Rows.OwnersStaysSaid:=
 OpenClaim.holds_of_wide 6 Tryz.f6 rfl rfl rfl rfl rfl rfl rfl ⟨rfl,rfl,rfl,rfl,rfl⟩ rfl rfl rfl rfl rfl (by kernel_rfl) Tryz.func6 (by kernel_rfl)
  (of_decide_eq_true (by kernel_rfl)) (by unfold Func.isWrapper;first|(rw[if_pos (by decide +kernel)];kernel_rfl)|(rw[if_neg (by decide +kernel)];exact⟨rfl,rfl⟩))
  (fun os started H enc _=>h os started H enc)
end
end Go.Proofs.YtjlmglgmcekmhaaGreatDoor
