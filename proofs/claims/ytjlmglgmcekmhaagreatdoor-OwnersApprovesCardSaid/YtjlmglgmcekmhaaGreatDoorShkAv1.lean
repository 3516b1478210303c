/- OwnersApproves returns true for every input; the input reads as it did. -/
import Derived.Test.YtjlmglgmcekmhaaGreatDoorRows
import Derived.Test.YtjlmglgmcekmhaaGreatDoorCards
import Derived.Test.YtjlmglgmcekmhaaGreatDoorTie
import Derived.ProofKit
import Derived.OpenShut
import Derived.LaidMore
import Derived.Lay
import Derived.SevenTiedAt
import Derived.Stop.Joined
set_option linter.unusedVariables false
set_option linter.unusedSimpArgs false
namespace Go.Proofs.YtjlmglgmcekmhaaGreatDoor
section
open Go Go.ChangeShapes Go.WideShapes Go.ChangeAt Go.RowKit
theorem zbU (h:∀ (os:Os) (started:os.Started) (H:Type) (enc:TypeId × Value->H),
 ReturnsInHanded {} Tryz.checked os 7 .any (fun w args=>(Rows.ownersApprovesSpec.pre enc Tryz.prog Tryz.f7 Rows.ownersApprovesRow.domain false w args/\laidMetH Tryz.prog Rows.ownersApprovesRow.laid w)/\sizedMet enc Tryz.prog Tryz.f7 (OpenSpec.ofChange Rows.ownersApprovesSpec) false w args)
  (Rows.ownersApprovesSpec.post enc Tryz.prog Tryz.f7 false true false false)):Rows.OwnersApprovesSaid:=
 OpenClaim.holds_of_wide 7 Tryz.f7 rfl rfl rfl rfl rfl rfl rfl ⟨rfl,rfl,rfl,rfl,rfl⟩ rfl rfl rfl rfl rfl (by kernel_rfl) Tryz.func7 (by kernel_rfl)
  (of_decide_eq_true (by kernel_rfl)) (by unfold Func.isWrapper;first|(rw[if_pos (by decide +kernel)];kernel_rfl)|(rw[if_neg (by decide +kernel)];exact⟨rfl,rfl⟩))
  (fun os started H enc _=>h os started H enc)
end
end Go.Proofs.YtjlmglgmcekmhaaGreatDoor
