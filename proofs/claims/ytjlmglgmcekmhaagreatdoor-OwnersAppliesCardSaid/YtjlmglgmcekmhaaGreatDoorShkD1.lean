/- OwnersApplies returns true for every input; the input reads as it did. -/
import Derived.Test.YtjlmglgmcekmhaaGreatDoorRows
import Derived.Test.YtjlmglgmcekmhaaGreatDoorCards
import Derived.Test.YtjlmglgmcekmhaaGreatDoorTie
import Derived.ProofKit
import Derived.OpenShut
import Derived.LaidMore
import Derived.Lay
import Derived.SevenTiedAt
import Derived.Stop.Joined
set_option linter.unusedVariables false
set_option linter.unusedSimpArgs false
namespace Go.Proofs.YtjlmglgmcekmhaaGreatDoor
section
open Go Go.ChangeShapes Go.WideShapes Go.ChangeAt Go.RowKit
theorem kL (h:∀ (os:Os) (started:os.Started) (H:Type) (enc:TypeId × Value->H),
 ReturnsInHanded {} Tryz.checked os 3 .any (fun w args=>(Rows.ownersAppliesSpec.pre enc Tryz.prog Tryz.f3 Rows.ownersAppliesRow.domain false w args/\laidMetH Tryz.prog Rows.ownersAppliesRow.laid w)/\sizedMet enc Tryz.prog Tryz.f3 (OpenSpec.ofChange Rows.ownersAppliesSpec) false w args)
  (Rows.ownersAppliesSpec.post enc Tryz.prog Tryz.f3 false true false false)):Rows.OwnersAppliesSaid:=
 OpenClaim.holds_of_wide 3 Tryz.f3 rfl rfl rfl rfl rfl rfl rfl ⟨rfl,rfl,rfl,rfl,rfl⟩ rfl rfl rfl rfl rfl (by kernel_rfl) Tryz.func3 (by kernel_rfl)
  (of_decide_eq_true (by kernel_rfl)) (by unfold Func.isWrapper;first|(rw[if_pos (by decide +kernel)];kernel_rfl)|(rw[if_neg (by decide +kernel)];exact⟨rfl,rfl⟩))
  (fun os started H enc _=>h os started H enc)
end
end Go.Proofs.YtjlmglgmcekmhaaGreatDoor
