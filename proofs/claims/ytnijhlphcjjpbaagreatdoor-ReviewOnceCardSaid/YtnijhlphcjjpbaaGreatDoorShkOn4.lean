/- The signatures of key 1 with the first byte 13, reckoned by the kernel. -/
import Derived.Test.YtnijhlphcjjpbaaGreatDoorShkOn1
set_option linter.unusedVariables false
set_option linter.unusedSimpArgs false
set_option maxRecDepth 100000
namespace Go.Proofs.YtnijhlphcjjpbaaGreatDoor
section
namespace Az
theorem Zw:OV 1 13=true:=by decide +kernel
end Az
end
end Go.Proofs.YtnijhlphcjjpbaaGreatDoor
