/- The rotations and mixes of the program's SHA-256 and of the reference's return what their text says. Conditions: the counts lie in range. -/
import Derived.Test.YtjlpdknomdhbhaaGreatDoorChecked
import Derived.Test.YtjlpdknomdhbhaaGreatDoorShaSpec
import Derived.WalkKit
import Derived.WalkLawsBesides
import Derived.WalkSpells
import Derived.Lib.Hide
import Derived.BigQuiet
import Derived.Deep.QuietTactic
namespace Go.Proofs.YtjlpdknomdhbhaaGreatDoor
set_option linter.unusedVariables false
set_option linter.unusedSimpArgs false
open Go Go.RowKit
set_option maxHeartbeats 400000 in
theorem rotl_any (x k r : Int) (w : World) (hk : bits BinOp.and IntKind.u64 (IntKind.u64.wrap k) 31 = r) (h0 : 0 ≤ r) (h1 : r ≤ 31) (_hx0 : 0 ≤ x) (_hx : x < 4294967296) :
    Calls Tryz.prog 136 #[.int .u32 x, .int .i64 k] w fun e w' => e = .returned (.int .u32 (Sha.rotl x r)) ∧ w = w' := by
  go_enter Tryz.func136, Tryz.ntmps136
  go_wp2
  go_ret
  exact ⟨rfl, rfl⟩
set_option maxHeartbeats 400000 in
theorem rotr_any (x k : Int) (w : World) (h0 : 0 ≤ k) (h1 : k ≤ 32) (_hx0 : 0 ≤ x) (_hx : x < 4294967296) :
    Calls Tryz.prog 115 #[.int .u32 x, .int .i64 k] w fun e w' => e = .returned (.int .u32 (bits BinOp.or IntKind.u32 (x / 2 ^ k.toNat) (x * 2 ^ (32 - k).toNat % 4294967296))) ∧ ∃ n, w' = w.drewN n := by
  go_enter Tryz.func115, Tryz.ntmps115
  go_wp2
  go_quiet (fail)
  go_wp2
  go_ret
  exact ⟨rfl, _, rfl⟩
set_option maxHeartbeats 400000 in
theorem mix3_any (x a b c ra rb rc : Int) (w : World) (ha : bits BinOp.and IntKind.u64 (IntKind.u64.wrap (-a)) 31 = ra) (ha0 : 0 ≤ ra) (ha1 : ra ≤ 31)
   (hb : bits BinOp.and IntKind.u64 (IntKind.u64.wrap (-b)) 31 = rb) (hb0 : 0 ≤ rb) (hb1 : rb ≤ 31)
   (hc : bits BinOp.and IntKind.u64 (IntKind.u64.wrap (-c)) 31 = rc) (hc0 : 0 ≤ rc) (hc1 : rc ≤ 31)
   (_a1 : 0 ≤ a) (_a2 : a ≤ 32) (_b1 : 0 ≤ b) (_b2 : b ≤ 32) (_c1 : 0 ≤ c) (_c2 : c ≤ 32) (hx0 : 0 ≤ x) (hx : x < 4294967296) :
    Calls Tryz.prog 135 #[.int .u32 x, .int .i64 a, .int .i64 b, .int .i64 c] w fun e w' => e = .returned (.int .u32 (Sha.sg x ra rb rc)) ∧ w = w' := by
  have A := Lib.hid ha; have B := Lib.hid hb; have C := Lib.hid hc
  clear ha hb hc
  go_enter Tryz.func135, Tryz.ntmps135
  go_wp2_with fail
  refine (rotl_any x _ ra _ A.out ha0 ha1 hx0 hx).mono ?_
  rintro e w' ⟨rfl, rfl⟩
  go_wp2_with fail
  refine (rotl_any x _ rb _ B.out hb0 hb1 hx0 hx).mono ?_
  rintro e w' ⟨rfl, rfl⟩
  go_wp2_with fail
  refine (rotl_any x _ rc _ C.out hc0 hc1 hx0 hx).mono ?_
  rintro e w' ⟨rfl, rfl⟩
  go_wp2_with fail
  go_ret
  exact ⟨rfl, rfl⟩
set_option maxHeartbeats 800000 in
theorem mix2_any (x a b c ra rb : Int) (w : World) (ha : bits BinOp.and IntKind.u64 (IntKind.u64.wrap (-a)) 31 = ra) (ha0 : 0 ≤ ra) (ha1 : ra ≤ 31)
   (hb : bits BinOp.and IntKind.u64 (IntKind.u64.wrap (-b)) 31 = rb) (hb0 : 0 ≤ rb) (hb1 : rb ≤ 31)
   (_a1 : 0 ≤ a) (_a2 : a ≤ 32) (_b1 : 0 ≤ b) (_b2 : b ≤ 32) (c1 : 0 ≤ c) (c2 : c ≤ 31) (hx0 : 0 ≤ x) (hx : x < 4294967296) :
    Calls Tryz.prog 153 #[.int .u32 x, .int .i64 a, .int .i64 b, .int .i64 c] w fun e w' => e = .returned (.int .u32 (Sha.ss x ra rb c)) ∧ ∃ n, w' = w.drewN n := by
  have A := Lib.hid ha; have B := Lib.hid hb
  clear ha hb
  go_enter Tryz.func153, Tryz.ntmps153
  go_wp2_with fail
  go_quiet ((go_at_call 136; first | (with_reducible exact Calls.quiet_of_same ((rotl_any x (-a) ra _ A.out ha0 ha1 hx0 hx).mono fun _ _ h => ⟨h.1, h.2.symm⟩)) | (with_reducible exact Calls.quiet_of_same ((rotl_any x (-b) rb _ B.out hb0 hb1 hx0 hx).mono fun _ _ h => ⟨h.1, h.2.symm⟩))))
  go_wp2
  go_ret
  exact ⟨rfl, _, rfl⟩
end Go.Proofs.YtjlpdknomdhbhaaGreatDoor
