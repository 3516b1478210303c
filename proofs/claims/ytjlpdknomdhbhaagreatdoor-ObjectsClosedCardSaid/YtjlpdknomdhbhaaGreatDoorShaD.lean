/- The eight bytes of a number and the new state of the program's SHA-256. Condition: the number is below 2^64. -/
import Derived.Test.YtjlpdknomdhbhaaGreatDoorShaC
import Derived.Test.YtjlpdknomdhbhaaGreatDoorShelf
import Derived.Lib.SlBytesRow
namespace Go.Proofs.YtjlpdknomdhbhaaGreatDoor
set_option linter.unusedVariables false
set_option linter.unusedSimpArgs false
open Go Go.RowKit
def be8 (n : Nat) : ByteArray := ⟨((List.range 8).map fun j => (n / 2 ^ (56 - 8 * j) % 256).toUInt8).toArray⟩
def be8row (n k : Nat) : Array Value := ((List.range 8).map fun j => Value.int .u8 (if j < k then ((n / 2 ^ (56 - 8 * j) % 256 : Nat) : Int) else 0)).toArray
theorem be8row_size (n k : Nat) : (be8row n k).size = 8 := by simp [be8row]
theorem be8row_set (n k : Nat) (h : k < 8) : (be8row n k).setIfInBounds k (.int .u8 ((n / 2 ^ (56 - 8 * k) % 256 : Nat) : Int)) = be8row n (k + 1) := by
  match k, h with
  | 0, _ => rfl
  | 1, _ => rfl
  | 2, _ => rfl
  | 3, _ => rfl
  | 4, _ => rfl
  | 5, _ => rfl
  | 6, _ => rfl
  | 7, _ => rfl
theorem be8_size (n : Nat) : (be8 n).size = 8 := by simp [be8, ByteArray.size]
theorem be8row_get (n i : Nat) (h : i < (be8 n).size) : (be8row n 8)[i]? = some (.int .u8 ((be8 n)[i].toNat : Int)) := by
  have h8 : i < 8 := by rw [be8_size] at h; exact h
  have e : (be8 n)[i] = (n / 2 ^ (56 - 8 * i) % 256).toUInt8 := by
    show (be8 n).data[i]'_ = _
    simp [be8]
  have e2 : (n / 2 ^ (56 - 8 * i) % 256).toUInt8.toNat = n / 2 ^ (56 - 8 * i) % 256 := by
    show (UInt8.ofNat _).toNat = _
    rw [UInt8.toNat_ofNat']
    omega
  have e3 : (be8row n 8)[i]? = some (.int .u8 ((n / 2 ^ (56 - 8 * i) % 256 : Nat) : Int)) := by simp [be8row, h8]
  rw [e3, ← e2]
  exact congrArg (fun x : UInt8 => some (Value.int .u8 (x.toNat : Int))) e.symm
set_option maxHeartbeats 1000000 in
set_option maxRecDepth 100000 in
theorem number_any (n : Nat) (w : World) (hn : n < 18446744073709551616) :
    Calls Tryz.prog 111 #[.int .u64 n] w fun e w' => e = .returned (.string (be8 n)) ∧ Below w.heap.size w w' := by
  go_enter Tryz.func111, Tryz.ntmps111
  go_wp2_with fail
  go_loopw [5] (fun i wr => ∃ k : Nat, k ≤ 8 ∧ i = .int .i64 k ∧ At wr w.heap.size 168 (be8row n k) ∧ Below w.heap.size w wr)
    (fun i _ => 8 - (intOf i).toNat)
  case atStart => exact ⟨0, by omega, rfl, At.new _ _ _, (Below.refl _ _).alloc (Nat.le_refl _) _⟩
  case round =>
    obtain ⟨k, hk, rfl, hw, hb⟩ := hrel
    by_cases h8 : k < 8
    · have dk : decide ((k : Int) < 8) = true := by simp; omega
      have fz : wr.frozen? ⟨w.heap.size, k, none⟩ = false := hw.free k
      have ce : wr.cell? ⟨w.heap.size, k, none⟩ = some (.int .u8 0) := by
        rw [hw.cell]
        match k, h8 with
        | 0, _ => rfl
        | 1, _ => rfl
        | 2, _ => rfl
        | 3, _ => rfl
        | 4, _ => rfl
        | 5, _ => rfl
        | 6, _ => rfl
        | 7, _ => rfl
      have HW := Lib.hid hw; clear hw
      have HB := Lib.hid hb; clear hb
      go_wp2_with fail
      refine ⟨⟨k + 1, by omega, by go_num, ?_, HB.out.setCell (p := ⟨w.heap.size, k, none⟩) (Nat.le_refl _) _⟩, by simp [intOf]; omega⟩
      have h := HW.out.set k (.int .u8 ((n / 2 ^ (56 - 8 * k) % 256 : Nat) : Int))
      rw [be8row_set n k h8] at h
      have e : ((n / 2 ^ (56 - 8 * k) % 256 : Nat) : Int) = (n : Int) / 2 ^ (56 - 8 * k) % 256 := by
        rw [Int.natCast_emod, Int.natCast_ediv, Int.natCast_pow]; rfl
      rw [e] at h
      exact h
    · obtain rfl : k = 8 := by omega
      have hB : Lib.Bytes wr w.heap.size 0 (be8 n) := by
        intro i hi
        rw [Nat.zero_add, hw.cell]
        exact be8row_get n i hi
      have hc := Lib.run_convert_whole (P := Tryz.prog) wr 45 5 9 rfl rfl rfl _ _ _ hB 8
      rw [be8_size] at hc
      have HB := Lib.hid hb; clear hb hw
      have HC := Lib.hid hc; clear hc
      go_wp2_with fail
      rw [HC.out]
      go_wp2_with fail
      go_ret
      exact ⟨rfl, HB.out⟩
theorem new_any (w : World) :
    Calls Tryz.prog 79 #[] w fun e w' => e = .returned (.pointer (some ⟨w.heap.size, 0, none⟩)) ∧ w' = w.alloc (.cells (hash [1779033703, 3144134277, 1013904242, 2773480762, 1359893119, 2600822924, 528734635, 1541459225] ⟨#[]⟩ 0) 138) := by
  go_enter Tryz.func79, Tryz.ntmps79
  go_wp2_with fail
  go_ret
  exact ⟨rfl, rfl⟩
end Go.Proofs.YtjlpdknomdhbhaaGreatDoor
