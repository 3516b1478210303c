/- Small functions of the program's journal: Need, big. Conditions: none for Need; at most 8 bytes for big. -/
import Derived.Test.YtfgjjdjaiddllaaDoorDiskE
import Derived.Test.YtfgjjdjaiddllaaDoorShaF
namespace Go.Proofs.YtfgjjdjaiddllaaDoor
set_option linter.unusedVariables false
set_option linter.unusedSimpArgs false
open Go Go.RowKit Go.Maps
/-- The pages that a record of n bytes needs. -/
def pagesOf (n : Int) : Int := if n < 0 ∨ 65536 < n then 0 else if n = 0 then 1 else (n + 436) / 437
theorem need_any (n : Int) (w : World) : Calls Tryd.prog 14 #[.int .i64 n] w fun e w' => e = .returned (.int .i64 (pagesOf n)) ∧ w' = w := by
  by_cases h : n < 0 ∨ 65536 < n
  · have e : pagesOf n = 0 := by unfold pagesOf; rw [if_pos h]
    have HE := Lib.hid e; clear e
    go_enter Tryd.func14, Tryd.ntmps14
    go_wp2_with fail
    all_goals first | (go_ret; exact ⟨by rw [HE.out]; rfl, rfl⟩) | (exfalso; omega)
  · have hn : 0 ≤ n ∧ n ≤ 65536 := by omega
    have e : pagesOf n = if n = 0 then 1 else (n + 436) / 437 := by unfold pagesOf; rw [if_neg h]
    have HE := Lib.hid e; clear e h
    go_enter Tryd.func14, Tryd.ntmps14
    go_wp2_with fail
    go_ret
    refine ⟨?_, rfl⟩
    show Ending.returned (.int .i64 (max 1 ((n + 437 - 1) / 437))) = _
    rw [HE.out]
    have e : max 1 ((n + 437 - 1) / 437) = if n = 0 then 1 else (n + 436) / 437 := by
      split
      · omega
      · omega
    rw [e]
def big (n size : Nat) : ByteArray := ⟨((List.range size).map fun j => (n / 2 ^ (8 * (size - 1 - j)) % 256).toUInt8).toArray⟩
/-- The row of big's bytes when the last k are set. -/
def bigRow (n size k : Nat) : Array Value := ((List.range size).map fun j => Value.int .u8 (if size - 1 - j < k then ((n / 2 ^ (8 * (size - 1 - j)) % 256 : Nat) : Int) else 0)).toArray
theorem bigRow_size (n size k : Nat) : (bigRow n size k).size = size := by simp [bigRow]
theorem bigRow_get (n size k j : Nat) (h : j < size) : (bigRow n size k)[j]? = some (.int .u8 (if size - 1 - j < k then ((n / 2 ^ (8 * (size - 1 - j)) % 256 : Nat) : Int) else 0)) := by
  simp [bigRow, h]
theorem bigRow_set (n size k : Nat) (h : k < size) : (bigRow n size k).setIfInBounds (size - 1 - k) (.int .u8 ((n / 2 ^ (8 * k) % 256 : Nat) : Int)) = bigRow n size (k + 1) := by
  apply Array.ext_getElem?
  intro j
  rw [Array.getElem?_setIfInBounds]
  by_cases hj : j < size
  · by_cases hk : size - 1 - k = j
    · subst hk
      rw [if_pos rfl, if_pos (by rw [bigRow_size]; omega), bigRow_get _ _ _ _ hj]
      have e : size - 1 - (size - 1 - k) = k := by omega
      rw [e, if_pos (by omega)]
    · rw [if_neg hk, bigRow_get _ _ _ _ hj, bigRow_get _ _ _ _ hj]
      have h1 : (size - 1 - j < k) ↔ (size - 1 - j < k + 1) := by omega
      simp only [h1]
  · have h1 : (bigRow n size k)[j]? = none := Array.getElem?_eq_none (by rw [bigRow_size]; omega)
    have h2 : (bigRow n size (k + 1))[j]? = none := Array.getElem?_eq_none (by rw [bigRow_size]; omega)
    rw [h1, h2]
    split
    · rename_i hk
      rw [bigRow_size]
      simp
      omega
    · rfl
theorem big_size (n size : Nat) : (big n size).size = size := by simp [big, ByteArray.size]
theorem info_byte : (Tryd.prog.info? 5).map (fun i => (i.zero, i.size, i.bytes)) = some (some (.int .u8 0), 1, 1) := by kernel_rfl
set_option maxRecDepth 100000 in
set_option maxHeartbeats 1000000 in
theorem big_any (n size : Nat) (w : World) (hn : n < 9223372036854775808) (h1 : 1 ≤ size) (h2 : size ≤ 8) :
    Calls Tryd.prog 36 #[.int .i64 n, .int .i64 size] w fun e w' => e = .returned (.string (big n size)) ∧ Below w.heap.size w w' := by
  obtain ⟨i0, hi, hz0, hz1, hz2⟩ := info_parts info_byte
  go_enter Tryd.func36, Tryd.ntmps36
  go_wp2_with (at_make; go_must (refine wpList_make_full _ rfl _ _ 92 rfl w.heap.size 5 i0 (.int .u8 0) 1 Tryd.underlying92 hi hz0 hz1 .i64 .i64 size size size rfl rfl rfl rfl (by rw [hz2]; omega) (by unfold maxLen; omega) (Nat.le_refl _) ?_); intro w1 how hg; have hat := own_full how; clear how)
  have hB : Below w.heap.size w w1 := (Below.refl _ _).grown hg (Nat.le_refl _) (fun k hk => by cases hk)
  have hrow : At w1 w.heap.size 5 (bigRow n size 0) := by
    have e : (madeCells (Value.int .u8 0).cells (size * 1)).toList.toArray = bigRow n size 0 := by
      rw [Nat.mul_one]
      show (madeCells #[Value.int .u8 0] size).toList.toArray = _
      rw [toList_madeCells_one]
      simp [bigRow, List.map_const']
    exact e ▸ hat
  have HB := Lib.hid hB; have HR := Lib.hid hrow; clear hB hrow hat hg
  go_wp2_with fail
  go_loopw [11] (fun i wr => ∃ k : Nat, k ≤ size ∧ i = .int .i64 k ∧ At wr w.heap.size 5 (bigRow n size k) ∧ Below w.heap.size w wr)
    (fun i _ => size - (intOf i).toNat)
  case atStart => exact ⟨0, by omega, rfl, HR.out, HB.out⟩
  case round =>
    obtain ⟨k, hk, rfl, hw, hb⟩ := hrel
    by_cases hlt : k < size
    · have dk : decide ((k : Int) < size) = true := by simp; omega
      have fz : wr.frozen? ⟨w.heap.size, size - 1 - k, none⟩ = false := hw.free _
      have ce := hw.cell (size - 1 - k)
      rw [bigRow_get _ _ _ _ (by omega)] at ce
      have hix : ((size : Int) - 1 - k).toNat = size - 1 - k := by omega
      have HW := Lib.hid hw; clear hw
      have HBB := Lib.hid hb; clear hb
      go_wp2_with fail
      refine ⟨⟨k + 1, by omega, by go_num, ?_, HBB.out.setCell (p := ⟨w.heap.size, size - 1 - k, none⟩) (Nat.le_refl _) _⟩, by simp [intOf]; omega⟩
      have h := HW.out.set (size - 1 - k) (.int .u8 ((n / 2 ^ (8 * k) % 256 : Nat) : Int))
      rw [bigRow_set n size k hlt] at h
      have e : ((n / 2 ^ (8 * k) % 256 : Nat) : Int) = (n : Int) / 2 ^ (8 * k) % 256 := by
        rw [Int.natCast_emod, Int.natCast_ediv, Int.natCast_pow]; rfl
      rw [e] at h
      exact h
    · have hk' : k = size := by omega
      have dk : decide ((k : Int) < size) = false := by simp; omega
      have hB : Lib.Bytes wr w.heap.size 0 (big n size) := by
        intro i hi
        rw [big_size] at hi
        rw [Nat.zero_add, hw.cell, bigRow_get _ _ _ _ hi, if_pos (by omega)]
        have e : (big n size)[i]'(by rw [big_size]; exact hi) = (n / 2 ^ (8 * (size - 1 - i)) % 256).toUInt8 := by
          show (big n size).data[i]'_ = _
          simp [big]
        have e2 : (n / 2 ^ (8 * (size - 1 - i)) % 256).toUInt8.toNat = n / 2 ^ (8 * (size - 1 - i)) % 256 := by
          show (UInt8.ofNat _).toNat = _
          rw [UInt8.toNat_ofNat']
          omega
        rw [← e2]
        exact congrArg (fun x : UInt8 => some (Value.int .u8 (x.toNat : Int))) e.symm
      have hc := Lib.run_convert_whole (P := Tryd.prog) wr 92 5 9 rfl rfl rfl _ _ _ hB size
      rw [big_size] at hc
      have HBB := Lib.hid hb; clear hb hw hk' hB
      have HC := Lib.hid hc; clear hc
      go_wp2_with fail
      rw [HC.out]
      go_wp2_with fail
      go_ret
      exact ⟨rfl, HBB.out⟩
end Go.Proofs.YtfgjjdjaiddllaaDoor
