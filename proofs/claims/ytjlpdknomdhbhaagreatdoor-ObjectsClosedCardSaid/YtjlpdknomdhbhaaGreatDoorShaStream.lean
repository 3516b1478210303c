/- What the program's SHA-256 holds after some bytes were written, and the digest, as plain functions. No condition. -/
import Derived.Test.YtjlpdknomdhbhaaGreatDoorShaAB
import Derived.Lib.SlBytesRow
namespace Go.Proofs.YtjlpdknomdhbhaaGreatDoor
set_option linter.unusedVariables false
set_option linter.unusedSimpArgs false
open Go Go.RowKit
namespace Sha
theorem ba_ext {a b : ByteArray} (h : a.data.toList = b.data.toList) : a = b := by
  apply ByteArray.ext
  exact Array.toList_inj.1 h
theorem ex_list (s : ByteArray) (a b : Nat) : (s.extract a b).data.toList = (s.data.toList.drop a).take (b - a) := by
  simp [ByteArray.data_extract, Array.toList_extract, List.extract]
theorem app_list (s t : ByteArray) : (s ++ t).data.toList = s.data.toList ++ t.data.toList := by simp
theorem len_list (s : ByteArray) : s.data.toList.length = s.size := by simp
def IV : List Int := [1779033703, 3144134277, 1013904242, 2773480762, 1359893119, 2600822924, 528734635, 1541459225]
theorem IV_word : Word IV := by
  refine ⟨rfl, ?_⟩
  decide
def run (v : List Int) (s : ByteArray) : Nat → List Int
  | 0 => v
  | k + 1 => block (run v s k) (s.extract (64 * k) (64 * k + 64))
theorem Word.run {v : List Int} (h : Word v) (s : ByteArray) : ∀ k, Word (run v s k)
  | 0 => h
  | k + 1 => (Word.run h s k).block _
/-- The words and the bytes that fill no block yet, after m. -/
def state (m : ByteArray) : List Int := run IV m (m.size / 64)
def rest (m : ByteArray) : ByteArray := m.extract (64 * (m.size / 64)) m.size
theorem state_word (m : ByteArray) : Word (state m) := IV_word.run _ _
theorem rest_list (m : ByteArray) : (rest m).data.toList = m.data.toList.drop (64 * (m.size / 64)) := by
  rw [rest, ex_list]
  apply List.take_of_length_le
  rw [List.length_drop, len_list]
  omega
theorem rest_size (m : ByteArray) : (rest m).size = m.size % 64 := by
  rw [← len_list, rest_list, List.length_drop, len_list]
  omega
theorem run_shift (v : List Int) (s t : ByteArray) (q : Nat) : ∀ j, (∀ i, i < j → s.extract (64 * i) (64 * i + 64) = t.extract (64 * (q + i)) (64 * (q + i) + 64)) → run (run v t q) s j = run v t (q + j)
  | 0, _ => rfl
  | j + 1, h => by
    rw [run, run_shift v s t q j (fun i hi => h i (by omega)), h j (by omega)]
    rfl
theorem run_prefix (v : List Int) (m s : ByteArray) : ∀ k, 64 * k ≤ m.size → run v (m ++ s) k = run v m k
  | 0, _ => rfl
  | k + 1, h => by
    rw [run, run, run_prefix v m s k (by omega)]
    congr 1
    apply ba_ext
    rw [ex_list, ex_list, app_list, List.drop_append_of_le_length (by rw [len_list]; omega), List.take_append_of_le_length (by rw [List.length_drop, len_list]; omega)]
theorem rest_block (m s : ByteArray) (i : Nat) : (rest m ++ s).extract (64 * i) (64 * i + 64) = (m ++ s).extract (64 * (m.size / 64 + i)) (64 * (m.size / 64 + i) + 64) := by
  apply ba_ext
  rw [ex_list, ex_list, app_list, app_list, rest_list]
  rw [← List.drop_append_of_le_length (by rw [len_list]; omega), List.drop_drop, show 64 * (m.size / 64) + 64 * i = 64 * (m.size / 64 + i) by omega, show 64 * i + 64 - 64 * i = 64 by omega, show 64 * (m.size / 64 + i) + 64 - 64 * (m.size / 64 + i) = 64 by omega]
theorem run_more (m s : ByteArray) (j : Nat) : run (state m) (rest m ++ s) j = run IV (m ++ s) (m.size / 64 + j) := by
  rw [state, ← run_prefix IV m s (m.size / 64) (by omega)]
  exact run_shift IV _ _ _ j (fun i _ => rest_block m s i)
theorem app_size (m s : ByteArray) : (m ++ s).size = m.size + s.size := by
  rw [← len_list, app_list, List.length_append, len_list, len_list]
theorem blocks_more (m s : ByteArray) : m.size / 64 + (rest m ++ s).size / 64 = (m ++ s).size / 64 := by
  rw [app_size, app_size, rest_size]
  omega
theorem state_more (m s : ByteArray) : run (state m) (rest m ++ s) ((rest m ++ s).size / 64) = state (m ++ s) := by
  rw [run_more, blocks_more]
  rfl
theorem rest_more (m s : ByteArray) : (rest m ++ s).extract (64 * ((rest m ++ s).size / 64)) (rest m ++ s).size = rest (m ++ s) := by
  apply ba_ext
  rw [rest_list, ex_list, app_list, app_list, rest_list, ← blocks_more m s]
  rw [← List.drop_append_of_le_length (l₁ := m.data.toList) (by rw [len_list]; omega), List.drop_drop, show 64 * (m.size / 64) + 64 * ((rest m ++ s).size / 64) = 64 * (m.size / 64 + (rest m ++ s).size / 64) by omega]
  apply List.take_of_length_le
  have := blocks_more m s
  rw [List.length_drop, List.length_append, len_list, len_list]
  have e := app_size m s
  have e2 := app_size (rest m) s
  have e3 := rest_size m
  omega
theorem rest_empty : rest ⟨#[]⟩ = ⟨#[]⟩ := rfl
end Sha
end Go.Proofs.YtjlpdknomdhbhaaGreatDoor
