/- What the laws of archives ask: few files are small; what Files returns is short. Plain. -/
import Derived.Test.YtjlpdknomdhbhaaGreatDoorLawOBytes
namespace Go.Proofs.YtjlpdknomdhbhaaGreatDoor
set_option linter.unusedVariables false
set_option linter.unusedSimpArgs false
open Go Go.RowKit Go.Maps
theorem totalA_mem : ∀ {l : List FileD} {x : FileD}, x ∈ l → x.name.size + x.data.size ≤ totalA l
  | y :: l, x, h => by
    have e : totalA (y :: l) = (y.name.size + y.data.size) + totalA l := by unfold totalA; simp
    rcases List.mem_cons.1 h with rfl | h
    · omega
    · have := totalA_mem h; omega
theorem few_enc {l : List FileD} (h : fewA l = true) : (encA l).size ≤ 500000 ∧ l.length ≤ 40 := by
  unfold fewA at h
  simp only [Bool.and_eq_true, decide_eq_true_eq] at h
  obtain ⟨h1, h2⟩ := h
  have := encA_le 5000 l (fun x hx => by have := totalA_mem hx; omega)
  refine ⟨?_, h1⟩
  have h3 : l.length * (2 * 5000 + 20) ≤ 40 * (2 * 5000 + 20) := Nat.mul_le_mul_right _ h1
  omega
theorem sizeA_of {l : List FileD} (h : archE l = 0) : l.length ≤ 32 ∧ (encA l).size ≤ 65536 := by
  unfold archE at h
  by_cases h1 : namesA l = true
  · rw [if_pos h1] at h
    by_cases h2 : sizeA l = true
    · unfold sizeA at h2
      simpa using h2
    · rw [if_neg h2] at h; cases h
  · rw [if_neg h1] at h; cases h
theorem filesF_few {s : ByteArray} {l : List FileD} (h : filesF s = some l) : l.length ≤ 32 := by
  unfold filesF at h
  cases hc : rdC s 32 0 with
  | none => rw [hc] at h; cases h
  | some y =>
    obtain ⟨n, a⟩ := y
    rw [hc] at h
    simp only at h
    split at h
    · rename_i hh
      cases h
      exact (sizeA_of hh.1).1
    · cases h
theorem filesR_few (o : Obj) : (filesR o).1.length ≤ 32 := by
  unfold filesR
  split
  · cases hf : filesF o.data with
    | none => exact Nat.zero_le _
    | some l =>
      simp only
      split
      · exact filesF_few hf
      · exact Nat.zero_le _
  · exact Nat.zero_le _
theorem archO_refs (l : List FileD) : (archO l).refs = [] := by
  unfold archO
  split <;> rfl
theorem archO_reach {l : List FileD} (h : (encA l).size ≤ 500000) : Reach (archO l) := by
  refine ⟨fun x hx => (by rw [archO_refs] at hx; cases hx), by rw [archO_refs]; exact Nat.zero_le _, ?_⟩
  unfold archO
  split
  · show (encA l).size ≤ _; omega
  · exact Nat.zero_le _
end Go.Proofs.YtjlpdknomdhbhaaGreatDoor
