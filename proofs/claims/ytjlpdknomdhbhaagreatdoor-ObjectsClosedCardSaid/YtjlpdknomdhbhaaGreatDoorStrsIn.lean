/- A slice of strings that came in, as the laws read it. No condition. -/
import Derived.Test.YtjlpdknomdhbhaaGreatDoorStrs
import Derived.ProofKit
import Derived.SliceStrings
import Derived.Stop.Joined
namespace Go.Proofs.YtjlpdknomdhbhaaGreatDoor
set_option linter.unusedVariables false
set_option linter.unusedSimpArgs false
open Go Go.RowKit Go.Maps
theorem StrsC.opened {w : World} {a : Addr} {len cap : Nat} {ss : List ByteArray} (h : ∀ i, i < ss.length → w.cell? (a.add i) = some (.string (ss.getD i ByteArray.empty))) (hl : len ≤ ss.length) : StrsC w (.slice (some a) len cap) (ss.take len) := by
  have e : (ss.take len).length = len := by rw [List.length_take]; omega
  by_cases h0 : len = 0
  · exact ⟨_, _, by rw [e], .inl (by rw [e]; exact h0)⟩
  · obtain ⟨b, o, sp⟩ := a
    cases sp with
    | none =>
      refine ⟨_, _, by rw [e], .inr ⟨b, o, rfl, fun j hj => ?_⟩⟩
      rw [e] at hj
      have := h j (by omega)
      have e2 : (⟨b, o, none⟩ : Addr).add j = ⟨b, o + j, none⟩ := by unfold Addr.add; split <;> simp_all
      rw [e2] at this
      rw [this]
      have : (ss.take len).getD j ⟨#[]⟩ = ss.getD j ByteArray.empty := by simp [List.getD_eq_getElem?_getD, List.getElem?_take, hj]; rfl
      rw [this]
    | some p =>
      exfalso
      have := h 0 (by omega)
      unfold World.cell? Addr.add at this
      simp at this
      split at this <;> simp_all
open Go.ChangeShapes in
theorem weights_strs {H : Type} {P : Program} {e : TypeId} : ∀ (ss : List ByteArray), (DataW.weightsAll P e (strs (H := H) ss)).all (· ≤ reachBytes) = true → ∀ s ∈ ss, s.size ≤ reachBytes
  | [], _, _, h => by cases h
  | x :: l, h, s, hs => by
    have e1 : DataW.weightsAll P e (strs (H := H) (x :: l)) = [x.data.toList.length] ++ DataW.weightsAll P e (strs (H := H) l) := rfl
    rw [e1, List.all_append, Bool.and_eq_true] at h
    rcases List.mem_cons.1 hs with rfl | hs
    · have := h.1
      simp only [List.all_cons, List.all_nil, Bool.and_true, decide_eq_true_eq] at this
      rw [Array.length_toList] at this
      exact this
    · exact weights_strs l h.2 s hs
theorem bytes_string : Tryz.prog.bytesOf 9 = 16 := by kernel_rfl
open Go.ChangeShapes Go.WideShapes in
/-- **A slice of strings that came in, opened**: it reads as StrsC, its strings are within the reach. -/
theorem strs_in {H : Type} {enc : TypeId × Value → H} {W : World} {a : Option Addr} {len cap : Nat} {d : DataW H} {p : List MemPlace} (h : DataW.Trod enc Tryz.prog W 0 (fun _ => true) true 22 (.slice a len cap) d p)
    (hz : (d.weights Tryz.prog 22).all (· ≤ reachBytes) = true) : ∃ xs : List ByteArray, StrsC W (.slice a len cap) xs ∧ (∀ z ∈ xs, z.size ≤ 140737488355328) ∧ xs.length ≤ 140737488355328 := by
  obtain ⟨fuel, hf⟩ := h
  rcases open_strings Tryz.underlying22 Tryz.underlying9 (by kernel_rfl) hf with ⟨hcs, _⟩ | ⟨a', len', cap', ss, hcs, _, hl, hm, hn, hx2, hcell, _⟩
  · have e : Value.slice a len cap = .slice none 0 0 := by simpa [Value.cells] using hcs
    rw [e]
    exact ⟨[], ⟨none, 0, rfl, .inl rfl⟩, (fun z hz => by cases hz), Nat.zero_le _⟩
  · have e : Value.slice a len cap = .slice (some a') len' cap' := by simpa [Value.cells] using hcs
    rw [e]
    have hn' : ss.length = cap' := by simpa using hn
    have hd : d = .slice (strs (ss.take len')) (strs (ss.drop len')) := (Prod.mk.inj hx2).1
    rw [hd] at hz
    have hw : (DataW.slice (strs (H := H) (ss.take len')) (strs (ss.drop len'))).weights Tryz.prog 22 = ((strs (H := H) (ss.take len')).length + (strs (H := H) (ss.drop len')).length) * Tryz.prog.bytesOf 9 :: (DataW.weightsAll Tryz.prog 9 (strs (H := H) (ss.take len')) ++ DataW.weightsAll Tryz.prog 9 (strs (H := H) (ss.drop len'))) := by
      simp only [DataW.weights, Tryz.underlying22]
    rw [hw, List.all_cons, List.all_append, Bool.and_eq_true, Bool.and_eq_true, bytes_string] at hz
    obtain ⟨h1, h2, _⟩ := hz
    have e1 : (strs (H := H) (ss.take len')).length = len' := by unfold strs; rw [List.length_map, List.length_take]; omega
    rw [e1] at h1
    have h1' := of_decide_eq_true h1
    unfold reachBytes at h1'
    refine ⟨ss.take len', StrsC.opened hcell (by omega), fun z hz2 => ?_, ?_⟩
    · have := weights_strs _ h2 z hz2
      unfold reachBytes at this
      omega
    · rw [List.length_take]
      omega
end Go.Proofs.YtjlpdknomdhbhaaGreatDoor
