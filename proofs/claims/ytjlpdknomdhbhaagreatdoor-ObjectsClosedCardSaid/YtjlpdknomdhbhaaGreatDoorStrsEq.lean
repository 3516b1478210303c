/- Equality of slices of strings. Condition: at most a million strings. -/
import Derived.Test.YtjlpdknomdhbhaaGreatDoorStrs
import Derived.Test.YtjlpdknomdhbhaaGreatDoorShelf
namespace Go.Proofs.YtjlpdknomdhbhaaGreatDoor
set_option linter.unusedVariables false
set_option linter.unusedSimpArgs false
open Go Go.RowKit Go.Maps
theorem eqStrs_any (v1 v2 : Value) (xs ys : List ByteArray) (w : World) (h1 : StrsC w v1 xs) (h2 : StrsC w v2 ys) (b1 : xs.length ≤ 1000000) (b2 : ys.length ≤ 1000000) :
    Calls Tryz.prog 29 #[v1, v2] w fun e w' => e = .returned (.bool (decide (xs = ys))) ∧ ∃ q, w' = w.drewN q := by
  obtain ⟨a1, c1, rfl, h1⟩ := h1
  obtain ⟨a2, c2, rfl, h2⟩ := h2
  by_cases hl : xs.length = ys.length
  · rcases h1 with h1 | ⟨p1, o1, rfl, h1⟩
    · have hx : xs = [] := List.eq_nil_of_length_eq_zero h1
      have hy : ys = [] := List.eq_nil_of_length_eq_zero (by omega)
      subst hx; subst hy
      refine (Tryz.slices_Equal_string_empty a1 a2 c1 0 c2 w (by omega)).mono ?_
      rintro e w' ⟨rfl, rfl⟩
      exact ⟨rfl, 0, rfl⟩
    · rcases h2 with h2 | ⟨p2, o2, rfl, h2⟩
      · have hx : xs = [] := List.eq_nil_of_length_eq_zero (by omega)
        have hy : ys = [] := List.eq_nil_of_length_eq_zero h2
        subst hx; subst hy
        refine (Tryz.slices_Equal_string_empty _ a2 c1 0 c2 w (by omega)).mono ?_
        rintro e w' ⟨rfl, rfl⟩
        exact ⟨rfl, 0, rfl⟩
      · refine (Tryz.slices_Equal_string p1 o1 xs.length c1 p2 o2 ys.length c2 xs ys w (Nat.le_refl _) (Nat.le_refl _) (by omega) (by omega) h1 h2).mono ?_
        rintro e w' ⟨rfl, q, rfl⟩
        rw [List.take_length, List.take_length]
        exact ⟨rfl, q, rfl⟩
  · refine (Tryz.slices_Equal_string_lens a1 a2 xs.length c1 ys.length c2 w hl).mono ?_
    rintro e w' ⟨rfl, rfl⟩
    have : decide (xs = ys) = false := by
      simp only [decide_eq_false_iff_not]
      intro e
      exact hl (by rw [e])
    rw [this]
    exact ⟨rfl, 0, rfl⟩
end Go.Proofs.YtjlpdknomdhbhaaGreatDoor
