/- slices.Contains of strings. Condition: at most a million strings. -/
import Derived.Test.YtjlpdknomdhbhaaGreatDoorStrs
import Derived.Test.YtjlpdknomdhbhaaGreatDoorShelf
namespace Go.Proofs.YtjlpdknomdhbhaaGreatDoor
set_option linter.unusedVariables false
set_option linter.unusedSimpArgs false
open Go Go.RowKit Go.Maps
theorem contStrs_any (v : Value) (xs : List ByteArray) (x : ByteArray) (w : World) (h : StrsC w v xs) (hl : xs.length ≤ 1000000) :
    Calls Tryz.prog 28 #[v, .string x] w fun e w' => e = .returned (.bool (Lib.containsS xs x)) ∧ w' = w := by
  obtain ⟨a, c, rfl, h0 | ⟨b, o, rfl, hc⟩⟩ := h
  · have hx : xs = [] := List.eq_nil_of_length_eq_zero h0
    subst hx
    refine (Tryz.slices_Contains_string_empty a c x w).mono ?_
    rintro e w' ⟨rfl, rfl⟩
    exact ⟨rfl, rfl⟩
  · refine (Tryz.slices_Contains_string b o xs.length c xs x w (Nat.le_refl _) (by omega) hc).mono ?_
    rintro e w' ⟨rfl, rfl⟩
    exact ⟨by rw [List.take_length], rfl⟩
theorem containsS_false (zs : List ByteArray) (x : ByteArray) (h : x ∉ zs) : Lib.containsS zs x = false := by
  cases hc : Lib.containsS zs x with
  | false => rfl
  | true => exact absurd ((Lib.containsS_iff _ _).1 hc) h
end Go.Proofs.YtjlpdknomdhbhaaGreatDoor
