/- Equality of slices of strings. Condition: at most a million strings. -/
import Derived.Test.YtfgjjdjaiddllaaDoorJourP
import Derived.Test.YtfgjjdjaiddllaaDoorShelf
namespace Go.Proofs.YtfgjjdjaiddllaaDoor
set_option linter.unusedVariables false
set_option linter.unusedSimpArgs false
open Go Go.RowKit Go.Maps
/-- A slice of strings, as it is read. -/
def StrsC (w : World) (v : Value) (xs : List ByteArray) : Prop :=
  ∃ a c, v = .slice a xs.length c ∧ (xs.length = 0 ∨ ∃ b o, a = some ⟨b, o, none⟩ ∧ ∀ j, j < xs.length → w.cell? ⟨b, o + j, none⟩ = some (.string (xs.getD j ⟨#[]⟩)))
theorem StrsC.own {w : World} {base : Nat} {v : Value} {xs : List ByteArray} (h : w.ownsRow base 9 1 v xs.length (xs.map Value.string)) : StrsC w v xs := by
  by_cases h0 : 0 < xs.length
  · obtain ⟨g, cap, rfl, hc⟩ := own_cell h h0
    refine ⟨_, _, rfl, .inr ⟨g, 0, rfl, fun j hj => ?_⟩⟩
    rw [Nat.zero_add]
    refine hc j _ ?_
    simp [List.getD_eq_getElem?_getD, hj]
  · obtain ⟨_, ⟨rfl, hn⟩ | ⟨g, cap, cur, rfl, _⟩⟩ := h
    · exact ⟨none, 0, by rw [hn], .inl hn⟩
    · exact ⟨_, _, rfl, .inl (by omega)⟩
theorem StrsC.drewN {w : World} {v : Value} {xs : List ByteArray} (h : StrsC w v xs) (q : Nat) : StrsC (w.drewN q) v xs := h
theorem block_lt {w : World} {a : Addr} {v : Value} (h : w.cell? a = some v) : a.block < w.heap.size := by
  apply Classical.byContradiction
  intro hn
  have : w.heap[a.block]? = none := Array.getElem?_eq_none (by omega)
  unfold World.cell? at h
  rw [this] at h
  cases h
theorem StrsC.below {w w' : World} {v : Value} {xs : List ByteArray} (h : StrsC w v xs) (hb : Below w.heap.size w w') : StrsC w' v xs := by
  obtain ⟨a, c, rfl, h0 | ⟨b, o, rfl, hc⟩⟩ := h
  · exact ⟨_, _, rfl, .inl h0⟩
  · refine ⟨_, _, rfl, .inr ⟨b, o, rfl, fun j hj => ?_⟩⟩
    have := hc j hj
    rw [hb.cell (p := ⟨b, o + j, none⟩) (block_lt this)]
    exact this
/-- A slice of a block of strings. -/
theorem StrsC.block {w : World} {b n : Nat} {t : TypeId} {xs : List ByteArray} (h : At w b t (xs.map Value.string).toArray) (hn : n = xs.length) (c : Nat) : StrsC w (.slice (some ⟨b, 0, none⟩) n c) xs := by
  subst hn
  refine ⟨_, _, rfl, .inr ⟨b, 0, rfl, fun j hj => ?_⟩⟩
  rw [Nat.zero_add, h.cell]
  simp [List.getD_eq_getElem?_getD, hj]
theorem StrsC.len {w : World} {v : Value} {xs : List ByteArray} (h : StrsC w v xs) : ∃ a c, v = .slice a xs.length c := ⟨h.choose, h.choose_spec.choose, h.choose_spec.choose_spec.1⟩
theorem eqStrs_any (v1 v2 : Value) (xs ys : List ByteArray) (w : World) (h1 : StrsC w v1 xs) (h2 : StrsC w v2 ys) (b1 : xs.length ≤ 1000000) (b2 : ys.length ≤ 1000000) :
    Calls Tryd.prog 21 #[v1, v2] w fun e w' => e = .returned (.bool (decide (xs = ys))) ∧ ∃ q, w' = w.drewN q := by
  obtain ⟨a1, c1, rfl, h1⟩ := h1
  obtain ⟨a2, c2, rfl, h2⟩ := h2
  by_cases hl : xs.length = ys.length
  · rcases h1 with h1 | ⟨p1, o1, rfl, h1⟩
    · have hx : xs = [] := List.eq_nil_of_length_eq_zero h1
      have hy : ys = [] := List.eq_nil_of_length_eq_zero (by omega)
      subst hx; subst hy
      refine (Tryd.slices_Equal_string_empty a1 a2 c1 0 c2 w (by omega)).mono ?_
      rintro e w' ⟨rfl, rfl⟩
      exact ⟨rfl, 0, rfl⟩
    · rcases h2 with h2 | ⟨p2, o2, rfl, h2⟩
      · have hx : xs = [] := List.eq_nil_of_length_eq_zero (by omega)
        have hy : ys = [] := List.eq_nil_of_length_eq_zero h2
        subst hx; subst hy
        refine (Tryd.slices_Equal_string_empty _ a2 c1 0 c2 w (by omega)).mono ?_
        rintro e w' ⟨rfl, rfl⟩
        exact ⟨rfl, 0, rfl⟩
      · refine (Tryd.slices_Equal_string p1 o1 xs.length c1 p2 o2 ys.length c2 xs ys w (Nat.le_refl _) (Nat.le_refl _) (by omega) (by omega) h1 h2).mono ?_
        rintro e w' ⟨rfl, q, rfl⟩
        rw [List.take_length, List.take_length]
        exact ⟨rfl, q, rfl⟩
  · refine (Tryd.slices_Equal_string_lens a1 a2 xs.length c1 ys.length c2 w hl).mono ?_
    rintro e w' ⟨rfl, rfl⟩
    have : decide (xs = ys) = false := by
      simp only [decide_eq_false_iff_not]
      intro e
      exact hl (by rw [e])
    rw [this]
    exact ⟨rfl, 0, rfl⟩
end Go.Proofs.YtfgjjdjaiddllaaDoor
