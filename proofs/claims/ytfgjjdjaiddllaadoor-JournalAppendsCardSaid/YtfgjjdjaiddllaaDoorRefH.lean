/- The reference's Open, out of range. Conditions: those of each law. -/
import Derived.Test.YtfgjjdjaiddllaaDoorRefG
namespace Go.Proofs.YtfgjjdjaiddllaaDoor
set_option linter.unusedVariables false
set_option linter.unusedSimpArgs false
open Go Go.RowKit Go.Maps
theorem open_bad_done {tmps : Array Value} {w : World} {b : Nat} {v0 v1 v2 v3 v4 v5 : Value} {Q : Ending → World → Prop} (hp : tmps.getD 6 undef = .pointer (some ⟨b, 0, none⟩)) (h7 : tmps.getD 7 undef = .int .i64 2) (hat : At w b 38 #[v0, v1, v2, v3, v4, v5])
    (hq : Q (.returned (.tuple #[.agg #[v0, v1, v2, v3, v4, v5], .int .i64 2])) w) : bodyPost Tryd.prog Tryd.f34 Q Exit.ret { tmps := tmps, defers := [] } w := by
  refine bodyPost_ret (v := .tuple #[.agg #[v0, v1, v2, v3, v4, v5], .int .i64 2]) ?_ rfl hq
  rw [results_cell_tmp (p := 6) (u := 7) (ty := 38) rfl, hp, h7]
  simp [asAddr, run_loadVar_row w b 38 38 _ (0, 0) _ hat Tryd.underlying38 rfl info_rJournal]
set_option maxRecDepth 100000 in
set_option maxHeartbeats 4000000 in
theorem r51Open_bad (a : Option Addr) (D cp : Nat) (pv : Value) (f n ep : Int) (w : World) (hn : D ≤ 1000000) (hok : ¬ openOK D f n ep) :
    Calls Tryd.prog 34 #[.agg #[.slice a D cp, pv], .agg #[.int .i64 f, .int .i64 n], .int .i64 ep] w fun e w' => e = .returned (.tuple #[.agg (rJourV 0 0 0 0 ⟨#[]⟩ (.slice none 0 0)), .int .i64 2]) ∧ Below w.heap.size w w' := by
  go_enter Tryd.func34, Tryd.ntmps34
  go_wp2_with fail
  refine (rValid_any a D cp pv f n _ hn).mono ?_
  rintro e w1 ⟨rfl, hb1⟩
  have t2 : At w1 (w.heap.size + 1 + 1) 38 #[.int .i64 0, .int .i64 0, .int .i64 0, .int .i64 0, .string ⟨#[]⟩, .slice none 0 0] := At.below (by
    have := At.new ((w.alloc (.cells #[.slice a D cp, pv] 29)).alloc (.cells #[.int .i64 f, .int .i64 n] 24)) 38 #[.int .i64 0, .int .i64 0, .int .i64 0, .int .i64 0, .string ⟨#[]⟩, .slice none 0 0]
    rw [World.size_alloc, World.size_alloc] at this
    exact this) hb1 (by simp)
  have hbw : Below w.heap.size w w1 := ((((Below.refl w.heap.size w).alloc (Nat.le_refl _) _).alloc (by simp) _).alloc (by simp; omega) _).trans (hb1.mono (by simp; omega))
  have T2 := Lib.hid t2; have HBW := Lib.hid hbw; clear t2 hbw hb1
  by_cases hv : okRegion D f n
  · rw [decide_eq_true hv]
    obtain ⟨h1, h2, h3⟩ := hv
    by_cases he : ep < 0
    · have d1 : decide (ep < 0) = true := by simp; omega
      have HOK := Lib.hid hok; clear hok
      have z0 := T2.out.free 0; have z1 := T2.out.free 1; have z2 := T2.out.free 2; have z3 := T2.out.free 3; have z4 := T2.out.free 4; have z5 := T2.out.free 5
      have y0 := T2.out.cell 0; have y1 := T2.out.cell 1; have y2 := T2.out.cell 2; have y3 := T2.out.cell 3; have y4 := T2.out.cell 4; have y5 := T2.out.cell 5
      simp only [List.getElem?_toArray, List.getElem?_cons_zero, List.getElem?_cons_succ] at y0 y1 y2 y3 y4 y5
      go_wp2_with fail
      refine open_bad_done (b := w.heap.size + 1 + 1) rfl rfl (At.put6 T2.out _ _ _ _ _ _) ⟨rfl, below6 (b := w.heap.size + 1 + 1) HBW.out (by omega) _ _ _ _ _ _⟩
    · have he2 : 4611686018427387904 ≤ ep := by
        by_cases h : 4611686018427387904 ≤ ep
        · exact h
        · exact absurd ⟨h1, h2, by omega, by omega, by omega, by omega⟩ hok
      have d1 : decide (ep < 0) = false := by simp; omega
      have d2 : decide (4611686018427387904 ≤ ep) = true := by simp; omega
      have HOK := Lib.hid hok; clear hok
      have z0 := T2.out.free 0; have z1 := T2.out.free 1; have z2 := T2.out.free 2; have z3 := T2.out.free 3; have z4 := T2.out.free 4; have z5 := T2.out.free 5
      have y0 := T2.out.cell 0; have y1 := T2.out.cell 1; have y2 := T2.out.cell 2; have y3 := T2.out.cell 3; have y4 := T2.out.cell 4; have y5 := T2.out.cell 5
      simp only [List.getElem?_toArray, List.getElem?_cons_zero, List.getElem?_cons_succ] at y0 y1 y2 y3 y4 y5
      go_wp2_with fail
      refine open_bad_done (b := w.heap.size + 1 + 1) rfl rfl (At.put6 T2.out _ _ _ _ _ _) ⟨rfl, below6 (b := w.heap.size + 1 + 1) HBW.out (by omega) _ _ _ _ _ _⟩
  · rw [decide_eq_false hv]
    have HOK := Lib.hid hok; clear hok hv
    have z0 := T2.out.free 0; have z1 := T2.out.free 1; have z2 := T2.out.free 2; have z3 := T2.out.free 3; have z4 := T2.out.free 4; have z5 := T2.out.free 5
    have y0 := T2.out.cell 0; have y1 := T2.out.cell 1; have y2 := T2.out.cell 2; have y3 := T2.out.cell 3; have y4 := T2.out.cell 4; have y5 := T2.out.cell 5
    simp only [List.getElem?_toArray, List.getElem?_cons_zero, List.getElem?_cons_succ] at y0 y1 y2 y3 y4 y5
    go_wp2_with fail
    refine open_bad_done (b := w.heap.size + 1 + 1) rfl rfl (At.put6 T2.out _ _ _ _ _ _) ⟨rfl, below6 (b := w.heap.size + 1 + 1) HBW.out (by omega) _ _ _ _ _ _⟩
end Go.Proofs.YtfgjjdjaiddllaaDoor
