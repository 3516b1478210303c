/- The program's journal: Open refuses what is out of range. Condition: none but those of a disk. -/
import Derived.Test.YtfgjjdjaiddllaaDoorJourE
import Derived.Test.YtfgjjdjaiddllaaDoorBld
namespace Go.Proofs.YtfgjjdjaiddllaaDoor
set_option linter.unusedVariables false
set_option linter.unusedSimpArgs false
open Go Go.RowKit Go.Maps
attribute [local go_sem] Oper.semAt_some
/-- Whether a region and an epoch are such that a journal can be opened there. -/
def openOK (pages first count epoch : Int) : Prop := 0 ≤ first ∧ 1 ≤ count ∧ count ≤ pages ∧ first ≤ pages - count ∧ 0 ≤ epoch ∧ epoch ≤ 4611686018427387903
set_option maxRecDepth 100000 in
set_option maxHeartbeats 2000000 in
theorem jOpen_bad1 (d : DiskP) (c : DiskC) (first count epoch : Int) (w : World) (n : Nat) (hn : n = c.durable.length) (h : DiskAt w d c) (d1 : decide (first < 0) = true) :
    Calls Tryd.prog 18 #[.pointer (some ⟨d.a, 0, none⟩), .agg #[.int .i64 first, .int .i64 count], .int .i64 epoch] w fun e w' => e = .returned (.tuple #[.pointer none, .int .i64 2]) ∧ Below w.heap.size w w' := by
  have hpos := h.pos
  have hmost := h.most
  have HH := Lib.hid h; clear h
  rw [← hn] at hpos hmost
  have HN := Lib.hid hn; clear hn
  go_enter Tryd.func18, Tryd.ntmps18
  go_wp2_with fail
  have hd1 : DiskAt (w.alloc (.cells #[.int .i64 first, .int .i64 count] 24)).drew d c := HH.out.below ((Below.refl w.heap.size w).alloc (Nat.le_refl _) _).drew (Nat.le_refl _)
  have hB1 : Below w.heap.size w (w.alloc (.cells #[.int .i64 first, .int .i64 count] 24)).drew := ((Below.refl w.heap.size w).alloc (Nat.le_refl _) _).drew
  have hA1 : At (w.alloc (.cells #[.int .i64 first, .int .i64 count] 24)).drew w.heap.size 24 #[.int .i64 first, .int .i64 count] := (At.new w _ _).drew
  have HD1 := Lib.hid hd1; have HB1 := Lib.hid hB1; have HA1 := Lib.hid hA1; clear hd1 hB1 hA1
  refine Lex.wp_region_lexN (fun k => k = w.heap.size) [10, 17, 21] 23 [13, 7] (by kernel_rfl) (by kernel_rfl) (by kernel_rfl) ?_
  simp only [Lex.wpCuts, List.take_succ_cons, List.take_zero, List.drop_succ_cons, List.drop_zero]
  generalize (w.alloc (.cells #[.int .i64 first, .int .i64 count] 24)).drew = w1 at *
  have c0 := HA1.out.cell 0; have c1 := HA1.out.cell 1
  simp only [List.getElem?_toArray, List.getElem?_cons_zero, List.getElem?_cons_succ] at c0 c1
  go_wp2_with fail
  try ((with_reducible refine (dPages_any d c _ HD1.out).mono ?_); rintro e w1 ⟨rfl, rfl⟩; rw [← HN.out]; go_wp2_with fail)
  refine Lex.Mid.intro (fun k _ hk => rfl) ?_
  go_wp2_with fail
  try ((with_reducible refine (dPages_any d c _ HD1.out).mono ?_); rintro e w1 ⟨rfl, rfl⟩; rw [← HN.out]; go_wp2_with fail)
  refine Lex.Mid.intro (fun k _ hk => rfl) ?_
  go_wp2_with fail
  refine Lex.EndsN.intro (by kernel_rfl) ?_ ?_
  · refine ⟨?_, ?_, ?_, trivial⟩
    · first
        | exact trivial
        | exact ⟨rfl, by show (w1.cell? ⟨w.heap.size, 1, none⟩).isSome = true; rw [c1]; rfl⟩
    · first
        | exact trivial
        | exact ⟨rfl, by show (w1.cell? ⟨w.heap.size, 0, none⟩).isSome = true; rw [c0]; rfl⟩
    · first
        | exact trivial
        | exact ⟨rfl, by show (w1.cell? ⟨w.heap.size, 1, none⟩).isSome = true; rw [c1]; rfl⟩
  go_wp2_with fail
  go_ret2
  exact ⟨rfl, HB1.out⟩
set_option maxRecDepth 100000 in
set_option maxHeartbeats 2000000 in
theorem jOpen_bad2 (d : DiskP) (c : DiskC) (first count epoch : Int) (w : World) (n : Nat) (hn : n = c.durable.length) (h : DiskAt w d c) (d1 : decide (first < 0) = false) (d2 : decide (count < 1) = true) (h1 : 0 ≤ first) :
    Calls Tryd.prog 18 #[.pointer (some ⟨d.a, 0, none⟩), .agg #[.int .i64 first, .int .i64 count], .int .i64 epoch] w fun e w' => e = .returned (.tuple #[.pointer none, .int .i64 2]) ∧ Below w.heap.size w w' := by
  have hpos := h.pos
  have hmost := h.most
  have HH := Lib.hid h; clear h
  rw [← hn] at hpos hmost
  have HN := Lib.hid hn; clear hn
  go_enter Tryd.func18, Tryd.ntmps18
  go_wp2_with fail
  have hd1 : DiskAt (w.alloc (.cells #[.int .i64 first, .int .i64 count] 24)).drew d c := HH.out.below ((Below.refl w.heap.size w).alloc (Nat.le_refl _) _).drew (Nat.le_refl _)
  have hB1 : Below w.heap.size w (w.alloc (.cells #[.int .i64 first, .int .i64 count] 24)).drew := ((Below.refl w.heap.size w).alloc (Nat.le_refl _) _).drew
  have hA1 : At (w.alloc (.cells #[.int .i64 first, .int .i64 count] 24)).drew w.heap.size 24 #[.int .i64 first, .int .i64 count] := (At.new w _ _).drew
  have HD1 := Lib.hid hd1; have HB1 := Lib.hid hB1; have HA1 := Lib.hid hA1; clear hd1 hB1 hA1
  refine Lex.wp_region_lexN (fun k => k = w.heap.size) [10, 17, 21] 23 [13, 7] (by kernel_rfl) (by kernel_rfl) (by kernel_rfl) ?_
  simp only [Lex.wpCuts, List.take_succ_cons, List.take_zero, List.drop_succ_cons, List.drop_zero]
  generalize (w.alloc (.cells #[.int .i64 first, .int .i64 count] 24)).drew = w1 at *
  have c0 := HA1.out.cell 0; have c1 := HA1.out.cell 1
  simp only [List.getElem?_toArray, List.getElem?_cons_zero, List.getElem?_cons_succ] at c0 c1
  go_wp2_with fail
  try ((with_reducible refine (dPages_any d c _ HD1.out).mono ?_); rintro e w1 ⟨rfl, rfl⟩; rw [← HN.out]; go_wp2_with fail)
  refine Lex.Mid.intro (fun k _ hk => rfl) ?_
  go_wp2_with fail
  try ((with_reducible refine (dPages_any d c _ HD1.out).mono ?_); rintro e w1 ⟨rfl, rfl⟩; rw [← HN.out]; go_wp2_with fail)
  refine Lex.Mid.intro (fun k _ hk => rfl) ?_
  go_wp2_with fail
  refine Lex.EndsN.intro (by kernel_rfl) ?_ ?_
  · refine ⟨?_, ?_, ?_, trivial⟩
    · first
        | exact trivial
        | exact ⟨rfl, by show (w1.cell? ⟨w.heap.size, 1, none⟩).isSome = true; rw [c1]; rfl⟩
    · first
        | exact trivial
        | exact ⟨rfl, by show (w1.cell? ⟨w.heap.size, 0, none⟩).isSome = true; rw [c0]; rfl⟩
    · first
        | exact trivial
        | exact ⟨rfl, by show (w1.cell? ⟨w.heap.size, 1, none⟩).isSome = true; rw [c1]; rfl⟩
  go_wp2_with fail
  go_ret2
  exact ⟨rfl, HB1.out⟩
set_option maxRecDepth 100000 in
set_option maxHeartbeats 2000000 in
theorem jOpen_bad3 (d : DiskP) (c : DiskC) (first count epoch : Int) (w : World) (n : Nat) (hn : n = c.durable.length) (h : DiskAt w d c) (d1 : decide (first < 0) = false) (d2 : decide (count < 1) = false) (d3 : decide ((n : Int) < count) = true) (h1 : 0 ≤ first) (h2 : 1 ≤ count) :
    Calls Tryd.prog 18 #[.pointer (some ⟨d.a, 0, none⟩), .agg #[.int .i64 first, .int .i64 count], .int .i64 epoch] w fun e w' => e = .returned (.tuple #[.pointer none, .int .i64 2]) ∧ Below w.heap.size w w' := by
  have hpos := h.pos
  have hmost := h.most
  have HH := Lib.hid h; clear h
  rw [← hn] at hpos hmost
  have HN := Lib.hid hn; clear hn
  go_enter Tryd.func18, Tryd.ntmps18
  go_wp2_with fail
  have hd1 : DiskAt (w.alloc (.cells #[.int .i64 first, .int .i64 count] 24)).drew d c := HH.out.below ((Below.refl w.heap.size w).alloc (Nat.le_refl _) _).drew (Nat.le_refl _)
  have hB1 : Below w.heap.size w (w.alloc (.cells #[.int .i64 first, .int .i64 count] 24)).drew := ((Below.refl w.heap.size w).alloc (Nat.le_refl _) _).drew
  have hA1 : At (w.alloc (.cells #[.int .i64 first, .int .i64 count] 24)).drew w.heap.size 24 #[.int .i64 first, .int .i64 count] := (At.new w _ _).drew
  have HD1 := Lib.hid hd1; have HB1 := Lib.hid hB1; have HA1 := Lib.hid hA1; clear hd1 hB1 hA1
  refine Lex.wp_region_lexN (fun k => k = w.heap.size) [10, 17, 21] 23 [13, 7] (by kernel_rfl) (by kernel_rfl) (by kernel_rfl) ?_
  simp only [Lex.wpCuts, List.take_succ_cons, List.take_zero, List.drop_succ_cons, List.drop_zero]
  generalize (w.alloc (.cells #[.int .i64 first, .int .i64 count] 24)).drew = w1 at *
  have c0 := HA1.out.cell 0; have c1 := HA1.out.cell 1
  simp only [List.getElem?_toArray, List.getElem?_cons_zero, List.getElem?_cons_succ] at c0 c1
  go_wp2_with fail
  try ((with_reducible refine (dPages_any d c _ HD1.out).mono ?_); rintro e w1 ⟨rfl, rfl⟩; rw [← HN.out]; go_wp2_with fail)
  refine Lex.Mid.intro (fun k _ hk => rfl) ?_
  go_wp2_with fail
  try ((with_reducible refine (dPages_any d c _ HD1.out).mono ?_); rintro e w1 ⟨rfl, rfl⟩; rw [← HN.out]; go_wp2_with fail)
  refine Lex.Mid.intro (fun k _ hk => rfl) ?_
  go_wp2_with fail
  refine Lex.EndsN.intro (by kernel_rfl) ?_ ?_
  · refine ⟨?_, ?_, ?_, trivial⟩
    · first
        | exact trivial
        | exact ⟨rfl, by show (w1.cell? ⟨w.heap.size, 1, none⟩).isSome = true; rw [c1]; rfl⟩
    · first
        | exact trivial
        | exact ⟨rfl, by show (w1.cell? ⟨w.heap.size, 0, none⟩).isSome = true; rw [c0]; rfl⟩
    · first
        | exact trivial
        | exact ⟨rfl, by show (w1.cell? ⟨w.heap.size, 1, none⟩).isSome = true; rw [c1]; rfl⟩
  go_wp2_with fail
  go_ret2
  exact ⟨rfl, HB1.out⟩
set_option maxRecDepth 100000 in
set_option maxHeartbeats 2000000 in
theorem jOpen_bad4 (d : DiskP) (c : DiskC) (first count epoch : Int) (w : World) (n : Nat) (hn : n = c.durable.length) (h : DiskAt w d c) (d1 : decide (first < 0) = false) (d2 : decide (count < 1) = false) (d3 : decide ((n : Int) < count) = false) (d4 : decide ((n : Int) - count < first) = true) (h1 : 0 ≤ first) (h2 : 1 ≤ count) (h3 : count ≤ n) :
    Calls Tryd.prog 18 #[.pointer (some ⟨d.a, 0, none⟩), .agg #[.int .i64 first, .int .i64 count], .int .i64 epoch] w fun e w' => e = .returned (.tuple #[.pointer none, .int .i64 2]) ∧ Below w.heap.size w w' := by
  have hpos := h.pos
  have hmost := h.most
  have HH := Lib.hid h; clear h
  rw [← hn] at hpos hmost
  have HN := Lib.hid hn; clear hn
  go_enter Tryd.func18, Tryd.ntmps18
  go_wp2_with fail
  have hd1 : DiskAt (w.alloc (.cells #[.int .i64 first, .int .i64 count] 24)).drew d c := HH.out.below ((Below.refl w.heap.size w).alloc (Nat.le_refl _) _).drew (Nat.le_refl _)
  have hB1 : Below w.heap.size w (w.alloc (.cells #[.int .i64 first, .int .i64 count] 24)).drew := ((Below.refl w.heap.size w).alloc (Nat.le_refl _) _).drew
  have hA1 : At (w.alloc (.cells #[.int .i64 first, .int .i64 count] 24)).drew w.heap.size 24 #[.int .i64 first, .int .i64 count] := (At.new w _ _).drew
  have HD1 := Lib.hid hd1; have HB1 := Lib.hid hB1; have HA1 := Lib.hid hA1; clear hd1 hB1 hA1
  refine Lex.wp_region_lexN (fun k => k = w.heap.size) [10, 17, 21] 23 [13, 7] (by kernel_rfl) (by kernel_rfl) (by kernel_rfl) ?_
  simp only [Lex.wpCuts, List.take_succ_cons, List.take_zero, List.drop_succ_cons, List.drop_zero]
  generalize (w.alloc (.cells #[.int .i64 first, .int .i64 count] 24)).drew = w1 at *
  have c0 := HA1.out.cell 0; have c1 := HA1.out.cell 1
  simp only [List.getElem?_toArray, List.getElem?_cons_zero, List.getElem?_cons_succ] at c0 c1
  go_wp2_with fail
  try ((with_reducible refine (dPages_any d c _ HD1.out).mono ?_); rintro e w1 ⟨rfl, rfl⟩; rw [← HN.out]; go_wp2_with fail)
  refine Lex.Mid.intro (fun k _ hk => rfl) ?_
  go_wp2_with fail
  try ((with_reducible refine (dPages_any d c _ HD1.out).mono ?_); rintro e w1 ⟨rfl, rfl⟩; rw [← HN.out]; go_wp2_with fail)
  refine Lex.Mid.intro (fun k _ hk => rfl) ?_
  go_wp2_with fail
  refine Lex.EndsN.intro (by kernel_rfl) ?_ ?_
  · refine ⟨?_, ?_, ?_, trivial⟩
    · first
        | exact trivial
        | exact ⟨rfl, by show (w1.cell? ⟨w.heap.size, 1, none⟩).isSome = true; rw [c1]; rfl⟩
    · first
        | exact trivial
        | exact ⟨rfl, by show (w1.cell? ⟨w.heap.size, 0, none⟩).isSome = true; rw [c0]; rfl⟩
    · first
        | exact trivial
        | exact ⟨rfl, by show (w1.cell? ⟨w.heap.size, 1, none⟩).isSome = true; rw [c1]; rfl⟩
  go_wp2_with fail
  go_ret2
  exact ⟨rfl, HB1.out⟩
set_option maxRecDepth 100000 in
set_option maxHeartbeats 2000000 in
theorem jOpen_bad5 (d : DiskP) (c : DiskC) (first count epoch : Int) (w : World) (n : Nat) (hn : n = c.durable.length) (h : DiskAt w d c) (d1 : decide (first < 0) = false) (d2 : decide (count < 1) = false) (d3 : decide ((n : Int) < count) = false) (d4 : decide ((n : Int) - count < first) = false) (d5 : decide (epoch < 0) = true) (h1 : 0 ≤ first) (h2 : 1 ≤ count) (h3 : count ≤ n) (h4 : first ≤ (n : Int) - count) :
    Calls Tryd.prog 18 #[.pointer (some ⟨d.a, 0, none⟩), .agg #[.int .i64 first, .int .i64 count], .int .i64 epoch] w fun e w' => e = .returned (.tuple #[.pointer none, .int .i64 2]) ∧ Below w.heap.size w w' := by
  have hpos := h.pos
  have hmost := h.most
  have HH := Lib.hid h; clear h
  rw [← hn] at hpos hmost
  have HN := Lib.hid hn; clear hn
  go_enter Tryd.func18, Tryd.ntmps18
  go_wp2_with fail
  have hd1 : DiskAt (w.alloc (.cells #[.int .i64 first, .int .i64 count] 24)).drew d c := HH.out.below ((Below.refl w.heap.size w).alloc (Nat.le_refl _) _).drew (Nat.le_refl _)
  have hB1 : Below w.heap.size w (w.alloc (.cells #[.int .i64 first, .int .i64 count] 24)).drew := ((Below.refl w.heap.size w).alloc (Nat.le_refl _) _).drew
  have hA1 : At (w.alloc (.cells #[.int .i64 first, .int .i64 count] 24)).drew w.heap.size 24 #[.int .i64 first, .int .i64 count] := (At.new w _ _).drew
  have HD1 := Lib.hid hd1; have HB1 := Lib.hid hB1; have HA1 := Lib.hid hA1; clear hd1 hB1 hA1
  refine Lex.wp_region_lexN (fun k => k = w.heap.size) [10, 17, 21] 23 [13, 7] (by kernel_rfl) (by kernel_rfl) (by kernel_rfl) ?_
  simp only [Lex.wpCuts, List.take_succ_cons, List.take_zero, List.drop_succ_cons, List.drop_zero]
  generalize (w.alloc (.cells #[.int .i64 first, .int .i64 count] 24)).drew = w1 at *
  have c0 := HA1.out.cell 0; have c1 := HA1.out.cell 1
  simp only [List.getElem?_toArray, List.getElem?_cons_zero, List.getElem?_cons_succ] at c0 c1
  go_wp2_with fail
  try ((with_reducible refine (dPages_any d c _ HD1.out).mono ?_); rintro e w1 ⟨rfl, rfl⟩; rw [← HN.out]; go_wp2_with fail)
  refine Lex.Mid.intro (fun k _ hk => rfl) ?_
  go_wp2_with fail
  try ((with_reducible refine (dPages_any d c _ HD1.out).mono ?_); rintro e w1 ⟨rfl, rfl⟩; rw [← HN.out]; go_wp2_with fail)
  refine Lex.Mid.intro (fun k _ hk => rfl) ?_
  go_wp2_with fail
  refine Lex.EndsN.intro (by kernel_rfl) ?_ ?_
  · refine ⟨?_, ?_, ?_, trivial⟩
    · first
        | exact trivial
        | exact ⟨rfl, by show (w1.cell? ⟨w.heap.size, 1, none⟩).isSome = true; rw [c1]; rfl⟩
    · first
        | exact trivial
        | exact ⟨rfl, by show (w1.cell? ⟨w.heap.size, 0, none⟩).isSome = true; rw [c0]; rfl⟩
    · first
        | exact trivial
        | exact ⟨rfl, by show (w1.cell? ⟨w.heap.size, 1, none⟩).isSome = true; rw [c1]; rfl⟩
  go_wp2_with fail
  go_ret2
  exact ⟨rfl, HB1.out⟩
set_option maxRecDepth 100000 in
set_option maxHeartbeats 2000000 in
theorem jOpen_bad6 (d : DiskP) (c : DiskC) (first count epoch : Int) (w : World) (n : Nat) (hn : n = c.durable.length) (h : DiskAt w d c) (d1 : decide (first < 0) = false) (d2 : decide (count < 1) = false) (d3 : decide ((n : Int) < count) = false) (d4 : decide ((n : Int) - count < first) = false) (d5 : decide (epoch < 0) = false) (d6 : decide (4611686018427387903 < epoch) = true) (h1 : 0 ≤ first) (h2 : 1 ≤ count) (h3 : count ≤ n) (h4 : first ≤ (n : Int) - count) (h5 : 0 ≤ epoch) :
    Calls Tryd.prog 18 #[.pointer (some ⟨d.a, 0, none⟩), .agg #[.int .i64 first, .int .i64 count], .int .i64 epoch] w fun e w' => e = .returned (.tuple #[.pointer none, .int .i64 2]) ∧ Below w.heap.size w w' := by
  have hpos := h.pos
  have hmost := h.most
  have HH := Lib.hid h; clear h
  rw [← hn] at hpos hmost
  have HN := Lib.hid hn; clear hn
  go_enter Tryd.func18, Tryd.ntmps18
  go_wp2_with fail
  have hd1 : DiskAt (w.alloc (.cells #[.int .i64 first, .int .i64 count] 24)).drew d c := HH.out.below ((Below.refl w.heap.size w).alloc (Nat.le_refl _) _).drew (Nat.le_refl _)
  have hB1 : Below w.heap.size w (w.alloc (.cells #[.int .i64 first, .int .i64 count] 24)).drew := ((Below.refl w.heap.size w).alloc (Nat.le_refl _) _).drew
  have hA1 : At (w.alloc (.cells #[.int .i64 first, .int .i64 count] 24)).drew w.heap.size 24 #[.int .i64 first, .int .i64 count] := (At.new w _ _).drew
  have HD1 := Lib.hid hd1; have HB1 := Lib.hid hB1; have HA1 := Lib.hid hA1; clear hd1 hB1 hA1
  refine Lex.wp_region_lexN (fun k => k = w.heap.size) [10, 17, 21] 23 [13, 7] (by kernel_rfl) (by kernel_rfl) (by kernel_rfl) ?_
  simp only [Lex.wpCuts, List.take_succ_cons, List.take_zero, List.drop_succ_cons, List.drop_zero]
  generalize (w.alloc (.cells #[.int .i64 first, .int .i64 count] 24)).drew = w1 at *
  have c0 := HA1.out.cell 0; have c1 := HA1.out.cell 1
  simp only [List.getElem?_toArray, List.getElem?_cons_zero, List.getElem?_cons_succ] at c0 c1
  go_wp2_with fail
  try ((with_reducible refine (dPages_any d c _ HD1.out).mono ?_); rintro e w1 ⟨rfl, rfl⟩; rw [← HN.out]; go_wp2_with fail)
  refine Lex.Mid.intro (fun k _ hk => rfl) ?_
  go_wp2_with fail
  try ((with_reducible refine (dPages_any d c _ HD1.out).mono ?_); rintro e w1 ⟨rfl, rfl⟩; rw [← HN.out]; go_wp2_with fail)
  refine Lex.Mid.intro (fun k _ hk => rfl) ?_
  go_wp2_with fail
  refine Lex.EndsN.intro (by kernel_rfl) ?_ ?_
  · refine ⟨?_, ?_, ?_, trivial⟩
    · first
        | exact trivial
        | exact ⟨rfl, by show (w1.cell? ⟨w.heap.size, 1, none⟩).isSome = true; rw [c1]; rfl⟩
    · first
        | exact trivial
        | exact ⟨rfl, by show (w1.cell? ⟨w.heap.size, 0, none⟩).isSome = true; rw [c0]; rfl⟩
    · first
        | exact trivial
        | exact ⟨rfl, by show (w1.cell? ⟨w.heap.size, 1, none⟩).isSome = true; rw [c1]; rfl⟩
  go_wp2_with fail
  go_ret2
  exact ⟨rfl, HB1.out⟩
theorem jOpen_bad (d : DiskP) (c : DiskC) (first count epoch : Int) (w : World) (h : DiskAt w d c) (hb : ¬ openOK c.durable.length first count epoch) :
    Calls Tryd.prog 18 #[.pointer (some ⟨d.a, 0, none⟩), .agg #[.int .i64 first, .int .i64 count], .int .i64 epoch] w fun e w' => e = .returned (.tuple #[.pointer none, .int .i64 2]) ∧ Below w.heap.size w w' := by
  obtain ⟨n, hn⟩ : ∃ n : Nat, n = c.durable.length := ⟨_, rfl⟩
  unfold openOK at hb
  rw [← hn] at hb
  by_cases h1 : 0 ≤ first
  case neg => exact jOpen_bad1 d c first count epoch w n hn h (by simp; omega) 
  by_cases h2 : 1 ≤ count
  case neg => exact jOpen_bad2 d c first count epoch w n hn h (by simp; omega) (by simp; omega) h1
  by_cases h3 : count ≤ n
  case neg => exact jOpen_bad3 d c first count epoch w n hn h (by simp; omega) (by simp; omega) (by simp; omega) h1 h2
  by_cases h4 : first ≤ (n : Int) - count
  case neg => exact jOpen_bad4 d c first count epoch w n hn h (by simp; omega) (by simp; omega) (by simp; omega) (by simp; omega) h1 h2 h3
  by_cases h5 : 0 ≤ epoch
  case neg => exact jOpen_bad5 d c first count epoch w n hn h (by simp; omega) (by simp; omega) (by simp; omega) (by simp; omega) (by simp; omega) h1 h2 h3 h4
  by_cases h6 : epoch ≤ 4611686018427387903
  case neg => exact jOpen_bad6 d c first count epoch w n hn h (by simp; omega) (by simp; omega) (by simp; omega) (by simp; omega) (by simp; omega) (by simp; omega) h1 h2 h3 h4 h5
  exact absurd ⟨h1, h2, h3, h4, h5, h6⟩ hb
end Go.Proofs.YtfgjjdjaiddllaaDoor
