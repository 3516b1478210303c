/- The program's journal parses a page whose head is good. -/
import Derived.Test.YtfgjjdjaiddllaaDoorJourC
namespace Go.Proofs.YtfgjjdjaiddllaaDoor
set_option linter.unusedVariables false
set_option linter.unusedSimpArgs false
open Go Go.RowKit Go.Maps
theorem len_bits (a b : Nat) (ha : a < 256) (hb : b < 256) : bits BinOp.or IntKind.i64 (wrap64 (wrap64 (a : Int) * 256)) (wrap64 (b : Int)) = ((a * 256 + b : Nat) : Int) := by
  have e1 : wrap64 (wrap64 (a : Int) * 256) = (a : Int) * 256 := by unfold wrap64; omega
  have e2 : wrap64 (b : Int) = (b : Int) := by unfold wrap64; omega
  rw [e1, e2, bits_join .i64 32 (by decide) (fun n h0 h1 => by rw [IntKind.wrap_i64]; omega) 8 _ _ (by omega) (by omega) (by omega) (by omega) (by omega) (by omega)]
  omega
theorem byteAt_eq (s : ByteArray) (i : Nat) (h : i < s.size) : s[i].toNat = byteAt s i := by
  unfold byteAt
  have hl : i < s.data.toList.length := by simpa using h
  rw [List.getD_eq_getElem?_getD, List.getElem?_eq_getElem hl]
  rfl
theorem byteAt_lt (s : ByteArray) (i : Nat) : byteAt s i < 256 := (s.data.toList.getD i 0).toNat_lt
/-- What parse returns at a page whose head is good. -/
def BodyPost (s : ByteArray) (w : World) (e : Ending) (w' : World) : Prop :=
  e = .returned (.tuple #[.agg (if bodyOK s then #[.string (s.extract 0 32), .string (s.extract 43 75), .string (s.extract 75 (75 + pageLen s)), .bool (byteAt s 40 == 1)] else Pg.none.row), .bool (bodyOK s)]) ∧ Below w.heap.size w w'
theorem BodyPost.bad {s : ByteArray} {w w' : World} (hb : bodyOK s = false) (h : Below w.heap.size w w') : BodyPost s w (.returned (.tuple #[.agg Pg.none.row, .bool false])) w' := by
  unfold BodyPost
  rw [hb]
  exact ⟨rfl, h⟩
theorem BodyPost.good {s : ByteArray} {w w' : World} {N : Nat} {v : Bool} (hb : bodyOK s = true) (h : Below w.heap.size w w') (hN : N = pageLen s) (hv : v = (byteAt s 40 == 1)) :
    BodyPost s w (.returned (.tuple #[.agg #[.string (s.extract 0 32), .string (s.extract 43 75), .string (s.extract 75 (75 + N)), .bool v], .bool true])) w' := by
  unfold BodyPost
  rw [hb, ← hN, ← hv]
  exact ⟨rfl, h⟩
set_option maxRecDepth 100000 in
set_option maxHeartbeats 4000000 in
theorem parse_body (j : Jour) (s chain : ByteArray) (w : World) (hj : JourAt w j) (hch : chain.size ≤ 1000) (he : j.epoch < 9223372036854775808) (hs : s.size = 512) (ha : ((Sha.sha (⟨#[8]⟩ ++ chain ++ s.extract 32 512)).toList == (s.extract 0 32).toList) = true) (hb : ((s.extract 32 40).toList == (big j.epoch 8).toList) = true) :
    Calls Tryd.prog 56 #[.pointer (some ⟨j.jb, 0, none⟩), .string s, .string chain] w (BodyPost s w) := by
  have hjl := hj.self.lt
  have HJ := Lib.hid hj; clear hj
  have hsz : (⟨#[8]⟩ ++ chain ++ s.extract 32 512 : ByteArray).size ≤ 9223372036854775000 := by
    rw [Sha.app_size, Sha.app_size, ByteArray.size_extract]
    show 1 + _ + _ ≤ _
    omega
  go_enter Tryd.func56, Tryd.ntmps56
  go_wp2_with fail
  refine Lex.wp_region_lex (by kernel_rfl) (by kernel_rfl) ?_
  go_wp2_with fail
  refine (sum_any _ _ hsz).mono ?_
  rintro e w1 ⟨rfl, hb1⟩
  have hb1k := hb1.block
  have hb1 : Below w.heap.size w w1 := (((Below.refl w.heap.size w).alloc (Nat.le_refl _) _).drew).trans (hb1.mono (by simp))
  have hrow : At w1 w.heap.size 90 #[.string ⟨#[]⟩, .string ⟨#[]⟩, .string ⟨#[]⟩, .bool false] := by
    have h := (At.new w 90 #[.string ⟨#[]⟩, .string ⟨#[]⟩, .string ⟨#[]⟩, .bool false]).drew
    exact h.keep (hb1k _ (by simp))
  have h3 := (HJ.out.below hb1 (Nat.le_refl _)).self.cell 3
  simp only [Jour.cells, List.getElem?_toArray, List.getElem?_cons_zero, List.getElem?_cons_succ] at h3
  have HB1 := Lib.hid hb1; have HR := Lib.hid hrow; clear hb1 hrow hb1k
  go_wp2_with fail
  refine (big_any j.epoch 8 w1 he (by omega) (by omega)).mono ?_
  rintro e w2 ⟨rfl, hb2⟩
  have hrow := At.below HR.out hb2 HR.out.lt
  have hb2' := HB1.out.trans (hb2.mono HB1.out.size)
  have HB2 := Lib.hid hb2'; have HR2 := Lib.hid hrow; clear hb2 hb2' hrow
  go_wp2_with fail
  refine Lex.Ends.intro (by kernel_rfl) ?_
  go_wp2_with fail
  refine Lex.wp_region_lex (by kernel_rfl) (by kernel_rfl) ?_
  go_wp2_with fail
  refine Lex.Ends.intro (by kernel_rfl) ?_
  have hbits : bits BinOp.or IntKind.i64 (wrap64 (wrap64 (s[41].toNat : Int) * 256)) (wrap64 (s[42].toNat : Int)) = (pageLen s : Int) := by
    rw [byteAt_eq s 41 (by omega), byteAt_eq s 42 (by omega)]
    exact len_bits _ _ (byteAt_lt s 41) (byteAt_lt s 42)
  have h40 : s[40].toNat = byteAt s 40 := byteAt_eq s 40 (by omega)
  rw [hbits, h40]
  clear hbits h40
  have hL := byteAt_lt s 40
  have hbody0 : bodyOK s = (decide (byteAt s 40 ≤ 1) && decide (pageLen s ≤ 437) && !(decide (byteAt s 40 = 0) && !decide (pageLen s = 437)) && ((⟨(Lib.trimB (s.extract (75 + pageLen s) 512).data.toList 0).toArray⟩ : ByteArray).toList == [])) := rfl
  obtain ⟨L, hLe⟩ : ∃ L, L = byteAt s 40 := ⟨_, rfl⟩
  obtain ⟨N, hNe⟩ : ∃ N, N = pageLen s := ⟨_, rfl⟩
  rw [← hLe, ← hNe] at hbody0
  rw [← hLe] at hL
  rw [← hLe, ← hNe]
  have HLN := Lib.hid (And.intro hLe hNe); clear hLe hNe
  by_cases hgood : L ≤ 1 ∧ N ≤ 437 ∧ (L = 0 → N = 437)
  · have hbody : bodyOK s = ((⟨(Lib.trimB (s.extract (75 + N) 512).data.toList 0).toArray⟩ : ByteArray).toList == []) := by
      rw [hbody0]
      have h1 : decide (L ≤ 1) = true := by simp; omega
      have h2 : decide (N ≤ 437) = true := by simp; omega
      have h3 : (!(decide (L = 0) && !decide (N = 437))) = true := by simp; omega
      rw [h1, h2, h3]; simp
    have HBO := Lib.hid hbody; clear hbody hbody0
    obtain ⟨g1, g2, g3⟩ := hgood
    have hrow := HR2.out.drew
    have HB3 := Lib.hid HB2.out.drew
    have HR3 := Lib.hid hrow; clear hrow
    generalize w2.drew = w3 at *
    have hex : (s.extract (75 + N) 512).size ≤ 9223372036854775807 := by rw [ByteArray.size_extract]; omega
    have HEX := Lib.hid hex; clear hex
    obtain ⟨X, hX⟩ : ∃ X, X = (⟨(Lib.trimB (s.extract (75 + N) 512).data.toList 0).toArray⟩ : ByteArray) := ⟨_, rfl⟩
    have HX := Lib.hid hX; clear hX
    have hcase : (L = 0 ∧ N = 437) ∨ (L = 1 ∧ N ≤ 437) := by omega
    rcases hcase with ⟨l0, n0⟩ | ⟨l1, n1⟩
    · have dL : ((L : Int) == 0) = true := by simp; omega
      have dM : decide ((L : Int) > 1) = false := by simp; omega
      have dN : ((N : Int) != 437) = false := by simp; omega
      have HL := Lib.hid l0; have HN := Lib.hid n0; clear l0 n0
      go_wp2_with fail
      refine (Tryd.strings_Trim_one _ 0 (by decide) _ HEX.out).mono ?_
      rintro e w4 ⟨rfl, hw4⟩
      have hB4 : Below w.heap.size w w4 := by
        rcases hw4 with rfl | rfl
        · exact HB3.out
        · exact HB3.out.drew
      have hrow : At w4 w.heap.size 90 #[.string ⟨#[]⟩, .string ⟨#[]⟩, .string ⟨#[]⟩, .bool false] := by
        rcases hw4 with rfl | rfl
        · exact HR3.out
        · exact HR3.out.drew
      clear hw4
      have c0 := hrow.cell 0; have c1 := hrow.cell 1; have c2 := hrow.cell 2; have c3 := hrow.cell 3
      simp only [List.getElem?_toArray, List.getElem?_cons_zero, List.getElem?_cons_succ] at c0 c1 c2 c3
      have z0 : w4.frozen? ⟨w.heap.size, 0, none⟩ = false := hrow.free 0
      have z1 : w4.frozen? ⟨w.heap.size, 1, none⟩ = false := hrow.free 1
      have z2 : w4.frozen? ⟨w.heap.size, 2, none⟩ = false := hrow.free 2
      have z3 : w4.frozen? ⟨w.heap.size, 3, none⟩ = false := hrow.free 3
      have HB4 := Lib.hid hB4; have HR4 := Lib.hid hrow; clear hrow hB4
      rw [← HX.out]
      by_cases hx : X.toList = []
      · have hx2 : (!X.toList.isEmpty) = false := by rw [hx]; rfl
        have hbo : bodyOK s = true := by rw [HBO.out, ← HX.out, hx]; rfl
        have HB := Lib.hid hbo; clear hbo
        go_wp2_with fail
        refine Lex.wp_region_lex (by kernel_rfl) (by kernel_rfl) ?_
        go_wp2_with fail
        refine Lex.Ends.intro (by kernel_rfl) ?_
        go_wp2_with fail
        refine bodyPost_ret (v := .tuple #[.agg #[.string (s.extract 0 32), .string (s.extract 43 75), .string (s.extract 75 (75 + N)), .bool ((L : Int) == 1)], .bool true]) (results_page (g := w.heap.size) rfl rfl ?_ rfl) rfl (BodyPost.good HB.out ?_ HLN.out.2 ?_)
        · exact ((((HR4.out.set 0 _).set 1 _).set 2 _).set 3 _).drew
        · exact ((((HB4.out.setCell (p := ⟨w.heap.size, 0, none⟩) (Nat.le_refl _) _).setCell (p := ⟨w.heap.size, 1, none⟩) (Nat.le_refl _) _).setCell (p := ⟨w.heap.size, 2, none⟩) (Nat.le_refl _) _).setCell (p := ⟨w.heap.size, 3, none⟩) (Nat.le_refl _) _).drew
        · rw [← HLN.out.1, Bool.eq_iff_iff]
          simp
          omega
      · have hx2 : (!X.toList.isEmpty) = true := by
          cases hc : X.toList with
          | nil => exact absurd hc hx
          | cons a l => rfl
        have hbo : bodyOK s = false := by
          rw [HBO.out, ← HX.out]
          cases hc : X.toList with
          | nil => exact absurd hc hx
          | cons a l => rfl
        have HB := Lib.hid hbo; clear hbo
        go_wp2_with fail
        refine bodyPost_ret (v := .tuple #[.agg Pg.none.row, .bool false]) (results_page (g := w.heap.size) rfl rfl ?_ rfl) rfl (BodyPost.bad HB.out ?_)
        · exact (((HR4.out.set 0 _).set 1 _).set 2 _).set 3 _
        · exact ((((HB4.out.setCell (p := ⟨w.heap.size, 0, none⟩) (Nat.le_refl _) _).setCell (p := ⟨w.heap.size, 1, none⟩) (Nat.le_refl _) _).setCell (p := ⟨w.heap.size, 2, none⟩) (Nat.le_refl _) _).setCell (p := ⟨w.heap.size, 3, none⟩) (Nat.le_refl _) _)
    · have dL : ((L : Int) == 0) = false := by simp; omega
      have dM : decide ((L : Int) > 1) = false := by simp; omega
      have HL := Lib.hid l1; clear l1
      go_wp2_with fail
      refine (Tryd.strings_Trim_one _ 0 (by decide) _ HEX.out).mono ?_
      rintro e w4 ⟨rfl, hw4⟩
      have hB4 : Below w.heap.size w w4 := by
        rcases hw4 with rfl | rfl
        · exact HB3.out
        · exact HB3.out.drew
      have hrow : At w4 w.heap.size 90 #[.string ⟨#[]⟩, .string ⟨#[]⟩, .string ⟨#[]⟩, .bool false] := by
        rcases hw4 with rfl | rfl
        · exact HR3.out
        · exact HR3.out.drew
      clear hw4
      have c0 := hrow.cell 0; have c1 := hrow.cell 1; have c2 := hrow.cell 2; have c3 := hrow.cell 3
      simp only [List.getElem?_toArray, List.getElem?_cons_zero, List.getElem?_cons_succ] at c0 c1 c2 c3
      have z0 : w4.frozen? ⟨w.heap.size, 0, none⟩ = false := hrow.free 0
      have z1 : w4.frozen? ⟨w.heap.size, 1, none⟩ = false := hrow.free 1
      have z2 : w4.frozen? ⟨w.heap.size, 2, none⟩ = false := hrow.free 2
      have z3 : w4.frozen? ⟨w.heap.size, 3, none⟩ = false := hrow.free 3
      have HB4 := Lib.hid hB4; have HR4 := Lib.hid hrow; clear hrow hB4
      rw [← HX.out]
      by_cases hx : X.toList = []
      · have hx2 : (!X.toList.isEmpty) = false := by rw [hx]; rfl
        have hbo : bodyOK s = true := by rw [HBO.out, ← HX.out, hx]; rfl
        have HB := Lib.hid hbo; clear hbo
        go_wp2_with fail
        refine Lex.wp_region_lex (by kernel_rfl) (by kernel_rfl) ?_
        go_wp2_with fail
        refine Lex.Ends.intro (by kernel_rfl) ?_
        go_wp2_with fail
        refine bodyPost_ret (v := .tuple #[.agg #[.string (s.extract 0 32), .string (s.extract 43 75), .string (s.extract 75 (75 + N)), .bool ((L : Int) == 1)], .bool true]) (results_page (g := w.heap.size) rfl rfl ?_ rfl) rfl (BodyPost.good HB.out ?_ HLN.out.2 ?_)
        · exact ((((HR4.out.set 0 _).set 1 _).set 2 _).set 3 _).drew
        · exact ((((HB4.out.setCell (p := ⟨w.heap.size, 0, none⟩) (Nat.le_refl _) _).setCell (p := ⟨w.heap.size, 1, none⟩) (Nat.le_refl _) _).setCell (p := ⟨w.heap.size, 2, none⟩) (Nat.le_refl _) _).setCell (p := ⟨w.heap.size, 3, none⟩) (Nat.le_refl _) _).drew
        · rw [← HLN.out.1, Bool.eq_iff_iff]
          simp
          omega
      · have hx2 : (!X.toList.isEmpty) = true := by
          cases hc : X.toList with
          | nil => exact absurd hc hx
          | cons a l => rfl
        have hbo : bodyOK s = false := by
          rw [HBO.out, ← HX.out]
          cases hc : X.toList with
          | nil => exact absurd hc hx
          | cons a l => rfl
        have HB := Lib.hid hbo; clear hbo
        go_wp2_with fail
        refine bodyPost_ret (v := .tuple #[.agg Pg.none.row, .bool false]) (results_page (g := w.heap.size) rfl rfl ?_ rfl) rfl (BodyPost.bad HB.out ?_)
        · exact (((HR4.out.set 0 _).set 1 _).set 2 _).set 3 _
        · exact ((((HB4.out.setCell (p := ⟨w.heap.size, 0, none⟩) (Nat.le_refl _) _).setCell (p := ⟨w.heap.size, 1, none⟩) (Nat.le_refl _) _).setCell (p := ⟨w.heap.size, 2, none⟩) (Nat.le_refl _) _).setCell (p := ⟨w.heap.size, 3, none⟩) (Nat.le_refl _) _)
  · have hbody : bodyOK s = false := by
      rw [hbody0]
      by_cases h1 : L ≤ 1
      · by_cases h2 : N ≤ 437
        · have h3 : L = 0 ∧ N ≠ 437 := by omega
          simp [h3.1, h3.2]
        · simp [h2]
      · simp [h1]
    have HBO := Lib.hid hbody
    have hrow := HR2.out.drew
    have c0 := hrow.cell 0; have c1 := hrow.cell 1; have c2 := hrow.cell 2; have c3 := hrow.cell 3
    simp only [List.getElem?_toArray, List.getElem?_cons_zero, List.getElem?_cons_succ] at c0 c1 c2 c3
    have z0 : w2.drew.frozen? ⟨w.heap.size, 0, none⟩ = false := hrow.free 0
    have z1 : w2.drew.frozen? ⟨w.heap.size, 1, none⟩ = false := hrow.free 1
    have z2 : w2.drew.frozen? ⟨w.heap.size, 2, none⟩ = false := hrow.free 2
    have z3 : w2.drew.frozen? ⟨w.heap.size, 3, none⟩ = false := hrow.free 3
    have HB3 := Lib.hid HB2.out.drew
    have HR3 := Lib.hid hrow; clear hrow hbody hbody0
    generalize w2.drew = w3 at *
    go_wp2_with fail
    all_goals
      refine bodyPost_ret (v := .tuple #[.agg Pg.none.row, .bool false]) (results_page (g := w.heap.size) rfl rfl ?_ rfl) rfl (BodyPost.bad HBO.out ?_)
      · exact (((HR3.out.set 0 _).set 1 _).set 2 _).set 3 _
      · exact ((((HB3.out.setCell (p := ⟨w.heap.size, 0, none⟩) (Nat.le_refl _) _).setCell (p := ⟨w.heap.size, 1, none⟩) (Nat.le_refl _) _).setCell (p := ⟨w.heap.size, 2, none⟩) (Nat.le_refl _) _).setCell (p := ⟨w.heap.size, 3, none⟩) (Nat.le_refl _) _)
def parsedRow (o : Option Pg) : Array Value := (o.getD Pg.none).row
theorem parse_any (j : Jour) (s chain : ByteArray) (w : World) (hj : JourAt w j) (hch : chain.size ≤ 1000) (he : j.epoch < 9223372036854775808) (hm : s.size ≤ 9223372036854775000) :
    Calls Tryd.prog 56 #[.pointer (some ⟨j.jb, 0, none⟩), .string s, .string chain] w fun e w' => e = .returned (.tuple #[.agg (parsedRow (parsed j.epoch s chain)), .bool (parsed j.epoch s chain).isSome]) ∧ Below w.heap.size w w' := by
  by_cases hs : s.size = 512
  · cases ha : ((Sha.sha (⟨#[8]⟩ ++ chain ++ s.extract 32 512)).toList == (s.extract 0 32).toList) with
    | false =>
      have hp : parsed j.epoch s chain = Option.none := by
        unfold parsed headOK
        rw [ha]
        simp
      rw [hp]
      exact parse_sha j s chain w hj hch hs ha
    | true =>
      cases hb : ((s.extract 32 40).toList == (big j.epoch 8).toList) with
      | false =>
        have hp : parsed j.epoch s chain = Option.none := by
          unfold parsed headOK
          rw [ha, hb]
          simp
        rw [hp]
        exact parse_epoch j s chain w hj hch he hs ha hb
      | true =>
        refine (parse_body j s chain w hj hch he hs ha hb).mono ?_
        rintro e w' ⟨rfl, hB⟩
        have hh : headOK j.epoch s chain = true := by
          unfold headOK
          rw [ha, hb]
          simp [hs]
        unfold parsed
        rw [hh]
        cases hbo : bodyOK s with
        | false => exact ⟨rfl, hB⟩
        | true => exact ⟨rfl, hB⟩
  · have hp : parsed j.epoch s chain = Option.none := by
      unfold parsed headOK
      simp [hs]
    rw [hp]
    exact parse_size j s chain w hj hs hm
end Go.Proofs.YtfgjjdjaiddllaaDoor
