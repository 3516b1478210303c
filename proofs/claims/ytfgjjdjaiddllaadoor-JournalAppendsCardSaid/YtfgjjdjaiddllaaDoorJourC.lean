/- The program's journal parses a page. Condition: the chain is short. -/
import Derived.Test.YtfgjjdjaiddllaaDoorJourB
namespace Go.Proofs.YtfgjjdjaiddllaaDoor
set_option linter.unusedVariables false
set_option linter.unusedSimpArgs false
open Go Go.RowKit Go.Maps
/-- A valid page. -/
structure Pg where
  check : ByteArray
  digest : ByteArray
  data : ByteArray
  last : Bool
def Pg.row (p : Pg) : Array Value := #[.string p.check, .string p.digest, .string p.data, .bool p.last]
def Pg.none : Pg := ⟨⟨#[]⟩, ⟨#[]⟩, ⟨#[]⟩, false⟩
def byteAt (s : ByteArray) (i : Nat) : Nat := (s.data.toList.getD i 0).toNat
/-- The bytes that a page's data has. -/
def pageLen (s : ByteArray) : Nat := byteAt s 41 * 256 + byteAt s 42
/-- The head of a page is good. -/
def headOK (epoch : Nat) (s chain : ByteArray) : Bool :=
  (s.size == 512) && ((Sha.sha (⟨#[8]⟩ ++ chain ++ s.extract 32 512)).toList == (s.extract 0 32).toList) && ((s.extract 32 40).toList == (big epoch 8).toList)
def bodyOK (s : ByteArray) : Bool :=
  decide (byteAt s 40 ≤ 1) && decide (pageLen s ≤ 437) && !(decide (byteAt s 40 = 0) && !decide (pageLen s = 437)) && ((⟨(Lib.trimB (s.extract (75 + pageLen s) 512).data.toList 0).toArray⟩ : ByteArray).toList == [])
def parsed (epoch : Nat) (s chain : ByteArray) : Option Pg :=
  if headOK epoch s chain && bodyOK s then some ⟨s.extract 0 32, s.extract 43 75, s.extract 75 (75 + pageLen s), byteAt s 40 == 1⟩ else Option.none
theorem info_page : (Tryd.prog.info? 90).map (·.size) = some 4 := by kernel_rfl
theorem results_page {tmps : Array Value} {w : World} {g : Nat} {cs : Array Value} {b : Bool} (hp : tmps.getD 6 undef = .pointer (some ⟨g, 0, none⟩)) (hb : tmps.getD 7 undef = .bool b) (hat : At w g 90 cs) (hs : cs.size = 4) :
    (results Tryd.f56 tmps).run Tryd.prog w = .ok (.tuple #[.agg cs, .bool b]) w := by
  rw [results_cell_tmp (p := 6) (u := 7) (ty := 90) rfl, hp, hb]
  simp [asAddr, run_loadVar_row w g 90 90 cs (0, 0) _ hat Tryd.underlying90 rfl (by rw [hs]; exact info_page)]
set_option maxRecDepth 100000 in
set_option maxHeartbeats 2000000 in
theorem parse_size (j : Jour) (s chain : ByteArray) (w : World) (hj : JourAt w j) (hs : s.size ≠ 512) (hm : s.size ≤ 9223372036854775000) :
    Calls Tryd.prog 56 #[.pointer (some ⟨j.jb, 0, none⟩), .string s, .string chain] w fun e w' => e = .returned (.tuple #[.agg Pg.none.row, .bool false]) ∧ Below w.heap.size w w' := by
  have h3 := hj.self.cell 3
  simp only [Jour.cells, List.getElem?_toArray, List.getElem?_cons_zero, List.getElem?_cons_succ] at h3
  have hjl := hj.self.lt
  clear hj
  have ds : ((s.size : Int) != 512) = true := by simp; omega
  go_enter Tryd.func56, Tryd.ntmps56
  go_wp2_with fail
  refine Lex.wp_region_lex (by kernel_rfl) (by kernel_rfl) ?_
  go_wp2_with fail
  refine Lex.Ends.intro (by kernel_rfl) ?_
  go_wp2_with fail
  refine bodyPost_ret (v := .tuple #[.agg Pg.none.row, .bool false]) (results_page (g := w.heap.size) rfl rfl ?_ rfl) rfl ⟨rfl, ?_⟩
  · exact (At.new _ _ _).drew
  · exact ((Below.refl _ _).alloc (Nat.le_refl _) _).drew
set_option maxRecDepth 100000 in
set_option maxHeartbeats 2000000 in
theorem parse_sha (j : Jour) (s chain : ByteArray) (w : World) (hj : JourAt w j) (hch : chain.size ≤ 1000) (hs : s.size = 512) (hb : ((Sha.sha (⟨#[8]⟩ ++ chain ++ s.extract 32 512)).toList == (s.extract 0 32).toList) = false) :
    Calls Tryd.prog 56 #[.pointer (some ⟨j.jb, 0, none⟩), .string s, .string chain] w fun e w' => e = .returned (.tuple #[.agg Pg.none.row, .bool false]) ∧ Below w.heap.size w w' := by
  have h3 := hj.self.cell 3
  simp only [Jour.cells, List.getElem?_toArray, List.getElem?_cons_zero, List.getElem?_cons_succ] at h3
  have hjl := hj.self.lt
  clear hj
  have hsz : (⟨#[8]⟩ ++ chain ++ s.extract 32 512 : ByteArray).size ≤ 9223372036854775000 := by
    rw [Sha.app_size, Sha.app_size, ByteArray.size_extract]
    show 1 + _ + _ ≤ _
    omega
  go_enter Tryd.func56, Tryd.ntmps56
  go_wp2_with fail
  refine Lex.wp_region_lex (by kernel_rfl) (by kernel_rfl) ?_
  go_wp2_with fail
  refine (sum_any _ _ hsz).mono ?_
  rintro e w1 ⟨rfl, hb1⟩
  have hb1k := hb1.block
  have hb1 : Below w.heap.size w w1 := (((Below.refl w.heap.size w).alloc (Nat.le_refl _) _).drew).trans (hb1.mono (by simp))
  have hrow : At w1 w.heap.size 90 #[.string ⟨#[]⟩, .string ⟨#[]⟩, .string ⟨#[]⟩, .bool false] := by
    have h := (At.new w 90 #[.string ⟨#[]⟩, .string ⟨#[]⟩, .string ⟨#[]⟩, .bool false]).drew
    exact h.keep (hb1k _ (by simp))
  have c0 := hrow.cell 0; have c1 := hrow.cell 1; have c2 := hrow.cell 2; have c3 := hrow.cell 3
  simp only [List.getElem?_toArray, List.getElem?_cons_zero, List.getElem?_cons_succ] at c0 c1 c2 c3
  have z0 : w1.frozen? ⟨w.heap.size, 0, none⟩ = false := hrow.free 0
  have z1 : w1.frozen? ⟨w.heap.size, 1, none⟩ = false := hrow.free 1
  have z2 : w1.frozen? ⟨w.heap.size, 2, none⟩ = false := hrow.free 2
  have z3 : w1.frozen? ⟨w.heap.size, 3, none⟩ = false := hrow.free 3
  have HB1 := Lib.hid hb1; have HR := Lib.hid hrow; clear hb1 hrow
  go_wp2_with fail
  refine Lex.Ends.intro (by kernel_rfl) ?_
  go_wp2_with fail
  refine bodyPost_ret (v := .tuple #[.agg Pg.none.row, .bool false]) (results_page (g := w.heap.size) rfl rfl ?_ rfl) rfl ⟨rfl, ?_⟩
  · exact (((HR.out.set 0 _).set 1 _).set 2 _).set 3 _
  · exact ((((HB1.out.setCell (p := ⟨w.heap.size, 0, none⟩) (Nat.le_refl _) _).setCell (p := ⟨w.heap.size, 1, none⟩) (Nat.le_refl _) _).setCell (p := ⟨w.heap.size, 2, none⟩) (Nat.le_refl _) _).setCell (p := ⟨w.heap.size, 3, none⟩) (Nat.le_refl _) _)
set_option maxRecDepth 100000 in
set_option maxHeartbeats 2000000 in
theorem parse_epoch (j : Jour) (s chain : ByteArray) (w : World) (hj : JourAt w j) (hch : chain.size ≤ 1000) (he : j.epoch < 9223372036854775808) (hs : s.size = 512) (ha : ((Sha.sha (⟨#[8]⟩ ++ chain ++ s.extract 32 512)).toList == (s.extract 0 32).toList) = true) (hb : ((s.extract 32 40).toList == (big j.epoch 8).toList) = false) :
    Calls Tryd.prog 56 #[.pointer (some ⟨j.jb, 0, none⟩), .string s, .string chain] w fun e w' => e = .returned (.tuple #[.agg Pg.none.row, .bool false]) ∧ Below w.heap.size w w' := by
  have hjl := hj.self.lt
  have HJ := Lib.hid hj; clear hj
  have hsz : (⟨#[8]⟩ ++ chain ++ s.extract 32 512 : ByteArray).size ≤ 9223372036854775000 := by
    rw [Sha.app_size, Sha.app_size, ByteArray.size_extract]
    show 1 + _ + _ ≤ _
    omega
  go_enter Tryd.func56, Tryd.ntmps56
  go_wp2_with fail
  refine Lex.wp_region_lex (by kernel_rfl) (by kernel_rfl) ?_
  go_wp2_with fail
  refine (sum_any _ _ hsz).mono ?_
  rintro e w1 ⟨rfl, hb1⟩
  have hb1k := hb1.block
  have hb1 : Below w.heap.size w w1 := (((Below.refl w.heap.size w).alloc (Nat.le_refl _) _).drew).trans (hb1.mono (by simp))
  have hrow : At w1 w.heap.size 90 #[.string ⟨#[]⟩, .string ⟨#[]⟩, .string ⟨#[]⟩, .bool false] := by
    have h := (At.new w 90 #[.string ⟨#[]⟩, .string ⟨#[]⟩, .string ⟨#[]⟩, .bool false]).drew
    exact h.keep (hb1k _ (by simp))
  have h3 := (HJ.out.below hb1 (Nat.le_refl _)).self.cell 3
  simp only [Jour.cells, List.getElem?_toArray, List.getElem?_cons_zero, List.getElem?_cons_succ] at h3
  have HB1 := Lib.hid hb1; have HR := Lib.hid hrow; clear hb1 hrow hb1k
  go_wp2_with fail
  refine (big_any j.epoch 8 w1 he (by omega) (by omega)).mono ?_
  rintro e w2 ⟨rfl, hb2⟩
  have hrow := At.below HR.out hb2 HR.out.lt
  have hb2' := HB1.out.trans (hb2.mono HB1.out.size)
  have c0 := hrow.cell 0; have c1 := hrow.cell 1; have c2 := hrow.cell 2; have c3 := hrow.cell 3
  simp only [List.getElem?_toArray, List.getElem?_cons_zero, List.getElem?_cons_succ] at c0 c1 c2 c3
  have z0 : w2.frozen? ⟨w.heap.size, 0, none⟩ = false := hrow.free 0
  have z1 : w2.frozen? ⟨w.heap.size, 1, none⟩ = false := hrow.free 1
  have z2 : w2.frozen? ⟨w.heap.size, 2, none⟩ = false := hrow.free 2
  have z3 : w2.frozen? ⟨w.heap.size, 3, none⟩ = false := hrow.free 3
  have HB2 := Lib.hid hb2'; have HR2 := Lib.hid hrow; clear hb2 hb2' hrow
  go_wp2_with fail
  refine Lex.Ends.intro (by kernel_rfl) ?_
  go_wp2_with fail
  refine bodyPost_ret (v := .tuple #[.agg Pg.none.row, .bool false]) (results_page (g := w.heap.size) rfl rfl ?_ rfl) rfl ⟨rfl, ?_⟩
  · exact (((HR2.out.set 0 _).set 1 _).set 2 _).set 3 _
  · exact ((((HB2.out.setCell (p := ⟨w.heap.size, 0, none⟩) (Nat.le_refl _) _).setCell (p := ⟨w.heap.size, 1, none⟩) (Nat.le_refl _) _).setCell (p := ⟨w.heap.size, 2, none⟩) (Nat.le_refl _) _).setCell (p := ⟨w.heap.size, 3, none⟩) (Nat.le_refl _) _)
end Go.Proofs.YtfgjjdjaiddllaaDoor
