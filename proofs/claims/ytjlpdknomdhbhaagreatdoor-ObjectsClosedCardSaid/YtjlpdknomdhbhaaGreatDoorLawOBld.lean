/- The reference's sets of objects: Index, Put; their rows. Condition: the sizes are in reach. What a dropped object does to what is reached, and what is reached from all that is reached, plainly. No condition. The laws' build: a set and its reference made of objects. Condition: the arguments are slices as they are read. -/
import Derived.Test.YtjlpdknomdhbhaaGreatDoorRw
import Derived.Test.YtjlpdknomdhbhaaGreatDoorRefFO
import Derived.Test.YtjlpdknomdhbhaaGreatDoorLawOOrder
import Derived.Test.YtjlpdknomdhbhaaGreatDoorLexT
import Derived.Test.YtjlpdknomdhbhaaGreatDoorSetP
import Derived.Test.YtjlpdknomdhbhaaGreatDoorSetM
namespace Go.Proofs.YtjlpdknomdhbhaaGreatDoor
set_option linter.unusedVariables false
set_option linter.unusedSimpArgs false
open Go Go.RowKit Go.Maps
/-- A row of the reference's set. -/
structure Ent where
  d : ByteArray
  k : Int
  a : Option Addr
  n : Nat
  c : Nat
  s : ByteArray
def Ent.cells (e : Ent) : List Value := [.string e.d, .int .i64 e.k, .slice e.a e.n e.c, .string e.s]
def eC (L : List Ent) : List Value := L.flatMap Ent.cells
theorem eC_len : ∀ L : List Ent, (eC L).length = L.length * 4
  | [] => rfl
  | e :: L => by
    have := eC_len L
    unfold eC at this ⊢
    rw [List.flatMap_cons, List.length_append, this, List.length_cons]
    simp [Ent.cells]
    omega
theorem eC_one (L : List Ent) : ∀ u ∈ eC L, u.oneCell' = true := by
  intro u hu
  obtain ⟨e, _, he⟩ := List.mem_flatMap.1 hu
  simp [Ent.cells] at he
  rcases he with rfl | rfl | rfl | rfl <;> rfl
theorem eC_take : ∀ (L : List Ent) (i : Nat), (eC L).take (i * 4) = eC (L.take i)
  | [], i => by simp [eC]
  | e :: L, 0 => by simp [eC]
  | e :: L, i + 1 => by
    have ih := eC_take L i
    unfold eC at ih ⊢
    rw [List.take_succ_cons, List.flatMap_cons, List.flatMap_cons, ← ih, show (i + 1) * 4 = e.cells.length + i * 4 by simp [Ent.cells]; omega, List.take_length_add_append]
theorem eC_drop : ∀ (L : List Ent) (i : Nat), (eC L).drop (i * 4) = eC (L.drop i)
  | [], i => by simp [eC]
  | e :: L, 0 => by simp [eC]
  | e :: L, i + 1 => by
    have ih := eC_drop L i
    unfold eC at ih ⊢
    rw [List.drop_succ_cons, List.flatMap_cons, ← ih, show (i + 1) * 4 = e.cells.length + i * 4 by simp [Ent.cells]; omega, List.drop_length_add_append]
theorem eC_get (L : List Ent) (i : Nat) (h : i < L.length) : (eC L)[i * 4]? = some (.string L[i].d) := by
  have e1 : (eC L)[i * 4]? = ((eC L).drop (i * 4))[0]? := by rw [List.getElem?_drop]; rfl
  rw [e1, eC_drop, List.drop_eq_getElem_cons h]
  rfl
theorem elemEntry : Nonempty (ElemOf Tryz.prog 49 132 4 64) := elemOf_mk (z := .agg #[.string ⟨#[]⟩, .int .i64 0, .slice none 0 0, .string ⟨#[]⟩]) Tryz.underlying49 (by kernel_rfl) (by kernel_rfl) (by omega)
theorem RowsC.ent {w : World} {v : Value} {L : List Ent} (h : RowsC w v 4 L.length (eC L)) {i : Nat} (hi : i < L.length) : ∃ b o c, v = .slice (some ⟨b, o, none⟩) L.length c ∧ w.cell? ⟨b, o + i * 4, none⟩ = some (.string L[i].d) := by
  obtain ⟨_, a, c, rfl, h0 | ⟨b, o, rfl, _, hc⟩⟩ := h
  · omega
  · exact ⟨b, o, c, rfl, hc _ _ (eC_get L i hi)⟩
set_option maxRecDepth 100000 in
set_option maxHeartbeats 2000000 in
theorem r49Index_any (v : Value) (L : List Ent) (d : ByteArray) (w : World) (h : RowsC w v 4 L.length (eC L)) (hl : L.length ≤ 1000000) :
    Calls Tryz.prog 99 #[v, .string d] w fun e w' => ∃ i : Int, e = .returned (.int .i64 i) ∧ w' = w := by
  have H := Lib.hid h
  obtain ⟨a, c, rfl⟩ := h.len
  clear h
  go_enter Tryz.func99, Tryz.ntmps99
  go_wp2_with fail
  go_loopw [5] (fun i wr => ∃ k : Nat, k ≤ L.length ∧ i = .int .i64 k ∧ wr = w) (fun i _ => L.length - (intOf i).toNat)
  case atStart => exact ⟨0, by omega, rfl, rfl⟩
  case round =>
    obtain ⟨k, hk, rfl, rfl⟩ := hrel
    by_cases hlt : k < L.length
    · have dk : decide ((k : Int) < L.length) = true := by simp; omega
      obtain ⟨b, o, c', he, hc⟩ := H.out.ent hlt
      cases he
      cases hx : (L[k].d.toList == d.toList) with
      | true =>
        go_wp2_with fail
        go_ret
        exact ⟨_, rfl, rfl⟩
      | false =>
        go_wp2_with fail
        exact ⟨⟨k + 1, by omega, by go_num, by first | rfl | trivial⟩, by simp [intOf]; omega⟩
    · have dk : decide ((k : Int) < L.length) = false := by simp; omega
      go_wp2_with fail
      go_ret
      exact ⟨_, rfl, rfl⟩

/-- What Put does to the reference's set. -/
def PutR (w : World) (B n : Nat) (o : Obj) (e : Ending) (w' : World) : Prop :=
  ∃ (v' : Value) (L' : List Ent) (d : ByteArray) (x : Int), e = .returned (.tuple #[v', .string d, .int .i64 x]) ∧ digR o = .tuple #[.string d, .int .i64 x] ∧ w'.ownsRow B 132 4 v' L'.length (eC L') ∧ L'.length ≤ n + 1 ∧ Below w.heap.size w w'
set_option maxRecDepth 100000 in
set_option maxHeartbeats 4000000 in
theorem r49Put_any (B : Nat) (v : Value) (L : List Ent) (o : Obj) (rv : Value) (w : World) (h : w.ownsRow B 132 4 v L.length (eC L)) (hB : B ≤ w.heap.size) (hl : L.length ≤ 1000) (hs : StrsC w rv o.refs) (hr : Reach o) :
    Calls Tryz.prog 64 #[v, objV o rv] w (PutR w B L.length o) := by
  obtain ⟨R, hR⟩ : ∃ R, R = PutR w B L.length o := ⟨_, rfl⟩
  rw [← hR]
  have H := Lib.hid h; have HS := Lib.hid hs; have HRE := Lib.hid hr; have HR := Lib.hid hR
  obtain ⟨a, m, c, rfl⟩ := own_slice h
  obtain rfl := own_len h
  obtain ⟨ra, rc, rfl⟩ := hs.len
  clear h hs hr hR
  unfold objV
  go_enter Tryz.func64, Tryz.ntmps64
  have hb1 : Below w.heap.size w (w.alloc (.cells #[.int .i64 o.kind, .slice ra o.refs.length rc, .string o.data] 24)) := (Below.refl _ _).alloc (Nat.le_refl _) _
  have ha : At (w.alloc (.cells #[.int .i64 o.kind, .slice ra o.refs.length rc, .string o.data] 24)) w.heap.size 24 #[.int .i64 o.kind, .slice ra o.refs.length rc, .string o.data] := At.new w _ _
  have HB1 := Lib.hid hb1; have HA := Lib.hid ha; clear hb1 ha
  have c0 := HA.out.cell 0; have c1 := HA.out.cell 1; have c2 := HA.out.cell 2
  simp only [List.getElem?_toArray, List.getElem?_cons_zero, List.getElem?_cons_succ] at c0 c1 c2
  go_wp2_with fail
  refine (r49Digest_any o (.slice ra o.refs.length rc) _ (HS.out.below HB1.out) HRE.out).mono ?_
  rintro e w1 ⟨rfl, hb⟩
  have HB2 := Lib.hid (HB1.out.trans (hb.mono HB1.out.size)); have HA2 := Lib.hid (HA.out.below hb HA.out.lt); clear hb c0 c1 c2
  cases hok : okO o with
  | false =>
    have hdg := digR_bad hok
    rw [hdg]
    have HDG := Lib.hid hdg; clear hdg hok
    go_wp2_with fail
    go_ret3
    rw [HR.out]
    exact ⟨_, L, ⟨#[]⟩, 1, rfl, HDG.out, own_below H.out HB2.out, by omega, HB2.out⟩
  | true =>
    have hdg := digR_ok hok
    rw [hdg]
    obtain ⟨D, hD⟩ : ∃ D, D = digO o := ⟨_, rfl⟩
    rw [← hD] at hdg ⊢
    have HDG := Lib.hid hdg; clear hdg hD hok
    have hrow : RowsC w1 (.slice a L.length c) 4 L.length (eC L) := (RowsC.own H.out).below HB2.out
    have HROW := Lib.hid hrow; clear hrow
    go_wp2_with fail
    refine (r49Index_any _ L D _ HROW.out (by omega)).mono ?_
    rintro e w1 ⟨i, rfl, rfl⟩
    by_cases hi : 0 ≤ i
    · have di : decide (0 ≤ i) = true := by simpa using hi
      go_wp2_with fail
      go_ret3
      rw [HR.out]
      exact ⟨_, L, D, 0, rfl, HDG.out, own_below H.out HB2.out, by omega, HB2.out⟩
    · have di : decide (0 ≤ i) = false := by simpa using hi
      go_upto_block 0 with fail
      go_cut [9] (fun iv wx => ∃ k : Nat, k ≤ L.length ∧ iv = .int .i64 k ∧ w1 = wx)
      case first =>
        go_wp2_with fail
        go_loopw [9] (fun i wr => ∃ k : Nat, k ≤ L.length ∧ i = .int .i64 k ∧ wr = w1) (fun i _ => L.length - (intOf i).toNat)
        case atStart => exact ⟨0, by omega, rfl, rfl⟩
        case round =>
          obtain ⟨k, hk, rfl, rfl⟩ := hrel
          by_cases hlt : k < L.length
          · have dk : decide ((k : Int) < L.length) = true := by simp; omega
            obtain ⟨b, o, c', he, hc⟩ := HROW.out.ent hlt
            cases he
            cases hx : Op.bytesLess L[k].d.toList D.toList with
            | true =>
              go_wp2_with fail
              exact ⟨⟨k + 1, by omega, by go_num, by first | rfl | trivial⟩, by simp [intOf]; omega⟩
            | false =>
              go_wp2_with fail
              go_meet
              exact ⟨k, hk, rfl, rfl⟩
          · have dk : decide ((k : Int) < L.length) = false := by simp; omega
            go_wp2_with fail
            go_meet
            exact ⟨k, hk, rfl, rfl⟩
      case rest =>
        obtain ⟨k, hk, rfl, rfl⟩ := hcut
        have c0 := HA2.out.cell 0; have c1 := HA2.out.cell 1; have c2 := HA2.out.cell 2
        simp only [List.getElem?_toArray, List.getElem?_cons_zero, List.getElem?_cons_succ] at c0 c1 c2
        have hfst : ∀ W c', Below w1.heap.size w1 W → RowsC W (.slice a k c') 4 k (eC (L.take k)) := fun W c' hb => by
          have := (HROW.out.first (c' := c') hk).below hb
          rwa [eC_take] at this
        have hBB := HB2.out.size
        have hLc : L.length ≤ c := by
          rcases H.out.2 with ⟨e, _⟩ | ⟨g, cap, cur, e, _, _, hnc, _⟩
          · have := (Value.slice.inj e).2.1; omega
          · have := (Value.slice.inj e).2.2; omega
        have hkc : k ≤ c := by omega
        have HFST := Lib.hid hfst; clear hfst
        go_upto_region 9 with fail
        go_cut [10] (fun v10 wx => wx.ownsRow w1.heap.size 132 4 v10 (k + 1) (eC (L.take k) ++ Ent.cells ⟨D, o.kind, ra, o.refs.length, rc, o.data⟩) ∧ Below w1.heap.size w1 wx)
        case first =>
          refine Lex.wp_region_treeV [0, 4, 6, 8, 9] [0, 0, 0, 6, 15, 0, 0, 96, 224, 511, 1023] [1, 2, 3, 5] (.alt 0 [] (.alt 4 [] (.alt 6 [7] (.alt 8 [] (.alt 9 [10] .nil .nil) .nil) .nil) (.alt 6 [7] (.alt 4 [] (.alt 8 [] (.alt 9 [10] .nil .nil) .nil) (.alt 8 [] (.alt 4 [] (.alt 9 [10] .nil .nil) .nil) .nil)) .nil)) (.alt 6 [7] (.alt 0 [] (.alt 4 [] (.alt 8 [] (.alt 9 [10] .nil .nil) .nil) (.alt 8 [] (.alt 4 [] (.alt 9 [10] .nil .nil) .nil) .nil)) (.alt 8 [] (.alt 0 [] (.alt 4 [] (.alt 9 [10] .nil .nil) .nil) .nil) .nil)) .nil)) (by kernel_rfl) (by kernel_rfl) (by kernel_rfl) ?_
          intro ops Ee hE
          have HE := Lib.hid hE; clear hE
          simp only [Lex.pick, List.filterMap_cons, List.filterMap_nil, List.getElem?_cons_succ, List.getElem?_cons_zero]
          go_wp2_with fail
          have hL1 : k ≤ 1000 := by omega
          have hlw := HA2.out.lt
          iterate 24 (try any_goals (first
            | exact Lex.runV_done
            | (refine Lex.runV_alt ?_ ?_)
            | (refine Lex.runV_end (HE.out _ _ (by kernel_rfl) ?_); go_wp2_with fail; go_meet; exact ⟨HOWF.out, HBF.out⟩)
            | (refine Lex.Mid.intro trivial ?_)
            | (simp only [Lex.pick, List.filterMap_cons, List.filterMap_nil, List.getElem?_cons_succ, List.getElem?_cons_zero]
               first
                 | (refine wp_append_rows elemEntry rfl _ _ rfl w1.heap.size 0 (.slice (some ⟨w1.heap.size, 0, none⟩) 0 0) [] rfl (own_below (own_new0 w1 132 4 w1.heap.size (Nat.le_refl _)) (by repeat' first | exact Below.refl _ _ | refine Below.drew ?_ | refine Below.alloc ?_ ?_ _ | (simp; done) | (simp; omega))) (.slice a k c) k (eC (L.take k)) rfl (HFST.out _ _ (by repeat' first | exact Below.refl _ _ | refine Below.drew ?_ | refine Below.alloc ?_ ?_ _ | (simp; done) | (simp; omega))) (eC_one _) (by omega) (by omega) (by simp <;> omega) ?_
                    intro v4 w4 how hg _
                    rw [Nat.zero_add, List.nil_append] at how
                    have hb4 : Below w1.heap.size w1 w4 := Below.grown (by repeat' first | exact Below.refl _ _ | refine Below.drew ?_ | refine Below.alloc ?_ ?_ _ | (simp; done) | (simp; omega)) hg (by simp <;> omega) (fun k hk => by simp [Value.ownBlock] at hk; omega)
                    try have hr1 : RowsC w4 (.slice (some ⟨w1.heap.size + 1, 0, none⟩) 1 1) 4 1 (Ent.cells ⟨D, o.kind, ra, o.refs.length, rc, o.data⟩) := ((rows_new1 w1 _ 132 #[.string D, .int .i64 o.kind, .slice ra o.refs.length rc, .string o.data] 4 1 1 rfl).below (by repeat' first | exact Below.refl _ _ | refine Below.drew ?_ | refine Below.alloc ?_ ?_ _ | (simp; done) | (simp; omega))).keep hg.size (fun k hk hl => hg.block k hl (by simp [Value.ownBlock] at hk ⊢; omega))
                    obtain ⟨pa, pm, pc, rfl⟩ := own_slice how
                    have HOW := Lib.hid how; have HB4 := Lib.hid hb4; clear how hg
                    try (have HR1 := Lib.hid hr1; clear hr1)
                    have c0 := (hb4.cell (p := ⟨w.heap.size, 0, none⟩) hlw).trans c0; have c1 := (hb4.cell (p := ⟨w.heap.size, 1, none⟩) hlw).trans c1; have c2 := (hb4.cell (p := ⟨w.heap.size, 2, none⟩) hlw).trans c2; clear hb4
                    go_wp2_with fail)
                 | (refine wp_append_rows elemEntry rfl _ _ rfl w1.heap.size 0 (.slice (some ⟨w1.heap.size + 1, 0, none⟩) 0 0) [] rfl (own_below (own_new1 w1 _ 132 4 w1.heap.size (Nat.le_refl _)) (by repeat' first | exact Below.refl _ _ | refine Below.drew ?_ | refine Below.alloc ?_ ?_ _ | (simp; done) | (simp; omega))) (.slice a k c) k (eC (L.take k)) rfl (HFST.out _ _ (by repeat' first | exact Below.refl _ _ | refine Below.drew ?_ | refine Below.alloc ?_ ?_ _ | (simp; done) | (simp; omega))) (eC_one _) (by omega) (by omega) (by simp <;> omega) ?_
                    intro v4 w4 how hg _
                    rw [Nat.zero_add, List.nil_append] at how
                    have hb4 : Below w1.heap.size w1 w4 := Below.grown (by repeat' first | exact Below.refl _ _ | refine Below.drew ?_ | refine Below.alloc ?_ ?_ _ | (simp; done) | (simp; omega)) hg (by simp <;> omega) (fun k hk => by simp [Value.ownBlock] at hk; omega)
                    have hr1 : RowsC w4 (.slice (some ⟨w1.heap.size, 0, none⟩) 1 1) 4 1 (Ent.cells ⟨D, o.kind, ra, o.refs.length, rc, o.data⟩) := ((rows_new w1 132 #[.string D, .int .i64 o.kind, .slice ra o.refs.length rc, .string o.data] 4 1 1 rfl).below (by repeat' first | exact Below.refl _ _ | refine Below.drew ?_ | refine Below.alloc ?_ ?_ _ | (simp; done) | (simp; omega))).keep hg.size (fun k hk hl => hg.block k hl (by simp [Value.ownBlock] at hk ⊢; omega))
                    obtain ⟨pa, pm, pc, rfl⟩ := own_slice how
                    have HOW := Lib.hid how; have HB4 := Lib.hid hb4; clear how hg
                    try (have HR1 := Lib.hid hr1; clear hr1)
                    have c0 := (hb4.cell (p := ⟨w.heap.size, 0, none⟩) hlw).trans c0; have c1 := (hb4.cell (p := ⟨w.heap.size, 1, none⟩) hlw).trans c1; have c2 := (hb4.cell (p := ⟨w.heap.size, 2, none⟩) hlw).trans c2; clear hb4
                    go_wp2_with fail)
                 | (refine wp_append_rows elemEntry rfl _ _ rfl w1.heap.size k (.slice pa pm pc) (eC (L.take k)) rfl (own_below HOW.out (by repeat' first | exact Below.refl _ _ | refine Below.drew ?_ | refine Below.alloc ?_ ?_ _ | (simp; done) | (simp; omega))) (.slice (some ⟨w1.heap.size, 0, none⟩) 1 1) 1 (Ent.cells ⟨D, o.kind, ra, o.refs.length, rc, o.data⟩) rfl (HR1.out.below (by repeat' first | exact Below.refl _ _ | refine Below.drew ?_ | refine Below.alloc ?_ ?_ _ | (simp; done) | (simp; omega))) (by intro u hu; simp [Ent.cells] at hu; rcases hu with rfl | rfl | rfl | rfl <;> rfl) (by omega) (by omega) (by have := HB4.out.size; simp; omega) ?_
                    intro v5 w5 how hg _
                    have hb5 : Below w1.heap.size w1 w5 := below_own (HB4.out.trans (Below.mono (by repeat' first | exact Below.refl _ _ | refine Below.drew ?_ | refine Below.alloc ?_ ?_ _ | (simp; done) | (simp; omega)) HB4.out.size)) (by have := HB4.out.size; simp; omega) HOW.out hg
                    have HOWF := Lib.hid how; have HBF := Lib.hid hb5; clear how hg hb5
                    go_wp2_with fail)
                 | (refine wp_append_rows elemEntry rfl _ _ rfl w1.heap.size k (.slice pa pm pc) (eC (L.take k)) rfl (own_below HOW.out (by repeat' first | exact Below.refl _ _ | refine Below.drew ?_ | refine Below.alloc ?_ ?_ _ | (simp; done) | (simp; omega))) (.slice (some ⟨w1.heap.size + 1, 0, none⟩) 1 1) 1 (Ent.cells ⟨D, o.kind, ra, o.refs.length, rc, o.data⟩) rfl (HR1.out.below (by repeat' first | exact Below.refl _ _ | refine Below.drew ?_ | refine Below.alloc ?_ ?_ _ | (simp; done) | (simp; omega))) (by intro u hu; simp [Ent.cells] at hu; rcases hu with rfl | rfl | rfl | rfl <;> rfl) (by omega) (by omega) (by have := HB4.out.size; simp; omega) ?_
                    intro v5 w5 how hg _
                    have hb5 : Below w1.heap.size w1 w5 := below_own (HB4.out.trans (Below.mono (by repeat' first | exact Below.refl _ _ | refine Below.drew ?_ | refine Below.alloc ?_ ?_ _ | (simp; done) | (simp; omega)) HB4.out.size)) (by have := HB4.out.size; simp; omega) HOW.out hg
                    have HOWF := Lib.hid how; have HBF := Lib.hid hb5; clear how hg hb5
                    go_wp2_with fail)
                 | (refine wp_append_rows elemEntry rfl _ _ rfl w1.heap.size k (.slice pa pm pc) (eC (L.take k)) rfl (own_below HOW.out (by repeat' first | exact Below.refl _ _ | refine Below.drew ?_ | refine Below.alloc ?_ ?_ _ | (simp; done) | (simp; omega))) (.slice (some ⟨w4.heap.size, 0, none⟩) 1 1) 1 (Ent.cells ⟨D, o.kind, ra, o.refs.length, rc, o.data⟩) rfl ((rows_new w4 132 #[.string D, .int .i64 o.kind, .slice ra o.refs.length rc, .string o.data] 4 1 1 rfl).below (by repeat' first | exact Below.refl _ _ | refine Below.drew ?_ | refine Below.alloc ?_ ?_ _ | (simp; done) | (simp; omega))) (by intro u hu; simp [Ent.cells] at hu; rcases hu with rfl | rfl | rfl | rfl <;> rfl) (by omega) (by omega) (by have := HB4.out.size; simp; omega) ?_
                    intro v5 w5 how hg _
                    have hb5 : Below w1.heap.size w1 w5 := below_own (HB4.out.trans (Below.mono (by repeat' first | exact Below.refl _ _ | refine Below.drew ?_ | refine Below.alloc ?_ ?_ _ | (simp; done) | (simp; omega)) HB4.out.size)) (by have := HB4.out.size; simp; omega) HOW.out hg
                    have HOWF := Lib.hid how; have HBF := Lib.hid hb5; clear how hg hb5
                    go_wp2_with fail)
                 | go_wp2_with fail)))
        case rest =>
          obtain ⟨how, hbc⟩ := hcut
          have hbB := hbc.size
          have hrw : RowsC wc (.slice a L.length c) 4 L.length (eC L) := HROW.out.below hbc
          obtain ⟨xa, xm, xc, rfl⟩ := own_slice how
          obtain rfl := own_len how
          have hcap : xa = none ∨ k + 1 ≤ xc := by
            rcases how.2 with ⟨e, _⟩ | ⟨g, cap, cur, e, _, _, hnc, _⟩
            · exact .inl (Value.slice.inj e).1
            · right; have := (Value.slice.inj e).2.2; omega
          have HOW := Lib.hid how; have HBC := Lib.hid hbc; have HRW := Lib.hid hrw
          have hown0 : w.heap.size ≤ wc.heap.size := by omega
          clear how hbc hrw c0 c1 c2 HFST HROW HA2
          have hfin : ∀ v' (w6 : World), w6.ownsRow w1.heap.size 132 4 v' (k + 1 + (L.length - k)) (eC (L.take k) ++ Ent.cells ⟨D, o.kind, ra, o.refs.length, rc, o.data⟩ ++ eC (L.drop k)) → wc.grownBy w6 (Value.slice xa (k + 1) xc).ownBlock → w6.ownsRow B 132 4 v' (L.take k ++ ⟨D, o.kind, ra, o.refs.length, rc, o.data⟩ :: L.drop k).length (eC (L.take k ++ ⟨D, o.kind, ra, o.refs.length, rc, o.data⟩ :: L.drop k)) ∧ (L.take k ++ (⟨D, o.kind, ra, o.refs.length, rc, o.data⟩ : Ent) :: L.drop k).length ≤ L.length + 1 ∧ Below w.heap.size w w6 := by
            intro v' w6 h6 hg
            have hlen : (L.take k ++ (⟨D, o.kind, ra, o.refs.length, rc, o.data⟩ : Ent) :: L.drop k).length = k + 1 + (L.length - k) := by
              simp only [List.length_append, List.length_take, List.length_cons, List.length_drop]
              omega
            refine ⟨?_, by rw [hlen]; omega, below_own (HB2.out.trans (HBC.out.mono HB2.out.size)) hown0 (own_base HOW.out HB2.out.size) hg⟩
            rw [hlen]
            have e : eC (L.take k ++ (⟨D, o.kind, ra, o.refs.length, rc, o.data⟩ : Ent) :: L.drop k) = eC (L.take k) ++ Ent.cells ⟨D, o.kind, ra, o.refs.length, rc, o.data⟩ ++ eC (L.drop k) := by
              unfold eC
              rw [List.flatMap_append, List.flatMap_cons, List.append_assoc]
            rw [e]
            exact own_base h6 (by omega)
          have HFIN := Lib.hid hfin; clear hfin
          by_cases hlt : k < L.length
          · obtain ⟨b, o', c', he, _⟩ := HRW.out.ent hlt
            cases he
            have hck : ¬ c = k := by omega
            have hr2 := HRW.out.rest (c' := c - k) hk
            rw [eC_drop] at hr2
            have HR2 := Lib.hid hr2; clear hr2
            go_wp2_with (at_builtin; go_must (refine wp_append_rows elemEntry rfl _ _ rfl w1.heap.size (k + 1) (.slice xa (k + 1) xc) _ rfl HOW.out (.slice (some ⟨b, o' + k * 4, none⟩) (L.length - k) (c - k)) (L.length - k) (eC (L.drop k)) rfl HR2.out (eC_one _) (by omega) (by omega) hbB ?_); intro v6 w6 how hg _; obtain ⟨hq1, hq2, hq3⟩ := HFIN.out v6 w6 how hg; have HQ1 := Lib.hid hq1; have HQ2 := Lib.hid hq2; have HQ3 := Lib.hid hq3; clear how hg hq1 hq2 hq3)
            go_ret3
            rw [HR.out]
            exact ⟨_, _, D, 0, rfl, HDG.out, HQ1.out, HQ2.out, HQ3.out⟩
          · have hkl : L.length - k = 0 := by omega
            have hdr : eC (L.drop k) = [] := by rw [List.drop_eq_nil_of_le (by omega)]; rfl
            have HDR := Lib.hid hdr; have HKL := Lib.hid hkl; clear hdr hkl hlt
            by_cases hck : c = k
            · go_wp2_with (at_builtin; go_must (refine wp_append_rows elemEntry rfl _ _ rfl w1.heap.size (k + 1) (.slice xa (k + 1) xc) _ rfl HOW.out (.slice a (L.length - k) 0) (L.length - k) [] rfl (RowsC.zero HKL.out _ _) (by simp) (by omega) (by omega) hbB ?_); intro v6 w6 how hg _; rw [← HDR.out] at how; obtain ⟨hq1, hq2, hq3⟩ := HFIN.out v6 w6 how hg; have HQ1 := Lib.hid hq1; have HQ2 := Lib.hid hq2; have HQ3 := Lib.hid hq3; clear how hg hq1 hq2 hq3)
              go_ret3
              rw [HR.out]
              exact ⟨_, _, D, 0, rfl, HDG.out, HQ1.out, HQ2.out, HQ3.out⟩
            · obtain ⟨p, rfl⟩ : ∃ p, a = some p := by
                rcases H.out.2 with ⟨e, e2⟩ | ⟨g, cap, cur, e, _⟩
                · have := (Value.slice.inj e).2.2; omega
                · exact ⟨_, (Value.slice.inj e).1⟩
              go_wp2_with (at_builtin; go_must (refine wp_append_rows elemEntry rfl _ _ rfl w1.heap.size (k + 1) (.slice xa (k + 1) xc) _ rfl HOW.out (.slice (some (p.add (k * 4))) (L.length - k) (c - k)) (L.length - k) [] rfl (RowsC.zero HKL.out _ _) (by simp) (by omega) (by omega) hbB ?_); intro v6 w6 how hg _; rw [← HDR.out] at how; obtain ⟨hq1, hq2, hq3⟩ := HFIN.out v6 w6 how hg; have HQ1 := Lib.hid hq1; have HQ2 := Lib.hid hq2; have HQ3 := Lib.hid hq3; clear how hg hq1 hq2 hq3)
              go_ret3
              rw [HR.out]
              exact ⟨_, _, D, 0, rfl, HDG.out, HQ1.out, HQ2.out, HQ3.out⟩
end Go.Proofs.YtjlpdknomdhbhaaGreatDoor
namespace Go.Proofs.YtjlpdknomdhbhaaGreatDoor
set_option linter.unusedVariables false
set_option linter.unusedSimpArgs false
open Go
namespace Store
variable {S : Store} {R : List ByteArray} {d : ByteArray}
theorem get_drop_ne {k : ByteArray} (h : d ≠ k) : (S.drop d).get k = S.get k := by rw [get_drop, if_neg h]
theorem Reach.undrop {x : ByteArray} (h : Reach (S.drop d) R x) : Reach S R x := by
  induction h with
  | root h => exact .root h
  | ref _ hg hm ih =>
    rename_i y x o _
    rw [get_drop] at hg
    by_cases e : d = y
    · rw [if_pos e] at hg; cases hg
    · rw [if_neg e] at hg
      exact .ref ih hg hm
theorem Reach.drop {x : ByteArray} (h : Reach S R x) : Reach (S.drop d) R x ∨ Reach (S.drop d) R d := by
  induction h with
  | root h => exact .inl (.root h)
  | ref _ hg hm ih =>
    rename_i y x o _
    rcases ih with ih | ih
    · by_cases e : d = y
      · subst e; exact .inr ih
      · exact .inl (.ref ih ((get_drop_ne e).trans hg) hm)
    · exact .inr ih
theorem Reach.drop_self (h : Reach S R d) : Reach (S.drop d) R d := (Reach.drop h).elim id id
theorem Reach.drop_iff (h : ¬ Reach S R d) (x : ByteArray) : Reach (S.drop d) R x ↔ Reach S R x :=
  ⟨Reach.undrop, fun hx => (Reach.drop (d := d) hx).elim id fun hd => absurd (Reach.undrop hd) h⟩
/-- What is reached from all that is reached is the same. -/
theorem Reach.again {L : List ByteArray} (h : ∀ x, x ∈ L ↔ Reach S R x) (x : ByteArray) : Reach S L x ↔ Reach S R x := by
  constructor
  · intro hx
    induction hx with
    | root hd => exact (h _).1 hd
    | ref _ hg hm ih => exact .ref ih hg hm
  · intro hx
    exact .root ((h x).2 hx)
end Store
end Go.Proofs.YtjlpdknomdhbhaaGreatDoor
namespace Go.Proofs.YtjlpdknomdhbhaaGreatDoor
set_option linter.unusedVariables false
set_option linter.unusedSimpArgs false
open Go Go.RowKit Go.Maps
theorem results_tmp4 {fn : Func} {t u v x : Tmp} (h : fn.results = #[.tmp t, .tmp u, .tmp v, .tmp x]) (tmps : Array Value) (P : Program) (w : World) :
    (results fn tmps).run P w = .ok (.tuple #[tmps.getD t undef, tmps.getD u undef, tmps.getD v undef, tmps.getD x undef]) w := by
  simp [results, h]
/-- A slice of bytes, as it is read. -/
def BytC (w : World) (v : Value) (bs : List Int) : Prop := RowsC w v 1 bs.length (bs.map (Value.int .u8)) ∧ ∀ b ∈ bs, 0 ≤ b ∧ b < 256
theorem BytC.below {w w' : World} {v : Value} {bs : List Int} (h : BytC w v bs) (hb : Below w.heap.size w w') : BytC w' v bs := ⟨h.1.below hb, h.2⟩
theorem BytC.at {w : World} {a : Option Addr} {n c : Nat} {bs : List Int} (h : BytC w (.slice a n c) bs) {i : Nat} (hi : i < bs.length) : ∃ b o x, a = some ⟨b, o, none⟩ ∧ w.cell? ⟨b, o + i, none⟩ = some (.int .u8 x) ∧ 0 ≤ x ∧ x < 256 := by
  obtain ⟨⟨_, a', c', he, h0 | ⟨b, o, ha, _, hc⟩⟩, h2⟩ := h
  · omega
  · cases he
    exact ⟨b, o, bs[i], ha, hc i _ (by simp [hi]), h2 _ (List.getElem_mem hi)⟩
/-- A build is under way: k objects are in. -/
structure BldI (w0 w : World) (a mp : Nat) (rv : Value) (av : Value) (k : Nat) (D : List ByteArray) (S : Store) : Prop where
  set : ∃ F, SetAt w a mp k F S ∧ (∀ i, F i → w0.heap.size ≤ i ∧ i < w.heap.size ∧ av.ownBlock ≠ some i)
  keys : ∀ d ∈ D, (S.get d).isSome = true ∧ d.size = 32
  ref : ∃ L, w.ownsRow w0.heap.size 132 4 rv L.length (eC L) ∧ L.length ≤ k
  all_ : w.ownsRow w0.heap.size 9 1 av D.length (D.map Value.string)
  few : D.length ≤ k
  ha : w0.heap.size ≤ a ∧ w0.heap.size ≤ mp
  below : Below w0.heap.size w0 w
theorem BldI.under {w0 w w' : World} {a mp k : Nat} {rv av : Value} {D : List ByteArray} {S : Store} (h : BldI w0 w a mp rv av k D S) (hb : Below w.heap.size w w') : BldI w0 w' a mp rv av k D S := by
  obtain ⟨⟨F, h1, h2⟩, h3, ⟨L, h4, h5⟩, h6, h7, h8, h9⟩ := h
  exact ⟨⟨F, h1.below hb, fun i hi => ⟨(h2 i hi).1, Nat.lt_of_lt_of_le (h2 i hi).2.1 hb.size, (h2 i hi).2.2⟩⟩, h3, ⟨L, own_below h4 hb, h5⟩, own_below h6 hb, h7, h8, h9.trans (hb.mono h9.size)⟩
/-- An object was put into the set. -/
theorem BldI.put {w0 w w' : World} {a mp k : Nat} {rv av : Value} {D : List ByteArray} {S : Store} {F F' : Nat → Prop} (h : BldI w0 w a mp rv av k D S) (hF : ∀ i, F i → w0.heap.size ≤ i ∧ i < w.heap.size ∧ av.ownBlock ≠ some i) (o : Obj)
    (hset : SetAt w' a mp (k + 1) F' (putS S o)) (hF' : ∀ i, F' i → F i ∨ (w.heap.size ≤ i ∧ i < w'.heap.size)) (hfr : Fr (fun k => k = mp) w w') : BldI w0 w' a mp rv av (k + 1) D (putS S o) ∧ ∃ L, w'.ownsRow w0.heap.size 132 4 rv L.length (eC L) ∧ L.length ≤ k := by
  obtain ⟨⟨F0, h1, h2⟩, h3, ⟨L, h4, h5⟩, h6, h7, h8, h9⟩ := h
  obtain ⟨f, sm, _⟩ := h1.map_
  have keep : ∀ {e : TypeId} {size n : Nat} {v : Value} {xs : List Value}, w.ownsRow w0.heap.size e size v n xs → w'.ownsRow w0.heap.size e size v n xs := fun ho =>
    own_keep ho fun i hi => by
      obtain ⟨cur, hc⟩ := own_at ho hi
      exact hfr.keep i hc.lt (fun e => sm.ne_at hc e)
  refine ⟨⟨⟨F', hset, fun i hi => ?_⟩, fun d hd => ⟨(putS_some S o d).2 (.inr (h3 d hd).1), (h3 d hd).2⟩, ⟨L, keep h4, by omega⟩, keep h6, by omega, h8, h9.trans (hfr.below h9.size (fun k hk => by have e2 : k = mp := hk; omega))⟩, L, keep h4, h5⟩
  have hs9 := h9.size
  rcases hF' i hi with hi | hi
  · obtain ⟨q1, q2, q3⟩ := hF i hi
    exact ⟨q1, Nat.lt_of_lt_of_le q2 hfr.size, q3⟩
  · refine ⟨by omega, hi.2, fun e => ?_⟩
    obtain ⟨cur, hc⟩ := own_at h6 e
    have := hc.lt
    omega
/-- The reference's set grew. -/
theorem BldI.refd {w0 w w' : World} {a mp k : Nat} {rv rv' av : Value} {D : List ByteArray} {S : Store} (h : BldI w0 w a mp rv av k D S) (hb : Below w.heap.size w w') {L : List Ent} (hL : w'.ownsRow w0.heap.size 132 4 rv' L.length (eC L)) (hl : L.length ≤ k) : BldI w0 w' a mp rv' av k D S := by
  have h' := h.under hb
  exact ⟨h'.set, h'.keys, ⟨L, hL, hl⟩, h'.all_, h'.few, h'.ha, h'.below⟩
/-- A digest was appended. -/
theorem BldI.push {w0 w w' : World} {a mp k : Nat} {rv av av' : Value} {D : List ByteArray} {S : Store} {d : ByteArray} (h : BldI w0 w a mp rv av k D S) (hd : (S.get d).isSome = true ∧ d.size = 32) (hk : D.length + 1 ≤ k) (hg : w.grownBy w' av.ownBlock)
    (ho : w'.ownsRow w0.heap.size 9 1 av' (D.length + 1) (D.map Value.string ++ [.string d])) (hb : av'.ownBlock = av.ownBlock ∨ av'.ownBlock = some w.heap.size) : BldI w0 w' a mp rv av' k (D ++ [d]) S := by
  obtain ⟨⟨F, h1, h2⟩, h3, ⟨L, h4, h5⟩, h6, h7, h8, h9⟩ := h
  obtain ⟨f, sm, _⟩ := h1.map_
  refine ⟨⟨F, h1.keep hg.size (fun i hl hi => hg.block i hl (fun e => ?_)), fun i hi => ?_⟩, fun x hx => ?_, ⟨L, own_keep h4 (fun i hi => ?_), h5⟩, by simpa using ho, by simpa using hk, h8, below_own h9 h9.size h6 hg⟩
  · obtain ⟨cur, hc⟩ := own_at h6 e.symm
    rcases hi with hi | hi | hi
    · subst hi; exact h1.self.ne hc (by decide) rfl
    · subst hi; exact sm.ne_at hc rfl
    · exact (h2 i hi).2.2 e.symm
  · obtain ⟨q1, q2, q3⟩ := h2 i hi
    refine ⟨q1, Nat.lt_of_lt_of_le q2 hg.size, fun e => ?_⟩
    rcases hb with hb | hb
    · exact q3 (hb.symm.trans e)
    · rw [hb] at e
      have := Option.some.inj e
      omega
  · rcases List.mem_append.1 hx with hx | hx
    · exact h3 x hx
    · rw [List.mem_singleton] at hx
      rw [hx]; exact hd
  · obtain ⟨cur, hc⟩ := own_at h4 hi
    refine hg.block i hc.lt (fun e => ?_)
    exact own_dis h4 h6 (by decide) i hi e.symm
/-- What build gives. -/
def BuildPost (w : World) (e : Ending) (w' : World) : Prop := ∃ a mp rv av k D S, e = .returned (.tuple #[.pointer (some ⟨a, 0, none⟩), rv, av, .bool true]) ∧ k ≤ 20 ∧ BldI w w' a mp rv av k D S
set_option maxRecDepth 100000 in
set_option maxHeartbeats 8000000 in
theorem build_any (v u : Value) (l : List Obj) (ls : List Int) (w : World) (h : ObjsC w v l) (hf : fewL l = true) (hu : BytC w u ls) :
    Calls Tryz.prog 25 #[v, u] w (BuildPost w) := by
  obtain ⟨R, hR⟩ : ∃ R, R = BuildPost w := ⟨_, rfl⟩
  rw [← hR]
  obtain ⟨hfew, h20⟩ := fewL_parts hf
  have HC := Lib.hid h; have HU := Lib.hid hu; have HR := Lib.hid hR; have HF := Lib.hid hfew
  obtain ⟨va, vc, rfl⟩ := h.len
  obtain ⟨ua, uc, rfl⟩ := hu.1.len
  clear h hu hR hf hfew
  go_enter Tryz.func25, Tryz.ntmps25
  go_wp2_with fail
  refine (newSet_any w).mono ?_
  rintro e w3 ⟨a, mp, rfl, hsa, hga, hgm, hb3⟩
  have HSA := Lib.hid hsa; have HB3 := Lib.hid hb3; clear hsa hb3
  go_wp2_with fail
  have hI : BldI w (w3.alloc (.cells #[] 132)) a mp (.slice (some ⟨w3.heap.size, 0, none⟩) 0 0) (.slice none 0 0) 0 [] [] := by
    have hs := HB3.out.size
    have hb : Below w3.heap.size w3 (w3.alloc (.cells #[] 132)) := (Below.refl _ _).alloc (Nat.le_refl _) _
    exact ⟨⟨_, HSA.out.below hb, (fun i hi => hi.elim)⟩, (fun d hd => by cases hd), ⟨[], own_new0 w3 132 4 w.heap.size hs, Nat.le_refl _⟩, ⟨rfl, .inl ⟨rfl, rfl⟩⟩, Nat.le_refl _, ⟨hga, hgm⟩, HB3.out.trans (hb.mono hs)⟩
  have HI := Lib.hid hI; clear hI HSA HB3
  go_loopw [9, 10, 24] (fun rv av i wr => ∃ (k : Nat) (D : List ByteArray) (S : Store), k ≤ l.length ∧ i = .int .i64 k ∧ BldI w wr a mp rv av k D S) (fun _ _ i _ => l.length - (intOf i).toNat)
  case atStart => exact ⟨0, [], [], by omega, rfl, HI.out⟩
  case round =>
    obtain ⟨k, D, S, hk, rfl, hI⟩ := hrel
    by_cases hlt : k < l.length
    · have dk : decide ((k : Int) < l.length) = true := by simp; omega
      have hcb := HC.out.below hI.below
      obtain ⟨a', c', he, hcd⟩ := hcb
      cases he
      obtain ⟨vb, vo, rfl, hbl, hc⟩ := hcd.resolve_left (by omega)
      obtain ⟨rv, e0, e1, e2, hs⟩ := hc k hlt
      obtain ⟨ra, rc, rfl⟩ := hs.len
      have hfq := HF.out l[k] (List.getElem_mem hlt)
      have hre := reach_few hfq
      obtain ⟨q, hq⟩ : ∃ q, q = l[k] := ⟨_, rfl⟩
      rw [← hq] at e0 e1 e2 hs hre hfq
      have HQ := Lib.hid hq; have HS := Lib.hid hs; have HRE := Lib.hid hre; have HFQ := Lib.hid hfq; have HIV := Lib.hid hI
      clear hq hs hre hfq hc hcd hI HI
      obtain ⟨aa, am, ac, rfl⟩ := own_slice HIV.out.all_
      obtain rfl := own_len HIV.out.all_
      obtain ⟨L, hL, hLk⟩ := HIV.out.ref
      obtain ⟨xa, xm, xc, rfl⟩ := own_slice hL
      clear hL hLk L
      have hbx : Below wr.heap.size wr (wr.alloc (.cells #[.int .i64 q.kind, .slice ra q.refs.length rc, .string q.data] 24)) := (Below.refl _ _).alloc (Nat.le_refl _) _
      have hax : At (wr.alloc (.cells #[.int .i64 q.kind, .slice ra q.refs.length rc, .string q.data] 24)) wr.heap.size 24 #[.int .i64 q.kind, .slice ra q.refs.length rc, .string q.data] := At.new wr _ _
      have hrl : q.refs.length ≤ 70 := by
        have := HFQ.out
        unfold few49 at this
        simp only [Bool.and_eq_true, decide_eq_true_eq] at this
        exact this.1.2
      have HBX := Lib.hid hbx; have HAX := Lib.hid hax; clear hbx hax
      go_wp2_with fail
      refine (cloneStrs_any (.slice ra q.refs.length rc) q.refs _ (HS.out.below HBX.out) (by omega)).mono ?_
      rintro e w5 ⟨v5, rfl, hs5, hu5, ho5, hb5⟩
      obtain ⟨na, nm, nc, rfl⟩ := own_slice ho5
      obtain rfl := own_len ho5
      have ha5 := HAX.out.below hb5 HAX.out.lt
      have hb15 : Below wr.heap.size wr w5 := HBX.out.trans (hb5.mono HBX.out.size)
      have HA5 := Lib.hid ha5; have HB5 := Lib.hid hb15; have HO5 := Lib.hid ho5; have HU5 := Lib.hid hu5
      clear hs5 hu5 ho5 hb5 ha5 hb15 HAX HBX
      have z1 := HA5.out.free 1; have c1 := HA5.out.cell 1
      simp only [List.getElem?_toArray, List.getElem?_cons_zero, List.getElem?_cons_succ] at c1
      go_upto_region 9 with fail
      have haw : At (w5.setCell ⟨wr.heap.size, 1, none⟩ (.slice na q.refs.length nc)) wr.heap.size 24 #[.int .i64 q.kind, .slice na q.refs.length nc, .string q.data] := HA5.out.set 1 _
      have how : (w5.setCell ⟨wr.heap.size, 1, none⟩ (.slice na q.refs.length nc)).ownsRow (wr.heap.size + 1) 9 1 (.slice na q.refs.length nc) q.refs.length (q.refs.map Value.string) := by
        have hu := HU5.out
        simp only [World.size_alloc] at hu
        have ho := HO5.out
        rw [World.size_alloc] at ho
        exact own_keep ho (fun j hj => by have h2 := hu j hj; exact heap_setCell_other _ _ _ _ (show j ≠ wr.heap.size by omega))
      have hbw : Below wr.heap.size wr (w5.setCell ⟨wr.heap.size, 1, none⟩ (.slice na q.refs.length nc)) := HB5.out.setCell (Nat.le_refl _) _
      generalize w5.setCell ⟨wr.heap.size, 1, none⟩ (.slice na q.refs.length nc) = W at *
      have HAW := Lib.hid haw; have HOW := Lib.hid how; have HBW := Lib.hid hbw; have HIW := Lib.hid (HIV.out.under hbw)
      clear haw how hbw z1 c1 HA5 HB5 HO5 HU5
      have c1 := HAW.out.cell 1
      simp only [List.getElem?_toArray, List.getElem?_cons_zero, List.getElem?_cons_succ] at c1
      go_cut [47] (fun cv wx => ∃ c : Bool, cv = .bool c ∧ (c = true → k < ls.length ∧ 0 < D.length ∧ q.refs.length < 64) ∧ W = wx)
      case first =>
        by_cases g1 : k < ls.length
        · have d1 : decide ((k : Int) < ls.length) = true := by simp; omega
          by_cases g2 : 0 < D.length
          · have d2 : decide ((0 : Int) < D.length) = true := decide_eq_true (by omega)
            by_cases g3 : q.refs.length < 64
            · have d3 : decide ((q.refs.length : Int) < 64) = true := by simp; omega
              go_wp2_with fail
              go_meet
              exact ⟨true, rfl, fun _ => ⟨g1, g2, g3⟩, rfl⟩
            · have d3 : decide ((q.refs.length : Int) < 64) = false := by simp; omega
              go_wp2_with fail
              go_meet
              exact ⟨false, rfl, fun h => (by cases h), rfl⟩
          · have d2 : decide ((0 : Int) < D.length) = false := by rw [show D.length = 0 by omega]; rfl
            go_wp2_with fail
            go_meet
            exact ⟨false, rfl, fun h => (by cases h), rfl⟩
        · have d1 : decide ((k : Int) < ls.length) = false := by simp; omega
          go_wp2_with fail
          go_meet
          exact ⟨false, rfl, fun h => (by cases h), rfl⟩
      case rest =>
        obtain ⟨c, rfl, hc, rfl⟩ := hcut
        have HCG := Lib.hid hc; clear hc
        go_upto_if 47 with fail
        have hsr := StrsC.own HOW.out
        go_cut [] (fun wx => ∃ (pv : Value) (rl : List ByteArray), At wx wr.heap.size 24 #[.int .i64 q.kind, pv, .string q.data] ∧ StrsC wx pv rl ∧ Reach ⟨q.kind, rl, q.data⟩ ∧ (∀ i, pv.ownBlock = some i → wr.heap.size < i) ∧ BldI w wx a mp (.slice xa xm xc) (.slice aa D.length ac) k D S)
        case first =>
          cases c with
          | false =>
            go_wp2_with fail
            go_meet
            exact ⟨_, q.refs, HAW.out, hsr, HRE.out, own_up HOW.out, HIW.out⟩
          | true =>
            obtain ⟨g1, g2, g3⟩ := HCG.out rfl
            obtain ⟨ub, uo, x, rfl, hx, hx0, hx1⟩ := (HU.out.below HIW.out.below).at g1
            obtain ⟨t, rfl⟩ : ∃ t : Nat, x = t := ⟨x.toNat, by omega⟩
            have hjl : t % D.length < D.length := Nat.mod_lt _ g2
            obtain ⟨j, hj⟩ : ∃ j, j = t % D.length := ⟨_, rfl⟩
            rw [← hj] at hjl
            have ej : Int.tmod (t : Int) D.length = j := by rw [hj]; rfl
            obtain ⟨g, cap, he, hcell⟩ := own_cell HIW.out.all_ g2
            cases he
            have hd : W.cell? ⟨g, j, none⟩ = some (.string D[j]) := hcell j _ (by simp [hjl])
            have hdz := (HIW.out.keys D[j] (List.getElem_mem hjl)).2
            obtain ⟨y, hy⟩ : ∃ y, y = D[j] := ⟨_, rfl⟩
            rw [← hy] at hd hdz
            have HY := Lib.hid hdz; clear hj hy hcell hsr
            go_wp2_with fail
            have hbs := HBW.out.size
            have hpr : ∀ v6 (w6 : World), w6.ownsRow (wr.heap.size + 1) 9 1 v6 (q.refs.length + 1) (q.refs.map Value.string ++ [.string y]) → (W.alloc (.cells #[.string y] 9)).drew.grownBy w6 (Value.slice na q.refs.length nc).ownBlock → ∃ (pv : Value) (rl : List ByteArray), At (w6.setCell ⟨wr.heap.size, 1, none⟩ v6) wr.heap.size 24 #[.int .i64 q.kind, pv, .string q.data] ∧ StrsC (w6.setCell ⟨wr.heap.size, 1, none⟩ v6) pv rl ∧ Reach ⟨q.kind, rl, q.data⟩ ∧ (∀ i, pv.ownBlock = some i → wr.heap.size < i) ∧ BldI w (w6.setCell ⟨wr.heap.size, 1, none⟩ v6) a mp (.slice xa xm xc) (.slice (some ⟨g, 0, none⟩) D.length ac) k D S := by
              intro v6 w6 ho hg
              have hba : Below wr.heap.size wr (W.alloc (.cells #[.string y] 9)).drew := (HBW.out.alloc hbs _).drew
              have hu6 := own_up ho
              have hne : some wr.heap.size ≠ (Value.slice na q.refs.length nc).ownBlock := fun e => by have := own_up HOW.out _ e.symm; omega
              have ha6 := (HAW.out.alloc (.cells #[.string y] 9)).drew.grown hg hne
              refine ⟨v6, q.refs ++ [y], ha6.set 1 v6, ?_, ⟨fun z hz => ?_, by simp; omega, HRE.out.2.2⟩, hu6, HIV.out.under ?_⟩
              · refine StrsC.own (base := wr.heap.size + 1) ?_
                rw [List.length_append, List.length_singleton, List.map_append, List.map_singleton]
                exact own_keep ho (fun i hi => by have h2 := hu6 i hi; exact heap_setCell_other _ _ _ _ (show i ≠ wr.heap.size by omega))
              · rcases List.mem_append.1 hz with hz | hz
                · exact HRE.out.1 z hz
                · rw [List.mem_singleton] at hz
                  rw [hz, HY.out]
                  decide
              · exact (below_own (base := wr.heap.size) hba (by simp; omega) (own_base HOW.out (by omega)) hg).setCell (Nat.le_refl _) v6
            have HPR := Lib.hid hpr; clear hpr
            refine Lex.wp_region_lex (by kernel_rfl) (by kernel_rfl) ?_
            go_wp2_with (at_builtin; refine wp_push_str rfl _ _ rfl (wr.heap.size + 1) q.refs.length (.slice na q.refs.length nc) (q.refs.map Value.string) rfl (own_below (HOW.out.alloc _) (Below.refl _ _).drew) W.heap.size 1 y rfl (((Below.refl (W.heap.size + 1) (W.alloc (.cells #[.string y] 9))).drew.cell (p := ⟨W.heap.size, 0, none⟩) (Nat.lt_succ_self _)).trans (cell_new W (.string y) 9)) (by omega) (by have := HAW.out.lt; simp; omega) ?_; intro v6 w6 ho hg _; obtain ⟨n1, n2, n3, rfl⟩ := own_slice ho; have ha6 := (HAW.out.alloc (.cells #[.string y] 9)).drew.grown hg (fun e => by have := own_up HOW.out _ e.symm; omega); have z1 := ha6.free 1; have c6 := ha6.cell 1; simp only [List.getElem?_toArray, List.getElem?_cons_zero, List.getElem?_cons_succ] at c6; have HO6 := Lib.hid ho; have HG6 := Lib.hid hg; clear ho hg ha6)
            refine Lex.Ends.intro (by kernel_rfl) ?_
            go_wp2_with fail
            go_meet
            exact HPR.out _ _ HO6.out HG6.out
        case rest =>
          obtain ⟨pv, rl, hat, hsr2, hre2, hup, hI2⟩ := hcut
          obtain ⟨pa, pc, rfl⟩ := hsr2.len
          have hmpl : mp < wr.heap.size := HIV.out.set.choose_spec.1.lt_mp
          obtain ⟨F, hset, hFF⟩ := hI2.set
          have HAT := Lib.hid hat; have HSR := Lib.hid hsr2; have HRE2 := Lib.hid hre2; have HI2 := Lib.hid hI2; have HSET := Lib.hid hset; have HFF := Lib.hid hFF; have HUP := Lib.hid hup
          clear hat hsr2 hre2 hI2 hset hFF hup hsr c1 HAW HOW HBW HIW HCG
          obtain ⟨o, ho⟩ : ∃ o : Obj, o = ⟨q.kind, rl, q.data⟩ := ⟨_, rfl⟩
          have ek : q.kind = o.kind := by rw [ho]
          have er : rl = o.refs := by rw [ho]
          have ed : q.data = o.data := by rw [ho]
          rw [← ho] at HRE2
          rw [ek, ed] at HAT
          rw [er] at HSR HAT HUP
          clear ho
          have c0 := HAT.out.cell 0; have c1 := HAT.out.cell 1; have c2 := HAT.out.cell 2
          simp only [List.getElem?_toArray, List.getElem?_cons_zero, List.getElem?_cons_succ] at c0 c1 c2
          go_wp2_with fail
          refine (put_any a mp k F S o (.slice pa o.refs.length pc) _ HSET.out HSR.out HRE2.out (by omega)).mono ?_
          rintro e w7 ⟨rfl, F', hset, hF1, hF2, hfr⟩
          have hDk0 : D.length + 1 ≤ k + 1 := by have := HI2.out.few; omega
          obtain ⟨hI7, L, hL, hLk⟩ := HI2.out.put HFF.out o hset hF2 hfr
          have hat7 := HAT.out.keep (hfr.keep _ HAT.out.lt (fun e => by have e2 : wr.heap.size = mp := e; omega))
          have hs7 : StrsC w7 (.slice pa o.refs.length pc) o.refs := HSR.out.keep (fun i hi hl => hfr.keep i hl (fun e => by
            have e2 : i = mp := e
            have := HUP.out i hi
            omega))
          have HI7 := Lib.hid hI7; have HAT7 := Lib.hid hat7; have HS7 := Lib.hid hs7
          clear hset hF1 hF2 hfr hI7 hat7 hs7 c0 c1 c2 HI2 HSET HSR HFF HAT HUP
          have c0 := HAT7.out.cell 0; have c1 := HAT7.out.cell 1; have c2 := HAT7.out.cell 2
          simp only [List.getElem?_toArray, List.getElem?_cons_zero, List.getElem?_cons_succ] at c0 c1 c2
          obtain rfl := own_len hL
          have HL := Lib.hid hL; clear hL
          have hB7 := HI7.out.below.size
          cases hok : okO o with
          | false =>
            have hdg := digR_bad hok
            rw [hdg]
            have HDG := Lib.hid hdg; clear hdg
            go_wp2_with fail
            refine (r49Put_any w.heap.size (.slice xa L.length xc) L o (.slice pa o.refs.length pc) _ HL.out hB7 (by omega) HS7.out HRE2.out).mono ?_
            rintro e w8 ⟨v', L', d, x, rfl, hd, hL', hl', hb8⟩
            rw [HDG.out] at hd
            obtain ⟨rfl, rfl⟩ : d = ⟨#[]⟩ ∧ x = 1 := by
              simp only [Value.tuple.injEq, Array.mk.injEq, List.cons.injEq, Value.string.injEq, Value.int.injEq] at hd
              exact ⟨hd.1.symm, hd.2.1.2.symm⟩
            obtain ⟨ya, ym, yc, rfl⟩ := own_slice hL'
            have hI8 := HI7.out.refd hb8 hL' (by omega)
            have HI8 := Lib.hid hI8; clear hI8 hL' hb8 hd c0 c1 c2
            go_wp2_with fail
            exact ⟨⟨k + 1, _, _, by omega, by go_num, HI8.out⟩, by simp [intOf]; omega⟩
          | true =>
            have hdg := digR_ok hok
            rw [hdg]
            have hds := digO_size o
            have hds2 : ((putS S o).get (digO o)).isSome = true := (putS_some S o _).2 (.inl ⟨hok, rfl⟩)
            have hDk := hDk0
            obtain ⟨dd, hdd⟩ : ∃ d, d = digO o := ⟨_, rfl⟩
            rw [← hdd] at hdg hds hds2 ⊢
            have HDG := Lib.hid hdg; have HDS := Lib.hid hds; have HDS2 := Lib.hid hds2; clear hdg hds hds2 hdd
            have hself : (dd.toList == dd.toList) = true := by simp
            go_wp2_with fail
            refine (r49Put_any w.heap.size (.slice xa L.length xc) L o (.slice pa o.refs.length pc) _ HL.out hB7 (by omega) HS7.out HRE2.out).mono ?_
            rintro e w8 ⟨v', L', d, x, rfl, hd, hL', hl', hb8⟩
            rw [HDG.out] at hd
            obtain ⟨rfl, rfl⟩ : d = dd ∧ x = 0 := by
              simp only [Value.tuple.injEq, Array.mk.injEq, List.cons.injEq, Value.string.injEq, Value.int.injEq] at hd
              exact ⟨hd.1.symm, hd.2.1.2.symm⟩
            obtain ⟨ya, ym, yc, rfl⟩ := own_slice hL'
            have hI8 := HI7.out.refd hb8 hL' (by omega)
            have hA8 : Below w8.heap.size w8 (w8.alloc (.cells #[.string d] 9)) := (Below.refl _ _).alloc (Nat.le_refl _) _
            have hB8 := hI8.below.size
            have HI8 := Lib.hid (hI8.under hA8); clear hI8 hL' hb8 hd c0 c1 c2
            go_wp2_with (at_builtin; go_must (refine wp_push_str rfl _ _ rfl w.heap.size D.length (.slice aa D.length ac) (D.map Value.string) rfl HI8.out.all_ w8.heap.size 1 d rfl (cell_new w8 (.string d) 9) (by omega) (by simp; omega) ?_); intro v9 w9 ho hg hb9; have HI9 := Lib.hid (HI8.out.push ⟨HDS2.out, HDS.out⟩ hDk hg ho hb9); clear ho hg hb9)
            exact ⟨⟨k + 1, _, _, by omega, by go_num, HI9.out⟩, by simp [intOf]; omega⟩
    · have dk : decide ((k : Int) < l.length) = false := by simp; omega
      have HIV := Lib.hid hI; clear hI
      go_wp2_with fail
      refine bodyPost_ret (results_tmp4 rfl _ _ _) rfl ?_
      rw [HR.out]
      exact ⟨a, mp, _, _, k, D, S, rfl, by omega, HIV.out⟩
theorem sub_len : ∀ (m l : List ByteArray), l.Nodup → (∀ k ∈ l, k ∈ m) → l.length ≤ m.length
  | [], l, _, h => by
    cases l with
    | nil => exact Nat.le_refl _
    | cons x l => exact absurd (h x List.mem_cons_self) (by simp)
  | a :: m, l, hn, h => by
    have h1 := filter_ne_len a l hn
    have h2 := sub_len m (l.filter fun x => decide (x ≠ a)) (hn.filter _) (fun k hk => by
      obtain ⟨q1, q2⟩ := List.mem_filter.1 hk
      rcases List.mem_cons.1 (h k q1) with e | q
      · simp [e] at q2
      · exact q)
    rw [List.length_cons]
    omega
theorem flat_len {α β : Type} (f : α → List β) (n : Nat) : ∀ l : List α, (∀ x ∈ l, (f x).length ≤ n) → (l.flatMap f).length ≤ n * l.length
  | [], _ => by simp
  | x :: l, h => by
    have h1 := h x List.mem_cons_self
    have h2 := flat_len f n l (fun y hy => h y (List.mem_cons_of_mem _ hy))
    rw [List.flatMap_cons, List.length_append, List.length_cons, Nat.mul_add, Nat.mul_one]
    omega
theorem reach_bound (S : Store) (R : List ByteArray) (hg : ∀ k o, S.get k = some o → okO o = true) (l : List ByteArray) (hn : l.Nodup) (h : ∀ x ∈ l, Store.Reach S R x) : l.length ≤ R.length + 64 * S.length := by
  have h1 := sub_len (R ++ S.flatMap fun x => match S.get x.1 with | some o => o.refs | none => []) l hn (fun x hx => by
    rcases (h x hx).inv with q | ⟨d, o, _, q2, q3⟩
    · exact List.mem_append_left _ q
    · exact List.mem_append_right _ (List.mem_flatMap.2 ⟨(d, o), Store.get_mem q2, by simp only [q2]; exact q3⟩))
  have h2 := flat_len (fun x : ByteArray × Obj => match S.get x.1 with | some o => o.refs | none => []) 64 S (fun x _ => by
    cases q : S.get x.1 with
    | none => simp
    | some o => exact (okO_parts (hg _ _ q)).2.2.1)
  rw [List.length_append] at h1
  omega
theorem own_fr {w w' : World} {b size n mp m : Nat} {e : TypeId} {v : Value} {xs : List Value} {f : ByteArray → Option Value} (h : w.ownsRow b e size v n xs) (sm : Smap w mp m f) (hfr : Fr (fun k => k = mp) w w') : w'.ownsRow b e size v n xs :=
  own_keep h fun i hi => by
    obtain ⟨cur, hc⟩ := own_at h hi
    exact hfr.keep i hc.lt (fun e => sm.ne_at hc e)
/-- What is reached behind a drop. -/
theorem drop_lists {S : Store} {R l1 l2 l3 l4 : List ByteArray} {d : ByteArray} (hd : (S.get d).isSome = true) (i1 : Incr l1) (i2 : Incr l2) (i3 : Incr l3) (i4 : Incr l4) (m1 : ∀ k, k ∈ l1 ↔ Store.Reach S R k ∧ (S.get k).isSome = true) (m2 : ∀ k, k ∈ l2 ↔ Store.Reach S R k ∧ (S.get k).isSome = false)
    (m3 : ∀ k, k ∈ l3 ↔ Store.Reach (S.drop d) R k ∧ ((S.drop d).get k).isSome = true) (m4 : ∀ k, k ∈ l4 ↔ Store.Reach (S.drop d) R k ∧ ((S.drop d).get k).isSome = false) :
    (d ∈ l1 → d ∈ l4 ∧ d ∉ l3) ∧ (d ∉ l1 → l3 = l1 ∧ l4 = l2) := by
  have hnone : ((S.drop d).get d).isSome = false := by rw [Store.get_drop, if_pos rfl]; rfl
  constructor
  · intro h
    refine ⟨(m4 d).2 ⟨((m1 d).1 h).1.drop_self, hnone⟩, fun h3 => ?_⟩
    have := ((m3 d).1 h3).2
    rw [hnone] at this
    cases this
  · intro h
    have hr : ¬ Store.Reach S R d := fun hr => h ((m1 d).2 ⟨hr, hd⟩)
    have hne : ∀ x, Store.Reach S R x → (S.drop d).get x = S.get x := fun x hx => Store.get_drop_ne (fun e => hr (e ▸ hx))
    refine ⟨incr_unique i3 i1 fun x => ?_, incr_unique i4 i2 fun x => ?_⟩
    · rw [m3, m1, Store.Reach.drop_iff hr]
      exact ⟨fun ⟨q1, q2⟩ => ⟨q1, by rwa [hne x q1] at q2⟩, fun ⟨q1, q2⟩ => ⟨q1, by rwa [hne x q1]⟩⟩
    · rw [m4, m2, Store.Reach.drop_iff hr]
      exact ⟨fun ⟨q1, q2⟩ => ⟨q1, by rwa [hne x q1] at q2⟩, fun ⟨q1, q2⟩ => ⟨q1, by rwa [hne x q1]⟩⟩
end Go.Proofs.YtjlpdknomdhbhaaGreatDoor
