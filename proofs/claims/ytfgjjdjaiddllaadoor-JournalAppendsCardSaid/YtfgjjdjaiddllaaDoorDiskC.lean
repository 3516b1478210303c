/- A disk of the program takes a write. Condition: at most a million writes are pending or recorded. -/
import Derived.Test.YtfgjjdjaiddllaaDoorDiskB
namespace Go.Proofs.YtfgjjdjaiddllaaDoor
set_option linter.unusedVariables false
set_option linter.unusedSimpArgs false
open Go Go.RowKit Go.Maps
def DiskC.wrote (c : DiskC) (p : Nat) (s : ByteArray) : DiskC := { c with pending := c.pending ++ [(p, s)] }
set_option maxRecDepth 100000 in
set_option maxHeartbeats 2000000 in
theorem dWrite_any (d : DiskP) (c : DiskC) (p : Nat) (s : ByteArray) (w : World) (hin : p < c.durable.length) (hs : s.size = 512) (hpl : c.pending.length ≤ 1000000) (hr : c.recorded.length ≤ 1000000) (h : DiskAt w d c) :
    Calls Tryd.prog 11 #[.pointer (some ⟨d.a, 0, none⟩), .int .i64 p, .string s] w fun e w' => e = .returned (.int .i64 0) ∧ ∃ d', DStep w w' d d' ((c.wrote p s).note ⟨p, s, false⟩) := by
  have h1 := h.self.cell 1; have h2 := h.self.cell 2
  simp only [List.getElem?_toArray, List.getElem?_cons_zero, List.getElem?_cons_succ] at h1 h2
  obtain ⟨D, n, hm, hn, hl⟩ := h.latest
  have hpos := h.most
  have HM := Lib.hid hm; clear hm
  have HL := Lib.hid hl; clear hl
  have hpv : ∃ b len cap, d.pv = .slice b len cap ∧ len = c.pending.length := by
    obtain ⟨_, ⟨h0, h1⟩ | ⟨g, cap, cur, h0, _⟩⟩ := h.pend
    · exact ⟨none, 0, 0, h0, h1.symm⟩
    · exact ⟨_, _, _, h0, rfl⟩
  obtain ⟨pb, pl, pc, hpve, rfl⟩ := hpv
  have dd : decide (0 ≤ (p : Int) ∧ (p : Int) < c.durable.length) = true := decide_eq_true ⟨by omega, by omega⟩
  have H := Lib.hid h; clear h
  have hkey := keyOf_int_mk (P := Tryd.prog) (k := 3) (q := .i64) Tryd.underlying3 (wf64 (x := (p : Int)) (by omega))
  obtain ⟨i0, hi, hz0, hz1, hz2⟩ := info_parts info_write
  rw [hpve] at h1
  have HPV := Lib.hid hpve; clear hpve
  go_enter Tryd.func11, Tryd.ntmps11
  go_wp2_with fail
  refine (dHas_any d c p w H.out).mono ?_
  rintro e w' ⟨rfl, rfl⟩
  rw [dd]
  go_wp2_with fail
  refine Lex.wp_region_lex (by kernel_rfl) (by kernel_rfl) ?_
  go_wp2_with (at_mapUpdate; go_must (refine wpList_mapUpdate_own _ rfl _ _ _ 73 rfl 3 3 law Tryd.underlying73 _ d.mp n _ rfl HM.out.drew (by unfold maxLen; omega) _ _ _ rfl rfl hkey _ [] (plainElem_int Tryd.underlying3 (wf64 (by omega))) ?_); intro w1 hown1 hgrow1)
  have hg1 : w'.grownBy w1 (some d.mp) := ⟨hgrow1.os, hgrow1.tape, hgrow1.output, hgrow1.size, hgrow1.block⟩
  have hs1 := At.grown H.out.self hg1 (by intro e; exact H.out.a_mp (by simpa using e))
  have h1 := hs1.cell 1
  simp only [List.getElem?_toArray, List.getElem?_cons_zero, List.getElem?_cons_succ, HPV.out] at h1
  have hp1 := own_keep (w' := w1) H.out.pend (fun k hk => hg1.block k (by obtain ⟨cur, hc⟩ := own_at H.out.pend hk; exact hc.lt) (by
    intro e
    obtain ⟨cur, hc⟩ := own_at H.out.pend hk
    exact hc.ne_map HM.out (by simpa using e)))
  have HG1 := Lib.hid hg1; have HO1 := Lib.hid hown1; have HP1 := Lib.hid hp1; have HS1 := Lib.hid hs1
  clear hg1 hown1 hgrow1 hp1 hs1
  refine Lex.Ends.intro (by kernel_rfl) ?_
  go_wp2_with (at_builtin; go_must (refine wpList_append_own_at _ rfl _ _ 72 rfl 0 77 i0 _ 2 24 Tryd.underlying72 hi hz0 hz1 hz2 rfl (by omega) _ c.pending.length (wCells c.pending) rfl (HPV.out ▸ (HP1.out.alloc _)) ⟨w1.heap.size, 0, none⟩ 1 1 [.int .i64 p, .string s] rfl rfl ?c1 ?c2 ?c3 ?c4 ?c5 ?_))
  case c1 =>
    intro j u hj
    match j, hj with
    | 0, hj => simp at hj; subst hj; simp [Addr.add]
    | 1, hj => simp at hj; subst hj; simp [Addr.add]
  case c2 => intro u hu; simp at hu; rcases hu with rfl | rfl <;> rfl
  case c3 => unfold maxLen; omega
  case c4 => omega
  case c5 => omega
  intro v' w3 how' hg _ hb'
  have hb2 : Below w1.heap.size w1 (w1.alloc (.cells #[.int .i64 p, .string s] 77)) := (Below.refl w1.heap.size w1).alloc (Nat.le_refl _) _
  have hvb : v'.ownBlock = d.pv.ownBlock ∨ ∃ g, v'.ownBlock = some g ∧ w'.heap.size ≤ g := by
    rw [HPV.out]
    exact hb'.imp id (fun h => ⟨w1.heap.size + 1, h, by have := HG1.out.size; omega⟩)
  have hst := H.out.wrote (p := p) (s := s) HG1.out hb2 (HPV.out ▸ hg) HO1.out hn HL.out hin (by rw [wCells_snoc, List.length_append]; exact how') hvb
  obtain ⟨g, cap, rfl, _⟩ := own_cell how' (by omega)
  have hsa := At.grown (HS1.out.alloc (.cells #[.int .i64 p, .string s] 77)) hg (by intro e; exact H.out.a_pv (by rw [HPV.out]; exact e.symm))
  have hf1 : w3.frozen? ⟨d.a, 1, none⟩ = false := hsa.free 1
  have hc1 := hsa.cell 1
  simp only [List.getElem?_toArray, List.getElem?_cons_zero, List.getElem?_cons_succ] at hc1
  have HS := Lib.hid hst; clear how' hg hb' hst hsa hb2 hvb
  go_wp2_with fail
  have hrec : (c.wrote p s).recorded.length ≤ 1000000 := hr
  refine (record_any _ (c.wrote p s) ⟨p, s, false⟩ _ hrec HS.out.at_).mono ?_
  rintro e w4 ⟨rfl, d', hd'⟩
  have HD := Lib.hid (HS.out.trans hd'); clear hd'
  go_wp2_with fail
  go_ret
  exact ⟨rfl, d', HD.out⟩
end Go.Proofs.YtfgjjdjaiddllaaDoor
