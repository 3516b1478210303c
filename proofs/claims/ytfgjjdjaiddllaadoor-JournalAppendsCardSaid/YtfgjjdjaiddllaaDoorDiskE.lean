/- A disk of the program is made, and its recording begins and ends. Conditions: 1 to 4096 pages. -/
import Derived.Test.YtfgjjdjaiddllaaDoorDiskD
namespace Go.Proofs.YtfgjjdjaiddllaaDoor
set_option linter.unusedVariables false
set_option linter.unusedSimpArgs false
open Go Go.RowKit Go.Maps Go.ChangeMaps
theorem info_string : (Tryd.prog.info? 9).map (fun i => (i.zero, i.size, i.bytes)) = some (some (.string ⟨#[]⟩), 1, 16) := by kernel_rfl
theorem own_full {w : World} {base g n : Nat} {e : TypeId} {xs : List Value} (h : w.ownsRow base e 1 (.slice (some ⟨g, 0, none⟩) n n) n xs) : At w g e xs.toArray := by
  obtain ⟨hl, ⟨h0, _⟩ | ⟨g', cap, cur, hv, _, hc, _, _, hcs, ht⟩⟩ := h
  · cases h0
  · simp only [Value.slice.injEq, Option.some.injEq, Addr.mk.injEq] at hv
    obtain ⟨⟨rfl, _⟩, _, rfl⟩ := hv
    have : cur = xs.toArray := by
      rw [← ht, List.take_of_length_le (by rw [Array.length_toList]; omega)]
    rw [← this]
    exact hc
def DiskC.blank (n : Nat) : DiskC := ⟨List.replicate n ⟨#[]⟩, [], false, []⟩
theorem DiskAt.setRec {w : World} {d : DiskP} {c : DiskC} (h : DiskAt w d c) (b : Bool) :
    DStep w ((w.setCell ⟨d.a, 3, none⟩ (.bool b)).setCell ⟨d.a, 4, none⟩ (.slice none 0 0)) d { d with rv := .slice none 0 0 } { c with recording := b, recorded := [] } := by
  obtain ⟨D, n, hm, hn, hl⟩ := h.latest
  have ho : ∀ k, k ≠ d.a → ((w.setCell ⟨d.a, 3, none⟩ (.bool b)).setCell ⟨d.a, 4, none⟩ (.slice none 0 0)).heap[k]? = w.heap[k]? := fun k hk =>
    (heap_setCell_other _ ⟨d.a, 4, none⟩ k _ hk).trans (heap_setCell_other _ ⟨d.a, 3, none⟩ k _ hk)
  refine ⟨⟨(h.self.set 3 _).set 4 _, h.rows.keep (ho _ (Ne.symm h.a_bd)), own_keep h.pend (fun k hk => ho k (by rintro rfl; exact h.a_pv hk)), ⟨rfl, .inl ⟨rfl, rfl⟩⟩,
    ⟨D, n, map_keep hm (ho _ (Ne.symm h.a_mp)), hn, hl⟩, h.pos, h.most, h.inside⟩, rfl, rfl, rfl, ?_, ((Fr.refl d.foot w).setCell (p := ⟨d.a, 3, none⟩) (.inl (.inl rfl)) _).setCell (p := ⟨d.a, 4, none⟩) (.inl (.inl rfl)) _⟩
  intro k hk
  rcases hk with rfl | rfl | rfl | hk | hk
  · exact .inl (.inl rfl)
  · exact .inl (.inr (.inl rfl))
  · exact .inl (.inr (.inr (.inl rfl)))
  · exact .inl (.inr (.inr (.inr (.inl hk))))
  · cases hk
set_option maxRecDepth 100000 in
set_option maxHeartbeats 1000000 in
theorem dRecord_any (d : DiskP) (c : DiskC) (b : Bool) (w : World) (h : DiskAt w d c) :
    Calls Tryd.prog 25 #[.pointer (some ⟨d.a, 0, none⟩), .bool b] w fun e w' => e = .returned d.rv ∧ DStep w w' d { d with rv := .slice none 0 0 } { c with recording := b, recorded := [] } := by
  have h3 := h.self.cell 3; have h4 := h.self.cell 4
  simp only [List.getElem?_toArray, List.getElem?_cons_zero, List.getElem?_cons_succ] at h3 h4
  have f3 : w.frozen? ⟨d.a, 3, none⟩ = false := h.self.free 3
  have f4 : w.frozen? ⟨d.a, 4, none⟩ = false := h.self.free 4
  have hpv : ∃ b len cap, d.rv = .slice b len cap := by
    obtain ⟨_, ⟨h0, h1⟩ | ⟨g, cap, cur, h0, _⟩⟩ := h.recd
    · exact ⟨none, 0, 0, h0⟩
    · exact ⟨_, _, _, h0⟩
  obtain ⟨pb, pl, pc, hrv⟩ := hpv
  rw [hrv] at h4
  have HR := Lib.hid hrv; clear hrv
  have hst := h.setRec b
  have H := Lib.hid hst; clear h hst
  go_enter Tryd.func25, Tryd.ntmps25
  go_wp2_with fail
  go_ret
  exact ⟨by rw [HR.out]; rfl, H.out⟩
set_option maxRecDepth 100000 in
set_option maxHeartbeats 1000000 in
theorem dNew_any (n : Nat) (w : World) (h1 : 1 ≤ n) (h2 : n ≤ 4096) :
    Calls Tryd.prog 29 #[.int .i64 n] w fun e w' => ∃ d : DiskP, e = .returned (.tuple #[.pointer (some ⟨d.a, 0, none⟩), .int .i64 0]) ∧ DiskAt w' d (.blank n) ∧ Below w.heap.size w w' ∧ ∀ k, d.foot k → w.heap.size ≤ k := by
  obtain ⟨i0, hi, hz0, hz1, hz2⟩ := info_parts info_string
  have hmm := @run_makeMap Tryd.prog
  go_enter Tryd.func29, Tryd.ntmps29
  go_wp2_with (at_make; go_must (refine wpList_make_full _ rfl _ _ 22 rfl w.heap.size 9 i0 (.string ⟨#[]⟩) 1 Tryd.underlying22 hi hz0 hz1 .i64 .i64 n n n rfl rfl rfl rfl (by rw [hz2]; omega) (by unfold maxLen; omega) (Nat.le_refl _) ?_); intro w1 how hg)
  go_ret2
  have hat := own_full how
  have hsz := hg.size
  have hB : Below w.heap.size w w1 := (Below.refl _ _).grown hg (Nat.le_refl _) (fun k hk => by cases hk)
  have hlt := hat.lt
  refine ⟨⟨w1.heap.size + 1, w.heap.size, w1.heap.size, .slice none 0 0, .slice none 0 0⟩, rfl, ?_, (hB.alloc hsz _).alloc (by rw [World.size_alloc]; omega) _, ?_⟩
  · have hm : (w1.alloc (.map #[] 0)).ownsMap Tryd.prog 3 (plainElem (H := Unit) Tryd.prog 3) w1.heap.size 0 (.map []) := World.ownsMap_made _ _ _ _
    have hbl : (List.replicate n (⟨#[]⟩ : ByteArray)).length = n := List.length_replicate
    refine ⟨?_, ?_, ⟨rfl, .inl ⟨rfl, rfl⟩⟩, ⟨rfl, .inl ⟨rfl, rfl⟩⟩, ⟨.map [], 0, hm.alloc _, Nat.le_refl _, ⟨⟨[], rfl⟩, fun p => rfl⟩⟩, ?_, ?_, fun x hx => by cases hx⟩
    · show At _ _ _ #[.slice _ (List.replicate n _).length (List.replicate n _).length, _, _, _, _]
      rw [hbl]
      have := At.new (w1.alloc (.map #[] 0)) 75 #[.slice (some ⟨w.heap.size, 0, none⟩) n n, .slice none 0 0, .map (some w1.heap.size), .bool false, .slice none 0 0]
      rw [World.size_alloc] at this
      exact this
    · have e : strRow (List.replicate n ⟨#[]⟩) = (madeCells (Value.string ⟨#[]⟩).cells (n * 1)).toList.toArray := by
        rw [Nat.mul_one]
        show _ = (madeCells #[Value.string ⟨#[]⟩] n).toList.toArray
        rw [toList_madeCells_one, strRow, List.map_replicate]
      show At _ _ _ (strRow (List.replicate n ⟨#[]⟩))
      rw [e]
      exact (hat.alloc _).alloc _
    · show 0 < (List.replicate n _).length
      rw [hbl]; omega
    · show (List.replicate n _).length ≤ 4096
      rw [hbl]; exact h2
  · intro k hk
    rcases hk with rfl | rfl | rfl | hk | hk
    · show w.heap.size ≤ w1.heap.size + 1; omega
    · exact Nat.le_refl _
    · exact hsz
    · cases hk
    · cases hk
end Go.Proofs.YtfgjjdjaiddllaaDoor
