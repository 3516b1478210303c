/- A journal of the program as a state; what is free and its records. Condition: at most a million records. -/
import Derived.Test.YtfgjjdjaiddllaaDoorJourA
import Derived.Deep.MidRow
namespace Go.Proofs.YtfgjjdjaiddllaaDoor
set_option linter.unusedVariables false
set_option linter.unusedSimpArgs false
open Go Go.RowKit Go.Maps
/-- A journal: where it lies and what it holds. -/
structure Jour where
  jb : Nat
  da : Nat
  first : Nat
  count : Nat
  epoch : Nat
  rv : Value
  recs : List ByteArray
  next : Nat
  chain : ByteArray
def Jour.foot (j : Jour) (k : Nat) : Prop := k = j.jb ∨ j.rv.ownBlock = some k
def Jour.cells (j : Jour) : Array Value := #[.pointer (some ⟨j.da, 0, none⟩), .int .i64 j.first, .int .i64 j.count, .int .i64 j.epoch, j.rv, .int .i64 j.next, .string j.chain]
structure JourAt (w : World) (j : Jour) : Prop where
  self : At w j.jb 84 j.cells
  recs : w.ownsRow 0 9 1 j.rv j.recs.length (j.recs.map Value.string)
  few : j.recs.length ≤ 1000000
  count : j.count ≤ 4096
  next : j.next ≤ j.count
theorem JourAt.lt {w : World} {j : Jour} (h : JourAt w j) : ∀ k, j.foot k → k < w.heap.size := by
  intro k hk
  rcases hk with rfl | hk
  · exact h.self.lt
  · obtain ⟨cur, hc⟩ := own_at h.recs hk; exact hc.lt
theorem JourAt.keep {w w' : World} {j : Jour} (h : JourAt w j) (hk : ∀ k, j.foot k → w'.heap[k]? = w.heap[k]?) : JourAt w' j :=
  ⟨h.self.keep (hk _ (.inl rfl)), own_keep h.recs (fun k hb => hk k (.inr hb)), h.few, h.count, h.next⟩
theorem JourAt.below {B : Nat} {w w' : World} {j : Jour} (h : JourAt w j) (hb : Below B w w') (hB : w.heap.size ≤ B) : JourAt w' j :=
  h.keep fun k hk => hb.block k (Nat.lt_of_lt_of_le (h.lt k hk) hB)
theorem jFree_any (j : Jour) (w : World) (h : JourAt w j) :
    Calls Tryd.prog 23 #[.pointer (some ⟨j.jb, 0, none⟩)] w fun e w' => e = .returned (.int .i64 ((j.count : Int) - j.next)) ∧ w' = w.drew := by
  have h2 := h.self.cell 2; have h5 := h.self.cell 5
  simp only [Jour.cells, List.getElem?_toArray, List.getElem?_cons_zero, List.getElem?_cons_succ] at h2 h5
  have hc := h.count; have hn := h.next
  clear h
  go_enter Tryd.func23, Tryd.ntmps23
  go_wp2_with fail
  refine Lex.wp_region_lex (by kernel_rfl) (by kernel_rfl) ?_
  go_wp2_with fail
  refine Lex.Ends.intro (by kernel_rfl) ?_
  go_wp2_with fail
  go_ret
  exact ⟨rfl, rfl⟩
theorem info_str : (Tryd.prog.info? 9).map (fun i => (i.zero, i.size, i.bytes)) = some (some (.string ⟨#[]⟩), 1, 16) := by kernel_rfl
set_option maxRecDepth 100000 in
set_option maxHeartbeats 1000000 in
theorem jRecords_any (j : Jour) (w : World) (h : JourAt w j) :
    Calls Tryd.prog 22 #[.pointer (some ⟨j.jb, 0, none⟩)] w fun e w' => ∃ v, e = .returned v ∧ w'.ownsRow w.heap.size 9 1 v j.recs.length (j.recs.map Value.string) ∧ Below w.heap.size w w' := by
  obtain ⟨i0, hi, hz0, hz1, hz2⟩ := info_parts info_str
  have h4 := h.self.cell 4
  simp only [Jour.cells, List.getElem?_toArray, List.getElem?_cons_zero, List.getElem?_cons_succ] at h4
  have hfew := h.few
  have hrecs := h.recs
  clear h
  obtain ⟨hl, ⟨hv, h0⟩ | ⟨g, cap, cur, hv, hb, hc, hcap, hm, hcs, ht⟩⟩ := hrecs
  · rw [hv] at h4
    have hnil : j.recs = [] := List.eq_nil_of_length_eq_zero h0
    rw [hnil]
    clear hl hv h0 hnil
    go_enter Tryd.func22, Tryd.ntmps22
    go_wp2_with fail
    go_ret
    exact ⟨_, rfl, World.ownsRow_nil _ _ _ _, Below.refl _ _⟩
  · rw [hv] at h4
    have hcell : ∀ i x, (j.recs.map Value.string)[i]? = some x → w.cell? ⟨g, 0 + i, none⟩ = some x := by
      intro i x hx
      rw [Nat.zero_add, At.cell hc i, ← Array.getElem?_toList]
      rw [← ht, List.getElem?_take] at hx
      split at hx
      · exact hx
      · cases hx
    clear hv hc hcs ht hb hcap hm
    go_enter Tryd.func22, Tryd.ntmps22
    go_wp2_with (at_builtin; go_must (refine wpList_append_own_at _ rfl _ _ 22 rfl w.heap.size 9 i0 _ 1 16 Tryd.underlying22 hi hz0 hz1 hz2 rfl (by omega) _ 0 [] rfl (World.ownsRow_nil _ _ _ _) ⟨g, 0, none⟩ j.recs.length cap (j.recs.map Value.string) rfl hl ?c1 ?c2 ?c3 ?c4 ?c5 ?_))
    case c1 =>
      intro i u hu
      rw [Addr.add_mid]
      exact hcell i u hu
    case c2 => intro u hu; simp at hu; obtain ⟨s, _, rfl⟩ := hu; rfl
    case c3 => unfold maxLen; omega
    case c4 => omega
    case c5 => exact Nat.le_refl _
    intro v' w' how hg _ _
    have hB : Below w.heap.size w w' := (Below.refl w.heap.size w).grown hg (Nat.le_refl _) (fun k hk => by cases hk)
    have hvs : ∃ b l c', v' = .slice b l c' := by
      obtain ⟨_, ⟨h0, _⟩ | ⟨g', cap', cur', h0, _⟩⟩ := how
      · exact ⟨_, _, _, h0⟩
      · exact ⟨_, _, _, h0⟩
    obtain ⟨vb, vl, vc, rfl⟩ := hvs
    have HO := Lib.hid how; have HB := Lib.hid hB; clear how hg hB
    go_wp2_with fail
    go_ret
    exact ⟨_, rfl, HO.out, HB.out⟩
end Go.Proofs.YtfgjjdjaiddllaaDoor
