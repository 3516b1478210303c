/- Slices of strings as they are read. No condition. -/
import Derived.Test.YtjlpdknomdhbhaaGreatDoorProg
import Derived.Test.YtjlpdknomdhbhaaGreatDoorMem
import Derived.Lib.SlBytesRow
namespace Go.Proofs.YtjlpdknomdhbhaaGreatDoor
set_option linter.unusedVariables false
set_option linter.unusedSimpArgs false
open Go Go.RowKit Go.Maps
theorem info_string : (Tryz.prog.info? 9).map (fun i => (i.zero, i.size, i.bytes)) = some (some (.string ⟨#[]⟩), 1, 16) := by kernel_rfl
/-- A slice of strings, as it is read. -/
def StrsC (w : World) (v : Value) (xs : List ByteArray) : Prop :=
  ∃ a c, v = .slice a xs.length c ∧ (xs.length = 0 ∨ ∃ b o, a = some ⟨b, o, none⟩ ∧ ∀ j, j < xs.length → w.cell? ⟨b, o + j, none⟩ = some (.string (xs.getD j ⟨#[]⟩)))
theorem StrsC.own {w : World} {base : Nat} {v : Value} {xs : List ByteArray} (h : w.ownsRow base 9 1 v xs.length (xs.map Value.string)) : StrsC w v xs := by
  by_cases h0 : 0 < xs.length
  · obtain ⟨g, cap, rfl, hc⟩ := own_cell h h0
    refine ⟨_, _, rfl, .inr ⟨g, 0, rfl, fun j hj => ?_⟩⟩
    rw [Nat.zero_add]
    refine hc j _ ?_
    simp [List.getD_eq_getElem?_getD, hj]
  · obtain ⟨_, ⟨rfl, hn⟩ | ⟨g, cap, cur, rfl, _⟩⟩ := h
    · exact ⟨none, 0, by rw [hn], .inl hn⟩
    · exact ⟨_, _, rfl, .inl (by omega)⟩
theorem StrsC.drewN {w : World} {v : Value} {xs : List ByteArray} (h : StrsC w v xs) (q : Nat) : StrsC (w.drewN q) v xs := h
theorem StrsC.below {w w' : World} {v : Value} {xs : List ByteArray} (h : StrsC w v xs) (hb : Below w.heap.size w w') : StrsC w' v xs := by
  obtain ⟨a, c, rfl, h0 | ⟨b, o, rfl, hc⟩⟩ := h
  · exact ⟨_, _, rfl, .inl h0⟩
  · refine ⟨_, _, rfl, .inr ⟨b, o, rfl, fun j hj => ?_⟩⟩
    have := hc j hj
    rw [hb.cell (p := ⟨b, o + j, none⟩) (block_lt this)]
    exact this
/-- A slice of a block of strings. -/
theorem StrsC.block {w : World} {b n : Nat} {t : TypeId} {xs : List ByteArray} (h : At w b t (xs.map Value.string).toArray) (hn : n = xs.length) (c : Nat) : StrsC w (.slice (some ⟨b, 0, none⟩) n c) xs := by
  subst hn
  refine ⟨_, _, rfl, .inr ⟨b, 0, rfl, fun j hj => ?_⟩⟩
  rw [Nat.zero_add, h.cell]
  simp [List.getD_eq_getElem?_getD, hj]
theorem StrsC.len {w : World} {v : Value} {xs : List ByteArray} (h : StrsC w v xs) : ∃ a c, v = .slice a xs.length c := ⟨h.choose, h.choose_spec.choose, h.choose_spec.choose_spec.1⟩
theorem StrsC.cellAt {w : World} {b o n c k : Nat} {xs : List ByteArray} (h : StrsC w (.slice (some ⟨b, o, none⟩) n c) xs) (hk : k < xs.length) : w.cell? ⟨b, o + k, none⟩ = some (.string (xs.getD k ⟨#[]⟩)) := by
  obtain ⟨a', c', he', h0 | ⟨b', o', e', hc'⟩⟩ := h
  · omega
  · cases he'
    cases e'
    exact hc' k hk
theorem StrsC.addrOf {w : World} {a : Option Addr} {n c k : Nat} {xs : List ByteArray} (h : StrsC w (.slice a n c) xs) (hk : k < xs.length) : ∃ b o, a = some ⟨b, o, none⟩ := by
  obtain ⟨a', c', he', h0 | ⟨b', o', e', hc'⟩⟩ := h
  · omega
  · cases he'
    exact ⟨b', o', e'⟩
theorem StrsC.keep {w w' : World} {v : Value} {xs : List ByteArray} (h : StrsC w v xs) (hk : ∀ k, v.ownBlock = some k → k < w.heap.size → w'.heap[k]? = w.heap[k]?) : StrsC w' v xs := by
  obtain ⟨a, c, rfl, h0 | ⟨b, o, rfl, hc⟩⟩ := h
  · exact ⟨_, _, rfl, .inl h0⟩
  · refine ⟨_, _, rfl, .inr ⟨b, o, rfl, fun j hj => ?_⟩⟩
    have h1 := hc j hj
    rw [cell_same (hk b rfl (block_lt h1))]
    exact h1
theorem StrsC.blk {w : World} {v : Value} {xs : List ByteArray} (h : StrsC w v xs) (h0 : 0 < xs.length) : ∀ k, v.ownBlock = some k → k < w.heap.size := by
  intro k hk
  obtain ⟨a, c, rfl, h1 | ⟨b, o, rfl, hc⟩⟩ := h
  · omega
  · cases hk
    exact block_lt (hc 0 h0)
theorem StrsC.empty {w : World} {v : Value} {xs : List ByteArray} (h : StrsC w v xs) (h0 : xs.length = 0) (w' : World) : StrsC w' v xs := by
  obtain ⟨a, c, rfl, _⟩ := h
  exact ⟨_, _, rfl, .inl h0⟩
/-- A slice of strings that came from elsewhere, appended to one's own. -/
theorem wp_append_strs {w : World} {ops : Array Oper} {rest : List Oper} {o : Oper} {a : Act} {Q : Exit → Act → World → Prop} (hgd : o.guard = none) (s x : Operand) (ho : o.op = .call { callee := .builtin .append, args := #[s, x], argTypes := #[22, 22] })
    (base n : Nat) (v : Value) (xs : List Value) (hs : a.eval s = v) (hown : w.ownsRow base 9 1 v n xs) (y : Value) (ys : List ByteArray) (hx : a.eval x = y) (hy : StrsC w y ys) (hn : n + ys.length ≤ 4000000) (hb : base ≤ w.heap.size)
    (h : ∀ v' w', w'.ownsRow base 9 1 v' (n + ys.length) (xs ++ ys.map Value.string) → w.grownBy w' v.ownBlock → wpList Tryz.prog ops Q rest (a.put o.dst v') w') : wpList Tryz.prog ops Q (o :: rest) a w := by
  obtain ⟨i1, hi, hz0, hz1, hz2⟩ := info_parts info_string
  obtain ⟨ya, yc, rfl, hc⟩ := hy
  cases ya with
  | none =>
    have h0 : ys.length = 0 := by
      rcases hc with h0 | ⟨b, o, e, _⟩
      · exact h0
      · cases e
    have hys : ys = [] := List.eq_nil_of_length_eq_zero h0
    subst hys
    refine wpList_plain hgd fun K hK => ?_
    have hrun := run_append_none (P := Tryz.prog) (w := w) base 22 o.type 9 i1 1 Tryz.underlying22 hi v n yc xs hown
    unfold Oper.wp
    have hx' : a.eval x = .slice none 0 yc := hx
    simp [execOp, ho, resolve, invoke, builtin, hs, hx', hrun, Result.andThen]
    exact hK _ _ (h v w (by simpa using hown) ⟨rfl, rfl, rfl, Nat.le_refl _, fun _ _ _ => rfl⟩)
  | some p =>
    refine wpList_append_own w hgd s x 22 ho base 9 i1 (.string ⟨#[]⟩) 1 16 Tryz.underlying22 hi hz0 hz1 hz2 rfl (by omega) v n xs hs hown p ys.length yc (ys.map Value.string) hx (by simp) (fun j u hj => ?_) (fun u hu => by obtain ⟨z, _, rfl⟩ := List.mem_map.1 hu; rfl) (by unfold maxLen; omega) (by omega) hb (fun v' w' h1 h2 _ => h v' w' h1 h2)
    have hjl : j < ys.length := by
      have := (List.getElem?_eq_some_iff.1 hj).1
      simpa using this
    rcases hc with h0 | ⟨b, o', e, hcell⟩
    · omega
    · cases e
      have hadd : (⟨b, o', none⟩ : Addr).add j = ⟨b, o' + j, none⟩ := by unfold Addr.add; split <;> simp_all
      rw [hadd, hcell j hjl]
      simp [List.getElem?_map, hjl] at hj
      rw [← hj]
      simp [List.getD_eq_getElem?_getD, hjl]
set_option maxRecDepth 100000 in
theorem conv_one (w : World) (b : Nat) (x : UInt8) (h : w.cell? ⟨b, 0, none⟩ = some (.int .u8 (x.toNat : Int))) : (convert 45 9 (.slice (some ⟨b, 0, none⟩) 1 1)).run Tryz.prog w = .ok (.string ⟨#[x]⟩) w := by
  have hB : Lib.Bytes w b 0 ⟨#[x]⟩ := by
    intro i hi
    have : i = 0 := by
      have h1 : (⟨#[x]⟩ : ByteArray).size = 1 := rfl
      omega
    subst this
    exact h
  exact Lib.run_convert_whole (P := Tryz.prog) w 45 5 9 rfl rfl rfl _ _ _ hB 1
theorem info_u8 : (Tryz.prog.info? 5).map (fun i => (i.zero, i.size, i.bytes)) = some (some (.int .u8 0), 1, 1) := by kernel_rfl
end Go.Proofs.YtjlpdknomdhbhaaGreatDoor
