/- A buffer of bytes that begins as a string's bytes: the conversion, an append of one byte, the conversion back. Conditions: the lengths lie in reach. -/
import Derived.Test.YtjlpdknomdhbhaaGreatDoorRefA
import Derived.Laws.BytesArg
import Derived.Laws.AppendOwn
import Derived.Deep.AppendSrc
import Derived.Lib.ConvBytes
namespace Go.Proofs.YtjlpdknomdhbhaaGreatDoor
set_option linter.unusedVariables false
set_option linter.unusedSimpArgs false
open Go Go.RowKit
def BufAt (w : World) (base : Nat) (v : Value) (xs : List Value) : Prop :=
  ∃ g cap cur fz, v = .slice (some ⟨g, 0, none⟩) xs.length cap ∧ base ≤ g ∧ w.heap[g]? = some (.cells cur 5 fz) ∧ (fz.2 = 0 ∨ cur.size ≤ fz.1) ∧ cur.size = cap ∧ xs.length ≤ cap ∧ cap ≤ maxLen ∧ cur.toList.take xs.length = xs
theorem heap_set_any {w : World} {b i : Nat} {cs : Array Value} {T : TypeId} {fr : Nat × Nat} (hb : w.heap[b]? = some (.cells cs T fr)) (v : Value) : (w.setCell ⟨b, i, none⟩ v).heap[b]? = some (.cells (cs.setIfInBounds i v) T fr) := by
  simp [World.setCell, Array.getElem?_modify, hb]
theorem info_bb : (Tryz.prog.info? 5).map (fun i => (i.zero, i.size, i.bytes)) = some (some (.int .u8 0), 1, 1) := by kernel_rfl
theorem BufAt.below {w w' : World} {base : Nat} {v : Value} {xs : List Value} (h : BufAt w base v xs) (hb : Below w.heap.size w w') : BufAt w' base v xs := by
  obtain ⟨g, cap, cur, fz, rfl, h1, h2, h3⟩ := h
  exact ⟨g, cap, cur, fz, rfl, h1, (hb.block g (Array.getElem?_eq_some_iff.1 h2).1).trans h2, h3⟩
theorem BufAt.drew {w : World} {base : Nat} {v : Value} {xs : List Value} (h : BufAt w base v xs) : BufAt w.drew base v xs := h
theorem BufAt.len {w : World} {base : Nat} {v : Value} {xs : List Value} (h : BufAt w base v xs) : ∃ g cap, v = .slice (some ⟨g, 0, none⟩) xs.length cap := by
  obtain ⟨g, cap, _, _, rfl, _⟩ := h
  exact ⟨g, cap, rfl⟩
theorem BufAt.below_grown {w0 w w' : World} {base : Nat} {v : Value} {xs : List Value} (h : BufAt w base v xs) (hb : Below base w0 w) (hB : base ≤ w.heap.size) {w1 : World} (hw : Below base w0 w1) (hB1 : base ≤ w1.heap.size) (hg : w1.grownBy w' v.ownBlock) : Below base w0 w' := by
  refine hw.grown hg hB1 fun k hk => ?_
  obtain ⟨g, cap, cur, fz, rfl, h1, _⟩ := h
  simp [Value.ownBlock] at hk
  omega
theorem run_append_buf {w : World} {base : Nat} {v : Value} {xs : List Value} (h : BufAt w base v xs) (t ty : TypeId) (ht : Tryz.prog.underlying t = some (.slice 5)) (a : Addr) (c : Nat) (u : Value) (hu : w.cell? (a.add 0) = some u) (h1 : u.oneCell' = true)
    (hlen : xs.length + 1 ≤ 140737488355328) (hb : base ≤ w.heap.size) :
    ∃ v' w', (Builtin.append_ #[t, t] ty #[v, .slice (some a) 1 c]).run Tryz.prog w = .ok v' w' ∧ BufAt w' base v' (xs ++ [u]) ∧ w.grownBy w' v.ownBlock := by
  obtain ⟨i, hi, hz0, hz1, hz2⟩ := info_parts info_bb
  obtain ⟨g, cap, cur, fz, rfl, hbg, hg, hfz, hcs, hle, hcm, htake⟩ := h
  have hnews : ∀ j (x : Value), [u][j]? = some x → w.cell? (a.add j) = some x := by
    intro j x hj
    match j, hj with
    | 0, hj => simp at hj; subst hj; exact hu
  have hone : ∀ x ∈ [u], x.oneCell' = true := by intro x hx; simp at hx; subst hx; exact h1
  by_cases hroom : xs.length + 1 ≤ cap
  · have hlt : xs.length < cur.size := by omega
    have hr := run_append_room_src (P := Tryz.prog) (w := w) t t ty 5 i ht hi g 0 xs.length cap (.slice (some a) 1 c) 1 [u] (Src.ofSlice w ht a 1 c [u] (by rw [hz1]; rfl) hnews hone) hroom
      (fun j hj => by
        obtain rfl : j = 0 := by simpa using hj
        rw [hz1]
        simp [World.cell?, hg, hlt])
      (fun j hj => by
        obtain rfl : j = 0 := by simpa using hj
        rw [hz1]
        obtain ⟨lo, hi'⟩ := fz
        simp only at hfz
        simp only [World.frozen?, hg, Bool.and_eq_false_iff, decide_eq_false_iff_not]
        omega)
    rw [hz1, Nat.zero_add, Nat.mul_one] at hr
    have e : w.setCells g xs.length [u] = w.setCell ⟨g, xs.length, none⟩ u := rfl
    rw [e] at hr
    refine ⟨_, _, hr, ⟨g, cap, cur.setIfInBounds xs.length u, fz, by rw [List.length_append]; rfl, hbg, heap_set_any hg u, by simpa using hfz, by simpa using hcs, by simpa using hroom, hcm, ?_⟩, ⟨rfl, rfl, rfl, by simp, fun k _ hk => heap_setCell_other w _ k u (fun e => hk (by simp [Value.ownBlock, e]))⟩⟩
    rw [List.length_append, Array.toList_setIfInBounds, List.length_singleton, List.take_succ_eq_append_getElem (by simpa using hlt), List.take_set_of_le (by omega), htake]
    simp
  · have holds : ∀ j x, xs[j]? = some x → w.cell? ((⟨g, 0, none⟩ : Addr).add j) = some x := by
      intro j x hj
      have hadd : (⟨g, 0, none⟩ : Addr).add j = ⟨g, j, none⟩ := by unfold Addr.add; split <;> simp_all
      rw [hadd, cell_of_row w g j cur 5 fz hg, ← Array.getElem?_toList]
      rw [← htake, List.getElem?_take] at hj
      split at hj
      · exact hj
      · cases hj
    have hr := run_append_grow (P := Tryz.prog) w t ty 5 i (.int .u8 0) ht hi hz0 ⟨g, 0, none⟩ xs.length cap xs (by rw [hz1, Nat.mul_one]) holds a 1 c [u] (by rw [hz1]; rfl) hnews (by omega) (by omega) (growslice_fits (by omega) (by rw [hz2]; omega))
    have hge := grownCap_ge w (xs.length + 1) cap 5
    have hcm2 : grownCap w (xs.length + 1) cap 5 ≤ maxLen := grownCap_le_maxLen w (xs.length + 1) cap 5 (by unfold maxLen; omega)
    refine ⟨_, _, hr, ⟨w.heap.size, _, _, (0, 0), by rw [List.length_append]; rfl, hb, heap_alloc_new w.drew _, .inl rfl, ?_, by simpa using hge, hcm2, ?_⟩, ⟨rfl, rfl, rfl, by simp, fun k hk _ => heap_alloc_old w.drew _ hk⟩⟩
    · simp [size_zeroCells, Value.cells]
      omega
    · simp only [Array.toList_append, List.append_assoc]
      rw [← List.append_assoc]
      exact List.take_left
theorem wpList_append_buf {w : World} {ops : Array Oper} {rest : List Oper} {o : Oper} {a : Act} {Q : Exit → Act → World → Prop} (hgd : o.guard = none) (s x : Operand) (t : TypeId)
    (ho : o.op = .call { callee := .builtin .append, args := #[s, x], argTypes := #[t, t] }) (ht : Tryz.prog.underlying t = some (.slice 5)) (base : Nat) (v : Value) (xs : List Value) (hs : a.eval s = v) (h : BufAt w base v xs)
    (ad : Addr) (c : Nat) (u : Value) (hx : a.eval x = .slice (some ad) 1 c) (hu : w.cell? (ad.add 0) = some u) (h1 : u.oneCell' = true) (hlen : xs.length + 1 ≤ 140737488355328) (hb : base ≤ w.heap.size)
    (hK : ∀ v' w', BufAt w' base v' (xs ++ [u]) → w.grownBy w' v.ownBlock → wpList Tryz.prog ops Q rest (a.put o.dst v') w') : wpList Tryz.prog ops Q (o :: rest) a w := by
  refine wpList_plain hgd fun K hK' => ?_
  obtain ⟨v', w', hr, h2, h3⟩ := run_append_buf h t o.type ht ad c u hu h1 hlen hb
  unfold Oper.wp execOp
  simp only [ho, resolve, invoke, builtin, Sem.run_bind, Sem.run_pure, Result.andThen_ok, List.map_toArray, List.map_cons, List.map_nil, hs, hx, hr]
  exact hK' _ _ (hK v' w' h2 h3)
/-- The bytes of a string, as cells. -/
def strVals (s : ByteArray) : List Value := s.data.toList.map fun b => Value.int .u8 b.toNat
theorem strVals_len (s : ByteArray) : (strVals s).length = s.size := by
  unfold strVals
  rw [List.length_map, Array.length_toList]
  rfl
theorem buf_start (w : World) (s : ByteArray) (hs : s.size ≤ 140737488355328) : BufAt (Lib.bytesWorld w 5 s) w.heap.size (.slice (some ⟨w.heap.size, 0, none⟩) s.size (grownCap w s.size 0 5)) (strVals s) ∧ Below w.heap.size w (Lib.bytesWorld w 5 s) := by
  have hge := grownCap_ge w s.size 0 5
  have hcm : grownCap w s.size 0 5 ≤ maxLen := grownCap_le_maxLen w s.size 0 5 (by unfold maxLen; omega)
  have hsz : (Lib.bytesCells w 5 s).size = grownCap w s.size 0 5 := by
    unfold Lib.bytesCells
    rw [Array.size_append, Array.size_map, Array.size_replicate]
    show s.size + _ = _
    omega
  refine ⟨⟨w.heap.size, _, _, _, by rw [strVals_len], Nat.le_refl _, Lib.bytesWorld_at_new w 5 s, .inr (Nat.le_refl _), hsz, by rw [strVals_len]; exact hge, hcm, ?_⟩, ⟨rfl, rfl, rfl, by rw [Lib.bytesWorld_size]; omega, fun k hk => Lib.bytesWorld_at_old w 5 s k hk⟩⟩
  unfold Lib.bytesCells
  rw [Array.toList_append, Array.toList_map]
  exact List.take_left' (by rw [strVals_len, List.length_map, Array.length_toList]; rfl)
end Go.Proofs.YtjlpdknomdhbhaaGreatDoor
