/- A slice of objects that came in, as the laws read it. No condition. -/
import Derived.Test.YtjlpdknomdhbhaaGreatDoorObjIn
import Derived.Test.YtjlpdknomdhbhaaGreatDoorRefFO
namespace Go.Proofs.YtjlpdknomdhbhaaGreatDoor
set_option linter.unusedVariables false
set_option linter.unusedSimpArgs false
open Go Go.ChangeShapes Go.WideShapes Go.RowKit Go.Maps
section
variable {H : Type} {enc : TypeId × Value → H}
set_option maxRecDepth 100000 in
theorem obj_cells {W : World} {n : Nat} {c0 c1 c2 : Value} {x : DataW H × List MemPlace} (hy : DataW.trod enc Tryz.prog W 0 (fun _ => true) true n 24 [c0, c1, c2] = some x) (hz : (x.1.weights Tryz.prog 24).all (· ≤ reachBytes) = true) :
    ∃ o : Obj, c0 = .int .i64 o.kind ∧ c2 = .string o.data ∧ StrsC W c1 o.refs ∧ (∀ z ∈ o.refs, z.size ≤ 140737488355328) ∧ o.refs.length ≤ 140737488355328 ∧ o.data.size ≤ 140737488355328 := by
  obtain ⟨y0, y1, y2, m, he, _, u0, u1, u2⟩ := Deep.trod_struct3 Tryz.underlying24 hy
  simp only [cellsInt, cellsStrs, cellsString, List.drop, List.take] at u0 u1 u2
  obtain ⟨a, ha, rfl, wa⟩ := DataW.trod_int Tryz.underlying3 u0
  obtain ⟨s, hs, rfl, _⟩ := DataW.trod_string Tryz.underlying9 u2
  simp only [List.cons.injEq, and_true] at ha hs
  subst ha; subst hs
  have hd : x.1 = .agg [.lit (.int .i64 a), y1.1, .lit (.string s.data.toList)] := by rw [he]
  have hw : (DataW.agg [.lit (.int .i64 a), y1.1, .lit (.string s.data.toList)]).weights Tryz.prog 24 = [] ++ (y1.1.weights Tryz.prog 22 ++ ([s.data.toList.length] ++ [])) := by
    simp only [DataW.weights, Tryz.underlying24]
    rfl
  rw [hd, hw] at hz
  simp only [List.nil_append, List.append_nil, List.all_append, List.all_cons, List.all_nil, Bool.and_true, Bool.and_eq_true, decide_eq_true_eq, Array.length_toList] at hz
  obtain ⟨z1, z2⟩ := hz
  unfold reachBytes at z2
  have hsl : ∃ b len cap, c1 = .slice b len cap := by
    rcases open_strings Tryz.underlying22 Tryz.underlying9 (by kernel_rfl) u1 with ⟨h, _⟩ | ⟨b, len, cap, _, h, _⟩
    · exact ⟨none, 0, 0, by simpa using h⟩
    · exact ⟨_, len, cap, by simpa using h⟩
  obtain ⟨b, len, cap, rfl⟩ := hsl
  obtain ⟨xs, h1, h2, h3⟩ := strs_in (W := W) (p := y1.2) ⟨m, u1⟩ z1
  exact ⟨⟨a, xs, s⟩, rfl, rfl, h1, h2, h3, by show s.data.size ≤ _; omega⟩
theorem bytesObject : Tryz.prog.bytesOf 24 = 48 := by kernel_rfl
set_option maxRecDepth 100000 in
theorem objs_in {W : World} {v : Value} {d : DataW H} {ps : List MemPlace} (h : DataW.Trod enc Tryz.prog W 0 (fun _ => true) true 44 v d ps) (hsl : ∃ b len cap, v = .slice b len cap) (hz : (d.weights Tryz.prog 44).all (· ≤ reachBytes) = true) :
    ∃ l : List Obj, ObjsC W v l ∧ ObjsR l := by
  obtain ⟨a0, len0, cap0, rfl⟩ := hsl
  obtain ⟨n, hy⟩ := h
  rcases Deep.open_slice Tryz.underlying44 hy with ⟨hcs, _⟩ | ⟨a, len, cap, m, k, D, Pl, hcs, _, hl, _, hm, hx, hc⟩
  · have e : Value.slice a0 len0 cap0 = .slice none 0 0 := by simpa [Value.cells] using hcs
    rw [e]
    exact ⟨[], ⟨none, 0, rfl, .inl rfl⟩, (fun z hz => by cases hz), Nat.zero_le _⟩
  · have e : Value.slice a0 len0 cap0 = .slice (some a) len cap := by simpa [Value.cells] using hcs
    rw [e]
    have hm' : m = cap := by rw [hm]; rfl
    have hd := (Prod.mk.inj hx).1
    rw [hd] at hz
    have hw : (DataW.slice ((List.range len).map D) ((List.range (m - len)).map fun j => D (len + j))).weights Tryz.prog 44 =
        (((List.range len).map D).length + ((List.range (m - len)).map fun j => D (len + j)).length) * Tryz.prog.bytesOf 24 ::
          (DataW.weightsAll Tryz.prog 24 ((List.range len).map D) ++ DataW.weightsAll Tryz.prog 24 ((List.range (m - len)).map fun j => D (len + j))) := by
      simp only [DataW.weights, Tryz.underlying44]
    rw [hw, List.all_cons, List.all_append, Bool.and_eq_true, Bool.and_eq_true, bytesObject] at hz
    obtain ⟨h1, h2, _⟩ := hz
    have h1' := of_decide_eq_true h1
    unfold reachBytes at h1'
    rw [List.length_map, List.length_range] at h1'
    have hobj : ∀ i, i < len → ∃ (o : Obj) (rv : Value), W.cell? (a.add (i * 3)) = some (.int .i64 o.kind) ∧ W.cell? (a.add (i * 3 + 1)) = some rv ∧ W.cell? (a.add (i * 3 + 2)) = some (.string o.data) ∧ StrsC W rv o.refs ∧
        (∀ z ∈ o.refs, z.size ≤ 140737488355328) ∧ o.refs.length ≤ 140737488355328 ∧ o.data.size ≤ 140737488355328 := by
      intro i hi
      obtain ⟨cs', g1, g2⟩ := hc i (by omega)
      rw [cellsObject] at g1
      obtain ⟨_, hlen, hcell⟩ := World.cells?_some g1
      match cs', hlen with
      | [c0, c1, c2], _ =>
        have e0 := hcell 0 (by omega); have e1 := hcell 1 (by omega); have e2 := hcell 2 (by omega)
        rw [Deep.add_add] at e0 e1 e2
        have hzi := weightsAll_mem _ h2 (D i) (List.mem_map.2 ⟨i, List.mem_range.2 hi, rfl⟩)
        obtain ⟨o, rfl, rfl, q1, q2⟩ := obj_cells g2 hzi
        exact ⟨o, c1, by simpa using e0, by simpa using e1, by simpa using e2, q1, q2⟩
    obtain ⟨O, hO⟩ : ∃ O : Nat → Obj, ∀ i, i < len → ∃ rv : Value, W.cell? (a.add (i * 3)) = some (.int .i64 (O i).kind) ∧ W.cell? (a.add (i * 3 + 1)) = some rv ∧ W.cell? (a.add (i * 3 + 2)) = some (.string (O i).data) ∧ StrsC W rv (O i).refs ∧
        (∀ z ∈ (O i).refs, z.size ≤ 140737488355328) ∧ (O i).refs.length ≤ 140737488355328 ∧ (O i).data.size ≤ 140737488355328 := by
      refine ⟨fun i => if h : i < len then (hobj i h).choose else Obj.none, fun i hi => ?_⟩
      simp only [dif_pos hi]
      exact (hobj i hi).choose_spec
    have el : ((List.range len).map O).length = len := by rw [List.length_map, List.length_range]
    refine ⟨(List.range len).map O, ?_, ?_, by rw [el]; omega⟩
    · refine ⟨_, _, by rw [el], ?_⟩
      by_cases h0 : len = 0
      · exact .inl (by rw [el]; exact h0)
      · obtain ⟨b, o, sp⟩ := a
        obtain ⟨rv0, hcell, _⟩ := hO 0 (by omega)
        cases sp with
        | some p =>
          exfalso
          unfold World.cell? Addr.add at hcell
          simp at hcell
          split at hcell <;> simp_all
        | none =>
          have ad : ∀ q, (⟨b, o, none⟩ : Addr).add q = ⟨b, o + q, none⟩ := fun q => by unfold Addr.add; split <;> simp_all
          refine .inr ⟨b, o, rfl, ?_, ?_⟩
          · rw [ad] at hcell
            exact block_lt hcell
          · intro i hi
            rw [el] at hi
            obtain ⟨rv, k0, k1, k2, k3, _⟩ := hO i hi
            rw [ad] at k0 k1 k2
            simp only [List.getElem_map, List.getElem_range]
            exact ⟨rv, k0, k1, k2, k3⟩
    · intro o ho
      obtain ⟨i, hi, rfl⟩ := List.mem_map.1 ho
      obtain ⟨_, _, _, _, _, q⟩ := hO i (List.mem_range.1 hi)
      exact q
end
end Go.Proofs.YtjlpdknomdhbhaaGreatDoor
