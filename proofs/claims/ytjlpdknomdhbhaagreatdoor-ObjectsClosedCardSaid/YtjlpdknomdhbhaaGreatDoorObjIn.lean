/- An object, a string, a slice of files that came in, as the laws read them; the wrap that keeps the laid tables and the world's shape. No condition. -/
import Derived.Test.YtjlpdknomdhbhaaGreatDoorStrsIn
import Derived.Test.YtjlpdknomdhbhaaGreatDoorArcL
import Derived.Test.YtjlpdknomdhbhaaGreatDoorNamL
import Derived.HandedShaped
import Derived.Deep.Strs
import Derived.Deep.SlicePairs
import Derived.ChangeMaps5
import Derived.OpenShut
namespace Go.Proofs.YtjlpdknomdhbhaaGreatDoor
set_option linter.unusedVariables false
set_option linter.unusedSimpArgs false
open Go Go.ChangeShapes Go.WideShapes Go.RowKit Go.Maps
section
variable {H : Type} {enc : TypeId × Value → H}
theorem returnsInHanded_and_shaped {a : Assume} {C : Checked} {os : Os} {f : FuncId} {fn : Func} {s : ChangeSpec} {conds : List PathCond} {apart fresh handsOn again : Bool} {X : World → Array Value → Prop}
    (hX : ∀ (w w' : World) (args : Array Value), w.heap = w'.heap → X w args → X w' args)
    (own : ownKnob C.prog.godebug = none) (started : os.Started) (noInit : C.prog.inits.idxOf? f = none) (hfn : C.prog.funcs[f]? = some fn)
    (witness : ∃ (w : World) (tape : Tape) (i : Input), w.os = os ∧ (w.forCall tape i).Shaped C.prog ∧ i.vars = [] ∧ Input.okWide C.prog (w.forCall tape i) .any w.heap.size f i ∧
      ((s.pre enc C.prog fn conds apart (w.forCall tape i).memory i.args ∧ X (w.forCall tape i).memory i.args) ∧ sizedMet enc C.prog fn (OpenSpec.ofChange s) apart (w.forCall tape i).memory i.args) ∧ a.holds C.prog (lone (Frame.enter C.prog f i.args .normal) [] (w.forCall tape i)))
    (contract : ∀ (W : World) (base : Nat) (args : Array Value) (ds gs : List (DataW H)) (before : List MemPlace),
      (∀ (j : Nat) t v, fn.params[j]? = some t → args[j]? = some v → Value.okWide C.prog W .any base t v) →
      DataW.Whole enc C.prog fn.params.toList s.vars apart W args.toList ds gs before →
      conds.all (PathCond.test C.prog ⟨fn.params.toList, ds, s.plain.varTypes C.prog, gs⟩) = true →
      (DataW.weightsEach C.prog (fn.params.toList ++ s.plain.varTypes C.prog) (ds ++ gs)).all (· ≤ reachBytes) = true → X W args → W.ShapedOpen C.prog →
      a.holds C.prog (lone (Frame.enter C.prog f args .normal) [] W) →
      Calls C.prog f args W fun e W' => ∃ v, e = .returned v ∧ s.post enc C.prog fn apart fresh handsOn again W args v W') :
    ReturnsInHanded a C os f .any (fun w args => (s.pre enc C.prog fn conds apart w args ∧ X w args) ∧ sizedMet enc C.prog fn (OpenSpec.ofChange s) apart w args) (s.post enc C.prog fn apart fresh handsOn again) := by
  refine returnsInHanded_of_calls own started noInit witness ?_
  intro w tape i _ hsh _ hok hpre hholds
  obtain ⟨_, _, _, fn', hfn', _, _, _, _, hval⟩ := hok
  have e : fn' = fn := Option.some.inj (hfn'.symm.trans hfn)
  subst e
  obtain ⟨⟨⟨ds, gs, before, hw, hc⟩, hx⟩, hz⟩ := hpre
  have hw' := DataW.Whole.of_heap (w' := w.forCall tape i) (by rfl) hw
  refine (contract (w.forCall tape i) w.heap.size i.args ds gs before hval hw' hc (hz.weights hw) (hX _ _ _ (by rfl) hx) hsh hholds).mono fun e W' ⟨v, he, hp⟩ => ?_
  subst he
  exact ChangeSpec.post_blind hp
theorem maxL_of {W : World} (h : W.ShapedOpen Tryz.prog) : MaxL W := by
  obtain ⟨m, hm⟩ := Tryz.laysM146.s1_3 W h
  exact ⟨m, hm⟩
set_option maxRecDepth 100000 in
theorem str_in {W : World} {base : Nat} {sp : Nat → Bool} {v : Value} {d : DataW H} {ps : List MemPlace} (hval : Value.okWide Tryz.prog W .any base 9 v) (h : DataW.Trod enc Tryz.prog W 0 sp true 9 v d ps) (hz : (d.weights Tryz.prog 9).all (· ≤ reachBytes) = true) :
    ∃ s : ByteArray, v = .string s ∧ s.size ≤ 140737488355328 := by
  obtain ⟨s, rfl, rfl, _, _⟩ := ChangeMaps.open_string Tryz.underlying9 hval h
  refine ⟨s, rfl, ?_⟩
  simp only [DataW.weights, List.all_cons, List.all_nil, Bool.and_true, decide_eq_true_eq, Array.length_toList] at hz
  unfold reachBytes at hz
  have e : s.size = s.data.size := rfl
  omega
theorem cellsObject : Tryz.prog.cellsOf 24 = 3 := by kernel_rfl
theorem cellsFile : Tryz.prog.cellsOf 41 = 2 := by kernel_rfl
theorem cellsInt : Tryz.prog.cellsOf 3 = 1 := by kernel_rfl
theorem cellsStrs : Tryz.prog.cellsOf 22 = 1 := by kernel_rfl
theorem cellsString : Tryz.prog.cellsOf 9 = 1 := by kernel_rfl
theorem bytesFile : Tryz.prog.bytesOf 41 = 32 := by kernel_rfl
set_option maxRecDepth 100000 in
theorem obj_in {W : World} {base : Nat} {v : Value} {d : DataW H} {ps : List MemPlace} (hval : Value.okWide Tryz.prog W .any base 24 v) (h : DataW.Trod enc Tryz.prog W 0 (fun _ => true) true 24 v d ps) (hz : (d.weights Tryz.prog 24).all (· ≤ reachBytes) = true) :
    ∃ (o : Obj) (u : Value), v = objV o u ∧ StrsC W u o.refs ∧ (∀ z ∈ o.refs, z.size ≤ 140737488355328) ∧ o.refs.length ≤ 140737488355328 ∧ o.data.size ≤ 140737488355328 := by
  obtain ⟨cs, rfl, hs⟩ := okWide_struct Tryz.underlying24 hval
  rw [cellsObject] at hs
  match cs, hs with
  | ⟨[c0, c1, c2]⟩, _ =>
    obtain ⟨n, hy⟩ := h
    obtain ⟨y0, y1, y2, m, he, _, u0, u1, u2⟩ := Deep.trod_struct3 Tryz.underlying24 hy
    simp only [cellsInt, cellsStrs, cellsString, Value.cells, List.drop, List.take] at u0 u1 u2
    obtain ⟨a, ha, rfl, wa⟩ := DataW.trod_int Tryz.underlying3 u0
    obtain ⟨s, hs, rfl, _⟩ := DataW.trod_string Tryz.underlying9 u2
    simp only [List.cons.injEq, and_true] at ha hs
    subst ha; subst hs
    have hd : d = .agg [.lit (.int .i64 a), y1.1, .lit (.string s.data.toList)] := (Prod.mk.inj he).1
    have hw : (DataW.agg [.lit (.int .i64 a), y1.1, .lit (.string s.data.toList)]).weights Tryz.prog 24 = [] ++ (y1.1.weights Tryz.prog 22 ++ ([s.data.toList.length] ++ [])) := by
      simp only [DataW.weights, Tryz.underlying24]
      rfl
    rw [hd, hw] at hz
    simp only [List.nil_append, List.append_nil, List.all_append, List.all_cons, List.all_nil, Bool.and_true, Bool.and_eq_true, decide_eq_true_eq, Array.length_toList] at hz
    obtain ⟨z1, z2⟩ := hz
    unfold reachBytes at z2
    have hsl : ∃ b len cap, c1 = .slice b len cap := by
      rcases open_strings Tryz.underlying22 Tryz.underlying9 (by kernel_rfl) u1 with ⟨h, _⟩ | ⟨b, len, cap, _, h, _⟩
      · exact ⟨none, 0, 0, by simpa using h⟩
      · exact ⟨_, len, cap, by simpa using h⟩
    obtain ⟨b, len, cap, rfl⟩ := hsl
    obtain ⟨xs, h1, h2, h3⟩ := strs_in (W := W) (p := y1.2) ⟨m, u1⟩ z1
    exact ⟨⟨a, xs, s⟩, _, rfl, h1, h2, h3, by show s.data.size ≤ _; omega⟩
theorem weightsAll_mem {P : Program} {e : TypeId} {p : Nat → Bool} : ∀ l : List (DataW H), (DataW.weightsAll P e l).all p = true → ∀ d ∈ l, (d.weights P e).all p = true
  | [], _, _, h => by cases h
  | x :: l, h, d, hd => by
    have e1 : DataW.weightsAll P e (x :: l) = x.weights P e ++ DataW.weightsAll P e l := rfl
    rw [e1, List.all_append, Bool.and_eq_true] at h
    rcases List.mem_cons.1 hd with rfl | hd
    · exact h.1
    · exact weightsAll_mem l h.2 d hd
def strOf : Value → ByteArray
  | .string s => s
  | _ => ⟨#[]⟩
set_option maxRecDepth 100000 in
theorem files_in {W : World} {v : Value} {d : DataW H} {ps : List MemPlace} (h : DataW.Trod enc Tryz.prog W 0 (fun _ => true) true 34 v d ps) (hsl : ∃ b len cap, v = .slice b len cap) (hz : (d.weights Tryz.prog 34).all (· ≤ reachBytes) = true) :
    ∃ l : List FileD, FilesC W v l ∧ (∀ x ∈ l, x.name.size ≤ 140737488355328 ∧ x.data.size ≤ 140737488355328) ∧ l.length ≤ 140737488355328 := by
  obtain ⟨a0, len0, cap0, rfl⟩ := hsl
  obtain ⟨n, hy⟩ := h
  rcases Deep.open_slice_pairs Tryz.underlying34 Tryz.underlying41 cellsFile rfl rfl cellsString cellsString hy with ⟨hcs, _⟩ | ⟨a, len, cap, m, k, V0, V1, D0, D1, P0, P1, hcs, _, hl, _, hm, hx, hc⟩
  · have e : Value.slice a0 len0 cap0 = .slice none 0 0 := by simpa [Value.cells] using hcs
    rw [e]
    exact ⟨[], ⟨none, 0, rfl, .inl rfl⟩, (fun z hz => by cases hz), Nat.zero_le _⟩
  · have e : Value.slice a0 len0 cap0 = .slice (some a) len cap := by simpa [Value.cells] using hcs
    rw [e]
    have hm' : m = cap := by rw [hm]; rfl
    have hd := (Prod.mk.inj hx).1
    rw [hd] at hz
    have hw : (DataW.slice ((List.range len).map fun i => DataW.agg [D0 i, D1 i]) ((List.range (m - len)).map fun j => DataW.agg [D0 (len + j), D1 (len + j)])).weights Tryz.prog 34 =
        (((List.range len).map fun i => DataW.agg [D0 i, D1 i]).length + ((List.range (m - len)).map fun j => DataW.agg [D0 (len + j), D1 (len + j)]).length) * Tryz.prog.bytesOf 41 ::
          (DataW.weightsAll Tryz.prog 41 ((List.range len).map fun i => DataW.agg [D0 i, D1 i]) ++ DataW.weightsAll Tryz.prog 41 ((List.range (m - len)).map fun j => DataW.agg [D0 (len + j), D1 (len + j)])) := by
      simp only [DataW.weights, Tryz.underlying34]
    rw [hw, List.all_cons, List.all_append, Bool.and_eq_true, Bool.and_eq_true, bytesFile] at hz
    obtain ⟨h1, h2, _⟩ := hz
    have h1' := of_decide_eq_true h1
    unfold reachBytes at h1'
    rw [List.length_map, List.length_range] at h1'
    have hstr : ∀ i, i < len → (∃ s, V0 i = .string s ∧ D0 i = .lit (.string s.data.toList)) ∧ ∃ s, V1 i = .string s ∧ D1 i = .lit (.string s.data.toList) := by
      intro i hi
      obtain ⟨_, _, t0, t1⟩ := hc i (by omega)
      obtain ⟨s, hs, hq, _⟩ := DataW.trod_string Tryz.underlying9 t0
      obtain ⟨s', hs', hq', _⟩ := DataW.trod_string Tryz.underlying9 t1
      exact ⟨⟨s, by simpa using hs, (Prod.mk.inj hq).1⟩, s', by simpa using hs', (Prod.mk.inj hq').1⟩
    have hsz : ∀ i, i < len → (strOf (V0 i)).size ≤ 140737488355328 ∧ (strOf (V1 i)).size ≤ 140737488355328 := by
      intro i hi
      obtain ⟨⟨s, e0, q0⟩, s', e1, q1⟩ := hstr i hi
      have := weightsAll_mem _ h2 (.agg [D0 i, D1 i]) (List.mem_map.2 ⟨i, List.mem_range.2 hi, rfl⟩)
      have hw2 : (DataW.agg [DataW.lit (H := H) (.string s.data.toList), .lit (.string s'.data.toList)]).weights Tryz.prog 41 = [s.data.toList.length] ++ ([s'.data.toList.length] ++ []) := by
        simp only [DataW.weights, Tryz.underlying41]
        rfl
      rw [q0, q1, hw2] at this
      simp only [List.append_nil, List.cons_append, List.nil_append, List.all_cons, List.all_nil, Bool.and_true, Bool.and_eq_true, decide_eq_true_eq, Array.length_toList] at this
      unfold reachBytes at this
      rw [e0, e1]
      show s.data.size ≤ _ ∧ s'.data.size ≤ _
      omega
    refine ⟨(List.range len).map fun i => ⟨strOf (V0 i), strOf (V1 i)⟩, ?_, ?_, by rw [List.length_map, List.length_range]; omega⟩
    · have el : ((List.range len).map fun i => (⟨strOf (V0 i), strOf (V1 i)⟩ : FileD)).length = len := by rw [List.length_map, List.length_range]
      refine ⟨_, _, by rw [el], ?_⟩
      by_cases h0 : len = 0
      · exact .inl (by rw [el]; exact h0)
      · obtain ⟨b, o, sp⟩ := a
        have hcell := (hc 0 (by omega)).1
        cases sp with
        | some p =>
          exfalso
          unfold World.cell? Addr.add at hcell
          simp at hcell
          split at hcell <;> simp_all
        | none =>
          refine .inr ⟨b, o, rfl, ?_, ?_⟩
          · have : (⟨b, o, none⟩ : Addr).add (0 * 2) = ⟨b, o, none⟩ := by unfold Addr.add; simp
            rw [this] at hcell
            exact block_lt hcell
          · intro j x hx
            have hj : j < len * 2 := by
              have := (List.getElem?_eq_some_iff.1 hx).1
              rw [fCells_len, el] at this
              exact this
            have hg := fCells_get ((List.range len).map fun i => (⟨strOf (V0 i), strOf (V1 i)⟩ : FileD)) (j / 2) (by rw [el]; omega)
            simp only [List.getElem_map, List.getElem_range] at hg
            obtain ⟨⟨s, e0, _⟩, s', e1, _⟩ := hstr (j / 2) (by omega)
            obtain ⟨k0, k1, _⟩ := hc (j / 2) (by omega)
            rw [e0] at k0 hg
            rw [e1] at k1 hg
            have ad : ∀ q, (⟨b, o, none⟩ : Addr).add q = ⟨b, o + q, none⟩ := fun q => by unfold Addr.add; split <;> simp_all
            rw [ad] at k0 k1
            rcases (by omega : j = j / 2 * 2 ∨ j = j / 2 * 2 + 1) with hj2 | hj2
            · rw [hj2] at hx ⊢
              rw [hg.1] at hx
              cases hx
              exact k0
            · rw [hj2] at hx ⊢
              rw [hg.2] at hx
              cases hx
              exact k1
    · intro x hx
      obtain ⟨i, hi, rfl⟩ := List.mem_map.1 hx
      exact hsz i (List.mem_range.1 hi)
end
end Go.Proofs.YtjlpdknomdhbhaaGreatDoor
