/- Maps from strings as functions: what each key holds. No condition. -/
import Derived.Test.YtjlpdknomdhbhaaGreatDoorMem
import Derived.Test.YtjlpdknomdhbhaaGreatDoorProg
import Derived.WalkKit
import Derived.Maps.OwnSet
import Derived.Maps.RangeWalk
import Derived.StringKeys
namespace Go.Proofs.YtjlpdknomdhbhaaGreatDoor
set_option linter.unusedVariables false
set_option linter.unusedSimpArgs false
open Go Go.RowKit Go.Maps
/-- An element reads as itself. -/
def RV (v : Value) : Option (DataW Value × List MemPlace) := some (.held v, [])
def keyL (k : ByteArray) : Lit := .string k.data.toList
theorem keyL_key (k : ByteArray) : WideAt.IsKeyLit (keyL k) := by unfold keyL WideAt.IsKeyLit; trivial
theorem keyL_ne {k j : ByteArray} (h : k ≠ j) : keyL k ≠ keyL j := by
  intro e
  apply h
  unfold keyL at e
  cases k; cases j
  simp at e
  simpa using e
theorem skeyed : Keyed Tryz.prog 9 := string_keyed Tryz.underlying9
theorem keyOf_str {k : ByteArray} (h : k.size ≤ maxLen) : keyOf Tryz.prog 9 (.string k) = some (keyL k) := WideMaps.keyOf_string_mk Tryz.underlying9 h
theorem keyOf_str_inv {v : Value} {l : Lit} (h : keyOf Tryz.prog 9 v = some l) : ∃ s : ByteArray, v = .string s ∧ l = keyL s ∧ s.size ≤ maxLen := by
  rw [Go.keyOf_string Tryz.underlying9] at h
  cases v <;> simp [mapKey, Tryz.underlying9] at h
  exact ⟨_, rfl, h.2.symm, h.1⟩
def Reads (D : DataW Value) (f : ByteArray → Option Value) : Prop := IsMap D ∧ ∀ k : ByteArray, match f k with
  | some v => has D (keyL k) = true ∧ ∀ z, D.atKey (keyL k) z = .held v
  | none => has D (keyL k) = false
/-- Block b is a map from strings of at most n entries; f says what a key holds. -/
def Smap (w : World) (b n : Nat) (f : ByteArray → Option Value) : Prop := ∃ D, w.ownsMap Tryz.prog 9 RV b n D ∧ Reads D f
def fput (f : ByteArray → Option Value) (k : ByteArray) (v : Value) : ByteArray → Option Value := fun j => if k = j then some v else f j
def fdel (f : ByteArray → Option Value) (k : ByteArray) : ByteArray → Option Value := fun j => if k = j then none else f j
theorem Reads.put {D : DataW Value} {f : ByteArray → Option Value} (h : Reads D f) (k : ByteArray) (v : Value) : Reads (D.put (keyL k) (.held v)) (fput f k v) := by
  refine ⟨h.1.put _ _, fun j => ?_⟩
  unfold fput
  by_cases e : k = j
  · subst e
    rw [if_pos rfl]
    exact ⟨has_put_same h.1 (keyL_key k) _, fun z => atKey_put_same h.1 (keyL_key k) _ z⟩
  · rw [if_neg e]
    have hn : keyL j ≠ keyL k := keyL_ne (Ne.symm e)
    have := h.2 j
    cases hf : f j with
    | none => rw [hf] at this; simp only at this ⊢; rw [has_put_other hn]; exact this
    | some x => rw [hf] at this; simp only at this ⊢; rw [has_put_other hn]; exact ⟨this.1, fun z => by rw [atKey_put_other hn]; exact this.2 z⟩
theorem Reads.del {D : DataW Value} {f : ByteArray → Option Value} (h : Reads D f) (k : ByteArray) : Reads (D.del (keyL k)) (fdel f k) := by
  refine ⟨h.1.del _, fun j => ?_⟩
  unfold fdel
  by_cases e : k = j
  · subst e
    rw [if_pos rfl]
    exact has_del_same
  · rw [if_neg e]
    have hn : keyL j ≠ keyL k := keyL_ne (Ne.symm e)
    have := h.2 j
    cases hf : f j with
    | none => rw [hf] at this; simp only at this ⊢; rw [has_del_other hn]; exact this
    | some x => rw [hf] at this; simp only at this ⊢; rw [has_del_other hn]; exact ⟨this.1, fun z => by rw [atKey_del_other hn]; exact this.2 z⟩
theorem Reads.at {D : DataW Value} {f : ByteArray → Option Value} (h : Reads D f) (k : ByteArray) (z : Value) : D.atKey (keyL k) (.held z) = .held ((f k).getD z) ∧ has D (keyL k) = (f k).isSome := by
  have := h.2 k
  cases hf : f k with
  | none => rw [hf] at this; exact ⟨atKey_of_not_has this _, this⟩
  | some x => rw [hf] at this; exact ⟨this.2 _, this.1⟩
section
variable {w w' : World} {b n : Nat} {f : ByteArray → Option Value}
theorem Smap.made (w : World) : Smap (w.alloc (.map #[] 0)) w.heap.size 0 (fun _ => none) :=
  ⟨_, World.ownsMap_made w _ _ _, isMap_empty, fun k => by show has (.map []) (keyL k) = false; rfl⟩
theorem Smap.lt (h : Smap w b n f) : b < w.heap.size := by obtain ⟨D, h, _⟩ := h; exact h.lt
theorem Smap.keep (h : Smap w b n f) (hk : w'.heap[b]? = w.heap[b]?) : Smap w' b n f := by
  obtain ⟨D, ⟨es, clock, hb, F, hs, hD⟩, hr⟩ := h
  exact ⟨D, ⟨es, clock, by rw [hk]; exact hb, F, hs, hD⟩, hr⟩
theorem Smap.below {B : Nat} (h : Smap w b n f) (hb : Below B w w') (hB : b < B) : Smap w' b n f := h.keep (hb.block b hB)
theorem Smap.mono (h : Smap w b n f) {m : Nat} (hm : n ≤ m) : Smap w b m f := by obtain ⟨D, h, hr⟩ := h; exact ⟨D, h.mono hm, hr⟩
theorem Smap.ne_at {g : Nat} {t : TypeId} {cs : Array Value} (h : Smap w b n f) (ha : At w g t cs) : g ≠ b := by
  rintro rfl
  obtain ⟨D, ⟨es, clock, hb, _⟩, hr⟩ := h
  unfold At at ha
  rw [ha] at hb
  cases hb
variable {ops : Array Oper} {rest : List Oper} {o : Oper} {a : Act} {Q : Exit → Act → World → Prop}
/-- 'v, ok := m[k]' -/
theorem wp_look_ok (hg : o.guard = none) (m x : Operand) (t e : TypeId) (hop : o.op = Op.lookup t m x true) (ht : Tryz.prog.underlying t = some (.map 9 e)) (z : Value) (hz : (zeroValue e).run Tryz.prog w = .ok z w)
    (h : Smap w b n f) (hm : a.eval m = .map (some b)) (k : ByteArray) (hx : a.eval x = .string k) (hk : k.size ≤ maxLen)
    (hK : wpList Tryz.prog ops Q rest (a.put o.dst (.tuple #[(f k).getD z, .bool (f k).isSome])) w) : wpList Tryz.prog ops Q (o :: rest) a w := by
  obtain ⟨D, hD, hr⟩ := h
  refine wpList_lookup_own_ok w hg m x t hop 9 e skeyed ht RV hz (.held z) [] rfl b n D hm hD _ _ hx (keyOf_str hk) fun v ps hv => ?_
  have := hr.at k z
  rw [this.1] at hv
  unfold RV at hv
  simp only [Option.some.injEq, Prod.mk.injEq, DataW.held.injEq] at hv
  rw [hv.1, this.2]
  exact hK
/-- 'm[k]', as an equation on the run. -/
theorem Smap.run_look {t e : TypeId} (ht : Tryz.prog.underlying t = some (.map 9 e)) (z : Value) (hz : (zeroValue e).run Tryz.prog w = .ok z w) (h : Smap w b n f) (k : ByteArray) (hk : k.size ≤ maxLen) :
    (Instr.lookup t (.map (some b)) (.string k) false).run Tryz.prog w = .ok ((f k).getD z) w := by
  obtain ⟨D, hD, hr⟩ := h
  obtain ⟨v, ps, hrun, hv⟩ := hD.lookup skeyed ht hz (R := RV) (zd := .held z) (zp := []) rfl (keyOf_str hk)
  have := hr.at k z
  rw [this.1] at hv
  unfold RV at hv
  simp only [Option.some.injEq, Prod.mk.injEq, DataW.held.injEq] at hv
  rw [hv.1] at hrun
  exact hrun
/-- 'v, ok := m[k]', as an equation on the run. -/
theorem Smap.run_look_ok {t e : TypeId} (ht : Tryz.prog.underlying t = some (.map 9 e)) (z : Value) (hz : (zeroValue e).run Tryz.prog w = .ok z w) (h : Smap w b n f) (k : ByteArray) (hk : k.size ≤ maxLen) :
    (Instr.lookup t (.map (some b)) (.string k) true).run Tryz.prog w = .ok (.tuple #[(f k).getD z, .bool (f k).isSome]) w := by
  obtain ⟨D, hD, hr⟩ := h
  obtain ⟨v, ps, hrun, hv⟩ := hD.look_ok skeyed ht hz (R := RV) (zd := .held z) (zp := []) rfl (keyOf_str hk)
  have := hr.at k z
  rw [this.1] at hv
  unfold RV at hv
  simp only [Option.some.injEq, Prod.mk.injEq, DataW.held.injEq] at hv
  rw [hv.1, this.2] at hrun
  exact hrun
/-- 'delete(m, k)', as an equation on the run. -/
theorem Smap.run_del {t e : TypeId} (ht : Tryz.prog.underlying t = some (.map 9 e)) (h : Smap w b n f) (k : ByteArray) (hk : k.size ≤ maxLen) (ty : TypeId) :
    ∃ w', (Builtin.delete_ #[t, 9] ty #[.map (some b), .string k]).run Tryz.prog w = .ok (.tuple #[]) w' ∧ Smap w' b n (fdel f k) ∧ w.grownBy w' (some b) := by
  obtain ⟨D, hD, hr⟩ := h
  obtain ⟨w', h1, h2, h3⟩ := hD.drop skeyed ht (keyOf_str hk) ty
  exact ⟨w', h1, ⟨_, h2, hr.del k⟩, h3.grown⟩
/-- 'm[k]' -/
theorem wp_look (hg : o.guard = none) (m x : Operand) (t e : TypeId) (hop : o.op = Op.lookup t m x false) (ht : Tryz.prog.underlying t = some (.map 9 e)) (z : Value) (hz : (zeroValue e).run Tryz.prog w = .ok z w)
    (h : Smap w b n f) (hm : a.eval m = .map (some b)) (k : ByteArray) (hx : a.eval x = .string k) (hk : k.size ≤ maxLen)
    (hK : wpList Tryz.prog ops Q rest (a.put o.dst ((f k).getD z)) w) : wpList Tryz.prog ops Q (o :: rest) a w := by
  obtain ⟨D, hD, hr⟩ := h
  refine wpList_plain hg fun K' hK' => ?_
  obtain ⟨v, ps, hrun, hv⟩ := hD.lookup skeyed ht hz (R := RV) (zd := .held z) (zp := []) rfl (keyOf_str hk)
  have := hr.at k z
  rw [this.1] at hv
  unfold RV at hv
  simp only [Option.some.injEq, Prod.mk.injEq, DataW.held.injEq] at hv
  rw [hv.1] at hrun
  unfold Oper.wp
  simp [execOp, hop, hm, hx, hrun, Result.andThen]
  exact hK' _ _ hK
/-- 'm[k] = v' -/
theorem wp_upd (hg : o.guard = none) (m x y : Operand) (t e : TypeId) (hop : o.op = Op.mapUpdate t m x y) (ht : Tryz.prog.underlying t = some (.map 9 e)) (h : Smap w b n f) (hn : n < maxLen) (hm : a.eval m = .map (some b)) (k : ByteArray) (v : Value) (hx : a.eval x = .string k) (hy : a.eval y = v) (hk : k.size ≤ maxLen)
    (hK : ∀ w', Smap w' b (n + 1) (fput f k v) → w.grownBy w' (some b) → wpList Tryz.prog ops Q rest (a.put o.dst undef) w') : wpList Tryz.prog ops Q (o :: rest) a w := by
  obtain ⟨D, hD, hr⟩ := h
  exact wpList_mapUpdate_own w hg m x y t hop 9 e skeyed ht RV b n D hm hD hn _ _ _ hx hy (keyOf_str hk) (.held v) [] rfl fun w' h1 h2 => hK w' ⟨_, h1, hr.put k v⟩ h2
/-- 'delete(m, k)' -/
theorem wp_del (hg : o.guard = none) (m x : Operand) (t e : TypeId) (hop : o.op = Op.call { callee := Callee.builtin Builtin.delete, args := #[m, x], argTypes := #[t, 9] }) (ht : Tryz.prog.underlying t = some (.map 9 e)) (h : Smap w b n f) (hm : a.eval m = .map (some b)) (k : ByteArray) (hx : a.eval x = .string k) (hk : k.size ≤ maxLen)
    (hK : ∀ w', Smap w' b n (fdel f k) → w.grownBy w' (some b) → wpList Tryz.prog ops Q rest (a.put o.dst (.tuple #[])) w') : wpList Tryz.prog ops Q (o :: rest) a w := by
  obtain ⟨D, hD, hr⟩ := h
  exact wpList_delete_own w hg m x t 9 hop e skeyed ht RV b n D hm hD _ _ hx (keyOf_str hk) fun w' h1 h2 => hK w' ⟨_, h1, hr.del k⟩ h2.grown
end
/-- A loop over a map stands: the keys in done have been met. -/
def Srange (w : World) (b r n : Nat) (f : ByteArray → Option Value) (done : List ByteArray) (cnt : Nat) : Prop :=
  ∃ D left, w.ranges Tryz.prog 9 RV b r n D left cnt ∧ Reads D f ∧ (∀ k : ByteArray, left (keyL k) = true ↔ (f k).isSome = true ∧ k ∉ done) ∧ done.Nodup ∧ ∀ k ∈ done, (f k).isSome = true
section
variable {w w' : World} {b r n cnt : Nat} {f : ByteArray → Option Value} {done : List ByteArray}
theorem Srange.map (h : Srange w b r n f done cnt) : Smap w b n f := by obtain ⟨D, left, h, hr, _⟩ := h; exact ⟨D, h.owns, hr⟩
theorem Srange.left_eq (h : Srange w b r n f done cnt) : w.rangeLeft b r = cnt := by obtain ⟨D, left, h, _⟩ := h; exact h.left_eq
theorem Srange.ne (h : Srange w b r n f done cnt) : r ≠ b := by obtain ⟨D, left, h, _⟩ := h; exact h.ne
theorem Srange.lt (h : Srange w b r n f done cnt) : r < w.heap.size := by obtain ⟨D, left, h, _⟩ := h; exact h.lt
theorem Srange.keep (h : Srange w b r n f done cnt) (hb : w'.heap[b]? = w.heap[b]?) (hr : w'.heap[r]? = w.heap[r]?) : Srange w' b r n f done cnt := by
  obtain ⟨D, left, h, hr1, hl⟩ := h
  obtain ⟨es, clock, since, seen, c0, hb', F, hs, hD, hr', rest⟩ := h
  exact ⟨D, left, ⟨es, clock, since, seen, c0, hb.trans hb', F, hs, hD, hr.trans hr', rest⟩, hr1, hl⟩
variable {ops : Array Oper} {rest : List Oper} {o : Oper} {a : Act} {Q : Exit → Act → World → Prop}
/-- 'range m' -/
theorem wp_range (hg : o.guard = none) (m : Operand) (t e : TypeId) (hop : o.op = Op.range t m) (ht : Tryz.prog.underlying t = some (.map 9 e)) (h : Smap w b n f) (hm : a.eval m = .map (some b))
    (hK : ∀ w' cnt, Srange w' b w.heap.size n f [] cnt → cnt ≤ n → w.grownBy w' none → w'.heap.size = w.heap.size + 1 → wpList Tryz.prog ops Q rest (a.put o.dst (.pointer (some ⟨w.heap.size, 0, none⟩))) w') : wpList Tryz.prog ops Q (o :: rest) a w := by
  obtain ⟨D, hD, hr⟩ := h
  refine wpList_range_own w hg m t hop 9 e skeyed ht RV b n D hm hD fun w' h1 h2 h3 => hK w' _ ⟨D, _, h1, hr, fun k => ?_, List.nodup_nil, fun k hk => (by cases hk)⟩ hD.size_le h2 h3
  rw [(hr.at k (.bool true)).2]
  simp
/-- The step of a loop over a map. -/
theorem wp_next (hg : o.guard = none) (it : Operand) (hop : o.op = Op.next it false) (hit : a.eval it = .pointer (some ⟨r, 0, none⟩)) (h : Srange w b r n f done cnt)
    (hDone : (∀ k, (f k).isSome = true ↔ k ∈ done) → wpList Tryz.prog ops Q rest (a.put o.dst (.tuple #[.bool false])) w)
    (hMore : ∀ (k : ByteArray) (v : Value) (w' : World) (cnt' : Nat), k.size ≤ maxLen → f k = some v → k ∉ done → Srange w' b r n f (done ++ [k]) cnt' → cnt' < cnt → w.grownBy w' (some r) → w'.heap.size = w.heap.size →
      (Instr.entry (.pointer (some ⟨r, 0, none⟩))).run Tryz.prog w' = .ok (.tuple #[.string k, v]) w' → wpList Tryz.prog ops Q rest (a.put o.dst (.tuple #[.bool true, .string k, v])) w') : wpList Tryz.prog ops Q (o :: rest) a w := by
  obtain ⟨D, left, hR, hr, hl, hnd, hin⟩ := h
  refine wpList_next_ranges w (α := ByteArray) (β := Value) hg it hop 9 skeyed RV (fun s => .string s) (fun v => v) (fun key kl hk => by obtain ⟨s, rfl, _⟩ := keyOf_str_inv hk; exact ⟨s, rfl⟩) (fun v y hv => ⟨v, rfl⟩) b r n D left cnt hit hR
    (fun _ hall => hDone fun k => ⟨fun hs => ?_, hin k⟩) (fun s v kl y w' cnt' hk hlk hy hat hrg hlt hgr hsz hen => ?_)
  · apply Classical.byContradiction
    intro hn
    have := (hl k).2 ⟨hs, hn⟩
    rw [hall] at this
    cases this
  · obtain ⟨s', e, rfl, hsz'⟩ := keyOf_str_inv hk
    cases e
    unfold RV at hy
    cases hy
    obtain ⟨hs1, hs2⟩ := (hl s).1 hlk
    obtain ⟨u, hu⟩ := Option.isSome_iff_exists.1 hs1
    have e2 := (hr.at s (.bool true)).1
    rw [hat, hu] at e2
    simp only [Option.getD_some, DataW.held.injEq] at e2
    subst e2
    refine hMore s v w' cnt' hsz' hu hs2 ⟨D, _, hrg, hr, fun k => ?_, ?_, fun k hk => ?_⟩ hlt hgr hsz hen
    · simp only [Bool.and_eq_true, Bool.not_eq_true', hl k, List.mem_append, List.mem_singleton, not_or]
      by_cases e : k = s
      · subst e
        have := WideAt.sameKey_self (keyL_key k)
        simp [this]
      · have := sameKey_ne (keyL_ne e)
        simp [this, e]
    · rw [List.nodup_append]
      exact ⟨hnd, by simp, fun a ha b hb => by rw [List.mem_singleton] at hb; rw [hb]; exact fun e => hs2 (e ▸ ha)⟩
    · rcases List.mem_append.1 hk with hk | hk
      · exact hin k hk
      · rw [List.mem_singleton] at hk
        rw [hk]; exact hs1
/-- 'range m', as an equation on the run. -/
theorem Smap.run_range {t e : TypeId} (ht : Tryz.prog.underlying t = some (.map 9 e)) (h : Smap w b n f) :
    ∃ w' cnt, (Instr.range t (.map (some b))).run Tryz.prog w = .ok (.pointer (some ⟨w.heap.size, 0, none⟩)) w' ∧ Srange w' b w.heap.size n f [] cnt ∧ cnt ≤ n ∧ w.grownBy w' none ∧ w'.heap.size = w.heap.size + 1 := by
  obtain ⟨D, hD, hr⟩ := h
  obtain ⟨w', hrun, r1, r2, r3⟩ := hD.range skeyed ht
  refine ⟨w', _, hrun, ⟨D, _, r1, hr, fun k => ?_, List.nodup_nil, fun k hk => (by cases hk)⟩, hD.size_le, r2, r3⟩
  rw [(hr.at k (.bool true)).2]
  simp
/-- The step, as an equation on the run. -/
theorem Srange.run_next (h : Srange w b r n f done cnt) :
    ((∀ k, (f k).isSome = true ↔ k ∈ done) ∧ ∀ ty, (Instr.next (.pointer (some ⟨r, 0, none⟩)) false ty).run Tryz.prog w = .ok (.tuple #[.bool false]) w) ∨
    ∃ (k : ByteArray) (v : Value) (w' : World) (cnt' : Nat), k.size ≤ maxLen ∧ f k = some v ∧ k ∉ done ∧ Srange w' b r n f (done ++ [k]) cnt' ∧ cnt' < cnt ∧ w.grownBy w' (some r) ∧ w'.heap.size = w.heap.size ∧
      (Instr.entry (.pointer (some ⟨r, 0, none⟩))).run Tryz.prog w' = .ok (.tuple #[.string k, v]) w' ∧ (Instr.next (.pointer (some ⟨r, 0, none⟩)) false 0).run Tryz.prog w = .ok (.tuple #[.bool true, .string k, v]) w' := by
  obtain ⟨D, left, hR, hr, hl, hnd, hin⟩ := h
  rcases hR.next skeyed 0 with ⟨hc0, hall, hrun⟩ | ⟨key, v, kl, y, w', cnt', hk, hlk, hy, hat, hrun, hrg, hlt, hgr, hsz, hen⟩
  · refine .inl ⟨fun k => ⟨fun hs => ?_, hin k⟩, fun ty => ?_⟩
    · apply Classical.byContradiction
      intro hn
      have := (hl k).2 ⟨hs, hn⟩
      rw [hall] at this
      cases this
    · rcases hR.next skeyed ty with ⟨_, _, hrun2⟩ | ⟨key, v, kl, y, w', cnt', _, hlk, _⟩
      · exact hrun2
      · rw [hall] at hlk; cases hlk
  · obtain ⟨s, rfl, rfl, hsz'⟩ := keyOf_str_inv hk
    unfold RV at hy
    cases hy
    obtain ⟨hs1, hs2⟩ := (hl s).1 hlk
    obtain ⟨u, hu⟩ := Option.isSome_iff_exists.1 hs1
    have e2 := (hr.at s (.bool true)).1
    rw [hat, hu] at e2
    simp only [Option.getD_some, DataW.held.injEq] at e2
    subst e2
    refine .inr ⟨s, v, w', cnt', hsz', hu, hs2, ⟨D, _, hrg, hr, fun k => ?_, ?_, fun k hk => ?_⟩, hlt, hgr, hsz, hen, hrun⟩
    · simp only [Bool.and_eq_true, Bool.not_eq_true', hl k, List.mem_append, List.mem_singleton, not_or]
      by_cases e : k = s
      · subst e
        have := WideAt.sameKey_self (keyL_key k)
        simp [this]
      · have := sameKey_ne (keyL_ne e)
        simp [this, e]
    · rw [List.nodup_append]
      exact ⟨hnd, by simp, fun a ha b hb => by rw [List.mem_singleton] at hb; rw [hb]; exact fun e => hs2 (e ▸ ha)⟩
    · rcases List.mem_append.1 hk with hk | hk
      · exact hin k hk
      · rw [List.mem_singleton] at hk
        rw [hk]; exact hs1
end
end Go.Proofs.YtjlpdknomdhbhaaGreatDoor
