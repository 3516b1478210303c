/- Rows of cells that lie in a slice, whatever their element; append of rows from elsewhere to one's own. Condition: at most four million elements. -/
import Derived.Test.YtjlpdknomdhbhaaGreatDoorMem
namespace Go.Proofs.YtjlpdknomdhbhaaGreatDoor
set_option linter.unusedVariables false
set_option linter.unusedSimpArgs false
open Go Go.RowKit Go.Maps
/-- A slice of n elements of `size` cells, as it is read. -/
def RowsC (w : World) (v : Value) (size n : Nat) (xs : List Value) : Prop :=
  xs.length = n * size ∧ ∃ a c, v = .slice a n c ∧ (n = 0 ∨ ∃ b o, a = some ⟨b, o, none⟩ ∧ b < w.heap.size ∧ ∀ (j : Nat) (u : Value), xs[j]? = some u → w.cell? ⟨b, o + j, none⟩ = some u)
theorem RowsC.len {w : World} {v : Value} {size n : Nat} {xs : List Value} (h : RowsC w v size n xs) : ∃ a c, v = .slice a n c := by
  obtain ⟨_, a, c, h, _⟩ := h
  exact ⟨a, c, h⟩
theorem RowsC.own {w : World} {base size n : Nat} {e : TypeId} {v : Value} {xs : List Value} (h : w.ownsRow base e size v n xs) : RowsC w v size n xs := by
  obtain ⟨hl, ⟨rfl, rfl⟩ | ⟨g, cap, cur, rfl, _, hg, hnc, _, hsz, ht⟩⟩ := h
  · exact ⟨hl, none, 0, rfl, .inl rfl⟩
  · refine ⟨hl, _, cap, rfl, .inr ⟨g, 0, rfl, (Array.getElem?_eq_some_iff.1 hg).1, fun j u hj => ?_⟩⟩
    rw [← ht, List.getElem?_take] at hj
    split at hj
    · unfold World.cell?
      rw [hg]
      simpa using hj
    · cases hj
theorem RowsC.keep {w w' : World} {v : Value} {size n : Nat} {xs : List Value} (h : RowsC w v size n xs) (hs : w.heap.size ≤ w'.heap.size) (hk : ∀ k, v.ownBlock = some k → k < w.heap.size → w'.heap[k]? = w.heap[k]?) : RowsC w' v size n xs := by
  obtain ⟨hl, a, c, rfl, h0 | ⟨b, o, rfl, hb, hc⟩⟩ := h
  · exact ⟨hl, a, c, rfl, .inl h0⟩
  · refine ⟨hl, _, c, rfl, .inr ⟨b, o, rfl, Nat.lt_of_lt_of_le hb hs, fun j u hj => ?_⟩⟩
    rw [cell_same (hk b rfl hb)]
    exact hc j u hj
theorem RowsC.below {w w' : World} {v : Value} {size n : Nat} {xs : List Value} (h : RowsC w v size n xs) (hb : Below w.heap.size w w') : RowsC w' v size n xs :=
  h.keep hb.size fun k _ hl => hb.block k hl
theorem RowsC.nil {w : World} {size : Nat} (c : Nat) (a : Option Addr) : RowsC w (.slice a 0 c) size 0 [] := ⟨by simp, a, c, rfl, .inl rfl⟩
theorem RowsC.zero {w : World} {size m : Nat} (h : m = 0) (c : Nat) (a : Option Addr) : RowsC w (.slice a m c) size m [] := by subst h; exact RowsC.nil c a
/-- The first m of the elements. -/
theorem RowsC.first {w : World} {a : Option Addr} {c c' size n m : Nat} {xs : List Value} (h : RowsC w (.slice a n c) size n xs) (hm : m ≤ n) : RowsC w (.slice a m c') size m (xs.take (m * size)) := by
  obtain ⟨hl, a', c2, he, h⟩ := h
  cases he
  refine ⟨by rw [List.length_take, hl]; exact Nat.min_eq_left (Nat.mul_le_mul_right _ hm), a, c', rfl, ?_⟩
  rcases h with h0 | ⟨b, o, rfl, hb, hc⟩
  · exact .inl (by omega)
  · refine .inr ⟨b, o, rfl, hb, fun j u hj => hc j u ?_⟩
    rw [List.getElem?_take] at hj
    split at hj
    · exact hj
    · cases hj
/-- The elements behind the first m. -/
theorem RowsC.rest {w : World} {b o c c' size n m : Nat} {xs : List Value} (h : RowsC w (.slice (some ⟨b, o, none⟩) n c) size n xs) (hm : m ≤ n) : RowsC w (.slice (some ⟨b, o + m * size, none⟩) (n - m) c') size (n - m) (xs.drop (m * size)) := by
  obtain ⟨hl, a', c2, he, h⟩ := h
  cases he
  refine ⟨by rw [List.length_drop, hl, Nat.sub_mul], _, c', rfl, ?_⟩
  rcases h with h0 | ⟨b', o', e, hb, hc⟩
  · exact .inl (by omega)
  · cases e
    refine .inr ⟨b, _, rfl, hb, fun j u hj => ?_⟩
    rw [List.getElem?_drop] at hj
    rw [Nat.add_assoc]
    exact hc _ _ hj
theorem own_below {w w' : World} {base size n : Nat} {e : TypeId} {v : Value} {xs : List Value} (h : w.ownsRow base e size v n xs) (hb : Below w.heap.size w w') : w'.ownsRow base e size v n xs :=
  own_keep h fun k hk => hb.block k (by obtain ⟨cur, hc⟩ := own_at h hk; exact hc.lt)
theorem own_dis {w : World} {b b' size size' n m : Nat} {e e' : TypeId} {v u : Value} {xs ys : List Value} (h : w.ownsRow b e size v n xs) (h' : w.ownsRow b' e' size' u m ys) (he : e ≠ e') : ∀ k, v.ownBlock = some k → u.ownBlock ≠ some k := by
  intro k hk hu
  obtain ⟨c, hc⟩ := own_at h hk
  obtain ⟨c', hc'⟩ := own_at h' hu
  exact hc.ne hc' he rfl
/-- What a type of elements is. -/
structure ElemOf (P : Program) (t e : TypeId) (size bytes : Nat) where
  i : TypeInfo
  z : Value
  under : P.underlying t = some (.slice e)
  info : P.info? e = some i
  zero : i.zero = some z
  size_ : i.size = size
  bytes_ : i.bytes = bytes
  zsize : z.cells.size = size
  pos : 0 < size
theorem elemOf_mk {P : Program} {t e : TypeId} {z : Value} {size bytes : Nat} (h : P.underlying t = some (.slice e)) (hi : (P.info? e).map (fun i => (i.zero, i.size, i.bytes)) = some (some z, size, bytes)) (hz : z.cells.size = size) (hp : 0 < size) : Nonempty (ElemOf P t e size bytes) := by
  obtain ⟨i, h1, h2, h3, h4⟩ := info_parts hi
  exact ⟨⟨i, z, h, h1, h2, h3, h4, hz, hp⟩⟩
section
variable {P : Program} {w : World} {ops : Array Oper} {rest : List Oper} {o : Oper} {a : Act} {Q : Exit → Act → World → Prop}
/-- append(v, y...): rows that came from elsewhere, appended to one's own. -/
theorem wp_append_rows {t e : TypeId} {size bytes : Nat} (T : Nonempty (ElemOf P t e size bytes)) (hgd : o.guard = none) (s x : Operand) (ho : o.op = .call { callee := .builtin .append, args := #[s, x], argTypes := #[t, t] })
    (base n : Nat) (v : Value) (xs : List Value) (hs : a.eval s = v) (hown : w.ownsRow base e size v n xs) (y : Value) (m : Nat) (ys : List Value) (hx : a.eval x = y) (hy : RowsC w y size m ys) (h1 : ∀ u ∈ ys, u.oneCell' = true) (hn : n + m ≤ 4000000) (hbs : bytes ≤ 1000) (hb : base ≤ w.heap.size)
    (h : ∀ v' w', w'.ownsRow base e size v' (n + m) (xs ++ ys) → w.grownBy w' v.ownBlock → (v'.ownBlock = v.ownBlock ∨ v'.ownBlock = some w.heap.size) → wpList P ops Q rest (a.put o.dst v') w') : wpList P ops Q (o :: rest) a w := by
  obtain ⟨T⟩ := T
  obtain ⟨hl, ya, yc, rfl, hc⟩ := hy
  cases ya with
  | none =>
    have h0 : m = 0 := by
      rcases hc with h0 | ⟨b, o, e, _⟩
      · exact h0
      · cases e
    subst h0
    have hys : ys = [] := List.eq_nil_of_length_eq_zero (by rw [hl]; exact Nat.zero_mul _)
    subst hys
    refine wpList_plain hgd fun K hK => ?_
    have hrun := run_append_none (P := P) (w := w) base t o.type e T.i size T.under T.info v n yc xs hown
    unfold Oper.wp
    have hx' : a.eval x = .slice none 0 yc := hx
    simp [execOp, ho, resolve, invoke, builtin, hs, hx', hrun, Result.andThen]
    exact hK _ _ (h v w (by simpa using hown) ⟨rfl, rfl, rfl, Nat.le_refl _, fun _ _ _ => rfl⟩ (.inl rfl))
  | some p =>
    refine wpList_append_own_at w hgd s x t ho base e T.i T.z size bytes T.under T.info T.zero T.size_ T.bytes_ T.zsize T.pos v n xs hs hown p m yc ys hx hl (fun j u hj => ?_) h1 (by unfold maxLen; omega) (by have := Nat.mul_le_mul hn hbs; omega) hb (fun v' w' h1 h2 _ h4 => h v' w' h1 h2 h4)
    rcases hc with h0 | ⟨b, o', e, hb', hcell⟩
    · subst h0
      rw [Nat.zero_mul] at hl
      rw [List.eq_nil_of_length_eq_zero hl] at hj
      simp at hj
    · cases e
      have hadd : (⟨b, o', none⟩ : Addr).add j = ⟨b, o' + j, none⟩ := by unfold Addr.add; split <;> simp_all
      rw [hadd]
      exact hcell j u hj
end
/-- A new row without elements, and one of the cells that were just laid. -/
theorem own_new0 (w : World) (e : TypeId) (size base : Nat) (hb : base ≤ w.heap.size) : (w.alloc (.cells #[] e)).ownsRow base e size (.slice (some ⟨w.heap.size, 0, none⟩) 0 0) 0 [] := by
  refine ⟨by simp, .inr ⟨w.heap.size, 0, #[], rfl, hb, At.new w e #[], Nat.le_refl _, by unfold maxLen; omega, by simp, by simp⟩⟩
theorem own_new1 (w : World) (x : Obj) (e : TypeId) (size base : Nat) (hb : base ≤ w.heap.size) : ((w.alloc x).alloc (.cells #[] e)).ownsRow base e size (.slice (some ⟨w.heap.size + 1, 0, none⟩) 0 0) 0 [] := by
  have := own_new0 (w.alloc x) e size base (by simp; omega)
  rwa [World.size_alloc] at this
theorem rows_new (w : World) (e : TypeId) (cs : Array Value) (size n c : Nat) (hs : cs.size = n * size) : RowsC (w.alloc (.cells cs e)) (.slice (some ⟨w.heap.size, 0, none⟩) n c) size n cs.toList := by
  refine ⟨by simpa using hs, _, _, rfl, .inr ⟨w.heap.size, 0, rfl, by simp, fun j u hj => ?_⟩⟩
  have h := At.new w e cs
  rw [Nat.zero_add]
  unfold World.cell?
  have h' : (w.alloc (.cells cs e)).heap[w.heap.size]? = some (.cells cs e (0, 0)) := h
  rw [h']
  simpa using hj
theorem rows_new1 (w : World) (x : Obj) (e : TypeId) (cs : Array Value) (size n c : Nat) (hs : cs.size = n * size) : RowsC ((w.alloc x).alloc (.cells cs e)) (.slice (some ⟨w.heap.size + 1, 0, none⟩) n c) size n cs.toList := by
  have := rows_new (w.alloc x) e cs size n c hs
  rwa [World.size_alloc] at this
end Go.Proofs.YtjlpdknomdhbhaaGreatDoor
