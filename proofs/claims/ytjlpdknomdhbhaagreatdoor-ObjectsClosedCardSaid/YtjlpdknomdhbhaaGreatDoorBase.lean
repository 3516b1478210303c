/- Small laws on memory that all walks of this seat use: a block known whole, whole arrays stored and loaded, frames by sets of blocks. No condition. -/
import Derived.WalkKit
import Derived.WalkSpells
import Derived.WalkLawsBesides
import Derived.Deep.Draws
import Derived.Deep.AppendLies
import Derived.Maps.AppendAt
import Derived.Lib.Hide
namespace Go.Proofs.YtjlpdknomdhbhaaGreatDoor
set_option linter.unusedVariables false
set_option linter.unusedSimpArgs false
open Go Go.RowKit

/-- An operation without a guard whose run is known. -/
theorem wpList_run {P : Program} {ops : Array Oper} {Q : Exit → Act → World → Prop} {a : Act} {w w' : World} {rest : List Oper} {o : Oper} {v : Value} (hg : o.guard = none)
    (hr : (execOp a.eval o).run P w = .ok (.value v) w') (h : wpList P ops Q rest (a.put o.dst v) w') : wpList P ops Q (o :: rest) a w :=
  wpList_plain hg fun K hK => by
    unfold Oper.wp
    rw [hr]
    exact hK _ _ h

theorem wpList_same {P : Program} {ops : Array Oper} {Q : Exit → Act → World → Prop} {a : Act} {w : World} {rest : List Oper} {o : Oper} (v : Value) (hg : o.guard = none)
    (hr : (execOp a.eval o).run P w = .ok (.value v) w) (h : wpList P ops Q rest (a.put o.dst v) w) : wpList P ops Q (o :: rest) a w := wpList_run hg hr h

/-- An array by value, read within its bounds. -/
theorem run_index_array_in {P : Program} (t e : TypeId) (n : Nat) (cs : Array Value) (k : IntKind) (i : Nat) (v : Value) (w : World) (h : P.underlying t = some (.array n e)) (hi : i < n) (hv : cs[i]? = some v) (hs : ∀ w, (sizeOf e).run P w = .ok 1 w) (ha : ∀ w, (isAgg e).run P w = .ok false w) :
    (Instr.index t (.agg cs) (.int k i)).run P w = .ok v w := by
  simp [Instr.index, run_underlying h, asIntOf, hi, hv, hs, ha, go_sem]

/-- Block b is just these cells, none frozen. -/
def At (w : World) (b : Nat) (t : TypeId) (cs : Array Value) : Prop := w.heap[b]? = some (.cells cs t (0, 0))

section
variable {w w' : World} {b : Nat} {t : TypeId} {cs : Array Value}
theorem At.lt (h : At w b t cs) : b < w.heap.size := lt_of_block h
theorem At.cell (h : At w b t cs) (i : Nat) : w.cell? ⟨b, i, none⟩ = cs[i]? := cell_of_row w b i cs t (0, 0) h
theorem At.free (h : At w b t cs) (i : Nat) : w.frozen? ⟨b, i, none⟩ = false := frozen_of_row w b i cs t h
theorem At.new (w : World) (t : TypeId) (cs : Array Value) : At (w.alloc (.cells cs t)) w.heap.size t cs := heap_alloc_new w _
theorem At.alloc (h : At w b t cs) (o : Obj) : At (w.alloc o) b t cs := (Below.heap_alloc w o b h.lt).trans h
theorem At.drewN (h : At w b t cs) (n : Nat) : At (w.drewN n) b t cs := h
theorem At.drew (h : At w b t cs) : At w.drew b t cs := h
theorem At.set (h : At w b t cs) (i : Nat) (u : Value) : At (w.setCell ⟨b, i, none⟩ u) b t (cs.setIfInBounds i u) := heap_setCell_same w b i cs t u h
theorem At.far (h : At w b t cs) {p : Addr} (hp : b ≠ p.block) (u : Value) : At (w.setCell p u) b t cs := (heap_setCell_other w p b u hp).trans h
theorem At.keep (h : At w b t cs) (hk : w'.heap[b]? = w.heap[b]?) : At w' b t cs := hk.trans h
theorem At.below {B : Nat} (h : At w b t cs) (hb : Below B w w') (hlt : b < B) : At w' b t cs := (hb.block b hlt).trans h
theorem At.grown {row : Option Nat} (h : At w b t cs) (hg : w.grownBy w' row) (hr : some b ≠ row) : At w' b t cs := (hg.block b h.lt hr).trans h
end

theorem setRow_alloc (w : World) (z cs : Array Value) (t : TypeId) : (w.alloc (.cells z t)).setRow w.heap.size cs = w.alloc (.cells cs t) := by
  cases w with
  | mk heap tape drawn os output =>
    simp only [World.setRow, World.alloc]
    congr 1
    apply Array.ext
    · simp
    · intro k h1 h2
      simp only [Array.size_modify, Array.size_push] at h1 h2
      by_cases hk : k = heap.size
      · subst hk; simp [Array.getElem_modify]
      · have : k < heap.size := by omega
        simp [Array.getElem_modify, Array.getElem_push, this, hk, Ne.symm hk]

theorem run_store_row {P : Program} (w : World) (b : Nat) (t ty : TypeId) (cur cs : Array Value) (hg : At w b t cur) (hs : cur.size = cs.size) (hi : (P.info? ty).map (·.size) = some cs.size) (h1 : ∀ v ∈ cs.toList, v.oneCell' = true) :
    (Instr.storeAt ty (.pointer (some ⟨b, 0, none⟩)) (.agg cs)).run P w = .ok () (w.setRow b cs) := by
  have h := run_storeCells_at P b 0 t cs.toList 0 cur w hg (by simp [hs]) h1
  have hd : cur.toList.drop cs.size = [] := by rw [List.drop_eq_nil_iff]; simp [hs]
  simp only [Nat.zero_add, List.take_zero, List.nil_append, Array.length_toList, hd, List.append_nil, Array.toArray_toList] at h
  cases hq : P.info? ty with
  | none => simp [hq] at hi
  | some i =>
    have hsz : cs.size = i.size := by simp [hq] at hi; omega
    simp [Instr.storeAt, Instr.sureAddr, storeVar, sizeOf, typeInfo, hq, Value.cells, hsz, h]

/-- A new variable of an array's or a struct's type, its zero value under a name. -/
theorem wpList_alloc_row {P : Program} {ops : Array Oper} {rest : List Oper} {op : Oper} {a : Act} {w : World} {Q : Exit → Act → World → Prop} (hgd : op.guard = none) (e : TypeId) (ho : op.op = .alloc e) (z : Array Value)
    (hz : (P.info? e).map (·.zero) = some (some (.agg z))) (h : wpList P ops Q rest (a.put op.dst (.pointer (some ⟨w.heap.size, 0, none⟩))) (w.alloc (.cells z e))) : wpList P ops Q (op :: rest) a w :=
  wpList_run (w' := w.alloc (.cells z e)) (v := .pointer (some ⟨w.heap.size, 0, none⟩)) hgd (by
    cases hq : P.info? e with
    | none => simp [hq] at hz
    | some i =>
      rw [hq] at hz
      have hz' : i.zero = some (.agg z) := by simpa using hz
      unfold execOp
      simp [ho, Instr.alloc, zeroValue, typeInfo, hq, hz', newVar, newRow, newObj, Value.cells]; rfl) h

/-- A whole array or struct stored into a block that holds nothing else. -/
theorem wpList_store_row {P : Program} {ops : Array Oper} {rest : List Oper} {op : Oper} {a : Act} {w : World} {Q : Exit → Act → World → Prop} (hgd : op.guard = none) (ty : TypeId) (x y : Operand) (ho : op.op = .store ty x y)
    (b : Nat) (t : TypeId) (cur cs : Array Value) (hx : a.eval x = .pointer (some ⟨b, 0, none⟩)) (hy : a.eval y = .agg cs)
    (hg : At w b t cur) (hs : cur.size = cs.size) (hi : (P.info? ty).map (·.size) = some cs.size) (h1 : ∀ v ∈ cs.toList, v.oneCell' = true)
    (h : wpList P ops Q rest (a.put op.dst undef) (w.setRow b cs)) : wpList P ops Q (op :: rest) a w :=
  wpList_plain hgd fun _ hK => by
    unfold Oper.wp execOp
    simp only [ho, hx, hy, Sem.run_bind, Sem.run_pure, Result.andThen_ok, run_store_row w b t ty cur cs hg hs hi h1]
    exact hK _ _ h

theorem At.setRow {w : World} {b : Nat} {t : TypeId} {cs : Array Value} (h : At w b t cs) (cs' : Array Value) : At (w.setRow b cs') b t cs' := by
  unfold At at h ⊢
  simp [World.setRow, Array.getElem?_modify, h]
theorem At.setRow_far {w : World} {b g : Nat} {t : TypeId} {cs : Array Value} (h : At w b t cs) (hne : b ≠ g) (cs' : Array Value) : At (w.setRow g cs') b t cs := by
  unfold At at h ⊢
  simp [World.setRow, Array.getElem?_modify, h, Ne.symm hne]

theorem _root_.Go.RowKit.Below.setRow {B g : Nat} {a w : World} (h : Below B a w) (hg : B ≤ g) (cs : Array Value) : Below B a (w.setRow g cs) :=
  h.trans ⟨rfl, rfl, rfl, by simp, fun k hk => by simp only [World.setRow, Array.getElem?_modify]; rw [if_neg (by omega)]⟩

/-- Outside the set F of old blocks the world w' is as w was; nothing has gone. -/
structure Fr (F : Nat → Prop) (w w' : World) : Prop where
  os : w'.os = w.os
  tape : w'.tape = w.tape
  output : w'.output = w.output
  size : w.heap.size ≤ w'.heap.size
  keep : ∀ k, k < w.heap.size → ¬ F k → w'.heap[k]? = w.heap[k]?

section
variable {F G : Nat → Prop} {a w w' : World}
theorem Fr.refl (F : Nat → Prop) (w : World) : Fr F w w := ⟨rfl, rfl, rfl, Nat.le_refl _, fun _ _ _ => rfl⟩
theorem Fr.trans (h : Fr F a w) (k : Fr G w w') (hG : ∀ k, G k → F k ∨ a.heap.size ≤ k) : Fr F a w' :=
  ⟨k.os.trans h.os, k.tape.trans h.tape, k.output.trans h.output, Nat.le_trans h.size k.size, fun i hi hn =>
    (k.keep i (Nat.lt_of_lt_of_le hi h.size) (fun hg => by rcases hG i hg with h1 | h1; exact hn h1; omega)).trans (h.keep i hi hn)⟩
theorem Fr.mono (h : Fr F a w) (hF : ∀ k, F k → G k) : Fr G a w := ⟨h.os, h.tape, h.output, h.size, fun k hk hn => h.keep k hk (fun hf => hn (hF k hf))⟩
theorem Fr.of_below (h : Below a.heap.size a w) : Fr F a w := ⟨h.os, h.tape, h.output, h.size, fun k hk _ => h.block k hk⟩
theorem Fr.below {B : Nat} (h : Fr F a w) (hB : B ≤ a.heap.size) (hF : ∀ k, F k → B ≤ k) : Below B a w :=
  ⟨h.os, h.tape, h.output, h.size, fun k hk => h.keep k (by omega) (fun hf => by have := hF k hf; omega)⟩
theorem Fr.drew (h : Fr F a w) : Fr F a w.drew := ⟨h.os, h.tape, h.output, h.size, h.keep⟩
theorem Fr.drewN (h : Fr F a w) (n : Nat) : Fr F a (w.drewN n) := ⟨h.os, h.tape, h.output, h.size, h.keep⟩
theorem Fr.alloc (h : Fr F a w) (o : Obj) : Fr F a (w.alloc o) :=
  ⟨h.os, h.tape, h.output, by simp; have := h.size; omega, fun k hk hn => (Below.heap_alloc w o k (Nat.lt_of_lt_of_le hk h.size)).trans (h.keep k hk hn)⟩
theorem Fr.setCell (h : Fr F a w) {p : Addr} (hp : F p.block ∨ a.heap.size ≤ p.block) (u : Value) : Fr F a (w.setCell p u) :=
  ⟨h.os, h.tape, h.output, by simpa [World.setCell] using h.size, fun k hk hn => (heap_setCell_other w p k u (by
    rintro rfl
    rcases hp with hp | hp
    · exact hn hp
    · omega)).trans (h.keep k hk hn)⟩
theorem Fr.grown (h : Fr F a w) {row : Option Nat} (hg : w.grownBy w' row) (hr : ∀ k, row = some k → F k ∨ a.heap.size ≤ k) : Fr F a w' :=
  ⟨hg.os.trans h.os, hg.tape.trans h.tape, hg.output.trans h.output, Nat.le_trans h.size hg.size, fun k hk hn =>
    (hg.block k (Nat.lt_of_lt_of_le hk h.size) (fun e => by rcases hr k e.symm with h1 | h1; exact hn h1; omega)).trans (h.keep k hk hn)⟩
theorem Fr.at (h : Fr F a w) {b : Nat} {t : TypeId} {cs : Array Value} (hat : At a b t cs) (hn : ¬ F b) : At w b t cs := (h.keep b hat.lt hn).trans hat
end
end Go.Proofs.YtjlpdknomdhbhaaGreatDoor
