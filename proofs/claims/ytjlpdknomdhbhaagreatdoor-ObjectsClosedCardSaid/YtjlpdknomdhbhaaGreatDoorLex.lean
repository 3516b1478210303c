/- A region that draws its order may be walked in the order of its text, where each pair of operations whose order is open can be swapped: one of the two looks at no memory, or the earlier one only reads and the later one only makes new blocks. No condition. -/
import Derived.WalkKit
import Derived.Deep.Draws
import Derived.KernelRfl
import Derived.NoCompiler
import Derived.StillTail
namespace Go.Proofs.YtjlpdknomdhbhaaGreatDoor
set_option linter.unusedVariables false
set_option linter.unusedSimpArgs false
open Go
namespace Lex

/-! ### 1. What a computation may do, by its text -/
def Dead {α : Type} (P : Program) : Sem α → Prop
  | .program k => Dead P (k P)
  | .mark _ k => Dead P k
  | .halt _ => True
  | .choose _ k => ∀ n, Dead P (k n)
  | _ => False
def Calm {α : Type} (P : Program) : Sem α → Prop
  | .pure _ => True
  | .program k => Calm P (k P)
  | .mark _ k => Calm P k
  | .halt _ => True
  | .choose _ k => ∀ n, Dead P (k n)
  | _ => False
def Tame {α : Type} (P : Program) : Sem α → Prop
  | .pure _ => True
  | .program k => Tame P (k P)
  | .mark _ k => Tame P k
  | .halt _ => True
  | .choose _ k => ∀ n, Dead P (k n)
  | .load _ _ k => ∀ v, Tame P (k v)
  | .getObj _ k => ∀ o, Tame P (k o)
  | _ => False
def Makes {α : Type} (P : Program) : Sem α → Prop
  | .pure _ => True
  | .program k => Makes P (k P)
  | .mark _ k => Makes P k
  | .halt _ => True
  | .choose _ k => ∀ n, Dead P (k n)
  | .load _ _ k => ∀ v, Makes P (k v)
  | .getObj _ k => ∀ o, Makes P (k o)
  | .new _ k => ∀ n, Makes P (k n)
  | _ => False

theorem Dead.bind {α β : Type} {P : Program} {s : Sem α} (h : Dead P s) (f : α → Sem β) : Dead P (s.bind f) := by
  induction s with
  | pure a => exact h.elim
  | program k ih => exact ih P h
  | mark m k ih => exact ih h
  | halt h0 => trivial
  | load m a k ih => exact h.elim
  | getObj r k ih => exact h.elim
  | new o k ih => exact h.elim
  | store m a v k ih => exact h.elim
  | shape r k ih => exact h.elim
  | freeze a n k ih => exact h.elim
  | frozen a k ih => exact h.elim
  | setObj r o k ih => exact h.elim
  | choose q k ih => exact fun n => ih n (h n)
  | sys c k ih => exact h.elim
theorem Dead.run {P : Program} {α : Type} {s : Sem α} {w w' : World} {a : α} (h : Dead P s) (hr : s.run P w = .ok a w') : False := by
  induction s generalizing w w' with
  | pure x => exact h.elim
  | program k ih => exact ih P h hr
  | mark m k ih => exact ih h hr
  | halt h0 => simp [Sem.run] at hr
  | load m ad k ih => exact h.elim
  | getObj r k ih => exact h.elim
  | new o k ih => exact h.elim
  | store m ad v k ih => exact h.elim
  | shape r k ih => exact h.elim
  | freeze ad n k ih => exact h.elim
  | frozen ad k ih => exact h.elim
  | setObj r o k ih => exact h.elim
  | choose q k ih => 
    simp only [Sem.run] at hr
    split at hr
    · exact ih _ (h _) hr
    · exact ih _ (h _) hr
  | sys c k ih => exact h.elim
theorem Calm.bind {α β : Type} {P : Program} {s : Sem α} {f : α → Sem β} (h : Calm P s) (hf : ∀ a, Calm P (f a)) : Calm P (s.bind f) := by
  induction s with
  | pure a => exact hf _
  | program k ih => exact ih P h
  | mark m k ih => exact ih h
  | halt h0 => trivial
  | load m a k ih => exact h.elim
  | getObj r k ih => exact h.elim
  | new o k ih => exact h.elim
  | store m a v k ih => exact h.elim
  | shape r k ih => exact h.elim
  | freeze a n k ih => exact h.elim
  | frozen a k ih => exact h.elim
  | setObj r o k ih => exact h.elim
  | choose q k ih => exact fun n => (h n).bind f
  | sys c k ih => exact h.elim
theorem Tame.bind {α β : Type} {P : Program} {s : Sem α} {f : α → Sem β} (h : Tame P s) (hf : ∀ a, Tame P (f a)) : Tame P (s.bind f) := by
  induction s with
  | pure a => exact hf _
  | program k ih => exact ih P h
  | mark m k ih => exact ih h
  | halt h0 => trivial
  | load m a k ih => exact fun v => ih v (h v)
  | getObj r k ih => exact fun v => ih v (h v)
  | new o k ih => exact h.elim
  | store m a v k ih => exact h.elim
  | shape r k ih => exact h.elim
  | freeze a n k ih => exact h.elim
  | frozen a k ih => exact h.elim
  | setObj r o k ih => exact h.elim
  | choose q k ih => exact fun n => (h n).bind f
  | sys c k ih => exact h.elim
theorem Makes.bind {α β : Type} {P : Program} {s : Sem α} {f : α → Sem β} (h : Makes P s) (hf : ∀ a, Makes P (f a)) : Makes P (s.bind f) := by
  induction s with
  | pure a => exact hf _
  | program k ih => exact ih P h
  | mark m k ih => exact ih h
  | halt h0 => trivial
  | load m a k ih => exact fun v => ih v (h v)
  | getObj r k ih => exact fun v => ih v (h v)
  | new o k ih => exact fun v => ih v (h v)
  | store m a v k ih => exact h.elim
  | shape r k ih => exact h.elim
  | freeze a n k ih => exact h.elim
  | frozen a k ih => exact h.elim
  | setObj r o k ih => exact h.elim
  | choose q k ih => exact fun n => (h n).bind f
  | sys c k ih => exact h.elim
theorem Calm.tame {α : Type} {P : Program} {s : Sem α} (h : Calm P s) : Tame P s := by
  induction s with
  | pure a => trivial
  | program k ih => exact ih P h
  | mark m k ih => exact ih h
  | halt h0 => trivial
  | load m a k ih => exact h.elim
  | getObj r k ih => exact h.elim
  | new o k ih => exact h.elim
  | store m a v k ih => exact h.elim
  | shape r k ih => exact h.elim
  | freeze a n k ih => exact h.elim
  | frozen a k ih => exact h.elim
  | setObj r o k ih => exact h.elim
  | choose q k ih => exact h
  | sys c k ih => exact h.elim
theorem Tame.makes {α : Type} {P : Program} {s : Sem α} (h : Tame P s) : Makes P s := by
  induction s with
  | pure a => trivial
  | program k ih => exact ih P h
  | mark m k ih => exact ih h
  | halt h0 => trivial
  | load m a k ih => exact fun v => ih v (h v)
  | getObj r k ih => exact fun v => ih v (h v)
  | new o k ih => exact h.elim
  | store m a v k ih => exact h.elim
  | shape r k ih => exact h.elim
  | freeze a n k ih => exact h.elim
  | frozen a k ih => exact h.elim
  | setObj r o k ih => exact h.elim
  | choose q k ih => exact h
  | sys c k ih => exact h.elim

/-- w' is w with more blocks. -/
def More (w w' : World) : Prop := ∀ (i : Nat) (o : Obj), w.heap[i]? = some o → w'.heap[i]? = some o
theorem More.refl (w : World) : More w w := fun _ _ h => h
theorem More.trans {a b c : World} (h : More a b) (k : More b c) : More a c := fun i o e => k i o (h i o e)
theorem More.push (w : World) (o : Obj) : More w { w with heap := w.heap.push o } := fun i x h => by
  show (w.heap.push o)[i]? = some x
  have hlt : i < w.heap.size := (Array.getElem?_eq_some_iff.1 h).1
  rw [Array.getElem?_push, if_neg (by omega)]
  exact h

theorem cell?_more {w w2 : World} (hm : More w w2) {a : Addr} {v : Value} (h : w.cell? a = some v) : w2.cell? a = some v := by
  unfold World.cell? at *
  cases hb : w.heap[a.block]? with
  | none => simp [hb] at h
  | some o => rw [hm _ _ hb]; rw [hb] at h; exact h
theorem farLoad_more {P : Program} {w w2 : World} (hm : More w w2) {a : Addr} {b : Bool} {r : Value × List Addr} (h : w.farLoad P a b = .ok r) : w2.farLoad P a b = .ok r := by
  unfold World.farLoad at *
  cases hb : w.heap[a.block]? with
  | none => simp [hb] at h
  | some o =>
    rw [hm _ _ hb]
    rw [hb] at h
    cases o with
    | view at_ u =>
      simp only at h ⊢
      have hv : ∀ x, w.viewLoad P at_ u a b = .ok x → w2.viewLoad P at_ u a b = .ok x := by
        intro x hx
        unfold World.viewLoad at *
        have hs : ∀ y, w.seen P at_ u a b = .ok y → w2.seen P at_ u a b = .ok y := by
          intro y hy
          unfold World.seen at *
          cases hb2 : w.heap[at_.block]? with
          | some o2 => rw [hm _ _ hb2]; rw [hb2] at hy; exact hy
          | none =>
            exfalso
            rw [hb2] at hy
            revert hy
            simp only [bind, Except.bind, throw, throwThe, MonadExceptOf.throw, pure, Except.pure]
            repeat' split
            all_goals (intro hy; simp at hy)
        cases hse : w.seen P at_ u a b with
        | error e => rw [hse] at hx; simp [bind, Except.bind] at hx
        | ok y => rw [hs y hse]; rw [hse] at hx; exact hx
      cases hvl : w.viewLoad P at_ u a b with
      | error e => rw [hvl] at h; simp at h
      | ok x => rw [hv x hvl]; rw [hvl] at h; exact h
    | _ => simp at h

theorem Calm.run {P : Program} {α : Type} {s : Sem α} {w w' : World} {a : α} (h : Calm P s) (hr : s.run P w = .ok a w') : w' = w ∧ ∀ w2, s.run P w2 = .ok a w2 := by
  induction s generalizing w w' with
  | pure x => 
    simp only [Sem.run, Result.ok.injEq] at hr
    obtain ⟨rfl, rfl⟩ := hr
    exact ⟨rfl, fun _ => rfl⟩
  | program k ih => exact ih P h hr
  | mark m k ih => exact ih h hr
  | halt h0 => simp [Sem.run] at hr
  | load m ad k ih => exact h.elim
  | getObj r k ih => exact h.elim
  | new o k ih => exact h.elim
  | store m ad v k ih => exact h.elim
  | shape r k ih => exact h.elim
  | freeze ad n k ih => exact h.elim
  | frozen ad k ih => exact h.elim
  | setObj r o k ih => exact h.elim
  | choose q k ih =>
    simp only [Sem.run] at hr
    split at hr
    · exact ((h _).run hr).elim
    · exact ((h _).run hr).elim
  | sys c k ih => exact h.elim
theorem Tame.run {P : Program} {α : Type} {s : Sem α} {w w' : World} {a : α} (h : Tame P s) (hr : s.run P w = .ok a w') : w' = w ∧ ∀ w2, More w w2 → s.run P w2 = .ok a w2 := by
  induction s generalizing w w' with
  | pure x => 
    simp only [Sem.run, Result.ok.injEq] at hr
    obtain ⟨rfl, rfl⟩ := hr
    exact ⟨rfl, fun _ _ => rfl⟩
  | program k ih => exact ih P h hr
  | mark m k ih => exact ih h hr
  | halt h0 => simp [Sem.run] at hr
  | load m ad k ih => 
    simp only [Sem.run] at hr
    cases hc : w.cell? ad with
    | some v =>
      rw [hc] at hr
      obtain ⟨h1, h2⟩ := ih v (h v) hr
      exact ⟨h1, fun w2 hm => by simp only [Sem.run, cell?_more hm hc]; exact h2 w2 hm⟩
    | none =>
      rw [hc] at hr
      cases hf : w.farLoad P ad (m == .atomic) with
      | error e => rw [hf] at hr; simp at hr
      | ok x =>
        rw [hf] at hr
        obtain ⟨h1, h2⟩ := ih x.1 (h x.1) hr
        refine ⟨h1, fun w2 hm => ?_⟩
        have hn : w2.cell? ad = none := by
          unfold World.cell? at hc ⊢
          unfold World.farLoad at hf
          cases hb : w.heap[ad.block]? with
          | none => rw [hb] at hf; simp at hf
          | some o => rw [hm _ _ hb]; rw [hb] at hc; exact hc
        simp only [Sem.run, hn, farLoad_more hm hf]
        exact h2 w2 hm
  | getObj r k ih => 
    simp only [Sem.run] at hr
    cases hb : w.heap[r]? with
    | none => rw [hb] at hr; simp at hr
    | some o =>
      rw [hb] at hr
      have hx : ∃ o', o' = o := ⟨_, rfl⟩
      cases o with
      | cells c e f => simp at hr
      | _ =>
        simp only at hr
        obtain ⟨h1, h2⟩ := ih _ (h _) hr
        exact ⟨h1, fun w2 hm => by simp only [Sem.run, hm _ _ hb]; exact h2 w2 hm⟩
  | new o k ih => exact h.elim
  | store m ad v k ih => exact h.elim
  | shape r k ih => exact h.elim
  | freeze ad n k ih => exact h.elim
  | frozen ad k ih => exact h.elim
  | setObj r o k ih => exact h.elim
  | choose q k ih =>
    simp only [Sem.run] at hr
    split at hr
    · exact ((h _).run hr).elim
    · exact ((h _).run hr).elim
  | sys c k ih => exact h.elim
theorem Makes.run {P : Program} {α : Type} {s : Sem α} {w w' : World} {a : α} (h : Makes P s) (hr : s.run P w = .ok a w') : More w w' := by
  induction s generalizing w w' with
  | pure x => 
    simp only [Sem.run, Result.ok.injEq] at hr
    obtain ⟨rfl, rfl⟩ := hr
    exact More.refl _
  | program k ih => exact ih P h hr
  | mark m k ih => exact ih h hr
  | halt h0 => simp [Sem.run] at hr
  | load m ad k ih => 
    simp only [Sem.run] at hr
    split at hr
    · exact ih _ (h _) hr
    · split at hr
      · exact ih _ (h _) hr
      · simp at hr
  | getObj r k ih => 
    simp only [Sem.run] at hr
    split at hr
    · simp at hr
    · exact ih _ (h _) hr
    · simp at hr
  | new o k ih => 
    simp only [Sem.run] at hr
    exact (More.push w o).trans (ih _ (h _) hr)
  | store m ad v k ih => exact h.elim
  | shape r k ih => exact h.elim
  | freeze ad n k ih => exact h.elim
  | frozen ad k ih => exact h.elim
  | setObj r o k ih => exact h.elim
  | choose q k ih =>
    simp only [Sem.run] at hr
    split at hr
    · exact ((h _).run hr).elim
    · exact ((h _).run hr).elim
  | sys c k ih => exact h.elim

/-! ### 2. The operations -/
section
variable {P : Program} {α β : Type}
theorem dead_bind {s : Sem α} (h : Dead P s) (f : α → Sem β) : Dead P (s >>= f) := h.bind f
theorem calm_bind {s : Sem α} {f : α → Sem β} (h : Calm P s) (hf : ∀ a, Calm P (f a)) : Calm P (s >>= f) := h.bind hf
theorem tame_bind {s : Sem α} {f : α → Sem β} (h : Tame P s) (hf : ∀ a, Tame P (f a)) : Tame P (s >>= f) := h.bind hf
theorem makes_bind {s : Sem α} {f : α → Sem β} (h : Makes P s) (hf : ∀ a, Makes P (f a)) : Makes P (s >>= f) := h.bind hf
theorem calm_pure (a : α) : Calm P (pure a : Sem α) := trivial
theorem calm_of_dead {s : Sem α} (h : Dead P s) : Calm P s := by
  induction s with
  | program k ih => exact ih P h
  | mark m k ih => exact ih h
  | halt h0 => trivial
  | choose q k ih => exact h
  | _ => exact h.elim
theorem dead_stuck (m : String) : Dead P (stuck m : Sem α) := trivial
theorem dead_unsup (u : Unsupported) : Dead P (unsupported u : Sem α) := trivial
theorem calm_stuck (m : String) : Calm P (stuck m : Sem α) := trivial
theorem calm_unsup (u : Unsupported) : Calm P (unsupported u : Sem α) := trivial
theorem calm_typeInfo (t : TypeId) : Calm P (typeInfo t) := by
  show Calm P (match P.info? t with | some i => pure i | none => stuck _)
  split <;> trivial
theorem calm_underlying (t : TypeId) : Calm P (underlying t) := by
  show Calm P (match P.underlying t with | some i => pure i | none => stuck _)
  split <;> trivial
theorem calm_sizeOf (t : TypeId) : Calm P (sizeOf t) := calm_bind (calm_typeInfo t) fun _ => trivial
theorem calm_zeroValue (t : TypeId) : Calm P (zeroValue t) := calm_bind (calm_typeInfo t) fun i => by
  show Calm P (match i.zero with | some v => pure v | none => unsupported _)
  split <;> trivial
theorem calm_isAgg (t : TypeId) : Calm P (isAgg t) := calm_bind (calm_underlying t) fun d => by
  show Calm P (match d with | .struct _ | .array _ _ => pure true | _ => pure false)
  split <;> trivial
theorem calm_part (t : TypeId) (cs : Array Value) (off : Nat) : Calm P (part t cs off) := by
  unfold part
  refine calm_bind (calm_isAgg t) fun b => ?_
  split
  · exact calm_bind (calm_sizeOf t) fun _ => trivial
  · split <;> trivial
theorem calm_asIntOf (v : Value) : Calm P (asIntOf v) := by unfold asIntOf; split <;> trivial
theorem calm_asBool (v : Value) : Calm P (asBool v) := by unfold asBool; split <;> trivial
theorem calm_asAgg (v : Value) : Calm P (asAgg v) := by unfold asAgg; split <;> trivial
theorem calm_sureAddr (v : Value) : Calm P (Instr.sureAddr v) := by unfold Instr.sureAddr; split <;> trivial
theorem dead_nilDeref : Dead P (runtimePanic .nilDeref : Sem α) := trivial
theorem dead_error (m : String) : Dead P (runtimePanic (.error m) : Sem α) := trivial
theorem dead_bounds (x y : Int) (s : Bool) (c : BoundsCode) : Dead P (runtimePanic (.bounds x y s c) : Sem α) := trivial
theorem dead_boundsPanic (k : IntKind) (x y : Int) (c : BoundsCode) : Dead P (boundsPanic k x y c : Sem α) := by
  unfold boundsPanic
  split
  · exact fun n => trivial
  · trivial
theorem calm_boundsPanic (k : IntKind) (x y : Int) (c : BoundsCode) : Calm P (boundsPanic k x y c : Sem α) := calm_of_dead (dead_boundsPanic k x y c)
theorem calm_asAddr (v : Value) : Calm P (asAddr v) := by unfold asAddr; split <;> trivial
theorem calm_sliceBound (x : Value) (y : Nat) (c : BoundsCode) : Calm P (Instr.sliceBound x y c) := by
  unfold Instr.sliceBound
  refine calm_bind (calm_asIntOf x) fun p => ?_
  obtain ⟨k, i⟩ := p
  dsimp only
  split
  · trivial
  · exact calm_boundsPanic _ _ _ _
theorem calm_sliceBounds (b : Bool) (n c : Nat) (lo hi mx : Option Value) : Calm P (Instr.sliceBounds b n c lo hi mx) := by
  unfold Instr.sliceBounds
  dsimp only
  repeat' first
    | exact calm_sliceBound _ _ _
    | exact calm_pure _
    | exact calm_stuck _
    | refine calm_bind ?_ (fun _ => ?_)
    | split
theorem calm_slice (t : TypeId) (x : Value) (lo hi mx : Option Value) : Calm P (Instr.slice t x lo hi mx) := by
  unfold Instr.slice
  refine calm_bind (calm_underlying t) fun d => ?_
  split
  · split
    · exact trivial
    · exact calm_bind (calm_sliceBounds _ _ _ _ _ _) fun _ => trivial
  · exact calm_bind (calm_sliceBounds _ _ _ _ _ _) fun _ => calm_bind (calm_sizeOf _) fun _ => trivial
  · refine calm_bind (calm_asAddr _) fun a => calm_bind (calm_underlying _) fun d => ?_
    split
    · exact calm_bind (calm_sliceBounds _ _ _ _ _ _) fun _ => calm_bind (calm_sizeOf _) fun _ => trivial
    · trivial
  · trivial
theorem calm_sliceAt (t : TypeId) (x : Value) (lo hi mx : Option Value) : Calm P (Instr.sliceAt t x lo hi mx) := by
  unfold Instr.sliceAt
  refine calm_bind (calm_underlying t) fun d => ?_
  split
  · exact calm_bind (calm_sureAddr _) fun a => calm_bind (calm_sliceBounds _ _ _ _ _ _) fun _ => calm_bind (calm_sizeOf _) fun _ => trivial
  · exact calm_slice _ _ _ _ _
theorem calm_index (t : TypeId) (x i : Value) : Calm P (Instr.index t x i) := by
  unfold Instr.index
  refine calm_bind (calm_asIntOf i) fun p => ?_
  obtain ⟨k, j⟩ := p
  refine calm_bind (calm_underlying t) fun d => ?_
  split
  · split
    · exact calm_bind (calm_sizeOf _) fun _ => calm_part _ _ _
    · exact calm_boundsPanic _ _ _ _
  · split
    · trivial
    · exact calm_boundsPanic _ _ _ _
  · trivial
theorem calm_indexAt (t : TypeId) (x i : Value) : Calm P (Instr.indexAt t x i) := by
  unfold Instr.indexAt
  refine calm_bind (calm_asIntOf i) fun p => ?_
  obtain ⟨k, j⟩ := p
  refine calm_bind (calm_underlying t) fun d => ?_
  dsimp only
  repeat' first
    | exact calm_boundsPanic _ _ _ _
    | exact calm_sureAddr _
    | exact calm_underlying _
    | exact calm_sizeOf _
    | exact calm_pure _
    | exact calm_stuck _
    | exact calm_unsup _
    | refine calm_bind ?_ (fun _ => ?_)
    | split
theorem calm_underlying_bind {t : TypeId} {f : TypeDesc → Sem β} (h : ∀ d, P.underlying t = some d → Calm P (f d)) : Calm P (underlying t >>= f) := by
  show Calm P (Sem.bind (match P.underlying t with | some d => pure d | none => stuck _) f)
  cases hu : P.underlying t with
  | none => trivial
  | some d => exact h d hu
theorem calm_typeInfo_bind {t : TypeId} {f : TypeInfo → Sem β} (h : ∀ i, P.info? t = some i → Calm P (f i)) : Calm P (typeInfo t >>= f) := by
  show Calm P (Sem.bind (match P.info? t with | some d => pure d | none => stuck _) f)
  cases hu : P.info? t with
  | none => trivial
  | some d => exact h d hu
theorem calm_fieldAt (t : TypeId) (x : Value) (f : Nat) (hs : ∀ fs fl i, P.underlying t = some (.struct fs) → fs[f]? = some fl → P.info? fl.type = some i → i.size ≠ 0) : Calm P (Instr.fieldAt t x f) := by
  unfold Instr.fieldAt
  refine calm_underlying_bind fun d hd => ?_
  split
  · rename_i fs
    split
    · rename_i fl hf
      refine calm_bind (calm_sureAddr _) fun a => calm_bind ?_ fun _ => trivial
      unfold fieldPlace sizeOf
      show Calm P (Sem.bind (Sem.bind (match P.info? fl.type with | some i => pure i | none => stuck _) (fun i => pure i.size)) _)
      cases hi : P.info? fl.type with
      | none => trivial
      | some i =>
        show Calm P (if i.size = 0 then _ else _)
        rw [if_neg (hs fs fl i hd hf hi)]
        trivial
    · trivial
  · trivial
theorem calm_build_fold (t : TypeId) (parts : Array (Nat × Value)) : Calm P (Instr.build t parts) := by
  unfold Instr.build
  refine calm_bind (calm_zeroValue t) fun z => calm_bind (calm_underlying t) fun d => ?_
  split
  · refine calm_bind ?_ fun pl => ?_
    · rename_i fs
      have hm : ∀ l : List Field, Calm P (l.mapM (m := Sem) fun f => do pure (f.offset, ← sizeOf f.type)) := by
        intro l
        rw [← List.mapM'_eq_mapM]
        induction l with
        | nil => trivial
        | cons x l ih => exact calm_bind (calm_bind (calm_sizeOf _) fun _ => trivial) fun _ => calm_bind ih fun _ => trivial
      rw [Array.mapM_eq_mapM_toList]
      exact calm_bind (hm _) fun _ => trivial
    · split <;> trivial
  · refine calm_bind (calm_sizeOf _) fun n => ?_
    split <;> trivial
  · trivial
theorem calm_extract (v : Value) (i : Nat) : Calm P (Instr.extract v i) := by
  unfold Instr.extract
  repeat' first
    | trivial
    | split
theorem calm_makeInterface (t : TypeId) (x : Value) : Calm P (Instr.makeInterface t x) := by
  unfold Instr.makeInterface
  refine calm_bind (calm_underlying t) fun d => ?_
  split <;> trivial
theorem calm_unary (op : UnOp) (x : Value) : Calm P (Op.unary op x) := by
  unfold Op.unary
  split <;> first | trivial | (unfold Op.intArith; trivial) | (unfold Op.intBits; trivial)
theorem calm_shift (op : BinOp) (k yk : IntKind) (x y : Int) : Calm P (Op.shift op k x yk y) := by
  unfold Op.shift
  split
  · exact calm_of_dead (dead_error _)
  · dsimp only; split <;> trivial
theorem calm_intDiv (op : BinOp) (k : IntKind) (x y : Int) : Calm P (Op.intDiv op k x y) := by
  unfold Op.intDiv
  split
  · exact calm_of_dead (dead_error _)
  · split <;> trivial
theorem calm_intArith (op : BinOp) (k : IntKind) (x y : Int) : Calm P (Op.intArith op k x y) := by unfold Op.intArith; split <;> trivial
theorem calm_intBits (op : BinOp) (k : IntKind) (x y : Int) : Calm P (Op.intBits op k x y) := by unfold Op.intBits; dsimp only; split <;> trivial
theorem calm_intCmp (op : BinOp) (x y : Int) : Calm P (Op.intCmp op x y) := by unfold Op.intCmp; split <;> trivial
theorem calm_stringOp (op : BinOp) (x y : ByteArray) : Calm P (Op.stringOp op x y) := by
  unfold Op.stringOp
  dsimp only
  repeat' first
    | trivial
    | split
theorem calm_binInt (op : BinOp) (t : TypeId) (k k' : IntKind) (a b : Int) : Calm P (binOp op t (.int k a) (.int k' b)) := by
  cases op <;> simp only [binOp] <;> (try split) <;> first | exact calm_stuck _ | exact calm_shift _ _ _ _ _ | exact calm_intDiv _ _ _ _ | exact calm_intArith _ _ _ _ | exact calm_intBits _ _ _ _ | exact calm_intCmp _ _ _
theorem calm_binStr (op : BinOp) (t : TypeId) (a b : ByteArray) : Calm P (binOp op t (.string a) (.string b)) := by
  cases op <;> simp only [binOp] <;> exact calm_stringOp _ _ _
theorem calm_binBool (op : BinOp) (t : TypeId) (a b : Bool) (hu : P.underlying t = some .bool) : Calm P (binOp op t (.bool a) (.bool b)) := by
  have h : ∀ d, Calm P (Op.equalIn (d + 1) t (.bool a) (.bool b)) := fun d => by
    unfold Op.equalIn
    refine calm_underlying_bind fun x hx => ?_
    rw [hu] at hx
    injection hx with hx
    subst hx
    trivial
  cases op <;> simp only [binOp] <;> first | exact calm_stuck _ | exact calm_bind (h 9999) fun _ => trivial | trivial
theorem calm_eqGuard (op : BinOp) (t : TypeId) (x y : Operand) (a b : Value) (h : (match a with | .agg _ => false | .nilIface => false | _ => true) = true) : Calm P (eqGuard op t x y a b) := by
  cases a <;> first | (cases h; done) | (cases op <;> trivial)
theorem calm_binPtr (op : BinOp) (hop : op = .eql ∨ op = .neq) (t e : TypeId) (a b : Option Addr) (hn : a = none ∨ b = none) (hu : P.underlying t = some (.pointer e)) : Calm P (binOp op t (.pointer a) (.pointer b)) := by
  have h : ∀ d, Calm P (Op.equalIn (d + 1) t (.pointer a) (.pointer b)) := fun d => by
    unfold Op.equalIn
    refine calm_underlying_bind fun x hx => ?_
    rw [hu] at hx
    injection hx with hx
    subst hx
    rcases hn with rfl | rfl
    · trivial
    · cases a <;> trivial
  rcases hop with rfl | rfl
  · cases a <;> cases b <;> exact calm_bind (h 9999) fun _ => trivial
  · cases a <;> cases b <;> exact calm_bind (h 9999) fun _ => trivial
theorem calm_lenSlice (t ty : TypeId) (a : Option Addr) (n c : Nat) : Calm P (Builtin.len_ #[t] ty #[.slice a n c]) := by
  refine calm_bind (s := underlying t) (calm_underlying t) fun d => ?_
  cases d <;> first | trivial | exact calm_bind (calm_underlying _) fun d => (by cases d <;> trivial)
theorem calm_lenStr (t ty : TypeId) (s : ByteArray) : Calm P (Builtin.len_ #[t] ty #[.string s]) := by
  refine calm_bind (s := underlying t) (calm_underlying t) fun d => ?_
  cases d <;> first | trivial | exact calm_bind (calm_underlying _) fun d => (by cases d <;> trivial)
theorem tame_loadCells (a : Addr) : ∀ (n i : Nat) (acc : Array Value), Tame P (loadCellsFrom a i n acc)
  | 0, _, _ => trivial
  | n + 1, i, acc => tame_bind (s := load (a.add i)) (fun _ => trivial) fun v => tame_loadCells a n (i + 1) (acc.push v)
theorem tame_loadAt (t : TypeId) (x : Value) : Tame P (Instr.loadAt t x) := by
  unfold Instr.loadAt
  refine tame_bind (calm_sureAddr _).tame fun a => ?_
  unfold loadVar
  refine tame_bind (calm_isAgg _).tame fun b => ?_
  split
  · exact tame_bind (calm_sizeOf _).tame fun n => tame_bind (tame_loadCells _ _ _ _) fun _ => trivial
  · exact fun _ => trivial
theorem makes_newRow (t : TypeId) (cs : Array Value) : Makes P (newRow t cs) := fun _ => trivial
theorem makes_alloc (t : TypeId) : Makes P (Instr.alloc t true (.tuple #[])) := by
  unfold Instr.alloc
  exact makes_bind (calm_zeroValue _).tame.makes fun z => makes_bind (makes_newRow _ _) fun _ => trivial
theorem makes_box (t : TypeId) (x : Value) : Makes P (Instr.box t x) := makes_bind (makes_newRow _ _) fun _ => trivial
theorem makes_buildSlice (t : TypeId) (n : Nat) (parts : Array (Nat × Value)) : Makes P (Instr.buildSlice t n parts) := by
  unfold Instr.buildSlice
  refine makes_bind (calm_underlying _).tame.makes fun d => ?_
  split
  · refine makes_bind (calm_sizeOf _).tame.makes fun k => ?_
    dsimp only
    repeat' first
      | trivial
      | exact (calm_zeroValue _).tame.makes
      | exact makes_newRow _ _
      | refine makes_bind ?_ (fun _ => ?_)
      | split
  · trivial

def isInt (P : Program) (t : TypeId) : Bool := match P.underlying t with | some (.int _) => true | _ => false
def isBool (P : Program) (t : TypeId) : Bool := match P.underlying t with | some .bool => true | _ => false
def isPtr (P : Program) (t : TypeId) : Bool := match P.underlying t with | some (.pointer _) => true | _ => false
def sized (P : Program) (s : TypeId) (f : Nat) : Bool :=
  match P.underlying s with
  | some (.struct fs) => (match fs[f]? with | some fl => (match P.info? fl.type with | some i => i.size != 0 | none => true) | none => true)
  | _ => true
def isLen (c : Call) : Bool := (match c.callee with | .builtin .len => true | _ => false) && c.args.size == 1 && c.argTypes.size == 1
/-- 0: looks at no memory · 1: reads · 2: makes new blocks · 3: anything. -/
def kind (P : Program) (o : Oper) : Nat :=
  match o.op with
  | .move _ | .assign _ | .pick _ _ _ | .build _ _ | .makeFunc _ _ _ | .extract _ _ | .index _ _ _ | .indexAddr _ _ _ | .makeInterface _ _ | .unOp _ _ _ | .slice _ _ _ _ _ | .binOp _ _ _ _ _ | .nilCheck _ => 0
  | .fieldAddr s _ f => if sized P s f then 0 else 3
  | .convert s d _ => if isInt P s && isInt P d then 0 else 3
  | .call c => if isLen c then 0 else 3
  | .load _ _ => 1
  | .alloc _ | .box _ _ | .buildSlice _ _ _ => 2
  | _ => 3
def good (P : Program) (o : Oper) (ρ : Operand → Value) : Bool :=
  match o.op with
  | .binOp op t x y _ =>
    (match ρ x, ρ y with
     | .int _ _, .int _ _ => true
     | .string _, .string _ => true
     | .bool _, .bool _ => isBool P t
     | .pointer none, .pointer _ => isPtr P t && (op == .eql || op == .neq)
     | .pointer _, .pointer none => isPtr P t && (op == .eql || op == .neq)
     | _, _ => false)
  | .nilCheck x => (match ρ x with | .pointer (some _) => true | _ => false)
  | .convert _ _ x => (match ρ x with | .int _ _ => true | _ => false)
  | .call c => !isLen c || (match (c.args[0]?).map ρ with | some (.slice _ _ _) => true | some (.string _) => true | _ => false)
  | _ => true

def Quiet (P : Program) (s : Sem Next) : Prop := ∀ n w w', s.run P w = .ok n w' → (∃ v, n = .value v) ∧ w' = w ∧ ∀ w2, s.run P w2 = .ok n w2
def Reads (P : Program) (s : Sem Next) : Prop := ∀ n w w', s.run P w = .ok n w' → (∃ v, n = .value v) ∧ w' = w ∧ ∀ w2, More w w2 → s.run P w2 = .ok n w2
def News (P : Program) (s : Sem Next) : Prop := ∀ n w w', s.run P w = .ok n w' → (∃ v, n = .value v) ∧ More w w'

theorem run_val {s : Sem Value} {w w' : World} {n : Next} (h : (s >>= fun x => pure (.value x) : Sem Next).run P w = .ok n w') : ∃ v, n = .value v ∧ s.run P w = .ok v w' := by
  rw [Sem.run_bind] at h
  cases hs : s.run P w with
  | halt x y => rw [hs] at h; simp [Result.andThen] at h
  | ok v y =>
    rw [hs] at h
    simp only [Result.andThen, Sem.run_pure, Result.ok.injEq] at h
    obtain ⟨rfl, rfl⟩ := h
    exact ⟨v, rfl, rfl⟩
theorem quiet_val {s : Sem Value} (h : Calm P s) : Quiet P (s >>= fun x => pure (.value x)) := by
  intro n w w' hr
  obtain ⟨v, rfl, hv⟩ := run_val hr
  obtain ⟨h1, h2⟩ := h.run hv
  refine ⟨⟨v, rfl⟩, h1, fun w2 => ?_⟩
  rw [Sem.run_bind, h2 w2]
  rfl
theorem reads_val {s : Sem Value} (h : Tame P s) : Reads P (s >>= fun x => pure (.value x)) := by
  intro n w w' hr
  obtain ⟨v, rfl, hv⟩ := run_val hr
  obtain ⟨h1, h2⟩ := h.run hv
  refine ⟨⟨v, rfl⟩, h1, fun w2 hm => ?_⟩
  rw [Sem.run_bind, h2 w2 hm]
  rfl
theorem news_val {s : Sem Value} (h : Makes P s) : News P (s >>= fun x => pure (.value x)) := by
  intro n w w' hr
  obtain ⟨v, rfl, hv⟩ := run_val hr
  exact ⟨⟨v, rfl⟩, h.run hv⟩
theorem quiet_pure (v : Value) : Quiet P (pure (.value v) : Sem Next) := quiet_val (s := pure v) trivial
theorem calm_pick (c : Value) (x y : Value) : Calm P (do pure (if ← asBool c then x else y) : Sem Value) := calm_bind (calm_asBool c) fun _ => trivial

theorem quiet_of {o : Oper} {ρ : Operand → Value} (hk : kind P o = 0) (hg : good P o ρ = true) : Quiet P (execOp ρ o) := by
  obtain ⟨dst, op, type, pos, after, guard⟩ := o
  cases op <;> simp only [kind] at hk <;> try (exact absurd hk (by decide))
  case move x => exact quiet_pure _
  case assign x => exact quiet_pure _
  case pick c a b =>
    show Quiet P (asBool (ρ c) >>= fun b' => pure (.value (if b' then ρ a else ρ b)))
    cases ρ c with
    | bool b' => exact quiet_pure _
    | _ => intro n w w' hr; cases hr
  case build t ps => exact quiet_val (calm_build_fold _ _)
  case nilCheck x =>
    simp only [good] at hg
    cases hx : ρ x with
    | pointer a =>
      cases a with
      | none => rw [hx] at hg; cases hg
      | some a =>
        show Quiet P (match ρ x with | .pointer none | .nilIface | .nilFunc => _ | .func (.method name) first captured => _ | x => _)
        rw [hx]
        exact quiet_pure _
    | _ => rw [hx] at hg; cases hg
  case binOp bop t x y u =>
    refine quiet_val (calm_bind ?_ fun _ => ?_)
    · simp only [good] at hg
      cases hx : ρ x with
      | int k a => exact calm_eqGuard _ _ _ _ _ _ rfl
      | string a => exact calm_eqGuard _ _ _ _ _ _ rfl
      | bool a => exact calm_eqGuard _ _ _ _ _ _ rfl
      | pointer a => exact calm_eqGuard _ _ _ _ _ _ rfl
      | _ => rw [hx] at hg; cases hg
    · simp only [good] at hg
      cases hx : ρ x with
      | int k a => cases hy : ρ y with
        | int k' b => exact calm_binInt _ _ _ _ _ _
        | _ => rw [hx, hy] at hg; cases hg
      | string a => cases hy : ρ y with
        | string b => exact calm_binStr _ _ _ _
        | _ => rw [hx, hy] at hg; cases hg
      | bool a => cases hy : ρ y with
        | bool b =>
          rw [hx, hy] at hg
          refine calm_binBool _ _ _ _ ?_
          simp only [isBool] at hg
          split at hg
          · assumption
          · cases hg
        | _ => rw [hx, hy] at hg; cases hg
      | pointer a => cases hy : ρ y with
        | pointer b =>
          rw [hx, hy] at hg
          have hh : (a = none ∨ b = none) ∧ isPtr P t = true ∧ (bop = .eql ∨ bop = .neq) := by
            cases a <;> cases b <;> simp at hg <;> exact ⟨by simp, hg⟩
          obtain ⟨h1, h2, h3⟩ := hh
          simp only [isPtr] at h2
          split at h2
          · exact calm_binPtr _ h3 _ _ _ _ h1 (by assumption)
          · cases h2
        | _ => rw [hx, hy] at hg; cases a <;> cases hg
      | _ => rw [hx] at hg; cases hg
  case unOp _ _ x => exact quiet_val (calm_unary _ _)
  case convert s d x =>
    split at hk
    · rename_i hsd
      simp only [Bool.and_eq_true, isInt] at hsd
      obtain ⟨h1, h2⟩ := hsd
      split at h1
      · rename_i k1 hs
        split at h2
        · rename_i k2 hd
          simp only [good] at hg
          cases hx : ρ x with
          | int k a =>
            refine quiet_val ?_
            show Calm P (convert s d (ρ x))
            rw [hx]
            unfold convert
            refine calm_underlying_bind fun d1 e1 => calm_underlying_bind fun d2 e2 => ?_
            rw [hs] at e1
            rw [hd] at e2
            injection e1 with e1
            injection e2 with e2
            subst e1 e2
            trivial
          | _ => rw [hx] at hg; cases hg
        · cases h2
      · cases h1
    · cases hk
  case makeInterface t x => exact quiet_val (calm_makeInterface _ _)
  case makeFunc f a b => exact quiet_pure _
  case slice t x lo hi mx => exact quiet_val (calm_sliceAt _ _ _ _ _)
  case fieldAddr s x f =>
    split at hk
    · rename_i hsz
      refine quiet_val (calm_fieldAt _ _ _ fun fs fl i h1 h2 h3 => ?_)
      simp only [sized, h1, h2, h3] at hsz
      simpa using hsz
    · cases hk
  case indexAddr t x i => exact quiet_val (calm_indexAt _ _ _)
  case index t x i => exact quiet_val (calm_index _ _ _)
  case extract x i => exact quiet_val (calm_extract _ _)
  case call c =>
    split at hk
    · rename_i hl
      obtain ⟨callee, args, tys⟩ := c
      simp only [good, hl, Bool.not_true, Bool.false_or] at hg
      simp only [isLen, Bool.and_eq_true, beq_iff_eq] at hl
      obtain ⟨⟨h1, h2⟩, h3⟩ := hl
      split at h1
      · rename_i h1'
        obtain ⟨la⟩ := args
        obtain ⟨lt⟩ := tys
        match la, lt, h2, h3 with
        | [x], [t], _, _ =>
          simp only [List.getElem?_toArray, List.getElem?_cons_zero, Option.map_some] at hg
          change Quiet P (execOp ρ { dst := dst, op := .call { callee := .builtin .len, args := #[x], argTypes := #[t] }, type := type, pos := pos, after := after, guard := guard })
          rw [BigFrame.execOp_builtin, BigFrame.builtin_len, show (#[x] : Array Operand).map ρ = #[ρ x] from by simp]
          refine quiet_val (s := Builtin.len_ #[t] type #[ρ x]) ?_
          cases hx : ρ x with
          | slice a n c => exact calm_lenSlice _ _ _ _ _
          | string s => exact calm_lenStr _ _ _
          | _ => rw [hx] at hg; cases hg
      · cases h1
    · cases hk
theorem reads_of {o : Oper} {ρ : Operand → Value} (hk : kind P o = 1) : Reads P (execOp ρ o) := by
  obtain ⟨dst, op, type, pos, after, guard⟩ := o
  cases op <;> simp only [kind] at hk <;> try (exact absurd hk (by decide))
  case load t x => exact reads_val (tame_loadAt _ _)
  all_goals (split at hk <;> cases hk)
theorem news_of {o : Oper} {ρ : Operand → Value} (hk : kind P o = 2) : News P (execOp ρ o) := by
  obtain ⟨dst, op, type, pos, after, guard⟩ := o
  cases op <;> simp only [kind] at hk <;> try (exact absurd hk (by decide))
  case alloc t => exact news_val (makes_alloc _)
  case box t x => exact news_val (makes_box _ _)
  case buildSlice t n ps => exact news_val (makes_buildSlice _ _ _)
  all_goals (split at hk <;> cases hk)
theorem Reads.news {s : Sem Next} (h : Reads P s) : News P s := fun n w w' hr => by
  obtain ⟨h1, rfl, _⟩ := h n w w' hr
  exact ⟨h1, More.refl _⟩
end

/-! ### 3. Two operations that stand side by side are swapped -/
section
variable {P : Program} {ops : Array Oper} {Q : Exit → Act → World → Prop}
def NoExit (Q : Exit → Act → World → Prop) : Prop := ∀ e a w, e ≠ .normal → ¬ Q e a w
def Rch (a : Act) (d : Option Tmp) (a' : Act) : Prop := ∃ v ds, a' = ({ a with defers := ds } : Act).put d v
theorem NoExit.out (hQ : NoExit Q) : ¬ LetsOut Q := fun h => by
  obtain ⟨a, w, h⟩ := h
  exact hQ _ _ _ (by simp) h

theorem eval_defers (a : Act) (ds : List Deferred) : ({ a with defers := ds } : Act).eval = a.eval := by
  funext x; cases x <;> rfl
theorem Rch.exec {a a' : Act} {d : Option Tmp} (h : Rch a d a') {o : Oper} (hs : ∀ cs b, o.op ≠ .select cs b) (hd : ∀ t, d = some t → t ∉ o.looksAt ops) :
    execOp a'.eval o = execOp a.eval o ∧ Region.wanted o (yielded ops a'.tmps) = Region.wanted o (yielded ops a.tmps) := by
  obtain ⟨v, ds, rfl⟩ := h
  refine ⟨?_, ?_⟩
  · rw [execOp_put o hs _ d v hd, eval_defers]
  · rw [wanted_put o _ d v hd]
theorem Rch.put_ (a : Act) (d : Option Tmp) (v : Value) : Rch a d (a.put d v) := ⟨v, a.defers, by cases a; rfl⟩

theorem wpOp_reach {i : Nat} {o : Oper} (hi : ops[i]? = some o) {K : Act → World → Prop} {a : Act} {w : World} (h : wpOp P ops Q i K a w) :
    wpOp P ops Q i (fun a' w' => Rch a o.dst a' ∧ K a' w') a w := by
  unfold wpOp at *
  simp only [hi] at *
  split
  · rename_i hw
    simp only [hw, if_true] at h
    rcases h with h | h
    case inr => exact .inr h
    refine .inl ?_
    unfold Oper.wp at *
    generalize (execOp a.eval o).run P w = r at *
    cases r with
    | ok n w' =>
      cases n <;> simp only [Oper.upon] at h ⊢
      case value u => exact ⟨.put_ _ _ _, h⟩
      case skip => exact ⟨.put_ _ _ _, h⟩
      case defer d => exact ⟨⟨undef, _, rfl⟩, h⟩
      case enter f args =>
        refine Calls.mono h fun e w'' he => ?_
        cases e with
        | returned u => exact ⟨.put_ _ _ _, he⟩
        | panicked c => exact he
        | outgrown => exact he
      case row row args => exact Rows.mono h fun u w'' he => ⟨.put_ _ _ _, he⟩
    | halt x w' => cases x <;> simp only [Oper.upon] at h ⊢ <;> exact h
  · rename_i hw
    simp only [hw] at h
    exact ⟨.put_ _ _ _, h⟩

theorem wpOp_ex (hQ : NoExit Q) {i : Nat} {o : Oper} (hi : ops[i]? = some o) {K : Act → World → Prop} {a : Act} {w : World} (h : wpOp P ops Q i K a w) :
    ∃ a' w', Rch a o.dst a' ∧ K a' w' := by
  replace h := wpOp_reach hi h
  unfold wpOp at h
  simp only [hi] at h
  split at h
  · rcases h with h | h
    case inr => exact absurd h.2 hQ.out
    unfold Oper.wp at h
    generalize (execOp a.eval o).run P w = r at *
    cases r with
    | ok n w' =>
      cases n <;> simp only [Oper.upon] at h
      case value u => exact ⟨_, _, h⟩
      case skip => exact ⟨_, _, h⟩
      case defer d => exact ⟨_, _, h⟩
      case enter f args =>
        obtain ⟨e, w'', fr, he, _⟩ := h []
        cases e with
        | returned u => exact ⟨_, _, he⟩
        | panicked c => exact absurd he (hQ _ _ _ (by simp))
        | outgrown => exact absurd he hQ.out
      case row row args =>
        obtain ⟨v, w'', he, _⟩ := h default []
        exact ⟨_, _, he⟩
    | halt x w' =>
      cases x <;> simp only [Oper.upon] at h
      exact absurd h (hQ _ _ _ (by simp))
  · exact ⟨_, _, h⟩

theorem xfer_in (hQ : NoExit Q) {k : Nat} {o : Oper} (hk : ops[k]? = some o) (hs : ∀ cs b, o.op ≠ .select cs b) {d : Option Tmp} {v : Value} (h1 : ∀ t, d = some t → t ∉ o.looksAt ops) (h2 : ∀ t, d = some t → o.dst ≠ some t)
    {K K1 : Act → World → Prop} {a : Act} {w : World} (h : wpOp P ops Q k K1 a w) (hK : ∀ a' w', Rch a o.dst a' → K1 a' w' → K (a'.put d v) w') : wpOp P ops Q k K (a.put d v) w := by
  replace h := wpOp_reach hk h
  unfold wpOp at *
  simp only [hk] at *
  rw [wanted_put o a d v h1]
  split
  · rename_i hw
    simp only [hw, if_true] at h
    rcases h with h | h
    case inr => exact absurd h.2 hQ.out
    refine .inl ?_
    unfold Oper.wp at *
    rw [execOp_put o hs a d v h1]
    generalize (execOp a.eval o).run P w = r at *
    cases r with
    | ok n w' =>
      cases n <;> simp only [Oper.upon] at h ⊢
      case value u => rw [Act.put_comm a v u h2]; exact hK _ _ h.1 h.2
      case skip => rw [Act.put_comm a v undef h2]; exact hK _ _ h.1 h.2
      case defer dd => rw [Act.put_defers, Act.put_comm _ v undef h2]; exact hK _ _ h.1 h.2
      case enter f args =>
        refine Calls.mono h fun e w'' he => ?_
        cases e with
        | returned u => dsimp only at he ⊢; rw [Act.put_comm a v u h2]; exact hK _ _ he.1 he.2
        | panicked c => exact absurd he (hQ _ _ _ (by simp))
        | outgrown => exact he
      case row row args => exact Rows.mono h fun u w'' he => by rw [Act.put_comm a v u h2]; exact hK _ _ he.1 he.2
    | halt x w' =>
      cases x <;> simp only [Oper.upon] at h ⊢
      exact absurd h (hQ _ _ _ (by simp))
  · rename_i hw
    simp only [hw] at h
    rw [Act.put_comm a v undef h2]; exact hK _ _ h.1 h.2

theorem xfer_out (hQ : NoExit Q) {k : Nat} {o : Oper} (hk : ops[k]? = some o) (hs : ∀ cs b, o.op ≠ .select cs b) {d : Option Tmp} {v : Value} (h1 : ∀ t, d = some t → t ∉ o.looksAt ops) (h2 : ∀ t, d = some t → o.dst ≠ some t)
    {K K1 : Act → World → Prop} {a : Act} {w : World} (h : wpOp P ops Q k K1 (a.put d v) w) (hK : ∀ a' w', Rch a o.dst a' → K1 (a'.put d v) w' → K a' w') : wpOp P ops Q k K a w := by
  unfold wpOp at *
  simp only [hk] at *
  rw [wanted_put o a d v h1] at h
  split
  · rename_i hw
    simp only [hw, if_true] at h
    rcases h with h | h
    case inr => exact absurd h.2 hQ.out
    refine .inl ?_
    unfold Oper.wp at *
    rw [execOp_put o hs a d v h1] at h
    generalize (execOp a.eval o).run P w = r at *
    cases r with
    | ok n w' =>
      cases n <;> simp only [Oper.upon] at h ⊢
      case value u => rw [Act.put_comm a v u h2] at h; exact hK _ _ (.put_ _ _ _) h
      case skip => rw [Act.put_comm a v undef h2] at h; exact hK _ _ (.put_ _ _ _) h
      case defer dd => rw [Act.put_defers, Act.put_comm _ v undef h2] at h; exact hK _ _ ⟨_, _, rfl⟩ h
      case enter f args =>
        refine Calls.mono h fun e w'' he => ?_
        cases e with
        | returned u => dsimp only at he ⊢; rw [Act.put_comm a v u h2] at he; exact hK _ _ (.put_ _ _ _) he
        | panicked c => exact absurd he (hQ _ _ _ (by simp))
        | outgrown => exact he
      case row row args => exact Rows.mono h fun u w'' he => by rw [Act.put_comm a v u h2] at he; exact hK _ _ (.put_ _ _ _) he
    | halt x w' =>
      cases x <;> simp only [Oper.upon] at h ⊢
      exact absurd h (hQ _ _ _ (by simp))
  · rename_i hw
    simp only [hw] at h
    rw [Act.put_comm a v undef h2] at h; exact hK _ _ (.put_ _ _ _) h

/-- What one operation yields here. -/
def Yl (P : Program) (ops : Array Oper) (o : Oper) (a : Act) (w : World) (v : Value) (w' : World) : Prop :=
  (Region.wanted o (yielded ops a.tmps) = true ∧ (execOp a.eval o).run P w = .ok (.value v) w') ∨ (Region.wanted o (yielded ops a.tmps) = false ∧ v = undef ∧ w' = w)
theorem Yl.mk {i : Nat} {o : Oper} (hi : ops[i]? = some o) {a : Act} {w w' : World} {v : Value} (hy : Yl P ops o a w v w') {K : Act → World → Prop} (h : K (a.put o.dst v) w') : wpOp P ops Q i K a w := by
  unfold wpOp
  simp only [hi]
  rcases hy with ⟨hw, hr⟩ | ⟨hw, rfl, rfl⟩
  · rw [if_pos hw]
    refine .inl ?_
    unfold Oper.wp
    rw [hr]
    exact h
  · rw [if_neg (by simp [hw])]
    exact h
theorem yl_of (hQ : NoExit Q) {i : Nat} {o : Oper} (hi : ops[i]? = some o) {a : Act} {w : World} (hn : Region.wanted o (yielded ops a.tmps) = true → News P (execOp a.eval o)) {K : Act → World → Prop}
    (h : wpOp P ops Q i K a w) : ∃ v w', Yl P ops o a w v w' ∧ K (a.put o.dst v) w' := by
  unfold wpOp at h
  simp only [hi] at h
  split at h
  · rename_i hw
    rcases h with h | h
    case inr => exact absurd h.2 hQ.out
    unfold Oper.wp at h
    cases hr : (execOp a.eval o).run P w with
    | ok n w' =>
      obtain ⟨⟨v, rfl⟩, _⟩ := hn hw n w w' hr
      rw [hr] at h
      exact ⟨v, w', .inl ⟨hw, hr⟩, h⟩
    | halt x w' =>
      rw [hr] at h
      cases x <;> simp only [Oper.upon] at h
      exact absurd h (hQ _ _ _ (by simp))
  · rename_i hw
    exact ⟨undef, w, .inr ⟨by simpa using hw, rfl, rfl⟩, h⟩
theorem Yl.same {o : Oper} {a a' : Act} {w w' : World} {v : Value} (h : Yl P ops o a w v w') (he : execOp a'.eval o = execOp a.eval o ∧ Region.wanted o (yielded ops a'.tmps) = Region.wanted o (yielded ops a.tmps)) : Yl P ops o a' w v w' := by
  unfold Yl at *
  rw [he.1, he.2]
  exact h
theorem Yl.quiet {o : Oper} {a : Act} {w w' : World} {v : Value} (h : Yl P ops o a w v w') (hq : Region.wanted o (yielded ops a.tmps) = true → Quiet P (execOp a.eval o)) : w' = w ∧ ∀ w2, Yl P ops o a w2 v w2 := by
  rcases h with ⟨hw, hr⟩ | ⟨hw, rfl, rfl⟩
  · obtain ⟨_, h1, h2⟩ := hq hw _ _ _ hr
    exact ⟨h1, fun w2 => .inl ⟨hw, h2 w2⟩⟩
  · exact ⟨rfl, fun _ => .inr ⟨hw, rfl, rfl⟩⟩
theorem Yl.reads {o : Oper} {a : Act} {w w' : World} {v : Value} (h : Yl P ops o a w v w') (hq : Region.wanted o (yielded ops a.tmps) = true → Reads P (execOp a.eval o)) : w' = w ∧ ∀ w2, More w w2 → Yl P ops o a w2 v w2 := by
  rcases h with ⟨hw, hr⟩ | ⟨hw, rfl, rfl⟩
  · obtain ⟨_, h1, h2⟩ := hq hw _ _ _ hr
    exact ⟨h1, fun w2 hm => .inl ⟨hw, h2 w2 hm⟩⟩
  · exact ⟨rfl, fun _ _ => .inr ⟨hw, rfl, rfl⟩⟩
theorem Yl.more {o : Oper} {a : Act} {w w' : World} {v : Value} (h : Yl P ops o a w v w') (hq : Region.wanted o (yielded ops a.tmps) = true → News P (execOp a.eval o)) : More w w' := by
  rcases h with ⟨hw, hr⟩ | ⟨hw, rfl, rfl⟩
  · exact (hq hw _ _ _ hr).2
  · exact More.refl _
theorem Yl.det {o : Oper} {a : Act} {w w1 w2 : World} {v1 v2 : Value} (h : Yl P ops o a w v1 w1) (h' : Yl P ops o a w v2 w2) : v1 = v2 ∧ w1 = w2 := by
  rcases h with ⟨hw, hr⟩ | ⟨hw, rfl, rfl⟩ <;> rcases h' with ⟨hw', hr'⟩ | ⟨hw', rfl, rfl⟩
  · rw [hr] at hr'; injection hr' with h1 h2; injection h1 with h1; exact ⟨h1, h2⟩
  · rw [hw] at hw'; cases hw'
  · rw [hw] at hw'; cases hw'
  · exact ⟨rfl, rfl⟩

theorem Quiet.news {s : Sem Next} (h : Quiet P s) : News P s := fun n w w' hr => by
  obtain ⟨h1, rfl, _⟩ := h n w w' hr
  exact ⟨h1, More.refl _⟩

theorem swap (hQ : NoExit Q) {k j : Nat} {ok oj : Oper} (hk : ops[k]? = some ok) (hj : ops[j]? = some oj) (hap : ok.apart ops oj = true)
    (hsk : ∀ cs b, ok.op ≠ .select cs b) (hsj : ∀ cs b, oj.op ≠ .select cs b) {K : Act → World → Prop} {a : Act} {w : World}
    (hc : (Region.wanted oj (yielded ops a.tmps) = true → Quiet P (execOp a.eval oj)) ∨ (Region.wanted ok (yielded ops a.tmps) = true → Quiet P (execOp a.eval ok)) ∨
      ((Region.wanted ok (yielded ops a.tmps) = true → Reads P (execOp a.eval ok)) ∧ (Region.wanted oj (yielded ops a.tmps) = true → News P (execOp a.eval oj))))
    (h : wpOp P ops Q k (fun a' w' => wpOp P ops Q j K a' w') a w) : wpOp P ops Q j (fun a' w' => wpOp P ops Q k K a' w') a w := by
  obtain ⟨h1, h2, h3⟩ := Oper.apart_spec hap
  have h2' : ∀ t, oj.dst = some t → ok.dst ≠ some t := fun t ht hk' => h2 t hk' ht
  rcases hc with hc | hc | ⟨hc1, hc2⟩
  · obtain ⟨a1, w1, hR, h'⟩ := wpOp_ex hQ hk h
    have he := hR.exec (o := oj) (ops := ops) hsj h1
    obtain ⟨v, w2, hy, _⟩ := yl_of hQ hj (by rw [he.1, he.2]; exact fun hw => (hc hw).news) h'
    have hy0 : Yl P ops oj a w1 v w2 := hy.same ⟨he.1.symm, he.2.symm⟩
    obtain ⟨_, hall⟩ := hy0.quiet hc
    refine Yl.mk hj (hall w) ?_
    refine xfer_in hQ hk hsk h3 h2' h fun a' w' hR' hj' => ?_
    have he' := hR'.exec (o := oj) (ops := ops) hsj h1
    obtain ⟨v2, w3, hy2, hK⟩ := yl_of hQ hj (by rw [he'.1, he'.2]; exact fun hw => (hc hw).news) hj'
    obtain ⟨rfl, rfl⟩ := (hy2.same ⟨he'.1.symm, he'.2.symm⟩).det (hall w')
    exact hK
  · obtain ⟨v, w1, hy, h'⟩ := yl_of hQ hk (fun hw => (hc hw).news) h
    obtain ⟨rfl, hall⟩ := hy.quiet hc
    refine xfer_out hQ hj hsj h1 h2 h' fun a' w' hR hK => ?_
    exact Yl.mk hk ((hall w').same (hR.exec (o := ok) (ops := ops) hsk h3)) hK
  · obtain ⟨v, w1, hy, h'⟩ := yl_of hQ hk (fun hw => (hc1 hw).news) h
    obtain ⟨rfl, hall⟩ := hy.reads hc1
    have he : execOp (a.put ok.dst v).eval oj = execOp a.eval oj ∧ Region.wanted oj (yielded ops (a.put ok.dst v).tmps) = Region.wanted oj (yielded ops a.tmps) := (Rch.put_ a ok.dst v).exec (ops := ops) hsj h1
    obtain ⟨u, w2, hy2, hK⟩ := yl_of hQ hj (by rw [he.1, he.2]; exact hc2) h'
    have hy2' : Yl P ops oj a w1 u w2 := hy2.same ⟨he.1.symm, he.2.symm⟩
    refine Yl.mk hj hy2' (Yl.mk hk ((hall w2 (hy2'.more hc2)).same ((Rch.put_ a oj.dst u).exec (ops := ops) hsk h3)) ?_)
    rw [← Act.put_comm a v u h2]
    exact hK

/-! ### 4. Any order comes to what the order of the text comes to -/
def needs (o : Oper) : Bool := match o.op with | .binOp _ _ _ _ _ | .nilCheck _ | .convert _ _ _ | .call _ => true | _ => false
theorem good_free {o : Oper} (h : needs o = false) (ρ : Operand → Value) : good P o ρ = true := by
  obtain ⟨dst, op, type, pos, after, guard⟩ := o
  cases op <;> first | rfl | cases h
theorem good_congr (o : Oper) {ρ ρ' : Operand → Value} (h : ∀ x ∈ o.op.operands, ρ x = ρ' x) : good P o ρ = good P o ρ' := by
  obtain ⟨dst, op, type, pos, after, guard⟩ := o
  cases op <;> try rfl
  case nilCheck x => simp only [good, h x (by simp [Op.operands])]
  case binOp b t x y u => simp only [good, h x (by simp [Op.operands]), h y (by simp [Op.operands])]
  case convert s d x => simp only [good, h x (by simp [Op.operands])]
  case call c =>
    simp only [good]
    cases hx : c.args[0]? with
    | none => rfl
    | some x =>
      have hm : x ∈ c.args := Array.mem_of_getElem? hx
      simp only [Option.map_some, h x (by simp [Op.operands, Call.operands, hm])]
def goodAll (P : Program) (ops : Array Oper) (a : Act) : Bool := ops.all fun o => kind P o != 0 || !Region.wanted o (yielded ops a.tmps) || good P o a.eval
/-- The region has come to its end, and what it computed with was plain. -/
def Ends (P : Program) (ops : Array Oper) (Q : Exit → Act → World → Prop) : Exit → Act → World → Prop := fun e a w => e = .normal ∧ goodAll P ops a = true ∧ Q .normal a w
theorem Ends.noExit (P : Program) (ops : Array Oper) (Q : Exit → Act → World → Prop) : NoExit (Ends P ops Q) := fun _ _ _ he h => he h.1
theorem Ends.intro {a : Act} {w : World} (hg : goodAll P ops a = true) (h : Q .normal a w) : Ends P ops Q .normal a w := ⟨rfl, hg, h⟩

theorem fin : ∀ (l : List Nat) (a : Act) (w : World), (∀ i ∈ l, i < ops.size) → wpOps P ops (Ends P ops Q) l a w →
    ∃ a' w', Ends P ops Q .normal a' w' ∧ ∀ t, (∀ i ∈ l, ∀ o, ops[i]? = some o → o.dst ≠ some t) → a'.tmps[t]? = a.tmps[t]?
  | [], a, w, _, h => ⟨a, w, h, fun _ _ => rfl⟩
  | i :: l, a, w, hl, h => by
    obtain ⟨o, hi⟩ : ∃ o, ops[i]? = some o := ⟨_, Array.getElem?_eq_getElem (hl i (by simp))⟩
    rw [wpOps_cons] at h
    obtain ⟨a1, w1, ⟨v, ds, rfl⟩, h1⟩ := wpOp_ex (Ends.noExit P ops Q) hi h
    obtain ⟨a2, w2, he, ht⟩ := fin l _ _ (fun j hj => hl j (by simp [hj])) h1
    refine ⟨a2, w2, he, fun t hn => ?_⟩
    rw [ht t fun j hj o ho => hn j (by simp [hj]) o ho]
    have := hn i (by simp) _ hi
    cases hd : o.dst with
    | none => rfl
    | some d =>
      have hne : d ≠ t := fun e => this (by rw [hd, e])
      simp [Act.put, Array.getElem?_setIfInBounds_ne hne]
theorem eval_same {a a' : Act} {x : Operand} (h : ∀ t, x = .tmp t → a'.tmps[t]? = a.tmps[t]?) : a'.eval x = a.eval x := by
  cases x with
  | tmp t => simp only [Act.eval, Array.getD_eq_getD_getElem?, h t rfl]
  | _ => rfl
/-- What an operation of kind 0 computes with here is plain, if nothing behind writes its operands. -/
theorem good_here {l : List Nat} {a : Act} {w : World} (hl : ∀ i ∈ l, i < ops.size) (h : wpOps P ops (Ends P ops Q) l a w) {k : Nat} {o : Oper} (hk : ops[k]? = some o) (hkd : kind P o = 0)
    (hf : needs o = true → ∀ i ∈ l, ∀ o', ops[i]? = some o' → ∀ t, o'.dst = some t → t ∉ o.looksAt ops) : Region.wanted o (yielded ops a.tmps) = true → Quiet P (execOp a.eval o) := by
  intro hw
  refine quiet_of hkd ?_
  cases hn : needs o with
  | false => exact good_free hn _
  | true =>
    obtain ⟨a', w', ⟨_, hg, _⟩, ht⟩ := fin l a w hl h
    have hg1 := Array.all_eq_true_iff_forall_mem.1 hg o (Array.mem_of_getElem? hk)
    have hsame : ∀ t, t ∈ o.looksAt ops → a'.tmps[t]? = a.tmps[t]? := fun t hm => ht t fun i hi o' ho' e => hf hn i hi o' ho' t e hm
    have hev : ∀ x ∈ o.op.operands, a'.eval x = a.eval x := fun x hx => eval_same fun t e => hsame t (by
      subst e
      exact List.mem_append_left _ (List.mem_filterMap.2 ⟨.tmp t, by simpa using hx, rfl⟩))
    have hwn : Region.wanted o (yielded ops a'.tmps) = Region.wanted o (yielded ops a.tmps) := by
      unfold Region.wanted
      cases hgd : o.guard with
      | none => rfl
      | some gw =>
        obtain ⟨g, want⟩ := gw
        have : yielded ops a'.tmps g = yielded ops a.tmps g := by
          unfold yielded
          cases hd : (ops[g]?).bind (·.dst) with
          | none => rfl
          | some t =>
            have := hsame t (by simp [Oper.looksAt, hgd, hd])
            simp [this]
        simp only [this]
    rw [hkd, hwn, hw] at hg1
    simp at hg1
    rw [← good_congr o hev]
    exact hg1

def okPair (P : Program) (ops : Array Oper) (a b : Nat) : Bool :=
  match ops[a]?, ops[b]? with
  | some oa, some ob => oa.apart ops ob && (kind P ob == 0 || kind P oa == 0 || (kind P oa == 1 && (kind P ob == 1 || kind P ob == 2)))
  | _, _ => false
def waits (ops : Array Oper) : Nat → Nat → Nat → Bool
  | 0, _, _ => false
  | f + 1, b, a => match ops[b]? with
    | some ob => ob.after.any fun e => Region.binds .any e && (e.on == a || waits ops f e.on a)
    | none => false
/-- n first, then f of it (the kernel computes n once). -/
def strict (n : Nat) (f : Nat → Bool) : Bool := match n with
  | 0 => f 0
  | k + 1 => f (k + 1)
theorem strict_eq (n : Nat) (f : Nat → Bool) : strict n f = f n := by cases n <;> rfl
/-- What o waits for, as bits; acc holds the rows of those before it, W bits each. -/
def rowOf (W acc : Nat) (o : Oper) : Nat := o.after.toList.foldl (fun m e => if Region.binds .any e then m ||| (1 <<< e.on) ||| ((acc >>> (e.on * W)) % 2 ^ W) else m) 0
def okRows (ops : Array Oper) (pair : Nat → Nat → Bool) (W : Nat) : Nat → Nat → Nat → Bool
  | 0, _, _ => true
  | n + 1, b, acc => match ops[b]? with
    | none => true
    | some ob => (ob.after.all fun e => !Region.binds .any e || decide (e.on < b)) &&
      strict (rowOf W acc ob) fun r => ((List.range b).all fun a => r.testBit a || pair a b) && strict (acc ||| (r <<< (b * W))) fun acc' => okRows ops pair W n (b + 1) acc'
theorem waits_mono {ops : Array Oper} : ∀ (f b a : Nat), waits ops f b a = true → waits ops (f + 1) b a = true
  | 0, _, _, h => by cases h
  | f + 1, b, a, h => by
    unfold waits at h ⊢
    split at h
    · rename_i ob hb
      rw [Array.any_eq_true'] at h ⊢
      obtain ⟨e, he, h⟩ := h
      refine ⟨e, he, ?_⟩
      simp only [Bool.and_eq_true, Bool.or_eq_true] at h ⊢
      exact ⟨h.1, h.2.imp id (waits_mono f _ _)⟩
    · cases h
theorem waits_le {ops : Array Oper} {f g b a : Nat} (hfg : f ≤ g) (h : waits ops f b a = true) : waits ops g b a = true := by
  induction hfg with
  | refl => exact h
  | step _ ih => exact waits_mono _ _ _ ih
theorem rowOf_bits {W acc : Nat} {o : Oper} {t : Nat} (h : (rowOf W acc o).testBit t = true) : ∃ e ∈ o.after, Region.binds .any e = true ∧ (e.on = t ∨ t < W ∧ acc.testBit (e.on * W + t) = true) := by
  have key : ∀ (l : List _) (m : Nat), (l.foldl (fun m e => if Region.binds .any e then m ||| (1 <<< e.on) ||| ((acc >>> (e.on * W)) % 2 ^ W) else m) m).testBit t = true → m.testBit t = true ∨ ∃ e ∈ l, Region.binds .any e = true ∧ (e.on = t ∨ t < W ∧ acc.testBit (e.on * W + t) = true) := by
    intro l
    induction l with
    | nil => exact fun m h => .inl h
    | cons e l ih =>
      intro m h
      rcases ih _ h with h | ⟨e', he', h'⟩
      · simp only at h
        split at h
        · rename_i hb
          simp only [Nat.testBit_or, Bool.or_eq_true] at h
          rcases h with (h | h) | h
          · exact .inl h
          · refine .inr ⟨e, List.mem_cons_self, hb, .inl ?_⟩
            rw [Nat.testBit_shiftLeft] at h
            simp only [Bool.and_eq_true, decide_eq_true_eq] at h
            have h2 := h.2
            rw [Nat.testBit_one_eq_true_iff_self_eq_zero] at h2
            omega
          · refine .inr ⟨e, List.mem_cons_self, hb, .inr ?_⟩
            rw [Nat.testBit_mod_two_pow] at h
            simp only [Bool.and_eq_true, decide_eq_true_eq, Nat.testBit_shiftRight] at h
            exact h
        · exact .inl h
      · exact .inr ⟨e', List.mem_cons_of_mem _ he', h'⟩
  rcases key _ _ h with h | ⟨e, he, h⟩
  · simp at h
  · exact ⟨e, Array.mem_toList_iff.1 he, h⟩
theorem okRows_spec {ops : Array Oper} {pair : Nat → Nat → Bool} {W : Nat} (hW : W = ops.size) : ∀ (n b acc : Nat), okRows ops pair W n b acc = true → (∀ i, acc.testBit i = true → ∃ j a, j < b ∧ a < W ∧ i = j * W + a ∧ waits ops (j + 1) j a = true) →
    ∀ b', b ≤ b' → b' < b + n → ∀ ob, ops[b']? = some ob → (∀ e ∈ ob.after, Region.binds .any e = true → e.on < b') ∧ ∀ a, a < b' → waits ops (b' + 1) b' a = true ∨ pair a b' = true
  | 0, b, acc, _, _, b', h1, h2, _, _ => by omega
  | n + 1, b, acc, h, hacc, b', h1, h2, ob, hob => by
    have hbW : b < W := by rw [hW]; exact Nat.lt_of_le_of_lt h1 (Array.getElem?_eq_some_iff.1 hob).1
    unfold okRows at h
    rw [Array.getElem?_eq_getElem (by rw [← hW]; exact hbW)] at h
    simp only [strict_eq, Bool.and_eq_true, List.all_eq_true, List.mem_range] at h
    obtain ⟨hdn, hrow, hrest⟩ := h
    have hdown : ∀ e ∈ (ops[b]'(by rw [← hW]; exact hbW)).after, Region.binds .any e = true → e.on < b := fun e he hbi => by
      have := Array.all_eq_true_iff_forall_mem.1 hdn e he
      simpa [hbi] using this
    have hbit : ∀ t, (rowOf W acc (ops[b]'(by rw [← hW]; exact hbW))).testBit t = true → t < W ∧ waits ops (b + 1) b t = true := by
      intro t ht
      obtain ⟨e, he, hbi, hcase⟩ := rowOf_bits ht
      have hlt := hdown e he hbi
      have hw : ∀ x, (e.on == x || waits ops b e.on x) = true → waits ops (b + 1) b x = true := fun x hx => by
        unfold waits
        rw [Array.getElem?_eq_getElem (by rw [← hW]; exact hbW)]
        simp only
        rw [Array.any_eq_true']
        exact ⟨e, he, by rw [hbi, hx]; rfl⟩
      rcases hcase with rfl | ⟨htW, hta⟩
      · exact ⟨by omega, hw _ (by simp)⟩
      · obtain ⟨j, a, hj, haW, heq, hwt⟩ := hacc _ hta
        have hja : j = e.on ∧ a = t := by
          have h3 : (e.on * W + t) / W = e.on := by rw [Nat.add_comm, Nat.add_mul_div_right _ _ (by omega), Nat.div_eq_of_lt htW, Nat.zero_add]
          have h4 : (j * W + a) / W = j := by rw [Nat.add_comm, Nat.add_mul_div_right _ _ (by omega), Nat.div_eq_of_lt haW, Nat.zero_add]
          have h5 : j = e.on := by rw [← h3, ← h4, heq]
          subst h5
          exact ⟨rfl, by omega⟩
        obtain ⟨rfl, rfl⟩ := hja
        refine ⟨htW, hw _ ?_⟩
        rw [waits_le (by omega) hwt]
        simp
    by_cases hbb : b' = b
    · subst hbb
      rw [Array.getElem?_eq_getElem (by rw [← hW]; exact hbW)] at hob
      cases hob
      refine ⟨hdown, fun a ha => ?_⟩
      have := hrow a ha
      simp only [Bool.or_eq_true] at this
      exact this.imp (fun h => (hbit a h).2) id
    · refine okRows_spec hW n (b + 1) _ hrest ?_ b' (by omega) (by omega) ob hob
      intro i hi
      rw [Nat.testBit_or, Bool.or_eq_true] at hi
      rcases hi with hi | hi
      · obtain ⟨j, a, hj, r⟩ := hacc i hi
        exact ⟨j, a, by omega, r⟩
      · rw [Nat.testBit_shiftLeft] at hi
        simp only [Bool.and_eq_true, decide_eq_true_eq] at hi
        obtain ⟨h3, h4⟩ := hbit _ hi.2
        exact ⟨b, i - b * W, by omega, h3, by omega, h4⟩
theorem okRows_waits {ops : Array Oper} {pair : Nat → Nat → Bool} (h : okRows ops pair ops.size ops.size 0 0 = true) {b : Nat} {ob : Oper} (hb : ops[b]? = some ob) :
    (∀ e ∈ ob.after, Region.binds .any e = true → e.on < b) ∧ ∀ a, a < b → waits ops ops.size b a = true ∨ pair a b = true := by
  have hbl := (Array.getElem?_eq_some_iff.1 hb).1
  obtain ⟨h1, h2⟩ := okRows_spec rfl _ _ _ h (fun i hi => by simp at hi) b (Nat.zero_le _) (by omega) ob hb
  exact ⟨h1, fun a ha => (h2 a ha).imp (waits_le (by omega)) id⟩
def okAll (P : Program) (ops : Array Oper) : Bool :=
  Region.noSelect ops &&
  okRows ops (okPair P ops) ops.size ops.size 0 0 &&
  ((List.range ops.size).all fun k => match ops[k]? with
    | some o => !needs o || (List.range ops.size).all fun i => decide (i < k) || (match ops[i]? with | some o' => (match o'.dst with | some t => !(o.looksAt ops).contains t | none => true) | none => true)
    | none => true)

theorem okAll_spec (h : okAll P ops = true) :
    (∀ (j : Nat) (o : Oper) (cs : Array SelectCase) (b : Bool), ops[j]? = some o → o.op ≠ .select cs b) ∧
    (∀ (b : Nat) (ob : Oper), ops[b]? = some ob → ∀ e ∈ ob.after, Region.binds .any e = true → e.on < b) ∧
    (∀ b a, b < ops.size → a < b → waits ops ops.size b a = true ∨ okPair P ops a b = true) ∧
    (∀ (k : Nat) (o : Oper), ops[k]? = some o → needs o = true → ∀ i, k ≤ i → ∀ (o' : Oper), ops[i]? = some o' → ∀ t, o'.dst = some t → t ∉ o.looksAt ops) := by
  simp only [okAll, Bool.and_eq_true, List.all_eq_true, List.mem_range] at h
  obtain ⟨⟨h1, h2⟩, h3⟩ := h
  refine ⟨fun j o cs b hj => Region.noSelect_spec h1 j o cs b hj, fun b ob hb e he hbi => ?_, fun b a hb ha => ?_, fun k o hk hn i hki o' hi t ht => ?_⟩
  · exact (okRows_waits h2 hb).1 e he hbi
  · have := (okRows_waits h2 (Array.getElem?_eq_getElem hb)).2 a ha
    simpa using this
  · have hkl : k < ops.size := (Array.getElem?_eq_some_iff.1 hk).1
    have hil : i < ops.size := (Array.getElem?_eq_some_iff.1 hi).1
    have := h3 k hkl
    rw [hk] at this
    simp only [hn, Bool.not_true, Bool.false_or, List.all_eq_true, List.mem_range] at this
    have := this i hil
    rw [hi] at this
    simp only [ht, Bool.or_eq_true, decide_eq_true_eq] at this
    rcases this with this | this
    · omega
    · simpa using this

theorem kind_news {o : Oper} {ρ : Operand → Value} (h : kind P o = 1 ∨ kind P o = 2) : News P (execOp ρ o) := by
  rcases h with h | h
  · exact (reads_of h).news
  · exact news_of h

/-- The operation i, which waits for none of those in front of it, comes to the front. -/
theorem front (hA : okAll P ops = true) {i : Nat} {rest : List Nat} : ∀ (ks : List Nat) (a : Act) (w : World), (∀ x ∈ ks ++ i :: rest, x < ops.size) → (ks ++ i :: rest).Pairwise (· < ·) →
    (∀ k ∈ ks, okPair P ops k i = true) → wpOps P ops (Ends P ops Q) (ks ++ i :: rest) a w → wpOps P ops (Ends P ops Q) (i :: (ks ++ rest)) a w
  | [], _, _, _, _, _, h => h
  | k :: ks, a, w, hl, hs, hp, h => by
    obtain ⟨hsel, _, _, hkeep⟩ := okAll_spec hA
    have hs' := List.pairwise_cons.1 hs
    have h0 := h
    rw [List.cons_append, wpOps_cons] at h
    have h1 : wpOp P ops (Ends P ops Q) k (fun a' w' => wpOps P ops (Ends P ops Q) (i :: (ks ++ rest)) a' w') a w :=
      wpOp_mono (fun a' w' hh => front hA ks a' w' (fun x hx => hl x (by simp at hx ⊢; right; exact hx)) hs'.2 (fun x hx => hp x (by simp [hx])) hh) h
    have hkl : k < ops.size := hl k (by simp)
    have hil : i < ops.size := hl i (by simp)
    obtain ⟨ok, hk⟩ : ∃ o, ops[k]? = some o := ⟨_, Array.getElem?_eq_getElem hkl⟩
    obtain ⟨oi, hi⟩ : ∃ o, ops[i]? = some o := ⟨_, Array.getElem?_eq_getElem hil⟩
    have hpk := hp k (by simp)
    simp only [okPair, hk, hi, Bool.and_eq_true, Bool.or_eq_true, beq_iff_eq] at hpk
    obtain ⟨hap, hc⟩ := hpk
    have h2 : wpOp P ops (Ends P ops Q) k (fun a' w' => wpOp P ops (Ends P ops Q) i (wpOps P ops (Ends P ops Q) (ks ++ rest)) a' w') a w :=
      wpOp_mono (fun a' w' hh => by rw [wpOps_cons] at hh; exact hh) h1
    show wpOps P ops (Ends P ops Q) (i :: (k :: (ks ++ rest))) a w
    rw [wpOps_cons]
    refine wpOp_mono (fun a' w' hh => ?_) (swap (Ends.noExit P ops Q) hk hi hap (fun cs b => hsel k ok cs b hk) (fun cs b => hsel i oi cs b hi) ?_ h2)
    · rw [wpOps_cons]; exact hh
    · rcases hc with (hc | hc) | ⟨hc1, hc2⟩
      · refine .inl (good_here (l := k :: ks ++ i :: rest) hl h0 hi hc fun hn x hx o' ho' t ht => ?_)
        by_cases hxi : i ≤ x
        · exact hkeep i oi hi hn x hxi o' ho' t ht
        · have hxm : x ∈ k :: ks := by
            rcases List.mem_append.1 hx with h | h
            · exact h
            · rcases List.mem_cons.1 h with h | h
              · omega
              · have := (List.pairwise_append.1 hs).2.1
                have := (List.pairwise_cons.1 this).1 x h
                omega
          have hpx := hp x hxm
          simp only [okPair, ho', hi, Bool.and_eq_true] at hpx
          exact (Oper.apart_spec hpx.1).1 t ht
      · refine .inr (.inl (good_here (l := k :: ks ++ i :: rest) hl h0 hk hc fun hn x hx o' ho' t ht => ?_))
        refine hkeep k ok hk hn x ?_ o' ho' t ht
        rcases List.mem_cons.1 hx with h | h
        · omega
        · have := hs'.1 x h; omega
      · exact .inr (.inr ⟨fun _ => reads_of hc1, fun _ => kind_news hc2⟩)

def Closed (ops : Array Oper) (listed : Array Bool) : Prop := ∀ j o, ops[j]? = some o → listed.getD j false = true → ∀ e ∈ o.after, Region.binds .any e = true → listed.getD e.on false = true
theorem waits_listed {listed : Array Bool} (hc : Closed ops listed) : ∀ (f : Nat) (b a : Nat) (ob : Oper), ops[b]? = some ob → (∀ e ∈ ob.after, Region.binds .any e = true → listed.getD e.on false = true) → waits ops f b a = true → listed.getD a false = true
  | 0, _, _, _, _, _, h => by cases h
  | f + 1, b, a, ob, hb, hall, h => by
    simp only [waits, hb] at h
    obtain ⟨e, he, hx⟩ := Array.any_eq_true'.1 h
    simp only [Bool.and_eq_true, Bool.or_eq_true, beq_iff_eq] at hx
    obtain ⟨hbi, hx⟩ := hx
    have hl := hall e he hbi
    rcases hx with rfl | hx
    · exact hl
    · cases f with
      | zero => cases hx
      | succ f =>
        cases ho : ops[e.on]? with
        | none => simp [waits, ho] at hx
        | some oe => exact waits_listed hc (f + 1) e.on a oe ho (hc e.on oe ho hl) hx

theorem any_of_lex (hA : okAll P ops = true) : ∀ (fuel : Nat) (l : List Nat) (listed : Array Bool) (a : Act) (w : World), l.length = fuel → listed.size = ops.size → Closed ops listed →
    l.Pairwise (· < ·) → (∀ x, x ∈ l ↔ x < ops.size ∧ listed.getD x false = false) → wpOps P ops (Ends P ops Q) l a w → wpAny P .any ops (Ends P ops Q) fuel listed a w
  | 0, l, listed, a, w, hlen, hsz, hcl, hs, hm, h => by
    have hl0 : l = [] := List.eq_nil_of_length_eq_zero hlen
    subst hl0
    refine ⟨?_, h⟩
    refine List.eq_nil_iff_forall_not_mem.2 fun j hj => ?_
    obtain ⟨h0, o, ho, _⟩ := mem_ready.1 hj
    have hjl : j < ops.size := (Array.getElem?_eq_some_iff.1 ho).1
    have := (hm j).2 ⟨hjl, getD_both h0⟩
    cases this
  | fuel + 1, l, listed, a, w, hlen, hsz, hcl, hs, hm, h => by
    obtain ⟨_, htop, hpair, _⟩ := okAll_spec hA
    have both : ∀ x, x < ops.size → listed.getD x false = false → listed.getD x true = false := fun x hx hf => getD_in (by omega) hf
    refine ⟨fun hr => ?_, fun i hi => ?_⟩
    · exfalso
      cases l with
      | nil => cases hlen
      | cons m l =>
        have hm0 := (hm m).1 (by simp)
        obtain ⟨o, ho⟩ : ∃ o, ops[m]? = some o := ⟨_, Array.getElem?_eq_getElem hm0.1⟩
        have : m ∈ Region.ready .any ops listed := mem_ready.2 ⟨both m hm0.1 hm0.2, o, ho, fun e he hb => by
          have hlt := htop m o ho e he hb
          cases hx : listed.getD e.on false with
          | true => rfl
          | false =>
            have hin := (hm e.on).2 ⟨by omega, hx⟩
            rcases List.mem_cons.1 hin with h1 | h1
            · omega
            · have := (List.pairwise_cons.1 hs).1 _ h1
              omega⟩
        rw [hr] at this
        cases this
    · obtain ⟨hun, oi, hoi, hall⟩ := mem_ready.1 hi
      have hil : i < ops.size := (Array.getElem?_eq_some_iff.1 hoi).1
      have hin : i ∈ l := (hm i).2 ⟨hil, getD_both hun⟩
      obtain ⟨ks, rest, rfl⟩ := List.append_of_mem hin
      have hpw := List.pairwise_append.1 hs
      have hfr := front (Q := Q) hA ks a w (fun x hx => ((hm x).1 hx).1) hs (fun k hk => ?_) h
      · rw [wpOps_cons] at hfr
        refine wpOp_mono (fun a' w' hh => ?_) hfr
        refine any_of_lex hA fuel (ks ++ rest) _ a' w' (by simp at hlen ⊢; omega) (by simp [hsz]) ?_ ?_ ?_ hh
        · intro j o ho hl e he hb
          by_cases hij : i = j
          · subst hij
            have : o = oi := Option.some.inj (ho.symm.trans hoi)
            subst this
            exact getD_set_true (hall e he hb)
          · refine getD_set_true (hcl j o ho ?_ e he hb)
            rw [getD_set_ne false (by exact hij)] at hl
            exact hl
        · exact List.pairwise_append.2 ⟨hpw.1, (List.pairwise_cons.1 hpw.2.1).2, fun x hx y hy => hpw.2.2 x hx y (by simp [hy])⟩
        · intro x
          have hx := hm x
          have hne : x ∈ ks ++ rest → i ≠ x := by
            intro hxm e
            subst e
            rcases List.mem_append.1 hxm with h1 | h1
            · have := hpw.2.2 i h1 i (by simp)
              omega
            · have := (List.pairwise_cons.1 hpw.2.1).1 i h1
              omega
          constructor
          · intro hxm
            have h1 := hx.1 (by simp at hxm ⊢; rcases hxm with h | h <;> simp [h])
            exact ⟨h1.1, by rw [getD_set_ne false (hne hxm)]; exact h1.2⟩
          · rintro ⟨h1, h2⟩
            by_cases hix : i = x
            · subst hix
              simp [hsz, h1] at h2
            · rw [getD_set_ne false hix] at h2
              have := hx.2 ⟨h1, h2⟩
              simp at this ⊢
              rcases this with h | h | h
              · exact .inl h
              · exact absurd h.symm hix
              · exact .inr h
      · have hki : k < i := hpw.2.2 k hk i (by simp)
        rcases hpair i k hil hki with hw | hp
        · have := waits_listed hcl ops.size i k oi hoi hall hw
          have hk2 := ((hm k).1 (by simp [hk])).2
          rw [hk2] at this
          cases this
        · exact hp

/-- **THE LAW.** -/
theorem wp_region_lex {id : Nat} {l : List Oper} {Q : Exit → Act → World → Prop} {a : Act} {w : World} (hm : P.follows .mixedOrders = true) (hA : okAll P l.toArray = true)
    (h : wpList P l.toArray (Ends P l.toArray Q) l a w.drew) : (Code.region id l.toArray true).wp P Q a w := by
  refine Code.wp_mono (Q := Ends P l.toArray Q) (fun e a' w' he => by obtain ⟨rfl, _, h⟩ := he; exact h) (wp_region_any hm ?_)
  refine any_of_lex hA l.toArray.size (List.range l.toArray.size) _ a _ (by simp) (by simp) ?_ List.pairwise_lt_range (fun x => by
    constructor
    · intro hx
      have := List.mem_range.1 hx
      exact ⟨this, by simp only [Array.getD_eq_getD_getElem?]; simp at this ⊢; simp [this]⟩
    · exact fun hx => List.mem_range.2 hx.1) ?_
  · intro j o ho hl
    rw [getD_replicate_false] at hl
    cases hl
  · rw [List.range_eq_range', show l.toArray.size = l.length from by simp, wpOps_eq_wpList l 0 (by simp)]
    exact h

/-! ### 5. Loads beside calls: the blocks of B, which stood when the region began, are kept by each operation in front of the tail -/
/-- The blocks of B that stood in w0 are in w as they were. -/
def Same (B : Nat → Prop) (w0 w : World) : Prop := ∀ b, B b → b < w0.heap.size → w.heap[b]? = w0.heap[b]?
theorem Same.refl (B : Nat → Prop) (w : World) : Same B w w := fun _ _ _ => rfl
theorem Same.more {B : Nat → Prop} {w0 w w' : World} (h : Same B w0 w) (hm : More w w') : Same B w0 w' := fun b hB hb => by
  have e := h b hB hb
  have hx : w0.heap[b]? = some w0.heap[b] := Array.getElem?_eq_getElem hb
  rw [hx] at e ⊢
  exact hm b _ e
/-- The load's operand points into a block of B that is a row of cells. -/
def inB (B : Nat → Prop) (w0 : World) (o : Oper) (ρ : Operand → Value) : Prop :=
  match o.op with
  | .load _ x => (match ρ x with | .pointer (some ad) => B ad.block ∧ (w0.cell? ad).isSome = true | _ => False)
  | _ => True
def Local {α : Type} (P : Program) (b : Nat) : Sem α → Prop
  | .pure _ => True
  | .program k => Local P b (k P)
  | .mark _ k => Local P b k
  | .halt _ => True
  | .choose _ k => ∀ n, Dead P (k n)
  | .load _ a k => a.block = b ∧ ∀ v, Local P b (k v)
  | _ => False
theorem Local.bind {α β : Type} {P : Program} {b : Nat} {s : Sem α} {f : α → Sem β} (h : Local P b s) (hf : ∀ a, Local P b (f a)) : Local P b (s.bind f) := by
  induction s with
  | pure a => exact hf _
  | program k ih => exact ih P h
  | mark m k ih => exact ih h
  | halt h0 => trivial
  | load m a k ih => exact ⟨h.1, fun v => ih v (h.2 v)⟩
  | getObj r k ih => exact h.elim
  | new o k ih => exact h.elim
  | store m a v k ih => exact h.elim
  | shape r k ih => exact h.elim
  | freeze a n k ih => exact h.elim
  | frozen a k ih => exact h.elim
  | setObj r o k ih => exact h.elim
  | choose q k ih => exact fun n => (h n).bind f
  | sys c k ih => exact h.elim
theorem Calm.local_ {α : Type} {P : Program} {b : Nat} {s : Sem α} (h : Calm P s) : Local P b s := by
  induction s with
  | pure a => trivial
  | program k ih => exact ih P h
  | mark m k ih => exact ih h
  | halt h0 => trivial
  | load m a k ih => exact h.elim
  | getObj r k ih => exact h.elim
  | new o k ih => exact h.elim
  | store m a v k ih => exact h.elim
  | shape r k ih => exact h.elim
  | freeze a n k ih => exact h.elim
  | frozen a k ih => exact h.elim
  | setObj r o k ih => exact h.elim
  | choose q k ih => exact h
  | sys c k ih => exact h.elim
theorem Local.run {α : Type} {P : Program} {b : Nat} {s : Sem α} {w w2 w' : World} {a : α} {c : Array Value} {tc : TypeId} {f : Nat × Nat} (h : Local P b s) (hb : w.heap[b]? = some (.cells c tc f)) (hb2 : w2.heap[b]? = some (.cells c tc f)) (hr : s.run P w = .ok a w') : w' = w ∧ s.run P w2 = .ok a w2 := by
  induction s generalizing w w2 w' with
  | pure x => 
    simp only [Sem.run, Result.ok.injEq] at hr
    obtain ⟨rfl, rfl⟩ := hr
    exact ⟨rfl, rfl⟩
  | program k ih => exact ih P h hb hb2 hr
  | mark m k ih => exact ih h hb hb2 hr
  | halt h0 => simp [Sem.run] at hr
  | load m ad k ih => 
    obtain ⟨rfl, hk⟩ := h
    have hc : w2.cell? ad = w.cell? ad := by unfold World.cell?; rw [hb, hb2]
    have hfr : ∀ bb, w.farLoad P ad bb = .error (w.noCell ad "load: no such cell") := fun bb => by unfold World.farLoad; rw [hb]
    simp only [Sem.run] at hr ⊢
    rw [hc]
    cases hv : w.cell? ad with
    | some v =>
      rw [hv] at hr
      exact ih v (hk v) hb hb2 hr
    | none =>
      rw [hv, hfr] at hr
      cases hr
  | getObj r k ih => exact h.elim
  | new o k ih => exact h.elim
  | store m ad v k ih => exact h.elim
  | shape r k ih => exact h.elim
  | freeze ad n k ih => exact h.elim
  | frozen ad k ih => exact h.elim
  | setObj r o k ih => exact h.elim
  | choose q k ih => 
    simp only [Sem.run] at hr
    split at hr
    · exact ((h _).run hr).elim
    · exact ((h _).run hr).elim
  | sys c k ih => exact h.elim
theorem local_bind {α β : Type} {b : Nat} {s : Sem α} {f : α → Sem β} (h : Local P b s) (hf : ∀ a, Local P b (f a)) : Local P b (s >>= f) := h.bind hf
theorem add_block (ad : Addr) (i : Nat) : (ad.add i).block = ad.block := by unfold Addr.add; split <;> rfl
theorem local_loadCells (a : Addr) : ∀ (n i : Nat) (acc : Array Value), Local P a.block (loadCellsFrom a i n acc)
  | 0, _, _ => trivial
  | n + 1, i, acc => local_bind (s := load (a.add i)) ⟨add_block a i, fun _ => trivial⟩ fun v => local_loadCells a n (i + 1) (acc.push v)
theorem local_loadAt (t : TypeId) (ad : Addr) : Local P ad.block (Instr.loadAt t (.pointer (some ad))) := by
  show Local P ad.block (loadVar t ad)
  unfold loadVar
  refine local_bind (calm_isAgg _).local_ fun b => ?_
  split
  · exact local_bind (calm_sizeOf _).local_ fun n => local_bind (local_loadCells _ _ _ _) fun _ => trivial
  · exact ⟨rfl, fun _ => trivial⟩
/-- A load out of a block of B yields one value in all worlds that keep B. -/
def Firm (P : Program) (S : World → Prop) (s : Sem Next) : Prop := ∀ n w w', S w → s.run P w = .ok n w' → (∃ v, n = .value v) ∧ w' = w ∧ ∀ w2, S w2 → s.run P w2 = .ok n w2
theorem firm_of {B : Nat → Prop} {w0 : World} {o : Oper} {ρ : Operand → Value} (hk : kind P o = 1) (hb : inB B w0 o ρ) : Firm P (Same B w0) (execOp ρ o) := by
  obtain ⟨dst, op, type, pos, after, guard⟩ := o
  cases op <;> simp only [kind] at hk <;> try (exact absurd hk (by decide))
  case load t x =>
    simp only [inB] at hb
    split at hb
    · rename_i ad hx
      obtain ⟨hB, hc⟩ := hb
      have hblk : ∃ c tc f, w0.heap[ad.block]? = some (.cells c tc f) := by
        unfold World.cell? at hc
        split at hc
        · exact ⟨_, _, _, by assumption⟩
        · cases hc
      obtain ⟨c, tc, f, hw0⟩ := hblk
      have hlt : ad.block < w0.heap.size := (Array.getElem?_eq_some_iff.1 hw0).1
      intro n w w' hS hr
      have hr' : (Instr.loadAt t (ρ x) >>= fun v => pure (.value v) : Sem Next).run P w = .ok n w' := hr
      rw [hx] at hr'
      obtain ⟨v, rfl, hv⟩ := run_val hr'
      have h1 := (hS ad.block hB hlt).trans hw0
      obtain ⟨rfl, _⟩ := (local_loadAt t ad).run h1 h1 hv
      refine ⟨⟨v, rfl⟩, rfl, fun w2 hS2 => ?_⟩
      have h2 := ((local_loadAt t ad).run h1 ((hS2 ad.block hB hlt).trans hw0) hv).2
      show (Instr.loadAt t (ρ x) >>= fun v => pure (.value v) : Sem Next).run P w2 = _
      rw [hx, Sem.run_bind, h2]
      rfl
    · exact hb.elim
  all_goals (split at hk <;> cases hk)
theorem Yl.firm {S : World → Prop} {o : Oper} {a : Act} {w w' : World} {v : Value} (hS : S w) (h : Yl P ops o a w v w') (hq : Region.wanted o (yielded ops a.tmps) = true → Firm P S (execOp a.eval o)) : w' = w ∧ ∀ w2, S w2 → Yl P ops o a w2 v w2 := by
  rcases h with ⟨hw, hr⟩ | ⟨hw, rfl, rfl⟩
  · obtain ⟨_, h1, h2⟩ := hq hw _ _ _ hS hr
    exact ⟨h1, fun w2 hm => .inl ⟨hw, h2 w2 hm⟩⟩
  · exact ⟨rfl, fun _ _ => .inr ⟨hw, rfl, rfl⟩⟩
theorem Quiet.firm {S : World → Prop} {s : Sem Next} (h : Quiet P s) : Firm P S s := fun n w w' _ hr => by
  obtain ⟨h1, h2, h3⟩ := h n w w' hr
  exact ⟨h1, h2, fun w2 _ => h3 w2⟩

theorem swapS (hQ : NoExit Q) {S : World → Prop} {k j : Nat} {ok oj : Oper} (hk : ops[k]? = some ok) (hj : ops[j]? = some oj) (hap : ok.apart ops oj = true)
    (hsk : ∀ cs b, ok.op ≠ .select cs b) (hsj : ∀ cs b, oj.op ≠ .select cs b) {K : Act → World → Prop} {a : Act} {w : World} (hS : S w)
    (hc : ((Region.wanted oj (yielded ops a.tmps) = true → Firm P S (execOp a.eval oj)) ∧ (Region.wanted oj (yielded ops a.tmps) = true → News P (execOp a.eval oj))) ∨
      ((Region.wanted ok (yielded ops a.tmps) = true → Firm P S (execOp a.eval ok)) ∧ (Region.wanted ok (yielded ops a.tmps) = true → News P (execOp a.eval ok))) ∨
      ((Region.wanted ok (yielded ops a.tmps) = true → Reads P (execOp a.eval ok)) ∧ (Region.wanted oj (yielded ops a.tmps) = true → News P (execOp a.eval oj))))
    (h : wpOp P ops Q k (fun a' w' => S w' ∧ wpOp P ops Q j (fun a'' w'' => S w'' ∧ K a'' w'') a' w') a w) :
    wpOp P ops Q j (fun a' w' => S w' ∧ wpOp P ops Q k (fun a'' w'' => S w'' ∧ K a'' w'') a' w') a w := by
  obtain ⟨h1, h2, h3⟩ := Oper.apart_spec hap
  have h2' : ∀ t, oj.dst = some t → ok.dst ≠ some t := fun t ht hk' => h2 t hk' ht
  rcases hc with ⟨hc, hn⟩ | ⟨hc, hn⟩ | ⟨hc1, hc2⟩
  · obtain ⟨a1, w1, hR, hS1, h'⟩ := wpOp_ex hQ hk h
    have he := hR.exec (o := oj) (ops := ops) hsj h1
    obtain ⟨v, w2, hy, _⟩ := yl_of hQ hj (by rw [he.1, he.2]; exact hn) h'
    have hy0 : Yl P ops oj a w1 v w2 := hy.same ⟨he.1.symm, he.2.symm⟩
    obtain ⟨_, hall⟩ := hy0.firm hS1 hc
    refine Yl.mk hj (hall w hS) ⟨hS, ?_⟩
    refine xfer_in hQ hk hsk h3 h2' h fun a' w' hR' hj' => ?_
    obtain ⟨hS', hj'⟩ := hj'
    have he' := hR'.exec (o := oj) (ops := ops) hsj h1
    obtain ⟨v2, w3, hy2, hK⟩ := yl_of hQ hj (by rw [he'.1, he'.2]; exact hn) hj'
    obtain ⟨rfl, rfl⟩ := (hy2.same ⟨he'.1.symm, he'.2.symm⟩).det (hall w' hS')
    exact hK
  · obtain ⟨v, w1, hy, hS1, h'⟩ := yl_of hQ hk hn h
    obtain ⟨rfl, hall⟩ := hy.firm hS hc
    refine xfer_out hQ hj hsj h1 h2 h' fun a' w' hR hK => ?_
    exact ⟨hK.1, Yl.mk hk ((hall w' hK.1).same (hR.exec (o := ok) (ops := ops) hsk h3)) hK⟩
  · obtain ⟨v, w1, hy, hS1, h'⟩ := yl_of hQ hk (fun hw => (hc1 hw).news) h
    obtain ⟨rfl, hall⟩ := hy.reads hc1
    have he : execOp (a.put ok.dst v).eval oj = execOp a.eval oj ∧ Region.wanted oj (yielded ops (a.put ok.dst v).tmps) = Region.wanted oj (yielded ops a.tmps) := (Rch.put_ a ok.dst v).exec (ops := ops) hsj h1
    obtain ⟨u, w2, hy2, hS2, hK⟩ := yl_of hQ hj (by rw [he.1, he.2]; exact hc2) h'
    have hy2' : Yl P ops oj a w1 u w2 := hy2.same ⟨he.1.symm, he.2.symm⟩
    refine Yl.mk hj hy2' ⟨hS2, Yl.mk hk ((hall w2 (hy2'.more hc2)).same ((Rch.put_ a oj.dst u).exec (ops := ops) hsk h3)) ⟨hS2, ?_⟩⟩
    rw [← Act.put_comm a v u h2]
    exact hK

/-- Operations in a list, with S shown behind each in front of the tail. -/
def wpS (P : Program) (ops : Array Oper) (Q : Exit → Act → World → Prop) (S : World → Prop) (m : Nat) : List Nat → Act → World → Prop
  | [] => fun a w => Q .normal a w
  | i :: l => fun a w => wpOp P ops Q i (fun a' w' => (i < m → S w') ∧ wpS P ops Q S m l a' w') a w
theorem wpS_ops {S : World → Prop} {m : Nat} : ∀ (l : List Nat) (a : Act) (w : World), wpS P ops Q S m l a w → wpOps P ops Q l a w
  | [], _, _, h => h
  | i :: l, a, w, h => by
    have h1 : wpOp P ops Q i (fun a' w' => (i < m → S w') ∧ wpS P ops Q S m l a' w') a w := h
    rw [wpOps_cons]
    exact wpOp_mono (fun a' w' hh => wpS_ops l a' w' hh.2) h1

/-- Which loads stand beside an operation that they must be shown to bear. -/
def okPairN (P : Program) (ops : Array Oper) (fl : List Nat) (a b : Nat) : Bool :=
  match ops[a]?, ops[b]? with
  | some oa, some ob => oa.apart ops ob && (kind P ob == 0 || kind P oa == 0 || (kind P oa == 1 && (kind P ob == 1 || kind P ob == 2)) || (kind P oa == 1 && fl.contains a) || (kind P ob == 1 && fl.contains b))
  | _, _ => false
def okAllN (P : Program) (ops : Array Oper) (fl : List Nat) (m : Nat) : Bool :=
  Region.noSelect ops &&
  okRows ops (fun a b => decide (b < m) && okPairN P ops fl a b) ops.size ops.size 0 0 &&
  ((List.range ops.size).all fun k => match ops[k]? with
    | some o => !needs o || (List.range ops.size).all fun i => decide (i < k) || (match ops[i]? with | some o' => (match o'.dst with | some t => !(o.looksAt ops).contains t | none => true) | none => true)
    | none => true) &&
  (fl.all fun k => match ops[k]? with
    | some o => (List.range ops.size).all fun i => decide (i < k) || (match ops[i]? with | some o' => (match o'.dst with | some t => !(o.looksAt ops).contains t | none => true) | none => true)
    | none => true)
theorem okAllN_spec {fl : List Nat} {m : Nat} (h : okAllN P ops fl m = true) :
    (∀ (j : Nat) (o : Oper) (cs : Array SelectCase) (b : Bool), ops[j]? = some o → o.op ≠ .select cs b) ∧
    (∀ (b : Nat) (ob : Oper), ops[b]? = some ob → ∀ e ∈ ob.after, Region.binds .any e = true → e.on < b) ∧
    (∀ b a, b < ops.size → a < b → waits ops ops.size b a = true ∨ (b < m ∧ okPairN P ops fl a b = true)) ∧
    (∀ (k : Nat) (o : Oper), ops[k]? = some o → needs o = true ∨ k ∈ fl → ∀ i, k ≤ i → ∀ (o' : Oper), ops[i]? = some o' → ∀ t, o'.dst = some t → t ∉ o.looksAt ops) := by
  simp only [okAllN, Bool.and_eq_true, List.all_eq_true, List.mem_range] at h
  obtain ⟨⟨⟨h1, h2⟩, h3⟩, h4⟩ := h
  refine ⟨fun j o cs b hj => Region.noSelect_spec h1 j o cs b hj, fun b ob hb e he hbi => ?_, fun b a hb ha => ?_, fun k o hk hn i hki o' hi t ht => ?_⟩
  · exact (okRows_waits h2 hb).1 e he hbi
  · have := (okRows_waits h2 (Array.getElem?_eq_getElem hb)).2 a ha
    simpa using this
  · have hkl : k < ops.size := (Array.getElem?_eq_some_iff.1 hk).1
    have hil : i < ops.size := (Array.getElem?_eq_some_iff.1 hi).1
    have key : ((List.range ops.size).all fun i => decide (i < k) || (match ops[i]? with | some o' => (match o'.dst with | some t => !(o.looksAt ops).contains t | none => true) | none => true)) = true := by
      rcases hn with hn | hn
      · have := h3 k hkl
        rw [hk] at this
        simpa [hn] using this
      · have := h4 k hn
        rw [hk] at this
        exact this
    simp only [List.all_eq_true, List.mem_range] at key
    have := key i hil
    rw [hi] at this
    simp only [ht, Bool.or_eq_true, decide_eq_true_eq] at this
    rcases this with this | this
    · omega
    · simpa using this

/-- The loads of the list fl point into B. -/
def allIn (B : Nat → Prop) (w0 : World) (ops : Array Oper) (a : Act) : List Nat → Prop
  | [] => True
  | i :: is => (match ops[i]? with
      | some o => (match Region.wanted o (yielded ops a.tmps) with | true => inB B w0 o a.eval | false => True)
      | none => True) ∧ allIn B w0 ops a is
theorem allIn_at {B : Nat → Prop} {w0 : World} {a : Act} : ∀ {fl : List Nat}, allIn B w0 ops a fl → ∀ k ∈ fl, ∀ o, ops[k]? = some o → Region.wanted o (yielded ops a.tmps) = true → inB B w0 o a.eval
  | [], _, _, hk, _, _, _ => by cases hk
  | i :: is, h, k, hk, o, ho, hw => by
    rcases List.mem_cons.1 hk with rfl | hk
    · have := h.1
      rw [ho] at this
      simp only [hw] at this
      exact this
    · exact allIn_at h.2 k hk o ho hw
def EndsN (P : Program) (ops : Array Oper) (B : Nat → Prop) (w0 : World) (fl : List Nat) (Q : Exit → Act → World → Prop) : Exit → Act → World → Prop := fun e a w => e = .normal ∧ goodAll P ops a = true ∧ allIn B w0 ops a fl ∧ Q .normal a w
theorem EndsN.noExit {B : Nat → Prop} {w0 : World} {fl : List Nat} : NoExit (EndsN P ops B w0 fl Q) := fun _ _ _ he h => he h.1
theorem EndsN.intro {B : Nat → Prop} {w0 : World} {fl : List Nat} {a : Act} {w : World} (hg : goodAll P ops a = true) (hi : allIn B w0 ops a fl) (h : Q .normal a w) : EndsN P ops B w0 fl Q .normal a w := ⟨rfl, hg, hi, h⟩
theorem ends_of_endsN {B : Nat → Prop} {w0 : World} {fl : List Nat} {e : Exit} {a : Act} {w : World} (h : EndsN P ops B w0 fl Q e a w) : Ends P ops (fun _ a w => allIn B w0 ops a fl ∧ Q .normal a w) e a w := ⟨h.1, h.2.1, h.2.2⟩

theorem wpOp_post {Q1 Q2 : Exit → Act → World → Prop} (hQ : ∀ e a w, Q1 e a w → Q2 e a w) {i : Nat} {K : Act → World → Prop} {a : Act} {w : World} (h : wpOp P ops Q1 i K a w) : wpOp P ops Q2 i K a w := by
  unfold wpOp at *
  split
  · rename_i ho; simpa [ho] using h
  · rename_i o ho
    simp only [ho] at h
    split
    · rename_i hw
      simp only [hw, if_true] at h
      rcases h with h | ⟨h1, a0, w0, h2⟩
      · refine .inl ?_
        unfold Oper.wp at *
        generalize (execOp a.eval o).run P w = r at *
        cases r with
        | ok n w' =>
          cases n <;> simp only [Oper.upon] at h ⊢ <;> try exact h
          exact Calls.mono h fun e w'' he => by
            cases e with
            | returned u => exact he
            | panicked c => exact hQ _ _ _ he
            | outgrown => obtain ⟨a0, w0, h0⟩ := he; exact ⟨a0, w0, hQ _ _ _ h0⟩
        | halt x w' => cases x <;> simp only [Oper.upon] at h ⊢; exact hQ _ _ _ h
      · exact .inr ⟨h1, a0, w0, hQ _ _ _ h2⟩
    · rename_i hw
      simp only [hw] at h
      exact h
theorem wpOps_post {Q1 Q2 : Exit → Act → World → Prop} (hQ : ∀ e a w, Q1 e a w → Q2 e a w) : ∀ (l : List Nat) (a : Act) (w : World), wpOps P ops Q1 l a w → wpOps P ops Q2 l a w
  | [], _, _, h => hQ _ _ _ h
  | i :: l, a, w, h => by
    rw [wpOps_cons] at h ⊢
    exact wpOp_post hQ (wpOp_mono (fun a' w' hh => wpOps_post hQ l a' w' hh) h)

/-- What a load of the list computes with here is what it computed with at the end. -/
theorem inB_here {B : Nat → Prop} {w0 : World} {fl : List Nat} {l : List Nat} {a : Act} {w : World} (hl : ∀ i ∈ l, i < ops.size) (h : wpOps P ops (EndsN P ops B w0 fl Q) l a w) {k : Nat} {o : Oper} (hk : ops[k]? = some o) (hkd : kind P o = 1) (hm : k ∈ fl)
    (hf : ∀ i ∈ l, ∀ o', ops[i]? = some o' → ∀ t, o'.dst = some t → t ∉ o.looksAt ops) : Region.wanted o (yielded ops a.tmps) = true → Firm P (Same B w0) (execOp a.eval o) := by
  intro hw
  obtain ⟨a', w', ⟨_, _, hin, _⟩, ht⟩ := fin (Q := fun _ a w => allIn B w0 ops a fl ∧ Q .normal a w) l a w hl (wpOps_post (fun e a w he => ends_of_endsN he) l a w h)
  have hsame : ∀ t, t ∈ o.looksAt ops → a'.tmps[t]? = a.tmps[t]? := fun t hm => ht t fun i hi o' ho' e => hf i hi o' ho' t e hm
  have hev : ∀ x ∈ o.op.operands, a'.eval x = a.eval x := fun x hx => eval_same fun t e => hsame t (by
    subst e
    exact List.mem_append_left _ (List.mem_filterMap.2 ⟨.tmp t, by simpa using hx, rfl⟩))
  have hwn : Region.wanted o (yielded ops a'.tmps) = Region.wanted o (yielded ops a.tmps) := by
    unfold Region.wanted
    cases hgd : o.guard with
    | none => rfl
    | some gw =>
      obtain ⟨g, want⟩ := gw
      have : yielded ops a'.tmps g = yielded ops a.tmps g := by
        unfold yielded
        cases hd : (ops[g]?).bind (·.dst) with
        | none => rfl
        | some t =>
          have := hsame t (by simp [Oper.looksAt, hgd, hd])
          simp [this]
      simp only [this]
  have h1 := allIn_at hin k hm o hk (by rw [hwn]; exact hw)
  refine firm_of hkd ?_
  obtain ⟨dst, op, type, pos, after, guard⟩ := o
  cases op <;> simp only [inB] at h1 ⊢
  case load t x => rw [← hev x (by simp [Op.operands])]; exact h1

theorem frontN {B : Nat → Prop} {w0 : World} {fl : List Nat} {m : Nat} (hA : okAllN P ops fl m = true) {i : Nat} (him : i < m) {rest : List Nat} : ∀ (ks : List Nat) (a : Act) (w : World), Same B w0 w → (∀ x ∈ ks ++ i :: rest, x < ops.size) → (ks ++ i :: rest).Pairwise (· < ·) →
    (∀ k ∈ ks, okPairN P ops fl k i = true) → wpS P ops (EndsN P ops B w0 fl Q) (Same B w0) m (ks ++ i :: rest) a w → wpS P ops (EndsN P ops B w0 fl Q) (Same B w0) m (i :: (ks ++ rest)) a w
  | [], _, _, _, _, _, _, h => h
  | k :: ks, a, w, hS, hl, hs, hp, h => by
    obtain ⟨hsel, _, _, hkeep⟩ := okAllN_spec hA
    have hs' := List.pairwise_cons.1 hs
    have h0 := wpS_ops _ _ _ h
    have hki : k < i := hs'.1 i (by simp)
    have h : wpOp P ops (EndsN P ops B w0 fl Q) k (fun a' w' => (k < m → Same B w0 w') ∧ wpS P ops (EndsN P ops B w0 fl Q) (Same B w0) m (ks ++ i :: rest) a' w') a w := h
    have h1 : wpOp P ops (EndsN P ops B w0 fl Q) k (fun a' w' => Same B w0 w' ∧ wpS P ops (EndsN P ops B w0 fl Q) (Same B w0) m (i :: (ks ++ rest)) a' w') a w :=
      wpOp_mono (fun a' w' hh => ⟨hh.1 (by omega), frontN hA him ks a' w' (hh.1 (by omega)) (fun x hx => hl x (by simp at hx ⊢; right; exact hx)) hs'.2 (fun x hx => hp x (by simp [hx])) hh.2⟩) h
    have hkl : k < ops.size := hl k (by simp)
    have hil : i < ops.size := hl i (by simp)
    obtain ⟨ok, hk⟩ : ∃ o, ops[k]? = some o := ⟨_, Array.getElem?_eq_getElem hkl⟩
    obtain ⟨oi, hi⟩ : ∃ o, ops[i]? = some o := ⟨_, Array.getElem?_eq_getElem hil⟩
    have hpk := hp k (by simp)
    simp only [okPairN, hk, hi, Bool.and_eq_true, Bool.or_eq_true, beq_iff_eq, List.contains_iff_mem] at hpk
    obtain ⟨hap, hc⟩ := hpk
    have h2 : wpOp P ops (EndsN P ops B w0 fl Q) k (fun a' w' => Same B w0 w' ∧ wpOp P ops (EndsN P ops B w0 fl Q) i (fun a'' w'' => Same B w0 w'' ∧ wpS P ops (EndsN P ops B w0 fl Q) (Same B w0) m (ks ++ rest) a'' w'') a' w') a w :=
      wpOp_mono (fun a' w' hh => ⟨hh.1, wpOp_mono (fun a'' w'' h3 => ⟨h3.1 him, h3.2⟩) (show wpOp P ops _ i (fun a'' w'' => (i < m → Same B w0 w'') ∧ wpS P ops _ (Same B w0) m (ks ++ rest) a'' w'') a' w' from hh.2)⟩) h1
    have behind_i : ∀ x ∈ k :: ks ++ i :: rest, ∀ o', ops[x]? = some o' → (needs oi = true ∨ i ∈ fl) → ∀ t, o'.dst = some t → t ∉ oi.looksAt ops := fun x hx o' ho' hn t ht => by
      by_cases hxi : i ≤ x
      · exact hkeep i oi hi hn x hxi o' ho' t ht
      · have hxm : x ∈ k :: ks := by
          rcases List.mem_append.1 hx with h | h
          · exact h
          · rcases List.mem_cons.1 h with h | h
            · omega
            · have := (List.pairwise_append.1 hs).2.1
              have := (List.pairwise_cons.1 this).1 x h
              omega
        have hpx := hp x hxm
        simp only [okPairN, ho', hi, Bool.and_eq_true] at hpx
        exact (Oper.apart_spec hpx.1).1 t ht
    have behind_k : ∀ x ∈ k :: ks ++ i :: rest, ∀ o', ops[x]? = some o' → (needs ok = true ∨ k ∈ fl) → ∀ t, o'.dst = some t → t ∉ ok.looksAt ops := fun x hx o' ho' hn t ht => by
      refine hkeep k ok hk hn x ?_ o' ho' t ht
      rcases List.mem_cons.1 hx with h | h
      · omega
      · have := hs'.1 x h; omega
    have h0g : wpOps P ops (Ends P ops (fun _ a w => allIn B w0 ops a fl ∧ Q .normal a w)) (k :: ks ++ i :: rest) a w := wpOps_post (fun e a w he => ends_of_endsN he) _ _ _ h0
    have h3 := swapS (S := Same B w0) EndsN.noExit hk hi hap (fun cs b => hsel k ok cs b hk) (fun cs b => hsel i oi cs b hi) hS ?_ h2
    · show wpOp P ops _ i (fun a' w' => (i < m → Same B w0 w') ∧ wpS P ops _ (Same B w0) m (k :: (ks ++ rest)) a' w') a w
      refine wpOp_mono (fun a' w' hh => ⟨fun _ => hh.1, ?_⟩) h3
      show wpOp P ops _ k (fun a'' w'' => (k < m → Same B w0 w'') ∧ wpS P ops _ (Same B w0) m (ks ++ rest) a'' w'') a' w'
      exact wpOp_mono (fun a'' w'' h4 => ⟨fun _ => h4.1, h4.2⟩) hh.2
    · rcases hc with (((hc | hc) | ⟨hc1, hc2⟩) | ⟨hc, hm⟩) | ⟨hc, hm⟩
      · have hq := good_here (l := k :: ks ++ i :: rest) hl h0g hi hc fun hn x hx o' ho' t ht => behind_i x hx o' ho' (.inl hn) t ht
        exact .inl ⟨fun hw => (hq hw).firm, fun hw => (hq hw).news⟩
      · have hq := good_here (l := k :: ks ++ i :: rest) hl h0g hk hc fun hn x hx o' ho' t ht => behind_k x hx o' ho' (.inl hn) t ht
        exact .inr (.inl ⟨fun hw => (hq hw).firm, fun hw => (hq hw).news⟩)
      · exact .inr (.inr ⟨fun _ => reads_of hc1, fun _ => kind_news hc2⟩)
      · exact .inr (.inl ⟨inB_here (l := k :: ks ++ i :: rest) hl h0 hk hc hm fun x hx o' ho' t ht => behind_k x hx o' ho' (.inr hm) t ht, fun _ => kind_news (.inl hc)⟩)
      · exact .inl ⟨inB_here (l := k :: ks ++ i :: rest) hl h0 hi hc hm fun x hx o' ho' t ht => behind_i x hx o' ho' (.inr hm) t ht, fun _ => kind_news (.inl hc)⟩

theorem any_of_lexN {B : Nat → Prop} {w0 : World} {fl : List Nat} {m : Nat} (hA : okAllN P ops fl m = true) : ∀ (fuel : Nat) (l : List Nat) (listed : Array Bool) (a : Act) (w : World), l.length = fuel → listed.size = ops.size → Closed ops listed →
    l.Pairwise (· < ·) → (∀ x, x ∈ l ↔ x < ops.size ∧ listed.getD x false = false) → ((∃ x ∈ l, x < m) → Same B w0 w) → wpS P ops (EndsN P ops B w0 fl Q) (Same B w0) m l a w → wpAny P .any ops (EndsN P ops B w0 fl Q) fuel listed a w
  | 0, l, listed, a, w, hlen, hsz, hcl, hs, hm, _, h => by
    have hl0 : l = [] := List.eq_nil_of_length_eq_zero hlen
    subst hl0
    refine ⟨?_, h⟩
    refine List.eq_nil_iff_forall_not_mem.2 fun j hj => ?_
    obtain ⟨h0, o, ho, _⟩ := mem_ready.1 hj
    have hjl : j < ops.size := (Array.getElem?_eq_some_iff.1 ho).1
    have := (hm j).2 ⟨hjl, getD_both h0⟩
    cases this
  | fuel + 1, l, listed, a, w, hlen, hsz, hcl, hs, hm, hSl, h => by
    obtain ⟨_, htop, hpair, _⟩ := okAllN_spec hA
    have both : ∀ x, x < ops.size → listed.getD x false = false → listed.getD x true = false := fun x hx hf => getD_in (by omega) hf
    refine ⟨fun hr => ?_, fun i hi => ?_⟩
    · exfalso
      cases l with
      | nil => cases hlen
      | cons k l =>
        have hm0 := (hm k).1 (by simp)
        obtain ⟨o, ho⟩ : ∃ o, ops[k]? = some o := ⟨_, Array.getElem?_eq_getElem hm0.1⟩
        have : k ∈ Region.ready .any ops listed := mem_ready.2 ⟨both k hm0.1 hm0.2, o, ho, fun e he hb => by
          have hlt := htop k o ho e he hb
          cases hx : listed.getD e.on false with
          | true => rfl
          | false =>
            have hin := (hm e.on).2 ⟨by omega, hx⟩
            rcases List.mem_cons.1 hin with h1 | h1
            · omega
            · have := (List.pairwise_cons.1 hs).1 _ h1
              omega⟩
        rw [hr] at this
        cases this
    · obtain ⟨hun, oi, hoi, hall⟩ := mem_ready.1 hi
      have hil : i < ops.size := (Array.getElem?_eq_some_iff.1 hoi).1
      have hin : i ∈ l := (hm i).2 ⟨hil, getD_both hun⟩
      obtain ⟨ks, rest, rfl⟩ := List.append_of_mem hin
      have hpw := List.pairwise_append.1 hs
      have hks : ∀ k ∈ ks, i < m ∧ okPairN P ops fl k i = true := fun k hk => by
        have hki : k < i := hpw.2.2 k hk i (by simp)
        rcases hpair i k hil hki with hw | hp
        · have := waits_listed hcl ops.size i k oi hoi hall hw
          have hk2 := ((hm k).1 (by simp [hk])).2
          rw [hk2] at this
          cases this
        · exact hp
      have hfr : wpS P ops (EndsN P ops B w0 fl Q) (Same B w0) m (i :: (ks ++ rest)) a w := by
        cases ks with
        | nil => exact h
        | cons k ks =>
          have him := (hks k (by simp)).1
          exact frontN hA him (k :: ks) a w (hSl ⟨i, hin, him⟩) (fun x hx => ((hm x).1 hx).1) hs (fun x hx => (hks x hx).2) h
      have hfr : wpOp P ops (EndsN P ops B w0 fl Q) i (fun a' w' => (i < m → Same B w0 w') ∧ wpS P ops (EndsN P ops B w0 fl Q) (Same B w0) m (ks ++ rest) a' w') a w := hfr
      refine wpOp_mono (fun a' w' hh => ?_) hfr
      refine any_of_lexN hA fuel (ks ++ rest) _ a' w' (by simp at hlen ⊢; omega) (by simp [hsz]) ?_ ?_ ?_ ?_ hh.2
      · intro j o ho hl e he hb
        by_cases hij : i = j
        · subst hij
          have : o = oi := Option.some.inj (ho.symm.trans hoi)
          subst this
          exact getD_set_true (hall e he hb)
        · refine getD_set_true (hcl j o ho ?_ e he hb)
          rw [getD_set_ne false (by exact hij)] at hl
          exact hl
      · exact List.pairwise_append.2 ⟨hpw.1, (List.pairwise_cons.1 hpw.2.1).2, fun x hx y hy => hpw.2.2 x hx y (by simp [hy])⟩
      · intro x
        have hx := hm x
        have hne : x ∈ ks ++ rest → i ≠ x := by
          intro hxm e
          subst e
          rcases List.mem_append.1 hxm with h1 | h1
          · have := hpw.2.2 i h1 i (by simp)
            omega
          · have := (List.pairwise_cons.1 hpw.2.1).1 i h1
            omega
        constructor
        · intro hxm
          have h1 := hx.1 (by simp at hxm ⊢; rcases hxm with h | h <;> simp [h])
          exact ⟨h1.1, by rw [getD_set_ne false (hne hxm)]; exact h1.2⟩
        · rintro ⟨h1, h2⟩
          by_cases hix : i = x
          · subst hix
            simp [hsz, h1] at h2
          · rw [getD_set_ne false hix] at h2
            have := hx.2 ⟨h1, h2⟩
            simp at this ⊢
            rcases this with h | h | h
            · exact .inl h
            · exact absurd h.symm hix
            · exact .inr h
      · rintro ⟨x, hx, hxm⟩
        refine hh.1 ?_
        -- what comes up waits for all in front of it, so it lies in front of the tail while one of those is left
        rcases List.mem_append.1 hx with h1 | h1
        · exact (hks x h1).1
        · have := (List.pairwise_cons.1 hpw.2.1).1 x h1
          omega

def wild (P : Program) (ops : Array Oper) (i : Nat) : Bool := match ops[i]? with | some o => kind P o != 0 && kind P o != 1 && kind P o != 2 | none => false
def wpC (P : Program) (ops : Array Oper) (Q : Exit → Act → World → Prop) (S : World → Prop) (m : Nat) : List Nat → Act → World → Prop
  | [] => fun a w => Q .normal a w
  | i :: l => fun a w => wpOp P ops Q i (fun a' w' => (i < m → wild P ops i = true → S w') ∧ wpC P ops Q S m l a' w') a w
theorem wpC_ops {S : World → Prop} {m : Nat} : ∀ (l : List Nat) (a : Act) (w : World), wpC P ops Q S m l a w → wpOps P ops Q l a w
  | [], _, _, h => h
  | i :: l, a, w, h => by
    have h1 : wpOp P ops Q i (fun a' w' => (i < m → wild P ops i = true → S w') ∧ wpC P ops Q S m l a' w') a w := h
    rw [wpOps_cons]
    exact wpOp_mono (fun a' w' hh => wpC_ops l a' w' hh.2) h1
theorem upC {B : Nat → Prop} {w0 : World} {fl : List Nat} {m : Nat} (hA : okAllN P ops fl m = true) : ∀ (l : List Nat) (a : Act) (w : World), (∀ x ∈ l, x < ops.size) → l.Pairwise (· < ·) → ((∃ x ∈ l, x < m) → Same B w0 w) →
    wpC P ops (EndsN P ops B w0 fl Q) (Same B w0) m l a w → wpS P ops (EndsN P ops B w0 fl Q) (Same B w0) m l a w
  | [], _, _, _, _, _, h => h
  | i :: l, a, w, hl, hs, hS, h => by
    obtain ⟨_, _, _, hkeep⟩ := okAllN_spec hA
    have h0 := wpC_ops _ _ _ h
    have hs' := List.pairwise_cons.1 hs
    obtain ⟨o, hi⟩ : ∃ o, ops[i]? = some o := ⟨_, Array.getElem?_eq_getElem (hl i (by simp))⟩
    have h : wpOp P ops (EndsN P ops B w0 fl Q) i (fun a' w' => (i < m → wild P ops i = true → Same B w0 w') ∧ wpC P ops (EndsN P ops B w0 fl Q) (Same B w0) m l a' w') a w := h
    show wpOp P ops (EndsN P ops B w0 fl Q) i (fun a' w' => (i < m → Same B w0 w') ∧ wpS P ops (EndsN P ops B w0 fl Q) (Same B w0) m l a' w') a w
    have rec_ : ∀ a' w', (i < m → Same B w0 w') → wpC P ops (EndsN P ops B w0 fl Q) (Same B w0) m l a' w' → wpS P ops (EndsN P ops B w0 fl Q) (Same B w0) m l a' w' := fun a' w' hS' hh =>
      upC hA l a' w' (fun x hx => hl x (by simp [hx])) hs'.2 (fun ⟨x, hx, hxm⟩ => hS' (by have := hs'.1 x hx; omega)) hh
    by_cases him : i < m
    · have hSw := hS ⟨i, by simp, him⟩
      by_cases hwd : wild P ops i = true
      · exact wpOp_mono (fun a' w' hh => ⟨fun hm => hh.1 hm hwd, rec_ a' w' (fun hm => hh.1 hm hwd) hh.2⟩) h
      · have hn : Region.wanted o (yielded ops a.tmps) = true → News P (execOp a.eval o) := by
          simp only [wild, hi, Bool.and_eq_true, bne_iff_ne, ne_eq, not_and, Classical.not_not] at hwd
          intro hw
          by_cases h0k : kind P o = 0
          · have h0g : wpOps P ops (Ends P ops (fun _ a w => allIn B w0 ops a fl ∧ Q .normal a w)) (i :: l) a w := wpOps_post (fun e a w he => ends_of_endsN he) _ _ _ h0
            exact (good_here hl h0g hi h0k (fun hn x hx o' ho' t ht => hkeep i o hi (.inl hn) x (by
              rcases List.mem_cons.1 hx with h | h
              · omega
              · have := hs'.1 x h; omega) o' ho' t ht) hw).news
          · by_cases h1k : kind P o = 1
            · exact (reads_of h1k).news
            · exact news_of (hwd ⟨h0k, h1k⟩)
        obtain ⟨v, w', hy, hc, hh⟩ := yl_of EndsN.noExit hi hn h
        have hSw' : Same B w0 w' := hSw.more (hy.more hn)
        exact Yl.mk hi hy ⟨fun _ => hSw', rec_ _ _ (fun _ => hSw') hh⟩
    · exact wpOp_mono (fun a' w' hh => ⟨fun hm => absurd hm him, rec_ a' w' (fun hm => absurd hm him) hh.2⟩) h

/-- The list walked in pieces: behind each piece S is shown. -/
def Mid (S : World → Prop) (K : Act → World → Prop) : Exit → Act → World → Prop := fun e a w => e = .normal ∧ S w ∧ K a w
theorem Mid.intro {S : World → Prop} {K : Act → World → Prop} {a : Act} {w : World} (hS : S w) (h : K a w) : Mid S K .normal a w := ⟨rfl, hS, h⟩
theorem Mid.noExit {S : World → Prop} {K : Act → World → Prop} : NoExit (Mid S K) := fun _ _ _ he h => he h.1
def wpCuts (P : Program) (ops : Array Oper) (Q : Exit → Act → World → Prop) (S : World → Prop) : List Nat → List Oper → Act → World → Prop
  | [], l => wpList P ops Q l
  | c :: cs, l => wpList P ops (Mid S (wpCuts P ops Q S cs (l.drop c))) (l.take c)
def cutOK (P : Program) (ops : Array Oper) (m : Nat) : List Nat → Nat → Nat → Bool
  | [], n, k => (List.range n).all fun j => decide (m ≤ k + j) || !wild P ops (k + j)
  | c :: cs, n, k => decide (0 < c) && decide (c ≤ n) && ((List.range (c - 1)).all fun j => decide (m ≤ k + j) || !wild P ops (k + j)) && cutOK P ops m cs (n - c) (k + c)

theorem wpOp_exits {Q1 Q2 : Exit → Act → World → Prop} (hQ : NoExit Q1) {i : Nat} {K : Act → World → Prop} {a : Act} {w : World} (h : wpOp P ops Q1 i K a w) : wpOp P ops Q2 i K a w := by
  have h1 : wpOp P ops (fun _ _ _ => False) i K a w := by
    unfold wpOp at *
    split
    · rename_i ho; simpa [ho] using h
    · rename_i o ho
      simp only [ho] at h
      split
      · rename_i hw
        simp only [hw, if_true] at h
        rcases h with h | h
        · refine .inl ?_
          unfold Oper.wp at *
          generalize (execOp a.eval o).run P w = r at *
          cases r with
          | ok n w' =>
            cases n <;> simp only [Oper.upon] at h ⊢ <;> try exact h
            exact Calls.mono h fun e w'' he => by
              cases e with
              | returned u => exact he
              | panicked c => exact hQ _ _ _ (by simp) he
              | outgrown => exact absurd he hQ.out
          | halt x w' => cases x <;> simp only [Oper.upon] at h ⊢; exact hQ _ _ _ (by simp) h
        · exact absurd h.2 hQ.out
      · rename_i hw
        simp only [hw] at h
        exact h
  exact wpOp_post (fun _ _ _ h => h.elim) h1

theorem wpList_op {o : Oper} {l : List Oper} {a : Act} {w : World} {k : Nat} (hk : ops[k]? = some o) (h : wpList P ops Q (o :: l) a w) : wpOp P ops Q k (wpList P ops Q l) a w := by
  unfold wpOp
  simp only [hk]
  exact h
theorem plain_spec {S : World → Prop} {m : Nat} : ∀ (l : List Oper) (k : Nat) (a : Act) (w : World), (∀ j, j < l.length → l[j]? = ops[k + j]?) → ((List.range l.length).all fun j => decide (m ≤ k + j) || !wild P ops (k + j)) = true →
    wpList P ops Q l a w → wpC P ops Q S m (List.range' k l.length) a w
  | [], k, a, w, _, _, h => h
  | o :: l, k, a, w, hl, hw, h => by
    have h0 : ops[k]? = some o := by simpa using (hl 0 (by simp)).symm
    rw [List.length_cons, List.range'_succ]
    have hh := wpList_op h0 h
    simp only [List.all_eq_true, List.mem_range, List.length_cons] at hw
    show wpOp P ops Q k (fun a' w' => (k < m → wild P ops k = true → S w') ∧ wpC P ops Q S m (List.range' (k + 1) l.length) a' w') a w
    refine wpOp_mono (fun a' w' h1 => ⟨fun hkm hwd => ?_, plain_spec l (k + 1) a' w' (fun j hj => ?_) ?_ h1⟩) hh
    · have := hw 0 (by omega)
      simp only [Nat.add_zero, hwd, Bool.not_true, Bool.or_false, decide_eq_true_eq] at this
      omega
    · have := hl (j + 1) (by simp; omega)
      simpa [Nat.add_assoc, Nat.add_comm 1 j] using this
    · simp only [List.all_eq_true, List.mem_range]
      intro j hj
      have := hw (j + 1) (by omega)
      rwa [show k + (j + 1) = k + 1 + j from by omega] at this

theorem seg_spec {S : World → Prop} {m : Nat} {K : Act → World → Prop} {L : List Nat} (hK : ∀ a w, K a w → wpC P ops Q S m L a w) : ∀ (l : List Oper) (k : Nat) (a : Act) (w : World), (∀ j, j < l.length → l[j]? = ops[k + j]?) → 0 < l.length → ((List.range (l.length - 1)).all fun j => decide (m ≤ k + j) || !wild P ops (k + j)) = true →
    wpList P ops (Mid S K) l a w → wpC P ops Q S m (List.range' k l.length ++ L) a w
  | [], k, a, w, _, h0, _, h => by cases h0
  | o :: l, k, a, w, hl, _, hw, h => by
    have h0 : ops[k]? = some o := by simpa using (hl 0 (by simp)).symm
    have hh := wpOp_exits (Q2 := Q) Mid.noExit (wpList_op h0 h)
    rw [List.length_cons, List.range'_succ, List.cons_append]
    simp only [List.all_eq_true, List.mem_range, List.length_cons, Nat.add_sub_cancel] at hw
    show wpOp P ops Q k (fun a' w' => (k < m → wild P ops k = true → S w') ∧ wpC P ops Q S m (List.range' (k + 1) l.length ++ L) a' w') a w
    refine wpOp_mono (fun a' w' h1 => ?_) hh
    cases l with
    | nil => exact ⟨fun _ _ => h1.2.1, hK _ _ h1.2.2⟩
    | cons o2 l =>
      refine ⟨fun hkm hwd => ?_, seg_spec hK (o2 :: l) (k + 1) a' w' (fun j hj => ?_) (by simp) ?_ h1⟩
      · have := hw 0 (by simp)
        simp only [Nat.add_zero, hwd, Bool.not_true, Bool.or_false, decide_eq_true_eq] at this
        omega
      · have := hl (j + 1) (by simp at hj ⊢; omega)
        simpa [Nat.add_assoc, Nat.add_comm 1 j] using this
      · simp only [List.all_eq_true, List.mem_range, List.length_cons, Nat.add_sub_cancel]
        intro j hj
        have := hw (j + 1) (by simp; omega)
        rwa [show k + (j + 1) = k + 1 + j from by omega] at this

theorem cuts_spec {S : World → Prop} {m : Nat} : ∀ (cs : List Nat) (l : List Oper) (k : Nat) (a : Act) (w : World), (∀ j, j < l.length → l[j]? = ops[k + j]?) → cutOK P ops m cs l.length k = true →
    wpCuts P ops Q S cs l a w → wpC P ops Q S m (List.range' k l.length) a w
  | [], l, k, a, w, hl, hc, h => plain_spec l k a w hl hc h
  | c :: cs, l, k, a, w, hl, hc, h => by
    simp only [cutOK, Bool.and_eq_true, decide_eq_true_eq] at hc
    obtain ⟨⟨⟨h1, h2⟩, h3⟩, h4⟩ := hc
    have hlen : (l.take c).length = c := by simp; omega
    have hr : List.range' k l.length = List.range' k (l.take c).length ++ List.range' (k + c) (l.drop c).length := by
      rw [hlen, List.length_drop, List.range'_append_1, show c + (l.length - c) = l.length from by omega]
    rw [hr]
    refine seg_spec (fun a' w' hk => cuts_spec cs (l.drop c) (k + c) a' w' (fun j hj => ?_) (by rw [List.length_drop]; exact h4) hk) (l.take c) k a w (fun j hj => ?_) (by omega) (by rw [hlen]; exact h3) h
    · rw [List.getElem?_drop, hl (c + j) (by simp at hj; omega), Nat.add_assoc]
    · rw [List.getElem?_take, if_pos (by omega), hl j (by simp at hj; omega)]

/-- **THE LAW, WITH LOADS BESIDE CALLS.** fl: the loads that stand beside a call · m: where the tail begins · cs: the lengths of the pieces, each ending at a call. -/
theorem wp_region_lexN {id : Nat} {l : List Oper} {Q : Exit → Act → World → Prop} {a : Act} {w : World} (B : Nat → Prop) (fl : List Nat) (m : Nat) (cs : List Nat) (hm : P.follows .mixedOrders = true) (hA : okAllN P l.toArray fl m = true) (hC : cutOK P l.toArray m cs l.length 0 = true)
    (h : wpCuts P l.toArray (EndsN P l.toArray B w.drew fl Q) (Same B w.drew) cs l a w.drew) : (Code.region id l.toArray true).wp P Q a w := by
  refine Code.wp_mono (Q := EndsN P l.toArray B w.drew fl Q) (fun e a' w' he => by obtain ⟨rfl, _, _, h⟩ := he; exact h) (wp_region_any hm ?_)
  have hlt : ∀ x ∈ List.range l.toArray.size, x < l.toArray.size := fun x hx => List.mem_range.1 hx
  refine any_of_lexN hA l.toArray.size (List.range l.toArray.size) _ a _ (by simp) (by simp) ?_ List.pairwise_lt_range (fun x => by
    constructor
    · intro hx
      have := List.mem_range.1 hx
      exact ⟨this, by simp only [Array.getD_eq_getD_getElem?]; simp at this ⊢; simp [this]⟩
    · exact fun hx => List.mem_range.2 hx.1) (fun _ => Same.refl _ _) ?_
  · intro j o ho hl
    rw [getD_replicate_false] at hl
    cases hl
  · refine upC hA _ _ _ hlt List.pairwise_lt_range (fun _ => Same.refl _ _) ?_
    rw [List.range_eq_range', show l.toArray.size = l.length from by simp]
    exact cuts_spec cs l 0 a _ (by simp) hC h
end
end Lex
end Go.Proofs.YtjlpdknomdhbhaaGreatDoor
