/- A range over a function: the statement's law for an iterator that walks a map: between rounds it turns its own place in the map alone; a round leaves maps and such places alone. Conditions: those of the law. -/
import Derived.Test.YtjlpdknomdhbhaaGreatDoorRangeGen
namespace Go.Proofs.YtjlpdknomdhbhaaGreatDoor
set_option linter.unusedVariables false
set_option linter.unusedSimpArgs false
open Go Go.RowKit
/-- What an iterator over a map may turn: its own place (from block B on), and new blocks. -/
structure Quiet (B : Nat) (W W' : World) : Prop where
  os : W'.os = W.os
  tape : W'.tape = W.tape
  output : W'.output = W.output
  size : W.heap.size ≤ W'.heap.size
  kept : ∀ (k : Nat) (o : _root_.Go.Obj), W.heap[k]? = some o → (k < B ∨ ∀ a b c d, o ≠ _root_.Go.Obj.mapIter a b c d) → W'.heap[k]? = some o
theorem Quiet.refl (B : Nat) (W : World) : Quiet B W W := ⟨rfl, rfl, rfl, Nat.le_refl _, fun _ _ h _ => h⟩
theorem Quiet.trans {B : Nat} {X Y Z : World} (h : Quiet B X Y) (k : Quiet B Y Z) : Quiet B X Z := ⟨k.os.trans h.os, k.tape.trans h.tape, k.output.trans h.output, Nat.le_trans h.size k.size, fun i o hi hn => k.kept i o (h.kept i o hi hn) hn⟩
theorem Quiet.below {B : Nat} {W W' : World} (h : Below W.heap.size W W') : Quiet B W W' := ⟨h.os, h.tape, h.output, h.size, fun k o hk _ => (h.block k (Array.getElem?_eq_some_iff.1 hk).1).trans hk⟩
theorem Quiet.grown {B : Nat} {W W' : World} {r : Nat} {a : Option Nat} {b : Nat} {c : Array Nat} {d : Nat} (h : W.grownBy W' (some r)) (hr : W.heap[r]? = some (.mapIter a b c d)) (hB : B ≤ r) : Quiet B W W' :=
  ⟨h.os, h.tape, h.output, h.size, fun k o hk hn => (h.block k (Array.getElem?_eq_some_iff.1 hk).1 (fun e => by
    have e2 : k = r := by simpa using e
    rcases hn with hn | hn
    · omega
    · rw [e2, hr] at hk
      cases hk
      exact hn _ _ _ _ rfl)).trans hk⟩
theorem Quiet.at {B : Nat} {W W' : World} {b : Nat} {t : TypeId} {cs : Array Value} (h : Quiet B W W') (ha : At W b t cs) : At W' b t cs := h.kept b _ ha (.inr fun _ _ _ _ e => by cases e)
theorem Quiet.own {B : Nat} {W W' : World} {base n size : Nat} {e : TypeId} {v : Value} {xs : List Value} (h : Quiet B W W') (ho : W.ownsRow base e size v n xs) : W'.ownsRow base e size v n xs := by
  obtain ⟨hl, hn | ⟨g, cap, cur, rfl, hb, hc, hr⟩⟩ := ho
  · exact ⟨hl, .inl hn⟩
  · exact ⟨hl, .inr ⟨g, cap, cur, rfl, hb, h.kept g _ hc (.inr fun _ _ _ _ e => by cases e), hr⟩⟩
theorem Quiet.under {B : Nat} {w W W' : World} (h : Quiet B W W') (hb : Below B w W) (hw : B ≤ w.heap.size) : Below B w W' :=
  ⟨h.os.trans hb.os, h.tape.trans hb.tape, h.output.trans hb.output, Nat.le_trans hb.size h.size, fun k hk => by
    have h1 : k < w.heap.size := by omega
    have h2 := hb.block k hk
    rw [← h2]
    have h3 : W.heap[k]? = some (w.heap[k]'h1) := by rw [h2, Array.getElem?_eq_getElem h1]
    rw [h3]
    exact h.kept k _ h3 (.inl hk)⟩
/-- Maps and places in maps stand. -/
def Maps2 (W W' : World) : Prop := ∀ (k : Nat) (o : _root_.Go.Obj), W.heap[k]? = some o → ((∃ a b c d, o = _root_.Go.Obj.mapIter a b c d) ∨ ∃ e c, o = _root_.Go.Obj.map e c) → W'.heap[k]? = some o
theorem Maps2.trans {A B C : World} (h : Maps2 A B) (k : Maps2 B C) : Maps2 A C := fun i o hi ho => k i o (h i o hi ho) ho
theorem Maps2.below {W W' : World} (h : Below W.heap.size W W') : Maps2 W W' := fun k o hk _ => (h.block k (Array.getElem?_eq_some_iff.1 hk).1).trans hk
/-- What a round leaves. -/
def roundEndM {β : Type} (d : Nat) (J : β → World → Prop) (Jx : Code → World → Prop) (s' : β) (W : World) : Exit → Act → World → Prop := fun e _ W' =>
  (W'.heap[d]? = W.heap[d]? ∧ W'.heap[d + 1]? = W.heap[d + 1]?) ∧ Maps2 W W' ∧ (e = .normal ∧ J s' W' ∨ ∃ c, (e = .ret ∧ c = .ret ∨ ∃ i, e = .exit i ∧ c = .exit i) ∧ Jx c W')
/-- How an iterator ends. -/
def iterPostM {β : Type} (J' : β → World → Prop) (Jx' : World → Prop) (Done : β → Prop) (e : Ending) (W' : World) : Prop := (∃ v, e = .returned v) ∧ ((∃ s, Done s ∧ J' s W') ∨ Jx' W')
/-- The contract of an iterator that walks a map. -/
def IterM {α β : Type} (B : Nat) (F : Fence) (m : Nat) (P : Program) (gf : Nat) (args : Nat → Array Value) (encs : α → Array Value) (J : β → World → Prop) (Step : β → α → β → Prop) (Done : β → Prop) (s0 : β) : Prop :=
  ∀ (l : Nat) (J' : β → World → Prop) (Jx' : World → Prop) (W : World), B ≤ W.heap.size → (∀ s W, J' s W → J s W) → (∀ s W W', J' s W → Quiet B W W' → J' s W') →
    (∀ s x s' W, J' s W → Step s x s' → YieldAt F (m - 1) P l (encs x) W (fun e W' => e = .returned (.bool true) ∧ J' s' W' ∧ Maps2 W W' ∨ e = .returned (.bool false) ∧ Jx' W')) → J' s0 W →
    CallsIn F m P gf (args l) W (iterPostM J' Jx' Done)
theorem wpIn_rangeFunc_iterM {α β : Type} {P : Program} {n : Nat} {r : Option Nat} {g : Operand} {ps : Array Tmp} {assign body : Code} {Q : Exit → Act → World → Prop} {a : Act} {w : World} {gf : Nat} {pre lb : Array Value}
    (hro : r = none) (hg : a.eval g = .func (.func gf) pre lb) (eg : ∀ args w, (callFunc gf args).run P w = .ok (.enter gf args) w) (encs : α → Array Value) (hps : ∀ x, (encs x).size = ps.size)
    (J : β → World → Prop) (Jx : Code → World → Prop) (Step : β → α → β → Prop) (Done : β → Prop) (s0 : β)
    (B : Nat) (hB : B ≤ w.heap.size) (hJb : ∀ s W W', J s W → Quiet B W W' → J s W') (hJl : ∀ s W W', J s W → Fr (fun k => k = w.heap.size + 1) W W' → J s W') (hJxl : ∀ c W W', Jx c W → Fr (fun k => k = w.heap.size + 1) W W' → Jx c W')
    (h0 : J s0 w)
    (hiter : IterM B (Lex.W r) (n - 1) P gf (fun l => pre ++ (#[.func (.yield l) #[] #[]] ++ lb)) encs J Step Done s0)
    (hround : ∀ s x s' W, w.heap.size + 1 < W.heap.size → J s W → Step s x s' →
      assign.wpIn (Lex.W (some (w.heap.size + 1))) (n - 1 - 1) P (Exit.then (fun a₁ W₁ => W₁ = W ∧ ∀ W₂, Fr (fun k => k = w.heap.size + 1) W W₂ → 
        body.wpIn (Lex.W (some (w.heap.size + 1))) (n - 1 - 1) P (roundEndM w.heap.size J Jx s' W₂) a₁ W₂) (fun _ _ _ => False)) { tmps := (ps.zip (encs x)).foldl (fun t (p, v) => t.setIfInBounds p v) a.tmps, defers := [] } W)
    (hdone : ∀ s W, Done s → J s W → W.heap[w.heap.size]? = some (.deferred (some [])) → Q .normal { a with defers := { target := .collected w.heap.size, args := #[] } :: a.defers } W)
    (hstop : ∀ (c : Code) (W : World), Jx c W → W.heap[w.heap.size]? = some (.deferred (some [])) → c.wpIn (Lex.W r) n P Q { a with defers := { target := .collected w.heap.size, args := #[] } :: a.defers } W) :
    (Code.rangeFunc g ps assign body).wpIn (Lex.W r) n P Q a w := by
  refine wpIn_rangeFunc ?_
  intro fn hfn
  subst hro
  obtain ⟨rec, hrec⟩ : ∃ rec : LoopState → Option Code → Loop, rec = fun st pe => { state := st, pending := pe, fn, tmps := a.tmps, params := ps, assign, body, defers := w.heap.size } := ⟨_, rfl⟩
  obtain ⟨W1, hW1⟩ : ∃ W1, (w.alloc (.deferred (some []))).alloc (.loop (rec .ready none)) = W1 := ⟨_, rfl⟩
  have hL1 : W1.heap[w.heap.size + 1]? = some (.loop (rec .ready none)) := by
    rw [← hW1]; have := World.alloc_heap_new (w.alloc (.deferred (some []))) (.loop (rec .ready none)); rwa [World.size_alloc] at this
  have hK1 : W1.heap[w.heap.size]? = some (.deferred (some [])) := by
    rw [← hW1]; exact (Below.heap_alloc _ _ _ (by simp)).trans (World.alloc_heap_new w _)
  have hb1 : Below w.heap.size w W1 := by
    rw [← hW1]; exact ((Below.refl _ w).alloc (Nat.le_refl _) _).alloc (by simp) _
  refine ⟨w.heap.size + 1, [{ target := .collected w.heap.size, args := #[] }], W1, { target := .fn (.func gf) lb, args := pre ++ #[.func (.yield (w.heap.size + 1)) #[] #[]] }, W1, gf,
    pre ++ (#[.func (.yield (w.heap.size + 1)) #[] #[]] ++ lb), W1, ?_, ?_, fun _ _ => trivial, ?_, fun h => (by cases h), ?_⟩
  · rw [← hW1, hrec]; exact run_enterLoop_outer _ _ _ _ _
  · simp only [resolve, hg]
    simp [go_sem]
  · simp [invoke, go_sem, eg]
  · refine (hiter (w.heap.size + 1) (fun s W' => J s W' ∧ W'.heap[w.heap.size + 1]? = some (.loop (rec .ready none)) ∧ W'.heap[w.heap.size]? = some (.deferred (some [])))
      (fun W' => ∃ c, Jx c W' ∧ W'.heap[w.heap.size + 1]? = some (.loop (rec .done (some c))) ∧ W'.heap[w.heap.size]? = some (.deferred (some []))) W1 (Nat.le_trans hB hb1.size)
      (fun s W h => h.1)
      (fun s W W' h hb => ⟨hJb s W W' h.1 hb, hb.kept _ _ h.2.1 (.inr fun _ _ _ _ e => by cases e), hb.kept _ _ h.2.2 (.inr fun _ _ _ _ e => by cases e)⟩) ?_ ⟨hJb s0 w W1 h0 (Quiet.below hb1), hL1, hK1⟩).mono ?_
    · rintro s x s' W ⟨hJ, hl, hd⟩ hst
      have hlt : w.heap.size + 1 < W.heap.size := (Array.getElem?_eq_some_iff.1 hl).1
      have hy := run_yield (P := P) (args := encs x) hl (by rw [hrec]; exact hps x)
      rw [hrec] at hy
      refine ⟨fn, _, assign, body, hy, roundIn_of_wpIn hfn (wpIn_mono (hround s x s' W hlt hJ hst) ?_)⟩
      rintro e a₁ W₁ he
      cases e with
      | normal =>
        obtain ⟨rfl, hbody⟩ := he
        refine ⟨_, run_beginRound hl (by rw [hrec]), ?_⟩
        have hl2 : (W₁.putObj (w.heap.size + 1) (.loop { rec .ready none with state := .busy })).heap[w.heap.size + 1]? = some (.loop { rec .ready none with state := .busy }) := World.putObj_heap_same hlt
        have hd2 : (W₁.putObj (w.heap.size + 1) (.loop { rec .ready none with state := .busy })).heap[w.heap.size]? = some (.deferred (some [])) := (World.putObj_heap_other (by omega)).trans hd
        have hm2 : Maps2 W₁ (W₁.putObj (w.heap.size + 1) (.loop { rec .ready none with state := .busy })) := fun k o hk ho => (World.putObj_heap_other (fun e => by
          rw [e, hl] at hk
          cases hk
          rcases ho with ⟨_, _, _, _, ho⟩ | ⟨_, _, ho⟩ <;> cases ho)).trans hk
        refine wpIn_mono (hbody _ (fr_putObj _ _ _)) ?_
        rintro e a3 W3 ⟨hk3, hmm3, hres⟩
        have hl3 := hk3.2.trans hl2
        have hd3 := hk3.1.trans hd2
        have hm4 : ∀ o', Maps2 W3 (W3.putObj (w.heap.size + 1) o') := fun o' k o hk ho => (World.putObj_heap_other (fun e => by
          rw [e, hl3] at hk
          cases hk
          rcases ho with ⟨_, _, _, _, ho⟩ | ⟨_, _, ho⟩ <;> cases ho)).trans hk
        rcases hres with ⟨rfl, hJ3⟩ | ⟨c, hc, hx⟩
        · have hr := run_endRound (P := P) none hl3
          have hl4 := World.putObj_heap_same (o := .loop (rec .ready none)) (Array.getElem?_eq_some_iff.1 hl3).1
          have hk4 : (W3.putObj (w.heap.size + 1) (.loop (rec .ready none))).heap[w.heap.size]? = some (.deferred (some [])) := (World.putObj_heap_other (by omega)).trans hd3
          have hf := hJl s' _ _ hJ3 (fr_putObj W3 (w.heap.size + 1) (.loop (rec .ready none)))
          have hmf := hm2.trans (hmm3.trans (hm4 (.loop (rec .ready none))))
          rw [hrec] at hr hl4 hk4 hf hmf
          refine ⟨_, _, hr, .inl ⟨rfl, ⟨hf, by rw [hrec]; exact hl4, hk4⟩, hmf⟩⟩
        · have hr := run_endRound (P := P) (some c) hl3
          have hl4 := World.putObj_heap_same (o := .loop (rec .done (some c))) (Array.getElem?_eq_some_iff.1 hl3).1
          have hk4 : (W3.putObj (w.heap.size + 1) (.loop (rec .done (some c)))).heap[w.heap.size]? = some (.deferred (some [])) := (World.putObj_heap_other (by omega)).trans hd3
          have hf := hJxl c _ _ hx (fr_putObj W3 (w.heap.size + 1) (.loop (rec .done (some c))))
          rw [hrec] at hr hl4 hk4 hf
          rcases hc with ⟨rfl, rfl⟩ | ⟨i, rfl, rfl⟩
          · exact ⟨_, _, hr, .inr ⟨rfl, .ret, hf, by rw [hrec]; exact hl4, hk4⟩⟩
          · exact ⟨_, _, hr, .inr ⟨rfl, .exit i, hf, by rw [hrec]; exact hl4, hk4⟩⟩
      | ret => exact he.elim
      | exit id => exact he.elim
      | goto t => exact he.elim
      | panic ch => exact he.elim
      | outgrown => exact he.elim
    · rintro e W2 ⟨⟨v, rfl⟩, ⟨s, hD, hJ, hl, hd⟩ | ⟨c, hi, hl, hd⟩⟩
      · refine ⟨none, _, by have := run_endLoop (P := P) hl (by rw [hrec]; simp); rw [hrec] at this; exact this, hdone s _ hD (hJl s _ _ hJ (fr_putObj _ _ _)) ((World.putObj_heap_other (by omega)).trans hd)⟩
      · refine ⟨some c, _, by have := run_endLoop (P := P) hl (by rw [hrec]; simp); rw [hrec] at this; exact this, hstop c _ (hJxl c _ _ hi (fr_putObj _ _ _)) ((World.putObj_heap_other (by omega)).trans hd)⟩
end Go.Proofs.YtjlpdknomdhbhaaGreatDoor
