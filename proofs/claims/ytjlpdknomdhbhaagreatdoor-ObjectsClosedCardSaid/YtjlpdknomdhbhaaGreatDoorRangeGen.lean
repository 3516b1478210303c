/- A range over a function: the statement's law for an iterator that lays new blocks alone. Conditions: those of the law. -/
import Derived.Test.YtjlpdknomdhbhaaGreatDoorRangeOne
import Derived.Test.YtjlpdknomdhbhaaGreatDoorBase
namespace Go.Proofs.YtjlpdknomdhbhaaGreatDoor
set_option linter.unusedVariables false
set_option linter.unusedSimpArgs false
open Go Go.RowKit
/-- What a round keeps: the two blocks of the loop's book-keeping, and what the iterator has laid from block b on. -/
structure RKeep (d b : Nat) (W W' : World) : Prop where
  size : W.heap.size ≤ W'.heap.size
  two : W'.heap[d]? = W.heap[d]? ∧ W'.heap[d + 1]? = W.heap[d + 1]?
  bet : ∀ k, b ≤ k → k < W.heap.size → W'.heap[k]? = W.heap[k]?
theorem RKeep.refl (d b : Nat) (W : World) : RKeep d b W W := ⟨Nat.le_refl _, ⟨rfl, rfl⟩, fun _ _ _ => rfl⟩
theorem RKeep.trans {d b : Nat} {A B C : World} (h : RKeep d b A B) (k : RKeep d b B C) : RKeep d b A C :=
  ⟨Nat.le_trans h.size k.size, ⟨k.two.1.trans h.two.1, k.two.2.trans h.two.2⟩, fun i hi hl => (k.bet i hi (Nat.lt_of_lt_of_le hl h.size)).trans (h.bet i hi hl)⟩
theorem RKeep.below {d b : Nat} {W W' : World} (h : Below W.heap.size W W') (hd : d + 1 < W.heap.size) : RKeep d b W W' := ⟨h.size, ⟨h.block _ (by omega), h.block _ hd⟩, fun _ _ hk => h.block _ hk⟩
theorem RKeep.fr {F : Nat → Prop} {d b : Nat} {W W' : World} (h : Fr F W W') (hd : d + 1 < W.heap.size) (h1 : ¬ F d) (h2 : ¬ F (d + 1)) (hb : ∀ k, F k → k < b) : RKeep d b W W' :=
  ⟨h.size, ⟨h.keep _ (by omega) h1, h.keep _ hd h2⟩, fun k hk hl => h.keep k hl (fun hf => by have := hb k hf; omega)⟩
/-- What a round leaves. -/
def roundEnd {β : Type} (d b : Nat) (J : β → World → Prop) (Jx : Code → World → Prop) (s' : β) (W : World) : Exit → Act → World → Prop := fun e _ W' =>
  RKeep d b W W' ∧ (e = .normal ∧ J s' W' ∨ ∃ c, (e = .ret ∧ c = .ret ∨ ∃ i, e = .exit i ∧ c = .exit i) ∧ Jx c W')
/-- How an iterator ends. -/
def iterPost {β : Type} (J' : β → World → Prop) (Jx' : World → Prop) (Done : β → Prop) (e : Ending) (W' : World) : Prop := (∃ v, e = .returned v) ∧ ((∃ s, Done s ∧ J' s W') ∨ Jx' W')
/-- The contract of an iterator that lays new blocks alone: it goes from state to state as Step says, and ends in one that is Done, or where a round said no more. -/
def Iter {α β : Type} (F : Fence) (m : Nat) (P : Program) (gf : Nat) (args : Nat → Array Value) (encs : α → Array Value) (J : β → World → Prop) (Step : β → α → β → Prop) (Done : β → Prop) (s0 : β) : Prop :=
  ∀ (l : Nat) (J' : β → World → Prop) (Jx' : World → Prop) (W : World), (∀ s W, J' s W → J s W) → (∀ s W W', J' s W → Below W.heap.size W W' → J' s W') →
    (∀ s x s' W0 W, J' s W0 → Below W0.heap.size W0 W → Step s x s' → YieldAt F (m - 1) P l (encs x) W (fun e W' => e = .returned (.bool true) ∧ J' s' W' ∧ (∀ k, W0.heap.size ≤ k → k < W.heap.size → W'.heap[k]? = W.heap[k]?) ∨ e = .returned (.bool false) ∧ Jx' W')) → J' s0 W →
    CallsIn F m P gf (args l) W (iterPost J' Jx' Done)
theorem fr_putObj (W : World) (l : Nat) (o : Obj) : Fr (fun k => k = l) W (W.putObj l o) := ⟨rfl, rfl, rfl, by simp [World.putObj], fun _ _ hn => World.putObj_heap_other hn⟩
theorem wpIn_rangeFunc_iter {α β : Type} {P : Program} {n : Nat} {r : Option Nat} {g : Operand} {ps : Array Tmp} {assign body : Code} {Q : Exit → Act → World → Prop} {a : Act} {w : World} {gf : Nat} {pre lb : Array Value}
    (hro : r = none) (hg : a.eval g = .func (.func gf) pre lb) (eg : ∀ args w, (callFunc gf args).run P w = .ok (.enter gf args) w) (encs : α → Array Value) (hps : ∀ x, (encs x).size = ps.size)
    (J : β → World → Prop) (Jx : Code → World → Prop) (Step : β → α → β → Prop) (Done : β → Prop) (s0 : β)
    (hJb : ∀ s W W', J s W → Below W.heap.size W W' → J s W') (hJl : ∀ s W W', J s W → Fr (fun k => k = w.heap.size + 1) W W' → J s W') (hJxl : ∀ c W W', Jx c W → Fr (fun k => k = w.heap.size + 1) W W' → Jx c W')
    (h0 : J s0 w)
    (hiter : Iter (Lex.W r) (n - 1) P gf (fun l => pre ++ (#[.func (.yield l) #[] #[]] ++ lb)) encs J Step Done s0)
    (hround : ∀ s x s' W0 W, w.heap.size + 1 < W0.heap.size → J s W0 → Below W0.heap.size W0 W → Step s x s' →
      assign.wpIn (Lex.W (some (w.heap.size + 1))) (n - 1 - 1) P (Exit.then (fun a₁ W₁ => RKeep w.heap.size W0.heap.size W W₁ ∧ ∀ W₂, Fr (fun k => k = w.heap.size + 1) W₁ W₂ → 
        body.wpIn (Lex.W (some (w.heap.size + 1))) (n - 1 - 1) P (roundEnd w.heap.size W0.heap.size J Jx s' W₂) a₁ W₂) (fun _ _ _ => False)) { tmps := (ps.zip (encs x)).foldl (fun t (p, v) => t.setIfInBounds p v) a.tmps, defers := [] } W)
    (hdone : ∀ s W, Done s → J s W → W.heap[w.heap.size]? = some (.deferred (some [])) → Q .normal { a with defers := { target := .collected w.heap.size, args := #[] } :: a.defers } W)
    (hstop : ∀ (c : Code) (W : World), Jx c W → W.heap[w.heap.size]? = some (.deferred (some [])) → c.wpIn (Lex.W r) n P Q { a with defers := { target := .collected w.heap.size, args := #[] } :: a.defers } W) :
    (Code.rangeFunc g ps assign body).wpIn (Lex.W r) n P Q a w := by
  refine wpIn_rangeFunc ?_
  intro fn hfn
  subst hro
  obtain ⟨rec, hrec⟩ : ∃ rec : LoopState → Option Code → Loop, rec = fun st pe => { state := st, pending := pe, fn, tmps := a.tmps, params := ps, assign, body, defers := w.heap.size } := ⟨_, rfl⟩
  obtain ⟨W1, hW1⟩ : ∃ W1, (w.alloc (.deferred (some []))).alloc (.loop (rec .ready none)) = W1 := ⟨_, rfl⟩
  have hL1 : W1.heap[w.heap.size + 1]? = some (.loop (rec .ready none)) := by
    rw [← hW1]; have := World.alloc_heap_new (w.alloc (.deferred (some []))) (.loop (rec .ready none)); rwa [World.size_alloc] at this
  have hK1 : W1.heap[w.heap.size]? = some (.deferred (some [])) := by
    rw [← hW1]; exact (Below.heap_alloc _ _ _ (by simp)).trans (World.alloc_heap_new w _)
  have hb1 : Below w.heap.size w W1 := by
    rw [← hW1]; exact ((Below.refl _ w).alloc (Nat.le_refl _) _).alloc (by simp) _
  refine ⟨w.heap.size + 1, [{ target := .collected w.heap.size, args := #[] }], W1, { target := .fn (.func gf) lb, args := pre ++ #[.func (.yield (w.heap.size + 1)) #[] #[]] }, W1, gf,
    pre ++ (#[.func (.yield (w.heap.size + 1)) #[] #[]] ++ lb), W1, ?_, ?_, fun _ _ => trivial, ?_, fun h => (by cases h), ?_⟩
  · rw [← hW1, hrec]; exact run_enterLoop_outer _ _ _ _ _
  · simp only [resolve, hg]
    simp [go_sem]
  · simp [invoke, go_sem, eg]
  · refine (hiter (w.heap.size + 1) (fun s W' => J s W' ∧ W'.heap[w.heap.size + 1]? = some (.loop (rec .ready none)) ∧ W'.heap[w.heap.size]? = some (.deferred (some [])))
      (fun W' => ∃ c, Jx c W' ∧ W'.heap[w.heap.size + 1]? = some (.loop (rec .done (some c))) ∧ W'.heap[w.heap.size]? = some (.deferred (some []))) W1
      (fun s W h => h.1)
      (fun s W W' h hb => by
        have hl := (Array.getElem?_eq_some_iff.1 h.2.1).1
        exact ⟨hJb s W W' h.1 hb, (hb.block _ hl).trans h.2.1, (hb.block _ (by omega)).trans h.2.2⟩) ?_ ⟨hJb s0 w W1 h0 hb1, hL1, hK1⟩).mono ?_
    · rintro s x s' W0 W ⟨hJ, hl0, hd0⟩ hbW hst
      have hlt0 : w.heap.size + 1 < W0.heap.size := (Array.getElem?_eq_some_iff.1 hl0).1
      have hl := (hbW.block _ hlt0).trans hl0
      have hd := (hbW.block w.heap.size (by omega)).trans hd0
      have hlt : w.heap.size + 1 < W.heap.size := (Array.getElem?_eq_some_iff.1 hl).1
      have hy := run_yield (P := P) (args := encs x) hl (by rw [hrec]; exact hps x)
      rw [hrec] at hy
      refine ⟨fn, _, assign, body, hy, roundIn_of_wpIn hfn (wpIn_mono (hround s x s' W0 W hlt0 hJ hbW hst) ?_)⟩
      rintro e a₁ W₁ he
      cases e with
      | normal =>
        obtain ⟨hk, hbody⟩ := he
        have hl1 : W₁.heap[w.heap.size + 1]? = some (.loop (rec .ready none)) := hk.two.2.trans hl
        have hd1 : W₁.heap[w.heap.size]? = some (.deferred (some [])) := hk.two.1.trans hd
        refine ⟨_, run_beginRound hl1 (by rw [hrec]), ?_⟩
        have hlt1 : w.heap.size + 1 < W₁.heap.size := (Array.getElem?_eq_some_iff.1 hl1).1
        have hl2 : (W₁.putObj (w.heap.size + 1) (.loop { rec .ready none with state := .busy })).heap[w.heap.size + 1]? = some (.loop { rec .ready none with state := .busy }) := World.putObj_heap_same hlt1
        have hd2 : (W₁.putObj (w.heap.size + 1) (.loop { rec .ready none with state := .busy })).heap[w.heap.size]? = some (.deferred (some [])) := (World.putObj_heap_other (by omega)).trans hd1
        refine wpIn_mono (hbody _ (fr_putObj _ _ _)) ?_
        rintro e a3 W3 ⟨hk3, hres⟩
        have hl3 := hk3.two.2.trans hl2
        have hd3 := hk3.two.1.trans hd2
        rcases hres with ⟨rfl, hJ3⟩ | ⟨c, hc, hx⟩
        · have hr := run_endRound (P := P) none hl3
          have hl4 := World.putObj_heap_same (o := .loop (rec .ready none)) (Array.getElem?_eq_some_iff.1 hl3).1
          have hk4 : (W3.putObj (w.heap.size + 1) (.loop (rec .ready none))).heap[w.heap.size]? = some (.deferred (some [])) := (World.putObj_heap_other (by omega)).trans hd3
          have hf := hJl s' _ _ hJ3 (fr_putObj W3 (w.heap.size + 1) (.loop (rec .ready none)))
          rw [hrec] at hr hl4 hk4 hf
          refine ⟨_, _, hr, .inl ⟨rfl, ⟨hf, by rw [hrec]; exact hl4, hk4⟩, fun k hk0 hkl => ?_⟩⟩
          have hsz2 : W₁.heap.size = (W₁.putObj (w.heap.size + 1) (.loop { rec .ready none with state := .busy })).heap.size := by simp [World.putObj]
          exact (World.putObj_heap_other (by omega)).trans ((hk3.bet k hk0 (by rw [← hsz2]; exact Nat.lt_of_lt_of_le hkl hk.size)).trans ((World.putObj_heap_other (by omega)).trans (hk.bet k hk0 hkl)))
        · have hr := run_endRound (P := P) (some c) hl3
          have hl4 := World.putObj_heap_same (o := .loop (rec .done (some c))) (Array.getElem?_eq_some_iff.1 hl3).1
          have hk4 : (W3.putObj (w.heap.size + 1) (.loop (rec .done (some c)))).heap[w.heap.size]? = some (.deferred (some [])) := (World.putObj_heap_other (by omega)).trans hd3
          have hf := hJxl c _ _ hx (fr_putObj W3 (w.heap.size + 1) (.loop (rec .done (some c))))
          rw [hrec] at hr hl4 hk4 hf
          rcases hc with ⟨rfl, rfl⟩ | ⟨i, rfl, rfl⟩
          · exact ⟨_, _, hr, .inr ⟨rfl, .ret, hf, by rw [hrec]; exact hl4, hk4⟩⟩
          · exact ⟨_, _, hr, .inr ⟨rfl, .exit i, hf, by rw [hrec]; exact hl4, hk4⟩⟩
      | ret => exact he.elim
      | exit id => exact he.elim
      | goto t => exact he.elim
      | panic ch => exact he.elim
      | outgrown => exact he.elim
    · rintro e W2 ⟨⟨v, rfl⟩, ⟨s, hD, hJ, hl, hd⟩ | ⟨c, hi, hl, hd⟩⟩
      · refine ⟨none, _, by have := run_endLoop (P := P) hl (by rw [hrec]; simp); rw [hrec] at this; exact this, hdone s _ hD (hJl s _ _ hJ (fr_putObj _ _ _)) ((World.putObj_heap_other (by omega)).trans hd)⟩
      · refine ⟨some c, _, by have := run_endLoop (P := P) hl (by rw [hrec]; simp); rw [hrec] at this; exact this, hstop c _ (hJxl c _ _ hi (fr_putObj _ _ _)) ((World.putObj_heap_other (by omega)).trans hd)⟩
end Go.Proofs.YtjlpdknomdhbhaaGreatDoor
