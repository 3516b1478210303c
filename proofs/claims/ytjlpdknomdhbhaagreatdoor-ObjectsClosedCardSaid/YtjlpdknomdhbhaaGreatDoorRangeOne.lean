/- A range over a function whose body leaves in the first round. Condition: the iterator calls yield once where that says no more. -/
import Derived.Test.YtjlpdknomdhbhaaGreatDoorLexIn
import Derived.RangeFuncNested
import Derived.RangeFuncBound
import Derived.RangeFuncLeaves
namespace Go.Proofs.YtjlpdknomdhbhaaGreatDoor
set_option linter.unusedVariables false
set_option linter.unusedSimpArgs false
open Go Go.RowKit
theorem wpIn_rangeFunc_once {P : Program} {n : Nat} {r : Option Nat} {g : Operand} {ps : Array Tmp} {assign body : Code} {Q : Exit → Act → World → Prop} {a : Act} {w : World} {gf : Nat} {lb : Array Value}
    (hro : r = none) (hg : a.eval g = .func (.func gf) #[] lb) (eg : ∀ args w, (callFunc gf args).run P w = .ok (.enter gf args) w) (xs : Array Value) (hps : xs.size = ps.size)
    (hone : ∀ (l : Nat) (J : World → Prop) (W : World), Below w.heap.size w W → YieldAt (Lex.W r) (n - 1 - 1) P l xs W (fun e W' => e = .returned (.bool false) ∧ J W') →
      CallsIn (Lex.W r) (n - 1) P gf (#[.func (.yield l) #[] #[]] ++ lb) W (fun e W' => (∃ v, e = .returned v) ∧ J W'))
    (Ix : Nat → Code → World → Prop) (hIx : ∀ D c W (l : Nat) (o : Obj), w.heap.size ≤ l → Ix D c W → Ix D c (W.putObj l o))
    (a₁ : Act)
    (hassign : ∀ (l : Nat) (W : World) (K : Act → World → Prop), K a₁ W →
      assign.wpIn (Lex.W (some l)) (n - 1 - 1) P (Exit.then K (fun _ _ _ => False)) { tmps := (ps.zip xs).foldl (fun t (p, v) => t.setIfInBounds p v) a.tmps, defers := [] } W)
    (hbody : ∀ (l : Nat) (W : World), Below w.heap.size w W → body.wpIn (Lex.W (some l)) (n - 1 - 1) P (fun e _ W' => ∃ c, (e = .ret ∧ c = .ret ∨ ∃ i, e = .exit i ∧ c = .exit i) ∧ KeepsFrom w.heap.size W W' ∧ Ix (w.heap.size) c W') a₁ W)
    (hstop : ∀ (c : Code) (W : World), Ix w.heap.size c W → W.heap[w.heap.size]? = some (.deferred (some [])) → c.wpIn (Lex.W r) n P Q { a with defers := { target := .collected w.heap.size, args := #[] } :: a.defers } W) :
    (Code.rangeFunc g ps assign body).wpIn (Lex.W r) n P Q a w := by
  refine wpIn_rangeFunc ?_
  intro fn hfn
  subst hro
  obtain ⟨rec, hrec⟩ : ∃ rec : LoopState → Option Code → Loop, rec = fun st pe => { state := st, pending := pe, fn, tmps := a.tmps, params := ps, assign, body, defers := w.heap.size } := ⟨_, rfl⟩
  obtain ⟨W1, hW1⟩ : ∃ W1, (w.alloc (.deferred (some []))).alloc (.loop (rec .ready none)) = W1 := ⟨_, rfl⟩
  have hL1 : W1.heap[w.heap.size + 1]? = some (.loop (rec .ready none)) := by
    rw [← hW1]; have := World.alloc_heap_new (w.alloc (.deferred (some []))) (.loop (rec .ready none)); rwa [World.size_alloc] at this
  have hK1 : W1.heap[w.heap.size]? = some (.deferred (some [])) := by
    rw [← hW1]; exact (Below.heap_alloc _ _ _ (by simp)).trans (World.alloc_heap_new w _)
  have hb1 : Below w.heap.size w W1 := by
    rw [← hW1]; exact ((Below.refl _ w).alloc (Nat.le_refl _) _).alloc (by simp) _
  have hlt : w.heap.size + 1 < W1.heap.size := (Array.getElem?_eq_some_iff.1 hL1).1
  refine ⟨w.heap.size + 1, [{ target := .collected w.heap.size, args := #[] }], W1, { target := .fn (.func gf) lb, args := #[.func (.yield (w.heap.size + 1)) #[] #[]] }, W1, gf,
    #[.func (.yield (w.heap.size + 1)) #[] #[]] ++ lb, W1, ?_, ?_, fun _ _ => trivial, ?_, fun h => (by cases h), ?_⟩
  · rw [← hW1, hrec]; exact run_enterLoop_outer _ _ _ _ _
  · simp only [resolve, hg]
    simp [go_sem]
  · simp [invoke, go_sem, eg]
  · have hy := run_yield (P := P) (args := xs) hL1 (by rw [hrec]; exact hps)
    rw [hrec] at hy
    refine (hone (w.heap.size + 1) (fun W' => ∃ c, Ix w.heap.size c W' ∧ W'.heap[w.heap.size + 1]? = some (.loop (rec .done (some c))) ∧ W'.heap[w.heap.size]? = some (.deferred (some []))) W1 hb1
      ⟨fn, _, assign, body, hy, roundIn_of_wpIn hfn (hassign _ W1 _ ⟨_, run_beginRound hL1 (by rw [hrec]), ?_⟩)⟩).mono ?_
    · have hl2 : (W1.putObj (w.heap.size + 1) (.loop { rec .ready none with state := .busy })).heap[w.heap.size + 1]? = some (.loop { rec .ready none with state := .busy }) := World.putObj_heap_same hlt
      have hk2 : (W1.putObj (w.heap.size + 1) (.loop { rec .ready none with state := .busy })).heap[w.heap.size]? = some (.deferred (some [])) := (World.putObj_heap_other (by omega)).trans hK1
      have hb2 : Below w.heap.size w (W1.putObj (w.heap.size + 1) (.loop { rec .ready none with state := .busy })) :=
        hb1.trans ⟨rfl, rfl, rfl, by simp [World.putObj], fun k hk => World.putObj_heap_other (by omega)⟩
      refine wpIn_mono (hbody _ _ hb2) ?_
      rintro e a3 W3 ⟨c, hc, hk3, hi3⟩
      have hl3 := hk3.same _ _ (by omega) hl2 rfl
      have hd3 := hk3.same _ _ (Nat.le_refl _) hk2 rfl
      have hr := run_endRound (P := P) (some c) hl3
      have hl4 := World.putObj_heap_same (o := .loop (rec .done (some c))) (Array.getElem?_eq_some_iff.1 hl3).1
      have hk4 : (W3.putObj (w.heap.size + 1) (.loop (rec .done (some c)))).heap[w.heap.size]? = some (.deferred (some [])) := (World.putObj_heap_other (by omega)).trans hd3
      rw [hrec] at hr hl4 hk4
      rcases hc with ⟨rfl, rfl⟩ | ⟨i, rfl, rfl⟩
      · exact ⟨_, _, hr, rfl, .ret, hIx _ _ _ _ _ (by omega) hi3, by rw [hrec]; exact hl4, hk4⟩
      · exact ⟨_, _, hr, rfl, .exit i, hIx _ _ _ _ _ (by omega) hi3, by rw [hrec]; exact hl4, hk4⟩
    · rintro e W2 ⟨⟨v, rfl⟩, c, hi, hl, hk⟩
      refine ⟨some c, _, by have := run_endLoop (P := P) hl (by rw [hrec]; simp); rw [hrec] at this; exact this, hstop c _ (hIx _ _ _ _ _ (by omega) hi) ((World.putObj_heap_other (by omega)).trans hk)⟩
end Go.Proofs.YtjlpdknomdhbhaaGreatDoor
