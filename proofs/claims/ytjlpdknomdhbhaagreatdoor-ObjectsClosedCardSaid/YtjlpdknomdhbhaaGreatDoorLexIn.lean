/- The laws of Lex where the walk is fenced by the wide fence, in a round or not. Condition: no operation of the region is a defer. -/
import Derived.Test.YtjlpdknomdhbhaaGreatDoorLex
import Derived.OrdersIn
import Derived.RangeFuncCalls
import Derived.TacticsIn
namespace Go.Proofs.YtjlpdknomdhbhaaGreatDoor
set_option linter.unusedVariables false
set_option linter.unusedSimpArgs false
namespace Lex
open Go
section
variable {P : Program} {ops : Array Oper} {Q : Exit → Act → World → Prop} {n : Nat}
/-- The wide fence, in whatever round. -/
def W (r : Option Nat) : Fence := { Fence.wide with round := r }
theorem callsW {r : Option Nat} {f : FuncId} {args : Array Value} {w : World} {R : Ending → World → Prop} (h : Calls P f args w R) : CallsIn (W r) n P f args w R := by
  have h1 : CallsIn Fence.wide n P f args w R := callsIn_wide.2 h
  exact h1
theorem rowsW {r : Option Nat} {f : String} {args : Array Value} {w : World} {R : Value → World → Prop} (h : Rows P f args w R) : RowsIn (W r) n P f args w R := by
  have h1 : RowsIn Fence.wide n P f args w R := fun c cs _ => let ⟨v, w', x, s⟩ := h c cs; ⟨v, w', x, stepsIn_wide.2 s⟩
  exact h1
theorem uponIn_of_upon {r : Option Nat} {o : Oper} {a : Act} {K : Act → World → Prop} {x : Result Next} (h : o.upon P a K Q x) : o.uponIn (W r) n P a K Q x := by
  match x, h with
  | .ok (.value v) w', h => exact h
  | .ok .skip w', h => exact h
  | .ok (.defer d) w', h => exact h
  | .ok (.enter f args) w', h => exact ⟨fun hd => (by cases hd), callsW h⟩
  | .ok (.row row args) w', h => exact ⟨fun hd => (by cases hd), rowsW h⟩
  | .halt (.panic v) w', h => exact h
def noDefer (ops : Array Oper) : Bool := ops.all fun o => match o.op with
  | .defer _ => false
  | _ => true
theorem noDefer_at (h : noDefer ops = true) {i : Nat} {o : Oper} (ho : ops[i]? = some o) : ∀ c, o.op ≠ .defer c := by
  intro c hc
  obtain ⟨hi, rfl⟩ := Array.getElem?_eq_some_iff.1 ho
  have := (Array.all_eq_true.1 h) i hi
  rw [hc] at this
  cases this
theorem wpOpIn_of_wpOp {r : Option Nat} {i : Nat} {K K' : Act → World → Prop} {a : Act} {w : World} (hd : noDefer ops = true) (hQ : ¬ LetsOut Q) (hK : ∀ a w, K a w → K' a w) (h : wpOp P ops Q i K a w) : wpOpIn (W r) n P ops Q i K' a w := by
  unfold wpOp at h
  unfold wpOpIn
  split
  · rename_i ho
    rw [ho] at h
    exact hK _ _ h
  · rename_i o ho
    rw [ho] at h
    simp only at h
    split
    · rename_i hw
      rw [if_pos hw] at h
      rcases h with h | ⟨_, h⟩
      · refine ⟨fun _ _ => trivial, ?_⟩
        rw [Oper.semAt_eq _ _ _ (noDefer_at hd ho)]
        exact uponIn_of_upon (Oper.wp_mono hK h)
      · exact absurd h hQ
    · rename_i hw
      rw [if_neg hw] at h
      exact ⟨fun _ _ => trivial, hK _ _ h⟩
theorem anyIn_of_any {r : Option Nat} {md : Region.Mode} (hd : noDefer ops = true) (hQ : ¬ LetsOut Q) : ∀ (fuel : Nat) (listed : Array Bool) (a : Act) (w : World), wpAny P md ops Q fuel listed a w → wpAnyIn (W r) n P md ops Q fuel listed a w
  | 0, _, _, _, h => h
  | fuel + 1, listed, a, w, h => ⟨h.1, fun i hi => wpOpIn_of_wpOp hd hQ (fun a w h => anyIn_of_any hd hQ fuel _ a w h) (h.2 i hi)⟩
theorem wpOpsIn_of_wpOps {r : Option Nat} (hd : noDefer ops = true) (hQ : ¬ LetsOut Q) : ∀ (l : List Nat) (a : Act) (w : World), wpOps P ops Q l a w → wpOpsIn (W r) n P ops Q l a w
  | [], _, _, h => h
  | i :: l, a, w, h => by
    rw [wpOps_cons] at h
    rw [wpOpsIn_cons]
    exact wpOpIn_of_wpOp hd hQ (fun a w h => wpOpsIn_of_wpOps hd hQ l a w h) h
/-- The end of a region that draws nothing. -/
def Only (Q : Exit → Act → World → Prop) : Exit → Act → World → Prop := fun e a w => e = .normal ∧ Q .normal a w
theorem Only.intro {a : Act} {w : World} (h : Q .normal a w) : Only Q .normal a w := ⟨rfl, h⟩
theorem Only.noExit : NoExit (Only Q) := fun _ _ _ he h => he h.1
theorem wpIn_region_plain {r : Option Nat} {id : Nat} {l : List Oper} {a : Act} {w : World} (hd : noDefer l.toArray = true) (h : wpList P l.toArray (Only Q) l a w) : (Code.region id l.toArray false).wpIn (W r) n P Q a w := by
  refine wpIn_mono (Q := Only Q) (wpIn_region (wpOpsIn_of_wpOps hd Only.noExit.out _ _ _ ?_)) (fun e a' w' he => by obtain ⟨rfl, h⟩ := he; exact h)
  rw [List.range_eq_range', show l.toArray.size = l.length from by simp, wpOps_eq_wpList l 0 (by simp)]
  exact h
theorem wpIn_region_lex {r : Option Nat} {id : Nat} {l : List Oper} {a : Act} {w : World} (hm : P.follows .mixedOrders = true) (hA : okAll P l.toArray = true) (hd : noDefer l.toArray = true)
    (h : wpList P l.toArray (Ends P l.toArray Q) l a w.drew) : (Code.region id l.toArray true).wpIn (W r) n P Q a w := by
  refine wpIn_mono (Q := Ends P l.toArray Q) (wpIn_region_any hm (anyIn_of_any hd (Ends.noExit _ _ _).out _ _ _ _ ?_)) (fun e a' w' he => by obtain ⟨rfl, _, h⟩ := he; exact h)
  refine any_of_lex hA l.toArray.size (List.range l.toArray.size) _ a _ (by simp) (by simp) ?_ List.pairwise_lt_range (fun x => by
    constructor
    · intro hx
      have := List.mem_range.1 hx
      exact ⟨this, by simp only [Array.getD_eq_getD_getElem?]; simp at this ⊢; simp [this]⟩
    · exact fun hx => List.mem_range.2 hx.1) ?_
  · intro j o ho hl
    rw [getD_replicate_false] at hl
    cases hl
  · rw [List.range_eq_range', show l.toArray.size = l.length from by simp, wpOps_eq_wpList l 0 (by simp)]
    exact h
theorem wpIn_region_lexN {r : Option Nat} {id : Nat} {l : List Oper} {a : Act} {w : World} (B : Nat → Prop) (fl : List Nat) (m : Nat) (cs : List Nat) (hm : P.follows .mixedOrders = true) (hA : okAllN P l.toArray fl m = true) (hC : cutOK P l.toArray m cs l.length 0 = true) (hd : noDefer l.toArray = true)
    (h : wpCuts P l.toArray (EndsN P l.toArray B w.drew fl Q) (Same B w.drew) cs l a w.drew) : (Code.region id l.toArray true).wpIn (W r) n P Q a w := by
  refine wpIn_mono (Q := EndsN P l.toArray B w.drew fl Q) (wpIn_region_any hm (anyIn_of_any hd EndsN.noExit.out _ _ _ _ ?_)) (fun e a' w' he => by obtain ⟨rfl, _, _, h⟩ := he; exact h)
  have hlt : ∀ x ∈ List.range l.toArray.size, x < l.toArray.size := fun x hx => List.mem_range.1 hx
  refine any_of_lexN hA l.toArray.size (List.range l.toArray.size) _ a _ (by simp) (by simp) ?_ List.pairwise_lt_range (fun x => by
    constructor
    · intro hx
      have := List.mem_range.1 hx
      exact ⟨this, by simp only [Array.getD_eq_getD_getElem?]; simp at this ⊢; simp [this]⟩
    · exact fun hx => List.mem_range.2 hx.1) (fun _ => Same.refl _ _) ?_
  · intro j o ho hl
    rw [getD_replicate_false] at hl
    cases hl
  · refine upC hA _ _ _ hlt List.pairwise_lt_range (fun _ => Same.refl _ _) ?_
    rw [List.range_eq_range', show l.toArray.size = l.length from by simp]
    exact cuts_spec cs l 0 a _ (by simp) hC h
end
end Lex
end Go.Proofs.YtjlpdknomdhbhaaGreatDoor
