/- Regions whose operations that make memory or call stand in no fixed order: a tree of the orders that are left. Condition: no other two operations are in each other's way. -/
import Derived.Test.YtjlpdknomdhbhaaGreatDoorLex
namespace Go.Proofs.YtjlpdknomdhbhaaGreatDoor
set_option linter.unusedVariables false
set_option linter.unusedSimpArgs false
namespace Lex
open Go
section
variable {P : Program} {ops : Array Oper} {Q : Exit → Act → World → Prop}
/-- ld: all that makes memory or calls, and such loads as stand beside it. -/
def loudOK (P : Program) (ops : Array Oper) (ld : Nat → Bool) : Bool := (List.range ops.size).all fun k => match ops[k]? with | some o => (ld k || decide (kind P o ≤ 1)) && (!ld k || decide (1 ≤ kind P o)) | none => true
theorem loudOK_at {ld : Nat → Bool} (h : loudOK P ops ld = true) {k : Nat} {o : Oper} (hk : ops[k]? = some o) : (ld k = false → kind P o ≤ 1) ∧ (kind P o = 0 → ld k = false) := by
  have hkl : k < ops.size := (Array.getElem?_eq_some_iff.1 hk).1
  have := (List.all_eq_true.1 h) k (List.mem_range.2 hkl)
  rw [hk] at this
  simp only [Bool.and_eq_true, Bool.or_eq_true, decide_eq_true_eq, Bool.not_eq_true'] at this
  refine ⟨fun h1 => ?_, fun h1 => ?_⟩
  · rcases this.1 with h2 | h2
    · rw [h1] at h2; cases h2
    · exact h2
  · rcases this.2 with h2 | h2
    · exact h2
    · omega
def okTree (P : Program) (ops : Array Oper) (ld : Nat → Bool) : Bool :=
  Region.noSelect ops && okRows ops (fun a b => okPair P ops a b || (ld a && ld b)) ops.size ops.size 0 0 && loudOK P ops ld &&
  ((List.range ops.size).all fun k => match ops[k]? with
    | some o => !needs o || (List.range ops.size).all fun i => decide (i < k) || (match ops[i]? with | some o' => (match o'.dst with | some t => !(o.looksAt ops).contains t | none => true) | none => true)
    | none => true)
/-- The rows of what waits, given as numbers. -/
def rowL (ms : List Nat) (o : Oper) : Nat := o.after.toList.foldl (fun m e => if Region.binds .any e then m ||| (1 <<< e.on) ||| ms.getD e.on 0 else m) 0
def okMs (ms : List Nat) (ops : Array Oper) : Bool := (List.range ops.size).all fun b => match ops[b]? with | some o => rowL ms o == ms.getD b 0 | none => true
def M (ms : List Nat) (b a : Nat) : Bool := (ms.getD b 0).testBit a
def preL (ms : List Nat) (ld : Nat → Bool) (m : List Nat) : List Nat := m.filter fun k => !ld k && m.all fun y => !(ld y && M ms k y)
def postL (ms : List Nat) (ld : Nat → Bool) (m : List Nat) : List Nat := m.filter fun k => !(!ld k && m.all fun y => !(ld y && M ms k y))
def candsL (ms : List Nat) (ld : Nat → Bool) (m : List Nat) : List Nat := m.filter fun x => ld x && m.all fun y => !(ld y && M ms x y)
inductive Tr where
  | nil : Tr
  | alt (x : Nat) (p : List Nat) (sub next : Tr) : Tr
def closedB (ms : List Nat) (p m : List Nat) : Bool := p.all fun k => m.all fun x => !M ms k x
def okT (ms : List Nat) (ld : Nat → Bool) : Tr → List Nat → List Nat → Bool
  | .nil, _, cs => cs == []
  | .alt x p sub next, m, cs => match cs with
    | [] => false
    | c :: cs' => x == c && m.contains x && p == preL ms ld (m.erase x) && closedB ms p (postL ms ld (m.erase x)) &&
      (match sub with
        | .nil => postL ms ld (m.erase x) == []
        | .alt .. => (candsL ms ld (postL ms ld (m.erase x)) != []) && okT ms ld sub (postL ms ld (m.erase x)) (candsL ms ld (postL ms ld (m.erase x)))) && okT ms ld next m cs'
def wpSeq (P : Program) (ops : Array Oper) (Q : Exit → Act → World → Prop) : List Nat → (Act → World → Prop) → Act → World → Prop
  | [], K => K
  | i :: l, K => wpOp P ops Q i (wpSeq P ops Q l K)
def End (P : Program) (ops : Array Oper) (Q : Exit → Act → World → Prop) (a : Act) (w : World) : Prop := Ends P ops Q .normal a w
def run (P : Program) (ops : Array Oper) (Q : Exit → Act → World → Prop) : (Act → World → Prop) → Tr → Act → World → Prop
  | E, .nil => E
  | _, .alt x p sub next => fun a w => wpOp P ops (Ends P ops Q) x (wpSeq P ops (Ends P ops Q) p (run P ops Q (End P ops Q) sub)) a w ∧ run P ops Q (fun _ _ => True) next a w
/-- K leaves the slots that nothing of l writes, and comes to an end. -/
def Fin (P : Program) (ops : Array Oper) (Q : Exit → Act → World → Prop) (l : List Nat) (K : Act → World → Prop) : Prop :=
  ∀ a w, K a w → ∃ a' w', Ends P ops Q .normal a' w' ∧ ∀ t, (∀ i ∈ l, ∀ o, ops[i]? = some o → o.dst ≠ some t) → a'.tmps[t]? = a.tmps[t]?
theorem Fin.mono {l l' : List Nat} {K : Act → World → Prop} (h : Fin P ops Q l K) (hl : ∀ i ∈ l, i ∈ l') : Fin P ops Q l' K := fun a w hk => by
  obtain ⟨a', w', he, ht⟩ := h a w hk
  exact ⟨a', w', he, fun t hn => ht t fun i hi => hn i (hl i hi)⟩
theorem fin_op {l : List Nat} {K : Act → World → Prop} {i : Nat} (hi : i < ops.size) (h : Fin P ops Q l K) : Fin P ops Q (i :: l) (fun a w => wpOp P ops (Ends P ops Q) i K a w) := by
  intro a w hk
  obtain ⟨o, ho⟩ : ∃ o, ops[i]? = some o := ⟨_, Array.getElem?_eq_getElem hi⟩
  obtain ⟨a1, w1, ⟨v, ds, rfl⟩, h1⟩ := wpOp_ex (Ends.noExit P ops Q) ho hk
  obtain ⟨a2, w2, he, ht⟩ := h _ _ h1
  refine ⟨a2, w2, he, fun t hn => ?_⟩
  rw [ht t fun j hj o ho => hn j (by simp [hj]) o ho]
  have := hn i (by simp) _ ho
  cases hd : o.dst with
  | none => rfl
  | some d =>
    have hne : d ≠ t := fun e => this (by rw [hd, e])
    simp [Act.put, Array.getElem?_setIfInBounds_ne hne]
theorem fin_seq {m : List Nat} {K : Act → World → Prop} (h : Fin P ops Q m K) : ∀ l : List Nat, (∀ i ∈ l, i < ops.size) → Fin P ops Q (l ++ m) (wpSeq P ops (Ends P ops Q) l K)
  | [], _ => h
  | i :: l, hl => fin_op (hl i (by simp)) (fin_seq h l (fun j hj => hl j (by simp [hj])))
theorem good_fin {l : List Nat} {K : Act → World → Prop} {a : Act} {w : World} (hF : Fin P ops Q l K) (h : K a w) {k : Nat} {o : Oper} (hk : ops[k]? = some o) (hkd : kind P o = 0)
    (hf : needs o = true → ∀ i ∈ l, ∀ o', ops[i]? = some o' → ∀ t, o'.dst = some t → t ∉ o.looksAt ops) : Region.wanted o (yielded ops a.tmps) = true → Quiet P (execOp a.eval o) := by
  intro hw
  refine quiet_of hkd ?_
  cases hn : needs o with
  | false => exact good_free hn _
  | true =>
    obtain ⟨a', w', ⟨_, hg, _⟩, ht⟩ := hF a w h
    have hg1 := Array.all_eq_true_iff_forall_mem.1 hg o (Array.mem_of_getElem? hk)
    have hsame : ∀ t, t ∈ o.looksAt ops → a'.tmps[t]? = a.tmps[t]? := fun t hm => ht t fun i hi o' ho' e => hf hn i hi o' ho' t e hm
    have hev : ∀ x ∈ o.op.operands, a'.eval x = a.eval x := fun x hx => eval_same fun t e => hsame t (by
      subst e
      exact List.mem_append_left _ (List.mem_filterMap.2 ⟨.tmp t, by simpa using hx, rfl⟩))
    have hwn : Region.wanted o (yielded ops a'.tmps) = Region.wanted o (yielded ops a.tmps) := by
      unfold Region.wanted
      cases hgd : o.guard with
      | none => rfl
      | some gw =>
        obtain ⟨g, want⟩ := gw
        have : yielded ops a'.tmps g = yielded ops a.tmps g := by
          unfold yielded
          cases hd : (ops[g]?).bind (·.dst) with
          | none => rfl
          | some t =>
            have := hsame t (by simp [Oper.looksAt, hgd, hd])
            simp [this]
        simp only [this]
    rw [hkd, hwn, hw] at hg1
    simp at hg1
    rw [← good_congr o hev]
    exact hg1
theorem apart_symm {x y : Oper} (h : x.apart ops y = true) : y.apart ops x = true := by
  unfold Oper.apart at *
  cases hx : x.dst with
  | none =>
    cases hy : y.dst with
    | none => rfl
    | some e => simp [hx, hy] at h ⊢; exact h
  | some d =>
    cases hy : y.dst with
    | none => simp [hx, hy] at h ⊢; exact h
    | some e =>
      simp [hx, hy] at h ⊢
      exact ⟨⟨h.2, fun he => h.1.2 he.symm⟩, h.1.1⟩
theorem waits_lt (hdn : ∀ (b : Nat) (ob : Oper), ops[b]? = some ob → ∀ e ∈ ob.after, Region.binds .any e = true → e.on < b) : ∀ (f b a : Nat), waits ops f b a = true → a < b
  | 0, _, _, h => by cases h
  | f + 1, b, a, h => by
    unfold waits at h
    split at h
    · rename_i ob hb
      obtain ⟨e, he, hx⟩ := Array.any_eq_true'.1 h
      simp only [Bool.and_eq_true, Bool.or_eq_true, beq_iff_eq] at hx
      have h1 := hdn b ob hb e he hx.1
      rcases hx.2 with rfl | h2
      · exact h1
      · have := waits_lt hdn f e.on a h2; omega
    · cases h
theorem okTree_loud {ld : Nat → Bool} (h : okTree P ops ld = true) : loudOK P ops ld = true := by
  simp only [okTree, Bool.and_eq_true] at h
  exact h.1.2
theorem okTree_spec {ld : Nat → Bool} (h : okTree P ops ld = true) :
    (∀ (j : Nat) (o : Oper) (cs : Array SelectCase) (b : Bool), ops[j]? = some o → o.op ≠ .select cs b) ∧
    (∀ (b : Nat) (ob : Oper), ops[b]? = some ob → ∀ e ∈ ob.after, Region.binds .any e = true → e.on < b) ∧
    (∀ b a, b < ops.size → a < b → waits ops ops.size b a = true ∨ okPair P ops a b = true ∨ (ld a = true ∧ ld b = true)) ∧
    (∀ (k : Nat) (o : Oper), ops[k]? = some o → needs o = true → ∀ i, k ≤ i → ∀ (o' : Oper), ops[i]? = some o' → ∀ t, o'.dst = some t → t ∉ o.looksAt ops) := by
  simp only [okTree, Bool.and_eq_true, List.all_eq_true, List.mem_range] at h
  obtain ⟨⟨⟨h1, h2⟩, h4⟩, h3⟩ := h
  refine ⟨fun j o cs b hj => Region.noSelect_spec h1 j o cs b hj, fun b ob hb e he hbi => (okRows_waits h2 hb).1 e he hbi, fun b a hb ha => ?_, fun k o hk hn i hki o' hi t ht => ?_⟩
  · have := (okRows_waits h2 (Array.getElem?_eq_getElem hb)).2 a ha
    simpa using this
  · have hkl : k < ops.size := (Array.getElem?_eq_some_iff.1 hk).1
    have hil : i < ops.size := (Array.getElem?_eq_some_iff.1 hi).1
    have := h3 k hkl
    rw [hk] at this
    simp only [hn, Bool.not_true, Bool.false_or, List.all_eq_true, List.mem_range] at this
    have := this i hil
    rw [hi] at this
    simp only [ht, Bool.or_eq_true, decide_eq_true_eq] at this
    rcases this with this | this
    · omega
    · simpa using this
theorem rowL_bits {ms : List Nat} {o : Oper} {t : Nat} (h : (rowL ms o).testBit t = true) : ∃ e ∈ o.after, Region.binds .any e = true ∧ (e.on = t ∨ (ms.getD e.on 0).testBit t = true) := by
  have key : ∀ (l : List _) (m : Nat), (l.foldl (fun m e => if Region.binds .any e then m ||| (1 <<< e.on) ||| ms.getD e.on 0 else m) m).testBit t = true → m.testBit t = true ∨ ∃ e ∈ l, Region.binds .any e = true ∧ (e.on = t ∨ (ms.getD e.on 0).testBit t = true) := by
    intro l
    induction l with
    | nil => exact fun m h => .inl h
    | cons e l ih =>
      intro m h
      rcases ih _ h with h | ⟨e', he', h'⟩
      · simp only at h
        split at h
        · rename_i hb
          simp only [Nat.testBit_or, Bool.or_eq_true] at h
          rcases h with (h | h) | h
          · exact .inl h
          · refine .inr ⟨e, List.mem_cons_self, hb, .inl ?_⟩
            rw [Nat.testBit_shiftLeft] at h
            simp only [Bool.and_eq_true, decide_eq_true_eq] at h
            have h2 := h.2
            rw [Nat.testBit_one_eq_true_iff_self_eq_zero] at h2
            omega
          · exact .inr ⟨e, List.mem_cons_self, hb, .inr h⟩
        · exact .inl h
      · exact .inr ⟨e', List.mem_cons_of_mem _ he', h'⟩
  rcases key _ _ h with h | ⟨e, he, h⟩
  · simp at h
  · exact ⟨e, Array.mem_toList_iff.1 he, h⟩
theorem M_waits {ms : List Nat} (hms : okMs ms ops = true) (hdn : ∀ (b : Nat) (ob : Oper), ops[b]? = some ob → ∀ e ∈ ob.after, Region.binds .any e = true → e.on < b) :
    ∀ (b a : Nat), b < ops.size → M ms b a = true → waits ops (b + 1) b a = true := by
  intro b
  induction b using Nat.strongRecOn with
  | ind b ih =>
    intro a hb h
    have hb' := Array.getElem?_eq_getElem hb
    have h1 := (List.all_eq_true.1 hms) b (List.mem_range.2 hb)
    rw [hb'] at h1
    simp only [beq_iff_eq] at h1
    unfold M at h
    rw [← h1] at h
    obtain ⟨e, he, hbi, hc⟩ := rowL_bits h
    have hlt := hdn b _ hb' e he hbi
    unfold waits
    rw [hb']
    simp only
    rw [Array.any_eq_true']
    refine ⟨e, he, ?_⟩
    simp only [Bool.and_eq_true, Bool.or_eq_true, beq_iff_eq]
    refine ⟨hbi, hc.imp id fun h2 => ?_⟩
    exact waits_le (by omega) (ih e.on hlt a (by omega) h2)
/-- i, in whose way nothing of p is, comes in front of p. -/
theorem front_seq {ld : Nat → Bool} (hA : okTree P ops ld = true) {i : Nat} {m : List Nat} {K : Act → World → Prop} (hil : i < ops.size) (hF : Fin P ops Q m K) (hm : ∀ x ∈ m, x < ops.size) : ∀ (p : List Nat), (∀ k ∈ p, k < ops.size) →
    (∀ k ∈ p, ld k = false) → (∀ k ∈ p, k ≠ i ∧ waits ops ops.size k i = false ∧ waits ops ops.size i k = false) →
    p.Pairwise (fun k x => waits ops ops.size k x = false) → (∀ k ∈ p, ∀ x ∈ m, waits ops ops.size k x = false) → (∀ x ∈ m, waits ops ops.size i x = false) →
    ∀ (a : Act) (w : World), wpSeq P ops (Ends P ops Q) p (fun a w => wpOp P ops (Ends P ops Q) i K a w) a w → wpOp P ops (Ends P ops Q) i (wpSeq P ops (Ends P ops Q) p K) a w
  | [], _, _, _, _, _, _, a, w, h => h
  | k :: p, hp, hq, hu, hpw, hpm, him, a, w, h => by
    obtain ⟨hsel, hdn, hpair, hkeep⟩ := okTree_spec hA
    have hpw' := List.pairwise_cons.1 hpw
    have hkl : k < ops.size := hp k (by simp)
    obtain ⟨ok, hk⟩ : ∃ o, ops[k]? = some o := ⟨_, Array.getElem?_eq_getElem hkl⟩
    obtain ⟨oi, hi⟩ : ∃ o, ops[i]? = some o := ⟨_, Array.getElem?_eq_getElem hil⟩
    obtain ⟨hki, hw1, hw2⟩ := hu k (by simp)
    have hqk := hq k (by simp)
    -- the two are not in each other's way
    have hord : okPair P ops k i = true ∨ okPair P ops i k = true := by
      by_cases hlt : k < i
      · rcases hpair i k hil hlt with h1 | h1 | h1
        · rw [hw2] at h1; cases h1
        · exact .inl h1
        · rw [hqk] at h1; cases h1.1
      · rcases hpair k i hkl (by omega) with h1 | h1 | h1
        · rw [hw1] at h1; cases h1
        · exact .inr h1
        · rw [hqk] at h1; cases h1.2
    have hkk : kind P ok = 0 ∨ kind P ok = 1 := by
      have := (loudOK_at (okTree_loud hA) hk).1 hqk
      omega
    have hboth : ok.apart ops oi = true ∧ (kind P oi = 0 ∨ kind P ok = 0 ∨ kind P ok = 1 ∧ (kind P oi = 1 ∨ kind P oi = 2)) := by
      rcases hord with h1 | h1
      · simp only [okPair, hk, hi, Bool.and_eq_true, Bool.or_eq_true, beq_iff_eq] at h1
        exact ⟨h1.1, by rcases h1.2 with (h2 | h2) | h2 <;> simp [h2]⟩
      · simp only [okPair, hk, hi, Bool.and_eq_true, Bool.or_eq_true, beq_iff_eq] at h1
        refine ⟨apart_symm h1.1, ?_⟩
        rcases h1.2 with (h2 | h2) | ⟨h2, h3⟩
        · exact .inr (.inl h2)
        · exact .inl h2
        · rcases hkk with h4 | h4
          · exact .inr (.inl h4)
          · exact .inr (.inr ⟨h4, .inl h2⟩)
    obtain ⟨hap, hc⟩ := hboth
    have hF1 : Fin P ops Q (k :: (p ++ i :: m)) (fun a w => wpOp P ops (Ends P ops Q) k (wpSeq P ops (Ends P ops Q) p (fun a w => wpOp P ops (Ends P ops Q) i K a w)) a w) :=
      fin_op hkl (fin_seq (fin_op hil hF) p (fun x hx => hp x (by simp [hx])))
    have h2 : wpOp P ops (Ends P ops Q) k (fun a' w' => wpOp P ops (Ends P ops Q) i (wpSeq P ops (Ends P ops Q) p K) a' w') a w :=
      wpOp_mono (fun a' w' hh => front_seq hA hil hF hm p (fun x hx => hp x (by simp [hx])) (fun x hx => hq x (by simp [hx])) (fun x hx => hu x (by simp [hx])) hpw'.2 (fun x hx => hpm x (by simp [hx])) him a' w' hh) h
    have hall : ∀ x ∈ k :: (p ++ i :: m), x < ops.size := by
      intro x hx
      simp at hx
      rcases hx with rfl | hx | rfl | hx
      · exact hkl
      · exact hp x (by simp [hx])
      · exact hil
      · exact hm x hx
    -- what looks at j's operands is not written behind
    have hclean : ∀ (j : Nat) (oj : Oper), ops[j]? = some oj → j < ops.size → ld j = false → (∀ x ∈ k :: (p ++ i :: m), x = j ∨ waits ops ops.size j x = false) → needs oj = true → ∀ x ∈ k :: (p ++ i :: m), ∀ o', ops[x]? = some o' → ∀ t, o'.dst = some t → t ∉ oj.looksAt ops := by
      intro j oj hj hjl hjq hwt hn x hx o' ho' t ht
      by_cases hjx : j ≤ x
      · exact hkeep j oj hj hn x hjx o' ho' t ht
      · rcases hwt x hx with rfl | hwx
        · omega
        · rcases hpair j x hjl (by omega) with h1 | h1 | h1
          · rw [hwx] at h1; cases h1
          · simp only [okPair, ho', hj, Bool.and_eq_true] at h1
            exact (Oper.apart_spec h1.1).1 t ht
          · rw [hjq] at h1; cases h1.2
    show wpOp P ops (Ends P ops Q) i (fun a' w' => wpOp P ops (Ends P ops Q) k (wpSeq P ops (Ends P ops Q) p K) a' w') a w
    refine swap (Ends.noExit P ops Q) hk hi hap (fun cs b => hsel k ok cs b hk) (fun cs b => hsel i oi cs b hi) ?_ h2
    rcases hc with hc | hc | ⟨hc1, hc2⟩
    · refine .inl (good_fin hF1 h hi hc (hclean i oi hi hil ?_ ?_))
      · exact (loudOK_at (okTree_loud hA) hi).2 hc
      · intro x hx
        simp at hx
        rcases hx with rfl | hx | rfl | hx
        · exact .inr hw2
        · exact .inr (hu x (by simp [hx])).2.2
        · exact .inl rfl
        · exact .inr (him x hx)
    · refine .inr (.inl (good_fin hF1 h hk hc (hclean k ok hk hkl hqk ?_)))
      intro x hx
      simp at hx
      rcases hx with rfl | hx | rfl | hx
      · exact .inl rfl
      · exact .inr (hpw'.1 x hx)
      · exact .inr hw1
      · exact .inr (hpm k (by simp) x hx)
    · exact .inr (.inr ⟨fun _ => reads_of hc1, fun _ => kind_news hc2⟩)
theorem rowL_has {ms : List Nat} {o : Oper} {t : Nat} (h : ∃ e ∈ o.after, Region.binds .any e = true ∧ (e.on = t ∨ (ms.getD e.on 0).testBit t = true)) : (rowL ms o).testBit t = true := by
  have key : ∀ (l : List _) (m : Nat), (m.testBit t = true ∨ ∃ e ∈ l, Region.binds .any e = true ∧ (e.on = t ∨ (ms.getD e.on 0).testBit t = true)) → (l.foldl (fun m e => if Region.binds .any e then m ||| (1 <<< e.on) ||| ms.getD e.on 0 else m) m).testBit t = true := by
    intro l
    induction l with
    | nil =>
      intro m h
      rcases h with h | ⟨e, he, _⟩
      · exact h
      · cases he
    | cons e l ih =>
      intro m h
      refine ih _ ?_
      simp only
      rcases h with h | ⟨e', he', hb, hc⟩
      · refine .inl ?_
        split
        · simp [Nat.testBit_or, h]
        · exact h
      · rcases List.mem_cons.1 he' with rfl | he'
        · refine .inl ?_
          rw [if_pos hb]
          rcases hc with rfl | hc
          · simp [Nat.testBit_or, Nat.testBit_shiftLeft]
          · simp only [Nat.testBit_or, hc, Bool.or_true]
        · exact .inr ⟨e', he', hb, hc⟩
  obtain ⟨e, he, h⟩ := h
  exact key _ _ (.inr ⟨e, Array.mem_toList_iff.2 he, h⟩)
theorem waits_M {ms : List Nat} (hms : okMs ms ops = true) : ∀ (f b a : Nat), waits ops f b a = true → M ms b a = true
  | 0, _, _, h => by cases h
  | f + 1, b, a, h => by
    unfold waits at h
    split at h
    · rename_i ob hb
      have hbl := (Array.getElem?_eq_some_iff.1 hb).1
      have h1 := (List.all_eq_true.1 hms) b (List.mem_range.2 hbl)
      rw [hb] at h1
      simp only [beq_iff_eq] at h1
      obtain ⟨e, he, hx⟩ := Array.any_eq_true'.1 h
      simp only [Bool.and_eq_true, Bool.or_eq_true, beq_iff_eq] at hx
      unfold M
      rw [← h1]
      exact rowL_has ⟨e, he, hx.1, hx.2.imp id (fun h2 => waits_M hms f _ _ h2)⟩
    · cases h
theorem wpSeq_append {K : Act → World → Prop} : ∀ p q : List Nat, wpSeq P ops Q (p ++ q) K = wpSeq P ops Q p (wpSeq P ops Q q K)
  | [], _ => rfl
  | i :: p, q => by
    show (fun a w => wpOp P ops Q i (wpSeq P ops Q (p ++ q) K) a w) = _
    rw [wpSeq_append p q]
    rfl
theorem wpSeq_mono {K K' : Act → World → Prop} (h : ∀ a w, K a w → K' a w) : ∀ (p : List Nat) (a : Act) (w : World), wpSeq P ops Q p K a w → wpSeq P ops Q p K' a w
  | [], a, w, hk => h a w hk
  | _ :: p, _, _, hk => wpOp_mono (fun a' w' hh => wpSeq_mono h p a' w' hh) hk
def SubOK (ms : List Nat) (ld : Nat → Bool) (t : Tr) (m : List Nat) : Prop := (t = .nil ∧ m = []) ∨ (candsL ms ld m ≠ [] ∧ okT ms ld t m (candsL ms ld m) = true)
theorem okT_alt {ms : List Nat} {ld : Nat → Bool} {x : Nat} {p : List Nat} {sub next : Tr} {m cs : List Nat} (h : okT ms ld (.alt x p sub next) m cs = true) :
    ∃ cs', cs = x :: cs' ∧ x ∈ m ∧ p = preL ms ld (m.erase x) ∧ closedB ms p (postL ms ld (m.erase x)) = true ∧ SubOK ms ld sub (postL ms ld (m.erase x)) ∧ okT ms ld next m cs' = true := by
  unfold okT at h
  cases cs with
  | nil => cases h
  | cons c cs' =>
    simp only [Bool.and_eq_true, beq_iff_eq] at h
    obtain ⟨⟨⟨⟨⟨rfl, h2⟩, h3⟩, h4⟩, h5⟩, h6⟩ := h
    refine ⟨cs', rfl, by simpa using h2, h3, h4, ?_, h6⟩
    cases sub with
    | nil => exact .inl ⟨rfl, by simpa using h5⟩
    | alt y q s n =>
      simp only [Bool.and_eq_true, bne_iff_ne, ne_eq] at h5
      exact .inr h5
theorem sub_mem {ms : List Nat} {ld : Nat → Bool} {m : List Nat} {x : Nat} : (∀ i ∈ preL ms ld (m.erase x), i ∈ m) ∧ (∀ i ∈ postL ms ld (m.erase x), i ∈ m) :=
  ⟨fun i hi => List.mem_of_mem_erase (List.mem_filter.1 hi).1, fun i hi => List.mem_of_mem_erase (List.mem_filter.1 hi).1⟩
theorem run_fin {ms : List Nat} {ld : Nat → Bool} : ∀ (t : Tr) (m cs : List Nat), okT ms ld t m cs = true → cs ≠ [] → (∀ x ∈ m, x < ops.size) → ∀ E, Fin P ops Q m (run P ops Q E t)
  | .nil, m, cs, h, hc, _, E => by
    unfold okT at h
    simp at h
    exact absurd h hc
  | .alt x p sub next, m, cs, h, hc, hm, E => by
    obtain ⟨cs', rfl, hx, hp, hcl, hs, hn⟩ := okT_alt h
    have hsub : Fin P ops Q (postL ms ld (m.erase x)) (run P ops Q (End P ops Q) sub) := by
      rcases hs with ⟨rfl, h0⟩ | ⟨h1, h2⟩
      · rw [h0]
        exact fun a w hk => ⟨a, w, hk, fun _ _ => rfl⟩
      · exact run_fin sub _ _ h2 h1 (fun y hy => hm y (sub_mem.2 y hy)) _
    have h1 := fin_op (P := P) (Q := Q) (hm x hx) (fin_seq hsub p (fun y hy => hm y (by rw [hp] at hy; exact sub_mem.1 y hy)))
    have h2 := h1.mono (l' := m) (fun y hy => by
      rcases List.mem_cons.1 hy with rfl | hy
      · exact hx
      · rcases List.mem_append.1 hy with hy | hy
        · rw [hp] at hy; exact sub_mem.1 y hy
        · exact sub_mem.2 y hy)
    exact fun a w hk => h2 a w hk.1
theorem sub_fin {ms : List Nat} {ld : Nat → Bool} {t : Tr} {m : List Nat} (h : SubOK ms ld t m) (hm : ∀ x ∈ m, x < ops.size) : Fin P ops Q m (run P ops Q (End P ops Q) t) := by
  rcases h with ⟨rfl, h0⟩ | ⟨h1, h2⟩
  · rw [h0]
    exact fun a w hk => ⟨a, w, hk, fun _ _ => rfl⟩
  · exact run_fin t _ _ h2 h1 hm _
theorem run_pick {ms : List Nat} {ld : Nat → Bool} {i : Nat} : ∀ (t : Tr) (m cs : List Nat), okT ms ld t m cs = true → i ∈ cs → ∃ sub, closedB ms (preL ms ld (m.erase i)) (postL ms ld (m.erase i)) = true ∧ SubOK ms ld sub (postL ms ld (m.erase i)) ∧
      ∀ E a w, run P ops Q E t a w → wpOp P ops (Ends P ops Q) i (wpSeq P ops (Ends P ops Q) (preL ms ld (m.erase i)) (run P ops Q (End P ops Q) sub)) a w
  | .nil, m, cs, h, hi => by
    unfold okT at h
    simp at h
    subst h
    cases hi
  | .alt x p sub next, m, cs, h, hi => by
    obtain ⟨cs', rfl, hx, hp, hcl, hs, hn⟩ := okT_alt h
    by_cases hix : i = x
    · subst hix
      refine ⟨sub, by rw [← hp]; exact hcl, hs, fun E a w hk => ?_⟩
      rw [← hp]
      exact hk.1
    · have hi' : i ∈ cs' := by
        rcases List.mem_cons.1 hi with h1 | h1
        · exact absurd h1 hix
        · exact h1
      obtain ⟨s2, h1, h2, h3⟩ := run_pick next m cs' hn hi'
      exact ⟨s2, h1, h2, fun E a w hk => h3 _ a w hk.2⟩
theorem part_len (f : Nat → Bool) : ∀ l : List Nat, (l.filter f).length + (l.filter fun k => !f k).length = l.length
  | [] => rfl
  | x :: l => by
    have := part_len f l
    cases hf : f x <;> simp [hf] <;> omega
theorem exists_ready {listed : Array Bool} (hsz : listed.size = ops.size) (hdn : ∀ (b : Nat) (ob : Oper), ops[b]? = some ob → ∀ e ∈ ob.after, Region.binds .any e = true → e.on < b) : ∀ x, x < ops.size → listed.getD x false = false → ∃ j, j ∈ Region.ready .any ops listed := by
  intro x
  induction x using Nat.strongRecOn with
  | ind x ih =>
    intro hx hl
    by_cases hall : ∀ e ∈ (ops[x]'hx).after, Region.binds .any e = true → listed.getD e.on false = true
    · exact ⟨x, mem_ready.2 ⟨getD_in (by omega) hl, _, Array.getElem?_eq_getElem hx, hall⟩⟩
    · simp only [Classical.not_forall] at hall
      obtain ⟨e, he, hb, hn⟩ := hall
      have hlt := hdn x _ (Array.getElem?_eq_getElem hx) e he hb
      exact ih e.on hlt (by omega) (by simpa using hn)
theorem any_of_tree {ms : List Nat} {ld : Nat → Bool} (hA : okTree P ops ld = true) (hms : okMs ms ops = true) : ∀ (fuel : Nat) (p m : List Nat) (t : Tr) (listed : Array Bool) (a : Act) (w : World), (p ++ m).length = fuel → listed.size = ops.size → Closed ops listed → (p ++ m).Nodup →
    (∀ x, x ∈ p ++ m ↔ x < ops.size ∧ listed.getD x false = false) → (∀ k ∈ p, ld k = false) → p.Pairwise (fun k x => waits ops ops.size k x = false) → m.Pairwise (· < ·) → (∀ k ∈ p, ∀ x ∈ m, waits ops ops.size k x = false) →
    (∀ x ∈ m, ld x = false → ∃ y ∈ m, ld y = true ∧ waits ops ops.size x y = true) → SubOK ms ld t m →
    wpSeq P ops (Ends P ops Q) p (run P ops Q (End P ops Q) t) a w → wpAny P .any ops (Ends P ops Q) fuel listed a w
  | 0, p, m, t, listed, a, w, hlen, hsz, hcl, hnd, hmem, hq, hpw, hsrt, hpm, hcalm, hs, h => by
    have h0 : p ++ m = [] := List.eq_nil_of_length_eq_zero hlen
    obtain ⟨rfl, rfl⟩ := List.append_eq_nil_iff.1 h0
    have ht : t = .nil := by
      rcases hs with ⟨h1, _⟩ | ⟨h1, _⟩
      · exact h1
      · exact absurd rfl h1
    subst ht
    refine ⟨?_, h⟩
    refine List.eq_nil_iff_forall_not_mem.2 fun j hj => ?_
    obtain ⟨h0, o, ho, _⟩ := mem_ready.1 hj
    have hjl : j < ops.size := (Array.getElem?_eq_some_iff.1 ho).1
    have := (hmem j).2 ⟨hjl, getD_both h0⟩
    cases this
  | fuel + 1, p, m, t, listed, a, w, hlen, hsz, hcl, hnd, hmem, hq, hpw, hsrt, hpm, hcalm, hs, h => by
    obtain ⟨_, hdn, _, _⟩ := okTree_spec hA
    have hlt : ∀ x ∈ p ++ m, x < ops.size := fun x hx => ((hmem x).1 hx).1
    refine ⟨fun hr => ?_, fun i hi => ?_⟩
    · exfalso
      obtain ⟨x, hx⟩ : ∃ x, x ∈ p ++ m := by
        cases hc : p ++ m with
        | nil => rw [hc] at hlen; cases hlen
        | cons x l => exact ⟨x, by simp⟩
      obtain ⟨j, hj⟩ := exists_ready hsz hdn x (hlt x hx) ((hmem x).1 hx).2
      rw [hr] at hj
      cases hj
    · obtain ⟨hun, oi, hoi, hall⟩ := mem_ready.1 hi
      have hil : i < ops.size := (Array.getElem?_eq_some_iff.1 hoi).1
      have hin : i ∈ p ++ m := (hmem i).2 ⟨hil, getD_both hun⟩
      have hfree : ∀ x ∈ p ++ m, waits ops ops.size i x = false := by
        intro x hx
        cases hw : waits ops ops.size i x with
        | false => rfl
        | true =>
          have h1 := waits_listed hcl ops.size i x oi hoi hall hw
          have h2 := ((hmem x).1 hx).2
          rw [h2] at h1
          cases h1
      have hcl' : Closed ops (listed.setIfInBounds i true) := by
        intro j o ho hl e he hb
        by_cases hij : i = j
        · subst hij
          have : o = oi := Option.some.inj (ho.symm.trans hoi)
          subst this
          exact getD_set_true (hall e he hb)
        · refine getD_set_true (hcl j o ho ?_ e he hb)
          rw [getD_set_ne false (by exact hij)] at hl
          exact hl
      have hmem' : ∀ l : List Nat, (∀ x, x ∈ l ↔ x ∈ p ++ m ∧ x ≠ i) → ∀ x, x ∈ l ↔ x < ops.size ∧ (listed.setIfInBounds i true).getD x false = false := by
        intro l hl x
        rw [hl x, hmem x]
        constructor
        · rintro ⟨⟨h1, h2⟩, h3⟩
          exact ⟨h1, by rw [getD_set_ne false (Ne.symm h3)]; exact h2⟩
        · rintro ⟨h1, h2⟩
          by_cases hix : i = x
          · subst hix
            simp [hsz, h1] at h2
          · rw [getD_set_ne false hix] at h2
            exact ⟨⟨h1, h2⟩, Ne.symm hix⟩
      have hnd' := List.nodup_append.1 hnd
      rcases List.mem_append.1 hin with hip | him
      · obtain ⟨p1, p2, rfl⟩ := List.append_of_mem hip
        have hpa := List.pairwise_append.1 hpw
        have hp2 := List.pairwise_cons.1 hpa.2.1
        have hn1 := List.nodup_append.1 hnd'.1
        rw [wpSeq_append] at h
        have hfr := front_seq (Q := Q) hA (i := i) (m := p2 ++ m) (K := wpSeq P ops (Ends P ops Q) p2 (run P ops Q (End P ops Q) t)) hil
          (fin_seq (sub_fin hs (fun x hx => hlt x (by simp [hx]))) p2 (fun x hx => hlt x (by simp [hx]))) (fun x hx => hlt x (by simp at hx ⊢; rcases hx with hx | hx <;> simp [hx])) p1 (fun k hk => hlt k (by simp [hk]))
          (fun k hk => hq k (by simp [hk])) (fun k hk => ⟨fun e => hn1.2.2 k hk i (by simp) e, hpa.2.2 k hk i (by simp), hfree k (by simp [hk])⟩) hpa.1
          (fun k hk x hx => by
            rcases List.mem_append.1 hx with hx | hx
            · exact hpa.2.2 k hk x (by simp [hx])
            · exact hpm k (by simp [hk]) x hx) (fun x hx => hfree x (by simp at hx ⊢; rcases hx with hx | hx <;> simp [hx])) a w h
        refine wpOp_mono (fun a' w' hh => ?_) hfr
        rw [← wpSeq_append] at hh
        have hni : ∀ x, x ∈ p1 ++ p2 ++ m ↔ x ∈ p1 ++ i :: p2 ++ m ∧ x ≠ i := by
          intro x
          have e1 : i ∉ p1 := fun hx => hn1.2.2 i hx i (by simp) rfl
          have e2 : i ∉ p2 := (List.nodup_cons.1 hn1.2.1).1
          have e3 : i ∉ m := fun hx => hnd'.2.2 i (by simp) i hx rfl
          simp only [List.mem_append, List.mem_cons]
          constructor
          · intro hx
            refine ⟨by rcases hx with (hx | hx) | hx <;> simp [hx], ?_⟩
            rintro rfl
            rcases hx with (hx | hx) | hx
            · exact e1 hx
            · exact e2 hx
            · exact e3 hx
          · rintro ⟨(hx | hx | hx) | hx, hne⟩
            · simp [hx]
            · exact absurd hx hne
            · simp [hx]
            · simp [hx]
        refine any_of_tree hA hms fuel (p1 ++ p2) m t _ a' w' (by simp at hlen ⊢; omega) (by simp [hsz]) hcl' ?_ (hmem' _ hni) (fun k hk => hq k (by simp at hk ⊢; rcases hk with hk | hk <;> simp [hk])) ?_ hsrt (fun k hk x hx => hpm k (by simp at hk ⊢; rcases hk with hk | hk <;> simp [hk]) x hx) hcalm hs hh
        · refine List.nodup_append.2 ⟨List.nodup_append.2 ⟨hn1.1, (List.nodup_cons.1 hn1.2.1).2, fun x hx y hy => hn1.2.2 x hx y (by simp [hy])⟩, hnd'.2.1, fun x hx y hy => hnd'.2.2 x (by simp at hx ⊢; rcases hx with hx | hx <;> simp [hx]) y hy⟩
        · exact List.pairwise_append.2 ⟨hpa.1, hp2.2, fun x hx y hy => hpa.2.2 x hx y (by simp [hy])⟩
      · have hld : ld i = true := by
          cases hl : ld i with
          | true => rfl
          | false =>
            obtain ⟨y, hy, _, hwy⟩ := hcalm i him hl
            rw [hfree y (by simp [hy])] at hwy
            cases hwy
        have hMi : ∀ y ∈ m, M ms i y = false := by
          intro y hy
          cases hM : M ms i y with
          | false => rfl
          | true =>
            have h1 := waits_le (g := ops.size) (by omega) (M_waits hms hdn i y hil hM)
            rw [hfree y (by simp [hy])] at h1
            cases h1
        have hic : i ∈ candsL ms ld m := by
          refine List.mem_filter.2 ⟨him, ?_⟩
          rw [hld, Bool.true_and]
          refine List.all_eq_true.2 fun y hy => ?_
          rw [hMi y hy]
          simp
        rcases hs with ⟨_, rfl⟩ | ⟨_, hok⟩
        · cases him
        · obtain ⟨sub, hclo, hsub, hrun⟩ := run_pick (P := P) (ops := ops) (Q := Q) t m _ hok hic
          obtain ⟨p', hp'⟩ : ∃ p', p' = preL ms ld (m.erase i) := ⟨_, rfl⟩
          obtain ⟨m', hm'⟩ : ∃ m', m' = postL ms ld (m.erase i) := ⟨_, rfl⟩
          rw [← hp', ← hm'] at hclo
          rw [← hm'] at hsub
          simp only [← hp'] at hrun
          have hpsub : ∀ x ∈ p', x ∈ m := fun x hx => by rw [hp'] at hx; exact sub_mem.1 x hx
          have hmsub : ∀ x ∈ m', x ∈ m := fun x hx => by rw [hm'] at hx; exact sub_mem.2 x hx
          have hsize : ∀ x ∈ m, x < ops.size := fun x hx => hlt x (by simp [hx])
          have hM0 : ∀ k ∈ p', ∀ x ∈ m', waits ops ops.size k x = false := by
            intro k hk x hx
            cases hw : waits ops ops.size k x with
            | false => rfl
            | true =>
              have h1 := waits_M hms _ _ _ hw
              have h2 := (List.all_eq_true.1 ((List.all_eq_true.1 hclo) k hk)) x hx
              rw [h1] at h2
              cases h2
          have hsrt' : (m.erase i).Pairwise (· < ·) := hsrt.sublist List.erase_sublist
          have hps : p'.Pairwise (· < ·) := by rw [hp']; exact hsrt'.sublist List.filter_sublist
          have hfr := front_seq (Q := Q) hA (i := i) (m := p' ++ m') (K := wpSeq P ops (Ends P ops Q) p' (run P ops Q (End P ops Q) sub)) hil
            (fin_seq (sub_fin hsub (fun x hx => hsize x (hmsub x hx))) p' (fun x hx => hsize x (hpsub x hx))) (fun x hx => hsize x (by
              rcases List.mem_append.1 hx with hx | hx
              · exact hpsub x hx
              · exact hmsub x hx)) p (fun k hk => hlt k (by simp [hk])) hq
            (fun k hk => ⟨fun e => hnd'.2.2 k hk i him e, hpm k hk i him, hfree k (by simp [hk])⟩) hpw
            (fun k hk x hx => hpm k hk x (by
              rcases List.mem_append.1 hx with hx | hx
              · exact hpsub x hx
              · exact hmsub x hx)) (fun x hx => hfree x (by
              rcases List.mem_append.1 hx with hx | hx
              · simp [hpsub x hx]
              · simp [hmsub x hx])) a w (wpSeq_mono (fun a' w' hk => hrun _ a' w' hk) p a w h)
          refine wpOp_mono (fun a' w' hh => ?_) hfr
          rw [← wpSeq_append] at hh
          have hme : ∀ x, x ∈ m.erase i ↔ x ≠ i ∧ x ∈ m := fun x => hnd'.2.1.mem_erase_iff
          have hsplit : ∀ x, x ∈ p' ∨ x ∈ m' ↔ x ∈ m.erase i := by
            intro x
            rw [hp', hm']
            simp only [preL, postL, List.mem_filter]
            constructor
            · rintro (h | h) <;> exact h.1
            · intro hx
              cases hb : (!ld x && (m.erase i).all fun y => !(ld y && M ms x y)) with
              | true => exact .inl ⟨hx, rfl⟩
              | false => exact .inr ⟨hx, rfl⟩
          have hni : ∀ x, x ∈ p ++ p' ++ m' ↔ x ∈ p ++ m ∧ x ≠ i := by
            intro x
            have h1 := hsplit x
            have h2 := hme x
            have h3 : x ∈ p → x ≠ i := fun hx e => hnd'.2.2 x hx i him e
            simp only [List.mem_append]
            constructor
            · rintro ((hx | hx) | hx)
              · exact ⟨.inl hx, h3 hx⟩
              · have := h2.1 (h1.1 (.inl hx)); exact ⟨.inr this.2, this.1⟩
              · have := h2.1 (h1.1 (.inr hx)); exact ⟨.inr this.2, this.1⟩
            · rintro ⟨hx | hx, hne⟩
              · exact .inl (.inl hx)
              · rcases h1.2 (h2.2 ⟨hne, hx⟩) with h | h
                · exact .inl (.inr h)
                · exact .inr h
          have hndm : (m.erase i).Nodup := hnd'.2.1.erase i
          have hlen2 : p'.length + m'.length = (m.erase i).length := by rw [hp', hm']; exact part_len _ _
          have hlen3 : (m.erase i).length = m.length - 1 := List.length_erase_of_mem him
          have hmpos : 0 < m.length := List.length_pos_of_mem him
          refine any_of_tree hA hms fuel (p ++ p') m' sub _ a' w' (by simp at hlen ⊢; omega) (by simp [hsz]) hcl' ?_ (hmem' _ hni) ?_ ?_ ?_ ?_ ?_ hsub hh
          · refine List.nodup_append.2 ⟨List.nodup_append.2 ⟨hnd'.1, by rw [hp']; exact hndm.filter _, fun x hx y hy => hnd'.2.2 x hx y (hpsub y hy)⟩, by rw [hm']; exact hndm.filter _, fun x hx y hy => ?_⟩
            rcases List.mem_append.1 hx with hx | hx
            · exact hnd'.2.2 x hx y (hmsub y hy)
            · rintro rfl
              rw [hp'] at hx
              rw [hm'] at hy
              have h1 := (List.mem_filter.1 hx).2
              have h2 := (List.mem_filter.1 hy).2
              rw [h1] at h2
              cases h2
          · intro k hk
            rcases List.mem_append.1 hk with hk | hk
            · exact hq k hk
            · rw [hp'] at hk
              have h1 := (List.mem_filter.1 hk).2
              simp only [Bool.and_eq_true, Bool.not_eq_true'] at h1
              exact h1.1
          · refine List.pairwise_append.2 ⟨hpw, ?_, fun x hx y hy => hpm x hx y (hpsub y hy)⟩
            refine hps.imp fun {x y} hxy => ?_
            cases hw : waits ops ops.size x y with
            | false => rfl
            | true =>
              have := waits_lt hdn _ _ _ hw
              omega
          · rw [hm']; exact hsrt'.sublist List.filter_sublist
          · intro k hk x hx
            rcases List.mem_append.1 hk with hk | hk
            · exact hpm k hk x (hmsub x hx)
            · exact hM0 k hk x hx
          · intro x hx hl
            have hx' := hx
            rw [hm'] at hx
            have h1 := (List.mem_filter.1 hx).2
            simp only [hl, Bool.not_false, Bool.true_and, Bool.not_eq_true', List.all_eq_false] at h1
            obtain ⟨y, hy, hyb⟩ := h1
            simp only [Bool.not_eq_true', Bool.not_eq_false', Bool.and_eq_true, Bool.not_eq_true, Bool.not_eq_false] at hyb
            refine ⟨y, ?_, hyb.1, waits_le (g := ops.size) (by have := hsize x (hmsub x hx'); omega) (M_waits hms hdn x y (hsize x (hmsub x hx')) hyb.2)⟩
            rw [hm']
            refine List.mem_filter.2 ⟨hy, ?_⟩
            rw [hyb.1]
            rfl
def pick (l : List Oper) (is : List Nat) : List Oper := is.filterMap fun i => l[i]?
theorem seq_of_list {l : List Oper} {K : Act → World → Prop} : ∀ (is : List Nat) (a : Act) (w : World), (∀ i ∈ is, i < l.length) → wpList P l.toArray (Mid (fun _ => True) K) (pick l is) a w → wpSeq P l.toArray Q is K a w
  | [], a, w, _, h => h.2.2
  | i :: is, a, w, hl, h => by
    have hi : l.toArray[i]? = some (l[i]'(hl i (by simp))) := by simp [hl i (by simp)]
    have e : pick l (i :: is) = l[i]'(hl i (by simp)) :: pick l is := by
      unfold pick
      rw [List.filterMap_cons, List.getElem?_eq_getElem (hl i (by simp))]
    rw [e] at h
    have hh := wpOp_exits (Q2 := Q) Mid.noExit (wpList_op hi h)
    exact wpOp_mono (fun a' w' h1 => seq_of_list is a' w' (fun j hj => hl j (by simp [hj])) h1) hh
/-- The tree, as lists of operations. -/
def runW (P : Program) (l : List Oper) (Q : Exit → Act → World → Prop) : (Act → World → Prop) → Tr → Act → World → Prop
  | E, .nil => E
  | _, .alt x p sub next => fun a w => wpList P l.toArray (Mid (fun _ => True) (runW P l Q (fun a w => Ends P l.toArray Q .normal a w) sub)) (pick l (x :: p)) a w ∧ runW P l Q (fun _ _ => True) next a w
def inT (n : Nat) : Tr → Bool
  | .nil => true
  | .alt x p sub next => decide (x < n) && (p.all fun i => decide (i < n)) && inT n sub && inT n next
theorem run_of_W {l : List Oper} : ∀ (t : Tr) (E : Act → World → Prop) (a : Act) (w : World), inT l.length t = true → runW P l Q E t a w → run P l.toArray Q E t a w
  | .nil, _, _, _, _, h => h
  | .alt x p sub next, E, a, w, hin, h => by
    simp only [inT, Bool.and_eq_true, decide_eq_true_eq, List.all_eq_true] at hin
    obtain ⟨⟨⟨h1, h2⟩, h3⟩, h4⟩ := hin
    refine ⟨?_, run_of_W next _ a w h4 h.2⟩
    have hs := seq_of_list (Q := Ends P l.toArray Q) (x :: p) a w (fun i hi => by
      rcases List.mem_cons.1 hi with rfl | hi
      · exact h1
      · exact h2 i hi) h.1
    exact wpSeq_mono (fun a' w' hk => run_of_W sub _ a' w' h3 hk) (x :: p) a w hs
/-- The whole of what is asked of the tree, in one test. -/
def treeOK (P : Program) (l : List Oper) (ls ms : List Nat) (p : List Nat) (t : Tr) : Bool :=
  okTree P l.toArray ls.contains && okMs ms l.toArray &&
  (p == preL ms ls.contains (List.range l.length)) && closedB ms p (postL ms ls.contains (List.range l.length)) && (candsL ms ls.contains (postL ms ls.contains (List.range l.length)) != []) &&
  okT ms ls.contains t (postL ms ls.contains (List.range l.length)) (candsL ms ls.contains (postL ms ls.contains (List.range l.length))) && inT l.length t && (p.all fun i => decide (i < l.length))
/-- **THE LAW FOR OPERATIONS THAT MAKE MEMORY BESIDE CALLS.** ls: the operations that make memory or call · ms: what each waits for, as numbers · p: what comes ahead of them all · t: the orders that are left. -/
theorem wp_region_tree {id : Nat} {l : List Oper} {a : Act} {w : World} (ls ms p : List Nat) (t : Tr) (hm : P.follows .mixedOrders = true) (hT : treeOK P l ls ms p t = true)
    (h : wpList P l.toArray (Mid (fun _ => True) (runW P l Q (fun a w => Ends P l.toArray Q .normal a w) t)) (pick l p) a w.drew) : (Code.region id l.toArray true).wp P Q a w := by
  simp only [treeOK, Bool.and_eq_true, beq_iff_eq, bne_iff_ne, ne_eq] at hT
  obtain ⟨⟨⟨⟨⟨⟨⟨hA, hms⟩, hp⟩, hc⟩, hcn⟩, hok⟩, hin⟩, hpl⟩ := hT
  have hsz : l.toArray.size = l.length := by simp
  rw [← hsz] at hp hc hcn hok
  obtain ⟨_, hdn, _, _⟩ := okTree_spec hA
  refine Code.wp_mono (Q := Ends P l.toArray Q) (fun e a' w' he => by obtain ⟨rfl, _, h⟩ := he; exact h) (wp_region_any hm ?_)
  have hsrt : (List.range l.toArray.size).Pairwise (· < ·) := List.pairwise_lt_range
  obtain ⟨m', hm'⟩ : ∃ m', m' = postL ms ls.contains (List.range l.toArray.size) := ⟨_, rfl⟩
  rw [← hm'] at hc hcn hok
  have hpm : ∀ x ∈ p, x < l.toArray.size := fun x hx => by rw [hp] at hx; exact List.mem_range.1 (List.mem_filter.1 hx).1
  have hmm : ∀ x ∈ m', x < l.toArray.size := fun x hx => by rw [hm'] at hx; exact List.mem_range.1 (List.mem_filter.1 hx).1
  have hps : p.Pairwise (· < ·) := by rw [hp]; exact hsrt.sublist List.filter_sublist
  have hnr : (List.range l.toArray.size).Nodup := List.nodup_range
  have hs := wpSeq_mono (Q := Ends P l.toArray Q) (fun a' w' hk => run_of_W t _ a' w' hin hk) p a w.drew (seq_of_list p a w.drew (fun i hi => by have := (List.all_eq_true.1 hpl) i hi; simpa using this) h)
  refine any_of_tree hA hms l.toArray.size p m' t _ a _ ?_ (by simp) ?_ ?_ ?_ ?_ ?_ ?_ ?_ ?_ (.inr ⟨hcn, hok⟩) hs
  · have := part_len (fun k => !ls.contains k && (List.range l.toArray.size).all fun y => !(ls.contains y && M ms k y)) (List.range l.toArray.size)
    rw [List.length_append, hp, hm']
    simp only [preL, postL]
    rw [List.length_range] at this
    exact this
  · intro j o ho hl
    rw [getD_replicate_false] at hl
    cases hl
  · refine List.nodup_append.2 ⟨by rw [hp]; exact hnr.filter _, by rw [hm']; exact hnr.filter _, fun x hx y hy => ?_⟩
    rintro rfl
    rw [hp] at hx
    rw [hm'] at hy
    have h1 := (List.mem_filter.1 hx).2
    have h2 := (List.mem_filter.1 hy).2
    rw [h1] at h2
    cases h2
  · intro x
    rw [hp, hm', List.mem_append]
    simp only [preL, postL, List.mem_filter, List.mem_range]
    constructor
    · rintro (h | h) <;> exact ⟨h.1, getD_replicate_false _ _⟩
    · rintro ⟨hx, _⟩
      cases hb : (!ls.contains x && (List.range l.toArray.size).all fun y => !(ls.contains y && M ms x y)) with
      | true => exact .inl ⟨hx, rfl⟩
      | false => exact .inr ⟨hx, rfl⟩
  · intro k hk
    rw [hp] at hk
    have h1 := (List.mem_filter.1 hk).2
    simp only [Bool.and_eq_true, Bool.not_eq_true'] at h1
    exact h1.1
  · refine hps.imp fun {x y} hxy => ?_
    cases hw : waits l.toArray l.toArray.size x y with
    | false => rfl
    | true =>
      have := waits_lt hdn _ _ _ hw
      omega
  · rw [hm']; exact hsrt.sublist List.filter_sublist
  · intro k hk x hx
    cases hw : waits l.toArray l.toArray.size k x with
    | false => rfl
    | true =>
      have h1 := waits_M hms _ _ _ hw
      have h2 := (List.all_eq_true.1 ((List.all_eq_true.1 hc) k hk)) x hx
      rw [h1] at h2
      cases h2
  · intro x hx hl
    have hx' := hx
    rw [hm'] at hx
    have h1 := (List.mem_filter.1 hx).2
    simp only [hl, Bool.not_false, Bool.true_and, Bool.not_eq_true', List.all_eq_false] at h1
    obtain ⟨y, hy, hyb⟩ := h1
    simp only [Bool.not_eq_true', Bool.not_eq_false', Bool.and_eq_true, Bool.not_eq_true, Bool.not_eq_false] at hyb
    refine ⟨y, ?_, hyb.1, waits_le (g := l.toArray.size) (by have := hmm x hx'; omega) (M_waits hms hdn x y (hmm x hx') hyb.2)⟩
    rw [hm']
    refine List.mem_filter.2 ⟨hy, ?_⟩
    rw [hyb.1]
    rfl
/-- The same, where no operation is guarded: the array may be whatever; E is what is asked at the end. -/
def runV (P : Program) (ops : Array Oper) (l : List Oper) (E : Act → World → Prop) : (Act → World → Prop) → Tr → Act → World → Prop
  | F, .nil => F
  | _, .alt x p sub next => fun a w => wpList P ops (Mid (fun _ => True) (runV P ops l E E sub)) (pick l (x :: p)) a w ∧ runV P ops l E (fun _ _ => True) next a w
theorem runV_alt {l : List Oper} {E F : Act → World → Prop} {x : Nat} {p : List Nat} {sub next : Tr} {a : Act} {w : World}
    (h1 : wpList P ops (Mid (fun _ => True) (runV P ops l E E sub)) (pick l (x :: p)) a w) (h2 : runV P ops l E (fun _ _ => True) next a w) : runV P ops l E F (.alt x p sub next) a w := ⟨h1, h2⟩
theorem runV_done {l : List Oper} {E : Act → World → Prop} {a : Act} {w : World} : runV P ops l E (fun _ _ => True) .nil a w := trivial
theorem runV_end {l : List Oper} {E : Act → World → Prop} {a : Act} {w : World} (h : E a w) : runV P ops l E E .nil a w := h
theorem wpList_ops {ops ops' : Array Oper} {Q Q' : Exit → Act → World → Prop} (hN : NoExit Q) (hq : ∀ a w, Q .normal a w → Q' .normal a w) : ∀ (is : List Oper) (a : Act) (w : World), (is.all fun o => o.guard.isNone) = true → wpList P ops Q is a w → wpList P ops' Q' is a w
  | [], a, w, _, h => hq _ _ h
  | o :: is, a, w, hg, h => by
    simp only [List.all_cons, Bool.and_eq_true, Option.isNone_iff_eq_none] at hg
    unfold wpList at h ⊢
    simp only [Region.wanted, hg.1, if_true] at h ⊢
    rcases h with h | h
    · have h1 : o.wp P a w (wpList P ops' Q' is) Q := Oper.wp_mono (fun a' w' hh => wpList_ops hN hq is a' w' hg.2 hh) h
      have h2 : wpOp P #[o] Q 0 (wpList P ops' Q' is) a w := by
        unfold wpOp
        simp only [List.getElem?_toArray, List.getElem?_cons_zero, Region.wanted, hg.1, if_true]
        exact .inl h1
      have h3 := wpOp_exits (Q2 := Q') hN h2
      unfold wpOp at h3
      simp only [List.getElem?_toArray, List.getElem?_cons_zero, Region.wanted, hg.1, if_true] at h3
      exact h3
    · exact absurd h.2 hN.out
theorem pick_guard {l : List Oper} (hg : (l.all fun o => o.guard.isNone) = true) (is : List Nat) : ((pick l is).all fun o => o.guard.isNone) = true := by
  refine List.all_eq_true.2 fun o ho => ?_
  obtain ⟨i, _, hi⟩ := List.mem_filterMap.1 ho
  exact (List.all_eq_true.1 hg) o (List.mem_of_getElem? hi)
theorem runW_of_V {ops : Array Oper} {l : List Oper} {E : Act → World → Prop} (hg : (l.all fun o => o.guard.isNone) = true) (hE : ∀ a w, E a w → Ends P l.toArray Q .normal a w) : ∀ (t : Tr) (F F' : Act → World → Prop), (∀ a w, F a w → F' a w) → ∀ (a : Act) (w : World), runV P ops l E F t a w → runW P l Q F' t a w
  | .nil, F, F', hF, a, w, h => hF a w h
  | .alt x p sub next, F, F', hF, a, w, h =>
    ⟨wpList_ops (Q := Mid (fun _ => True) (runV P ops l E E sub)) Mid.noExit (fun a w hh => ⟨rfl, trivial, runW_of_V hg hE sub E _ hE a w hh.2.2⟩) _ a w (pick_guard hg _) h.1, runW_of_V hg hE next _ _ (fun _ _ h => h) a w h.2⟩
/-- **THE LAW AGAIN, WHERE NO OPERATION IS GUARDED**: the array and what is asked at the end under names. -/
theorem wp_region_treeV {id : Nat} {l : List Oper} {a : Act} {w : World} (ls ms p : List Nat) (t : Tr) (hm : P.follows .mixedOrders = true) (hT : treeOK P l ls ms p t = true) (hg : (l.all fun o => o.guard.isNone) = true)
    (h : ∀ (ops : Array Oper) (E : Act → World → Prop), (∀ a w, goodAll P l.toArray a = true → Q .normal a w → E a w) → wpList P ops (Mid (fun _ => True) (runV P ops l E E t)) (pick l p) a w.drew) : (Code.region id l.toArray true).wp P Q a w := by
  refine wp_region_tree ls ms p t hm hT ?_
  have h1 := h l.toArray (fun a w => Ends P l.toArray Q .normal a w) (fun a w hg hq => ⟨rfl, hg, hq⟩)
  exact wpList_ops (Q := Mid (fun _ => True) (runV P l.toArray l (fun a w => Ends P l.toArray Q .normal a w) (fun a w => Ends P l.toArray Q .normal a w) t)) Mid.noExit
    (fun a w hh => ⟨rfl, trivial, runW_of_V hg (fun _ _ h => h) t _ _ (fun _ _ h => h) a w hh.2.2⟩) _ a _ (pick_guard hg p) h1
end
end Lex
end Go.Proofs.YtjlpdknomdhbhaaGreatDoor
