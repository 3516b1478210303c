/- Sets of objects, plainly: what they hold, what is reached from some digests, and how a search finds it. No condition. -/
import Derived.Test.YtjlpdknomdhbhaaGreatDoorArcP
namespace Go.Proofs.YtjlpdknomdhbhaaGreatDoor
set_option linter.unusedVariables false
set_option linter.unusedSimpArgs false
open Go
abbrev Store := List (ByteArray × Obj)
namespace Store
def get : Store → ByteArray → Option Obj
  | [], _ => none
  | x :: S, k => if x.1 = k then some x.2 else get S k
def drop (S : Store) (k : ByteArray) : Store := S.filter fun x => decide (x.1 ≠ k)
def put (S : Store) (k : ByteArray) (o : Obj) : Store := (k, o) :: drop S k
theorem get_drop : ∀ (S : Store) (k j : ByteArray), get (drop S k) j = if k = j then none else get S j
  | [], k, j => by simp [drop, get]
  | x :: S, k, j => by
    have ih := get_drop S k j
    unfold drop at ih ⊢
    by_cases hx : x.1 = k
    · rw [List.filter_cons_of_neg (by simp [hx]), ih]
      by_cases hj : k = j
      · rw [if_pos hj, if_pos hj]
      · rw [if_neg hj, if_neg hj, get, if_neg (by rw [hx]; exact hj)]
    · rw [List.filter_cons_of_pos (by simp [hx]), get, get, ih]
      by_cases hj : x.1 = j
      · rw [if_pos hj, if_pos hj, if_neg (fun e => hx (hj.trans e.symm))]
      · rw [if_neg hj, if_neg hj]
theorem get_put (S : Store) (k j : ByteArray) (o : Obj) : get (put S k o) j = if k = j then some o else get S j := by
  unfold put
  rw [get, get_drop]
  by_cases h : k = j
  · rw [if_pos h, if_pos h]
  · rw [if_neg h, if_neg h, if_neg h]
theorem drop_len (S : Store) (k : ByteArray) : (drop S k).length ≤ S.length := List.length_filter_le _ _
theorem put_len (S : Store) (k : ByteArray) (o : Obj) : (put S k o).length ≤ S.length + 1 := by
  unfold put
  have := drop_len S k
  rw [List.length_cons]
  omega
theorem get_mem : ∀ {S : Store} {k : ByteArray} {o : Obj}, get S k = some o → (k, o) ∈ S
  | [], _, _, h => by cases h
  | x :: S, k, o, h => by
    unfold get at h
    by_cases hx : x.1 = k
    · rw [if_pos hx] at h
      cases h
      rw [← hx]
      exact List.mem_cons_self
    · rw [if_neg hx] at h
      exact List.mem_cons_of_mem _ (get_mem h)
/-- What is reached from roots. -/
inductive Reach (S : Store) (roots : List ByteArray) : ByteArray → Prop
  | root {d : ByteArray} : d ∈ roots → Reach S roots d
  | ref {d x : ByteArray} {o : Obj} : Reach S roots d → get S d = some o → x ∈ o.refs → Reach S roots x
theorem Reach.sub {S : Store} {r r' : List ByteArray} (h : ∀ d ∈ r, Reach S r' d) {x : ByteArray} (hx : Reach S r x) : Reach S r' x := by
  induction hx with
  | root hd => exact h _ hd
  | ref _ hg hm ih => exact .ref ih hg hm
theorem Reach.inv {S : Store} {r : List ByteArray} {x : ByteArray} (hx : Reach S r x) : x ∈ r ∨ ∃ d o, Reach S r d ∧ get S d = some o ∧ x ∈ o.refs := by
  cases hx with
  | root h => exact .inl h
  | ref h1 h2 h3 => exact .inr ⟨_, _, h1, h2, h3⟩
def fresh (l : List ByteArray) (k : ByteArray) : Bool := l.all fun y => decide (y ≠ k)
theorem fresh_iff {l : List ByteArray} {k : ByteArray} : fresh l k = true ↔ k ∉ l := by
  unfold fresh
  simp only [List.all_eq_true, decide_eq_true_eq]
  exact ⟨fun h hm => h k hm rfl, fun h y hy e => h (e ▸ hy)⟩
/-- Objects of S that have not been found. -/
def open_ (S : Store) (found : List ByteArray) : Nat := (S.filter fun x => fresh found x.1).length
theorem open_le (S : Store) (found : List ByteArray) : open_ S found ≤ S.length := List.length_filter_le _ _
theorem open_add {S : Store} {found : List ByteArray} {d : ByteArray} {o : Obj} (h : get S d = some o) (hd : d ∉ found) : open_ S (found ++ [d]) + 1 ≤ open_ S found := by
  unfold open_
  have hm := get_mem h
  clear h
  induction S with
  | nil => cases hm
  | cons x S ih =>
    have mono : (S.filter fun x => fresh (found ++ [d]) x.1).length ≤ (S.filter fun x => fresh found x.1).length := by
      rw [← List.countP_eq_length_filter, ← List.countP_eq_length_filter]
      refine List.countP_mono_left fun y _ hy => ?_
      simp only [fresh_iff, List.mem_append] at hy ⊢
      exact fun e => hy (.inl e)
    rcases List.mem_cons.1 hm with e | hm
    · subst e
      rw [List.filter_cons_of_neg (by simp [fresh_iff]), List.filter_cons_of_pos (p := fun x : ByteArray × Obj => fresh found x.1) (fresh_iff.2 hd), List.length_cons]
      omega
    · have ih2 := ih hm
      by_cases hx : x.1 ∈ found
      · rw [List.filter_cons_of_neg (by simp [fresh_iff, hx]), List.filter_cons_of_neg (by simp [fresh_iff, hx])]
        exact ih2
      · rw [List.filter_cons_of_pos (l := S) (p := fun x => fresh found x.1) (fresh_iff.2 hx), List.length_cons]
        by_cases hxd : x.1 = d
        · rw [List.filter_cons_of_neg (by simp [fresh_iff, hxd])]
          omega
        · rw [List.filter_cons_of_pos (by simp [fresh_iff, hx, hxd]), List.length_cons]
          omega
/-- How far a search from roots has come. -/
structure Search (S : Store) (roots found missing work : List ByteArray) : Prop where
  nf : found.Nodup
  nm : missing.Nodup
  f : ∀ k ∈ found, (∃ o, get S k = some o) ∧ Reach S roots k
  m : ∀ k ∈ missing, get S k = none ∧ Reach S roots k
  w : ∀ k ∈ work, Reach S roots k
  r : ∀ k ∈ roots, k ∈ found ∨ k ∈ missing ∨ k ∈ work
  c : ∀ d ∈ found, ∀ o, get S d = some o → ∀ x ∈ o.refs, x ∈ found ∨ x ∈ missing ∨ x ∈ work
  b : found.length + missing.length + work.length + 65 * open_ S found ≤ roots.length + 65 * S.length
theorem Search.start (S : Store) (roots : List ByteArray) : Search S roots [] [] roots :=
  ⟨List.nodup_nil, List.nodup_nil, fun _ h => (by cases h), fun _ h => (by cases h), fun _ h => .root h, fun _ h => .inr (.inr h), fun _ h => (by cases h), by have := open_le S []; simp; omega⟩
theorem mem_or {x d : ByteArray} {f m l : List ByteArray} (h : x ∈ f ∨ x ∈ m ∨ x ∈ l ++ [d]) (hd : d ∈ f ∨ d ∈ m) : x ∈ f ∨ x ∈ m ∨ x ∈ l := by
  rcases h with h | h | h
  · exact .inl h
  · exact .inr (.inl h)
  · rcases List.mem_append.1 h with h | h
    · exact .inr (.inr h)
    · rw [List.mem_singleton] at h
      rw [h]
      rcases hd with hd | hd
      · exact .inl hd
      · exact .inr (.inl hd)
section
variable {S : Store} {roots found missing l : List ByteArray} {d : ByteArray}
theorem Search.skip (h : Search S roots found missing (l ++ [d])) (hd : d ∈ found ∨ d ∈ missing) : Search S roots found missing l :=
  ⟨h.nf, h.nm, h.f, h.m, fun k hk => h.w k (by simp [hk]), fun k hk => mem_or (h.r k hk) hd, fun e he o ho x hx => mem_or (h.c e he o ho x hx) hd, by have := h.b; rw [List.length_append, List.length_singleton] at this; omega⟩
theorem nodup_add {l : List ByteArray} {d : ByteArray} (h : l.Nodup) (hd : d ∉ l) : (l ++ [d]).Nodup := by
  rw [List.nodup_append]
  exact ⟨h, by simp, fun a ha b hb => by rw [List.mem_singleton] at hb; rw [hb]; exact fun e => hd (e ▸ ha)⟩
theorem Search.miss (h : Search S roots found missing (l ++ [d])) (hd : d ∉ missing) (hg : get S d = none) : Search S roots found (missing ++ [d]) l := by
  have hr := h.w d (by simp)
  refine ⟨h.nf, nodup_add h.nm hd, h.f, fun k hk => ?_, fun k hk => h.w k (by simp [hk]), fun k hk => ?_, fun e he o ho x hx => ?_, ?_⟩
  · rcases List.mem_append.1 hk with hk | hk
    · exact h.m k hk
    · rw [List.mem_singleton] at hk
      rw [hk]; exact ⟨hg, hr⟩
  · refine mem_or (d := d) ?_ (.inr (by simp))
    rcases h.r k hk with h1 | h1 | h1
    · exact .inl h1
    · exact .inr (.inl (by simp [h1]))
    · exact .inr (.inr h1)
  · refine mem_or (d := d) ?_ (.inr (by simp))
    rcases h.c e he o ho x hx with h1 | h1 | h1
    · exact .inl h1
    · exact .inr (.inl (by simp [h1]))
    · exact .inr (.inr h1)
  · have := h.b
    simp only [List.length_append, List.length_singleton] at this ⊢
    omega
theorem Search.hit {o : Obj} (h : Search S roots found missing (l ++ [d])) (hd : d ∉ found) (hg : get S d = some o) (ho : o.refs.length ≤ 64) : Search S roots (found ++ [d]) missing (l ++ o.refs) := by
  have hr := h.w d (by simp)
  have key : ∀ x, (x ∈ found ∨ x ∈ missing ∨ x ∈ l ++ [d]) → x ∈ found ++ [d] ∨ x ∈ missing ∨ x ∈ l ++ o.refs := by
    intro x hx
    rcases hx with h1 | h1 | h1
    · exact .inl (by simp [h1])
    · exact .inr (.inl h1)
    · rcases List.mem_append.1 h1 with h1 | h1
      · exact .inr (.inr (by simp [h1]))
      · exact .inl (by simp at h1; simp [h1])
  refine ⟨nodup_add h.nf hd, h.nm, fun k hk => ?_, h.m, fun k hk => ?_, fun k hk => key k (h.r k hk), fun e he o' ho' x hx => ?_, ?_⟩
  · rcases List.mem_append.1 hk with hk | hk
    · exact h.f k hk
    · rw [List.mem_singleton] at hk
      rw [hk]; exact ⟨⟨o, hg⟩, hr⟩
  · rcases List.mem_append.1 hk with hk | hk
    · exact h.w k (by simp [hk])
    · exact .ref hr hg hk
  · rcases List.mem_append.1 he with he | he
    · exact key x (h.c e he o' ho' x hx)
    · rw [List.mem_singleton] at he
      rw [he, hg] at ho'
      cases ho'
      exact .inr (.inr (by simp [hx]))
  · have := h.b
    have := open_add hg hd
    simp only [List.length_append, List.length_singleton] at *
    omega
theorem Search.fin (h : Search S roots found missing []) (x : ByteArray) : Reach S roots x ↔ x ∈ found ∨ x ∈ missing := by
  constructor
  · intro hx
    induction hx with
    | root hd =>
      rcases h.r _ hd with h1 | h1 | h1
      · exact .inl h1
      · exact .inr h1
      · cases h1
    | ref _ hg hm ih =>
      rcases ih with h1 | h1
      · rcases h.c _ h1 _ hg _ hm with h2 | h2 | h2
        · exact .inl h2
        · exact .inr h2
        · cases h2
      · rw [(h.m _ h1).1] at hg
        cases hg
  · rintro (h1 | h1)
    · exact (h.f x h1).2
    · exact (h.m x h1).2
end
end Store
/-- In increasing order, nothing twice. -/
def Incr (l : List ByteArray) : Prop := l.Pairwise fun a b => Nam.less a.data.toList b.data.toList = true
theorem ba_data {a b : ByteArray} (h : a.data.toList = b.data.toList) : a = b := by
  cases a with
  | mk x => cases b with
    | mk y =>
      congr 1
      exact Array.toList_inj.1 h
theorem incr_unique : ∀ {a b : List ByteArray}, Incr a → Incr b → (∀ x, x ∈ a ↔ x ∈ b) → a = b
  | [], [], _, _, _ => rfl
  | [], y :: b, _, _, h => by have := (h y).2 List.mem_cons_self; cases this
  | x :: a, [], _, _, h => by have := (h x).1 List.mem_cons_self; cases this
  | x :: a, y :: b, ha, hb, h => by
    obtain ⟨a1, a2⟩ := List.pairwise_cons.1 ha
    obtain ⟨b1, b2⟩ := List.pairwise_cons.1 hb
    have e : x = y := by
      rcases List.mem_cons.1 ((h x).1 List.mem_cons_self) with e | hx
      · exact e
      · rcases List.mem_cons.1 ((h y).2 List.mem_cons_self) with e | hy
        · exact e.symm
        · have h1 := b1 x hx
          have h2 := a1 y hy
          have := Nam.less_trans h1 h2
          rw [Nam.less_irrefl] at this
          cases this
    subst e
    congr 1
    refine incr_unique a2 b2 fun z => ?_
    constructor
    · intro hz
      rcases List.mem_cons.1 ((h z).1 (List.mem_cons_of_mem _ hz)) with e | hz2
      · subst e
        have := a1 z hz
        rw [Nam.less_irrefl] at this
        cases this
      · exact hz2
    · intro hz
      rcases List.mem_cons.1 ((h z).2 (List.mem_cons_of_mem _ hz)) with e | hz2
      · subst e
        have := b1 z hz
        rw [Nam.less_irrefl] at this
        cases this
      · exact hz2
theorem incr_nodup {l : List ByteArray} (h : Incr l) : l.Nodup := by
  unfold Incr at h
  refine h.imp fun {a b} hab e => ?_
  subst e
  rw [Nam.less_irrefl] at hab
  cases hab
end Go.Proofs.YtjlpdknomdhbhaaGreatDoor
