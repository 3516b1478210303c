/- Archives, plainly: names in order, none below another one; the two ways to find it agree; bytes. No condition. -/
import Derived.Test.YtjlpdknomdhbhaaGreatDoorNamL
namespace Go.Proofs.YtjlpdknomdhbhaaGreatDoor
set_option linter.unusedVariables false
set_option linter.unusedSimpArgs false
open Go
namespace Nam
abbrev less (a b : List UInt8) : Bool := Op.bytesLess a b
theorem less_irrefl : ∀ a : List UInt8, less a a = false
  | [] => rfl
  | c :: l => by
    have := less_irrefl l
    unfold less at *
    unfold Op.bytesLess
    simp [this]
theorem less_trans : ∀ {a b c : List UInt8}, less a b = true → less b c = true → less a c = true
  | [], [], _, h, _ => by cases h
  | _ :: _, [], _, h, _ => by cases h
  | _, _ :: _, [], _, h => by cases h
  | [], _ :: _, _ :: _, _, _ => rfl
  | a :: x, b :: y, c :: z, h1, h2 => by
    unfold less Op.bytesLess at h1 h2 ⊢
    simp only [Bool.or_eq_true, decide_eq_true_eq, Bool.and_eq_true, beq_iff_eq] at h1 h2 ⊢
    rcases h1 with h1 | ⟨rfl, h1⟩
    · rcases h2 with h2 | ⟨rfl, h2⟩
      · exact .inl (UInt8.lt_trans h1 h2)
      · exact .inl h1
    · rcases h2 with h2 | ⟨rfl, h2⟩
      · exact .inl h2
      · exact .inr ⟨rfl, less_trans (a := x) (b := y) (c := z) h1 h2⟩
theorem less_asymm {a b : List UInt8} (h : less a b = true) : less b a = false := by
  cases h2 : less b a with
  | false => rfl
  | true =>
    have := less_trans h h2
    rw [less_irrefl] at this
    cases this
theorem less_total : ∀ {a b : List UInt8}, less a b = false → less b a = false → a = b
  | [], [], _, _ => rfl
  | [], _ :: _, h, _ => by cases h
  | _ :: _, [], _, h => by cases h
  | a :: x, b :: y, h1, h2 => by
    unfold less Op.bytesLess at h1 h2
    simp only [Bool.or_eq_false_iff, decide_eq_false_iff_not, Bool.and_eq_false_iff, beq_eq_false_iff_ne] at h1 h2
    have e : a = b := by
      apply UInt8.le_antisymm
      · exact UInt8.not_lt.1 h2.1
      · exact UInt8.not_lt.1 h1.1
    subst e
    rw [less_total (a := x) (b := y) (h1.2.resolve_left (fun h => h rfl)) (h2.2.resolve_left (fun h => h rfl))]
theorem less_app (c : UInt8) (t : List UInt8) : ∀ a : List UInt8, less a (a ++ c :: t) = true
  | [] => rfl
  | x :: a => by
    have := less_app c t a
    unfold less at *
    rw [List.cons_append]
    unfold Op.bytesLess
    simp [this]
/-- q lies below p, as in a tree of files. -/
def under (p q : List UInt8) : Bool := (p ++ [47]).isPrefixOf q
theorem under_less {p q : List UInt8} (h : under p q = true) : less p q = true := by
  unfold under at h
  obtain ⟨t, rfl⟩ := List.isPrefixOf_iff_prefix.1 h
  rw [List.append_assoc]
  exact less_app _ _ _
theorem under_iff {p q : List UInt8} : under p q = true ↔ q[p.length]? = some 47 ∧ q.take p.length = p := by
  unfold under
  rw [List.isPrefixOf_iff_prefix]
  constructor
  · rintro ⟨t, rfl⟩
    simp
  · rintro ⟨h1, h2⟩
    refine ⟨q.drop (p.length + 1), ?_⟩
    have hl : p.length < q.length := (List.getElem?_eq_some_iff.1 h1).1
    conv => rhs; rw [← List.take_append_drop p.length q, h2, List.drop_eq_getElem_cons hl, (List.getElem?_eq_some_iff.1 h1).2]
    simp
def nameL (l : List UInt8) : Bool := decide (l.length ≤ 64) && (cuts l).all partOK
def order (pre : List (List UInt8)) (n : List UInt8) : Bool := match pre.getLast? with
  | none => true
  | some p => less p n
/-- As the program looks at names. -/
def namesOK : List (List UInt8) → List (List UInt8) → Bool
  | _, [] => true
  | pre, n :: l => (nameL n && order pre n) && (!(pre.any fun p => under p n) && namesOK (pre ++ [n]) l)
/-- As the reference looks at them. -/
def refFrom (all : List (List UInt8)) : List (List UInt8) → List (List UInt8) → Bool
  | _, [] => true
  | pre, n :: l => (nameL n && order pre n) && (!(all.any fun q => under n q) && refFrom all (pre ++ [n]) l)
theorem order_all {pre : List (List UInt8)} {n : List UInt8} (hp : pre.Pairwise fun a b => less a b = true) : order pre n = true ↔ ∀ p ∈ pre, less p n = true := by
  unfold order
  rcases List.eq_nil_or_concat pre with rfl | ⟨l, x, rfl⟩
  · simp
  · rw [List.concat_eq_append] at hp ⊢
    rw [List.getLast?_concat]
    simp only
    rw [List.pairwise_append] at hp
    constructor
    · intro h p hm
      rcases List.mem_append.1 hm with hm | hm
      · exact less_trans (hp.2.2 p hm x (by simp)) h
      · rw [List.mem_singleton] at hm
        rw [hm]; exact h
    · intro h
      exact h x (by simp)
theorem namesOK_iff : ∀ (l pre : List (List UInt8)), (pre.Pairwise fun a b => less a b = true) → (namesOK pre l = true ↔ (∀ n ∈ l, nameL n = true) ∧ ((pre ++ l).Pairwise fun a b => less a b = true) ∧ (∀ p ∈ pre, ∀ n ∈ l, under p n = false) ∧ (l.Pairwise fun a b => under a b = false))
  | [], pre, hp => by simp [namesOK, hp]
  | n :: l, pre, hp => by
    unfold namesOK
    simp only [Bool.and_eq_true, order_all hp, Bool.not_eq_true', List.any_eq_false, Bool.not_eq_true]
    constructor
    · rintro ⟨⟨h1, h2⟩, h3, h4⟩
      have hp2 : (pre ++ [n]).Pairwise fun a b => less a b = true := List.pairwise_append.2 ⟨hp, List.pairwise_singleton _ _, fun a ha b hb => by rw [List.mem_singleton] at hb; rw [hb]; exact h2 a ha⟩
      obtain ⟨a1, a2, a3, a4⟩ := (namesOK_iff l (pre ++ [n]) hp2).1 h4
      refine ⟨fun x hx => ?_, by rw [List.append_assoc] at a2; exact a2, fun p hpm x hx => ?_, List.pairwise_cons.2 ⟨fun x hx => a3 n (by simp) x hx, a4⟩⟩
      · rcases List.mem_cons.1 hx with rfl | hx
        · exact h1
        · exact a1 x hx
      · rcases List.mem_cons.1 hx with rfl | hx
        · exact h3 p hpm
        · exact a3 p (by simp [hpm]) x hx
    · rintro ⟨h1, h2, h3, h4⟩
      have h2' : ((pre ++ [n]) ++ l).Pairwise fun a b => less a b = true := by rw [List.append_assoc]; exact h2
      have hp2 := (List.pairwise_append.1 h2').1
      refine ⟨⟨h1 n (by simp), fun p hpm => (List.pairwise_append.1 h2).2.2 p hpm n (by simp)⟩, fun p hpm => h3 p hpm n (by simp), (namesOK_iff l (pre ++ [n]) hp2).2 ⟨fun x hx => h1 x (by simp [hx]), h2', fun p hpm x hx => ?_, (List.pairwise_cons.1 h4).2⟩⟩
      rcases List.mem_append.1 hpm with hpm | hpm
      · exact h3 p hpm x (by simp [hx])
      · rw [List.mem_singleton] at hpm
        rw [hpm]; exact (List.pairwise_cons.1 h4).1 x hx
theorem refFrom_iff (all : List (List UInt8)) : ∀ (l pre : List (List UInt8)), (pre.Pairwise fun a b => less a b = true) → (refFrom all pre l = true ↔ (∀ n ∈ l, nameL n = true) ∧ ((pre ++ l).Pairwise fun a b => less a b = true) ∧ (∀ n ∈ l, ∀ q ∈ all, under n q = false))
  | [], pre, hp => by simp [refFrom, hp]
  | n :: l, pre, hp => by
    unfold refFrom
    simp only [Bool.and_eq_true, order_all hp, Bool.not_eq_true', List.any_eq_false, Bool.not_eq_true]
    constructor
    · rintro ⟨⟨h1, h2⟩, h3, h4⟩
      have hp2 : (pre ++ [n]).Pairwise fun a b => less a b = true := List.pairwise_append.2 ⟨hp, List.pairwise_singleton _ _, fun a ha b hb => by rw [List.mem_singleton] at hb; rw [hb]; exact h2 a ha⟩
      obtain ⟨a1, a2, a3⟩ := (refFrom_iff all l (pre ++ [n]) hp2).1 h4
      refine ⟨fun x hx => ?_, by rw [List.append_assoc] at a2; exact a2, fun x hx => ?_⟩
      · rcases List.mem_cons.1 hx with rfl | hx
        · exact h1
        · exact a1 x hx
      · rcases List.mem_cons.1 hx with rfl | hx
        · exact h3
        · exact a3 x hx
    · rintro ⟨h1, h2, h3⟩
      have h2' : ((pre ++ [n]) ++ l).Pairwise fun a b => less a b = true := by rw [List.append_assoc]; exact h2
      have hp2 := (List.pairwise_append.1 h2').1
      exact ⟨⟨h1 n (by simp), fun p hpm => (List.pairwise_append.1 h2).2.2 p hpm n (by simp)⟩, h3 n (by simp), (refFrom_iff all l (pre ++ [n]) hp2).2 ⟨fun x hx => h1 x (by simp [hx]), h2', fun x hx => h3 x (by simp [hx])⟩⟩
theorem pair_all : ∀ {l : List (List UInt8)}, (l.Pairwise fun a b => less a b = true) → (l.Pairwise fun a b => under a b = false) → ∀ a ∈ l, ∀ b ∈ l, under a b = false
  | [], _, _, a, ha, _, _ => by cases ha
  | x :: l, h1, h2, a, ha, b, hb => by
    obtain ⟨p1, p2⟩ := List.pairwise_cons.1 h1
    obtain ⟨q1, q2⟩ := List.pairwise_cons.1 h2
    rcases List.mem_cons.1 ha with ea | ha2
    · rcases List.mem_cons.1 hb with eb | hb2
      · rw [ea, eb]
        cases h : under x x with
        | false => rfl
        | true => have := under_less h; rw [less_irrefl] at this; cases this
      · rw [ea]; exact q1 b hb2
    · rcases List.mem_cons.1 hb with eb | hb2
      · rw [eb]
        cases h : under a x with
        | false => rfl
        | true => have := less_asymm (under_less h); rw [p1 a ha2] at this; cases this
      · exact pair_all p2 q2 a ha2 b hb2
theorem pair_of : ∀ {l : List (List UInt8)}, (∀ a ∈ l, ∀ b ∈ l, under a b = false) → l.Pairwise fun a b => under a b = false
  | [], _ => List.Pairwise.nil
  | x :: l, h => List.pairwise_cons.2 ⟨fun y hy => h x List.mem_cons_self y (List.mem_cons_of_mem _ hy), pair_of fun a ha b hb => h a (List.mem_cons_of_mem _ ha) b (List.mem_cons_of_mem _ hb)⟩
theorem names_ref (l : List (List UInt8)) : namesOK [] l = refFrom l [] l := by
  rw [Bool.eq_iff_iff, namesOK_iff l [] List.Pairwise.nil, refFrom_iff l l [] List.Pairwise.nil]
  constructor
  · rintro ⟨h1, h2, _, h4⟩
    exact ⟨h1, h2, pair_all h2 h4⟩
  · rintro ⟨h1, h2, h3⟩
    exact ⟨h1, h2, fun p hp => (by cases hp), pair_of fun a ha b hb => h3 a ha b hb⟩
end Nam
structure FileD where
  name : ByteArray
  data : ByteArray
def FileD.nm (f : FileD) : List UInt8 := f.name.data.toList
def FileD.enc (f : FileD) : ByteArray := Cod.text f.name ++ Cod.text f.data
def encA (l : List FileD) : ByteArray := Cod.uns l.length ++ Cod.cat (l.map FileD.enc)
def namesA (l : List FileD) : Bool := Nam.namesOK [] (l.map FileD.nm)
def sizeA (l : List FileD) : Bool := decide (l.length ≤ 32) && decide ((encA l).size ≤ 65536)
end Go.Proofs.YtjlpdknomdhbhaaGreatDoor
