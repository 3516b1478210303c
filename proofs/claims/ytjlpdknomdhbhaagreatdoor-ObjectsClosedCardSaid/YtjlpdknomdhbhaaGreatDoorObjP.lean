/- Objects, their bytes, and reading them back: plain functions and laws. No condition. -/
import Derived.Test.YtjlpdknomdhbhaaGreatDoorCod
namespace Go.Proofs.YtjlpdknomdhbhaaGreatDoor
set_option linter.unusedVariables false
set_option linter.unusedSimpArgs false
open Go
structure Obj where
  kind : Int
  refs : List ByteArray
  data : ByteArray
def Obj.none : Obj := ⟨0, [], ⟨#[]⟩⟩
def okRefs (l : List ByteArray) : Bool := l.all fun r => decide (r.size = 32)
def okO (o : Obj) : Bool := decide (0 ≤ o.kind) && decide (o.kind ≤ 15) && decide (o.refs.length ≤ 64) && decide (o.data.size ≤ 65536) && okRefs o.refs
theorem okO_parts {o : Obj} (h : okO o = true) : 0 ≤ o.kind ∧ o.kind ≤ 15 ∧ o.refs.length ≤ 64 ∧ o.data.size ≤ 65536 ∧ ∀ r ∈ o.refs, r.size = 32 := by
  unfold okO okRefs at h
  simp only [Bool.and_eq_true, decide_eq_true_eq, List.all_eq_true] at h
  exact ⟨h.1.1.1.1, h.1.1.1.2, h.1.1.2, h.1.2, h.2⟩
def encO (o : Obj) : ByteArray := Cod.uns o.kind.toNat ++ (Cod.texts o.refs ++ Cod.text o.data)
def decO (s : ByteArray) : Option Obj := match Cod.rdN s 0 with
  | some (k, a) => match Cod.rdTexts s a with
    | some (l, b) => match Cod.rdT s b with
      | some (x, c) => if c = s.size ∧ okO ⟨k, l, x⟩ = true then some ⟨k, l, x⟩ else none
      | none => none
    | none => none
  | none => none
theorem ba_nil (s : ByteArray) : s ++ ⟨#[]⟩ = s := by
  apply Sha.ba_ext
  rw [Sha.app_list]
  simp
theorem nil_ba (s : ByteArray) : (⟨#[]⟩ : ByteArray) ++ s = s := by
  apply Sha.ba_ext
  rw [Sha.app_list]
  simp
theorem dec_enc (o : Obj) (h : okO o = true) : decO (encO o) = some o := by
  obtain ⟨h1, h2, h3, h4, h5⟩ := okO_parts h
  obtain ⟨k, l, x⟩ := o
  obtain ⟨n, rfl⟩ : ∃ n : Nat, k = n := ⟨k.toNat, by simp only at h1; omega⟩
  simp only at h1 h2 h3 h4 h5
  have e0 : encO ⟨n, l, x⟩ = ⟨#[]⟩ ++ (Cod.uns n ++ (Cod.texts l ++ Cod.text x)) := by rw [nil_ba]; rfl
  have e1 : encO ⟨n, l, x⟩ = Cod.uns n ++ (Cod.texts l ++ Cod.text x) := rfl
  have e2 : encO ⟨n, l, x⟩ = (Cod.uns n ++ Cod.texts l) ++ (Cod.text x ++ ⟨#[]⟩) := by rw [ba_nil, e1, ByteArray.append_assoc]
  have r1 : Cod.rdN (encO ⟨n, l, x⟩) 0 = some (n, 0 + (Cod.uns n).size) := by
    rw [e0]
    exact Cod.rdN_at rfl (by omega)
  have r2 : Cod.rdTexts (encO ⟨n, l, x⟩) (0 + (Cod.uns n).size) = some (l, 0 + (Cod.uns n).size + (Cod.texts l).size) := by
    rw [e1]
    exact Cod.rdTexts_at (by omega) (by omega) (fun y hy => by have := h5 y hy; omega)
  have r3 : Cod.rdT (encO ⟨n, l, x⟩) (0 + (Cod.uns n).size + (Cod.texts l).size) = some (x, 0 + (Cod.uns n).size + (Cod.texts l).size + (Cod.text x).size) := by
    rw [e2]
    exact Cod.rdT_at (by rw [Sha.app_size]; omega) (by omega)
  unfold decO
  rw [r1]
  simp only [r2, r3]
  rw [if_pos ⟨by rw [e1]; simp only [Sha.app_size]; omega, h⟩]
theorem enc_dec {s : ByteArray} {o : Obj} (h : decO s = some o) : okO o = true ∧ encO o = s := by
  unfold decO at h
  cases h1 : Cod.rdN s 0 with
  | none => rw [h1] at h; cases h
  | some y =>
    obtain ⟨k, a⟩ := y
    simp only [h1] at h
    cases h2 : Cod.rdTexts s a with
    | none => simp only [h2] at h; cases h
    | some y =>
      obtain ⟨l, b⟩ := y
      simp only [h2] at h
      cases h3 : Cod.rdT s b with
      | none => simp only [h3] at h; cases h
      | some y =>
        obtain ⟨x, c⟩ := y
        simp only [h3] at h
        by_cases hc : c = s.size ∧ okO ⟨k, l, x⟩ = true
        · rw [if_pos hc] at h
          cases h
          refine ⟨hc.2, ?_⟩
          obtain ⟨p1, p2, p3, _⟩ := Cod.rdN_some h1
          obtain ⟨q1, q2, q3⟩ := Cod.rdTexts_some h2
          obtain ⟨t1, t2, t3⟩ := Cod.rdT_some h3
          show Cod.uns ((k : Int).toNat) ++ (Cod.texts l ++ Cod.text x) = s
          rw [Int.toNat_natCast, ← p3, ← q3, ← t3, ← Cod.extract_split s a b c (by omega) (by omega), ← Cod.extract_split s 0 a c (by omega) (by omega), hc.1]
          apply Sha.ba_ext
          rw [Sha.ex_list, List.drop_zero, Nat.sub_zero, List.take_of_length_le (by rw [Sha.len_list]; exact Nat.le_refl _)]
        · rw [if_neg hc] at h
          cases h
theorem texts_size (l : List ByteArray) (h : ∀ r ∈ l, r.size = 32) : (Cod.texts l).size ≤ 10 + 42 * l.length := by
  have h1 : ∀ l : List ByteArray, (∀ r ∈ l, r.size = 32) → (Cod.cat (l.map Cod.text)).size ≤ 42 * l.length := by
    intro l
    induction l with
    | nil => intro _; exact Nat.le_refl _
    | cons x l ih =>
      intro h
      have h2 := ih (fun r hr => h r (List.mem_cons_of_mem _ hr))
      have h3 := h x List.mem_cons_self
      have h4 := Cod.uns_le x.size
      show (Cod.text x ++ Cod.cat (l.map Cod.text)).size ≤ _
      have h5 : (Cod.text x).size = (Cod.uns x.size).size + x.size := by unfold Cod.text; rw [Sha.app_size]
      rw [Sha.app_size, h5, List.length_cons]
      omega
  have h6 := h1 l h
  have h7 := Cod.uns_le l.length
  unfold Cod.texts
  rw [Sha.app_size]
  omega
end Go.Proofs.YtjlpdknomdhbhaaGreatDoor
