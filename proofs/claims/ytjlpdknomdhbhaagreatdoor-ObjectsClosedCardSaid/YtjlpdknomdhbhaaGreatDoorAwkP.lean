/- The example of the laws, plainly: what its objects and archives are; reading back an archive. No condition. -/
import Derived.Test.YtjlpdknomdhbhaaGreatDoorSetM
import Derived.Test.YtjlpdknomdhbhaaGreatDoorFilL
import Derived.Test.YtjlpdknomdhbhaaGreatDoorRefN
namespace Go.Proofs.YtjlpdknomdhbhaaGreatDoor
set_option linter.unusedVariables false
set_option linter.unusedSimpArgs false
open Go
theorem rfFs_at (r : ByteArray) : ∀ (l : List FileD) (p : ByteArray) (a : Nat), a = p.size → (∀ x ∈ l, x.name.size < 9223372036854775808 ∧ x.data.size < 9223372036854775808) → rfFs (p ++ (Cod.cat (l.map FileD.enc) ++ r)) l.length a = some (l, a + (Cod.cat (l.map FileD.enc)).size)
  | [], p, a, ha, _ => rfl
  | x :: l, p, a, ha, h => by
    obtain ⟨h1, h2⟩ := h x List.mem_cons_self
    have ec : Cod.cat ((x :: l).map FileD.enc) = FileD.enc x ++ Cod.cat (l.map FileD.enc) := rfl
    have ex : FileD.enc x = Cod.text x.name ++ Cod.text x.data := rfl
    have e1 : p ++ (Cod.cat ((x :: l).map FileD.enc) ++ r) = p ++ (Cod.text x.name ++ (Cod.text x.data ++ (Cod.cat (l.map FileD.enc) ++ r))) := by rw [ec, ex]; simp only [ByteArray.append_assoc]
    have e2 : p ++ (Cod.cat ((x :: l).map FileD.enc) ++ r) = (p ++ Cod.text x.name) ++ (Cod.text x.data ++ (Cod.cat (l.map FileD.enc) ++ r)) := by rw [e1]; simp only [ByteArray.append_assoc]
    have e3 : p ++ (Cod.cat ((x :: l).map FileD.enc) ++ r) = ((p ++ Cod.text x.name) ++ Cod.text x.data) ++ (Cod.cat (l.map FileD.enc) ++ r) := by rw [e2]; simp only [ByteArray.append_assoc]
    have r1 := Cod.rdT_at (r := Cod.text x.data ++ (Cod.cat (l.map FileD.enc) ++ r)) ha h1
    rw [← e1] at r1
    have r2 := Cod.rdT_at (p := p ++ Cod.text x.name) (r := Cod.cat (l.map FileD.enc) ++ r) (a := a + (Cod.text x.name).size) (by rw [Sha.app_size]; omega) h2
    rw [← e2] at r2
    have r3 := rfFs_at r l ((p ++ Cod.text x.name) ++ Cod.text x.data) (a + (Cod.text x.name).size + (Cod.text x.data).size) (by simp only [Sha.app_size]; omega) (fun y hy => h y (List.mem_cons_of_mem _ hy))
    rw [← e3] at r3
    rw [List.length_cons, rfFs_succ', r1]
    simp only
    rw [r2]
    simp only
    rw [r3]
    simp only [Option.map_some]
    rw [ec, ex, Sha.app_size, Sha.app_size]
    congr 2
    omega
/-- The files of an archive are those that it was made of. -/
theorem filesF_enc {l : List FileD} (h : archE l = 0) : filesF (encA l) = some l := by
  have hs : sizeA l = true := by
    unfold archE at h
    by_cases h1 : namesA l = true
    · rw [if_pos h1] at h
      by_cases h2 : sizeA l = true
      · exact h2
      · rw [if_neg h2] at h; cases h
    · rw [if_neg h1] at h; cases h
  unfold sizeA at hs
  rw [Bool.and_eq_true, decide_eq_true_eq, decide_eq_true_eq] at hs
  have hn := Cod.rdN_at (p := ⟨#[]⟩) (r := Cod.cat (l.map FileD.enc)) (n := l.length) (a := 0) rfl (by omega)
  rw [nil_ba] at hn
  have hr := rfFs_at ⟨#[]⟩ l (Cod.uns l.length) (0 + (Cod.uns l.length).size) (by omega) (fun x hx => by
    obtain ⟨i, hi, rfl⟩ := List.getElem_of_mem hx
    have := text_le l i hi
    omega)
  rw [ba_nil] at hr
  have hf := filesF_read (s := encA l) (n := l.length) (a := 0 + (Cod.uns l.length).size) hn hs.1 hr
  rw [hf, if_pos]
  refine ⟨h, ?_⟩
  unfold encA
  rw [Sha.app_size]
  omega
theorem filesR_arch {l : List FileD} (h : archE l = 0) : filesR (archO l) = (l, 0) := by
  have ho := arch_some h
  have hs : (encA l).size ≤ 65536 := by
    unfold archE at h
    by_cases h1 : namesA l = true
    · rw [if_pos h1] at h
      by_cases h2 : sizeA l = true
      · unfold sizeA at h2
        rw [Bool.and_eq_true, decide_eq_true_eq, decide_eq_true_eq] at h2
        exact h2.2
      · rw [if_neg h2] at h; cases h
    · rw [if_neg h1] at h; cases h
  have hok : okO (archO l) = true := by
    rw [ho]
    unfold okO okRefs
    simp [hs]
  refine filesR_ok ⟨hok, by rw [ho]⟩ ?_ (by rw [ho]; rfl)
  rw [ho]
  exact filesF_enc h
namespace Awk
def o5 : Obj := ⟨5, [], ⟨#[97, 98]⟩⟩
def d1 : ByteArray := ⟨#[159, 109, 148, 24, 4, 34, 129, 125, 168, 79, 229, 60, 136, 74, 154, 57, 175, 227, 59, 50, 159, 247, 201, 46, 171, 212, 233, 39, 117, 128, 194, 122]⟩
def o2 : Obj := ⟨0, [d1], ⟨#[]⟩⟩
def d2 : ByteArray := ⟨#[242, 35, 220, 204, 21, 140, 221, 36, 168, 203, 39, 252, 188, 236, 158, 243, 9, 214, 196, 60, 110, 52, 149, 170, 155, 39, 32, 207, 221, 152, 187, 228]⟩
theorem enc5 : encO o5 = ⟨#[5, 0, 2, 97, 98]⟩ := by kernel_rfl
theorem ok5 : okO o5 = true := by kernel_rfl
theorem dig5 : digO o5 = d1 := by kernel_rfl
theorem ok2 : okO o2 = true := by kernel_rfl
theorem dig2 : digO o2 = d2 := by kernel_rfl
def f1 : List FileD := [⟨⟨#[97, 47, 98, 46, 109, 111, 100]⟩, ⟨#[49]⟩⟩, ⟨⟨#[120, 45, 49]⟩, ⟨#[]⟩⟩]
def f2 : List FileD := [⟨⟨#[97]⟩, ⟨#[]⟩⟩, ⟨⟨#[97, 47, 98]⟩, ⟨#[]⟩⟩]
theorem arch1 : archE f1 = 0 := by kernel_rfl
theorem arch2 : archE f2 = 4 := by kernel_rfl
theorem ne12 : d1 ≠ d2 := by
  intro e
  have : d1.data.toList = d2.data.toList := by rw [e]
  revert this
  decide
theorem encR5 : encR o5 = .tuple #[.string ⟨#[5, 0, 2, 97, 98]⟩, .int .i64 0] := by unfold encR; rw [if_pos ok5, enc5]
theorem digR5 : digR o5 = .tuple #[.string d1, .int .i64 0] := by rw [digR_ok ok5, dig5]
theorem digR2 : digR o2 = .tuple #[.string d2, .int .i64 0] := by rw [digR_ok ok2, dig2]
theorem dec5 : decO ⟨#[5, 0, 2, 97, 98]⟩ = some o5 := by rw [← enc5]; exact dec_enc o5 ok5
def s2 : Store := Store.put (Store.put [] d1 o5) d2 o2
theorem put5 : putS [] o5 = Store.put [] d1 o5 := by unfold putS; rw [if_pos ok5, dig5]
theorem put2 : putS (Store.put [] d1 o5) o2 = s2 := by unfold putS; rw [if_pos ok2, dig2]; rfl
theorem s2_get (k : ByteArray) : s2.get k = if d2 = k then some o2 else if d1 = k then some o5 else none := by
  unfold s2
  rw [Store.get_put, Store.get_put]
  rfl
theorem s2_d1 : s2.get d1 = some o5 := by rw [s2_get, if_neg (fun e => ne12 e.symm), if_pos rfl]
theorem s2_d2 : s2.get d2 = some o2 := by rw [s2_get, if_pos rfl]
theorem s2_some (k : ByteArray) : (s2.get k).isSome = true ↔ k = d1 ∨ k = d2 := by
  rw [s2_get]
  by_cases h2 : d2 = k
  · rw [if_pos h2]
    exact ⟨fun _ => .inr h2.symm, fun _ => rfl⟩
  · rw [if_neg h2]
    by_cases h1 : d1 = k
    · rw [if_pos h1]
      exact ⟨fun _ => .inl h1.symm, fun _ => rfl⟩
    · rw [if_neg h1]
      exact ⟨(fun h => by cases h), fun h => h.elim (fun h => absurd h.symm h1) (fun h => absurd h.symm h2)⟩
theorem reach_iff (k : ByteArray) : Store.Reach s2 [d2] k ↔ k = d1 ∨ k = d2 := by
  constructor
  · intro h
    induction h with
    | root h => exact .inr (List.mem_singleton.1 h)
    | ref _ hg hm ih =>
      rcases ih with rfl | rfl
      · rw [s2_d1] at hg; cases hg; cases hm
      · rw [s2_d2] at hg
        cases hg
        exact .inl (List.mem_singleton.1 hm)
  · rintro (rfl | rfl)
    · exact .ref (.root (List.mem_singleton.2 rfl)) s2_d2 (List.mem_singleton.2 rfl)
    · exact .root (List.mem_singleton.2 rfl)
theorem two {l : List ByteArray} (h : Incr l) (hm : ∀ k, k ∈ l ↔ k = d1 ∨ k = d2) : l.length = 2 := by
  have hp : l.Perm [d1, d2] := (List.perm_ext_iff_of_nodup (incr_nodup h) (by simp [ne12])).2 fun k => by rw [hm]; simp
  exact hp.length_eq
theorem none_ {l : List ByteArray} (hm : ∀ k, k ∈ l ↔ Store.Reach s2 [d2] k ∧ (s2.get k).isSome = false) : l.length = 0 := by
  cases l with
  | nil => rfl
  | cons x l =>
    have := (hm x).1 List.mem_cons_self
    rw [reach_iff, ← s2_some] at this
    rw [this.2] at this
    cases this.1
theorem one {l : List ByteArray} (h : Incr l) (hm : ∀ k, ((s2.drop d1).get k).isSome = true ↔ k ∈ l) : l = [d2] := by
  refine incr_unique h (List.pairwise_singleton _ _) fun k => ?_
  rw [← hm, Store.get_drop, List.mem_singleton]
  by_cases e : d1 = k
  · rw [if_pos e, ← e]
    exact ⟨(fun h => by cases h), fun h => absurd h ne12⟩
  · rw [if_neg e, s2_some]
    exact ⟨fun h => h.resolve_left (fun h => e h.symm), fun h => .inr h⟩
end Awk
theorem SetAt.ne_at {w : World} {a mp n g : Nat} {F : Nat → Prop} {S : Store} {t : TypeId} {cs : Array Value} (h : SetAt w a mp n F S) (ha : At w g t cs) : g ≠ mp := by
  obtain ⟨f, h1, _⟩ := h.map_
  exact h1.ne_at ha
end Go.Proofs.YtjlpdknomdhbhaaGreatDoor
