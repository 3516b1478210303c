/- What the reference's journal asks of a page is what the program's asks. No condition. -/
import Derived.Test.YtfgjjdjaiddllaaDoorRefD
import Derived.Test.YtfgjjdjaiddllaaDoorJourN
namespace Go.Proofs.YtfgjjdjaiddllaaDoor
set_option linter.unusedVariables false
set_option linter.unusedSimpArgs false
open Go Go.RowKit Go.Maps
theorem numOf_lt (t : ByteArray) : ∀ k, numOf t k < 256 ^ k
  | 0 => Nat.one_pos
  | k + 1 => by
    have h1 := numOf_lt t k
    have h2 := byteAt_lt t k
    show 256 * numOf t k + byteAt t k < 256 ^ (k + 1)
    rw [Nat.pow_succ]
    omega
theorem numOf_div (t : ByteArray) (k : Nat) : ∀ j, numOf t (k + j) / 256 ^ j = numOf t k
  | 0 => by simp
  | j + 1 => by
    have h1 := numOf_div t k j
    have h2 := byteAt_lt t (k + j)
    have h3 : numOf t (k + (j + 1)) = 256 * numOf t (k + j) + byteAt t (k + j) := rfl
    rw [Nat.pow_succ, Nat.mul_comm, ← Nat.div_div_eq_div_mul, h3, show (256 * numOf t (k + j) + byteAt t (k + j)) / 256 = numOf t (k + j) by omega, h1]
theorem numOf_digit (t : ByteArray) (k j : Nat) : numOf t (k + 1 + j) / 256 ^ j % 256 = byteAt t k := by
  rw [numOf_div t (k + 1) j]
  have := byteAt_lt t k
  show (256 * numOf t k + byteAt t k) % 256 = _
  omega
theorem big_numOf (t : ByteArray) (h : t.size = 8) : big (numOf t 8) 8 = t := by
  apply Sha.ba_ext
  have hl : t.data.toList.length = 8 := by rw [Sha.len_list, h]
  apply List.ext_getElem
  · rw [Sha.len_list, big_size, hl]
  · intro i h1 h2
    rw [hl] at h2
    have e1 := big8_get (numOf t 8) i h2
    rw [List.getD_eq_getElem?_getD, List.getElem?_eq_getElem h1, Option.getD_some] at e1
    rw [e1]
    have e2 : byteAt t i = (t.data.toList[i]).toNat := by
      unfold byteAt
      rw [List.getD_eq_getElem?_getD, List.getElem?_eq_getElem (by omega)]
      rfl
    have e3 := numOf_digit t i (7 - i)
    rw [show i + 1 + (7 - i) = 8 by omega] at e3
    have e4 : (2 : Nat) ^ (8 * (8 - 1 - i)) = 256 ^ (7 - i) := by rw [Nat.pow_mul]
    rw [e4, e3, e2]
    show UInt8.ofNat _ = _
    rw [UInt8.ofNat_toNat]
theorem epoch_same (t : ByteArray) (n : Nat) (h : t.size = 8) (hn : n ≤ 4611686018427387903) : (t.toList == (big n 8).toList) = decide (readBig t = n) := by
  have hlt := numOf_lt t 8
  have hlt7 : numOf t 8 = 256 * numOf t 7 + byteAt t 7 := rfl
  have h256 : (256 : Nat) ^ 8 = 18446744073709551616 := by decide
  have hrb : readBig t = n ↔ numOf t 8 = n := by
    unfold readBig
    rw [h]
    show (if numOf t 7 < _ then ((numOf t 8 : Nat) : Int) else -1) = n ↔ _
    split
    · omega
    · have := byteAt_lt t 7
      omega
  rw [decide_eq_decide.2 hrb]
  by_cases e : numOf t 8 = n
  · rw [decide_eq_true e]
    have : t = big n 8 := by rw [← e, big_numOf t h]
    rw [← this]
    simp
  · rw [decide_eq_false e]
    have hne : t.toList ≠ (big n 8).toList := by
      intro hh
      have e2 : t = big n 8 := by
        apply Sha.ba_ext
        rw [ByteArray.toList_eq, ByteArray.toList_eq] at hh
        exact hh
      apply e
      apply big8_inj (by omega) (by omega)
      rw [big_numOf t h, e2]
    simpa using hne
theorem byteAt_ext (s : ByteArray) (a b k : Nat) (h : a + k < b) (hb : b ≤ s.size) : byteAt (s.extract a b) k = byteAt s (a + k) := by
  unfold byteAt
  rw [Sha.ex_list, List.getD_eq_getElem?_getD, List.getD_eq_getElem?_getD, List.getElem?_take_of_lt (by omega), List.getElem?_drop]
theorem len_same (s : ByteArray) (h : s.size = 512) : readBig (s.extract 41 43) = (pageLen s : Nat) := by
  have hz : (s.extract 41 43).size = 2 := by rw [ByteArray.size_extract]; omega
  have b0 := byteAt_ext s 41 43 0 (by omega) (by omega)
  have b1 := byteAt_ext s 41 43 1 (by omega) (by omega)
  have n1 : numOf (s.extract 41 43) 1 = byteAt s 41 := by
    show 256 * 0 + byteAt _ 0 = _
    rw [b0]
    show 256 * 0 + byteAt s 41 = _
    omega
  have n2 : numOf (s.extract 41 43) 2 = byteAt s 41 * 256 + byteAt s 42 := by
    show 256 * numOf (s.extract 41 43) 1 + byteAt _ 1 = _
    rw [n1, b1, Nat.mul_comm]
  unfold readBig
  rw [hz]
  have := byteAt_lt s 41
  rw [if_pos (by show numOf _ 1 < _; omega), n2]
  rfl
theorem dropWhile_all {l : List UInt8} (h : ∀ b ∈ l, b = 0) : l.dropWhile (· == 0) = [] := by
  induction l with
  | nil => rfl
  | cons x l ih =>
    have hx := h x List.mem_cons_self
    subst hx
    simpa using ih (fun b hb => h b (List.mem_cons_of_mem _ hb))
theorem dropWhile_nil {l : List UInt8} (h : l.dropWhile (· == 0) = []) : ∀ b ∈ l, b = 0 := by
  induction l with
  | nil => intro b hb; cases hb
  | cons x l ih =>
    by_cases hx : x = 0
    · subst hx
      have h2 : l.dropWhile (· == 0) = [] := by simpa using h
      intro b hb
      rcases List.mem_cons.1 hb with rfl | hb
      · rfl
      · exact ih h2 b hb
    · simp [hx] at h
theorem dropWhile_head (l : List UInt8) : ∀ x t, l.dropWhile (· == 0) = x :: t → x ≠ 0 := by
  induction l with
  | nil => intro x t h; cases h
  | cons y l ih =>
    intro x t h
    by_cases hy : y = 0
    · subst hy
      exact ih x t (by simpa using h)
    · rw [List.dropWhile_cons_of_neg (by simpa using hy)] at h
      cases h
      exact hy
theorem trimB_nil (l : List UInt8) : Lib.trimB l 0 = [] ↔ ∀ b ∈ l, b = 0 := by
  unfold Lib.trimB Lib.trimLeftB Lib.trimRightB
  constructor
  · intro h
    have h1 := dropWhile_nil h
    have h2 : l.reverse.dropWhile (· == 0) = [] := by
      cases hd : l.reverse.dropWhile (· == 0) with
      | nil => rfl
      | cons x t =>
        exfalso
        exact dropWhile_head _ x t hd (h1 x (by rw [hd]; simp))
    intro b hb
    exact dropWhile_nil h2 b (by simpa using hb)
  · intro h
    have h1 : l.reverse.dropWhile (· == 0) = [] := dropWhile_all (fun b hb => h b (by simpa using hb))
    rw [h1]
    rfl
/-- The rest of a page is zero. -/
theorem rest_zero (s : ByteArray) (a : Nat) (h : s.size = 512) (ha : a ≤ 512) : ((⟨(Lib.trimB (s.extract a 512).data.toList 0).toArray⟩ : ByteArray).toList == []) = true ↔ ∀ i, a ≤ i → i < 512 → byteAt s i = 0 := by
  have e1 : ((⟨(Lib.trimB (s.extract a 512).data.toList 0).toArray⟩ : ByteArray).toList == []) = true ↔ Lib.trimB (s.extract a 512).data.toList 0 = [] := by
    rw [ByteArray.toList_eq]
    simp
  rw [e1, trimB_nil, Sha.ex_list]
  have hl : s.data.toList.length = 512 := by rw [Sha.len_list, h]
  have hget : ∀ i, (hi : i < 512) → byteAt s i = (s.data.toList[i]'(by omega)).toNat := by
    intro i hi
    unfold byteAt
    rw [List.getD_eq_getElem?_getD, List.getElem?_eq_getElem (by omega)]
    rfl
  constructor
  · intro hh i h1 h2
    rw [hget i h2]
    have := hh (s.data.toList[i]'(by omega)) (by
      rw [List.mem_iff_getElem?]
      refine ⟨i - a, ?_⟩
      rw [List.getElem?_take_of_lt (by omega), List.getElem?_drop, show a + (i - a) = i by omega, List.getElem?_eq_getElem])
    rw [this]
    rfl
  · intro hh b hb
    rw [List.mem_iff_getElem?] at hb
    obtain ⟨j, hj⟩ := hb
    rw [List.getElem?_take] at hj
    split at hj
    · rw [List.getElem?_drop] at hj
      have hlt : a + j < 512 := by omega
      have h3 := hh (a + j) (by omega) hlt
      rw [hget (a + j) hlt] at h3
      rw [List.getElem?_eq_getElem (by omega), Option.some.injEq] at hj
      rw [hj] at h3
      exact UInt8.toNat_inj.1 h3
    · cases hj
section
variable {epoch : Nat} {s chain : ByteArray}
theorem parsed_size (h : s.size ≠ 512) : parsed epoch s chain = none := by
  unfold parsed headOK
  have : (s.size == 512) = false := by simpa using h
  rw [this]
  rfl
theorem parsed_sha (h : ((s.extract 0 32).toList == (Sha.sha (⟨#[8]⟩ ++ chain ++ s.extract 32 512)).toList) = false) : parsed epoch s chain = none := by
  unfold parsed headOK
  have h2 : ((Sha.sha (⟨#[8]⟩ ++ chain ++ s.extract 32 512)).toList == (s.extract 0 32).toList) = false := by rw [Bool.beq_comm]; exact h
  rw [h2, Bool.and_false]
  rfl
theorem ext8 (h : s.size = 512) : (s.extract 32 40).size = 8 := by rw [ByteArray.size_extract]; omega
theorem parsed_epoch (h : s.size = 512) (he : epoch ≤ 4611686018427387903) (hr : readBig (s.extract 32 40) ≠ epoch) : parsed epoch s chain = none := by
  unfold parsed headOK
  rw [epoch_same _ _ (ext8 h) he, decide_eq_false hr, Bool.and_false]
  rfl
theorem parsed_flag (h : 1 < byteAt s 40) : parsed epoch s chain = none := by
  unfold parsed bodyOK
  rw [decide_eq_false (by omega : ¬ byteAt s 40 ≤ 1)]
  simp
theorem parsed_len (h : 437 < pageLen s) : parsed epoch s chain = none := by
  unfold parsed bodyOK
  rw [decide_eq_false (by omega : ¬ pageLen s ≤ 437)]
  simp
theorem parsed_full (h0 : byteAt s 40 = 0) (h : pageLen s ≠ 437) : parsed epoch s chain = none := by
  unfold parsed bodyOK
  simp [h0, h]
theorem parsed_rest {i : Nat} (h : s.size = 512) (h1 : 75 + pageLen s ≤ i) (h2 : i < 512) (h3 : byteAt s i ≠ 0) : parsed epoch s chain = none := by
  have hr : ((⟨(Lib.trimB (s.extract (75 + pageLen s) 512).data.toList 0).toArray⟩ : ByteArray).toList == []) = false := by
    rw [Bool.eq_false_iff]
    intro hh
    exact h3 ((rest_zero s _ h (by omega)).1 hh i h1 h2)
  unfold parsed bodyOK
  rw [hr]
  simp
theorem parsed_good (h : s.size = 512) (he : epoch ≤ 4611686018427387903) (hs : ((s.extract 0 32).toList == (Sha.sha (⟨#[8]⟩ ++ chain ++ s.extract 32 512)).toList) = true) (hr : readBig (s.extract 32 40) = epoch)
    (hf : byteAt s 40 ≤ 1) (hl : pageLen s ≤ 437) (hn : ¬ (byteAt s 40 = 0 ∧ pageLen s ≠ 437)) (hz : ∀ i, 75 + pageLen s ≤ i → i < 512 → byteAt s i = 0) :
    parsed epoch s chain = some ⟨s.extract 0 32, s.extract 43 75, s.extract 75 (75 + pageLen s), byteAt s 40 == 1⟩ := by
  have h2 : ((Sha.sha (⟨#[8]⟩ ++ chain ++ s.extract 32 512)).toList == (s.extract 0 32).toList) = true := by rw [Bool.beq_comm]; exact hs
  have hrest := (rest_zero s _ h (by omega)).2 hz
  have hb : bodyOK s = true := by
    unfold bodyOK
    rw [hrest, decide_eq_true hf, decide_eq_true hl]
    by_cases h0 : byteAt s 40 = 0
    · have : pageLen s = 437 := by
        by_cases e : pageLen s = 437
        · exact e
        · exact absurd ⟨h0, e⟩ hn
      simp [this]
    · simp [h0]
  have hh : headOK epoch s chain = true := by
    unfold headOK
    rw [epoch_same _ _ (ext8 h) he, decide_eq_true hr, h2, h]
    rfl
  unfold parsed
  rw [hh, hb]
  rfl
end
end Go.Proofs.YtfgjjdjaiddllaaDoor
