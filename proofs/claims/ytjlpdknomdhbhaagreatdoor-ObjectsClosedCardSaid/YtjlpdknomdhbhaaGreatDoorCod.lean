/- Canonical numbers, strings and lists of strings as bytes, and reading them back: plain functions and laws. No condition. -/
import Derived.Test.YtjlpdknomdhbhaaGreatDoorShaStream
namespace Go.Proofs.YtjlpdknomdhbhaaGreatDoor
set_option linter.unusedVariables false
set_option linter.unusedSimpArgs false
open Go
namespace Cod
/-- The bytes of a number, least significant seven bits first, in at most f bytes. -/
def unsF : Nat → Nat → List UInt8
  | 0, _ => []
  | f + 1, n => if n < 128 then [n.toUInt8] else (n % 128 + 128).toUInt8 :: unsF f (n / 128)
/-- A number from a list, at its i-th byte: its value and how many bytes it takes. -/
def rdL : List UInt8 → Nat → Option (Nat × Nat)
  | [], _ => none
  | b :: l, i => if i = 9 ∧ 1 < b.toNat then none else if b.toNat < 128 then (if b.toNat = 0 ∧ i ≠ 0 then none else some (b.toNat, 1)) else match rdL l (i + 1) with
    | some (v, c) => some (b.toNat % 128 + 128 * v, c + 1)
    | none => none
theorem toNat_u8 (n : Nat) (h : n < 256) : (n.toUInt8).toNat = n := by
  simp [UInt8.toNat_ofNat]
  omega
theorem unsF_pos (f n : Nat) (h : 0 < f) : 0 < (unsF f n).length := by
  match f, h with
  | f + 1, _ => unfold unsF; split <;> simp
theorem unsF_len (f n : Nat) : (unsF f n).length ≤ f := by
  induction f generalizing n with
  | zero => exact Nat.le_refl _
  | succ f ih => unfold unsF; split <;> simp; exact ih _
theorem rd_uns (f : Nat) : ∀ (n i : Nat) (rest : List UInt8), n < 128 ^ f → n * 128 ^ i < 18446744073709551616 → i + f ≤ 10 → 0 < f → (i ≠ 0 → n ≠ 0) → rdL (unsF f n ++ rest) i = some (n, (unsF f n).length) := by
  induction f with
  | zero => intro n i rest _ _ _ h; omega
  | succ f ih =>
    intro n i rest hn hv hi _ hz
    unfold unsF
    by_cases h : n < 128
    · rw [if_pos h]
      show rdL (n.toUInt8 :: rest) i = _
      unfold rdL
      rw [toNat_u8 n (by omega)]
      rw [if_neg (by
        rintro ⟨rfl, h2⟩
        have : (128 : Nat) ^ 9 = 9223372036854775808 := by decide
        rw [this] at hv
        omega), if_pos h, if_neg (by rintro ⟨h1, h2⟩; exact hz h2 h1)]
      rfl
    · rw [if_neg h]
      show rdL ((n % 128 + 128).toUInt8 :: (unsF f (n / 128) ++ rest)) i = _
      unfold rdL
      rw [toNat_u8 _ (by omega)]
      have h9 : i ≠ 9 := by
        rintro rfl
        have : (128 : Nat) ^ 9 = 9223372036854775808 := by decide
        rw [this] at hv
        omega
      have hf : 0 < f := by
        rcases Nat.eq_zero_or_pos f with rfl | h1
        · simp at hn; omega
        · exact h1
      rw [if_neg (by rintro ⟨h1, _⟩; exact h9 h1), if_neg (by omega)]
      have hv2 : n / 128 * 128 ^ (i + 1) < 18446744073709551616 := by
        rw [Nat.pow_succ, Nat.mul_comm (128 ^ i) 128, ← Nat.mul_assoc]
        exact Nat.lt_of_le_of_lt (Nat.mul_le_mul_right _ (Nat.div_mul_le_self n 128)) hv
      rw [ih (n / 128) (i + 1) rest (by rw [Nat.pow_succ] at hn; omega) hv2 (by omega) hf (by omega)]
      show some ((n % 128 + 128) % 128 + 128 * (n / 128), (unsF f (n / 128)).length + 1) = _
      congr 2
      omega
/-- What is read was written so. -/
theorem rd_take : ∀ (l : List UInt8) (i v c : Nat), i ≤ 9 → rdL l i = some (v, c) → c ≤ l.length ∧ 0 < c ∧ c + i ≤ 10 ∧ l.take c = unsF (10 - i) v ∧ v * 128 ^ i < 18446744073709551616 ∧ (i ≠ 0 → v ≠ 0)
  | [], _, _, _, _, h => by cases h
  | b :: l, i, v, c, hi, h => by
    unfold rdL at h
    by_cases h1 : i = 9 ∧ 1 < b.toNat
    · rw [if_pos h1] at h; cases h
    · rw [if_neg h1] at h
      have hb : b.toNat < 256 := b.toNat_lt
      have hf : 10 - i = (9 - i) + 1 := by omega
      by_cases h2 : b.toNat < 128
      · rw [if_pos h2] at h
        by_cases h3 : b.toNat = 0 ∧ i ≠ 0
        · rw [if_pos h3] at h; cases h
        · rw [if_neg h3] at h
          cases h
          refine ⟨by simp, by omega, by omega, ?_, ?_, fun h4 h5 => h3 ⟨h5, h4⟩⟩
          · rw [hf]
            unfold unsF
            rw [if_pos h2]
            simp
          · by_cases h9 : i = 9
            · subst h9
              have h10 : b.toNat ≤ 1 := by
                rcases Nat.lt_or_ge 1 b.toNat with h5 | h5
                · exact absurd ⟨rfl, h5⟩ h1
                · exact h5
              have : (128 : Nat) ^ 9 = 9223372036854775808 := by decide
              rw [this]
              omega
            · have h5 : 128 ^ i ≤ 128 ^ 8 := Nat.pow_le_pow_right (by omega) (by omega)
              have h6 : (128 : Nat) ^ 8 = 72057594037927936 := by decide
              rw [h6] at h5
              have := Nat.mul_le_mul (Nat.le_of_lt_succ (by omega : b.toNat < 127 + 1)) h5
              omega
      · rw [if_neg h2] at h
        cases hr : rdL l (i + 1) with
        | none => rw [hr] at h; cases h
        | some x =>
          obtain ⟨v', c'⟩ := x
          rw [hr] at h
          simp only [Option.some.injEq, Prod.mk.injEq] at h
          obtain ⟨rfl, rfl⟩ := h
          have h9 : i ≠ 9 := by
            rintro rfl
            exact h1 ⟨rfl, by omega⟩
          obtain ⟨g1, g2, g3, g4, g5, g6⟩ := rd_take l (i + 1) v' c' (by omega) hr
          refine ⟨by simp; omega, by omega, by omega, ?_, ?_, fun _ => ?_⟩
          · have hf2 : 10 - (i + 1) = 9 - i := by omega
            rw [hf2] at g4
            rw [hf]
            unfold unsF
            have := g6 (by omega)
            rw [if_neg (by omega), List.take_succ_cons, g4]
            congr 1
            · apply UInt8.toNat_inj.1
              rw [toNat_u8 _ (by omega)]
              omega
            · congr 1
              omega
          · obtain ⟨M, hM⟩ : 128 ^ (i + 1) ∣ 18446744073709551616 := by
              have h7 : (18446744073709551616 : Nat) = 2 ^ 64 := by decide
              rw [h7, show (128 : Nat) = 2 ^ 7 by decide, ← Nat.pow_mul]
              exact Nat.pow_dvd_pow 2 (by omega)
            rw [hM, Nat.mul_comm (128 ^ (i + 1)) M] at g5
            have hlt : v' < M := Nat.lt_of_mul_lt_mul_right g5
            have hp : 0 < 128 ^ i := Nat.pow_pos (by omega)
            have e : (18446744073709551616 : Nat) = 128 * M * 128 ^ i := by rw [hM, Nat.pow_succ, Nat.mul_comm (128 ^ i) 128, Nat.mul_assoc, Nat.mul_assoc, Nat.mul_comm (128 ^ i) M]
            rw [e]
            exact Nat.mul_lt_mul_of_pos_right (by omega) hp
          · have := g6 (by omega)
            omega
def uns (n : Nat) : ByteArray := ⟨(unsF 10 n).toArray⟩
theorem uns_list (n : Nat) : (uns n).data.toList = unsF 10 n := by simp [uns]
theorem uns_size (n : Nat) : (uns n).size = (unsF 10 n).length := by rw [← Sha.len_list, uns_list]
theorem uns_pos (n : Nat) : 0 < (uns n).size := by rw [uns_size]; exact unsF_pos _ _ (by omega)
theorem uns_le (n : Nat) : (uns n).size ≤ 10 := by rw [uns_size]; exact unsF_len _ _
/-- A number at an offset, and the offset behind it. -/
def rdU (s : ByteArray) (at_ : Nat) : Option (Nat × Nat) := match rdL (s.data.toList.drop at_) 0 with
  | some (v, c) => some (v, at_ + c)
  | none => none
/-- The same, less than 2^63. -/
def rdN (s : ByteArray) (at_ : Nat) : Option (Nat × Nat) := match rdU s at_ with
  | some (v, a) => if v < 9223372036854775808 then some (v, a) else none
  | none => none
/-- A string at an offset. -/
def rdT (s : ByteArray) (at_ : Nat) : Option (ByteArray × Nat) := match rdN s at_ with
  | some (n, a) => if n ≤ s.size - a then some (s.extract a (a + n), a + n) else none
  | none => none
/-- Some strings at an offset. -/
def rdTs (s : ByteArray) : Nat → Nat → Option (List ByteArray × Nat)
  | 0, a => some ([], a)
  | n + 1, a => match rdT s a with
    | some (x, b) => match rdTs s n b with
      | some (l, c) => some (x :: l, c)
      | none => none
    | none => none
/-- A list of strings at an offset. -/
def rdTexts (s : ByteArray) (at_ : Nat) : Option (List ByteArray × Nat) := match rdN s at_ with
  | some (n, a) => if n ≤ s.size - a then rdTs s n a else none
  | none => none
def cat : List ByteArray → ByteArray
  | [] => ⟨#[]⟩
  | x :: l => x ++ cat l
def text (s : ByteArray) : ByteArray := uns s.size ++ s
def texts (l : List ByteArray) : ByteArray := uns l.length ++ cat (l.map text)
theorem list_ext {s : ByteArray} {a n : Nat} : (s.extract a (a + n)).data.toList = (s.data.toList.drop a).take n := by
  rw [Sha.ex_list]
  congr 1
  omega
theorem extract_split (s : ByteArray) (a b c : Nat) (h1 : a ≤ b) (h2 : b ≤ c) : s.extract a c = s.extract a b ++ s.extract b c := by
  apply Sha.ba_ext
  rw [Sha.app_list, Sha.ex_list, Sha.ex_list, Sha.ex_list]
  have e : c - a = (b - a) + (c - b) := by omega
  rw [e, List.take_add, List.drop_drop, show a + (b - a) = b by omega]
theorem rdU_some {s : ByteArray} {a v b : Nat} (h : rdU s a = some (v, b)) : a < b ∧ b ≤ s.size ∧ s.extract a b = uns v ∧ v < 18446744073709551616 := by
  unfold rdU at h
  cases hr : rdL (s.data.toList.drop a) 0 with
  | none => rw [hr] at h; cases h
  | some x =>
    obtain ⟨v', c⟩ := x
    rw [hr] at h
    simp only [Option.some.injEq, Prod.mk.injEq] at h
    obtain ⟨rfl, rfl⟩ := h
    obtain ⟨g1, g2, g3, g4, g5, _⟩ := rd_take _ 0 _ _ (by omega) hr
    rw [List.length_drop, Sha.len_list] at g1
    refine ⟨by omega, by omega, ?_, by simpa using g5⟩
    apply Sha.ba_ext
    rw [list_ext, uns_list]
    exact g4
theorem rdU_at {p s r : ByteArray} {n a : Nat} (ha : a = p.size) (hn : n < 18446744073709551616) : rdU (p ++ (uns n ++ r)) a = some (n, a + (uns n).size) := by
  unfold rdU
  have hd : (p ++ (uns n ++ r)).data.toList.drop a = unsF 10 n ++ r.data.toList := by
    rw [Sha.app_list, Sha.app_list, uns_list, ha, ← Sha.len_list p, List.drop_left]
  rw [hd, rd_uns 10 n 0 _ (by
    have : (128 : Nat) ^ 10 = 1180591620717411303424 := by decide
    omega) (by simpa using hn) (by omega) (by omega) (fun h => absurd rfl h), uns_size]
theorem rdN_some {s : ByteArray} {a v b : Nat} (h : rdN s a = some (v, b)) : a < b ∧ b ≤ s.size ∧ s.extract a b = uns v ∧ v < 9223372036854775808 := by
  unfold rdN at h
  cases hr : rdU s a with
  | none => rw [hr] at h; cases h
  | some x =>
    obtain ⟨v', b'⟩ := x
    rw [hr] at h
    by_cases hv : v' < 9223372036854775808
    · simp only [if_pos hv, Option.some.injEq, Prod.mk.injEq] at h
      obtain ⟨rfl, rfl⟩ := h
      obtain ⟨h1, h2, h3, _⟩ := rdU_some hr
      exact ⟨h1, h2, h3, hv⟩
    · simp only [if_neg hv] at h
      cases h
theorem rdN_at {p r : ByteArray} {n a : Nat} (ha : a = p.size) (hn : n < 9223372036854775808) : rdN (p ++ (uns n ++ r)) a = some (n, a + (uns n).size) := by
  unfold rdN
  rw [rdU_at (s := r) ha (by omega)]
  simp only [if_pos hn]
theorem rdT_some {s x : ByteArray} {a b : Nat} (h : rdT s a = some (x, b)) : a < b ∧ b ≤ s.size ∧ s.extract a b = text x := by
  unfold rdT at h
  cases hr : rdN s a with
  | none => rw [hr] at h; cases h
  | some y =>
    obtain ⟨n, a'⟩ := y
    rw [hr] at h
    obtain ⟨h1, h2, h3, _⟩ := rdN_some hr
    by_cases hv : n ≤ s.size - a'
    · simp only [if_pos hv, Option.some.injEq, Prod.mk.injEq] at h
      obtain ⟨rfl, rfl⟩ := h
      refine ⟨by omega, by omega, ?_⟩
      rw [extract_split s a a' (a' + n) (by omega) (by omega), h3]
      unfold text
      rw [ByteArray.size_extract, show min (a' + n) s.size - a' = n by omega]
    · simp only [if_neg hv] at h
      cases h
theorem rdT_at {p x r : ByteArray} {a : Nat} (ha : a = p.size) (hn : x.size < 9223372036854775808) : rdT (p ++ (text x ++ r)) a = some (x, a + (text x).size) := by
  unfold rdT text
  rw [ByteArray.append_assoc, rdN_at ha hn]
  have hz : (p ++ (uns x.size ++ (x ++ r))).size = p.size + ((uns x.size).size + (x.size + r.size)) := by simp only [Sha.app_size]
  have h1 : x.size ≤ (p ++ (uns x.size ++ (x ++ r))).size - (a + (uns x.size).size) := by rw [hz]; omega
  simp only [if_pos h1]
  congr 2
  · apply Sha.ba_ext
    rw [list_ext, Sha.app_list, Sha.app_list, Sha.app_list]
    have h2 : a + (uns x.size).size = (p.data.toList ++ (uns x.size).data.toList).length := by rw [List.length_append, Sha.len_list, Sha.len_list, ha]
    rw [h2, ← List.append_assoc, List.drop_left, ← Sha.len_list x, List.take_left]
  · rw [Sha.app_size]; omega
theorem rdTs_some {s : ByteArray} : ∀ {n a b : Nat} {l : List ByteArray}, a ≤ s.size → rdTs s n a = some (l, b) → a ≤ b ∧ b ≤ s.size ∧ s.extract a b = cat (l.map text) ∧ l.length = n
  | 0, a, b, l, ha, h => by
    simp only [rdTs, Option.some.injEq, Prod.mk.injEq] at h
    obtain ⟨rfl, rfl⟩ := h
    refine ⟨Nat.le_refl _, ha, ?_, rfl⟩
    apply Sha.ba_ext
    rw [Sha.ex_list, Nat.sub_self]
    rfl
  | n + 1, a, b, l, ha, h => by
    unfold rdTs at h
    cases hr : rdT s a with
    | none => rw [hr] at h; cases h
    | some y =>
      obtain ⟨x, a'⟩ := y
      rw [hr] at h
      obtain ⟨h1, h2, h3⟩ := rdT_some hr
      cases hq : rdTs s n a' with
      | none => simp only [hq] at h; cases h
      | some z =>
        obtain ⟨l', b'⟩ := z
        simp only [hq, Option.some.injEq, Prod.mk.injEq] at h
        obtain ⟨rfl, rfl⟩ := h
        obtain ⟨g1, g2, g3, g4⟩ := rdTs_some h2 hq
        refine ⟨by omega, g2, ?_, by simp [g4]⟩
        rw [extract_split s a a' b' (by omega) g1, h3, g3]
        rfl
theorem rdTs_at {r : ByteArray} : ∀ (l : List ByteArray) (p : ByteArray) (a : Nat), a = p.size → (∀ x ∈ l, x.size < 9223372036854775808) → rdTs (p ++ (cat (l.map text) ++ r)) l.length a = some (l, a + (cat (l.map text)).size)
  | [], p, a, _, _ => rfl
  | x :: l, p, a, ha, hx => by
    have e : p ++ (cat ((x :: l).map text) ++ r) = p ++ (text x ++ (cat (l.map text) ++ r)) := by
      show p ++ ((text x ++ cat (l.map text)) ++ r) = _
      rw [ByteArray.append_assoc]
    have e2 : p ++ (text x ++ (cat (l.map text) ++ r)) = (p ++ text x) ++ (cat (l.map text) ++ r) := by rw [ByteArray.append_assoc]
    rw [e]
    show rdTs _ (l.length + 1) a = _
    unfold rdTs
    rw [rdT_at ha (hx x List.mem_cons_self)]
    simp only
    rw [e2, rdTs_at l (p ++ text x) (a + (text x).size) (by rw [Sha.app_size, ha]) (fun y hy => hx y (List.mem_cons_of_mem _ hy))]
    simp only [Option.some.injEq, Prod.mk.injEq, true_and]
    show _ = a + (text x ++ cat (l.map text)).size
    rw [Sha.app_size]
    omega
theorem cat_size (l : List ByteArray) : l.length ≤ (cat (l.map text)).size := by
  induction l with
  | nil => exact Nat.zero_le _
  | cons x l ih =>
    show _ ≤ (text x ++ cat (l.map text)).size
    have h1 : 0 < (text x).size := by unfold text; rw [Sha.app_size]; have := uns_pos x.size; omega
    rw [Sha.app_size, List.length_cons]
    omega
theorem rdTexts_some {s : ByteArray} {a b : Nat} {l : List ByteArray} (h : rdTexts s a = some (l, b)) : a < b ∧ b ≤ s.size ∧ s.extract a b = texts l := by
  unfold rdTexts at h
  cases hr : rdN s a with
  | none => rw [hr] at h; cases h
  | some y =>
    obtain ⟨n, a'⟩ := y
    rw [hr] at h
    obtain ⟨h1, h2, h3, _⟩ := rdN_some hr
    by_cases hv : n ≤ s.size - a'
    · simp only [if_pos hv] at h
      obtain ⟨g1, g2, g3, g4⟩ := rdTs_some h2 h
      refine ⟨by omega, g2, ?_⟩
      rw [extract_split s a a' b (by omega) g1, h3, g3, ← g4]
      rfl
    · simp only [if_neg hv] at h
      cases h
theorem rdTexts_at {p r : ByteArray} {l : List ByteArray} {a : Nat} (ha : a = p.size) (hl : l.length < 9223372036854775808) (hx : ∀ x ∈ l, x.size < 9223372036854775808) : rdTexts (p ++ (texts l ++ r)) a = some (l, a + (texts l).size) := by
  unfold rdTexts texts
  rw [ByteArray.append_assoc, rdN_at ha hl]
  have hz : (p ++ (uns l.length ++ (cat (l.map text) ++ r))).size = p.size + ((uns l.length).size + ((cat (l.map text)).size + r.size)) := by simp only [Sha.app_size]
  have hc := cat_size l
  simp only [if_pos (show l.length ≤ (p ++ (uns l.length ++ (cat (l.map text) ++ r))).size - (a + (uns l.length).size) by rw [hz]; omega)]
  have e2 : p ++ (uns l.length ++ (cat (l.map text) ++ r)) = (p ++ uns l.length) ++ (cat (l.map text) ++ r) := by rw [ByteArray.append_assoc]
  rw [e2, rdTs_at l _ _ (by rw [Sha.app_size, ha]) hx]
  simp only [Option.some.injEq, Prod.mk.injEq, true_and, Sha.app_size]
  omega
end Cod
end Go.Proofs.YtjlpdknomdhbhaaGreatDoor
