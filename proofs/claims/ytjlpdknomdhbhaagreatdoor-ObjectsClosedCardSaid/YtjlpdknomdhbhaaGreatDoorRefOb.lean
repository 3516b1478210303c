/- The reference's canonical numbers, strings and lists, read. Conditions: the string is of this machine's. The reference's lists of strings: read and written. Conditions: the sizes are in reach. The reference's objects: what is valid, bytes, digests, equality, what is few. Conditions: the sizes are in reach. The reference's objects: what is valid, bytes, digests; reading; equality; what is few. Conditions: the sizes are in reach. The reference's objects: reading; equality; what is few. Conditions: the sizes are in reach. The reference's objects: equality; what is few. Conditions: the sizes are in reach. -/
import Derived.Test.YtjlpdknomdhbhaaGreatDoorCodL
import Derived.Test.YtjlpdknomdhbhaaGreatDoorObjL
import Derived.Test.YtjlpdknomdhbhaaGreatDoorRefC
namespace Go.Proofs.YtjlpdknomdhbhaaGreatDoor
set_option linter.unusedVariables false
set_option linter.unusedSimpArgs false
open Go Go.RowKit Go.Maps
def RScanI (s : ByteArray) (a : Nat) (n i : Value) : Prop :=
  ∃ k N : Nat, k ≤ 9 ∧ n = .int .u64 N ∧ i = .int .i64 (k : Int) ∧ N < 128 ^ k ∧ a + k ≤ s.size ∧
    Cod.rdL (s.data.toList.drop a) 0 = match Cod.rdL (s.data.toList.drop (a + k)) k with
      | some (v, c) => some (N + 128 ^ k * v, k + c)
      | none => none
theorem scan_add (N k : Nat) (b : UInt8) (hN : N < 128 ^ k) (hk : k ≤ 9) (h9 : k = 9 → b.toNat ≤ 1) :
    IntKind.u64.wrap ((N : Int) + IntKind.u64.wrap ((b.toNat : Int) % 128 * 2 ^ (7 * k))) = ((N + b.toNat % 128 * 128 ^ k : Nat) : Int) := by
  have hP : b.toNat % 128 * 128 ^ k ≤ 9223372036854775808 ∧ N < 9223372036854775808 := by
    by_cases h : k = 9
    · have := h9 h
      subst h
      have h2 : (128 : Nat) ^ 9 = 9223372036854775808 := by decide
      rw [h2] at hN ⊢
      omega
    · have h5 : 128 ^ k ≤ 128 ^ 8 := Nat.pow_le_pow_right (by omega) (by omega)
      have h6 : (128 : Nat) ^ 8 = 72057594037927936 := by decide
      rw [h6] at h5
      have := Nat.mul_le_mul (show b.toNat % 128 ≤ 127 by omega) h5
      omega
  have e1 : ((b.toNat : Int) % 128 * 2 ^ (7 * k)) = ((b.toNat % 128 * 128 ^ k : Nat) : Int) := by
    rw [pow128]
    push_cast
    rfl
  rw [e1, wraps_u64 ((b.toNat % 128 * 128 ^ k : Nat) : Int) (by omega) (by omega), wraps_u64 _ (by omega) (by omega)]
  omega
set_option maxRecDepth 100000 in
set_option maxHeartbeats 2000000 in
theorem r02readU_any (s : ByteArray) (a : Nat) (w : World) (ha : a ≤ s.size) (hs : s.size ≤ 140737488355328) :
    Calls Tryz.prog 98 #[.string s, .int .i64 a] w fun e w' => ScanPost (Cod.rdU s a) e ∧ w' = w := by
  obtain ⟨R, hR⟩ : ∃ R, R = ScanPost (Cod.rdU s a) := ⟨_, rfl⟩
  rw [← hR]
  have HR := Lib.hid hR; clear hR
  go_enter Tryz.func98, Tryz.ntmps98
  go_wp2_with fail
  go_loopw [7, 8] (fun n i wr => RScanI s a n i ∧ wr = w) (fun _ i _ => 10 - (intOf i).toNat)
  case atStart =>
    refine ⟨⟨0, 0, by omega, rfl, rfl, by simp, by omega, ?_⟩, rfl⟩
    rw [Nat.add_zero]
    cases Cod.rdL (s.data.toList.drop a) 0 with
    | none => rfl
    | some x => obtain ⟨v, c⟩ := x; simp
  case round =>
    obtain ⟨⟨k, N, hk, rfl, rfl, hN, hak, hrd⟩, rfl⟩ := hrel
    have HRD := Lib.hid hrd; have HN := Lib.hid hN; clear hrd hN
    have dk10 : decide ((k : Int) < 10) = true := by simp; omega
    by_cases hlt : a + k < s.size
    · obtain ⟨x, hx⟩ : ∃ x, s[a + k] = x := ⟨_, rfl⟩
      have hxb : x.toNat < 256 := x.toNat_lt
      have hd : s.data.toList.drop (a + k) = x :: s.data.toList.drop (a + k + 1) := by
        rw [List.drop_eq_getElem_cons (by rw [Sha.len_list]; exact hlt), ← hx]
        rfl
      have hr := HRD.out
      rw [hd, rdL_cons] at hr
      have HR2 := Lib.hid hr; clear hr hd HRD
      have dk : decide ((s.size : Int) ≤ (a : Int) + k) = false := by simp; omega
      have hadd : ((a : Int) + k + 1) = ((a + (k + 1) : Nat) : Int) := by omega
      have HADD := Lib.hid hadd; clear hadd
      have hno : (k = 9 ∧ 1 < x.toNat) ∨ (x.toNat = 0 ∧ k ≠ 0) → Cod.rdU s a = none := by
        intro h
        have hr := HR2.out
        unfold Cod.rdU
        rcases h with h | h
        · rw [if_pos h] at hr
          rw [hr]
        · by_cases h2 : k = 9 ∧ 1 < x.toNat
          · rw [if_pos h2] at hr
            rw [hr]
          · rw [if_neg h2, if_pos (by omega), if_pos h] at hr
            rw [hr]
      have hyes : ¬ (k = 9 ∧ 1 < x.toNat) → x.toNat < 128 → ¬ (x.toNat = 0 ∧ k ≠ 0) → Cod.rdU s a = some (N + x.toNat % 128 * 128 ^ k, a + (k + 1)) := by
        intro h1 h2 h3
        have hr := HR2.out
        rw [if_neg h1, if_pos h2, if_neg h3] at hr
        unfold Cod.rdU
        rw [hr, Nat.mod_eq_of_lt h2, Nat.mul_comm]
      have HNO := Lib.hid hno; have HYES := Lib.hid hyes; clear hno hyes
      by_cases hn : (k = 9 ∧ 1 < x.toNat) ∨ (x.toNat = 0 ∧ k ≠ 0)
      · have hfin : ∀ n b : Int, R (.returned (.tuple #[.int .u64 n, .int .i64 b, .bool false])) := by
          intro n b
          rw [HR.out, HNO.out hn]
          exact ⟨n, b, rfl⟩
        have HF := Lib.hid hfin; clear hfin
        rcases hn with ⟨rfl, h1⟩ | ⟨h0, hk0⟩
        · have h2 : (1 : Int) < x.toNat := by omega
          go_wp2_with fail
          go_ret3
          exact ⟨HF.out _ _, rfl⟩
        · have e1 : ((k : Int) == 0) = false := by simp; omega
          have e2 : ((x.toNat : Int) != 0) = false := by simp; omega
          go_wp2_with fail
          all_goals
            go_ret3
            exact ⟨HF.out _ _, rfl⟩
      · have hn1 : ¬ (k = 9 ∧ 1 < x.toNat) := fun h => hn (.inl h)
        have hn2 : ¬ (x.toNat = 0 ∧ k ≠ 0) := fun h => hn (.inr h)
        have hk9 : k = 9 → x.toNat ≤ 1 := fun h => by
          rcases Nat.lt_or_ge 1 x.toNat with h1 | h1
          · exact absurd ⟨h, h1⟩ hn1
          · exact h1
        have hor := scan_add N k x HN.out hk hk9
        have HOR := Lib.hid hor; have HK9 := Lib.hid hk9; have HN1 := Lib.hid hn1; have HN2 := Lib.hid hn2; clear hor hk9 hn hn1 hn2
        by_cases hb : x.toNat < 128
        · have hb2 : (x.toNat : Int) < 128 := by omega
          have hfin : R (.returned (.tuple #[.int .u64 ((N + x.toNat % 128 * 128 ^ k : Nat) : Int), .int .i64 ((a : Int) + k + 1), .bool true])) := by
            rw [HR.out, HYES.out HN1.out hb HN2.out, HADD.out]
            rfl
          have HF := Lib.hid hfin; clear hfin hb
          by_cases h0 : x.toNat = 0
          · obtain rfl : k = 0 := by
              rcases Nat.eq_zero_or_pos k with h | h
              · exact h
              · exact absurd ⟨h0, by omega⟩ HN2.out
            obtain rfl : N = 0 := by have := HN.out; simpa using this
            have hf : R (.returned (.tuple #[.int .u64 0, .int .i64 ((a : Int) + 1), .bool true])) := by
              have h1 := HF.out
              rw [h0] at h1
              simpa using h1
            have hx2 : s[a] = x := by simpa using hx
            have HF2 := Lib.hid hf; clear hf hx
            go_wp2_with fail
            go_ret3
            exact ⟨HF2.out, rfl⟩
          · have e2 : ((x.toNat : Int) != 0) = true := by simp; omega
            by_cases h9 : k = 9
            · subst h9
              have h1 : (x.toNat : Int) ≤ 1 := by have := HK9.out rfl; omega
              have hor := HOR.out
              rw [show (2 : Int) ^ (7 * 9) = 9223372036854775808 by decide, wraps_u64 ((x.toNat : Int) % 128 * 9223372036854775808) (by omega) (by omega)] at hor
              have HOR9 := Lib.hid hor; clear hor
              go_wp2_with fail
              go_ret3
              refine ⟨?_, rfl⟩
              rw [HOR9.out]
              exact HF.out
            · have e9 : ¬ ((k : Int) = 9) := by omega
              by_cases hk0 : k = 0
              · subst hk0
                have hor := HOR.out
                rw [show (2 : Int) ^ (7 * 0) = 1 by decide, Int.mul_one, wraps_u64 ((x.toNat : Int) % 128) (by omega) (by omega)] at hor
                have hx2 : s[a] = x := by simpa using hx
                have hf := HF.out
                rw [show ((a : Int) + ((0 : Nat) : Int) + 1) = (a : Int) + 1 by omega] at hf
                have HOR0 := Lib.hid hor; have HF0 := Lib.hid hf; clear hor hx hf
                go_wp2_with fail
                go_ret3
                refine ⟨?_, rfl⟩
                first
                  | exact HF0.out
                  | (rw [HOR0.out]; exact HF0.out)
              · go_wp2_with fail
                go_ret3
                refine ⟨?_, rfl⟩
                rw [HOR.out]
                exact HF.out
        · have hb2 : ¬ ((x.toNat : Int) < 128) := by omega
          have h9 : k ≠ 9 := fun h => by have := HK9.out h; omega
          have e9 : ¬ ((k : Int) = 9) := by omega
          have hr := HR2.out
          rw [if_neg HN1.out, if_neg hb] at hr
          have HR3 := Lib.hid hr; clear hr hb
          have hN2 : N + x.toNat % 128 * 128 ^ k < 128 ^ (k + 1) := by
            have h1 := HN.out
            have h2 := Nat.mul_le_mul_right (128 ^ k) (show x.toNat % 128 ≤ 127 by omega)
            rw [Nat.pow_succ]
            omega
          have hr2 : Cod.rdL (s.data.toList.drop a) 0 = match Cod.rdL (s.data.toList.drop (a + (k + 1))) (k + 1) with
              | some (v, c) => some ((N + x.toNat % 128 * 128 ^ k) + 128 ^ (k + 1) * v, (k + 1) + c)
              | none => none := by
            rw [HR3.out, show a + (k + 1) = a + k + 1 by omega]
            cases Cod.rdL (s.data.toList.drop (a + k + 1)) (k + 1) with
            | none => rfl
            | some y =>
              obtain ⟨v, c⟩ := y
              show some _ = some _
              congr 2
              · rw [Nat.pow_succ, Nat.mul_add, Nat.mul_comm (128 ^ k) (x.toNat % 128), Nat.mul_assoc, Nat.add_assoc]
              · omega
          have HN3 := Lib.hid hN2; have HR4 := Lib.hid hr2; clear hN2 hr2
          go_wp2_with fail
          rw [HOR.out]
          exact ⟨⟨⟨k + 1, N + x.toNat % 128 * 128 ^ k, by omega, rfl, by go_num, HN3.out, by omega, HR4.out⟩, by first | rfl | trivial⟩, by simp [intOf]; omega⟩
    · have dk : decide ((s.size : Int) ≤ (a : Int) + k) = true := by simp; omega
      have hd : s.data.toList.drop (a + k) = [] := List.drop_eq_nil_of_le (by rw [Sha.len_list]; omega)
      have hr := HRD.out
      rw [hd] at hr
      have hfin : R (.returned (.tuple #[.int .u64 0, .int .i64 0, .bool false])) := by
        rw [HR.out]
        unfold Cod.rdU
        rw [hr]
        exact ⟨0, 0, rfl⟩
      have HF := Lib.hid hfin; clear hfin hr hd
      go_wp2_with fail
      go_ret3
      exact ⟨HF.out, rfl⟩
set_option maxRecDepth 100000 in
set_option maxHeartbeats 1000000 in
theorem r02ReadUint_any (s : ByteArray) (a : Nat) (w : World) (ha : a ≤ s.size) (hs : s.size ≤ 140737488355328) :
    Calls Tryz.prog 62 #[.string s, .int .i64 a] w fun e w' => SizePost (Cod.rdN s a) e ∧ w' = w := by
  obtain ⟨R, hR⟩ : ∃ R, R = SizePost (Cod.rdN s a) := ⟨_, rfl⟩
  rw [← hR]
  have HR := Lib.hid hR; clear hR
  go_enter Tryz.func62, Tryz.ntmps62
  go_wp2_with fail
  refine (r02readU_any s a _ ha hs).mono ?_
  rintro e w1 ⟨hp, rfl⟩
  cases hr : Cod.rdU s a with
  | none =>
    rw [hr] at hp
    obtain ⟨n, b, rfl⟩ := hp
    have hf : ∀ n b : Int, R (.returned (.tuple #[.int .i64 n, .int .i64 b, .bool false])) := by
      intro n b
      rw [HR.out]
      unfold Cod.rdN
      rw [hr]
      exact ⟨n, b, rfl⟩
    have HF := Lib.hid hf; clear hf hr
    go_wp2_with fail
    go_ret3
    exact ⟨HF.out _ _, rfl⟩
  | some y =>
    obtain ⟨v, b⟩ := y
    rw [hr] at hp
    have hp' : e = .returned (.tuple #[.int .u64 v, .int .i64 b, .bool true]) := hp
    subst hp'
    clear hp
    have hv := (Cod.rdU_some hr).2.2.2
    by_cases hlt : v < 9223372036854775808
    · have hf : R (.returned (.tuple #[.int .i64 v, .int .i64 b, .bool true])) := by
        rw [HR.out]
        unfold Cod.rdN
        simp only [hr, if_pos hlt]
        rfl
      have HF := Lib.hid hf; clear hf hr
      have hz : ¬ ((9223372036854775807 : Int) < v) := by omega
      go_wp2_with fail
      go_ret3
      exact ⟨HF.out, rfl⟩
    · have hf : ∀ n b : Int, R (.returned (.tuple #[.int .i64 n, .int .i64 b, .bool false])) := by
        intro n b
        rw [HR.out]
        unfold Cod.rdN
        simp only [hr, if_neg hlt]
        exact ⟨n, b, rfl⟩
      have HF := Lib.hid hf; clear hf hr
      have hz : ((9223372036854775807 : Int) < v) := by omega
      go_wp2_with fail
      go_ret3
      exact ⟨HF.out _ _, rfl⟩
set_option maxRecDepth 100000 in
set_option maxHeartbeats 1000000 in
theorem r02ReadText_any (s : ByteArray) (a : Nat) (w : World) (ha : a ≤ s.size) (hs : s.size ≤ 140737488355328) :
    Calls Tryz.prog 63 #[.string s, .int .i64 a] w fun e w' => TextPost (Cod.rdT s a) e ∧ w' = w := by
  obtain ⟨R, hR⟩ : ∃ R, R = TextPost (Cod.rdT s a) := ⟨_, rfl⟩
  rw [← hR]
  have HR := Lib.hid hR; clear hR
  go_enter Tryz.func63, Tryz.ntmps63
  go_wp2_with fail
  refine (r02ReadUint_any s a _ ha hs).mono ?_
  rintro e w1 ⟨hp, rfl⟩
  cases hr : Cod.rdN s a with
  | none =>
    rw [hr] at hp
    obtain ⟨n, b, rfl⟩ := hp
    have hf : R (.returned (.tuple #[.string ⟨#[]⟩, .int .i64 0, .bool false])) := by
      rw [HR.out]
      unfold Cod.rdT
      rw [hr]
      rfl
    have HF := Lib.hid hf; clear hf hr
    go_wp2_with fail
    go_ret3
    exact ⟨HF.out, rfl⟩
  | some y =>
    obtain ⟨v, b⟩ := y
    rw [hr] at hp
    have hp' : e = .returned (.tuple #[.int .i64 v, .int .i64 b, .bool true]) := hp
    subst hp'
    clear hp
    obtain ⟨g1, g2, _, g4⟩ := Cod.rdN_some hr
    by_cases hlt : v ≤ s.size - b
    · have hf : R (.returned (.tuple #[.string (s.extract b (b + v)), .int .i64 ((b : Int) + v), .bool true])) := by
        rw [HR.out]
        unfold Cod.rdT
        simp only [hr, if_pos hlt]
        show _ = Ending.returned (.tuple #[.string (s.extract b (b + v)), .int .i64 ((b + v : Nat) : Int), .bool true])
        rw [Int.natCast_add]
      have HF := Lib.hid hf; clear hf hr
      have hz : ¬ ((s.size : Int) - b < v) := by omega
      go_wp2_with fail
      go_ret3
      exact ⟨HF.out, rfl⟩
    · have hf : R (.returned (.tuple #[.string ⟨#[]⟩, .int .i64 0, .bool false])) := by
        rw [HR.out]
        unfold Cod.rdT
        simp only [hr, if_neg hlt]
        rfl
      have HF := Lib.hid hf; clear hf hr
      have hz : ((s.size : Int) - b < v) := by omega
      go_wp2_with fail
      go_ret3
      exact ⟨HF.out, rfl⟩
end Go.Proofs.YtjlpdknomdhbhaaGreatDoor
namespace Go.Proofs.YtjlpdknomdhbhaaGreatDoor
set_option linter.unusedVariables false
set_option linter.unusedSimpArgs false
open Go Go.RowKit Go.Maps
def RTsI (s : ByteArray) (w0 : World) (n a : Nat) (next out i : Value) (wr : World) : Prop :=
  ∃ (k b : Nat) (xs : List ByteArray), k ≤ n ∧ xs.length = k ∧ i = .int .i64 k ∧ next = .int .i64 b ∧ b ≤ s.size ∧ wr.ownsRow w0.heap.size 9 1 out xs.length (xs.map Value.string) ∧ (∃ p c, out = .slice (some p) xs.length c) ∧ Below w0.heap.size w0 wr ∧
    Cod.rdTs s n a = match Cod.rdTs s (n - k) b with
      | some (l, c) => some (xs ++ l, c)
      | none => none
set_option maxRecDepth 100000 in
set_option maxHeartbeats 2000000 in
theorem r02ReadTexts_any (s : ByteArray) (a : Nat) (w : World) (ha : a ≤ s.size) (hs : s.size ≤ 1000000) :
    Calls Tryz.prog 90 #[.string s, .int .i64 a] w (ListPost w (Cod.rdTexts s a)) := by
  obtain ⟨R, hR⟩ : ∃ R, R = ListPost w (Cod.rdTexts s a) := ⟨_, rfl⟩
  rw [← hR]
  have HR := Lib.hid hR; clear hR
  obtain ⟨i0, hi, hz0, hz1, hz2⟩ := info_parts info_string
  go_enter Tryz.func90, Tryz.ntmps90
  go_wp2_with fail
  refine (r02ReadUint_any s a _ ha (by omega)).mono ?_
  rintro e w1 ⟨hp, rfl⟩
  cases hr : Cod.rdN s a with
  | none =>
    rw [hr] at hp
    obtain ⟨n, b, rfl⟩ := hp
    have hf : R (.returned (.tuple #[.slice none 0 0, .int .i64 0, .bool false])) w1 := by
      rw [HR.out]
      unfold Cod.rdTexts
      rw [hr]
      exact ⟨rfl, Below.refl _ _⟩
    have HF := Lib.hid hf; clear hf hr
    go_wp2_with fail
    go_ret3
    exact HF.out
  | some y =>
    obtain ⟨n, b⟩ := y
    rw [hr] at hp
    have hp' : e = .returned (.tuple #[.int .i64 n, .int .i64 b, .bool true]) := hp
    subst hp'
    clear hp
    obtain ⟨g1, g2, _, g4⟩ := Cod.rdN_some hr
    by_cases hlt : n ≤ s.size - b
    · have hz : ¬ ((s.size : Int) - b < n) := by omega
      have hf : Cod.rdTexts s a = Cod.rdTs s n b := by
        unfold Cod.rdTexts
        simp only [hr, if_pos hlt]
      have HF := Lib.hid hf; clear hf hr
      have hown0 : (w1.alloc (.cells #[] 9)).ownsRow w1.heap.size 9 1 (.slice (some ⟨w1.heap.size, 0, none⟩) 0 0) 0 [] := ⟨rfl, .inr ⟨w1.heap.size, 0, #[], rfl, Nat.le_refl _, At.new w1 _ _, Nat.le_refl _, by decide, rfl, rfl⟩⟩
      have hti : RTsI s w1 n b (.int .i64 b) (.slice (some ⟨w1.heap.size, 0, none⟩) 0 0) (.int .i64 0) (w1.alloc (.cells #[] 9)) := ⟨0, b, [], Nat.zero_le _, rfl, rfl, rfl, g2, hown0, ⟨_, _, rfl⟩, (Below.refl _ _).alloc (Nat.le_refl _) _, by
        rw [Nat.sub_zero]
        cases Cod.rdTs s n b with
        | none => rfl
        | some y => obtain ⟨l, c⟩ := y; rfl⟩
      have HTI := Lib.hid hti; clear hti hown0
      go_wp2_with fail
      go_loopw [8, 10, 11] (fun next out i wr => RTsI s w1 n b next out i wr) (fun _ _ i _ => n - (intOf i).toNat)
      case atStart => exact HTI.out
      case round =>
        obtain ⟨k, b2, xs, hk, hxl, rfl, rfl, hb2, how, ⟨pp, pc, rfl⟩, hbl, htr⟩ := hrel
        have HOW := Lib.hid how; have HBL := Lib.hid hbl; have HTR := Lib.hid htr; have HXL := Lib.hid hxl
        have hxl2 : xs.length ≤ k := by omega
        clear how hbl htr hxl
        by_cases hkn : k < n
        · have dk : decide ((k : Int) < n) = true := by simp; omega
          obtain ⟨M, hM⟩ : ∃ M, n - k = M + 1 := ⟨n - k - 1, by omega⟩
          have htr := HTR.out
          rw [hM, Cod.rdTs] at htr
          have HM := Lib.hid hM; clear hM
          go_wp2_with fail
          refine (r02ReadText_any s b2 _ hb2 (by omega)).mono ?_
          rintro e w3 ⟨hp, rfl⟩
          cases hr3 : Cod.rdT s b2 with
          | none =>
            rw [hr3] at hp
            have hp' : e = .returned (.tuple #[.string ⟨#[]⟩, .int .i64 0, .bool false]) := hp
            subst hp'
            rw [hr3] at htr
            have hf2 : R (.returned (.tuple #[.slice none 0 0, .int .i64 0, .bool false])) w3 := by
              rw [HR.out, HF.out, htr]
              exact ⟨rfl, HBL.out⟩
            have HF2 := Lib.hid hf2; clear hf2 hr3 hp htr
            go_wp2_with fail
            go_ret3
            exact HF2.out
          | some y =>
            obtain ⟨x, b3⟩ := y
            rw [hr3] at hp
            have hp' : e = .returned (.tuple #[.string x, .int .i64 b3, .bool true]) := hp
            subst hp'
            simp only [hr3] at htr
            have hb3 := (Cod.rdT_some hr3).2.1
            have HTR2 := Lib.hid htr; clear htr hr3 hp
            go_wp2_with (at_builtin; go_must (refine wpList_append_own_at _ rfl _ _ 22 rfl w1.heap.size 9 i0 _ 1 16 Tryz.underlying22 hi hz0 hz1 hz2 rfl (by omega) (.slice (some pp) xs.length pc) xs.length (xs.map Value.string) rfl (HOW.out.alloc _) ⟨w3.heap.size, 0, none⟩ 1 1 [.string x] rfl rfl ?c1 ?c2 ?c3 ?c4 ?c5 ?_))
            case c1 =>
              intro j u hj
              match j, hj with
              | 0, hj => simp at hj; subst hj; simp [Addr.add]
            case c2 => intro u hu; simp at hu; subst hu; rfl
            case c3 => unfold maxLen; omega
            case c4 => omega
            case c5 => have := HBL.out.size; simp; omega
            intro v4 w4 how4 hg4 _ _
            have hb4 : Below w1.heap.size w1 w4 := below_own (HBL.out.alloc HBL.out.size _) (by have := HBL.out.size; simp; omega) HOW.out hg4
            obtain ⟨g2, cap2, rfl, _⟩ := own_cell how4 (by omega)
            have hrel2 : RTsI s w1 n b (.int .i64 b3) (.slice (some ⟨g2, 0, none⟩) (xs.length + 1) cap2) (.int .i64 ((k : Int) + 1)) w4 := by
              refine ⟨k + 1, b3, xs ++ [x], by omega, by rw [List.length_append, HXL.out]; rfl, by go_num, rfl, hb3, by rw [List.length_append, List.map_append]; exact how4, ⟨⟨g2, 0, none⟩, cap2, by rw [List.length_append]; rfl⟩, hb4, ?_⟩
              rw [HTR2.out, show n - (k + 1) = M by have := HM.out; omega]
              cases Cod.rdTs s M b3 with
              | none => rfl
              | some z => obtain ⟨l, c⟩ := z; simp
            have HREL := Lib.hid hrel2; clear hrel2 how4 hg4 hb4
            go_wp2_with fail
            exact ⟨HREL.out, by simp [intOf]; omega⟩
        · have dk : decide ((k : Int) < n) = false := by simp; omega
          have hkn2 : k = n := by omega
          have htr := HTR.out
          rw [hkn2, Nat.sub_self] at htr
          have hf2 : R (.returned (.tuple #[.slice (some pp) xs.length pc, .int .i64 b2, .bool true])) wr := by
            rw [HR.out, HF.out, htr]
            simp only [Cod.rdTs, List.append_nil]
            exact ⟨_, rfl, StrsC.own HOW.out, own_up HOW.out, ⟨_, _, rfl⟩, HBL.out⟩
          have HF2 := Lib.hid hf2; clear hf2 htr hkn2
          go_wp2_with fail
          go_ret3
          exact HF2.out
    · have hz : ((s.size : Int) - b < n) := by omega
      have hf : R (.returned (.tuple #[.slice none 0 0, .int .i64 0, .bool false])) w1 := by
        rw [HR.out]
        unfold Cod.rdTexts
        simp only [hr, if_neg hlt]
        exact ⟨rfl, Below.refl _ _⟩
      have HF := Lib.hid hf; clear hf hr
      go_wp2_with fail
      go_ret3
      exact HF.out
set_option maxRecDepth 100000 in
set_option maxHeartbeats 1000000 in
theorem r02Texts_any (v : Value) (xs : List ByteArray) (w : World) (hv : StrsC w v xs) (hx : ∀ x ∈ xs, x.size ≤ 140737488350000) (hl : xs.length ≤ 140737488350000) (ht : (Cod.texts xs).size ≤ 140737488355328) :
    Calls Tryz.prog 44 #[v] w fun e w' => e = .returned (.string (Cod.texts xs)) ∧ Below w.heap.size w w' := by
  obtain ⟨a, c, rfl⟩ := hv.len
  have HV := Lib.hid hv; have HX := Lib.hid hx; have HT := Lib.hid ht; clear hv hx ht
  have hts : Cod.texts xs = Cod.uns xs.length ++ Cod.cat (xs.map Cod.text) := rfl
  have HTS := Lib.hid hts; clear hts
  generalize Cod.texts xs = T at *
  go_enter Tryz.func44, Tryz.ntmps44
  go_wp2_with fail
  refine (r02Uns_any xs.length _ (by omega)).mono ?_
  rintro e w1 ⟨rfl, hb1⟩
  obtain ⟨u, hu2⟩ : ∃ u, u = Cod.uns xs.length := ⟨_, rfl⟩
  rw [← hu2] at HTS ⊢
  have HB1 := Lib.hid hb1; clear hu2 hb1
  have hbig : ∀ k, (u ++ Cod.cat ((xs.take k).map Cod.text)).size ≤ 140737488355328 := fun k => by
    have h1 := cat_mono xs k
    have h2 := HT.out
    rw [HTS.out, Sha.app_size] at h2
    rw [Sha.app_size]
    omega
  have HBIG := Lib.hid hbig; clear hbig
  go_wp2_with fail
  go_loopw [3, 4] (fun o i wr => ∃ k : Nat, k ≤ xs.length ∧ i = .int .i64 k ∧ o = .string (u ++ Cod.cat ((xs.take k).map Cod.text)) ∧ Below w.heap.size w wr) (fun _ i _ => xs.length - (intOf i).toNat)
  case atStart => exact ⟨0, by omega, rfl, by rw [List.take_zero]; show _ = Value.string (u ++ ⟨#[]⟩); rw [ba_nil], HB1.out⟩
  case round =>
    obtain ⟨k, hk, rfl, rfl, hbl⟩ := hrel
    have HBL := Lib.hid hbl; clear hbl
    by_cases hlt : k < xs.length
    · have dk : decide ((k : Int) < xs.length) = true := by simp; omega
      obtain ⟨b, o, rfl⟩ := HV.out.addrOf hlt
      have ce := (HV.out.below HBL.out).cellAt hlt
      obtain ⟨s, hs⟩ : ∃ s, s = xs.getD k ⟨#[]⟩ := ⟨_, rfl⟩
      rw [← hs] at ce
      have hsx : s = xs[k] := by rw [hs]; simp [List.getD_eq_getElem?_getD, hlt]
      have hsz : s.size ≤ 140737488350000 := HX.out s (by rw [hsx]; exact List.getElem_mem hlt)
      have hstep : (u ++ Cod.cat ((xs.take k).map Cod.text)) ++ Cod.text s = u ++ Cod.cat ((xs.take (k + 1)).map Cod.text) := by rw [cat_take xs k hlt, hsx, ByteArray.append_assoc]
      have hb1 := HBIG.out (k + 1)
      rw [← hstep] at hb1
      obtain ⟨Y, hY⟩ : ∃ Y, Y = u ++ Cod.cat ((xs.take k).map Cod.text) := ⟨_, rfl⟩
      rw [← hY] at hstep hb1 ⊢
      rw [Sha.app_size] at hb1
      have HST := Lib.hid hstep; clear hstep hY hs hsx
      go_wp2_with fail
      refine (r02Text_any s _ hsz).mono ?_
      rintro e w2 ⟨rfl, hb2⟩
      have HB2 := Lib.hid (HBL.out.trans (hb2.mono HBL.out.size)); clear hb2
      generalize Cod.text s = t at *
      go_wp2_with fail
      rw [HST.out]
      exact ⟨⟨k + 1, by omega, by go_num, rfl, HB2.out⟩, by simp [intOf]; omega⟩
    · have dk : decide ((k : Int) < xs.length) = false := by simp; omega
      have hf : u ++ Cod.cat ((xs.take k).map Cod.text) = T := by rw [List.take_of_length_le (by omega), HTS.out]
      rw [hf]
      clear hf
      go_wp2_with fail
      go_ret
      exact ⟨rfl, HBL.out⟩
end Go.Proofs.YtjlpdknomdhbhaaGreatDoor
namespace Go.Proofs.YtjlpdknomdhbhaaGreatDoor
set_option linter.unusedVariables false
set_option linter.unusedSimpArgs false
open Go Go.RowKit Go.Maps
set_option maxRecDepth 100000 in
theorem r46IsDigest_any (s : ByteArray) (w : World) : Calls Tryz.prog 106 #[.string s] w fun e w' => e = .returned (.bool (decide (s.size = 32))) ∧ w' = w := by
  go_enter Tryz.func106, Tryz.ntmps106
  go_wp2_with fail
  go_ret
  refine ⟨?_, rfl⟩
  show Ending.returned (.bool _) = Ending.returned (.bool _)
  congr 2
  rw [Bool.eq_iff_iff]
  simp
  omega
set_option maxRecDepth 100000 in
set_option maxHeartbeats 1000000 in
theorem r46Digests_any (v : Value) (xs : List ByteArray) (w : World) (h : StrsC w v xs) (hl : xs.length ≤ 140737488355328) :
    Calls Tryz.prog 77 #[v] w fun e w' => e = .returned (.bool (okRefs xs)) ∧ w' = w := by
  obtain ⟨a, c, rfl⟩ := h.len
  obtain ⟨R, hR⟩ : ∃ R, R = okRefs xs := ⟨_, rfl⟩
  rw [← hR]
  have HR := Lib.hid hR; have HV := Lib.hid h; clear hR h
  go_enter Tryz.func77, Tryz.ntmps77
  go_wp2_with fail
  go_loopw [3] (fun i wr => ∃ k : Nat, k ≤ xs.length ∧ i = .int .i64 k ∧ okRefs (xs.take k) = true ∧ wr = w) (fun i _ => xs.length - (intOf i).toNat)
  case atStart => exact ⟨0, by omega, rfl, rfl, rfl⟩
  case round =>
    obtain ⟨k, hk, rfl, hok, rfl⟩ := hrel
    have HOK := Lib.hid hok; clear hok
    by_cases hlt : k < xs.length
    · have dk : decide ((k : Int) < xs.length) = true := by simp; omega
      obtain ⟨b, o, rfl⟩ := HV.out.addrOf hlt
      have ce := HV.out.cellAt hlt
      obtain ⟨s, hs⟩ : ∃ s, s = xs.getD k ⟨#[]⟩ := ⟨_, rfl⟩
      rw [← hs] at ce
      have hsx : s = xs[k] := by rw [hs]; simp [List.getD_eq_getElem?_getD, hlt]
      have htk : okRefs (xs.take (k + 1)) = decide (s.size = 32) := by
        have := HOK.out
        unfold okRefs at this ⊢
        rw [List.take_succ_eq_append_getElem hlt, List.all_append, this, ← hsx]
        simp
      have hno : s.size ≠ 32 → R = false := fun h => by
        rw [HR.out]
        unfold okRefs
        rw [List.all_eq_false]
        exact ⟨s, by rw [hsx]; exact List.getElem_mem hlt, by simpa using h⟩
      have HTK := Lib.hid htk; have HNO := Lib.hid hno; clear htk hno hs hsx
      go_wp2_with fail
      refine (r46IsDigest_any s _).mono ?_
      rintro e w2 ⟨rfl, rfl⟩
      by_cases h32 : s.size = 32
      · rw [decide_eq_true h32]
        have ht := HTK.out
        rw [decide_eq_true h32] at ht
        have HT := Lib.hid ht; clear ht h32
        go_wp2_with fail
        exact ⟨⟨k + 1, by omega, by go_num, HT.out, by first | rfl | trivial⟩, by simp [intOf]; omega⟩
      · rw [decide_eq_false h32]
        have ht := HNO.out h32
        have HT := Lib.hid ht; clear ht h32
        go_wp2_with fail
        go_ret
        exact ⟨by rw [HT.out]; rfl, rfl⟩
    · have dk : decide ((k : Int) < xs.length) = false := by simp; omega
      have hf : R = true := by
        have := HOK.out
        rw [List.take_of_length_le (by omega)] at this
        rw [HR.out, this]
      have HF := Lib.hid hf; clear hf
      go_wp2_with fail
      go_ret
      exact ⟨by rw [HF.out]; rfl, rfl⟩
theorem getD_ext (xs ys : List ByteArray) (hl : xs.length = ys.length) (h : ∀ k, k < xs.length → xs.getD k ⟨#[]⟩ = ys.getD k ⟨#[]⟩) : xs = ys := by
  apply List.ext_getElem hl
  intro k h1 h2
  have := h k h1
  simpa [List.getD_eq_getElem?_getD, h1, h2] using this
theorem bytes_beq {a b : ByteArray} : (a.toList == b.toList) = decide (a = b) := by
  rw [Bool.eq_iff_iff, beq_iff_eq, decide_eq_true_eq]
  constructor
  · intro h
    rw [ByteArray.toList_eq, ByteArray.toList_eq] at h
    exact Sha.ba_ext h
  · intro h; rw [h]
set_option maxRecDepth 100000 in
set_option maxHeartbeats 1000000 in
theorem r46Same_any (v1 v2 : Value) (xs ys : List ByteArray) (w : World) (h1 : StrsC w v1 xs) (h2 : StrsC w v2 ys) (hl1 : xs.length ≤ 140737488355328) (hl2 : ys.length ≤ 140737488355328) :
    Calls Tryz.prog 54 #[v1, v2] w fun e w' => e = .returned (.bool (decide (xs = ys))) ∧ ∃ q, w' = w.drewN q := by
  obtain ⟨a1, c1, rfl⟩ := h1.len
  obtain ⟨a2, c2, rfl⟩ := h2.len
  obtain ⟨R, hR⟩ : ∃ R, R = decide (xs = ys) := ⟨_, rfl⟩
  rw [← hR]
  have HR := Lib.hid hR; have HV1 := Lib.hid h1; have HV2 := Lib.hid h2; clear hR h1 h2
  go_enter Tryz.func54, Tryz.ntmps54
  by_cases hl : xs.length = ys.length
  · have d0 : ((xs.length : Int) != ys.length) = false := by simp; omega
    have d0' : ¬ ((xs.length : Int) = ys.length) ↔ False := by simp; omega
    have HL := Lib.hid hl
    have hly : ys.length ≤ xs.length := by omega
    have hlx : xs.length ≤ ys.length := by omega
    clear hl
    go_wp2_with fail
    go_loopw [5] (fun i wr => ∃ k q : Nat, k ≤ xs.length ∧ i = .int .i64 k ∧ (∀ j, j < k → xs.getD j ⟨#[]⟩ = ys.getD j ⟨#[]⟩) ∧ wr = w.drewN q) (fun i _ => xs.length - (intOf i).toNat)
    case atStart => exact ⟨0, 0, by omega, rfl, fun j hj => absurd hj (by omega), rfl⟩
    case round =>
      obtain ⟨k, q, hk, rfl, heq, rfl⟩ := hrel
      have HEQ := Lib.hid heq; clear heq
      by_cases hlt : k < xs.length
      · have dk : decide ((k : Int) < xs.length) = true := by simp; omega
        have dy : decide ((k : Int) < ys.length) = true := by simp; omega
        obtain ⟨b1, o1, rfl⟩ := HV1.out.addrOf hlt
        obtain ⟨b2, o2, rfl⟩ := HV2.out.addrOf (k := k) (by omega)
        have ce1 := HV1.out.cellAt hlt
        have ce2 := HV2.out.cellAt (k := k) (by omega)
        obtain ⟨s, hs⟩ : ∃ s, s = xs.getD k ⟨#[]⟩ := ⟨_, rfl⟩
        obtain ⟨t, ht⟩ : ∃ t, t = ys.getD k ⟨#[]⟩ := ⟨_, rfl⟩
        rw [← hs] at ce1
        rw [← ht] at ce2
        have HS := Lib.hid hs; have HT := Lib.hid ht; clear hs ht
        by_cases hst : s = t
        · have e1 : (s.toList == t.toList) = true := by rw [hst]; exact beq_self_eq_true _
          have hnx : ∀ j, j < k + 1 → xs.getD j ⟨#[]⟩ = ys.getD j ⟨#[]⟩ := fun j hj => by
            rcases Nat.lt_or_ge j k with h | h
            · exact HEQ.out j h
            · have : j = k := by omega
              rw [this, ← HS.out, ← HT.out, hst]
          have HNX := Lib.hid hnx; clear hnx hst
          go_wp2_with fail
          refine Lex.wp_region_lex (by kernel_rfl) (by kernel_rfl) ?_
          go_wp2_with fail
          refine Lex.Ends.intro (by kernel_rfl) ?_
          go_wp2_with fail
          exact ⟨⟨k + 1, q + 1, by omega, by go_num, HNX.out, rfl⟩, by simp [intOf]; omega⟩
        · have e1 : (s.toList == t.toList) = false := by rw [bytes_beq]; simpa using hst
          have hf : R = false := by
            rw [HR.out, decide_eq_false]
            intro h
            exact hst (by rw [HS.out, HT.out, h])
          have HF := Lib.hid hf; clear hf hst
          go_wp2_with fail
          refine Lex.wp_region_lex (by kernel_rfl) (by kernel_rfl) ?_
          go_wp2_with fail
          refine Lex.Ends.intro (by kernel_rfl) ?_
          go_wp2_with fail
          go_ret
          exact ⟨by rw [HF.out]; rfl, q + 1, rfl⟩
      · have dk : decide ((k : Int) < xs.length) = false := by simp; omega
        have hf : R = true := by
          rw [HR.out]
          exact decide_eq_true (getD_ext xs ys HL.out (fun j hj => HEQ.out j (by omega)))
        have HF := Lib.hid hf; clear hf
        go_wp2_with fail
        go_ret
        exact ⟨by rw [HF.out]; rfl, q, rfl⟩
  · have hf : R = false := by
      rw [HR.out, decide_eq_false]
      intro h
      exact hl (by rw [h])
    have d0 : ((xs.length : Int) != ys.length) = true := by simp; omega
    have HF := Lib.hid hf; clear hf
    go_wp2_with fail
    go_ret
    exact ⟨by rw [HF.out]; rfl, 0, rfl⟩
def sumS (xs : List ByteArray) : Nat := (xs.map ByteArray.size).sum
def few46 (xs : List ByteArray) : Bool := decide (xs.length ≤ 70) && decide (sumS xs ≤ 20000)
theorem sumS_take (xs : List ByteArray) (k : Nat) (h : k < xs.length) : sumS (xs.take (k + 1)) = sumS (xs.take k) + xs[k].size := by
  unfold sumS
  rw [List.take_succ_eq_append_getElem h, List.map_append, List.sum_append]
  simp
theorem sumS_mem {xs : List ByteArray} {x : ByteArray} (h : x ∈ xs) : x.size ≤ sumS xs := by
  induction xs with
  | nil => cases h
  | cons y l ih =>
    unfold sumS at ih ⊢
    rw [List.map_cons, List.sum_cons]
    rcases List.mem_cons.1 h with rfl | h1
    · omega
    · have := ih h1; omega
set_option maxRecDepth 100000 in
set_option maxHeartbeats 1000000 in
/-- The sum of the sizes is reckoned modulo 2^64: what is bounded is read off where it is small. -/
theorem r46Few_any (v : Value) (xs : List ByteArray) (w : World) (h : StrsC w v xs) (hx : ∀ x ∈ xs, x.size ≤ 140737488355328) (hl : xs.length ≤ 60000) :
    Calls Tryz.prog 35 #[v] w fun e w' => e = .returned (.bool (few46 xs)) ∧ w' = w := by
  obtain ⟨a, c, rfl⟩ := h.len
  have htk : ∀ k, k ≤ xs.length → sumS (xs.take k) ≤ k * 140737488355328 := by
    intro k
    induction k with
    | zero => intro _; simp [sumS]
    | succ k ih =>
      intro hk
      rw [sumS_take xs k (by omega)]
      have h1 := ih (by omega)
      have h2 := hx _ (List.getElem_mem (show k < xs.length by omega))
      omega
  obtain ⟨R, hR⟩ : ∃ R, R = few46 xs := ⟨_, rfl⟩
  rw [← hR]
  unfold few46 at hR
  have HR := Lib.hid hR; have HV := Lib.hid h; have HTK := Lib.hid htk; have HX := Lib.hid hx; clear hR h htk hx
  go_enter Tryz.func35, Tryz.ntmps35
  go_wp2_with fail
  go_loopw [3, 4] (fun n i wr => ∃ k : Nat, k ≤ xs.length ∧ i = .int .i64 k ∧ n = .int .i64 ((sumS (xs.take k) : Nat) : Int) ∧ wr = w) (fun _ i _ => xs.length - (intOf i).toNat)
  case atStart => exact ⟨0, by omega, rfl, rfl, rfl⟩
  case round =>
    obtain ⟨k, hk, rfl, rfl, rfl⟩ := hrel
    have hT := HTK.out k hk
    have hT2 : sumS (xs.take k) ≤ 9223372036854775000 := by omega
    by_cases hlt : k < xs.length
    · have dk : decide ((k : Int) < xs.length) = true := by simp; omega
      obtain ⟨b, o, rfl⟩ := HV.out.addrOf hlt
      have ce := HV.out.cellAt hlt
      obtain ⟨s, hs⟩ : ∃ s, s = xs.getD k ⟨#[]⟩ := ⟨_, rfl⟩
      rw [← hs] at ce
      have hsx : s = xs[k] := by rw [hs]; simp [List.getD_eq_getElem?_getD, hlt]
      have hstep : sumS (xs.take (k + 1)) = sumS (xs.take k) + s.size := by rw [sumS_take xs k hlt, hsx]
      have hss : s.size ≤ 140737488355328 := HX.out s (by rw [hsx]; exact List.getElem_mem hlt)
      have hn1 := HTK.out (k + 1) hlt
      rw [hstep] at hn1
      generalize sumS (xs.take k) = T at *
      have HST := Lib.hid hstep; clear hstep hs hsx
      go_wp2_with fail
      exact ⟨⟨k + 1, by omega, by go_num, by rw [HST.out]; go_num, by first | rfl | trivial⟩, by simp [intOf]; omega⟩
    · have dk : decide ((k : Int) < xs.length) = false := by simp; omega
      have hall : sumS (xs.take k) = sumS xs := by rw [List.take_of_length_le (by omega)]
      rw [hall] at hT2 ⊢
      clear hall hT
      by_cases h1 : xs.length ≤ 70
      · have e1 : decide ((xs.length : Int) ≤ 70) = true := by simp; omega
        by_cases h2 : sumS xs ≤ 20000
        · have e2 : decide (((sumS xs : Nat) : Int) ≤ 20000) = true := by simp; omega
          have hf : R = true := by rw [HR.out, decide_eq_true h1, decide_eq_true h2]; rfl
          have HF := Lib.hid hf; clear hf
          go_wp2_with fail
          go_ret
          exact ⟨by rw [HF.out]; rfl, rfl⟩
        · have e2 : decide (((sumS xs : Nat) : Int) ≤ 20000) = false := by simp; omega
          have hf : R = false := by rw [HR.out, decide_eq_false h2]; simp
          have HF := Lib.hid hf; clear hf
          go_wp2_with fail
          go_ret
          exact ⟨by rw [HF.out]; rfl, rfl⟩
      · have e1 : decide ((xs.length : Int) ≤ 70) = false := by simp; omega
        have hf : R = false := by rw [HR.out, decide_eq_false h1]; simp
        have HF := Lib.hid hf; clear hf
        go_wp2_with fail
        go_ret
        exact ⟨by rw [HF.out]; rfl, rfl⟩
end Go.Proofs.YtjlpdknomdhbhaaGreatDoor
namespace Go.Proofs.YtjlpdknomdhbhaaGreatDoor
set_option linter.unusedVariables false
set_option linter.unusedSimpArgs false
open Go Go.RowKit Go.Maps
set_option maxRecDepth 100000 in
set_option maxHeartbeats 2000000 in
theorem r49Valid_any (o : Obj) (v : Value) (w : World) (h : StrsC w v o.refs) (hr : Reach o) :
    Calls Tryz.prog 42 #[objV o v] w fun e w' => e = .returned (.bool (okO o)) ∧ Below w.heap.size w w' := by
  obtain ⟨a, c, rfl⟩ := h.len
  obtain ⟨k, l, x⟩ := o
  obtain ⟨hr1, hr2, hr3⟩ := hr
  unfold objV
  simp only at h hr1 hr2 hr3 ⊢
  obtain ⟨R, hR⟩ : ∃ R, R = okO ⟨k, l, x⟩ := ⟨_, rfl⟩
  rw [← hR]
  unfold okO at hR
  simp only at hR
  have HR := Lib.hid hR; clear hR
  have hb0 : Below w.heap.size w (w.alloc (.cells #[.int .i64 k, .slice a l.length c, .string x] 24)) := (Below.refl _ _).alloc (Nat.le_refl _) _
  have HB := Lib.hid hb0; have HS := Lib.hid (h.below hb0); clear hb0 h hr1
  go_enter Tryz.func42, Tryz.ntmps42
  by_cases h1 : 0 ≤ k
  · have d1 : decide (k < 0) = false := by simp; omega
    by_cases h2 : k ≤ 15
    · have d2 : decide (15 < k) = false := by simp; omega
      by_cases h3 : l.length ≤ 64
      · have d3 : decide ((64 : Int) < l.length) = false := by simp; omega
        by_cases h4 : x.size ≤ 65536
        · have d4 : decide ((65536 : Int) < x.size) = false := by simp; omega
          have e : R = okRefs l := by rw [HR.out, decide_eq_true h1, decide_eq_true h2, decide_eq_true h3, decide_eq_true h4]; simp
          have HE := Lib.hid e; clear e
          go_wp2_with fail
          refine (r46Digests_any _ l _ HS.out (by omega)).mono ?_
          rintro e2 w2 ⟨rfl, rfl⟩
          go_wp2_with fail
          go_ret
          exact ⟨by rw [HE.out]; rfl, HB.out⟩
        · have d4 : decide ((65536 : Int) < x.size) = true := by simp; omega
          have e : R = false := by rw [HR.out, decide_eq_false h4]; simp
          have HE := Lib.hid e; clear e
          go_wp2_with fail
          go_ret
          exact ⟨by rw [HE.out]; rfl, HB.out⟩
      · have d3 : decide ((64 : Int) < l.length) = true := by simp; omega
        have e : R = false := by rw [HR.out, decide_eq_false h3]; simp
        have HE := Lib.hid e; clear e
        go_wp2_with fail
        go_ret
        exact ⟨by rw [HE.out]; rfl, HB.out⟩
    · have d2 : decide (15 < k) = true := by simp; omega
      have e : R = false := by rw [HR.out, decide_eq_false h2]; simp
      have HE := Lib.hid e; clear e
      go_wp2_with fail
      go_ret
      exact ⟨by rw [HE.out]; rfl, HB.out⟩
  · have d1 : decide (k < 0) = true := by simp; omega
    have e : R = false := by rw [HR.out, decide_eq_false h1]; simp
    have HE := Lib.hid e; clear e
    go_wp2_with fail
    go_ret
    exact ⟨by rw [HE.out]; rfl, HB.out⟩
set_option maxRecDepth 100000 in
set_option maxHeartbeats 1000000 in
theorem r49Encode_any (o : Obj) (v : Value) (w : World) (h : StrsC w v o.refs) (hr : Reach o) :
    Calls Tryz.prog 12 #[objV o v] w fun e w' => e = .returned (encR o) ∧ Below w.heap.size w w' := by
  obtain ⟨a, c, rfl⟩ := h.len
  obtain ⟨R, hR⟩ : ∃ R, R = encR o := ⟨_, rfl⟩
  rw [← hR]
  unfold encR at hR
  have hval := r49Valid_any o (.slice a o.refs.length c) (w.alloc (.cells #[.int .i64 o.kind, .slice a o.refs.length c, .string o.data] 24)) (h.below ((Below.refl _ _).alloc (Nat.le_refl _) _)) hr
  have HVAL := Lib.hid hval
  have hb0 : Below w.heap.size w (w.alloc (.cells #[.int .i64 o.kind, .slice a o.refs.length c, .string o.data] 24)) := (Below.refl _ _).alloc (Nat.le_refl _) _
  have HR := Lib.hid hR; have HB0 := Lib.hid hb0; have HS := Lib.hid h; have HRE := Lib.hid hr; clear hval hR hb0 h hr
  unfold objV
  go_enter Tryz.func12, Tryz.ntmps12
  go_wp2_with fail
  refine HVAL.out.mono ?_
  rintro e w1 ⟨rfl, hb1⟩
  cases hok : okO o with
  | false =>
    have hr2 := HR.out
    rw [if_neg (by rw [hok]; decide)] at hr2
    have HR2 := Lib.hid hr2; clear hr2 hok
    have hb := HB0.out.trans (hb1.mono HB0.out.size)
    have HBB := Lib.hid hb; clear hb hb1
    go_wp2_with fail
    go_ret2
    exact ⟨by rw [HR2.out]; rfl, HBB.out⟩
  | true =>
    have hr2 := HR.out
    rw [if_pos hok] at hr2
    obtain ⟨p1, p2, p3, p4, p5⟩ := okO_parts hok
    obtain ⟨z1, z2⟩ := encO_size o hok
    have henc : encO o = Cod.uns o.kind.toNat ++ Cod.texts o.refs ++ Cod.text o.data := by unfold encO; rw [ByteArray.append_assoc]
    rw [henc] at hr2
    have hu := Cod.uns_le o.kind.toNat
    have ht := Cod.uns_le o.data.size
    have hts : (Cod.text o.data).size ≤ 65546 := by unfold Cod.text; rw [Sha.app_size]; omega
    obtain ⟨kn, hkn⟩ : ∃ kn : Nat, o.kind = kn := ⟨o.kind.toNat, by omega⟩
    have hkl : kn ≤ 15 := by omega
    have hpc : ∀ x ∈ o.refs, x.size ≤ 140737488350000 := fun x hx => by have := p5 x hx; omega
    have t0 : At w1 w.heap.size 24 #[.int .i64 o.kind, .slice a o.refs.length c, .string o.data] := (At.new w _ _).below hb1 (by simp)
    have k0 := t0.cell 0
    simp only [List.getElem?_toArray, List.getElem?_cons_zero, List.getElem?_cons_succ] at k0
    rw [hkn] at k0 hr2 hu
    rw [Int.toNat_natCast] at hr2 hu
    have hb := HB0.out.trans (hb1.mono HB0.out.size)
    have HR2 := Lib.hid hr2; have HB1 := Lib.hid hb; have T0 := Lib.hid t0; have HPC := Lib.hid hpc; clear hr2 hb hb1 t0 hpc henc hok p5 hkn p1 p2 z1 HR
    go_wp2_with fail
    refine (r02Uint_any kn _ (by omega)).mono ?_
    rintro e w2 ⟨rfl, hb2⟩
    have HB2 := Lib.hid (HB1.out.trans (hb2.mono HB1.out.size)); have T2 := Lib.hid (T0.out.below hb2 T0.out.lt)
    have j1 := T2.out.cell 1; have j2 := T2.out.cell 2
    simp only [List.getElem?_toArray, List.getElem?_cons_zero, List.getElem?_cons_succ] at j1 j2
    clear hb2 k0
    generalize Cod.uns kn = U at *
    go_wp2_with fail
    refine Lex.wp_region_lexN (fun i => i = w.heap.size) [6] 8 [4, 4] (by kernel_rfl) (by kernel_rfl) (by kernel_rfl) ?_
    simp only [Lex.wpCuts, List.take_succ_cons, List.take_zero, List.drop_succ_cons, List.drop_zero]
    go_wp2_with fail
    refine (r02Texts_any (.slice a o.refs.length c) o.refs _ ((HS.out.below HB2.out).drewN 1) HPC.out (by omega) (by omega)).mono ?_
    rintro e w3 ⟨rfl, hb3⟩
    have hb23 : Below w2.heap.size w2 w3 := (Below.refl w2.heap.size w2).drew.trans hb3
    have HB23 := Lib.hid hb23
    have HB3 := Lib.hid (HB2.out.trans (hb23.mono HB2.out.size)); have T3 := Lib.hid (T2.out.below hb23 T2.out.lt)
    have i2 := T3.out.cell 2
    simp only [List.getElem?_toArray, List.getElem?_cons_zero, List.getElem?_cons_succ] at i2
    clear hb3 hb23 j1 j2
    generalize Cod.texts o.refs = V at *
    go_wp2_with fail
    refine Lex.Mid.intro (fun i hi hl => by subst hi; exact HB23.out.block _ hl) ?_
    go_wp2_with fail
    refine (r02Text_any o.data _ (by omega)).mono ?_
    rintro e w4 ⟨rfl, hb4⟩
    have HB24 := Lib.hid (HB23.out.trans (hb4.mono HB23.out.size))
    have HB4 := Lib.hid (HB3.out.trans (hb4.mono HB3.out.size)); clear hb4 i2
    generalize Cod.text o.data = X at *
    go_wp2_with fail
    refine Lex.Mid.intro (fun i hi hl => by subst hi; exact HB24.out.block _ hl) ?_
    go_wp2_with fail
    refine Lex.EndsN.intro (by kernel_rfl) ⟨⟨rfl, by show (World.cell? _ ⟨w.heap.size, 2, none⟩).isSome = true; rw [T2.out.drew.cell 2]; rfl⟩, trivial⟩ ?_
    go_wp2_with fail
    go_ret2
    exact ⟨by rw [HR2.out]; rfl, HB4.out⟩
set_option maxRecDepth 100000 in
set_option maxHeartbeats 1000000 in
theorem r49Digest_any (o : Obj) (v : Value) (w : World) (h : StrsC w v o.refs) (hr : Reach o) :
    Calls Tryz.prog 14 #[objV o v] w fun e w' => e = .returned (digR o) ∧ Below w.heap.size w w' := by
  obtain ⟨a, c, rfl⟩ := h.len
  obtain ⟨R, hR⟩ : ∃ R, R = digR o := ⟨_, rfl⟩
  rw [← hR]
  unfold digR at hR
  have hb0 : Below w.heap.size w (w.alloc (.cells #[.int .i64 o.kind, .slice a o.refs.length c, .string o.data] 24)) := (Below.refl _ _).alloc (Nat.le_refl _) _
  have henc := r49Encode_any o (.slice a o.refs.length c) (w.alloc (.cells #[.int .i64 o.kind, .slice a o.refs.length c, .string o.data] 24)) (h.below hb0) hr
  have HENC := Lib.hid henc; have HR := Lib.hid hR; have HB0 := Lib.hid hb0; clear henc hR hb0 h hr
  unfold objV
  go_enter Tryz.func14, Tryz.ntmps14
  go_wp2_with fail
  refine HENC.out.mono ?_
  rintro e w1 ⟨rfl, hb1⟩
  have HB1 := Lib.hid (HB0.out.trans (hb1.mono HB0.out.size)); clear hb1
  have hr2 := HR.out
  by_cases hok : okO o = true
  · rw [if_pos hok] at hr2
    have hz := (encO_size o hok).1
    have he : encR o = .tuple #[.string (encO o), .int .i64 0] := by unfold encR; rw [if_pos hok]
    rw [he]
    have HR2 := Lib.hid hr2; clear hr2 hok he HENC HR
    generalize encO o = S at *
    obtain ⟨T, hT⟩ : ∃ T : ByteArray, T = ⟨#[7]⟩ ++ S := ⟨_, rfl⟩
    have hTs : T.size ≤ 70001 := by rw [hT, Sha.app_size]; show 1 + S.size ≤ _; omega
    rw [← hT] at HR2
    have HT := Lib.hid hT; clear hT
    go_wp2_with fail
    rw [← HT.out]
    refine (rSum_any T _ (by omega)).mono ?_
    rintro e w2 ⟨rfl, hb2⟩
    have HB2 := Lib.hid (HB1.out.trans (hb2.mono HB1.out.size)); clear hb2
    go_wp2_with fail
    go_ret2
    exact ⟨by rw [HR2.out]; rfl, HB2.out⟩
  · rw [if_neg hok] at hr2
    have he : encR o = .tuple #[.string ⟨#[]⟩, .int .i64 1] := by unfold encR; rw [if_neg hok]
    rw [he]
    have HR2 := Lib.hid hr2; clear hr2 hok he HENC HR
    go_wp2_with fail
    go_ret2
    exact ⟨by rw [HR2.out]; rfl, HB1.out⟩
end Go.Proofs.YtjlpdknomdhbhaaGreatDoor
namespace Go.Proofs.YtjlpdknomdhbhaaGreatDoor
set_option linter.unusedVariables false
set_option linter.unusedSimpArgs false
open Go Go.RowKit Go.Maps
/-- An object at an offset. -/
def rdO (s : ByteArray) (at_ : Nat) : Option (Obj × Nat) := match Cod.rdN s at_ with
  | some (k, a) => match Cod.rdTexts s a with
    | some (l, b) => match Cod.rdT s b with
      | some (x, c) => if okO ⟨k, l, x⟩ = true then some (⟨k, l, x⟩, c) else none
      | none => none
    | none => none
  | none => none
theorem decO_rdO (s : ByteArray) : decO s = match rdO s 0 with
    | some (o, c) => if c = s.size then some o else none
    | none => none := by
  unfold decO rdO
  cases Cod.rdN s 0 with
  | none => rfl
  | some y =>
    obtain ⟨k, a⟩ := y
    simp only
    cases Cod.rdTexts s a with
    | none => rfl
    | some y =>
      obtain ⟨l, b⟩ := y
      simp only
      cases Cod.rdT s b with
      | none => rfl
      | some y =>
        obtain ⟨x, c⟩ := y
        simp only
        by_cases h1 : okO ⟨k, l, x⟩ = true
        · by_cases h2 : c = s.size
          · rw [if_pos ⟨h2, h1⟩, if_pos h1]; simp only [if_pos h2]
          · rw [if_neg (fun h => h2 h.1), if_pos h1]; simp only [if_neg h2]
        · rw [if_neg (fun h => h1 h.2), if_neg h1]
/-- What Read returns. -/
def ReadPost (w : World) (r : Option (Obj × Nat)) (e : Ending) (w' : World) : Prop := match r with
  | some (o, m) => ∃ a c, e = .returned (.tuple #[objV o (.slice a o.refs.length c), .int .i64 m, .bool true]) ∧ StrsC w' (.slice a o.refs.length c) o.refs ∧ (∀ k, (Value.slice a o.refs.length c).ownBlock = some k → w.heap.size ≤ k) ∧ Below w.heap.size w w'
  | none => e = .returned (.tuple #[objV Obj.none (.slice none 0 0), .int .i64 0, .bool false]) ∧ Below w.heap.size w w'
theorem read_done {tmps : Array Value} {w : World} {b : Nat} {v0 v1 v2 p5 p6 : Value} {Q : Ending → World → Prop} (hp : tmps.getD 4 undef = .pointer (some ⟨b, 0, none⟩)) (h5 : tmps.getD 5 undef = p5) (h6 : tmps.getD 6 undef = p6) (hat : At w b 24 #[v0, v1, v2])
    (hq : Q (.returned (.tuple #[.agg #[v0, v1, v2], p5, p6])) w) : bodyPost Tryz.prog Tryz.f53 Q Exit.ret { tmps := tmps, defers := [] } w := by
  refine bodyPost_ret (v := .tuple #[.agg #[v0, v1, v2], p5, p6]) ?_ rfl hq
  rw [results_cell_tmp2 (p := 4) (u := 5) (v := 6) (ty := 24) rfl, hp, h5, h6]
  simp [asAddr, run_loadVar_row w b 24 24 _ (0, 0) _ hat Tryz.underlying24 rfl info_Object]
set_option maxRecDepth 100000 in
set_option maxHeartbeats 4000000 in
theorem r49Read_any (s : ByteArray) (at_ : Nat) (w : World) (ha : at_ ≤ s.size) (hs : s.size ≤ 1000000) :
    Calls Tryz.prog 53 #[.string s, .int .i64 at_] w (ReadPost w (rdO s at_)) := by
  obtain ⟨R, hR⟩ : ∃ R, R = ReadPost w (rdO s at_) := ⟨_, rfl⟩
  rw [← hR]
  obtain ⟨w1, hw1⟩ : ∃ x, x = w.alloc (.cells #[.int .i64 0, .slice none 0 0, .string ⟨#[]⟩] 24) := ⟨_, rfl⟩
  have t0 : At w1 w.heap.size 24 #[.int .i64 0, .slice none 0 0, .string ⟨#[]⟩] := by rw [hw1]; exact At.new w _ _
  have hb0 : Below w.heap.size w w1 := by rw [hw1]; exact (Below.refl _ _).alloc (Nat.le_refl _) _
  have HR := Lib.hid hR; have T0 := Lib.hid t0; have HB0 := Lib.hid hb0; have HW1 := Lib.hid hw1; clear hR t0 hb0 hw1
  go_enter Tryz.func53, Tryz.ntmps53
  go_wp2_with fail
  rw [← HW1.out]
  refine (r02ReadUint_any s at_ _ ha (by omega)).mono ?_
  rintro e w2 ⟨hp, rfl⟩
  cases h1 : Cod.rdN s at_ with
  | none =>
    rw [h1] at hp
    obtain ⟨n, b, rfl⟩ := hp
    have hdn : rdO s at_ = none := by unfold rdO; rw [h1]
    have HDN := Lib.hid hdn; clear hdn h1
    have y0 := T0.out.cell 0; have y1 := T0.out.cell 1; have y2 := T0.out.cell 2
    have z0 := T0.out.free 0; have z1 := T0.out.free 1; have z2 := T0.out.free 2
    simp only [List.getElem?_toArray, List.getElem?_cons_zero, List.getElem?_cons_succ] at y0 y1 y2
    go_wp2_with fail
    refine read_done (p5 := .int .i64 0) (p6 := .bool false) rfl rfl rfl (At.put3 T0.out _ _ _) ?_
    rw [HR.out, HDN.out]
    exact ⟨rfl, below3 (b := w.heap.size) HB0.out (Nat.le_refl _) _ _ _⟩
  | some y =>
    obtain ⟨k, a⟩ := y
    rw [h1] at hp
    have hp' : e = .returned (.tuple #[.int .i64 k, .int .i64 a, .bool true]) := hp
    subst hp'
    clear hp
    obtain ⟨g1, g2, _, g4⟩ := Cod.rdN_some h1
    have H1 := Lib.hid h1; clear h1
    go_wp2_with fail
    refine (r02ReadTexts_any s a _ g2 hs).mono ?_
    intro e w3 hp
    cases h2 : Cod.rdTexts s a with
    | none =>
      rw [h2] at hp
      obtain ⟨rfl, hb⟩ := hp
      have T3 := Lib.hid (T0.out.below hb T0.out.lt); have HB3 := Lib.hid (HB0.out.trans (hb.mono HB0.out.size))
      have hdn : rdO s at_ = none := by unfold rdO; simp only [H1.out, h2]
      have HDN := Lib.hid hdn; clear hdn h2 hb
      have y0 := T3.out.cell 0; have y1 := T3.out.cell 1; have y2 := T3.out.cell 2
      have z0 := T3.out.free 0; have z1 := T3.out.free 1; have z2 := T3.out.free 2
      simp only [List.getElem?_toArray, List.getElem?_cons_zero, List.getElem?_cons_succ] at y0 y1 y2
      go_wp2_with fail
      refine read_done (p5 := .int .i64 0) (p6 := .bool false) rfl rfl rfl (At.put3 T3.out _ _ _) ?_
      rw [HR.out, HDN.out]
      exact ⟨rfl, below3 (b := w.heap.size) HB3.out (Nat.le_refl _) _ _ _⟩
    | some y =>
      obtain ⟨l, b⟩ := y
      rw [h2] at hp
      obtain ⟨v, rfl, hsl, hfr, ⟨c, d, rfl⟩, hb⟩ := hp
      have hsz := T0.out.lt
      have hfr2 : ∀ i, (Value.slice (some c) l.length d).ownBlock = some i → w.heap.size + 1 ≤ i := fun i hi => by have := hfr i hi; omega
      have T3 := Lib.hid (T0.out.below hb T0.out.lt); have HB3 := Lib.hid (HB0.out.trans (hb.mono HB0.out.size))
      obtain ⟨q1, q2, _⟩ := Cod.rdTexts_some h2
      have H2 := Lib.hid h2; have HSL := Lib.hid hsl; have HFR := Lib.hid hfr2; clear h2 hb hsl hfr hfr2
      go_wp2_with fail
      refine (r02ReadText_any s b _ q2 (by omega)).mono ?_
      rintro e w4 ⟨hp, rfl⟩
      have hal : Below w4.heap.size w4 (w4.alloc (.cells #[.int .i64 k, .slice (some c) l.length d, .string ⟨#[]⟩] 24)) := (Below.refl _ _).alloc (Nat.le_refl _) _
      cases h3 : Cod.rdT s b with
      | none =>
        rw [h3] at hp
        have hp' : e = .returned (.tuple #[.string ⟨#[]⟩, .int .i64 0, .bool false]) := hp
        subst hp'
        have hdn : rdO s at_ = none := by unfold rdO; simp only [H1.out, H2.out, h3]
        have T4 := Lib.hid (T3.out.below hal T3.out.lt); have HB4 := Lib.hid (HB3.out.trans (hal.mono HB3.out.size))
        have HDN := Lib.hid hdn; clear hdn h3 hp hal
        go_upto_region 9 with fail
        generalize w4.alloc (.cells #[.int .i64 k, .slice (some c) l.length d, .string ⟨#[]⟩] 24) = w5 at *
        have y0 := T4.out.cell 0; have y1 := T4.out.cell 1; have y2 := T4.out.cell 2
        have z0 := T4.out.free 0; have z1 := T4.out.free 1; have z2 := T4.out.free 2
        simp only [List.getElem?_toArray, List.getElem?_cons_zero, List.getElem?_cons_succ] at y0 y1 y2
        go_wp2_with fail
        refine read_done (p5 := .int .i64 0) (p6 := .bool false) rfl rfl rfl (At.put3 T4.out _ _ _) ?_
        rw [HR.out, HDN.out]
        exact ⟨rfl, below3 (b := w.heap.size) HB4.out (Nat.le_refl _) _ _ _⟩
      | some y =>
        obtain ⟨x, m⟩ := y
        rw [h3] at hp
        have hp' : e = .returned (.tuple #[.string x, .int .i64 m, .bool true]) := hp
        subst hp'
        clear hp hal
        have hal : Below w4.heap.size w4 (w4.alloc (.cells #[.int .i64 k, .slice (some c) l.length d, .string x] 24)) := (Below.refl _ _).alloc (Nat.le_refl _) _
        have hde : rdO s at_ = if okO ⟨k, l, x⟩ = true then some (⟨k, l, x⟩, m) else none := by unfold rdO; simp only [H1.out, H2.out, h3]
        have T4 := Lib.hid (T3.out.below hal T3.out.lt); have HB4 := Lib.hid (HB3.out.trans (hal.mono HB3.out.size)); have HS4 := Lib.hid (HSL.out.below hal)
        have HO := Lib.hid (At.new w4 24 #[.int .i64 k, .slice (some c) l.length d, .string x])
        have HDE := Lib.hid hde; have HRE := Lib.hid (reach_read (k := k) H2.out h3 hs); clear hde h3 hal
        go_wp2_with fail
        generalize w4.alloc (.cells #[.int .i64 k, .slice (some c) l.length d, .string x] 24) = w5 at *
        have m0 := HO.out.cell 0; have m1 := HO.out.cell 1; have m2 := HO.out.cell 2
        simp only [List.getElem?_toArray, List.getElem?_cons_zero, List.getElem?_cons_succ] at m0 m1 m2
        go_wp2_with fail
        refine (r49Valid_any ⟨k, l, x⟩ (.slice (some c) l.length d) _ HS4.out HRE.out).mono ?_
        rintro e w6 ⟨rfl, hb6⟩
        clear m0 m1 m2
        have T6 := Lib.hid (T4.out.below hb6 T4.out.lt); have HB6 := Lib.hid (HB4.out.trans (hb6.mono HB4.out.size)); have HS6 := Lib.hid (HS4.out.below hb6); have HO6 := Lib.hid (HO.out.below hb6 HO.out.lt)
        clear hb6
        cases hok : okO ⟨k, l, x⟩ with
        | false =>
          have hdn : rdO s at_ = none := by rw [HDE.out, if_neg (by rw [hok]; decide)]
          have HDN := Lib.hid hdn; clear hdn hok
          have y0 := T6.out.cell 0; have y1 := T6.out.cell 1; have y2 := T6.out.cell 2
          have z0 := T6.out.free 0; have z1 := T6.out.free 1; have z2 := T6.out.free 2
          simp only [List.getElem?_toArray, List.getElem?_cons_zero, List.getElem?_cons_succ] at y0 y1 y2
          go_wp2_with fail
          refine read_done (p5 := .int .i64 0) (p6 := .bool false) rfl rfl rfl (At.put3 T6.out _ _ _) ?_
          rw [HR.out, HDN.out]
          exact ⟨rfl, below3 (b := w.heap.size) HB6.out (Nat.le_refl _) _ _ _⟩
        | true =>
          have hdn : rdO s at_ = some (⟨k, l, x⟩, m) := by rw [HDE.out, if_pos hok]
          have HDN := Lib.hid hdn; clear hdn hok
          have m0 := HO6.out.cell 0; have m1 := HO6.out.cell 1; have m2 := HO6.out.cell 2
          have y0 := T6.out.cell 0; have y1 := T6.out.cell 1; have y2 := T6.out.cell 2
          have z0 := T6.out.free 0; have z1 := T6.out.free 1; have z2 := T6.out.free 2
          simp only [List.getElem?_toArray, List.getElem?_cons_zero, List.getElem?_cons_succ] at m0 m1 m2 y0 y1 y2
          go_wp2_with fail
          refine read_done (p5 := .int .i64 m) (p6 := .bool true) rfl rfl rfl (At.put3 T6.out _ _ _) ?_
          rw [HR.out, HDN.out]
          exact ⟨some c, d, rfl, HS6.out.keep (fun i hi _ => put3_far (by have := HFR.out i hi; omega) _ _ _), fun i hi => by have := HFR.out i hi; omega, below3 (b := w.heap.size) HB6.out (Nat.le_refl _) _ _ _⟩
theorem rdec_done {tmps : Array Value} {w : World} {b : Nat} {v0 v1 v2 p3 : Value} {Q : Ending → World → Prop} (hp : tmps.getD 2 undef = .pointer (some ⟨b, 0, none⟩)) (h3 : tmps.getD 3 undef = p3) (hat : At w b 24 #[v0, v1, v2])
    (hq : Q (.returned (.tuple #[.agg #[v0, v1, v2], p3])) w) : bodyPost Tryz.prog Tryz.f16 Q Exit.ret { tmps := tmps, defers := [] } w := by
  refine bodyPost_ret (v := .tuple #[.agg #[v0, v1, v2], p3]) ?_ rfl hq
  rw [results_cell_tmp (p := 2) (u := 3) (ty := 24) rfl, hp, h3]
  simp [asAddr, run_loadVar_row w b 24 24 _ (0, 0) _ hat Tryz.underlying24 rfl info_Object]
set_option maxRecDepth 100000 in
set_option maxHeartbeats 4000000 in
theorem r49Decode_any (s : ByteArray) (w : World) (hs : s.size ≤ 1000000) :
    Calls Tryz.prog 16 #[.string s] w (DecPost w (decO s)) := by
  obtain ⟨R, hR⟩ : ∃ R, R = DecPost w (decO s) := ⟨_, rfl⟩
  rw [← hR]
  obtain ⟨w1, hw1⟩ : ∃ x, x = w.alloc (.cells #[.int .i64 0, .slice none 0 0, .string ⟨#[]⟩] 24) := ⟨_, rfl⟩
  have t0 : At w1 w.heap.size 24 #[.int .i64 0, .slice none 0 0, .string ⟨#[]⟩] := by rw [hw1]; exact At.new w _ _
  have hb0 : Below w.heap.size w w1 := by rw [hw1]; exact (Below.refl _ _).alloc (Nat.le_refl _) _
  have hde := decO_rdO s
  have HR := Lib.hid hR; have T0 := Lib.hid t0; have HB0 := Lib.hid hb0; have HW1 := Lib.hid hw1; have HDE := Lib.hid hde; clear hR t0 hb0 hw1 hde
  go_enter Tryz.func16, Tryz.ntmps16
  go_wp2_with fail
  rw [← HW1.out]
  refine (r49Read_any s 0 _ (Nat.zero_le _) hs).mono ?_
  intro e w2 hp
  cases h1 : rdO s 0 with
  | none =>
    rw [h1] at hp
    obtain ⟨rfl, hb⟩ := hp
    have hdn : decO s = none := by rw [HDE.out, h1]
    have T2 := Lib.hid (T0.out.below hb T0.out.lt); have HB2 := Lib.hid (HB0.out.trans (hb.mono HB0.out.size))
    have HDN := Lib.hid hdn; clear hdn h1 hb
    unfold objV Obj.none
    go_upto_region 2 with fail
    have hal : Below w2.heap.size w2 (w2.alloc (.cells #[.int .i64 0, .slice none 0 0, .string ⟨#[]⟩] 24)) := (Below.refl _ _).alloc (Nat.le_refl _) _
    have T4 := Lib.hid (T2.out.below hal T2.out.lt); have HB4 := Lib.hid (HB2.out.trans (hal.mono HB2.out.size)); clear hal
    have HO := Lib.hid (At.new w2 24 #[.int .i64 0, .slice none 0 0, .string ⟨#[]⟩])
    generalize w2.alloc (.cells #[.int .i64 0, .slice none 0 0, .string ⟨#[]⟩] 24) = w5 at *
    have y0 := T4.out.cell 0; have y1 := T4.out.cell 1; have y2 := T4.out.cell 2
    have z0 := T4.out.free 0; have z1 := T4.out.free 1; have z2 := T4.out.free 2
    have m0 := HO.out.cell 0; have m1 := HO.out.cell 1; have m2 := HO.out.cell 2
    simp only [List.getElem?_toArray, List.getElem?_cons_zero, List.getElem?_cons_succ] at y0 y1 y2 m0 m1 m2
    go_wp2_with fail
    refine rdec_done (p3 := .int .i64 9) rfl rfl (At.put3 T4.out _ _ _) ?_
    rw [HR.out, HDN.out]
    exact ⟨rfl, below3 (b := w.heap.size) HB4.out (Nat.le_refl _) _ _ _⟩
  | some y =>
    obtain ⟨⟨k, l, x⟩, m⟩ := y
    rw [h1] at hp
    obtain ⟨a, c, rfl, hsl, hfr, hb⟩ := hp
    have hsz := T0.out.lt
    have hfr2 : ∀ i, (Value.slice a l.length c).ownBlock = some i → w.heap.size + 1 ≤ i := fun i hi => by have := hfr i hi; omega
    have hde := HDE.out
    rw [h1] at hde
    simp only at hde
    have T2 := Lib.hid (T0.out.below hb T0.out.lt); have HB2 := Lib.hid (HB0.out.trans (hb.mono HB0.out.size))
    have HSL := Lib.hid (hsl.below ((Below.refl w2.heap.size w2).alloc (Nat.le_refl _) (.cells #[.int .i64 k, .slice a l.length c, .string x] 24)))
    have HFR := Lib.hid hfr2; have HD2 := Lib.hid hde; clear hde h1 hb hsl hfr hfr2
    unfold objV
    simp only at HSL ⊢
    by_cases hm : m = s.size
    · have hdn : decO s = some ⟨k, l, x⟩ := by rw [HD2.out, if_pos hm]
      have dm : ((m : Int) != s.size) = false := by simp; omega
      have HDN := Lib.hid hdn; have HM := Lib.hid hm; clear hdn hm
      go_upto_region 2 with fail
      have hal : Below w2.heap.size w2 (w2.alloc (.cells #[.int .i64 k, .slice a l.length c, .string x] 24)) := (Below.refl _ _).alloc (Nat.le_refl _) _
      have T4 := Lib.hid (T2.out.below hal T2.out.lt); have HB4 := Lib.hid (HB2.out.trans (hal.mono HB2.out.size)); clear hal
      have HO := Lib.hid (At.new w2 24 #[.int .i64 k, .slice a l.length c, .string x])
      generalize w2.alloc (.cells #[.int .i64 k, .slice a l.length c, .string x] 24) = w5 at *
      have y0 := T4.out.cell 0; have y1 := T4.out.cell 1; have y2 := T4.out.cell 2
      have z0 := T4.out.free 0; have z1 := T4.out.free 1; have z2 := T4.out.free 2
      have m0 := HO.out.cell 0; have m1 := HO.out.cell 1; have m2 := HO.out.cell 2
      simp only [List.getElem?_toArray, List.getElem?_cons_zero, List.getElem?_cons_succ] at y0 y1 y2 m0 m1 m2
      go_wp2_with fail
      refine rdec_done (p3 := .int .i64 0) rfl rfl (At.put3 T4.out _ _ _) ?_
      rw [HR.out, HDN.out]
      exact ⟨a, c, rfl, HSL.out.keep (fun i hi _ => put3_far (by have := HFR.out i hi; omega) _ _ _), fun i hi => by have := HFR.out i hi; omega, below3 (b := w.heap.size) HB4.out (Nat.le_refl _) _ _ _⟩
    · have hdn : decO s = none := by rw [HD2.out, if_neg hm]
      have dm : ((m : Int) != s.size) = true := by simp; omega
      have HDN := Lib.hid hdn; clear hdn
      go_upto_region 2 with fail
      have hal : Below w2.heap.size w2 (w2.alloc (.cells #[.int .i64 k, .slice a l.length c, .string x] 24)) := (Below.refl _ _).alloc (Nat.le_refl _) _
      have T4 := Lib.hid (T2.out.below hal T2.out.lt); have HB4 := Lib.hid (HB2.out.trans (hal.mono HB2.out.size)); clear hal
      have HO := Lib.hid (At.new w2 24 #[.int .i64 k, .slice a l.length c, .string x])
      generalize w2.alloc (.cells #[.int .i64 k, .slice a l.length c, .string x] 24) = w5 at *
      have y0 := T4.out.cell 0; have y1 := T4.out.cell 1; have y2 := T4.out.cell 2
      have z0 := T4.out.free 0; have z1 := T4.out.free 1; have z2 := T4.out.free 2
      have m0 := HO.out.cell 0; have m1 := HO.out.cell 1; have m2 := HO.out.cell 2
      simp only [List.getElem?_toArray, List.getElem?_cons_zero, List.getElem?_cons_succ] at y0 y1 y2 m0 m1 m2
      go_wp2_with fail
      refine rdec_done (p3 := .int .i64 9) rfl rfl (At.put3 T4.out _ _ _) ?_
      rw [HR.out, HDN.out]
      exact ⟨rfl, below3 (b := w.heap.size) HB4.out (Nat.le_refl _) _ _ _⟩
end Go.Proofs.YtjlpdknomdhbhaaGreatDoor
namespace Go.Proofs.YtjlpdknomdhbhaaGreatDoor
set_option linter.unusedVariables false
set_option linter.unusedSimpArgs false
open Go Go.RowKit Go.Maps
def sameO (a b : Obj) : Bool := decide (a.kind = b.kind) && decide (a.data = b.data) && decide (a.refs = b.refs)
theorem sameO_self (a : Obj) : sameO a a = true := by simp [sameO]
set_option maxRecDepth 100000 in
set_option maxHeartbeats 2000000 in
theorem r49Same_any (o p : Obj) (v u : Value) (w : World) (h : StrsC w v o.refs) (g : StrsC w u p.refs) (ho : Reach o) (hp : Reach p) :
    Calls Tryz.prog 17 #[objV o v, objV p u] w fun e w' => e = .returned (.bool (sameO o p)) ∧ Below w.heap.size w w' := by
  obtain ⟨a, c, rfl⟩ := h.len
  obtain ⟨b, d, rfl⟩ := g.len
  obtain ⟨k, l, x⟩ := o
  obtain ⟨k2, l2, x2⟩ := p
  obtain ⟨ho1, ho2, ho3⟩ := ho
  obtain ⟨hp1, hp2, hp3⟩ := hp
  unfold objV
  simp only at h g ho1 ho2 ho3 hp1 hp2 hp3 ⊢
  obtain ⟨R, hR⟩ : ∃ R, R = sameO ⟨k, l, x⟩ ⟨k2, l2, x2⟩ := ⟨_, rfl⟩
  rw [← hR]
  unfold sameO at hR
  simp only at hR
  have hb0 : Below w.heap.size w ((w.alloc (.cells #[.int .i64 k, .slice a l.length c, .string x] 24)).alloc (.cells #[.int .i64 k2, .slice b l2.length d, .string x2] 24)) := ((Below.refl _ _).alloc (Nat.le_refl _) _).alloc (by simp) _
  have HR := Lib.hid hR; have HB := Lib.hid hb0; have HS := Lib.hid (h.below hb0); have HG := Lib.hid (g.below hb0); clear hR hb0 h g ho1 hp1
  go_enter Tryz.func17, Tryz.ntmps17
  by_cases h1 : k = k2
  · have d1 : (k == k2) = true := by simpa using h1
    by_cases h2 : x = x2
    · have d2 : (x.toList == x2.toList) = true := by rw [h2]; exact beq_self_eq_true _
      have e : R = decide (l = l2) := by rw [HR.out, decide_eq_true h1, decide_eq_true h2]; simp
      have HE := Lib.hid e; clear e h1 h2
      go_wp2_with fail
      refine (r46Same_any _ _ l l2 _ HS.out HG.out (by omega) (by omega)).mono ?_
      rintro e2 w2 ⟨rfl, q, rfl⟩
      have HB2 := Lib.hid (below_drewN HB.out q)
      generalize decide (l = l2) = D at *
      go_wp2_with fail
      go_ret
      exact ⟨by rw [HE.out]; rfl, HB2.out⟩
    · have d2 : (x.toList == x2.toList) = false := by rw [bytes_beq]; simpa using h2
      have e : R = false := by rw [HR.out, decide_eq_false h2]; simp
      have HE := Lib.hid e; clear e h1 h2
      go_wp2_with fail
      go_ret
      exact ⟨by rw [HE.out]; rfl, HB.out⟩
  · have d1 : (k == k2) = false := by simpa using h1
    have e : R = false := by rw [HR.out, decide_eq_false h1]; simp
    have HE := Lib.hid e; clear e h1
    go_wp2_with fail
    go_ret
    exact ⟨by rw [HE.out]; rfl, HB.out⟩
def few49 (o : Obj) : Bool := decide (o.data.size ≤ 2000) && decide (o.refs.length ≤ 70) && few46 o.refs
set_option maxRecDepth 100000 in
set_option maxHeartbeats 2000000 in
theorem r49Few_any (o : Obj) (v : Value) (w : World) (h : StrsC w v o.refs) (hx : ∀ x ∈ o.refs, x.size ≤ 140737488355328) (hl : o.refs.length ≤ 140737488355328) (hd : o.data.size ≤ 140737488355328) :
    Calls Tryz.prog 10 #[objV o v] w fun e w' => e = .returned (.bool (few49 o)) ∧ Below w.heap.size w w' := by
  obtain ⟨a, c, rfl⟩ := h.len
  obtain ⟨k, l, x⟩ := o
  unfold objV
  simp only at h hx hl hd ⊢
  obtain ⟨R, hR⟩ : ∃ R, R = few49 ⟨k, l, x⟩ := ⟨_, rfl⟩
  rw [← hR]
  unfold few49 at hR
  simp only at hR
  have hb0 : Below w.heap.size w (w.alloc (.cells #[.int .i64 k, .slice a l.length c, .string x] 24)) := (Below.refl _ _).alloc (Nat.le_refl _) _
  have HR := Lib.hid hR; have HB := Lib.hid hb0; have HS := Lib.hid (h.below hb0); have HX := Lib.hid hx; clear hR hb0 h hx
  go_enter Tryz.func10, Tryz.ntmps10
  by_cases h1 : x.size ≤ 2000
  · have d1 : decide ((x.size : Int) ≤ 2000) = true := by simp; omega
    by_cases h2 : l.length ≤ 70
    · have d2 : decide ((l.length : Int) ≤ 70) = true := by simp; omega
      have e : R = few46 l := by rw [HR.out, decide_eq_true h1, decide_eq_true h2]; simp
      have HE := Lib.hid e; clear e
      go_wp2_with fail
      refine (r46Few_any _ l _ HS.out HX.out (by omega)).mono ?_
      rintro e2 w2 ⟨rfl, rfl⟩
      generalize few46 l = D at *
      go_wp2_with fail
      go_ret
      exact ⟨by rw [HE.out]; rfl, HB.out⟩
    · have d2 : decide ((l.length : Int) ≤ 70) = false := by simp; omega
      have e : R = false := by rw [HR.out, decide_eq_false h2]; simp
      have HE := Lib.hid e; clear e
      go_wp2_with fail
      go_ret
      exact ⟨by rw [HE.out]; rfl, HB.out⟩
  · have d1 : decide ((x.size : Int) ≤ 2000) = false := by simp; omega
    have e : R = false := by rw [HR.out, decide_eq_false h1]; simp
    have HE := Lib.hid e; clear e
    go_wp2_with fail
    go_ret
    exact ⟨by rw [HE.out]; rfl, HB.out⟩
end Go.Proofs.YtjlpdknomdhbhaaGreatDoor
