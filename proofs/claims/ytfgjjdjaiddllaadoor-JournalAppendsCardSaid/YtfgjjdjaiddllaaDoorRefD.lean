/- The reference's journal (package modcertref51), its small functions: Need, Free, ValidRegion, Big, Begin, ReadBig. Conditions: those of each law. -/
import Derived.Test.YtfgjjdjaiddllaaDoorRefC
import Derived.Test.YtfgjjdjaiddllaaDoorJourP
namespace Go.Proofs.YtfgjjdjaiddllaaDoor
set_option linter.unusedVariables false
set_option linter.unusedSimpArgs false
open Go Go.RowKit Go.Maps
theorem rNeed_any (n : Int) (w : World) : Calls Tryd.prog 15 #[.int .i64 n] w fun e w' => e = .returned (.int .i64 (pagesOf n)) ∧ w' = w := by
  by_cases h : n < 0 ∨ 65536 < n
  · have e : pagesOf n = 0 := by unfold pagesOf; rw [if_pos h]
    have HE := Lib.hid e; clear e
    go_enter Tryd.func15, Tryd.ntmps15
    go_wp2_with fail
    all_goals first | (go_ret; exact ⟨by rw [HE.out]; rfl, rfl⟩) | (exfalso; omega)
  · have hn : 0 ≤ n ∧ n ≤ 65536 := by omega
    have e : pagesOf n = if n = 0 then 1 else (n + 436) / 437 := by unfold pagesOf; rw [if_neg h]
    have HE := Lib.hid e; clear e h
    go_enter Tryd.func15, Tryd.ntmps15
    go_wp2_with fail
    go_ret
    refine ⟨?_, rfl⟩
    show Ending.returned (.int .i64 (max 1 ((n + 437 - 1) / 437))) = _
    rw [HE.out]
    have e : max 1 ((n + 437 - 1) / 437) = if n = 0 then 1 else (n + 436) / 437 := by
      split
      · omega
      · omega
    rw [e]
set_option maxRecDepth 100000 in
set_option maxHeartbeats 1000000 in
theorem rBig_any (n size : Nat) (w : World) (hn : n < 9223372036854775808) (h1 : 1 ≤ size) (h2 : size ≤ 8) :
    Calls Tryd.prog 59 #[.int .i64 n, .int .i64 size] w fun e w' => e = .returned (.string (big n size)) ∧ Below w.heap.size w w' := by
  obtain ⟨i0, hi, hz0, hz1, hz2⟩ := info_parts info_bb
  go_enter Tryd.func59, Tryd.ntmps59
  go_wp2_with (at_make; go_must (refine wpList_make_full _ rfl _ _ 92 rfl w.heap.size 5 i0 (.int .u8 0) 1 Tryd.underlying92 hi hz0 hz1 .i64 .i64 size size size rfl rfl rfl rfl (by rw [hz2]; omega) (by unfold maxLen; omega) (Nat.le_refl _) ?_); intro w1 how hg; have hat := own_full how; clear how)
  have hB : Below w.heap.size w w1 := (Below.refl _ _).grown hg (Nat.le_refl _) (fun k hk => by cases hk)
  have hrow : At w1 w.heap.size 5 (bigRow n size 0) := by
    have e : (madeCells (Value.int .u8 0).cells (size * 1)).toList.toArray = bigRow n size 0 := by
      rw [Nat.mul_one]
      show (madeCells #[Value.int .u8 0] size).toList.toArray = _
      rw [toList_madeCells_one]
      simp [bigRow, List.map_const']
    exact e ▸ hat
  have HB := Lib.hid hB; have HR := Lib.hid hrow; clear hB hrow hat hg
  go_wp2_with fail
  go_loopw [0, 6] (fun m i wr => ∃ k : Nat, k ≤ size ∧ i = .int .i64 ((size : Int) - 1 - k) ∧ m = .int .i64 ((n / 256 ^ k : Nat) : Int) ∧ At wr w.heap.size 5 (bigRow n size k) ∧ Below w.heap.size w wr)
    (fun _ i _ => (intOf i + 1).toNat)
  case atStart => exact ⟨0, by omega, by simp, by simp, HR.out, HB.out⟩
  case round =>
    obtain ⟨k, hk, rfl, rfl, hw, hb⟩ := hrel
    have h256 : n / 256 ^ k = n / 2 ^ (8 * k) := by rw [Nat.pow_mul]
    have hsucc : n / 256 ^ (k + 1) = n / 256 ^ k / 256 := by rw [Nat.pow_succ, Nat.div_div_eq_div_mul]
    have hM : n / 256 ^ k < 9223372036854775808 := Nat.lt_of_le_of_lt (Nat.div_le_self _ _) hn
    have H256 := Lib.hid h256; have HSU := Lib.hid hsucc; clear h256 hsucc
    by_cases hlt : k < size
    · have dk : decide ((0 : Int) ≤ (size : Int) - 1 - k) = true := by simp; omega
      have fz : wr.frozen? ⟨w.heap.size, size - 1 - k, none⟩ = false := hw.free _
      have ce := hw.cell (size - 1 - k)
      rw [bigRow_get _ _ _ _ (by omega)] at ce
      have hix : ((size : Int) - 1 - k).toNat = size - 1 - k := by omega
      have hset := hw.set (size - 1 - k) (.int .u8 ((n / 2 ^ (8 * k) % 256 : Nat) : Int))
      rw [bigRow_set n size k hlt, ← H256.out] at hset
      generalize n / 256 ^ k = M at *
      have HSET := Lib.hid hset; have HW := Lib.hid hw; have HBB := Lib.hid hb; clear hset hw hb
      go_wp2_with fail
      refine ⟨⟨k + 1, by omega, by congr 1; omega, by rw [HSU.out, Int.natCast_ediv]; rfl, ?_, HBB.out.setCell (p := ⟨w.heap.size, size - 1 - k, none⟩) (Nat.le_refl _) _⟩, by simp [intOf]; omega⟩
      have h := HSET.out
      rw [Int.natCast_emod] at h
      exact h
    · have hk' : k = size := by omega
      have dk : decide ((0 : Int) ≤ (size : Int) - 1 - k) = false := by simp; omega
      have hB : Lib.Bytes wr w.heap.size 0 (big n size) := by
        intro i hi
        rw [big_size] at hi
        rw [Nat.zero_add, hw.cell, bigRow_get _ _ _ _ hi, if_pos (by omega)]
        have e : (big n size)[i]'(by rw [big_size]; exact hi) = (n / 2 ^ (8 * (size - 1 - i)) % 256).toUInt8 := by
          show (big n size).data[i]'_ = _
          simp [big]
        have e2 : (n / 2 ^ (8 * (size - 1 - i)) % 256).toUInt8.toNat = n / 2 ^ (8 * (size - 1 - i)) % 256 := by
          show (UInt8.ofNat _).toNat = _
          rw [UInt8.toNat_ofNat']
          omega
        rw [← e2]
        exact congrArg (fun x : UInt8 => some (Value.int .u8 (x.toNat : Int))) e.symm
      have hc := Lib.run_convert_whole (P := Tryd.prog) wr 92 5 9 rfl rfl rfl _ _ _ hB size
      rw [big_size] at hc
      have HBB := Lib.hid hb; clear hb hw hk' hB
      have HC := Lib.hid hc; clear hc
      go_wp2_with fail
      rw [HC.out]
      go_wp2_with fail
      go_ret
      exact ⟨rfl, HBB.out⟩
set_option maxRecDepth 100000 in
set_option maxHeartbeats 1000000 in
theorem rBegin_any (n : Nat) (w : World) (hn : n < 9223372036854775808) :
    Calls Tryd.prog 51 #[.int .i64 n] w fun e w' => e = .returned (.string (chain0 n)) ∧ Below w.heap.size w w' := by
  go_enter Tryd.func51, Tryd.ntmps51
  go_wp2_with fail
  refine (rBig_any n 8 w hn (by omega) (by omega)).mono ?_
  rintro e w1 ⟨rfl, hb1⟩
  have h8 := big_size n 8
  have HB1 := Lib.hid hb1; clear hb1
  have hc : chain0 n = Sha.sha (⟨#[9]⟩ ++ big n 8) := rfl
  generalize big n 8 = B at *
  have HC := Lib.hid hc; clear hc
  go_wp2_with fail
  refine (rSum_any _ w1 (by have h1 : (⟨#[9]⟩ : ByteArray).size = 1 := rfl; rw [Sha.app_size, h8, h1]; omega)).mono ?_
  rintro e w2 ⟨rfl, hb2⟩
  have HB2 := Lib.hid (HB1.out.trans (hb2.mono HB1.out.size)); clear hb2
  generalize hS : Sha.sha _ = S
  go_wp2_with fail
  go_ret
  refine ⟨?_, HB2.out⟩
  rw [HC.out, hS]
  rfl
/-- The number in the first k bytes. -/
def numOf (s : ByteArray) : Nat → Nat
  | 0 => 0
  | k + 1 => 256 * numOf s k + byteAt s k
theorem numOf_mono (s : ByteArray) {j k : Nat} (h : j ≤ k) : numOf s j ≤ numOf s k := by
  induction k with
  | zero => obtain rfl : j = 0 := by omega
            exact Nat.le_refl _
  | succ k ih =>
    by_cases e : j = k + 1
    · subst e; exact Nat.le_refl _
    · have := ih (by omega)
      show _ ≤ 256 * numOf s k + byteAt s k
      omega
/-- What ReadBig gives. -/
def readBig (s : ByteArray) : Int := if numOf s (s.size - 1) < 18014398509481984 then (numOf s s.size : Nat) else -1
theorem byteAt_get (s : ByteArray) (k : Nat) (h : k < s.size) : (s[k]).toNat = byteAt s k := by
  have := Sha.byt_get s k h
  unfold Sha.byt at this
  unfold byteAt
  omega
set_option maxRecDepth 100000 in
set_option maxHeartbeats 1000000 in
theorem rReadBig_any (s : ByteArray) (w : World) (h1 : 1 ≤ s.size) (h2 : s.size ≤ 8) :
    Calls Tryd.prog 67 #[.string s] w fun e w' => e = .returned (.int .i64 (readBig s)) ∧ w' = w := by
  go_enter Tryd.func67, Tryd.ntmps67
  go_wp2_with fail
  go_loopw [3, 4] (fun n i wr => ∃ k : Nat, k ≤ s.size ∧ i = .int .i64 k ∧ n = .int .i64 ((numOf s k : Nat) : Int) ∧ (k = 0 ∨ numOf s (k - 1) < 18014398509481984) ∧ wr = w) (fun _ i _ => s.size - (intOf i).toNat)
  case atStart => exact ⟨0, by omega, rfl, rfl, .inl rfl, rfl⟩
  case round =>
    obtain ⟨k, hk, rfl, rfl, hp, rfl⟩ := hrel
    by_cases hlt : k < s.size
    · have dk : decide ((k : Int) < s.size) = true := by simp; omega
      by_cases hbig : numOf s k < 18014398509481984
      · have db : decide ((18014398509481984 : Int) ≤ (numOf s k : Nat)) = false := by simp; omega
        have hb := byteAt_get s k hlt
        have hbl := byteAt_lt s k
        have hst : numOf s (k + 1) = 256 * numOf s k + byteAt s k := rfl
        obtain ⟨N, hN⟩ : ∃ N, N = numOf s k := ⟨_, rfl⟩
        rw [← hN] at hbig db hst ⊢
        have HST := Lib.hid hst; have HNN := Lib.hid hN; clear hst hp hN
        generalize byteAt s k = B at *
        go_wp2_with fail
        refine ⟨⟨k + 1, by omega, by go_num, ?_, .inr ?_, by first | rfl | trivial⟩, by simp [intOf]; omega⟩
        · rw [HST.out]
          go_num
        · show numOf s k < _
          rw [← HNN.out]
          exact hbig
      · have db : decide ((18014398509481984 : Int) ≤ (numOf s k : Nat)) = true := by simp; omega
        have hm := numOf_mono s (j := k) (k := s.size - 1) (by omega)
        have hr : readBig s = -1 := by unfold readBig; rw [if_neg (by omega)]
        have HR := Lib.hid hr; clear hr hm hp
        generalize numOf s k = N at *
        go_wp2_with fail
        go_ret
        exact ⟨by rw [HR.out]; rfl, rfl⟩
    · have hk' : k = s.size := by omega
      have dk : decide ((k : Int) < s.size) = false := by simp; omega
      have hr : readBig s = (numOf s k : Nat) := by unfold readBig; rw [if_pos (by rw [← hk']; omega), hk']
      have HR := Lib.hid hr; clear hr hp
      go_wp2_with fail
      go_ret
      exact ⟨by rw [HR.out]; rfl, rfl⟩
end Go.Proofs.YtfgjjdjaiddllaaDoor
