/- The program's and the reference's canonical numbers and strings. Conditions: the sizes are in reach. The program's reader. Conditions: the reader lies there; the string is of this machine's. The program's reader: numbers, strings, counts. Conditions: the reader lies there; the string is of this machine's. The program's reader: counts, lists of strings, the end. Conditions: the reader lies there; the string is of this machine's. The program's reader: lists of strings. Conditions: the reader lies there; the string is at most a million bytes long. -/
import Derived.Test.YtjlpdknomdhbhaaGreatDoorStrs
import Derived.Test.YtjlpdknomdhbhaaGreatDoorCod
import Derived.Test.YtjlpdknomdhbhaaGreatDoorLex
import Derived.Deep.DeepCutAuto
import Derived.Lib.EndianBits
namespace Go.Proofs.YtjlpdknomdhbhaaGreatDoor
set_option linter.unusedVariables false
set_option linter.unusedSimpArgs false
open Go Go.RowKit Go.Maps
def nums (L : List UInt8) : List Int := L.map fun x => (x.toNat : Int)
theorem nums_app (a b : List UInt8) : nums (a ++ b) = nums a ++ nums b := List.map_append
theorem strOf_nums (L : List UInt8) : strOfNums (nums L) = ⟨L.toArray⟩ := by
  apply Sha.ba_ext
  rw [strOfNums_data]
  unfold nums
  rw [List.map_map]
  show L.map _ = L
  rw [List.map_congr_left (g := id) (fun x _ => by simp)]
  simp
theorem or128 (n : Nat) : bits BinOp.or IntKind.u8 ((n : Int) % 256) 128 = ((n % 128 + 128 : Nat) : Int) := by
  have h : ∀ k : Fin 256, bits BinOp.or IntKind.u8 (k.val : Int) 128 = ((k.val % 128 + 128 : Nat) : Int) := by decide +kernel
  have h2 := h ⟨n % 256, Nat.mod_lt _ (by omega)⟩
  simp only at h2
  have e : ((n % 256 : Nat) : Int) = (n : Int) % 256 := by omega
  rw [e] at h2
  rw [h2]
  congr 2
  omega
theorem unsF_more (f n : Nat) (h : 128 ≤ n) : Cod.unsF (f + 1) n = (n % 128 + 128).toUInt8 :: Cod.unsF f (n / 128) := by
  show (if n < 128 then _ else _) = _
  rw [if_neg (by omega)]
theorem unsF_last (f n : Nat) (h : n < 128) : Cod.unsF (f + 1) n = [n.toUInt8] := by
  show (if n < 128 then _ else _) = _
  rw [if_pos h]
/-- Between two bytes of a number. -/
def UnsI (w0 : World) (m0 : Nat) (n b : Value) (wr : World) : Prop :=
  ∃ (m f : Nat) (B : List UInt8), n = .int .u64 m ∧ m < 128 ^ (f + 1) ∧ m < 18446744073709551616 ∧ B.length + f = 9 ∧ B ++ Cod.unsF (f + 1) m = Cod.unsF 10 m0 ∧ wr.ownsRow w0.heap.size 5 1 b B.length ((nums B).map (Value.int .u8)) ∧ Below w0.heap.size w0 wr
set_option maxRecDepth 100000 in
set_option maxHeartbeats 1000000 in
theorem cUns_any (m : Nat) (w : World) (hm : m < 18446744073709551616) :
    Calls Tryz.prog 74 #[.int .u64 m] w fun e w' => e = .returned (.string (Cod.uns m)) ∧ Below w.heap.size w w' := by
  obtain ⟨i0, hi, hz0, hz1, hz2⟩ := info_parts info_u8
  go_enter Tryz.func74, Tryz.ntmps74
  go_wp2_with fail
  go_loopw [0, 3] (fun n b wr => UnsI w m n b wr) (fun n _ _ => (intOf n).toNat)
  case atStart =>
    have h10 : (128 : Nat) ^ 10 = 1180591620717411303424 := by decide
    exact ⟨m, 9, [], rfl, by omega, hm, rfl, rfl, ⟨rfl, .inl ⟨rfl, rfl⟩⟩, Below.refl _ _⟩
  case round =>
    obtain ⟨n, f, B, rfl, hn, hn2, hl, hB, how, hb⟩ := hrel
    have HOW := Lib.hid how; have HBL := Lib.hid hb; have HBB := Lib.hid hB; clear how hb hB
    obtain ⟨ga, gm, gc, rfl⟩ := own_slice HOW.out
    by_cases hlt : 128 ≤ n
    · obtain ⟨x, hx⟩ : ∃ x : UInt8, x = (n % 128 + 128).toUInt8 := ⟨_, rfl⟩
      have hxn : (x.toNat : Int) = bits BinOp.or IntKind.u8 ((n : Int) % 256) 128 := by rw [hx, Cod.toNat_u8 _ (by omega)]; exact (or128 n).symm
      have HX := Lib.hid hx; have HXN := Lib.hid hxn; clear hx hxn
      obtain ⟨g, rfl⟩ : ∃ g, f = g + 1 := by
        rcases f with _ | g
        · simp at hn; omega
        · exact ⟨g, rfl⟩
      have hn3 : n / 128 < 128 ^ (g + 1) := by
        rw [Nat.pow_succ] at hn
        omega
      have HN3 := Lib.hid hn3; clear hn3 hn
      go_wp2_with (at_builtin; go_must (refine wpList_append_own_at _ rfl _ _ 45 rfl w.heap.size 5 i0 _ 1 1 Tryz.underlying45 hi hz0 hz1 hz2 rfl (by omega) (.slice ga gm gc) B.length ((nums B).map (Value.int .u8)) rfl (HOW.out.alloc _) ⟨wr.heap.size, 0, none⟩ 1 1 [.int .u8 (bits BinOp.or IntKind.u8 ((n : Int) % 256) 128)] rfl rfl ?c1 ?c2 ?c3 ?c4 ?c5 ?_))
      case c1 =>
        intro j u hj
        match j, hj with
        | 0, hj => simp at hj; subst hj; simp [Addr.add]
      case c2 => intro u hu; simp at hu; subst hu; rfl
      case c3 => unfold maxLen; omega
      case c4 => omega
      case c5 => have := HBL.out.size; simp; omega
      intro v1 w1 how1 hg1 _ _
      have hb1 : Below w.heap.size w w1 := below_own (HBL.out.alloc HBL.out.size _) (by have := HBL.out.size; simp; omega) HOW.out hg1
      have hrow : w1.ownsRow w.heap.size 5 1 v1 (B.length + 1) ((nums (B ++ [x])).map (Value.int .u8)) := by
        rw [nums_app, List.map_append]
        show w1.ownsRow _ _ _ _ _ (_ ++ [Value.int .u8 (x.toNat : Int)])
        rw [HXN.out]
        exact how1
      obtain ⟨g2, cap2, rfl, _⟩ := own_cell hrow (by omega)
      have hB2 : (B ++ [x]) ++ Cod.unsF (g + 1) (n / 128) = Cod.unsF 10 m := by
        rw [List.append_assoc, ← HBB.out, unsF_more (g + 1) n hlt, HX.out]
        rfl
      have HB1 := Lib.hid hb1; have HROW := Lib.hid hrow; have HB2 := Lib.hid hB2; clear how1 hg1 hb1 hrow hB2
      go_wp2_with fail
      refine ⟨⟨n / 128, g, B ++ [x], by first | rfl | (congr 1; omega), HN3.out, by omega, by rw [List.length_append]; show B.length + 1 + g = 9; omega, HB2.out, by rw [List.length_append]; exact HROW.out, HB1.out⟩, by simp [intOf]; omega⟩
    · obtain ⟨x, hx⟩ : ∃ x : UInt8, x = n.toUInt8 := ⟨_, rfl⟩
      have hxn : (x.toNat : Int) = n := by rw [hx, Cod.toNat_u8 n (by omega)]
      have HX := Lib.hid hx; have HXN := Lib.hid hxn; clear hx hxn
      go_wp2_with (at_builtin; go_must (refine wpList_append_own_at _ rfl _ _ 45 rfl w.heap.size 5 i0 _ 1 1 Tryz.underlying45 hi hz0 hz1 hz2 rfl (by omega) (.slice ga gm gc) B.length ((nums B).map (Value.int .u8)) rfl (HOW.out.alloc _) ⟨wr.heap.size, 0, none⟩ 1 1 [.int .u8 n] rfl rfl ?c1 ?c2 ?c3 ?c4 ?c5 ?_))
      case c1 =>
        intro j u hj
        match j, hj with
        | 0, hj => simp at hj; subst hj; simp [Addr.add]
      case c2 => intro u hu; simp at hu; subst hu; rfl
      case c3 => unfold maxLen; omega
      case c4 => omega
      case c5 => have := HBL.out.size; simp; omega
      intro v1 w1 how1 hg1 _ _
      have hb1 : Below w.heap.size w w1 := below_own (HBL.out.alloc HBL.out.size _) (by have := HBL.out.size; simp; omega) HOW.out hg1
      have hrow : w1.ownsRow w.heap.size 5 1 v1 (B.length + 1) ((nums (B ++ [x])).map (Value.int .u8)) := by
        rw [nums_app, List.map_append]
        show w1.ownsRow _ _ _ _ _ (_ ++ [Value.int .u8 (x.toNat : Int)])
        rw [HXN.out]
        exact how1
      have hfin : (⟨(B ++ [x]).toArray⟩ : ByteArray) = Cod.uns m := by
        unfold Cod.uns
        rw [← HBB.out, unsF_last f n (by omega), HX.out]
      have hcv : (convert 45 9 v1).run Tryz.prog w1 = .ok (.string (Cod.uns m)) w1 := by
        rw [run_convert_own w1 45 5 9 rfl rfl rfl _ hrow, strOf_nums, hfin]
      have HB1 := Lib.hid hb1; clear how1 hg1 hb1 hrow hfin
      go_wp2_with fail
      go_ret
      exact ⟨rfl, HB1.out⟩
set_option maxRecDepth 100000 in
set_option maxHeartbeats 1000000 in
theorem r02Uns_any (m : Nat) (w : World) (hm : m < 18446744073709551616) :
    Calls Tryz.prog 78 #[.int .u64 m] w fun e w' => e = .returned (.string (Cod.uns m)) ∧ Below w.heap.size w w' := by
  obtain ⟨i0, hi, hz0, hz1, hz2⟩ := info_parts info_u8
  go_enter Tryz.func78, Tryz.ntmps78
  go_wp2_with fail
  go_loopw [0, 3] (fun n b wr => UnsI w m n b wr) (fun n _ _ => (intOf n).toNat)
  case atStart =>
    have h10 : (128 : Nat) ^ 10 = 1180591620717411303424 := by decide
    exact ⟨m, 9, [], rfl, by omega, hm, rfl, rfl, ⟨rfl, .inr ⟨w.heap.size, 0, #[], rfl, Nat.le_refl _, At.new w _ _, Nat.le_refl _, by decide, rfl, rfl⟩⟩, (Below.refl _ _).alloc (Nat.le_refl _) _⟩
  case round =>
    obtain ⟨n, f, B, rfl, hn, hn2, hl, hB, how, hb⟩ := hrel
    have HOW := Lib.hid how; have HBL := Lib.hid hb; have HBB := Lib.hid hB; clear how hb hB
    obtain ⟨ga, gm, gc, rfl⟩ := own_slice HOW.out
    by_cases hlt : 128 ≤ n
    · obtain ⟨x, hx⟩ : ∃ x : UInt8, x = (n % 128 + 128).toUInt8 := ⟨_, rfl⟩
      have hxn : (x.toNat : Int) = (n : Int) % 128 + 128 := by rw [hx, Cod.toNat_u8 _ (by omega)]; omega
      have HX := Lib.hid hx; have HXN := Lib.hid hxn; clear hx hxn
      obtain ⟨g, rfl⟩ : ∃ g, f = g + 1 := by
        rcases f with _ | g
        · simp at hn; omega
        · exact ⟨g, rfl⟩
      have hn3 : n / 128 < 128 ^ (g + 1) := by
        rw [Nat.pow_succ] at hn
        omega
      have HN3 := Lib.hid hn3; clear hn3 hn
      go_wp2_with (at_builtin; go_must (refine wpList_append_own_at _ rfl _ _ 45 rfl w.heap.size 5 i0 _ 1 1 Tryz.underlying45 hi hz0 hz1 hz2 rfl (by omega) (.slice ga gm gc) B.length ((nums B).map (Value.int .u8)) rfl (HOW.out.alloc _) ⟨wr.heap.size, 0, none⟩ 1 1 [.int .u8 ((n : Int) % 128 + 128)] rfl rfl ?c1 ?c2 ?c3 ?c4 ?c5 ?_))
      case c1 =>
        intro j u hj
        match j, hj with
        | 0, hj => simp at hj; subst hj; simp [Addr.add]
      case c2 => intro u hu; simp at hu; subst hu; rfl
      case c3 => unfold maxLen; omega
      case c4 => omega
      case c5 => have := HBL.out.size; simp; omega
      intro v1 w1 how1 hg1 _ _
      have hb1 : Below w.heap.size w w1 := below_own (HBL.out.alloc HBL.out.size _) (by have := HBL.out.size; simp; omega) HOW.out hg1
      have hrow : w1.ownsRow w.heap.size 5 1 v1 (B.length + 1) ((nums (B ++ [x])).map (Value.int .u8)) := by
        rw [nums_app, List.map_append]
        show w1.ownsRow _ _ _ _ _ (_ ++ [Value.int .u8 (x.toNat : Int)])
        rw [HXN.out]
        exact how1
      obtain ⟨g2, cap2, rfl, _⟩ := own_cell hrow (by omega)
      have hB2 : (B ++ [x]) ++ Cod.unsF (g + 1) (n / 128) = Cod.unsF 10 m := by
        rw [List.append_assoc, ← HBB.out, unsF_more (g + 1) n hlt, HX.out]
        rfl
      have HB1 := Lib.hid hb1; have HROW := Lib.hid hrow; have HB2 := Lib.hid hB2; clear how1 hg1 hb1 hrow hB2
      go_wp2_with fail
      refine ⟨⟨n / 128, g, B ++ [x], by first | rfl | (congr 1; omega), HN3.out, by omega, by rw [List.length_append]; show B.length + 1 + g = 9; omega, HB2.out, by rw [List.length_append]; exact HROW.out, HB1.out⟩, by simp [intOf]; omega⟩
    · obtain ⟨x, hx⟩ : ∃ x : UInt8, x = n.toUInt8 := ⟨_, rfl⟩
      have hxn : (x.toNat : Int) = n := by rw [hx, Cod.toNat_u8 n (by omega)]
      have HX := Lib.hid hx; have HXN := Lib.hid hxn; clear hx hxn
      go_wp2_with (at_builtin; go_must (refine wpList_append_own_at _ rfl _ _ 45 rfl w.heap.size 5 i0 _ 1 1 Tryz.underlying45 hi hz0 hz1 hz2 rfl (by omega) (.slice ga gm gc) B.length ((nums B).map (Value.int .u8)) rfl (HOW.out.alloc _) ⟨wr.heap.size, 0, none⟩ 1 1 [.int .u8 n] rfl rfl ?c1 ?c2 ?c3 ?c4 ?c5 ?_))
      case c1 =>
        intro j u hj
        match j, hj with
        | 0, hj => simp at hj; subst hj; simp [Addr.add]
      case c2 => intro u hu; simp at hu; subst hu; rfl
      case c3 => unfold maxLen; omega
      case c4 => omega
      case c5 => have := HBL.out.size; simp; omega
      intro v1 w1 how1 hg1 _ _
      have hb1 : Below w.heap.size w w1 := below_own (HBL.out.alloc HBL.out.size _) (by have := HBL.out.size; simp; omega) HOW.out hg1
      have hrow : w1.ownsRow w.heap.size 5 1 v1 (B.length + 1) ((nums (B ++ [x])).map (Value.int .u8)) := by
        rw [nums_app, List.map_append]
        show w1.ownsRow _ _ _ _ _ (_ ++ [Value.int .u8 (x.toNat : Int)])
        rw [HXN.out]
        exact how1
      have hfin : (⟨(B ++ [x]).toArray⟩ : ByteArray) = Cod.uns m := by
        unfold Cod.uns
        rw [← HBB.out, unsF_last f n (by omega), HX.out]
      have hcv : (convert 45 9 v1).run Tryz.prog w1 = .ok (.string (Cod.uns m)) w1 := by
        rw [run_convert_own w1 45 5 9 rfl rfl rfl _ hrow, strOf_nums, hfin]
      have HB1 := Lib.hid hb1; clear how1 hg1 hb1 hrow hfin
      go_wp2_with fail
      go_ret
      exact ⟨rfl, HB1.out⟩
set_option maxRecDepth 100000 in
theorem cText_any (s : ByteArray) (w : World) (hs : s.size ≤ 140737488350000) :
    Calls Tryz.prog 41 #[.string s] w fun e w' => e = .returned (.string (Cod.text s)) ∧ Below w.heap.size w w' := by
  have hu := Cod.uns_le s.size
  have ht : Cod.uns s.size ++ s = Cod.text s := rfl
  have HT := Lib.hid ht; clear ht
  go_enter Tryz.func41, Tryz.ntmps41
  go_wp2_with fail
  refine (cUns_any s.size _ (by omega)).mono ?_
  rintro e w1 ⟨rfl, hb1⟩
  have HB := Lib.hid hb1; clear hb1
  generalize Cod.uns s.size = u at *
  go_wp2_with fail
  go_ret
  exact ⟨by rw [HT.out]; rfl, HB.out⟩
set_option maxRecDepth 100000 in
theorem r02Text_any (s : ByteArray) (w : World) (hs : s.size ≤ 140737488350000) :
    Calls Tryz.prog 45 #[.string s] w fun e w' => e = .returned (.string (Cod.text s)) ∧ Below w.heap.size w w' := by
  have hu := Cod.uns_le s.size
  have ht : Cod.uns s.size ++ s = Cod.text s := rfl
  have HT := Lib.hid ht; clear ht
  go_enter Tryz.func45, Tryz.ntmps45
  go_wp2_with fail
  refine (r02Uns_any s.size _ (by omega)).mono ?_
  rintro e w1 ⟨rfl, hb1⟩
  have HB := Lib.hid hb1; clear hb1
  generalize Cod.uns s.size = u at *
  go_wp2_with fail
  go_ret
  exact ⟨by rw [HT.out]; rfl, HB.out⟩
set_option maxRecDepth 100000 in
theorem cUint_any (n : Nat) (w : World) (hn : n < 9223372036854775808) :
    Calls Tryz.prog 73 #[.int .i64 n] w fun e w' => e = .returned (.tuple #[.string (Cod.uns n), .int .i64 0]) ∧ Below w.heap.size w w' := by
  go_enter Tryz.func73, Tryz.ntmps73
  go_wp2_with fail
  refine (cUns_any n _ (by omega)).mono ?_
  rintro e w1 ⟨rfl, hb1⟩
  have HB := Lib.hid hb1; clear hb1
  go_wp2_with fail
  go_ret2
  exact ⟨rfl, HB.out⟩
set_option maxRecDepth 100000 in
theorem r02Uint_any (n : Nat) (w : World) (hn : n < 9223372036854775808) :
    Calls Tryz.prog 43 #[.int .i64 n] w fun e w' => e = .returned (.tuple #[.string (Cod.uns n), .int .i64 0]) ∧ Below w.heap.size w w' := by
  go_enter Tryz.func43, Tryz.ntmps43
  go_wp2_with fail
  refine (r02Uns_any n _ (by omega)).mono ?_
  rintro e w1 ⟨rfl, hb1⟩
  have HB := Lib.hid hb1; clear hb1
  go_wp2_with fail
  go_ret2
  exact ⟨rfl, HB.out⟩
set_option maxRecDepth 100000 in
theorem oNumber_any (n : Nat) (w : World) (hn : n < 9223372036854775808) :
    Calls Tryz.prog 39 #[.int .i64 n] w fun e w' => e = .returned (.string (Cod.uns n)) ∧ Below w.heap.size w w' := by
  go_enter Tryz.func39, Tryz.ntmps39
  go_wp2_with fail
  refine (cUint_any n _ hn).mono ?_
  rintro e w1 ⟨rfl, hb1⟩
  have HB := Lib.hid hb1; clear hb1
  go_wp2_with fail
  go_ret
  exact ⟨rfl, HB.out⟩
/-- A reader of a string, at an offset, with its error. -/
def rdV (s : ByteArray) (a : Nat) (e : Int) : Array Value := #[.string s, .int .i64 a, .int .i64 e]
set_option maxRecDepth 100000 in
theorem cNew_any (s : ByteArray) (w : World) :
    Calls Tryz.prog 48 #[.string s] w fun e w' => e = .returned (.pointer (some ⟨w.heap.size, 0, none⟩)) ∧ w' = w.alloc (.cells (rdV s 0 0) 117) := by
  go_enter Tryz.func48, Tryz.ntmps48
  go_wp2_with fail
  go_ret
  exact ⟨rfl, rfl⟩
end Go.Proofs.YtjlpdknomdhbhaaGreatDoor
namespace Go.Proofs.YtjlpdknomdhbhaaGreatDoor
set_option linter.unusedVariables false
set_option linter.unusedSimpArgs false
open Go Go.RowKit Go.Maps
theorem and127 (b : UInt8) : bits BinOp.and IntKind.u8 (b.toNat : Int) 127 = ((b.toNat % 128 : Nat) : Int) := by
  have h : ∀ k : Fin 256, bits BinOp.and IntKind.u8 (k.val : Int) 127 = ((k.val % 128 : Nat) : Int) := by decide +kernel
  exact h ⟨b.toNat, b.toNat_lt⟩
theorem pow128 (k : Nat) : 128 ^ k = 2 ^ (7 * k) := by rw [show (128 : Nat) = 2 ^ 7 by decide, ← Nat.pow_mul]
theorem scan_or (N k : Nat) (b : UInt8) (hN : N < 128 ^ k) (hk : k ≤ 9) (h9 : k = 9 → b.toNat ≤ 1) :
    bits .or .u64 (N : Int) (IntKind.u64.wrap (IntKind.u64.wrap (bits .and .u8 (b.toNat : Int) 127) * 2 ^ (7 * k))) = ((N + b.toNat % 128 * 128 ^ k : Nat) : Int) := by
  have hP : b.toNat % 128 * 128 ^ k < 18446744073709551616 := by
    by_cases h : k = 9
    · have := h9 h
      subst h
      have h2 : (128 : Nat) ^ 9 = 9223372036854775808 := by decide
      rw [h2]
      omega
    · have h5 : 128 ^ k ≤ 128 ^ 8 := Nat.pow_le_pow_right (by omega) (by omega)
      have h6 : (128 : Nat) ^ 8 = 72057594037927936 := by decide
      rw [h6] at h5
      have := Nat.mul_le_mul (show b.toNat % 128 ≤ 127 by omega) h5
      omega
  have hN2 : N < 18446744073709551616 := by
    have h5 : 128 ^ k ≤ 128 ^ 9 := Nat.pow_le_pow_right (by omega) hk
    have h6 : (128 : Nat) ^ 9 = 9223372036854775808 := by decide
    omega
  have e1 : (((b.toNat % 128 : Nat) : Int) * 2 ^ (7 * k)) = ((b.toNat % 128 * 128 ^ k : Nat) : Int) := by
    rw [pow128]
    push_cast
    rfl
  rw [and127, wraps_u64 ((b.toNat % 128 : Nat) : Int) (by omega) (by omega), e1, wraps_u64 _ (by omega) (by omega)]
  rw [bits_join_low .u64 64 (by decide) (fun n h0 h1 => wraps_u64 n h0 h1) (7 * k) (N : Int) _ (by omega) (by rw [pow128] at hN; exact_mod_cast hN) (by omega) (by omega) (by
    rw [pow128]
    push_cast
    exact Int.mul_emod_left _ _) (by omega)]
  omega
theorem rdL_cons (x : UInt8) (l : List UInt8) (i : Nat) : Cod.rdL (x :: l) i = if i = 9 ∧ 1 < x.toNat then none else if x.toNat < 128 then (if x.toNat = 0 ∧ i ≠ 0 then none else some (x.toNat, 1)) else match Cod.rdL l (i + 1) with
    | some (v, c) => some (x.toNat % 128 + 128 * v, c + 1)
    | none => none := rfl
/-- What scan returns. -/
def ScanPost (r : Option (Nat × Nat)) (e : Ending) : Prop := match r with
  | some (v, b) => e = .returned (.tuple #[.int .u64 v, .int .i64 b, .bool true])
  | none => ∃ n b : Int, e = .returned (.tuple #[.int .u64 n, .int .i64 b, .bool false])
/-- Between two bytes of a number that is read. -/
def ScanI (s : ByteArray) (a : Nat) (at_ n sh : Value) : Prop :=
  ∃ k N : Nat, k ≤ 9 ∧ at_ = .int .i64 ((a + k : Nat) : Int) ∧ n = .int .u64 N ∧ sh = .int .i64 ((7 * k : Nat) : Int) ∧ N < 128 ^ k ∧ a + k ≤ s.size ∧
    Cod.rdL (s.data.toList.drop a) 0 = match Cod.rdL (s.data.toList.drop (a + k)) k with
      | some (v, c) => some (N + 128 ^ k * v, k + c)
      | none => none
set_option maxRecDepth 100000 in
set_option maxHeartbeats 2000000 in
theorem rdScan_any (rb : Nat) (s : ByteArray) (a0 a : Nat) (e0 : Int) (w : World) (h : At w rb 117 (rdV s a0 e0)) (ha : a ≤ s.size) (hs : s.size ≤ 140737488355328) :
    Calls Tryz.prog 116 #[.pointer (some ⟨rb, 0, none⟩), .int .i64 a] w fun e w' => ScanPost (Cod.rdU s a) e ∧ w' = w := by
  have k0 := h.cell 0
  simp only [rdV, List.getElem?_toArray, List.getElem?_cons_zero] at k0
  obtain ⟨R, hR⟩ : ∃ R, R = ScanPost (Cod.rdU s a) := ⟨_, rfl⟩
  rw [← hR]
  have HR := Lib.hid hR; clear hR h
  go_enter Tryz.func116, Tryz.ntmps116
  go_wp2_with fail
  go_loopw [1, 7, 8] (fun at_ n sh wr => ScanI s a at_ n sh ∧ wr = w) (fun at_ _ _ _ => s.size - (intOf at_).toNat)
  case atStart =>
    refine ⟨⟨0, 0, by omega, rfl, rfl, rfl, by simp, by omega, ?_⟩, rfl⟩
    rw [Nat.add_zero]
    cases Cod.rdL (s.data.toList.drop a) 0 with
    | none => rfl
    | some x => obtain ⟨v, c⟩ := x; simp
  case round =>
    obtain ⟨⟨k, N, hk, rfl, rfl, rfl, hN, hak, hrd⟩, rfl⟩ := hrel
    have HRD := Lib.hid hrd; have HN := Lib.hid hN; clear hrd hN
    by_cases hlt : a + k < s.size
    · obtain ⟨x, hx⟩ : ∃ x, s[a + k] = x := ⟨_, rfl⟩
      have hd : s.data.toList.drop (a + k) = x :: s.data.toList.drop (a + k + 1) := by
        rw [List.drop_eq_getElem_cons (by rw [Sha.len_list]; exact hlt), ← hx]
        rfl
      have hr := HRD.out
      rw [hd, rdL_cons] at hr
      have HR2 := Lib.hid hr; clear hr hd HRD
      have dk : decide (((a + k : Nat) : Int) < s.size) = true := by simp; omega
      have d2 : decide (((7 * k : Nat) : Int) < 64) = true := by simp; omega
      have hadd : ((a : Int) + k + 1) = ((a + (k + 1) : Nat) : Int) := by omega
      have HADD := Lib.hid hadd; clear hadd
      have hno : (k = 9 ∧ 1 < x.toNat) ∨ (x.toNat = 0 ∧ k ≠ 0) → Cod.rdU s a = none := by
        intro h
        have hr := HR2.out
        unfold Cod.rdU
        rcases h with h | h
        · rw [if_pos h] at hr
          rw [hr]
        · by_cases h2 : k = 9 ∧ 1 < x.toNat
          · rw [if_pos h2] at hr
            rw [hr]
          · rw [if_neg h2, if_pos (by omega), if_pos h] at hr
            rw [hr]
      have hyes : ¬ (k = 9 ∧ 1 < x.toNat) → x.toNat < 128 → ¬ (x.toNat = 0 ∧ k ≠ 0) → Cod.rdU s a = some (N + x.toNat % 128 * 128 ^ k, a + (k + 1)) := by
        intro h1 h2 h3
        have hr := HR2.out
        rw [if_neg h1, if_pos h2, if_neg h3] at hr
        unfold Cod.rdU
        rw [hr, Nat.mod_eq_of_lt h2, Nat.mul_comm]
      have HNO := Lib.hid hno; have HYES := Lib.hid hyes; clear hno hyes
      by_cases hn : (k = 9 ∧ 1 < x.toNat) ∨ (x.toNat = 0 ∧ k ≠ 0)
      · have hfin : ∀ n b : Int, R (.returned (.tuple #[.int .u64 n, .int .i64 b, .bool false])) := by
          intro n b
          rw [HR.out, HNO.out hn]
          exact ⟨n, b, rfl⟩
        have HF := Lib.hid hfin; clear hfin
        rcases hn with ⟨rfl, h1⟩ | ⟨h0, hk0⟩
        · have h2 : (1 : Int) < x.toNat := by omega
          go_wp2_with fail
          go_ret3
          exact ⟨HF.out _ _, rfl⟩
        · have e1 : ((7 * (k : Int)) == 0) = false := by simp; omega
          go_wp2_with fail
          all_goals
            go_ret3
            exact ⟨HF.out _ _, rfl⟩
      · have hn1 : ¬ (k = 9 ∧ 1 < x.toNat) := fun h => hn (.inl h)
        have hn2 : ¬ (x.toNat = 0 ∧ k ≠ 0) := fun h => hn (.inr h)
        have hk9 : k = 9 → x.toNat ≤ 1 := fun h => by
          rcases Nat.lt_or_ge 1 x.toNat with h1 | h1
          · exact absurd ⟨h, h1⟩ hn1
          · exact h1
        have hor := scan_or N k x HN.out hk hk9
        have HOR := Lib.hid hor; have HK9 := Lib.hid hk9; have HN1 := Lib.hid hn1; have HN2 := Lib.hid hn2; clear hor hk9 hn hn1 hn2
        by_cases hb : x.toNat < 128
        · have hb2 : (x.toNat : Int) < 128 := by omega
          have hfin : R (.returned (.tuple #[.int .u64 ((N + x.toNat % 128 * 128 ^ k : Nat) : Int), .int .i64 ((a : Int) + k + 1), .bool true])) := by
            rw [HR.out, HYES.out HN1.out hb HN2.out, HADD.out]
            rfl
          have HF := Lib.hid hfin; clear hfin hb
          by_cases h0 : x.toNat = 0
          · obtain rfl : k = 0 := by
              rcases Nat.eq_zero_or_pos k with h | h
              · exact h
              · exact absurd ⟨h0, by omega⟩ HN2.out
            obtain rfl : N = 0 := by have := HN.out; simpa using this
            have hf : R (.returned (.tuple #[.int .u64 0, .int .i64 ((a : Int) + 1), .bool true])) := by
              have h1 := HF.out
              rw [h0] at h1
              simpa using h1
            have hx2 : s[a] = x := by simpa using hx
            have HF2 := Lib.hid hf; clear hf hx
            have hz : bits BinOp.or IntKind.u64 0 (IntKind.u64.wrap (IntKind.u64.wrap (bits BinOp.and IntKind.u8 0 127))) = 0 := by decide +kernel
            have HZ := Lib.hid hz; clear hz
            go_wp2_with fail
            go_ret3
            refine ⟨?_, rfl⟩
            rw [HZ.out]
            exact HF2.out
          · by_cases h9 : k = 9
            · subst h9
              have h1 : (x.toNat : Int) ≤ 1 := by have := HK9.out rfl; omega
              have hor := HOR.out
              rw [show (2 : Int) ^ (7 * 9) = 9223372036854775808 by decide] at hor
              have HOR9 := Lib.hid hor; clear hor
              go_wp2_with fail
              go_ret3
              refine ⟨?_, rfl⟩
              rw [HOR9.out]
              exact HF.out
            · have e9 : ¬ (7 * (k : Int) = 63) := by omega
              go_wp2_with fail
              go_ret3
              refine ⟨?_, rfl⟩
              rw [HOR.out]
              exact HF.out
        · have hb2 : ¬ ((x.toNat : Int) < 128) := by omega
          have h9 : k ≠ 9 := fun h => by have := HK9.out h; omega
          have e9 : ¬ (7 * (k : Int) = 63) := by omega
          have hr := HR2.out
          rw [if_neg HN1.out, if_neg hb] at hr
          have HR3 := Lib.hid hr; clear hr hb
          have hN2 : N + x.toNat % 128 * 128 ^ k < 128 ^ (k + 1) := by
            have h1 := HN.out
            have h2 := Nat.mul_le_mul_right (128 ^ k) (show x.toNat % 128 ≤ 127 by omega)
            rw [Nat.pow_succ]
            omega
          have hr2 : Cod.rdL (s.data.toList.drop a) 0 = match Cod.rdL (s.data.toList.drop (a + (k + 1))) (k + 1) with
              | some (v, c) => some ((N + x.toNat % 128 * 128 ^ k) + 128 ^ (k + 1) * v, (k + 1) + c)
              | none => none := by
            rw [HR3.out, show a + (k + 1) = a + k + 1 by omega]
            cases Cod.rdL (s.data.toList.drop (a + k + 1)) (k + 1) with
            | none => rfl
            | some y =>
              obtain ⟨v, c⟩ := y
              show some _ = some _
              congr 2
              · rw [Nat.pow_succ, Nat.mul_add, Nat.mul_comm (128 ^ k) (x.toNat % 128), Nat.mul_assoc, Nat.add_assoc]
              · omega
          have HN3 := Lib.hid hN2; have HR4 := Lib.hid hr2; clear hN2 hr2
          go_wp2_with fail
          rw [HOR.out]
          exact ⟨⟨⟨k + 1, N + x.toNat % 128 * 128 ^ k, by omega, by rw [HADD.out], rfl, by congr 1 <;> omega, HN3.out, by omega, HR4.out⟩, by first | rfl | trivial⟩, by simp [intOf]; omega⟩
    · have dk : decide (((a + k : Nat) : Int) < s.size) = false := by simp; omega
      have hd : s.data.toList.drop (a + k) = [] := List.drop_eq_nil_of_le (by rw [Sha.len_list]; omega)
      have hr := HRD.out
      rw [hd] at hr
      have hfin : R (.returned (.tuple #[.int .u64 0, .int .i64 0, .bool false])) := by
        rw [HR.out]
        unfold Cod.rdU
        rw [hr]
        exact ⟨0, 0, rfl⟩
      have HF := Lib.hid hfin; clear hfin hr hd
      go_wp2_with fail
      go_ret3
      exact ⟨HF.out, rfl⟩
end Go.Proofs.YtjlpdknomdhbhaaGreatDoor
namespace Go.Proofs.YtjlpdknomdhbhaaGreatDoor
set_option linter.unusedVariables false
set_option linter.unusedSimpArgs false
open Go Go.RowKit Go.Maps
def SizePost (r : Option (Nat × Nat)) (e : Ending) : Prop := match r with
  | some (v, b) => e = .returned (.tuple #[.int .i64 v, .int .i64 b, .bool true])
  | none => ∃ n b : Int, e = .returned (.tuple #[.int .i64 n, .int .i64 b, .bool false])
def TextPost (r : Option (ByteArray × Nat)) (e : Ending) : Prop := match r with
  | some (x, b) => e = .returned (.tuple #[.string x, .int .i64 b, .bool true])
  | none => e = .returned (.tuple #[.string ⟨#[]⟩, .int .i64 0, .bool false])
set_option maxRecDepth 100000 in
set_option maxHeartbeats 1000000 in
theorem rdsize_any (rb : Nat) (s : ByteArray) (a0 a : Nat) (e0 : Int) (w : World) (h : At w rb 117 (rdV s a0 e0)) (ha : a ≤ s.size) (hs : s.size ≤ 140737488355328) :
    Calls Tryz.prog 85 #[.pointer (some ⟨rb, 0, none⟩), .int .i64 a] w fun e w' => SizePost (Cod.rdN s a) e ∧ w' = w := by
  obtain ⟨R, hR⟩ : ∃ R, R = SizePost (Cod.rdN s a) := ⟨_, rfl⟩
  rw [← hR]
  have HR := Lib.hid hR; have H := Lib.hid h; clear hR h
  go_enter Tryz.func85, Tryz.ntmps85
  go_wp2_with fail
  refine (rdScan_any rb s a0 a e0 _ H.out ha hs).mono ?_
  rintro e w1 ⟨hp, rfl⟩
  cases hr : Cod.rdU s a with
  | none =>
    rw [hr] at hp
    obtain ⟨n, b, rfl⟩ := hp
    have hf : ∀ n b : Int, R (.returned (.tuple #[.int .i64 n, .int .i64 b, .bool false])) := by
      intro n b
      rw [HR.out]
      unfold Cod.rdN
      rw [hr]
      exact ⟨n, b, rfl⟩
    have HF := Lib.hid hf; clear hf hr
    go_wp2_with fail
    go_ret3
    exact ⟨HF.out _ _, rfl⟩
  | some y =>
    obtain ⟨v, b⟩ := y
    rw [hr] at hp
    have hp' : e = .returned (.tuple #[.int .u64 v, .int .i64 b, .bool true]) := hp
    subst hp'
    clear hp
    have hv := (Cod.rdU_some hr).2.2.2
    by_cases hlt : v < 9223372036854775808
    · have hf : R (.returned (.tuple #[.int .i64 v, .int .i64 b, .bool true])) := by
        rw [HR.out]
        unfold Cod.rdN
        simp only [hr, if_pos hlt]
        rfl
      have HF := Lib.hid hf; clear hf hr
      have hz : (v : Int) / 9223372036854775808 = 0 := by omega
      go_wp2_with fail
      go_ret3
      exact ⟨HF.out, rfl⟩
    · have hf : ∀ n b : Int, R (.returned (.tuple #[.int .i64 n, .int .i64 b, .bool false])) := by
        intro n b
        rw [HR.out]
        unfold Cod.rdN
        simp only [hr, if_neg hlt]
        exact ⟨n, b, rfl⟩
      have HF := Lib.hid hf; clear hf hr
      have hz : (v : Int) / 9223372036854775808 = 1 := by omega
      go_wp2_with fail
      go_ret3
      exact ⟨HF.out _ _, rfl⟩
set_option maxRecDepth 100000 in
set_option maxHeartbeats 1000000 in
theorem rdtext_any (rb : Nat) (s : ByteArray) (a0 a : Nat) (e0 : Int) (w : World) (h : At w rb 117 (rdV s a0 e0)) (ha : a ≤ s.size) (hs : s.size ≤ 140737488355328) :
    Calls Tryz.prog 88 #[.pointer (some ⟨rb, 0, none⟩), .int .i64 a] w fun e w' => TextPost (Cod.rdT s a) e ∧ w' = w := by
  obtain ⟨R, hR⟩ : ∃ R, R = TextPost (Cod.rdT s a) := ⟨_, rfl⟩
  rw [← hR]
  have k0 := h.cell 0
  simp only [rdV, List.getElem?_toArray, List.getElem?_cons_zero] at k0
  have HR := Lib.hid hR; have H := Lib.hid h; clear hR h
  go_enter Tryz.func88, Tryz.ntmps88
  go_wp2_with fail
  refine (rdsize_any rb s a0 a e0 _ H.out ha hs).mono ?_
  rintro e w1 ⟨hp, rfl⟩
  cases hr : Cod.rdN s a with
  | none =>
    rw [hr] at hp
    obtain ⟨n, b, rfl⟩ := hp
    have hf : R (.returned (.tuple #[.string ⟨#[]⟩, .int .i64 0, .bool false])) := by
      rw [HR.out]
      unfold Cod.rdT
      rw [hr]
      rfl
    have HF := Lib.hid hf; clear hf hr
    go_wp2_with fail
    go_ret3
    exact ⟨HF.out, rfl⟩
  | some y =>
    obtain ⟨v, b⟩ := y
    rw [hr] at hp
    have hp' : e = .returned (.tuple #[.int .i64 v, .int .i64 b, .bool true]) := hp
    subst hp'
    clear hp
    obtain ⟨g1, g2, _, g4⟩ := Cod.rdN_some hr
    by_cases hlt : v ≤ s.size - b
    · have hf : R (.returned (.tuple #[.string (s.extract b (b + v)), .int .i64 ((b : Int) + v), .bool true])) := by
        rw [HR.out]
        unfold Cod.rdT
        simp only [hr, if_pos hlt]
        show _ = Ending.returned (.tuple #[.string (s.extract b (b + v)), .int .i64 ((b + v : Nat) : Int), .bool true])
        rw [Int.natCast_add]
      have HF := Lib.hid hf; clear hf hr
      have hz : ¬ ((s.size : Int) - b < v) := by omega
      go_wp2_with fail
      go_ret3
      exact ⟨HF.out, rfl⟩
    · have hf : R (.returned (.tuple #[.string ⟨#[]⟩, .int .i64 0, .bool false])) := by
        rw [HR.out]
        unfold Cod.rdT
        simp only [hr, if_neg hlt]
        rfl
      have HF := Lib.hid hf; clear hf hr
      have hz : ((s.size : Int) - b < v) := by omega
      go_wp2_with fail
      go_ret3
      exact ⟨HF.out, rfl⟩
/-- A reader has gone from w to w'. -/
structure RdStep (rb : Nat) (w w' : World) (cs : Array Value) : Prop where
  at_ : At w' rb 117 cs
  fr : Fr (fun k => k = rb) w w'
theorem RdStep.refl {rb : Nat} {w : World} {cs : Array Value} (h : At w rb 117 cs) : RdStep rb w w cs := ⟨h, Fr.refl _ _⟩
theorem RdStep.trans {rb : Nat} {w w1 w2 : World} {c1 c2 : Array Value} (h : RdStep rb w w1 c1) (k : RdStep rb w1 w2 c2) : RdStep rb w w2 c2 := ⟨k.at_, h.fr.trans k.fr (fun _ hk => .inl hk)⟩
/-- What a number is read as. -/
def NumPost (rb : Nat) (s : ByteArray) (a : Nat) (r : Option (Nat × Nat)) (w : World) (e : Ending) (w' : World) : Prop := match r with
  | some (v, b) => e = .returned (.int .i64 v) ∧ RdStep rb w w' (rdV s b 0)
  | none => e = .returned (.int .i64 0) ∧ RdStep rb w w' (rdV s a 9)
def StrPost (rb : Nat) (s : ByteArray) (a : Nat) (r : Option (ByteArray × Nat)) (w : World) (e : Ending) (w' : World) : Prop := match r with
  | some (x, b) => e = .returned (.string x) ∧ RdStep rb w w' (rdV s b 0)
  | none => e = .returned (.string ⟨#[]⟩) ∧ RdStep rb w w' (rdV s a 9)
theorem RdStep.set1 {rb : Nat} {w : World} {s : ByteArray} {a : Nat} {e : Int} (h : At w rb 117 (rdV s a e)) (b : Nat) : RdStep rb w (w.setCell ⟨rb, 1, none⟩ (.int .i64 b)) (rdV s b e) :=
  ⟨h.set 1 _, (Fr.refl (fun k => k = rb) _).setCell (p := ⟨rb, 1, none⟩) (.inl rfl) _⟩
theorem RdStep.set2 {rb : Nat} {w : World} {s : ByteArray} {a : Nat} {e : Int} (h : At w rb 117 (rdV s a e)) (b : Int) : RdStep rb w (w.setCell ⟨rb, 2, none⟩ (.int .i64 b)) (rdV s a b) :=
  ⟨h.set 2 _, (Fr.refl (fun k => k = rb) _).setCell (p := ⟨rb, 2, none⟩) (.inl rfl) _⟩
set_option maxRecDepth 100000 in
set_option maxHeartbeats 1000000 in
theorem takeSize_any (rb : Nat) (s : ByteArray) (a : Nat) (w : World) (h : At w rb 117 (rdV s a 0)) (ha : a ≤ s.size) (hs : s.size ≤ 140737488355328) :
    Calls Tryz.prog 84 #[.pointer (some ⟨rb, 0, none⟩), .func (.func 85) #[.pointer (some ⟨rb, 0, none⟩)] #[]] w (NumPost rb s a (Cod.rdN s a) w) := by
  obtain ⟨R, hR⟩ : ∃ R, R = NumPost rb s a (Cod.rdN s a) w := ⟨_, rfl⟩
  rw [← hR]
  have k1 := h.cell 1; have k2 := h.cell 2; have z1 := h.free 1; have z2 := h.free 2
  simp only [rdV, List.getElem?_toArray, List.getElem?_cons_zero, List.getElem?_cons_succ] at k1 k2
  have HR := Lib.hid hR; have H := Lib.hid h; clear hR h
  go_enter Tryz.func84, Tryz.ntmps84
  go_wp2_with fail
  refine (rdsize_any rb s a a 0 _ H.out ha hs).mono ?_
  rintro e w1 ⟨hp, rfl⟩
  cases hr : Cod.rdN s a with
  | none =>
    rw [hr] at hp
    obtain ⟨n, b, rfl⟩ := hp
    have hf : R (.returned (.int .i64 0)) (w1.setCell ⟨rb, 2, none⟩ (.int .i64 9)) := by
      rw [HR.out, hr]
      exact ⟨rfl, RdStep.set2 H.out 9⟩
    have HF := Lib.hid hf; clear hf hr
    go_wp2_with fail
    exact HF.out
  | some y =>
    obtain ⟨v, b⟩ := y
    rw [hr] at hp
    have hp' : e = .returned (.tuple #[.int .i64 v, .int .i64 b, .bool true]) := hp
    subst hp'
    clear hp
    have hf : R (.returned (.int .i64 v)) (w1.setCell ⟨rb, 1, none⟩ (.int .i64 b)) := by
      rw [HR.out, hr]
      exact ⟨rfl, RdStep.set1 H.out b⟩
    have HF := Lib.hid hf; clear hf hr
    go_wp2_with fail
    exact HF.out
set_option maxRecDepth 100000 in
theorem takeSize_any_off (rb : Nat) (s : ByteArray) (a : Nat) (e : Int) (he : e ≠ 0) (w : World) (h : At w rb 117 (rdV s a e)) :
    Calls Tryz.prog 84 #[.pointer (some ⟨rb, 0, none⟩), .func (.func 85) #[.pointer (some ⟨rb, 0, none⟩)] #[]] w fun e w' => e = .returned (.int .i64 0) ∧ w' = w := by
  have k2 := h.cell 2
  simp only [rdV, List.getElem?_toArray, List.getElem?_cons_zero, List.getElem?_cons_succ] at k2
  have he2 : (e != 0) = true := by simpa using he
  clear h
  go_enter Tryz.func84, Tryz.ntmps84
  go_wp2_with fail
  go_ret
  exact ⟨rfl, rfl⟩
set_option maxRecDepth 100000 in
set_option maxHeartbeats 1000000 in
theorem takeText_any (rb : Nat) (s : ByteArray) (a : Nat) (w : World) (h : At w rb 117 (rdV s a 0)) (ha : a ≤ s.size) (hs : s.size ≤ 140737488355328) :
    Calls Tryz.prog 89 #[.pointer (some ⟨rb, 0, none⟩), .func (.func 88) #[.pointer (some ⟨rb, 0, none⟩)] #[]] w (StrPost rb s a (Cod.rdT s a) w) := by
  obtain ⟨R, hR⟩ : ∃ R, R = StrPost rb s a (Cod.rdT s a) w := ⟨_, rfl⟩
  rw [← hR]
  have k1 := h.cell 1; have k2 := h.cell 2; have z1 := h.free 1; have z2 := h.free 2
  simp only [rdV, List.getElem?_toArray, List.getElem?_cons_zero, List.getElem?_cons_succ] at k1 k2
  have HR := Lib.hid hR; have H := Lib.hid h; clear hR h
  go_enter Tryz.func89, Tryz.ntmps89
  go_wp2_with fail
  refine (rdtext_any rb s a a 0 _ H.out ha hs).mono ?_
  rintro e w1 ⟨hp, rfl⟩
  cases hr : Cod.rdT s a with
  | none =>
    rw [hr] at hp
    obtain rfl : e = _ := hp
    have hf : R (.returned (.string ⟨#[]⟩)) (w1.setCell ⟨rb, 2, none⟩ (.int .i64 9)) := by
      rw [HR.out, hr]
      exact ⟨rfl, RdStep.set2 H.out 9⟩
    have HF := Lib.hid hf; clear hf hr
    go_wp2_with fail
    exact HF.out
  | some y =>
    obtain ⟨v, b⟩ := y
    rw [hr] at hp
    have hp' : e = .returned (.tuple #[.string v, .int .i64 b, .bool true]) := hp
    subst hp'
    clear hp
    have hf : R (.returned (.string v)) (w1.setCell ⟨rb, 1, none⟩ (.int .i64 b)) := by
      rw [HR.out, hr]
      exact ⟨rfl, RdStep.set1 H.out b⟩
    have HF := Lib.hid hf; clear hf hr
    go_wp2_with fail
    exact HF.out
set_option maxRecDepth 100000 in
theorem takeText_any_off (rb : Nat) (s : ByteArray) (a : Nat) (e : Int) (he : e ≠ 0) (w : World) (h : At w rb 117 (rdV s a e)) :
    Calls Tryz.prog 89 #[.pointer (some ⟨rb, 0, none⟩), .func (.func 88) #[.pointer (some ⟨rb, 0, none⟩)] #[]] w fun e w' => e = .returned (.string ⟨#[]⟩) ∧ w' = w := by
  have k2 := h.cell 2
  simp only [rdV, List.getElem?_toArray, List.getElem?_cons_zero, List.getElem?_cons_succ] at k2
  have he2 : (e != 0) = true := by simpa using he
  clear h
  go_enter Tryz.func89, Tryz.ntmps89
  go_wp2_with fail
  go_ret
  exact ⟨rfl, rfl⟩
set_option maxRecDepth 100000 in
theorem rdUint_any (rb : Nat) (s : ByteArray) (a : Nat) (w : World) (h : At w rb 117 (rdV s a 0)) (ha : a ≤ s.size) (hs : s.size ≤ 140737488355328) :
    Calls Tryz.prog 49 #[.pointer (some ⟨rb, 0, none⟩)] w (NumPost rb s a (Cod.rdN s a) w) := by
  obtain ⟨R, hR⟩ : ∃ R, R = NumPost rb s a (Cod.rdN s a) w := ⟨_, rfl⟩
  rw [← hR]
  have HR := Lib.hid hR; have H := Lib.hid h; clear hR h
  go_enter Tryz.func49, Tryz.ntmps49
  go_wp2_with fail
  refine (takeSize_any rb s a _ H.out ha hs).mono ?_
  intro e w1 hp
  rw [← HR.out] at hp
  have hv : ∃ v, e = .returned v := by
    rw [HR.out] at hp
    unfold NumPost at hp
    split at hp
    · exact ⟨_, hp.1⟩
    · exact ⟨_, hp.1⟩
  obtain ⟨v, rfl⟩ := hv
  have HP := Lib.hid hp; clear hp
  go_wp2_with fail
  exact HP.out
set_option maxRecDepth 100000 in
theorem rdUint_any_off (rb : Nat) (s : ByteArray) (a : Nat) (e : Int) (he : e ≠ 0) (w : World) (h : At w rb 117 (rdV s a e)) :
    Calls Tryz.prog 49 #[.pointer (some ⟨rb, 0, none⟩)] w fun e w' => e = .returned (.int .i64 0) ∧ w' = w := by
  have H := Lib.hid h; clear h
  go_enter Tryz.func49, Tryz.ntmps49
  go_wp2_with fail
  refine (takeSize_any_off rb s a e he _ H.out).mono ?_
  rintro e w1 ⟨rfl, rfl⟩
  go_wp2_with fail
  go_ret
  exact ⟨rfl, rfl⟩
set_option maxRecDepth 100000 in
theorem rdText_any (rb : Nat) (s : ByteArray) (a : Nat) (w : World) (h : At w rb 117 (rdV s a 0)) (ha : a ≤ s.size) (hs : s.size ≤ 140737488355328) :
    Calls Tryz.prog 51 #[.pointer (some ⟨rb, 0, none⟩)] w (StrPost rb s a (Cod.rdT s a) w) := by
  obtain ⟨R, hR⟩ : ∃ R, R = StrPost rb s a (Cod.rdT s a) w := ⟨_, rfl⟩
  rw [← hR]
  have HR := Lib.hid hR; have H := Lib.hid h; clear hR h
  go_enter Tryz.func51, Tryz.ntmps51
  go_wp2_with fail
  refine (takeText_any rb s a _ H.out ha hs).mono ?_
  intro e w1 hp
  rw [← HR.out] at hp
  have hv : ∃ v, e = .returned v := by
    rw [HR.out] at hp
    unfold StrPost at hp
    split at hp
    · exact ⟨_, hp.1⟩
    · exact ⟨_, hp.1⟩
  obtain ⟨v, rfl⟩ := hv
  have HP := Lib.hid hp; clear hp
  go_wp2_with fail
  exact HP.out
set_option maxRecDepth 100000 in
theorem rdText_any_off (rb : Nat) (s : ByteArray) (a : Nat) (e : Int) (he : e ≠ 0) (w : World) (h : At w rb 117 (rdV s a e)) :
    Calls Tryz.prog 51 #[.pointer (some ⟨rb, 0, none⟩)] w fun e w' => e = .returned (.string ⟨#[]⟩) ∧ w' = w := by
  have H := Lib.hid h; clear h
  go_enter Tryz.func51, Tryz.ntmps51
  go_wp2_with fail
  refine (takeText_any_off rb s a e he _ H.out).mono ?_
  rintro e w1 ⟨rfl, rfl⟩
  go_wp2_with fail
  go_ret
  exact ⟨rfl, rfl⟩
end Go.Proofs.YtjlpdknomdhbhaaGreatDoor
namespace Go.Proofs.YtjlpdknomdhbhaaGreatDoor
set_option linter.unusedVariables false
set_option linter.unusedSimpArgs false
open Go Go.RowKit Go.Maps
/-- A number that is at most m. -/
def rdC (s : ByteArray) (m : Int) (a : Nat) : Option (Nat × Nat) := match Cod.rdN s a with
  | some (v, b) => if (v : Int) ≤ m then some (v, b) else none
  | none => none
set_option maxRecDepth 100000 in
set_option maxHeartbeats 1000000 in
theorem rdCount1_any (rb b1 b2 : Nat) (m : Int) (s : ByteArray) (a0 a : Nat) (e0 : Int) (w : World) (h1 : w.cell? ⟨b1, 0, none⟩ = some (.pointer (some ⟨rb, 0, none⟩))) (h2 : w.cell? ⟨b2, 0, none⟩ = some (.int .i64 m)) (h : At w rb 117 (rdV s a0 e0)) (ha : a ≤ s.size) (hs : s.size ≤ 140737488355328) :
    Calls Tryz.prog 97 #[.int .i64 a, .pointer (some ⟨b1, 0, none⟩), .pointer (some ⟨b2, 0, none⟩)] w fun e w' => SizePost (rdC s m a) e ∧ w' = w.drew := by
  obtain ⟨R, hR⟩ : ∃ R, R = SizePost (rdC s m a) := ⟨_, rfl⟩
  rw [← hR]
  have HR := Lib.hid hR; have H := Lib.hid h; clear hR h
  go_enter Tryz.func97, Tryz.ntmps97
  go_wp2_with fail
  refine (rdsize_any rb s a0 a e0 _ H.out ha hs).mono ?_
  rintro e w1 ⟨hp, rfl⟩
  cases hr : Cod.rdN s a with
  | none =>
    rw [hr] at hp
    obtain ⟨n, b, rfl⟩ := hp
    have hf : ∀ n b : Int, R (.returned (.tuple #[.int .i64 n, .int .i64 b, .bool false])) := by
      intro n b
      rw [HR.out]
      unfold rdC
      rw [hr]
      exact ⟨n, b, rfl⟩
    have HF := Lib.hid hf; clear hf hr
    go_wp2_with fail
    refine Lex.wp_region_lex (by kernel_rfl) (by kernel_rfl) ?_
    go_wp2_with fail
    refine Lex.Ends.intro (by kernel_rfl) ?_
    go_wp2_with fail
    go_ret3
    exact ⟨HF.out _ _, rfl⟩
  | some y =>
    obtain ⟨v, b⟩ := y
    rw [hr] at hp
    have hp' : e = .returned (.tuple #[.int .i64 v, .int .i64 b, .bool true]) := hp
    subst hp'
    clear hp
    have hv := (Cod.rdN_some hr).2.2.2
    by_cases hlt : (v : Int) ≤ m
    · have dlt : decide ((v : Int) ≤ m) = true := by simpa using hlt
      have hf : R (.returned (.tuple #[.int .i64 v, .int .i64 b, .bool true])) := by
        rw [HR.out]
        unfold rdC
        simp only [hr, if_pos hlt]
        rfl
      have HF := Lib.hid hf; clear hf hr
      go_wp2_with fail
      refine Lex.wp_region_lex (by kernel_rfl) (by kernel_rfl) ?_
      go_wp2_with fail
      refine Lex.Ends.intro (by kernel_rfl) ?_
      go_wp2_with fail
      go_ret3
      exact ⟨HF.out, rfl⟩
    · have dlt : decide ((v : Int) ≤ m) = false := by simpa using hlt
      have hf : ∀ n b : Int, R (.returned (.tuple #[.int .i64 n, .int .i64 b, .bool false])) := by
        intro n b
        rw [HR.out]
        unfold rdC
        simp only [hr, if_neg hlt]
        exact ⟨n, b, rfl⟩
      have HF := Lib.hid hf; clear hf hr
      go_wp2_with fail
      refine Lex.wp_region_lex (by kernel_rfl) (by kernel_rfl) ?_
      go_wp2_with fail
      refine Lex.Ends.intro (by kernel_rfl) ?_
      go_wp2_with fail
      go_ret3
      exact ⟨HF.out _ _, rfl⟩
theorem RdStep.pre {rb : Nat} {w w1 w' : World} {cs : Array Value} (hf : Fr (fun k => k = rb) w w1) (h : RdStep rb w1 w' cs) : RdStep rb w w' cs := ⟨h.at_, hf.trans h.fr (fun _ hk => .inl hk)⟩
set_option maxRecDepth 100000 in
set_option maxHeartbeats 1000000 in
theorem takeCount_any (rb b1 b2 : Nat) (m : Int) (s : ByteArray) (a : Nat) (w : World) (h1 : w.cell? ⟨b1, 0, none⟩ = some (.pointer (some ⟨rb, 0, none⟩))) (h2 : w.cell? ⟨b2, 0, none⟩ = some (.int .i64 m)) (h : At w rb 117 (rdV s a 0)) (ha : a ≤ s.size) (hs : s.size ≤ 140737488355328) :
    Calls Tryz.prog 84 #[.pointer (some ⟨rb, 0, none⟩), .func (.func 97) #[] #[.pointer (some ⟨b1, 0, none⟩), .pointer (some ⟨b2, 0, none⟩)]] w (NumPost rb s a (rdC s m a) w) := by
  obtain ⟨R, hR⟩ : ∃ R, R = NumPost rb s a (rdC s m a) w := ⟨_, rfl⟩
  rw [← hR]
  have k1 := h.cell 1; have k2 := h.cell 2; have z1 := h.free 1; have z2 := h.free 2
  simp only [rdV, List.getElem?_toArray, List.getElem?_cons_zero, List.getElem?_cons_succ] at k1 k2
  have HR := Lib.hid hR; have H := Lib.hid h; have H1 := Lib.hid h1; have H2 := Lib.hid h2; clear hR h h1 h2
  go_enter Tryz.func84, Tryz.ntmps84
  go_wp2_with fail
  refine (rdCount1_any rb b1 b2 m s a a 0 _ H1.out H2.out H.out ha hs).mono ?_
  rintro e w1 ⟨hp, rfl⟩
  have hd : Fr (fun k => k = rb) w w.drew := (Fr.refl (fun k => k = rb) w).drew
  cases hr : rdC s m a with
  | none =>
    rw [hr] at hp
    obtain ⟨n, b, rfl⟩ := hp
    have hf : R (.returned (.int .i64 0)) (w.drew.setCell ⟨rb, 2, none⟩ (.int .i64 9)) := by
      rw [HR.out, hr]
      exact ⟨rfl, RdStep.pre hd (RdStep.set2 H.out.drew 9)⟩
    have HF := Lib.hid hf; clear hf hr hd
    go_wp2_with fail
    exact HF.out
  | some y =>
    obtain ⟨v, b⟩ := y
    rw [hr] at hp
    have hp' : e = .returned (.tuple #[.int .i64 v, .int .i64 b, .bool true]) := hp
    subst hp'
    clear hp
    have hf : R (.returned (.int .i64 v)) (w.drew.setCell ⟨rb, 1, none⟩ (.int .i64 b)) := by
      rw [HR.out, hr]
      exact ⟨rfl, RdStep.pre hd (RdStep.set1 H.out.drew b)⟩
    have HF := Lib.hid hf; clear hf hr hd
    go_wp2_with fail
    exact HF.out
set_option maxRecDepth 100000 in
theorem takeI_off (fv : Value) (rb : Nat) (s : ByteArray) (a : Nat) (e : Int) (he : e ≠ 0) (w : World) (h : At w rb 117 (rdV s a e)) :
    Calls Tryz.prog 84 #[.pointer (some ⟨rb, 0, none⟩), fv] w fun e w' => e = .returned (.int .i64 0) ∧ w' = w := by
  have k2 := h.cell 2
  simp only [rdV, List.getElem?_toArray, List.getElem?_cons_zero, List.getElem?_cons_succ] at k2
  have he2 : (e != 0) = true := by simpa using he
  clear h
  go_enter Tryz.func84, Tryz.ntmps84
  go_wp2_with fail
  go_ret
  exact ⟨rfl, rfl⟩
set_option maxRecDepth 100000 in
theorem rdCount_any (rb : Nat) (s : ByteArray) (a : Nat) (m : Int) (w : World) (h : At w rb 117 (rdV s a 0)) (ha : a ≤ s.size) (hs : s.size ≤ 140737488355328) :
    Calls Tryz.prog 61 #[.pointer (some ⟨rb, 0, none⟩), .int .i64 m] w (NumPost rb s a (rdC s m a) w) := by
  obtain ⟨R, hR⟩ : ∃ R, R = NumPost rb s a (rdC s m a) w := ⟨_, rfl⟩
  rw [← hR]
  have hlt := h.lt
  have HR := Lib.hid hR; have H := Lib.hid h; clear hR h
  go_enter Tryz.func61, Tryz.ntmps61
  go_wp2_with fail
  have hfr : Fr (fun k => k = rb) w ((w.alloc (.cells #[.pointer (some ⟨rb, 0, none⟩)] 70)).alloc (.cells #[.int .i64 m] 3)) := ((Fr.refl (fun k => k = rb) w).alloc _).alloc _
  refine (takeCount_any rb w.heap.size (w.heap.size + 1) m s a _ (((At.new w _ _).alloc _).cell 0) ((At.new1 w _ _ _).cell 0) ((H.out.alloc _).alloc _) ha hs).mono ?_
  intro e w1 hp
  have hv : ∃ v, e = .returned v := by
    unfold NumPost at hp
    split at hp
    · exact ⟨_, hp.1⟩
    · exact ⟨_, hp.1⟩
  have hq : R e w1 := by
    rw [HR.out]
    unfold NumPost at hp ⊢
    split at hp
    · exact ⟨hp.1, RdStep.pre hfr hp.2⟩
    · exact ⟨hp.1, RdStep.pre hfr hp.2⟩
  obtain ⟨v, rfl⟩ := hv
  have HP := Lib.hid hq; clear hp hq hfr
  go_wp2_with fail
  exact HP.out
set_option maxRecDepth 100000 in
theorem rdCount_off (rb : Nat) (s : ByteArray) (a : Nat) (m : Int) (e : Int) (he : e ≠ 0) (w : World) (h : At w rb 117 (rdV s a e)) :
    Calls Tryz.prog 61 #[.pointer (some ⟨rb, 0, none⟩), .int .i64 m] w fun e w' => e = .returned (.int .i64 0) ∧ Below w.heap.size w w' := by
  have hlt := h.lt
  have H := Lib.hid h; clear h
  go_enter Tryz.func61, Tryz.ntmps61
  go_wp2_with fail
  refine (takeI_off _ rb s a e he _ ((H.out.alloc _).alloc _)).mono ?_
  rintro e w1 ⟨rfl, rfl⟩
  go_wp2_with fail
  go_ret
  exact ⟨rfl, ((Below.refl _ _).alloc (Nat.le_refl _) _).alloc (by simp) _⟩
def endErr (s : ByteArray) (a : Nat) (e : Int) : Int := if e = 0 ∧ a < s.size then 9 else e
set_option maxRecDepth 100000 in
theorem rdEnd_any (rb : Nat) (s : ByteArray) (a : Nat) (e : Int) (w : World) (h : At w rb 117 (rdV s a e)) :
    Calls Tryz.prog 52 #[.pointer (some ⟨rb, 0, none⟩)] w fun e' w' => e' = .returned (.int .i64 (endErr s a e)) ∧ w' = w.drew := by
  have k0 := h.cell 0; have k1 := h.cell 1; have k2 := h.cell 2
  simp only [rdV, List.getElem?_toArray, List.getElem?_cons_zero, List.getElem?_cons_succ] at k0 k1 k2
  obtain ⟨E, hE⟩ : ∃ E, E = endErr s a e := ⟨_, rfl⟩
  rw [← hE]
  have HE := Lib.hid hE; clear hE h
  go_enter Tryz.func52, Tryz.ntmps52
  by_cases h0 : e = 0
  · have d0 : (e == 0) = true := by simpa using h0
    by_cases hl : a < s.size
    · have d1 : decide ((a : Int) < s.size) = true := by simp; omega
      have hf : E = 9 := by rw [HE.out]; unfold endErr; rw [if_pos ⟨h0, hl⟩]
      have HF := Lib.hid hf; clear hf h0
      go_wp2_with fail
      refine Lex.wp_region_lex (by kernel_rfl) (by kernel_rfl) ?_
      go_wp2_with fail
      refine Lex.Ends.intro (by kernel_rfl) ?_
      go_wp2_with fail
      go_ret
      exact ⟨by rw [HF.out]; rfl, rfl⟩
    · have d1 : decide ((a : Int) < s.size) = false := by simp; omega
      have hf : E = e := by rw [HE.out]; unfold endErr; rw [if_neg (fun h => hl h.2)]
      have HF := Lib.hid hf; clear hf h0
      go_wp2_with fail
      refine Lex.wp_region_lex (by kernel_rfl) (by kernel_rfl) ?_
      go_wp2_with fail
      refine Lex.Ends.intro (by kernel_rfl) ?_
      go_wp2_with fail
      go_ret
      exact ⟨by rw [HF.out]; rfl, rfl⟩
  · have d0 : (e == 0) = false := by simpa using h0
    have hf : E = e := by rw [HE.out]; unfold endErr; rw [if_neg (fun h => h0 h.1)]
    have HF := Lib.hid hf; clear hf h0
    go_wp2_with fail
    refine Lex.wp_region_lex (by kernel_rfl) (by kernel_rfl) ?_
    go_wp2_with fail
    refine Lex.Ends.intro (by kernel_rfl) ?_
    go_wp2_with fail
    go_ret
    exact ⟨by rw [HF.out]; rfl, rfl⟩
end Go.Proofs.YtjlpdknomdhbhaaGreatDoor
namespace Go.Proofs.YtjlpdknomdhbhaaGreatDoor
set_option linter.unusedVariables false
set_option linter.unusedSimpArgs false
open Go Go.RowKit Go.Maps
/-- What a list is read as. -/
def ListPost (w : World) (r : Option (List ByteArray × Nat)) (e : Ending) (w' : World) : Prop := match r with
  | some (l, b) => ∃ v, e = .returned (.tuple #[v, .int .i64 b, .bool true]) ∧ StrsC w' v l ∧ (∀ k, v.ownBlock = some k → w.heap.size ≤ k) ∧ (∃ a c, v = .slice (some a) l.length c) ∧ Below w.heap.size w w'
  | none => e = .returned (.tuple #[.slice none 0 0, .int .i64 0, .bool false]) ∧ Below w.heap.size w w'
/-- A row of strings of which the first ones are set. -/
def filled (n : Nat) (xs : List ByteArray) : List Value := (xs ++ List.replicate (n - xs.length) (⟨#[]⟩ : ByteArray)).map Value.string
theorem filled_set (n : Nat) (xs : List ByteArray) (x : ByteArray) (h : xs.length < n) : (filled n xs).set xs.length (.string x) = filled n (xs ++ [x]) := by
  unfold filled
  obtain ⟨k, hk⟩ : ∃ k, n - xs.length = k + 1 := ⟨n - xs.length - 1, by omega⟩
  rw [← List.map_set, hk, List.length_append, List.length_singleton, show n - (xs.length + 1) = k by omega, List.replicate_succ]
  congr 1
  rw [List.set_append_right _ _ (Nat.le_refl _), Nat.sub_self, List.set_cons_zero, List.append_assoc]
  rfl
theorem filled_all (n : Nat) (xs : List ByteArray) (h : xs.length = n) : filled n xs = xs.map Value.string := by
  unfold filled
  rw [h, Nat.sub_self]
  simp
def TsI (s : ByteArray) (w0 : World) (n a : Nat) (at_ i : Value) (wr : World) : Prop :=
  ∃ (k b : Nat) (xs : List ByteArray), k ≤ n ∧ xs.length = k ∧ i = .int .i64 k ∧ at_ = .int .i64 b ∧ b ≤ s.size ∧ wr.ownsRow w0.heap.size 9 1 (.slice (some ⟨w0.heap.size, 0, none⟩) n n) n (filled n xs) ∧ Below w0.heap.size w0 wr ∧
    Cod.rdTs s n a = match Cod.rdTs s (n - k) b with
      | some (l, c) => some (xs ++ l, c)
      | none => none
set_option maxRecDepth 100000 in
set_option maxHeartbeats 2000000 in
theorem rdTexts1_any (rb b1 : Nat) (s : ByteArray) (a0 a : Nat) (e0 : Int) (w : World) (h1 : w.cell? ⟨b1, 0, none⟩ = some (.pointer (some ⟨rb, 0, none⟩))) (hb1 : b1 < w.heap.size) (h : At w rb 117 (rdV s a0 e0)) (ha : a ≤ s.size) (hs : s.size ≤ 1000000) :
    Calls Tryz.prog 87 #[.int .i64 a, .pointer (some ⟨b1, 0, none⟩)] w (ListPost w (Cod.rdTexts s a)) := by
  obtain ⟨R, hR⟩ : ∃ R, R = ListPost w (Cod.rdTexts s a) := ⟨_, rfl⟩
  rw [← hR]
  have k0 := h.cell 0
  simp only [rdV, List.getElem?_toArray, List.getElem?_cons_zero] at k0
  have HR := Lib.hid hR; have H := Lib.hid h; clear hR h
  obtain ⟨i0, hi, hz0, hz1, hz2⟩ := info_parts info_string
  go_enter Tryz.func87, Tryz.ntmps87
  go_wp2_with fail
  refine (rdsize_any rb s a0 a e0 _ H.out ha (by omega)).mono ?_
  rintro e w1 ⟨hp, rfl⟩
  cases hr : Cod.rdN s a with
  | none =>
    rw [hr] at hp
    obtain ⟨n, b, rfl⟩ := hp
    have hf : R (.returned (.tuple #[.slice none 0 0, .int .i64 0, .bool false])) w1 := by
      rw [HR.out]
      unfold Cod.rdTexts
      rw [hr]
      exact ⟨rfl, Below.refl _ _⟩
    have HF := Lib.hid hf; clear hf hr
    go_wp2_with fail
    go_ret3
    exact HF.out
  | some y =>
    obtain ⟨n, b⟩ := y
    rw [hr] at hp
    have hp' : e = .returned (.tuple #[.int .i64 n, .int .i64 b, .bool true]) := hp
    subst hp'
    clear hp
    obtain ⟨g1, g2, _, g4⟩ := Cod.rdN_some hr
    by_cases hlt : n ≤ s.size - b
    · have hz : ¬ ((s.size : Int) - b < n) := by omega
      have hf : Cod.rdTexts s a = Cod.rdTs s n b := by
        unfold Cod.rdTexts
        simp only [hr, if_pos hlt]
      have HF := Lib.hid hf; clear hf hr
      go_wp2_with (at_make; go_must (refine wpList_make_full _ rfl _ _ 22 rfl w1.heap.size 9 i0 (.string ⟨#[]⟩) 1 Tryz.underlying22 hi hz0 hz1 .i64 .i64 n n n rfl rfl rfl rfl (by rw [hz2]; omega) (by unfold maxLen; omega) (Nat.le_refl _) ?_); intro w2 how hg)
      have hrow : (madeCells (Value.string ⟨#[]⟩).cells (n * 1)).toList = filled n [] := by
        rw [Nat.mul_one]
        show (madeCells #[Value.string ⟨#[]⟩] n).toList = _
        rw [toList_madeCells_one]
        simp [filled]
      rw [hrow] at how
      have hb2 : Below w1.heap.size w1 w2 := (Below.refl w1.heap.size w1).grown hg (Nat.le_refl _) (fun i hi => by cases hi)
      have hlt1 := H.out.lt
      have hti : TsI s w1 n b (.int .i64 b) (.int .i64 0) w2 := ⟨0, b, [], Nat.zero_le _, rfl, rfl, rfl, g2, how, hb2, by
        rw [Nat.sub_zero]
        cases Cod.rdTs s n b with
        | none => rfl
        | some y => obtain ⟨l, c⟩ := y; rfl⟩
      have HTI := Lib.hid hti; clear hti how hg hb2 hrow k0
      go_wp2_with fail
      go_loopw [0, 34] (fun at_ i wr => TsI s w1 n b at_ i wr) (fun _ i _ => n - (intOf i).toNat)
      case atStart => exact HTI.out
      case round =>
        obtain ⟨k, b2, xs, hk, hxl, rfl, rfl, hb2, how, hbl, htr⟩ := hrel
        have HOW := Lib.hid how; have HBL := Lib.hid hbl; have HTR := Lib.hid htr; have HXL := Lib.hid hxl; clear how hbl htr hxl
        by_cases hkn : k < n
        · have dk : decide ((k : Int) < n) = true := by simp; omega
          obtain ⟨M, hM⟩ : ∃ M, n - k = M + 1 := ⟨n - k - 1, by omega⟩
          have htr := HTR.out
          rw [hM, Cod.rdTs] at htr
          have c1 : wr.cell? ⟨b1, 0, none⟩ = some (.pointer (some ⟨rb, 0, none⟩)) := (HBL.out.cell (p := ⟨b1, 0, none⟩) hb1).trans h1
          have hat := H.out.below HBL.out hlt1
          have hce : (wr.cell? ⟨w1.heap.size, k, none⟩).isSome = true := by
            rw [HOW.out.cellAt k (by omega)]
            simp [filled, HXL.out]
            omega
          obtain ⟨cv, hcv⟩ := Option.isSome_iff_exists.1 hce
          have hfz : wr.frozen? ⟨w1.heap.size, k, none⟩ = false := HOW.out.frozenAt k
          have HAT := Lib.hid hat; have HM := Lib.hid hM; clear hat hce hM
          go_wp2_with fail
          refine (rdtext_any rb s a0 b2 e0 _ HAT.out hb2 (by omega)).mono ?_
          rintro e w3 ⟨hp, rfl⟩
          cases hr3 : Cod.rdT s b2 with
          | none =>
            rw [hr3] at hp
            have hp' : e = .returned (.tuple #[.string ⟨#[]⟩, .int .i64 0, .bool false]) := hp
            subst hp'
            rw [hr3] at htr
            have hf2 : R (.returned (.tuple #[.slice none 0 0, .int .i64 0, .bool false])) (w3.setCell ⟨w1.heap.size, k, none⟩ (.string ⟨#[]⟩)) := by
              rw [HR.out, HF.out, htr]
              exact ⟨rfl, HBL.out.setCell (p := ⟨w1.heap.size, k, none⟩) (Nat.le_refl _) _⟩
            have HF2 := Lib.hid hf2; clear hf2 hr3 hp htr
            go_wp2_with fail
            go_ret3
            exact HF2.out
          | some y =>
            obtain ⟨x, b3⟩ := y
            rw [hr3] at hp
            have hp' : e = .returned (.tuple #[.string x, .int .i64 b3, .bool true]) := hp
            subst hp'
            simp only [hr3] at htr
            have hb3 := (Cod.rdT_some hr3).2.1
            have hst := (HOW.out.stored k (.string x)).1
            rw [← HXL.out, filled_set n xs x (by rw [HXL.out]; exact hkn), HXL.out] at hst
            have hrel2 : TsI s w1 n b (.int .i64 b3) (.int .i64 ((k : Int) + 1)) (w3.setCell ⟨w1.heap.size, k, none⟩ (.string x)) := by
              refine ⟨k + 1, b3, xs ++ [x], by omega, by rw [List.length_append, HXL.out]; rfl, by go_num, rfl, hb3, hst, HBL.out.setCell (p := ⟨w1.heap.size, k, none⟩) (Nat.le_refl _) _, ?_⟩
              rw [htr, show n - (k + 1) = M by have := HM.out; omega]
              cases Cod.rdTs s M b3 with
              | none => rfl
              | some z => obtain ⟨l, c⟩ := z; simp
            have HREL := Lib.hid hrel2; clear hrel2 hst hr3 hp htr
            go_wp2_with fail
            exact ⟨HREL.out, by simp [intOf]; omega⟩
        · have dk : decide ((k : Int) < n) = false := by simp; omega
          have hkn2 : k = n := by omega
          have htr := HTR.out
          rw [hkn2, Nat.sub_self] at htr
          have hxn : xs.length = n := by rw [HXL.out]; exact hkn2
          have hf2 : R (.returned (.tuple #[.slice (some ⟨w1.heap.size, 0, none⟩) n n, .int .i64 b2, .bool true])) wr := by
            rw [HR.out, HF.out, htr]
            simp only [Cod.rdTs, List.append_nil]
            have how := HOW.out
            rw [filled_all n xs hxn, ← hxn] at how
            refine ⟨_, rfl, ?_, fun i hi => by simp [Value.ownBlock] at hi; omega, ⟨_, _, by rw [hxn]⟩, HBL.out⟩
            rw [← hxn]
            exact StrsC.own how
          have HF2 := Lib.hid hf2; clear hf2 htr hkn2 hxn
          go_wp2_with fail
          go_ret3
          exact HF2.out
    · have hz : ((s.size : Int) - b < n) := by omega
      have hf : R (.returned (.tuple #[.slice none 0 0, .int .i64 0, .bool false])) w1 := by
        rw [HR.out]
        unfold Cod.rdTexts
        simp only [hr, if_neg hlt]
        exact ⟨rfl, Below.refl _ _⟩
      have HF := Lib.hid hf; clear hf hr
      go_wp2_with fail
      go_ret3
      exact HF.out
def TextsPost (rb : Nat) (s : ByteArray) (a : Nat) (r : Option (List ByteArray × Nat)) (w : World) (e : Ending) (w' : World) : Prop := match r with
  | some (l, b) => ∃ c d, e = .returned (.slice (some c) l.length d) ∧ StrsC w' (.slice (some c) l.length d) l ∧ (∀ k, (Value.slice (some c) l.length d).ownBlock = some k → w.heap.size ≤ k) ∧ RdStep rb w w' (rdV s b 0)
  | none => e = .returned (.slice none 0 0) ∧ RdStep rb w w' (rdV s a 9)
set_option maxRecDepth 100000 in
set_option maxHeartbeats 1000000 in
theorem takeTexts_any (rb b1 : Nat) (s : ByteArray) (a : Nat) (w : World) (h1 : w.cell? ⟨b1, 0, none⟩ = some (.pointer (some ⟨rb, 0, none⟩))) (hb1 : b1 < w.heap.size) (h : At w rb 117 (rdV s a 0)) (ha : a ≤ s.size) (hs : s.size ≤ 1000000) :
    Calls Tryz.prog 86 #[.pointer (some ⟨rb, 0, none⟩), .func (.func 87) #[] #[.pointer (some ⟨b1, 0, none⟩)]] w (TextsPost rb s a (Cod.rdTexts s a) w) := by
  obtain ⟨R, hR⟩ : ∃ R, R = TextsPost rb s a (Cod.rdTexts s a) w := ⟨_, rfl⟩
  rw [← hR]
  have k1 := h.cell 1; have k2 := h.cell 2
  simp only [rdV, List.getElem?_toArray, List.getElem?_cons_zero, List.getElem?_cons_succ] at k1 k2
  have hlt := h.lt
  have HR := Lib.hid hR; have H := Lib.hid h; have H1 := Lib.hid h1; clear hR h h1
  go_enter Tryz.func86, Tryz.ntmps86
  go_wp2_with fail
  refine (rdTexts1_any rb b1 s a a 0 _ H1.out hb1 H.out ha hs).mono ?_
  intro e w1 hp
  cases hr : Cod.rdTexts s a with
  | none =>
    rw [hr] at hp
    obtain ⟨rfl, hb⟩ := hp
    have hat := H.out.below hb hlt
    have z2 := hat.free 2; have y2 := hat.cell 2
    simp only [rdV, List.getElem?_toArray, List.getElem?_cons_zero, List.getElem?_cons_succ] at y2
    have hf : R (.returned (.slice none 0 0)) (w1.setCell ⟨rb, 2, none⟩ (.int .i64 9)) := by
      rw [HR.out, hr]
      exact ⟨rfl, RdStep.pre (Fr.of_below hb) (RdStep.set2 hat 9)⟩
    have HF := Lib.hid hf; clear hf hr hat hb
    go_wp2_with fail
    exact HF.out
  | some y =>
    obtain ⟨l, b⟩ := y
    rw [hr] at hp
    obtain ⟨v, rfl, hv, hfr, ⟨c, d, rfl⟩, hb⟩ := hp
    have hat := H.out.below hb hlt
    have z1 := hat.free 1; have y1 := hat.cell 1
    simp only [rdV, List.getElem?_toArray, List.getElem?_cons_zero, List.getElem?_cons_succ] at y1
    have hf : R (.returned (.slice (some c) l.length d)) (w1.setCell ⟨rb, 1, none⟩ (.int .i64 b)) := by
      rw [HR.out, hr]
      exact ⟨c, d, rfl, hv.keep (fun k hk _ => heap_setCell_other _ _ _ _ (by have := hfr k hk; show k ≠ rb; omega)), hfr, RdStep.pre (Fr.of_below hb) (RdStep.set1 hat b)⟩
    have HF := Lib.hid hf; clear hf hr hat hb hv hfr
    go_wp2_with fail
    exact HF.out
set_option maxRecDepth 100000 in
theorem takeL_off (fv : Value) (rb : Nat) (s : ByteArray) (a : Nat) (e : Int) (he : e ≠ 0) (w : World) (h : At w rb 117 (rdV s a e)) :
    Calls Tryz.prog 86 #[.pointer (some ⟨rb, 0, none⟩), fv] w fun e w' => e = .returned (.slice none 0 0) ∧ w' = w := by
  have k2 := h.cell 2
  simp only [rdV, List.getElem?_toArray, List.getElem?_cons_zero, List.getElem?_cons_succ] at k2
  have he2 : (e != 0) = true := by simpa using he
  clear h
  go_enter Tryz.func86, Tryz.ntmps86
  go_wp2_with fail
  go_ret
  exact ⟨rfl, rfl⟩
set_option maxRecDepth 100000 in
set_option maxHeartbeats 1000000 in
theorem rdTexts_any (rb : Nat) (s : ByteArray) (a : Nat) (w : World) (h : At w rb 117 (rdV s a 0)) (ha : a ≤ s.size) (hs : s.size ≤ 1000000) :
    Calls Tryz.prog 50 #[.pointer (some ⟨rb, 0, none⟩)] w (TextsPost rb s a (Cod.rdTexts s a) w) := by
  obtain ⟨R, hR⟩ : ∃ R, R = TextsPost rb s a (Cod.rdTexts s a) w := ⟨_, rfl⟩
  rw [← hR]
  have hlt := h.lt
  have HR := Lib.hid hR; have H := Lib.hid h; clear hR h
  go_enter Tryz.func50, Tryz.ntmps50
  go_wp2_with fail
  have hfr : Fr (fun k => k = rb) w (w.alloc (.cells #[.pointer (some ⟨rb, 0, none⟩)] 70)) := (Fr.refl (fun k => k = rb) w).alloc _
  refine (takeTexts_any rb w.heap.size s a _ ((At.new w _ _).cell 0) (by simp) (H.out.alloc _) ha hs).mono ?_
  intro e w1 hp
  have hv : ∃ v, e = .returned v := by
    unfold TextsPost at hp
    split at hp
    · obtain ⟨c, d, rfl, _⟩ := hp; exact ⟨_, rfl⟩
    · exact ⟨_, hp.1⟩
  have hq : R e w1 := by
    rw [HR.out]
    unfold TextsPost at hp ⊢
    split at hp
    · obtain ⟨c, d, h1, h2, h3, h4⟩ := hp
      exact ⟨c, d, h1, h2, fun k hk => by have := h3 k hk; simp at this; omega, RdStep.pre hfr h4⟩
    · exact ⟨hp.1, RdStep.pre hfr hp.2⟩
  obtain ⟨v, rfl⟩ := hv
  have HP := Lib.hid hq; clear hp hq hfr
  go_wp2_with fail
  exact HP.out
set_option maxRecDepth 100000 in
theorem rdTexts_off (rb : Nat) (s : ByteArray) (a : Nat) (e : Int) (he : e ≠ 0) (w : World) (h : At w rb 117 (rdV s a e)) :
    Calls Tryz.prog 50 #[.pointer (some ⟨rb, 0, none⟩)] w fun e w' => e = .returned (.slice none 0 0) ∧ Below w.heap.size w w' := by
  have H := Lib.hid h; clear h
  go_enter Tryz.func50, Tryz.ntmps50
  go_wp2_with fail
  refine (takeL_off _ rb s a e he _ (H.out.alloc _)).mono ?_
  rintro e w1 ⟨rfl, rfl⟩
  go_wp2_with fail
  go_ret
  exact ⟨rfl, (Below.refl _ _).alloc (Nat.le_refl _) _⟩
end Go.Proofs.YtjlpdknomdhbhaaGreatDoor
