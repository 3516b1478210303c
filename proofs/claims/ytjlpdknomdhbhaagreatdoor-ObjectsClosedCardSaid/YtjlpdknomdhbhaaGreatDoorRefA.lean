/- The reference's SHA-256 (package modcertref01): rotations, constants, schedule. Conditions: those of each law. -/
import Derived.Test.YtjlpdknomdhbhaaGreatDoorMem
import Derived.Test.YtjlpdknomdhbhaaGreatDoorShaF
import Derived.OwnWalk
import Derived.Laws.BitsLemmas
import Derived.Lib.EndianBits
namespace Go.Proofs.YtjlpdknomdhbhaaGreatDoor
set_option linter.unusedVariables false
set_option linter.unusedSimpArgs false
open Go Go.RowKit
namespace Sha
theorem or_comm32 (x y : Int) : bits .or .u32 x y = bits .or .u32 y x := by simp only [bits, BitVec.or_comm]
theorem rotr_rotl (x k : Int) (h0 : 0 ≤ k) (h1 : k ≤ 32) : bits .or .u32 (x / 2 ^ k.toNat) (x * 2 ^ (32 - k).toNat % 4294967296) = rotl x (32 - k) := by
  rw [or_comm32, rotl, show (32 - (32 - k)).toNat = k.toNat by omega]
/-- The byte at a place, as a number. -/
def byt (s : ByteArray) (j : Nat) : Int := ((s.data.toList.getD j 0).toNat : Int)
theorem byt_bd (s : ByteArray) (j : Nat) : 0 ≤ byt s j ∧ byt s j < 256 := by
  have := (s.data.toList.getD j 0).toNat_lt
  unfold byt
  omega
theorem byt_get (s : ByteArray) (j : Nat) (h : j < s.size) : ((s[j]).toNat : Int) = byt s j := by
  have : j < s.data.toList.length := by simpa using h
  rw [byt, List.getD_eq_getElem?_getD, List.getElem?_eq_getElem this]
  rfl
theorem or_join (x y : Int) (i : Nat) (h0 : 0 ≤ x) (h1 : x < 4294967296) (hi : x % 2 ^ i = 0) (hy0 : 0 ≤ y) (hy : y < 2 ^ i) (hy1 : y < 4294967296) : bits .or .u32 x y = x + y :=
  bits_join .u32 32 (by decide) wraps_u32 i x y h0 hi h1 hy0 hy hy1
theorem acc_four (s : ByteArray) (i : Nat) : acc s i 4 = byt s (4 * i) * 16777216 + byt s (4 * i + 1) * 65536 + byt s (4 * i + 2) * 256 + byt s (4 * i + 3) := by
  have b0 := byt_bd s (4 * i); have b1 := byt_bd s (4 * i + 1); have b2 := byt_bd s (4 * i + 2); have b3 := byt_bd s (4 * i + 3)
  have e1 : acc s i 1 = byt s (4 * i) := by
    show bits .or .u32 (0 * 256 % 4294967296) (byt s (4 * i + 0)) = _
    rw [Nat.add_zero, or_join _ _ 8 (by decide) (by decide) (by decide) b0.1 b0.2 (by omega)]
    omega
  have e2 : acc s i 2 = byt s (4 * i) * 256 + byt s (4 * i + 1) := by
    show bits .or .u32 (acc s i 1 * 256 % 4294967296) (byt s (4 * i + 1)) = _
    rw [e1, or_join _ _ 8 (by omega) (by omega) (by show _ % 256 = 0; omega) b1.1 b1.2 (by omega)]
    omega
  have e3 : acc s i 3 = byt s (4 * i) * 65536 + byt s (4 * i + 1) * 256 + byt s (4 * i + 2) := by
    show bits .or .u32 (acc s i 2 * 256 % 4294967296) (byt s (4 * i + 2)) = _
    rw [e2, or_join _ _ 8 (by omega) (by omega) (by show _ % 256 = 0; omega) b2.1 b2.2 (by omega)]
    omega
  show bits .or .u32 (acc s i 3 * 256 % 4294967296) (byt s (4 * i + 3)) = _
  rw [e3, or_join _ _ 8 (by omega) (by omega) (by show _ % 256 = 0; omega) b3.1 b3.2 (by omega)]
  omega
theorem or_four (a b c d : Int) (ha : 0 ≤ a ∧ a < 256) (hb : 0 ≤ b ∧ b < 256) (hc : 0 ≤ c ∧ c < 256) (hd : 0 ≤ d ∧ d < 256) :
    bits .or .u32 (bits .or .u32 (bits .or .u32 (a * 16777216) (b * 65536)) (c * 256)) d = a * 16777216 + b * 65536 + c * 256 + d := by
  rw [or_join (a * 16777216) (b * 65536) 24 (by omega) (by omega) (by show _ % 16777216 = 0; omega) (by omega) (by show _ < 16777216; omega) (by omega),
    or_join _ (c * 256) 16 (by omega) (by omega) (by show _ % 65536 = 0; omega) (by omega) (by show _ < 65536; omega) (by omega),
    or_join _ d 8 (by omega) (by omega) (by show _ % 256 = 0; omega) (by omega) (by show _ < 256; omega) (by omega)]
theorem word_form (s : ByteArray) (k : Nat) (h : 4 * k + 3 < s.size) :
    bits .or .u32 (bits .or .u32 (bits .or .u32 ((s[4 * k].toNat : Int) % 4294967296 * 16777216 % 4294967296) ((s[4 * k + 1].toNat : Int) % 4294967296 * 65536 % 4294967296)) ((s[4 * k + 2].toNat : Int) % 4294967296 * 256 % 4294967296)) ((s[4 * k + 3].toNat : Int) % 4294967296) = acc s k 4 := by
  have b0 := byt_bd s (4 * k); have b1 := byt_bd s (4 * k + 1); have b2 := byt_bd s (4 * k + 2); have b3 := byt_bd s (4 * k + 3)
  rw [byt_get s (4 * k) (by omega), byt_get s (4 * k + 1) (by omega), byt_get s (4 * k + 2) (by omega), byt_get s (4 * k + 3) (by omega), acc_four, ← or_four _ _ _ _ b0 b1 b2 b3]
  congr 1
  · congr 1
    · congr 1
      · omega
      · omega
    · omega
  · omega
theorem sched_at (s : ByteArray) (n j : Nat) (h : j < n) : ((sched s n).map (Value.int .u32))[j]? = some (.int .u32 ((sched s n).getD j 0)) := by
  rw [List.getElem?_map, List.getElem?_eq_getElem (by rw [sched_len]; exact h), List.getD_eq_getElem?_getD, List.getElem?_eq_getElem (by rw [sched_len]; exact h)]
  rfl
end Sha
theorem own_row {w : World} {base n size : Nat} {e : TypeId} {v : Value} {xs : List Value} (h : w.ownsRow base e size v n xs) (hn : 0 < n) : ∃ g cap, v = .slice (some ⟨g, 0, none⟩) n cap ∧ ∀ i x, xs[i]? = some x → w.cell? ⟨g, i, none⟩ = some x := by
  obtain ⟨hl, ⟨_, h0⟩ | ⟨g, cap, cur, rfl, _, hc, _, _, hcs, ht⟩⟩ := h
  · omega
  · refine ⟨g, cap, rfl, fun i x hx => ?_⟩
    rw [At.cell hc i, ← Array.getElem?_toList]
    rw [← ht, List.getElem?_take] at hx
    split at hx
    · exact hx
    · cases hx
theorem info_u32 : (Tryz.prog.info? 112).map (fun i => (i.zero, i.size, i.bytes)) = some (some (.int .u32 0), 1, 4) := by kernel_rfl
theorem rRot_any (x k r : Int) (w : World) (h0 : 0 ≤ k) (h1 : k ≤ 32) (hr : r = 32 - k) (hx0 : 0 ≤ x) (hx : x < 4294967296) :
    Calls Tryz.prog 115 #[.int .u32 x, .int .i64 k] w fun e w' => e = .returned (.int .u32 (Sha.rotl x r)) ∧ ∃ n, w' = w.drewN n := by
  subst hr
  refine (rotr_any x k w h0 h1 hx0 hx).mono ?_
  rintro e w' ⟨rfl, n, rfl⟩
  exact ⟨by rw [Sha.rotr_rotl x k h0 h1], n, rfl⟩
set_option maxRecDepth 100000 in
set_option maxHeartbeats 1000000 in
theorem rConst_any (w : World) :
    Calls Tryz.prog 114 #[] w fun e w' => e = .returned (.slice (some ⟨w.heap.size, 0, none⟩) 64 64) ∧ At w' w.heap.size 112 (Sha.row Sha.K) ∧ Below w.heap.size w w' := by
  go_enter Tryz.func114, Tryz.ntmps114
  go_wp2_with fail
  go_ret
  exact ⟨rfl, At.new _ _ _, (Below.refl _ _).alloc (Nat.le_refl _) _⟩
set_option maxRecDepth 100000 in
set_option maxHeartbeats 2000000 in
theorem rSched_any (s : ByteArray) (w : World) (hs : s.size = 64) :
    Calls Tryz.prog 113 #[.string s] w fun e w' => ∃ v, e = .returned v ∧ w'.ownsRow w.heap.size 112 1 v 64 ((Sha.sched s 64).map (Value.int .u32)) ∧ Below w.heap.size w w' := by
  go_enter Tryz.func113, Tryz.ntmps113
  go_wp2_with fail
  obtain ⟨i0, hi, hz0, hz1, hz2⟩ := info_parts info_u32
  go_loopw [3, 4] (fun v i wr => ∃ k : Nat, k ≤ 16 ∧ i = .int .i64 ((4 * k : Nat) : Int) ∧ wr.ownsRow w.heap.size 112 1 v k ((Sha.sched s k).map (Value.int .u32)) ∧ Below w.heap.size w wr) (fun _ i _ => 64 - (intOf i).toNat)
  case atStart => exact ⟨0, by omega, rfl, ⟨rfl, .inr ⟨w.heap.size, 0, #[], rfl, Nat.le_refl _, At.new _ _ _, Nat.le_refl _, by decide, rfl, rfl⟩⟩, (Below.refl _ _).alloc (Nat.le_refl _) _⟩
  case round =>
    obtain ⟨k, hk, rfl, hv, hb⟩ := hrel
    have HV := Lib.hid hv; have HB := Lib.hid hb; clear hv hb
    by_cases hlt : k < 16
    · have dk : decide (((4 * k : Nat) : Int) < 64) = true := by simp; omega
      go_wp2_with fail
      refine Lex.wp_region_lex (by kernel_rfl) (by kernel_rfl) ?_
      go_wp2_with (at_builtin; go_must (refine wpList_append_own_at _ rfl _ _ 113 rfl w.heap.size 112 i0 (.int .u32 0) 1 4 Tryz.underlying113 hi hz0 hz1 hz2 rfl (by omega) _ k ((Sha.sched s k).map (Value.int .u32)) rfl (HV.out.alloc _).drew ⟨wr.heap.size, 0, none⟩ 1 1 [.int .u32 (Sha.acc s k 4)] rfl rfl ?c1 ?c2 ?c3 ?c4 ?c5 ?_))
      case c1 =>
        intro j u hj
        match j, hj with
        | 0, hj => simp at hj; subst hj; rw [← Sha.word_form s k (by omega)]; simp [Addr.add]
      case c2 => intro u hu; simp at hu; subst hu; rfl
      case c3 => unfold maxLen; omega
      case c4 => omega
      case c5 => have := HB.out.size; simp; omega
      intro v2 w15 how hg _ hb'
      have hb15 : Below w.heap.size w w15 := below_own (HB.out.alloc HB.out.size _).drew (by have := HB.out.size; simp; omega) HV.out hg
      have hsch : Sha.sched s (k + 1) = Sha.sched s k ++ [Sha.acc s k 4] := by rw [Sha.sched, Sha.step, Sha.sched_len, if_pos hlt]
      have HB15 := Lib.hid hb15; have HOW := Lib.hid how; have HSC := Lib.hid hsch; clear how hg hb' hb15 hsch
      go_wp2_with fail
      refine Lex.Ends.intro (by kernel_rfl) ?_
      go_wp2_with fail
      refine ⟨⟨k + 1, by omega, by go_num, by rw [HSC.out, List.map_append]; exact HOW.out, HB15.out⟩, by simp [intOf]; omega⟩
    · have hk' : k = 16 := by omega
      have dk : decide (((4 * k : Nat) : Int) < 64) = false := by simp; omega
      have HK := Lib.hid hk'; clear hk'
      go_wp2_with fail
      go_loopw [3, 5] (fun v i wr => ∃ k : Nat, 16 ≤ k ∧ k ≤ 64 ∧ i = .int .i64 k ∧ wr.ownsRow w.heap.size 112 1 v k ((Sha.sched s k).map (Value.int .u32)) ∧ Below w.heap.size w wr) (fun _ i _ => 64 - (intOf i).toNat)
      case atStart =>
        have hv := HV.out
        rw [HK.out] at hv
        exact ⟨16, by omega, by omega, rfl, hv, HB.out⟩
      case round =>
        obtain ⟨j, hj1, hj2, rfl, hv, hb⟩ := hrel
        by_cases hltj : j < 64
        · have dj : decide ((j : Int) < 64) = true := by simp; omega
          obtain ⟨g, cap, rfl, hc⟩ := own_row hv (by omega)
          have c2 := hc _ _ (Sha.sched_at s j (j - 2) (by omega))
          have c7 := hc _ _ (Sha.sched_at s j (j - 7) (by omega))
          have c15 := hc _ _ (Sha.sched_at s j (j - 15) (by omega))
          have c16 := hc _ _ (Sha.sched_at s j (j - 16) (by omega))
          have b2 := Sha.sched_bdD s j (j - 2)
          have b7 := Sha.sched_bdD s j (j - 7)
          have b15 := Sha.sched_bdD s j (j - 15)
          have b16 := Sha.sched_bdD s j (j - 16)
          have hnx : Sha.nxt (Sha.sched s j) = (Sha.ss ((Sha.sched s j).getD (j - 2) 0) 15 13 10 + (Sha.sched s j).getD (j - 7) 0 + Sha.ss ((Sha.sched s j).getD (j - 15) 0) 25 14 3 + (Sha.sched s j).getD (j - 16) 0) % 4294967296 := by
            simp only [Sha.nxt, Sha.sched_len]
          have hsch : Sha.sched s (j + 1) = Sha.sched s j ++ [Sha.nxt (Sha.sched s j)] := by rw [Sha.sched, Sha.step, Sha.sched_len, if_neg (by omega)]
          generalize (Sha.sched s j).getD (j - 2) 0 = x2 at *
          generalize (Sha.sched s j).getD (j - 7) 0 = x7 at *
          generalize (Sha.sched s j).getD (j - 15) 0 = x15 at *
          generalize (Sha.sched s j).getD (j - 16) 0 = x16 at *
          have HVV := Lib.hid hv; have HBB := Lib.hid hb; have HNX := Lib.hid hnx; have HSC := Lib.hid hsch; have HC := Lib.hid hc; clear hv hb hnx hsch hc
          go_wp2_with fail
          refine Lex.wp_region_lex (by kernel_rfl) (by kernel_rfl) ?_
          go_wp2_with fail
          refine Lex.Ends.intro (by kernel_rfl) ?_
          go_wp2_with fail
          refine (rRot_any x15 7 25 _ (by omega) (by omega) (by omega) b15.1 b15.2).mono ?_
          rintro e1 w1 ⟨rfl, n1, rfl⟩
          go_wp2_with fail
          refine (rRot_any x15 18 14 _ (by omega) (by omega) (by omega) b15.1 b15.2).mono ?_
          rintro e2 w2 ⟨rfl, n2, rfl⟩
          go_wp2_with fail
          refine (rRot_any x2 17 15 _ (by omega) (by omega) (by omega) b2.1 b2.2).mono ?_
          rintro e3 w3 ⟨rfl, n3, rfl⟩
          go_wp2_with fail
          refine (rRot_any x2 19 13 _ (by omega) (by omega) (by omega) b2.1 b2.2).mono ?_
          rintro e4 w4 ⟨rfl, n4, rfl⟩
          go_wp2_with fail
          refine Lex.wp_region_lex (by kernel_rfl) (by kernel_rfl) ?_
          go_wp2_with (at_builtin; go_must (refine wpList_append_own_at _ rfl _ _ 113 rfl w.heap.size 112 i0 (.int .u32 0) 1 4 Tryz.underlying113 hi hz0 hz1 hz2 rfl (by omega) _ j ((Sha.sched s j).map (Value.int .u32)) rfl (World.ownsRow.alloc (by exact HVV.out) _).drew ⟨wr.heap.size, 0, none⟩ 1 1 [.int .u32 (Sha.nxt (Sha.sched s j))] rfl rfl ?c1 ?c2 ?c3 ?c4 ?c5 ?_))
          case c1 =>
            intro j u hj
            match j, hj with
            | 0, hj => simp at hj; subst hj; rw [HNX.out]; simp [Addr.add, Sha.ss, Sha.x32]; exact (At.new (wr.drewN (1 + n1 + n2 + n3 + n4 + 1)) 112 _).cell 0
          case c2 => intro u hu; simp at hu; subst hu; rfl
          case c3 => unfold maxLen; omega
          case c4 => omega
          case c5 => have := HBB.out.size; simp; omega
          intro v2 w15 how hg _ hb'
          have hb15 : Below w.heap.size w w15 := below_own ((below_drewN HBB.out _).alloc (by have := HBB.out.size; exact this) _) (by have := HBB.out.size; simp; exact Nat.le_succ_of_le this) HVV.out hg
          have HB15 := Lib.hid hb15; have HOW := Lib.hid how; clear how hg hb' hb15
          go_wp2_with fail
          refine Lex.Ends.intro (by kernel_rfl) ?_
          go_wp2_with fail
          go_roundw
          case rel =>
            have hrel : ∃ k : Nat, 16 ≤ k ∧ k ≤ 64 ∧ Value.int .i64 ((j : Int) + 1) = .int .i64 k ∧ w15.ownsRow w.heap.size 112 1 v2 k ((Sha.sched s k).map (Value.int .u32)) ∧ Below w.heap.size w w15 :=
              ⟨j + 1, by omega, by omega, by go_num, by rw [HSC.out, List.map_append]; exact HOW.out, HB15.out⟩
            (repeat apply Exists.intro)
            exact ⟨hrel, rfl⟩
          case measure => simp [intOf]; omega
        · have hj : j = 64 := by omega
          have dj : decide ((j : Int) < 64) = false := by simp; omega
          have HJ := Lib.hid hj; have HVV := Lib.hid hv; have HBB := Lib.hid hb; clear hj hv hb
          go_wp2_with fail
          go_ret
          have hv := HVV.out
          rw [HJ.out] at hv
          exact ⟨_, rfl, hv, HBB.out⟩
end Go.Proofs.YtjlpdknomdhbhaaGreatDoor
