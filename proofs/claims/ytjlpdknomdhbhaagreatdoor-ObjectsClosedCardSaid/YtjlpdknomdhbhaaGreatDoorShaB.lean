/- The table of constants and the schedule of the program's SHA-256. -/
import Derived.Test.YtjlpdknomdhbhaaGreatDoorShaAB
import Derived.Test.YtjlpdknomdhbhaaGreatDoorBase
import Derived.Test.YtjlpdknomdhbhaaGreatDoorLex
import Derived.Laws.ResultCell
import Derived.Deep.MidRow
import Derived.Deep.RegionHeld3
import Derived.Deep.DrawnRows
import Derived.Deep.Cut
import Derived.StillTailTactics
import Derived.Deep.RegionLaw
namespace Go.Proofs.YtjlpdknomdhbhaaGreatDoor
set_option linter.unusedVariables false
set_option linter.unusedSimpArgs false
open Go Go.RowKit
theorem info_a64 : (Tryz.prog.info? 162).map (·.size) = some 64 := by kernel_rfl
theorem zero_a64 : (Tryz.prog.info? 162).map (·.zero) = some (some (.agg (Sha.row (List.replicate 64 0)))) := by kernel_rfl
set_option maxHeartbeats 1000000 in
set_option maxRecDepth 100000 in
theorem const_any (w : World) :
    Calls Tryz.prog 138 #[] w fun e w' => e = .returned (.agg (Sha.row Sha.K)) ∧ Below w.heap.size w w' := by
  go_enter Tryz.func138, Tryz.ntmps138
  go_upto_region 1 with (fail)
  refine wp_region_lit ?_
  refine wpList_same (.agg (Sha.row Sha.K)) rfl (by kernel_rfl) ?_
  refine wpList_store_row rfl _ _ _ rfl w.heap.size _ _ (Sha.row Sha.K) (by rfl) (by rfl) (At.new _ _ _) (by rfl) info_a64 (Sha.row_one _) ?_
  rw [setRow_alloc]
  generalize hcs : Sha.row Sha.K = cs
  have HC := Lib.hid hcs; clear hcs
  go_wp2
  refine bodyPost_ret (results_cell_row (by rfl) _ _ w.heap.size _ cs _ _ (by rfl) (At.new _ _ _) Tryz.underlying162 rfl (by rw [← HC.out]; exact info_a64)) rfl ?_
  exact ⟨by rw [HC.out], (Below.refl _ _).alloc (Nat.le_refl _) _⟩

set_option maxHeartbeats 2000000 in
set_option maxRecDepth 100000 in
theorem sched_any (s : ByteArray) (w : World) (hs : s.size = 64) :
    Calls Tryz.prog 137 #[.string s] w fun e w' => e = .returned (.agg (Sha.row (Sha.sched s 64))) ∧ Below w.heap.size w w' := by
  go_enter Tryz.func137, Tryz.ntmps137
  go_upto_region 4 with (fail)
  go_loopw [7] (fun i wr => ∃ k : Nat, k ≤ 64 ∧ i = .int .i64 k ∧ At wr (w.heap.size + 1) 162 (Sha.row (Sha.lay (Sha.sched s k))) ∧ At wr w.heap.size 162 (Sha.row (Sha.lay [])) ∧ Below w.heap.size w wr)
    (fun i _ => 64 - (intOf i).toNat)
  case atStart =>
    refine ⟨0, by omega, rfl, heap_alloc2_new w _ _, heap_alloc2_old w _ _, ((Below.refl _ _).alloc (Nat.le_refl _) _).alloc (by simp) _⟩
  case round =>
    obtain ⟨k, hk, rfl, h1, h2, hb⟩ := hrel
    have H1 := Lib.hid h1; clear h1
    have H2 := Lib.hid h2; clear h2
    by_cases hlt : k < 16
    · have d64 : decide ((k : Int) < 64) = true := by simp; omega
      have d16 : decide ((k : Int) < 16) = true := by simp; omega
      go_wp2_with fail
      go_loopw [12] (fun i wr2 => ∃ m : Nat, m ≤ 4 ∧ i = .int .i64 m ∧ At wr2 (w.heap.size + 1) 162 (Sha.row (Sha.lay (Sha.sched s k ++ [Sha.acc s k m]))) ∧ At wr2 w.heap.size 162 (Sha.row (Sha.lay [])) ∧ Below w.heap.size w wr2)
        (fun i _ => 4 - (intOf i).toNat)
      case atStart =>
        exact ⟨0, by omega, rfl, by rw [Sha.acc, Sha.lay_zero _ (by rw [Sha.sched_len]; omega)]; exact H1.out, H2.out, hb⟩
      case round =>
        obtain ⟨m, hm, rfl, h1, h2, hb2⟩ := hrel
        by_cases hlt4 : m < 4
        · have hcl : wr.cell? ⟨w.heap.size + 1, k, none⟩ = some (.int .u32 (Sha.acc s k m)) := by
            rw [h1.cell]
            have := Sha.row_at (Sha.sched s k) (Sha.acc s k m) (by rw [Sha.sched_len]; omega)
            rw [Sha.sched_len] at this
            exact this
          have hfr : wr.frozen? ⟨w.heap.size + 1, k, none⟩ = false := h1.free k
          have hb0 : (4 * k + m : Int) < s.size := by omega
          have ab := Sha.acc_bd s k m
          have H1' := Lib.hid h1; clear h1
          have H2' := Lib.hid h2; clear h2
          go_wp2_with fail
          refine Lex.wp_region_lex (by kernel_rfl) (by kernel_rfl) ?_
          go_wp2
          refine Lex.Ends.intro (by kernel_rfl) ?_
          go_wp2
          have hacc := Sha.acc_step s k m (by omega)
          have h1 := ((H1'.out.set k (.int .u32 (Sha.acc s k (m + 1)))))
          rw [Sha.row_set] at h1
          have hss := Sha.lay_set_last (Sha.sched s k) (Sha.acc s k m) (Sha.acc s k (m + 1)) (by rw [Sha.sched_len]; omega)
          rw [Sha.sched_len] at hss
          rw [hss, hacc] at h1
          have HA := Lib.hid hacc; clear hacc hss
          go_roundw
          case rel => exact ⟨m + 1, by omega, by go_num, by rw [HA.out]; exact h1, (H2'.out.far (p := ⟨w.heap.size + 1, k, none⟩) (by simp) _).drew, (hb2.setCell (p := ⟨w.heap.size + 1, k, none⟩) (by simp) _).drew⟩
          case measure => simp [intOf]; omega
        · obtain rfl : m = 4 := by omega
          have H1' := Lib.hid h1; clear h1
          have H2' := Lib.hid h2; clear h2
          go_wp2
          go_roundw
          case rel =>
            refine ⟨k + 1, by omega, by go_num, ?_, H2'.out, hb2⟩
            have := H1'.out
            rw [Sha.sched, Sha.step, Sha.sched_len, if_pos hlt]
            exact this
          case measure => simp [intOf]; omega
    · by_cases hlt2 : k < 64
      · have d64 : decide ((k : Int) < 64) = true := by simp; omega
        have d16 : decide ((k : Int) < 16) = false := by simp; omega
        have h1 := H1.out
        have cell : ∀ j, j < k → wr.cell? ⟨w.heap.size + 1, j, none⟩ = some (.int .u32 ((Sha.sched s k).getD j 0)) := fun j hj => by
          rw [h1.cell]; exact Sha.row_lay _ j (by rw [Sha.sched_len]; exact hj)
        have c2 := cell (k - 2) (by omega)
        have c7 := cell (k - 7) (by omega)
        have c15 := cell (k - 15) (by omega)
        have c16 := cell (k - 16) (by omega)
        have b2 := Sha.sched_bdD s k (k - 2)
        have b7 := Sha.sched_bdD s k (k - 7)
        have b15 := Sha.sched_bdD s k (k - 15)
        have b16 := Sha.sched_bdD s k (k - 16)
        have hfr : wr.frozen? ⟨w.heap.size + 1, k, none⟩ = false := h1.free k
        have ck : ∃ u, wr.cell? ⟨w.heap.size + 1, k, none⟩ = some u := by
          have hlen := Sha.lay_len (Sha.sched s k) (by rw [Sha.sched_len]; omega)
          rw [h1.cell, Sha.row_get, List.getElem?_eq_getElem (by omega)]; exact ⟨_, rfl⟩
        obtain ⟨uk, ck⟩ := ck
        have hnx : Sha.nxt (Sha.sched s k) = (Sha.ss ((Sha.sched s k).getD (k - 2) 0) 15 13 10 + (Sha.sched s k).getD (k - 7) 0 + Sha.ss ((Sha.sched s k).getD (k - 15) 0) 25 14 3 + (Sha.sched s k).getD (k - 16) 0) % 4294967296 := by
          simp only [Sha.nxt, Sha.sched_len]
        clear cell h1
        generalize (Sha.sched s k).getD (k - 2) 0 = x2 at *
        generalize (Sha.sched s k).getD (k - 7) 0 = x7 at *
        generalize (Sha.sched s k).getD (k - 15) 0 = x15 at *
        generalize (Sha.sched s k).getD (k - 16) 0 = x16 at *
        have HNX := Lib.hid hnx; clear hnx
        go_wp2_with fail
        refine Lex.wp_region_lexN (fun _ => True) [10, 16, 22] 24 [7, 11] (by kernel_rfl) (by kernel_rfl) (by kernel_rfl) ?_
        simp only [Lex.wpCuts, List.take_succ_cons, List.take_zero, List.drop_succ_cons, List.drop_zero]
        go_wp2_with fail
        refine (mix2_any x2 17 19 10 15 13 _ (by kernel_rfl) (by omega) (by omega) (by kernel_rfl) (by omega) (by omega) (by omega) (by omega) (by omega) (by omega) (by omega) (by omega) b2.1 b2.2).mono ?_
        rintro e w1 ⟨rfl, n1, rfl⟩
        go_wp2_with fail
        refine Lex.Mid.intro (fun b _ _ => rfl) ?_
        go_wp2_with fail
        refine (mix2_any x15 7 18 3 25 14 _ (by kernel_rfl) (by omega) (by omega) (by kernel_rfl) (by omega) (by omega) (by omega) (by omega) (by omega) (by omega) (by omega) (by omega) b15.1 b15.2).mono ?_
        rintro e w1 ⟨rfl, n2, rfl⟩
        go_wp2_with fail
        refine Lex.Mid.intro (fun b _ _ => rfl) ?_
        go_wp2_with fail
        refine Lex.EndsN.intro (by kernel_rfl) ?_ ?_
        · refine ⟨⟨trivial, ?_⟩, ⟨trivial, ?_⟩, ⟨trivial, ?_⟩, trivial⟩
          · show (wr.cell? ⟨w.heap.size + 1, k - 7, none⟩).isSome = true
            rw [c7]; rfl
          · show (wr.cell? ⟨w.heap.size + 1, k - 15, none⟩).isSome = true
            rw [c15]; rfl
          · show (wr.cell? ⟨w.heap.size + 1, k - 16, none⟩).isSome = true
            rw [c16]; rfl
        go_wp2_with fail
        go_roundw
        case rel =>
          have h1 := ((H1.out.drewN (1 + n1 + n2)).set k (.int .u32 (Sha.nxt (Sha.sched s k))))
          have hls := Sha.lay_set (Sha.sched s k) (Sha.nxt (Sha.sched s k)) (by rw [Sha.sched_len]; omega)
          rw [Sha.sched_len] at hls
          rw [Sha.row_set, hls, HNX.out] at h1
          refine ⟨k + 1, by omega, by go_num, ?_, (H2.out.drewN (1 + n1 + n2)).far (p := ⟨w.heap.size + 1, k, none⟩) (by simp) _, (below_drewN hb _).setCell (p := ⟨w.heap.size + 1, k, none⟩) (by simp) _⟩
          rw [Sha.sched, Sha.step, Sha.sched_len, if_neg hlt, HNX.out]
          exact h1
        case measure => simp [intOf]; omega
      · obtain rfl : k = 64 := by omega
        have hz : Sha.lay (Sha.sched s 64) = Sha.sched s 64 := by simp [Sha.lay, Sha.sched_len]
        rw [hz] at H1
        have hsz : (Sha.row (Sha.sched s 64)).size = 64 := by rw [Sha.row_size, Sha.sched_len]
        have hsz0 : (Sha.row (Sha.lay [])).size = 64 := by rw [Sha.row_size]; rfl
        have hone := Sha.row_one (Sha.sched s 64)
        have hb' := hb.size
        generalize hcs : Sha.row (Sha.sched s 64) = cs at *
        have HC := Lib.hid hcs; clear hcs
        generalize Sha.row (Sha.lay []) = z at *
        have HZ := Lib.hid hz; clear hz
        go_upto_region 14 with (fail)
        refine wp_region_lit ?_
        refine wpList_load_row rfl _ _ rfl (w.heap.size + 1) (by rfl) _ cs _ _ H1.out Tryz.underlying162 rfl (by rw [hsz]; exact info_a64) ?_
        refine wpList_store_row rfl _ _ _ rfl w.heap.size _ z cs (by rfl) (by rfl) H2.out (by rw [hsz, hsz0]) (by rw [hsz]; exact info_a64) hone ?_
        go_wp2
        refine bodyPost_ret (v := .agg cs) ?_ rfl ?_
        · refine results_cell_row (p := 2) (by rfl) _ _ w.heap.size _ cs _ _ ?_ (H2.out.setRow cs) Tryz.underlying162 rfl (by rw [hsz]; exact info_a64)
          rfl
        · exact ⟨by rw [HC.out], hb.setRow (Nat.le_refl _) _⟩
end Go.Proofs.YtjlpdknomdhbhaaGreatDoor
