/- The reference's SHA-256: compress. Conditions: those of each law. -/
import Derived.Test.YtjlpdknomdhbhaaGreatDoorRefA
namespace Go.Proofs.YtjlpdknomdhbhaaGreatDoor
set_option linter.unusedVariables false
set_option linter.unusedSimpArgs false
open Go Go.RowKit
set_option maxRecDepth 100000 in
set_option maxHeartbeats 4000000 in
theorem rCompress_any (v : List Int) (b cap : Nat) (s : ByteArray) (w : World) (hv : Sha.Word v) (hs : s.size = 64) (hat : At w b 112 (Sha.row v)) :
    Calls Tryz.prog 83 #[.slice (some ⟨b, 0, none⟩) 8 cap, .string s] w fun e w' => ∃ g, e = .returned (.slice (some ⟨g, 0, none⟩) 8 8) ∧ At w' g 112 (Sha.row (Sha.block v s)) ∧ w.heap.size ≤ g ∧ Below w.heap.size w w' := by
  have hv0 := hv
  obtain ⟨x0, x1, x2, x3, x4, x5, x6, x7, rfl, b0, b1, b2, b3, b4, b5, b6, b7⟩ := hv.lit
  have hlt := hat.lt
  go_enter Tryz.func83, Tryz.ntmps83
  go_wp2_with fail
  refine (rSched_any s _ hs).mono ?_
  rintro e w1 ⟨vs, rfl, ho, hb1⟩
  obtain ⟨gs, cs, rfl, hcs⟩ := own_row ho (by omega)
  have hgs := (row_blk ho).1
  have HCS := Lib.hid hcs; have HB1 := Lib.hid hb1; have HO := Lib.hid ho; clear hcs hb1 ho
  go_wp2_with fail
  refine (rConst_any _).mono ?_
  rintro e w2 ⟨rfl, hk, hb2⟩
  have ha2 := (hat.below HB1.out hlt).below hb2 (Nat.lt_of_lt_of_le hlt HB1.out.size)
  have HA2 := Lib.hid ha2
  simp only [Sha.row, List.map_cons, List.map_nil] at ha2
  have c0 := ha2.cell 0; have c1 := ha2.cell 1; have c2 := ha2.cell 2; have c3 := ha2.cell 3; have c4 := ha2.cell 4; have c5 := ha2.cell 5; have c6 := ha2.cell 6; have c7 := ha2.cell 7
  simp only [List.getElem?_toArray, List.getElem?_cons_zero, List.getElem?_cons_succ] at c0 c1 c2 c3 c4 c5 c6 c7
  have hcs2 : ∀ k, k < 64 → w2.cell? ⟨gs, k, none⟩ = some (.int .u32 ((Sha.sched s 64).getD k 0)) := fun k hk => by
    have h1 := HCS.out _ _ (Sha.sched_at s 64 k hk)
    have hgl := (row_blk HO.out).2
    exact (hb2.cell (p := ⟨gs, k, none⟩) hgl).trans h1
  have HK := Lib.hid hk; have HB2 := Lib.hid hb2; have HS := Lib.hid hcs2
  clear hk hb2 hcs2 ha2 HCS hat
  have hsz1 := HB1.out.size; have hsz2 := HB2.out.size
  obtain ⟨gk, hgk⟩ : ∃ gk, gk = w1.heap.size := ⟨_, rfl⟩
  rw [← hgk] at HK ⊢
  have HGK := Lib.hid hgk; clear hgk
  go_wp2_with fail
  refine Lex.wp_region_lex (by kernel_rfl) (by kernel_rfl) ?_
  go_wp2_with fail
  refine Lex.Ends.intro (by kernel_rfl) ?_
  go_wp2_with fail
  go_loopw [7, 8, 9, 10, 11, 12, 13, 14, 15] (fun va vb vc vd ve vf vg vh i wr => ∃ (k : Nat) (y0 y1 y2 y3 y4 y5 y6 y7 : Int), k ≤ 64 ∧ i = .int .i64 k ∧ va = .int .u32 y0 ∧ vb = .int .u32 y1 ∧ vc = .int .u32 y2 ∧ vd = .int .u32 y3 ∧ ve = .int .u32 y4 ∧ vf = .int .u32 y5 ∧ vg = .int .u32 y6 ∧ vh = .int .u32 y7 ∧
      Sha.rounds (Sha.sched s 64) [x0, x1, x2, x3, x4, x5, x6, x7] k = [y0, y1, y2, y3, y4, y5, y6, y7] ∧ ∃ q, wr = w2.drewN q) (fun _ _ _ _ _ _ _ _ i _ => 64 - (intOf i).toNat)
  case atStart => exact ⟨0, x0, x1, x2, x3, x4, x5, x6, x7, by omega, rfl, rfl, rfl, rfl, rfl, rfl, rfl, rfl, rfl, rfl, _, rfl⟩
  case round =>
    obtain ⟨k, y0, y1, y2, y3, y4, y5, y6, y7, hk, rfl, rfl, rfl, rfl, rfl, rfl, rfl, rfl, rfl, hy, q, rfl⟩ := hrel
    have hwd := hv.rounds (Sha.sched s 64) k
    rw [hy] at hwd
    obtain ⟨z0, z1, z2, z3, z4, z5, z6, z7, hz, d0, d1, d2, d3, d4, d5, d6, d7⟩ := hwd.lit
    obtain ⟨rfl, rfl, rfl, rfl, rfl, rfl, rfl, rfl⟩ : y0 = z0 ∧ y1 = z1 ∧ y2 = z2 ∧ y3 = z3 ∧ y4 = z4 ∧ y5 = z5 ∧ y6 = z6 ∧ y7 = z7 := by simpa using hz
    clear hz hwd
    have HY := Lib.hid hy; clear hy
    by_cases hk64 : k < 64
    · have dk : decide ((k : Int) < 64) = true := by simp; omega
      have kw : w2.cell? ⟨gs, k, none⟩ = some (.int .u32 ((Sha.sched s 64).getD k 0)) := HS.out k hk64
      have kk : w2.cell? ⟨gk, k, none⟩ = some (.int .u32 (Sha.K.getD k 0)) := (HK.out.cell k).trans (Sha.K_get k hk64)
      have hst : Sha.rounds (Sha.sched s 64) [x0, x1, x2, x3, x4, x5, x6, x7] (k + 1) = Sha.rnd [y0, y1, y2, y3, y4, y5, y6, y7] (Sha.K.getD k 0) ((Sha.sched s 64).getD k 0) := by rw [← HY.out]; rfl
      have bw := Sha.sched_bdD s 64 k
      have HST := Lib.hid hst; clear hst
      generalize (Sha.sched s 64).getD k 0 = W at *
      generalize Sha.K.getD k 0 = KK at *
      clear c0 c1 c2 c3 c4 c5 c6 c7
      go_wp2_with fail
      refine Lex.wp_region_lexN (fun _ => True) [22, 27] 28 [3, 2, 3] (by kernel_rfl) (by kernel_rfl) (by kernel_rfl) ?_
      simp only [Lex.wpCuts, List.take_succ_cons, List.take_zero, List.drop_succ_cons, List.drop_zero]
      go_wp2_with fail
      refine (rRot_any y4 6 26 _ (by omega) (by omega) (by omega) d4.1 d4.2).mono ?_
      rintro e1 w5 ⟨rfl, n1, rfl⟩
      go_wp2_with fail
      refine Lex.Mid.intro (fun b _ _ => rfl) ?_
      go_wp2_with fail
      refine (rRot_any y4 11 21 _ (by omega) (by omega) (by omega) d4.1 d4.2).mono ?_
      rintro e2 w6 ⟨rfl, n2, rfl⟩
      go_wp2_with fail
      refine Lex.Mid.intro (fun b _ _ => rfl) ?_
      go_wp2_with fail
      refine (rRot_any y4 25 7 _ (by omega) (by omega) (by omega) d4.1 d4.2).mono ?_
      rintro e3 w7 ⟨rfl, n3, rfl⟩
      go_wp2_with fail
      refine Lex.Mid.intro (fun b _ _ => rfl) ?_
      go_wp2_with fail
      refine Lex.EndsN.intro (by kernel_rfl) ?_ ?_
      · refine ⟨⟨trivial, ?_⟩, ⟨trivial, ?_⟩, trivial⟩
        · show (w2.cell? ⟨gk, k, none⟩).isSome = true
          rw [kk]; rfl
        · show (w2.cell? ⟨gs, k, none⟩).isSome = true
          rw [kw]; rfl
      go_wp2_with fail
      refine (rRot_any y0 2 30 _ (by omega) (by omega) (by omega) d0.1 d0.2).mono ?_
      rintro e4 w8 ⟨rfl, n4, rfl⟩
      go_wp2_with fail
      refine (rRot_any y0 13 19 _ (by omega) (by omega) (by omega) d0.1 d0.2).mono ?_
      rintro e5 w9 ⟨rfl, n5, rfl⟩
      go_wp2_with fail
      refine (rRot_any y0 22 10 _ (by omega) (by omega) (by omega) d0.1 d0.2).mono ?_
      rintro e6 w10 ⟨rfl, n6, rfl⟩
      go_wp2_with fail
      exact ⟨⟨k + 1, _, y0, y1, y2, _, y4, y5, y6, by omega, by go_num, rfl, rfl, rfl, rfl, rfl, rfl, rfl, rfl, HST.out, _, rfl⟩, by simp [intOf]; omega⟩
    · have hk' : k = 64 := by omega
      have dk : decide ((k : Int) < 64) = false := by simp; omega
      have hbl : Sha.block [x0, x1, x2, x3, x4, x5, x6, x7] s = [(x0 + y0) % 4294967296, (x1 + y1) % 4294967296, (x2 + y2) % 4294967296, (x3 + y3) % 4294967296, (x4 + y4) % 4294967296, (x5 + y5) % 4294967296, (x6 + y6) % 4294967296, (x7 + y7) % 4294967296] := by
        have := HY.out
        rw [hk'] at this
        rw [Sha.block, this]
        rfl
      have HBL := Lib.hid hbl; clear hbl hk'
      go_wp2_with fail
      refine Lex.wp_region_lex (by kernel_rfl) (by kernel_rfl) ?_
      go_wp2_with fail
      refine Lex.Ends.intro (by kernel_rfl) ?_
      go_wp2_with fail
      go_ret
      rw [HBL.out]
      refine ⟨w2.heap.size, rfl, At.new (w2.drewN (q + 1)) _ _, by omega, ?_⟩
      exact (below_drewN (HB1.out.trans (HB2.out.mono hsz1)) _).alloc (by show w.heap.size ≤ w2.heap.size; omega) _
end Go.Proofs.YtjlpdknomdhbhaaGreatDoor
