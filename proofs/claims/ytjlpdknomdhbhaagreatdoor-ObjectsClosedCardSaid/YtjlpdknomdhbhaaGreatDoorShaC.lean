/- The program's SHA-256 adds a block to its state as the plain function says. Condition: the block has 64 bytes. -/
import Derived.Test.YtjlpdknomdhbhaaGreatDoorShaB
namespace Go.Proofs.YtjlpdknomdhbhaaGreatDoor
set_option linter.unusedVariables false
set_option linter.unusedSimpArgs false
open Go Go.RowKit
def hash (v : List Int) (r : ByteArray) (t : Int) : Array Value := Sha.row v ++ #[.string r, .int .u64 t]
theorem hash_lit (x0 x1 x2 x3 x4 x5 x6 x7 : Int) (r : ByteArray) (t : Int) : hash [x0, x1, x2, x3, x4, x5, x6, x7] r t = #[.int .u32 x0, .int .u32 x1, .int .u32 x2, .int .u32 x3, .int .u32 x4, .int .u32 x5, .int .u32 x6, .int .u32 x7, .string r, .int .u64 t] := by
  simp [hash, Sha.row]
theorem hash_get (v : List Int) (r : ByteArray) (t : Int) (k : Nat) (h : k < v.length) : (hash v r t)[k]? = some (.int .u32 (v.getD k 0)) := by
  unfold hash
  rw [Array.getElem?_append_left (by rw [Sha.row_size]; exact h), Sha.row_get, List.getElem?_eq_getElem h, List.getD_eq_getElem?_getD, List.getElem?_eq_getElem h]
  rfl
theorem hash_set (v : List Int) (r : ByteArray) (t : Int) (k : Nat) (u : Int) (h : k < v.length) : (hash v r t).setIfInBounds k (.int .u32 u) = hash (v.set k u) r t := by
  unfold hash
  rw [Array.setIfInBounds_append_left (by rw [Sha.row_size]; exact h), Sha.row_set]
theorem At.setW {w : World} {b : Nat} {t : TypeId} {l : List Int} (h : At w b t (Sha.row l)) (i : Nat) (u : Int) : At (w.setCell ⟨b, i, none⟩ (.int .u32 u)) b t (Sha.row (l.set i u)) := by
  rw [← Sha.row_set]; exact h.set i _
set_option maxHeartbeats 4000000 in
set_option maxRecDepth 100000 in
theorem add_any (b : Nat) (v : List Int) (r : ByteArray) (t : Int) (s : ByteArray) (w : World) (hs : s.size = 64) (hv : Sha.Word v) (hh : At w b 138 (hash v r t)) :
    Calls Tryz.prog 107 #[.pointer (some ⟨b, 0, none⟩), .string s] w fun e w' => e = .returned (.tuple #[]) ∧ At w' b 138 (hash (Sha.block v s) r t) ∧ Fr (fun k => k = b) w w' := by
  have hv0 := hv
  obtain ⟨x0, x1, x2, x3, x4, x5, x6, x7, rfl, b0, b1, b2, b3, b4, b5, b6, b7⟩ := hv.lit
  have hlt := hh.lt
  go_enter Tryz.func107, Tryz.ntmps107
  go_wp2_with fail
  refine (sched_any s _ hs).mono ?_
  rintro e w1 ⟨rfl, hb1⟩
  go_wp2_with fail
  refine (const_any _).mono ?_
  rintro e w2 ⟨rfl, hb2⟩
  dsimp only
  refine ‹∀ (a : Act) (w : World), wpList _ _ _ _ a w → _› _ _ ?_
  have hsz1 := hb1.size
  have hsz2 := hb2.size
  have h2 : At w2 b 138 (hash [x0, x1, x2, x3, x4, x5, x6, x7] r t) := (hh.below hb1 hlt).below hb2 (by omega)
  refine wpList_alloc_row rfl 162 rfl (Sha.row (List.replicate 64 0)) zero_a64 ?_
  refine wpList_alloc_row rfl 162 rfl (Sha.row (List.replicate 64 0)) zero_a64 ?_
  generalize hZ : Sha.row (List.replicate 64 0) = Z
  have hZs : Z.size = 64 := by rw [← hZ]; rfl
  clear hZ
  have e5 : At ((w2.alloc (.cells Z 162)).alloc (.cells Z 162)) w2.heap.size 162 Z := heap_alloc2_old w2 _ _
  have e6 : At ((w2.alloc (.cells Z 162)).alloc (.cells Z 162)) (w2.heap.size + 1) 162 Z := heap_alloc2_new w2 _ _
  have eb := (h2.alloc (.cells Z 162)).alloc (.cells Z 162)
  have bb : Below w2.heap.size w2 ((w2.alloc (.cells Z 162)).alloc (.cells Z 162)) := ((Below.refl _ _).alloc (Nat.le_refl _) _).alloc (by simp) _
  obtain ⟨w3, hw3⟩ : ∃ x, x = (w2.alloc (.cells Z 162)).alloc (.cells Z 162) := ⟨_, rfl⟩
  rw [← hw3] at e5 e6 eb bb ⊢
  refine wpList_store_row rfl _ _ _ rfl w2.heap.size _ Z (Sha.row (Sha.sched s 64)) (by rfl) (by rfl) e5 (by rw [hZs, Sha.row_size, Sha.sched_len]) (by rw [Sha.row_size, Sha.sched_len]; exact info_a64) (Sha.row_one _) ?_
  refine wpList_store_row rfl _ _ _ rfl (w2.heap.size + 1) _ Z (Sha.row Sha.K) (by show Value.pointer (some ⟨(w2.alloc (.cells Z 162)).heap.size, 0, none⟩) = _; rw [World.size_alloc]) (by rfl) (e6.setRow_far (by omega) _) (by rw [hZs, Sha.row_size, Sha.K_len]) (by rw [Sha.row_size, Sha.K_len]; exact info_a64) (Sha.row_one _) ?_
  have f5 : At ((w3.setRow w2.heap.size (Sha.row (Sha.sched s 64))).setRow (w2.heap.size + 1) (Sha.row Sha.K)) w2.heap.size 162 (Sha.row (Sha.sched s 64)) := (e5.setRow _).setRow_far (by omega) _
  have f6 : At ((w3.setRow w2.heap.size (Sha.row (Sha.sched s 64))).setRow (w2.heap.size + 1) (Sha.row Sha.K)) (w2.heap.size + 1) 162 (Sha.row Sha.K) := (e6.setRow_far (by omega) _).setRow _
  have fb := (eb.setRow_far (g := w2.heap.size) (by omega) (Sha.row (Sha.sched s 64))).setRow_far (g := w2.heap.size + 1) (by omega) (Sha.row Sha.K)
  have ff : Below w.heap.size w ((w3.setRow w2.heap.size (Sha.row (Sha.sched s 64))).setRow (w2.heap.size + 1) (Sha.row Sha.K)) :=
    (((hb1.trans (hb2.mono (by omega))).trans (bb.mono (by omega))).setRow (by omega) _).setRow (by omega) _
  have hsz : ((w3.setRow w2.heap.size (Sha.row (Sha.sched s 64))).setRow (w2.heap.size + 1) (Sha.row Sha.K)).heap.size = w2.heap.size + 2 := by
    rw [size_setRow, size_setRow, hw3]; simp
  generalize (w3.setRow w2.heap.size (Sha.row (Sha.sched s 64))).setRow (w2.heap.size + 1) (Sha.row Sha.K) = w4 at *
  obtain ⟨n, hn⟩ : ∃ n, n = w2.heap.size := ⟨_, rfl⟩
  have hwn : (w2.alloc (.cells Z 162)).heap.size = n + 1 := by rw [World.size_alloc, hn]
  rw [hwn, ← hn]
  rw [← hn] at f5 f6 hsz
  rw [hash_lit] at fb
  have c0 := fb.cell 0; have c1 := fb.cell 1; have c2 := fb.cell 2; have c3 := fb.cell 3; have c4 := fb.cell 4; have c5 := fb.cell 5; have c6 := fb.cell 6; have c7 := fb.cell 7
  simp only [List.getElem?_toArray, List.getElem?_cons_zero, List.getElem?_cons_succ] at c0 c1 c2 c3 c4 c5 c6 c7
  have hbn : b < n := by omega
  have F5 := Lib.hid f5; have F6 := Lib.hid f6; have FB := Lib.hid fb; have HSZ := Lib.hid hsz
  have hsz' : n + 2 ≤ w4.heap.size := by omega
  clear f5 f6 fb hsz hw3 hwn bb eb e5 e6 h2 hh hZs hn
  go_wp2_with fail
  go_loopw [26] (fun i wr => ∃ k : Nat, k ≤ 64 ∧ i = .int .i64 k ∧ At wr w4.heap.size 136 (Sha.row (Sha.rounds (Sha.sched s 64) [x0, x1, x2, x3, x4, x5, x6, x7] k)) ∧ Below w4.heap.size w4 wr)
    (fun i _ => 64 - (intOf i).toNat)
  case atStart =>
    refine ⟨0, by omega, rfl, ?_, (Below.refl _ _).alloc (Nat.le_refl _) _⟩
    simp only [Sha.rounds, Sha.row, List.map_cons, List.map_nil]
    exact At.new _ _ _
  case round =>
    obtain ⟨k, hk, rfl, hw, hbr⟩ := hrel
    have hwd := hv.rounds (Sha.sched s 64) k
    have hlr := hw.lt
    by_cases hk64 : k < 64
    · have hstep : Sha.rounds (Sha.sched s 64) [x0, x1, x2, x3, x4, x5, x6, x7] (k + 1) = Sha.rnd (Sha.rounds (Sha.sched s 64) [x0, x1, x2, x3, x4, x5, x6, x7] k) (Sha.K.getD k 0) ((Sha.sched s 64).getD k 0) := rfl
      have HST := Lib.hid hstep; clear hstep
      generalize Sha.rounds (Sha.sched s 64) [x0, x1, x2, x3, x4, x5, x6, x7] k = v at *
      obtain ⟨y0, y1, y2, y3, y4, y5, y6, y7, rfl, d0, d1, d2, d3, d4, d5, d6, d7⟩ := hwd.lit
      have k5 := (F5.out.below hbr (by omega)).cell k
      have k6 := (F6.out.below hbr (by omega)).cell k
      rw [Sha.sched64_get s k hk64] at k5
      rw [Sha.K_get k hk64] at k6
      generalize (Sha.sched s 64).getD k 0 = W at *
      generalize Sha.K.getD k 0 = KK at *
      have HW := Lib.hid hw
      simp only [Sha.row, List.map_cons, List.map_nil] at hw
      have v0 := hw.cell 0; have v1 := hw.cell 1; have v2 := hw.cell 2; have v3 := hw.cell 3; have v4 := hw.cell 4; have v5 := hw.cell 5; have v6 := hw.cell 6; have v7 := hw.cell 7
      simp only [List.getElem?_toArray, List.getElem?_cons_zero, List.getElem?_cons_succ] at v0 v1 v2 v3 v4 v5 v6 v7
      have fz : ∀ i, wr.frozen? ⟨w4.heap.size, i, none⟩ = false := fun i => hw.free i
      have z0 := fz 0; have z1 := fz 1; have z2 := fz 2; have z3 := fz 3; have z4 := fz 4; have z5 := fz 5; have z6 := fz 6; have z7 := fz 7
      clear hw fz
      have hbr' := Lib.hid hbr; clear hbr hwd
      have dk : decide ((k : Int) < 64) = true := by simp; omega
      go_wp2_with fail
      refine Lex.wp_region_lex (by kernel_rfl) (by kernel_rfl) ?_
      go_wp2_with fail
      refine Lex.Ends.intro (by kernel_rfl) ?_
      go_wp2_with fail
      refine Lex.wp_region_lexN (fun _ => True) [1, 17, 21] 22 [5] (by kernel_rfl) (by kernel_rfl) (by kernel_rfl) ?_
      simp only [Lex.wpCuts, List.take_succ_cons, List.take_zero, List.drop_succ_cons, List.drop_zero]
      go_wp2_with fail
      refine (mix3_any y4 6 11 25 26 21 7 _ (by kernel_rfl) (by omega) (by omega) (by kernel_rfl) (by omega) (by omega) (by kernel_rfl) (by omega) (by omega) (by omega) (by omega) (by omega) (by omega) (by omega) (by omega) d4.1 d4.2).mono ?_
      rintro e w5 ⟨rfl, rfl⟩
      go_wp2_with fail
      refine Lex.Mid.intro (fun b _ _ => rfl) ?_
      go_wp2_with fail
      refine Lex.EndsN.intro (by kernel_rfl) ?_ ?_
      · refine ⟨⟨trivial, ?_⟩, ⟨trivial, ?_⟩, ⟨trivial, ?_⟩, trivial⟩
        · show (wr.cell? ⟨w4.heap.size, 7, none⟩).isSome = true
          rw [v7]; rfl
        · show (wr.cell? ⟨n + 1, k, none⟩).isSome = true
          rw [k6]; rfl
        · show (wr.cell? ⟨n, k, none⟩).isSome = true
          rw [k5]; rfl
      go_wp2_with fail
      refine (mix3_any y0 2 13 22 30 19 10 _ (by kernel_rfl) (by omega) (by omega) (by kernel_rfl) (by omega) (by omega) (by kernel_rfl) (by omega) (by omega) (by omega) (by omega) (by omega) (by omega) (by omega) (by omega) d0.1 d0.2).mono ?_
      rintro e w5 ⟨rfl, rfl⟩
      go_wp2_with fail
      go_roundw
      case rel =>
        refine ⟨k + 1, by omega, by go_num, ?_, ?_⟩
        · rw [HST.out, Sha.rnd_lit]
          exact (((((((((At.setW HW.out 0 _).setW 1 _).setW 2 _).setW 3 _).setW 4 _).setW 5 _).setW 6 _).setW 7 _).drew).drew
        · exact (Below.drew (Below.drew ((((((((hbr'.out.setCell (p := ⟨w4.heap.size, 0, none⟩) (Nat.le_refl _) _).setCell (p := ⟨w4.heap.size, 1, none⟩) (Nat.le_refl _) _).setCell (p := ⟨w4.heap.size, 2, none⟩) (Nat.le_refl _) _).setCell (p := ⟨w4.heap.size, 3, none⟩) (Nat.le_refl _) _).setCell (p := ⟨w4.heap.size, 4, none⟩) (Nat.le_refl _) _).setCell (p := ⟨w4.heap.size, 5, none⟩) (Nat.le_refl _) _).setCell (p := ⟨w4.heap.size, 6, none⟩) (Nat.le_refl _) _).setCell (p := ⟨w4.heap.size, 7, none⟩) (Nat.le_refl _) _)))
      case measure => simp [intOf]; omega
    · have hk' : k = 64 := by omega
      have HK := Lib.hid hk'; clear hk'
      have dk : decide ((k : Int) < 64) = false := by simp; omega
      have hwz := hwd
      obtain ⟨z0, z1, z2, z3, z4, z5, z6, z7, hz, d0, d1, d2, d3, d4, d5, d6, d7⟩ := hwd.lit
      rw [hz] at hw hwz
      simp only [Sha.row, List.map_cons, List.map_nil] at hw
      have v0 := hw.cell 0; have v1 := hw.cell 1; have v2 := hw.cell 2; have v3 := hw.cell 3; have v4 := hw.cell 4; have v5 := hw.cell 5; have v6 := hw.cell 6; have v7 := hw.cell 7
      simp only [List.getElem?_toArray, List.getElem?_cons_zero, List.getElem?_cons_succ] at v0 v1 v2 v3 v4 v5 v6 v7
      have hff := ff.size
      have fb := FB.out.below hbr (by omega)
      have ffr := ff.trans (hbr.mono (by omega))
      clear hw hwd c0 c1 c2 c3 c4 c5 c6 c7 hbr F5 F6 FB
      have HZ := Lib.hid hz; clear hz
      rw [← hash_lit] at fb
      have FB := Lib.hid fb; clear fb
      have FF := Lib.hid ffr; clear ffr ff
      go_wp2_with fail
      have hl : ([z0, z1, z2, z3, z4, z5, z6, z7] : List Int).length = 8 := rfl
      have hlx : ([x0, x1, x2, x3, x4, x5, x6, x7] : List Int).length = 8 := rfl
      have hzz : (#[.int .u32 z0, .int .u32 z1, .int .u32 z2, .int .u32 z3, .int .u32 z4, .int .u32 z5, .int .u32 z6, .int .u32 z7] : Array Value) = Sha.row [z0, z1, z2, z3, z4, z5, z6, z7] := rfl
      rw [hzz]
      generalize [z0, z1, z2, z3, z4, z5, z6, z7] = zs at *
      obtain ⟨xs, hxs⟩ : ∃ xs, xs = [x0, x1, x2, x3, x4, x5, x6, x7] := ⟨_, rfl⟩
      rw [← hxs] at hv hv0 FB hlx HZ
      have HXS := Lib.hid hxs; clear hxs
      clear hzz
      go_loopw [95] (fun i wr2 => ∃ k : Nat, k ≤ 8 ∧ i = .int .i64 k ∧ At wr2 b 138 (hash (Sha.part xs zs k) r t) ∧ Fr (fun k => k = b) w wr2)
        (fun i _ => 8 - (intOf i).toNat)
      case atStart =>
        exact ⟨0, by omega, rfl, by rw [Sha.part_zero]; exact FB.out, Fr.of_below FF.out⟩
      case round =>
        obtain ⟨k, hk, rfl, hw, hbr⟩ := hrel
        by_cases hk8 : k < 8
        · have dk8 : decide ((k : Int) < 8) = true := by simp; omega
          have hpl := Sha.part_len xs zs hlx hl k hk
          have gk := hw.cell k
          rw [hash_get _ _ _ _ (by omega), Sha.part_get xs zs hlx hl k hk8] at gk
          have fz : wr.frozen? ⟨b, k, none⟩ = false := hw.free k
          have rk : (Sha.row zs)[k]? = some (.int .u32 (zs.getD k 0)) := by
            rw [Sha.row_get, List.getElem?_eq_getElem (by omega), List.getD_eq_getElem?_getD, List.getElem?_eq_getElem (by omega)]
            rfl
          have HW := Lib.hid hw; clear hw
          have HB := Lib.hid hbr; clear hbr
          have HPL := Lib.hid hpl; clear hpl
          have hlz := hl
          go_wp2_with fail
          rw [run_index_array_in 136 112 8 (Sha.row zs) .i64 k _ _ rfl hk8 rk Tryz.sizeOf112 Tryz.isAgg112]
          go_wp2_with fail
          refine Lex.wp_region_lex (by kernel_rfl) (by kernel_rfl) ?_
          go_wp2_with fail
          refine Lex.Ends.intro (by kernel_rfl) ?_
          have hA : ∀ x : Int, x = (xs.getD k 0 + zs.getD k 0) % 4294967296 → At (wr.setCell ⟨b, k, none⟩ (.int .u32 x)) b 138 (hash (Sha.part xs zs (k + 1)) r t) := by
            intro x hx
            rw [← Sha.part_step xs zs hlx hl k hk8, ← hx, ← hash_set _ _ _ _ _ (by rw [HPL.out]; exact hk8)]
            exact HW.out.set k _
          have HA := Lib.hid hA; clear hA
          go_wp2_with fail
          go_roundw
          case rel =>
            refine ⟨k + 1, by omega, by go_num, (HA.out _ ?_).drew, (HB.out.setCell (p := ⟨b, k, none⟩) (Or.inl rfl) _).drew⟩
            simp [List.getD_eq_getElem?_getD, hl, hlx, hk8]
          case measure => simp [intOf]; omega
        · obtain rfl : k = 8 := by omega
          have HW := Lib.hid hw; clear hw
          have HB := Lib.hid hbr; clear hbr
          go_wp2_with fail
          go_end0
          refine ⟨rfl, ?_, HB.out⟩
          have h := HW.out
          rw [Sha.part_end xs zs hlx] at h
          have hz' := HZ.out
          rw [HK.out] at hz'
          rw [← HXS.out, Sha.block, hz']
          exact h
end Go.Proofs.YtjlpdknomdhbhaaGreatDoor
