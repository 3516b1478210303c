/- Small functions of the laws: pages, the reference's New and Few. Conditions: those of each. -/
import Derived.Test.YtfgjjdjaiddllaaDoorJourS
namespace Go.Proofs.YtfgjjdjaiddllaaDoor
set_option linter.unusedVariables false
set_option linter.unusedSimpArgs false
open Go Go.RowKit Go.Maps
theorem results_tmp_cell {fn : Func} {p u : Tmp} {ty : TypeId} (h : fn.results = #[.tmp u, .cell p ty]) (tmps : Array Value) (P : Program) (w : World) :
    (results fn tmps).run P w =
      ((asAddr (tmps.getD p undef)).run P w).andThen fun a w₁ => ((loadVar ty a).run P w₁).andThen fun v w₂ => .ok (.tuple #[tmps.getD u undef, v]) w₂ := by
  simp only [results, h]
  simp [Sem.run_bind, Result.andThen]
theorem info_rDisk : (Tryd.prog.info? 29).map (·.size) = some 2 := by kernel_rfl
/-- The reference's disk as a value. -/
def rDiskV (v p : Value) : Value := .agg #[v, p]
set_option maxRecDepth 100000 in
set_option maxHeartbeats 1000000 in
theorem rNew_any (n : Nat) (w : World) (h1 : 1 ≤ n) (h2 : n ≤ 4096) :
    Calls Tryd.prog 31 #[.int .i64 n] w fun e w' => ∃ v, e = .returned (.tuple #[rDiskV v (.slice none 0 0), .int .i64 0]) ∧ w'.ownsRow w.heap.size 9 1 v n ((List.replicate n (⟨#[]⟩ : ByteArray)).map Value.string) ∧ Below w.heap.size w w' := by
  obtain ⟨i0, hi, hz0, hz1, hz2⟩ := info_parts info_string
  go_enter Tryd.func31, Tryd.ntmps31
  go_wp2_with (at_make; go_must (refine wpList_make_full _ rfl _ _ 22 rfl w.heap.size 9 i0 (.string ⟨#[]⟩) 1 Tryd.underlying22 hi hz0 hz1 .i64 .i64 n n n rfl rfl rfl rfl (by rw [hz2]; omega) (by unfold maxLen; omega) (by simp) ?_); intro w1 how hg; have hat0 : At w1 w.heap.size 29 #[.slice none 0 0, .slice none 0 0] := At.grown (At.new w _ _) hg (by simp); have z0 := hat0.free 0; have z1 := hat0.free 1; have k0 := hat0.cell 0; have k1 := hat0.cell 1; simp only [List.getElem?_toArray, List.getElem?_cons_zero, List.getElem?_cons_succ] at k0 k1; have HOW := Lib.hid how; have HG := Lib.hid hg; have HA := Lib.hid hat0; clear how hg hat0)
  have hrow : (madeCells (Value.string ⟨#[]⟩).cells (n * 1)).toList = (List.replicate n (⟨#[]⟩ : ByteArray)).map Value.string := by
    rw [Nat.mul_one]
    show (madeCells #[Value.string ⟨#[]⟩] n).toList = _
    rw [toList_madeCells_one]
    simp
  have how := HOW.out
  rw [hrow] at how
  have hne : ∀ i : Nat, (Value.slice (some ⟨(w.alloc (.cells #[.slice none 0 0, .slice none 0 0] 29)).heap.size, 0, none⟩) n n).ownBlock ≠ some (⟨w.heap.size, i, none⟩ : Addr).block := by
    intro i e
    simp [Value.ownBlock] at e
  refine bodyPost_ret (v := .tuple #[.agg #[.slice (some ⟨w.heap.size + 1, 0, none⟩) n n, .slice none 0 0], .int .i64 0]) ?_ rfl ⟨_, rfl, ?_, ?_⟩
  · have hset := (HA.out.set 0 (.slice (some ⟨w.heap.size + 1, 0, none⟩) n n)).set 1 (.slice none 0 0)
    rw [results_cell_tmp (p := 2) (u := 3) (ty := 29) rfl]
    simp [asAddr, run_loadVar_row _ w.heap.size 29 29 _ (0, 0) _ hset Tryd.underlying29 rfl info_rDisk]
  · have h2 := ownsRow_setCell_other (ownsRow_setCell_other how (a := ⟨w.heap.size, 0, none⟩) (hne 0) (.slice (some ⟨w.heap.size + 1, 0, none⟩) n n)) (a := ⟨w.heap.size, 1, none⟩) (hne 1) (.slice none 0 0)
    have e : (w.alloc (.cells #[.slice none 0 0, .slice none 0 0] 29)).heap.size = w.heap.size + 1 := by simp
    rw [e] at h2
    exact h2
  · exact ((((Below.refl w.heap.size w).alloc (Nat.le_refl _) _).grown HG.out (by simp) (fun k hk => by cases hk)).setCell (p := ⟨w.heap.size, 0, none⟩) (Nat.le_refl _) _).setCell (p := ⟨w.heap.size, 1, none⟩) (Nat.le_refl _) _
set_option maxRecDepth 100000 in
set_option maxHeartbeats 1000000 in
theorem pages_any (n : Nat) (w : World) (h1 : 1 ≤ n) (h2 : n ≤ 4096) :
    Calls Tryd.prog 10 #[.int .i64 n] w fun e w' => ∃ (d : DiskP) (v : Value), e = .returned (.tuple #[.pointer (some ⟨d.a, 0, none⟩), rDiskV v (.slice none 0 0)]) ∧ DiskAt w' d (.blank n) ∧
      StrsC w' v (List.replicate n ⟨#[]⟩) ∧ Below w.heap.size w w' ∧ ∀ k, d.foot k → w.heap.size ≤ k := by
  go_enter Tryd.func10, Tryd.ntmps10
  go_wp2_with fail
  refine (dNew_any n _ h1 h2).mono ?_
  rintro e w1 ⟨d, rfl, hd, hb1, hfoot⟩
  have HD := Lib.hid hd; have HB := Lib.hid hb1; have HF := Lib.hid hfoot; clear hd hb1 hfoot
  go_wp2_with fail
  refine (rNew_any n _ h1 h2).mono ?_
  rintro e w2 ⟨v, rfl, ho, hb2⟩
  obtain ⟨g, cap, rfl, _⟩ := own_cell ho (by omega)
  have HO := Lib.hid ho; have HB2 := Lib.hid hb2; clear ho hb2
  have hat2 : At w2 w.heap.size 29 #[.slice none 0 0, .slice none 0 0] := ((At.new w 29 _).below HB.out (by simp)).below HB2.out (Nat.lt_of_lt_of_le (by simp) HB.out.size)
  have hlt2 := hat2.lt
  have z0 := (hat2.alloc (.cells #[.slice (some ⟨g, 0, none⟩) n cap, .slice none 0 0] 29)).free 0; have z1 := (hat2.alloc (.cells #[.slice (some ⟨g, 0, none⟩) n cap, .slice none 0 0] 29)).free 1
  have k0 := (hat2.alloc (.cells #[.slice (some ⟨g, 0, none⟩) n cap, .slice none 0 0] 29)).cell 0; have k1 := (hat2.alloc (.cells #[.slice (some ⟨g, 0, none⟩) n cap, .slice none 0 0] 29)).cell 1
  simp only [List.getElem?_toArray, List.getElem?_cons_zero, List.getElem?_cons_succ] at k0 k1
  have y0 := hat2.free 0; have y1 := hat2.free 1; have x0 := hat2.cell 0; have x1 := hat2.cell 1
  simp only [List.getElem?_toArray, List.getElem?_cons_zero, List.getElem?_cons_succ] at x0 x1
  have HA2 := Lib.hid hat2; clear hat2
  unfold rDiskV
  go_wp2_with fail
  refine Lex.wp_region_lex (by kernel_rfl) (by kernel_rfl) ?_
  go_wp2_with fail
  refine Lex.Ends.intro (by kernel_rfl) ?_
  go_wp2_with fail
  have hge : w1.heap.size ≤ g := by
    obtain ⟨_, ⟨h0, _⟩ | ⟨g', cap', cur, hgv, hle, _⟩⟩ := HO.out
    · cases h0
    · cases hgv; exact hle
  have hw01 : w.heap.size < w1.heap.size := Nat.lt_of_lt_of_le (by simp) HB.out.size
  have hne : ∀ i : Nat, (Value.slice (some ⟨g, 0, none⟩) n cap).ownBlock ≠ some (⟨w.heap.size, i, none⟩ : Addr).block := by
    intro i e
    have : g = w.heap.size := by simpa [Value.ownBlock] using e
    omega
  have hset := (((HA2.out.set 0 (.slice (some ⟨g, 0, none⟩) n cap)).set 1 (.slice none 0 0)).alloc (.cells #[.slice (some ⟨g, 0, none⟩) n cap, .slice none 0 0] 29))
  have hfr : Fr (fun k => k = w.heap.size) w2 (((w2.setCell ⟨w.heap.size, 0, none⟩ (.slice (some ⟨g, 0, none⟩) n cap)).setCell ⟨w.heap.size, 1, none⟩ (.slice none 0 0)).alloc (.cells #[.slice (some ⟨g, 0, none⟩) n cap, .slice none 0 0] 29)) :=
    (((Fr.refl (fun k => k = w.heap.size) w2).setCell (p := ⟨w.heap.size, 0, none⟩) (.inl rfl) _).setCell (p := ⟨w.heap.size, 1, none⟩) (.inl rfl) _).alloc _
  have hrows := ((ownsRow_setCell_other (ownsRow_setCell_other HO.out (a := ⟨w.heap.size, 0, none⟩) (hne 0) (.slice (some ⟨g, 0, none⟩) n cap)) (a := ⟨w.heap.size, 1, none⟩) (hne 1) (.slice none 0 0)).alloc (.cells #[.slice (some ⟨g, 0, none⟩) n cap, .slice none 0 0] 29))
  refine bodyPost_ret (v := .tuple #[.pointer (some ⟨d.a, 0, none⟩), .agg #[.slice (some ⟨g, 0, none⟩) n cap, .slice none 0 0]]) ?_ rfl ⟨d, _, rfl, ?_, ?_, ?_, ?_⟩
  · rw [results_tmp_cell (p := 3) (u := 2) (ty := 29) rfl]
    have hset' := hset.drew
    simp [asAddr, run_loadVar_row _ w.heap.size 29 29 _ (0, 0) _ hset' Tryd.underlying29 rfl info_rDisk]
  · refine (HD.out.below HB2.out (Nat.le_refl _)).fr hfr.drew ?_
    rintro k rfl hk
    have := HF.out _ hk
    simp at this
    omega
  · refine StrsC.own (base := w1.heap.size) ?_
    rw [List.length_replicate]
    exact hrows
  · have hb : Below w.heap.size w w2 := (((Below.refl w.heap.size w).alloc (Nat.le_refl _) _).trans (HB.out.mono (by simp))).trans (HB2.out.mono (by omega))
    exact (hb.trans (hfr.below hb.size (fun k hk => by omega))).drew
  · intro k hk
    have := HF.out _ hk
    simp at this
    omega
def total (xs : List ByteArray) : Nat := (xs.map ByteArray.size).sum
def few (xs : List ByteArray) : Bool := decide (xs.length ≤ 16) && decide (total xs ≤ 6000)
theorem total_take (xs : List ByteArray) (k : Nat) (h : k < xs.length) : total (xs.take (k + 1)) = total (xs.take k) + (xs.getD k ⟨#[]⟩).size := by
  unfold total
  rw [List.take_succ_eq_append_getElem h, List.map_append, List.sum_append]
  simp [List.getD_eq_getElem?_getD, h]
theorem total_le (xs : List ByteArray) (hb : ∀ x ∈ xs, x.size ≤ 140737488355328) : total xs ≤ xs.length * 140737488355328 := by
  induction xs with
  | nil => exact Nat.zero_le _
  | cons y l ih =>
    have h1 := ih (fun x hx => hb x (List.mem_cons_of_mem _ hx))
    have h2 := hb y List.mem_cons_self
    unfold total at h1 ⊢
    rw [List.map_cons, List.sum_cons, List.length_cons]
    omega
set_option maxRecDepth 100000 in
set_option maxHeartbeats 2000000 in
theorem few_any (v : Value) (xs : List ByteArray) (w : World) (h : StrsC w v xs) (hb : ∀ x ∈ xs, x.size ≤ 140737488355328) (hl : xs.length ≤ 140737488355328) :
    Calls Tryd.prog 16 #[v] w fun e w' => e = .returned (.bool (few xs)) ∧ w' = w := by
  obtain ⟨a, cp, rfl, hc⟩ := h
  have hsz : ∀ k, k < xs.length → (xs.getD k ⟨#[]⟩).size ≤ 140737488355328 := fun k hk => hb _ (by simp [List.getD_eq_getElem?_getD, hk])
  by_cases h16 : xs.length ≤ 16
  · have htk : ∀ k, total (xs.take k) ≤ 2251799813685248 := by
      intro k
      have h1 := total_le (xs.take k) (fun x hx => hb x (List.mem_of_mem_take hx))
      have h2 : (xs.take k).length ≤ 16 := by rw [List.length_take]; omega
      have := Nat.mul_le_mul_right 140737488355328 h2
      omega
    have HC := Lib.hid hc; have HT := Lib.hid htk; have HS := Lib.hid hsz; clear hc htk hsz hb
    go_enter Tryd.func16, Tryd.ntmps16
    go_wp2_with fail
    go_loopw [3, 4] (fun n i wr => ∃ k : Nat, k ≤ xs.length ∧ n = .int .i64 ((total (xs.take k) : Nat) : Int) ∧ i = .int .i64 k ∧ wr = w) (fun _ i _ => xs.length - (intOf i).toNat)
    case atStart => exact ⟨0, by omega, rfl, rfl, rfl⟩
    case round =>
      obtain ⟨k, hk, rfl, rfl, rfl⟩ := hrel
      have t2 := HT.out k
      by_cases hlt : k < xs.length
      · have dk : decide ((k : Int) < xs.length) = true := by simp; omega
        obtain ⟨b, o, rfl, hc⟩ : ∃ b o, a = some ⟨b, o, none⟩ ∧ ∀ j, j < xs.length → wr.cell? ⟨b, o + j, none⟩ = some (.string (xs.getD j ⟨#[]⟩)) := by
          rcases HC.out with h0 | h0
          · omega
          · exact h0
        have ce := hc k hlt
        have t1 := total_take xs k hlt
        have t3 := HS.out k hlt
        obtain ⟨T, hT⟩ : ∃ T, T = total (xs.take k) := ⟨_, rfl⟩
        obtain ⟨s, hs⟩ : ∃ s, s = xs.getD k ⟨#[]⟩ := ⟨_, rfl⟩
        rw [← hT] at t1 t2 ⊢
        rw [← hs] at t1 t3 ce
        clear HC HT HS
        have HTT := Lib.hid t1; have HX := Lib.hid hc; clear t1 hc hT hs
        go_wp2_with fail
        refine ⟨⟨k + 1, by omega, ?_, by go_num, by first | rfl | trivial⟩, by simp [intOf]; omega⟩
        rw [HTT.out]
        go_num
      · have dk : decide ((k : Int) < xs.length) = false := by simp; omega
        have hk' : k = xs.length := by omega
        subst hk'
        rw [List.take_length] at t2 ⊢
        have d16 : decide ((xs.length : Int) ≤ 16) = true := by simp; omega
        have HHC := Lib.hid HC.out; clear HC HT HS
        by_cases h6 : total xs ≤ 6000
        · have d6 : decide ((total xs : Int) ≤ 6000) = true := by simp; omega
          go_wp2_with fail
          go_ret
          refine ⟨?_, rfl⟩
          unfold few
          simp [h16, h6]
        · have d6 : decide ((total xs : Int) ≤ 6000) = false := by simp; omega
          go_wp2_with fail
          go_ret
          refine ⟨?_, rfl⟩
          unfold few
          simp [h6]
  · have HC := Lib.hid hc; have HS := Lib.hid hsz; clear hc hsz hb
    go_enter Tryd.func16, Tryd.ntmps16
    go_wp2_with fail
    go_loopw [3, 4] (fun n i wr => ∃ (k : Nat) (z : Int), k ≤ xs.length ∧ (-9223372036854775808 ≤ z ∧ z < 9223372036854775808) ∧ n = .int .i64 z ∧ i = .int .i64 k ∧ wr = w) (fun _ i _ => xs.length - (intOf i).toNat)
    case atStart => exact ⟨0, 0, by omega, by omega, rfl, rfl, rfl⟩
    case round =>
      obtain ⟨k, z, hk, hz, rfl, rfl, rfl⟩ := hrel
      by_cases hlt : k < xs.length
      · have dk : decide ((k : Int) < xs.length) = true := by simp; omega
        obtain ⟨b, o, rfl, hc⟩ : ∃ b o, a = some ⟨b, o, none⟩ ∧ ∀ j, j < xs.length → wr.cell? ⟨b, o + j, none⟩ = some (.string (xs.getD j ⟨#[]⟩)) := by
          rcases HC.out with h0 | h0
          · omega
          · exact h0
        have ce := hc k hlt
        have t3 := HS.out k hlt
        obtain ⟨s, hs⟩ : ∃ s, s = xs.getD k ⟨#[]⟩ := ⟨_, rfl⟩
        rw [← hs] at t3 ce
        clear HC HS
        have HX := Lib.hid hc; clear hc hs
        go_wp2_with fail
        refine ⟨⟨k + 1, _, by omega, ?_, rfl, by go_num, by first | rfl | trivial⟩, by simp [intOf]; omega⟩
        unfold wrap64
        omega
      · have dk : decide ((k : Int) < xs.length) = false := by simp; omega
        have hk' : k = xs.length := by omega
        subst hk'
        have d16 : decide ((xs.length : Int) ≤ 16) = false := by simp; omega
        clear HC HS
        go_wp2_with fail
        go_ret
        refine ⟨?_, rfl⟩
        unfold few
        simp [h16]
end Go.Proofs.YtfgjjdjaiddllaaDoor
