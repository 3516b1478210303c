/- The reference's disk: Write. Conditions: the page is one of the disk, the data is a page's. -/
import Derived.Test.YtfgjjdjaiddllaaDoorRefH
import Derived.Laws.AppendOwnNone
namespace Go.Proofs.YtfgjjdjaiddllaaDoor
set_option linter.unusedVariables false
set_option linter.unusedSimpArgs false
open Go Go.RowKit Go.Maps
theorem info_rPending : (Tryd.prog.info? 80).map (fun i => (i.zero, i.size, i.bytes)) = some (some (.agg #[.int .i64 0, .string ⟨#[]⟩]), 2, 24) := by kernel_rfl
theorem pendRow_one (l : List (Nat × ByteArray)) : ∀ u ∈ pendRow l, u.oneCell' = true := by
  intro u hu
  simp only [pendRow, List.mem_flatMap] at hu
  obtain ⟨x, _, hx⟩ := hu
  simp only [List.mem_cons, List.mem_nil_iff, or_false] at hx
  rcases hx with rfl | rfl <;> rfl
/-- An append of pending writes onto a new empty row. -/
theorem wp_append_pend {w : World} {ops : Array Oper} {rest : List Oper} {o : Oper} {a : Act} {Q : Exit → Act → World → Prop} (hgd : o.guard = none) (s x : Operand) (ho : o.op = .call { callee := .builtin .append, args := #[s, x], argTypes := #[27, 27] })
    (base g : Nat) (pv : Value) (l : List (Nat × ByteArray)) (hs : a.eval s = .slice (some ⟨g, 0, none⟩) 0 0) (hg : At w g 80 #[]) (hbg : base ≤ g) (hx : a.eval x = pv) (hp : PendC w pv l) (hl : l.length ≤ 1000000) (hb : base ≤ w.heap.size)
    (h : ∀ v' w', w'.ownsRow base 80 2 v' l.length (pendRow l) → w.grownBy w' (some g) → (∃ b, v'.ownBlock = some b) → wpList Tryd.prog ops Q rest (a.put o.dst v') w') : wpList Tryd.prog ops Q (o :: rest) a w := by
  obtain ⟨i1, hi, hz0, hz1, hz2⟩ := info_parts info_rPending
  have hown : w.ownsRow base 80 2 (.slice (some ⟨g, 0, none⟩) 0 0) 0 [] := ⟨rfl, .inr ⟨g, 0, #[], rfl, hbg, hg, Nat.le_refl _, by decide, rfl, rfl⟩⟩
  obtain ⟨pa, pc, rfl, ⟨h0, rfl, rfl⟩ | ⟨b, rfl, hbl, hc⟩⟩ := hp
  · have hl0 : l = [] := List.eq_nil_of_length_eq_zero h0
    subst hl0
    exact wpList_append_own_none hgd s x 27 ho base 80 i1 2 Tryd.underlying27 hi _ 0 [] hs hown hx (h _ _ hown ⟨rfl, rfl, rfl, Nat.le_refl _, fun _ _ _ => rfl⟩ ⟨g, rfl⟩)
  · refine wpList_append_own w hgd s x 27 ho base 80 i1 (.agg #[.int .i64 0, .string ⟨#[]⟩]) 2 24 Tryd.underlying27 hi hz0 hz1 hz2 rfl (by omega) _ 0 [] hs hown ⟨b, 0, none⟩ l.length pc (pendRow l) hx (pendRow_len l) (fun j u hj => ?_) (pendRow_one l) (by unfold maxLen; omega) (by omega) hb ?_
    · have hadd : (⟨b, 0, none⟩ : Addr).add j = ⟨b, j, none⟩ := by unfold Addr.add; split <;> simp_all
      rw [hadd]
      exact hc j u hj
    · intro v' w' how hgr hnil
      rw [Nat.zero_add, List.nil_append] at how
      refine h v' w' how hgr ?_
      obtain ⟨_, ⟨rfl, _⟩ | ⟨g', cap', cur', rfl, _⟩⟩ := how
      · exact absurd (hnil.1 rfl).1 (by simp)
      · exact ⟨g', rfl⟩
theorem write_done {tmps : Array Value} {w : World} {b : Nat} {v0 v1 : Value} {Q : Ending → World → Prop} (hp : tmps.getD 6 undef = .pointer (some ⟨b, 0, none⟩)) (h7 : tmps.getD 7 undef = .int .i64 0) (hat : At w b 29 #[v0, v1])
    (hq : Q (.returned (.tuple #[.agg #[v0, v1], .int .i64 0])) w) : bodyPost Tryd.prog Tryd.f12 Q Exit.ret { tmps := tmps, defers := [] } w := by
  refine bodyPost_ret (v := .tuple #[.agg #[v0, v1], .int .i64 0]) ?_ rfl hq
  rw [results_cell_tmp (p := 6) (u := 7) (ty := 29) rfl, hp, h7]
  simp [asAddr, run_loadVar_row w b 29 29 _ (0, 0) _ hat Tryd.underlying29 rfl info_rDisk]
theorem At.new1 (w : World) (o : Obj) (t : TypeId) (cs : Array Value) : At ((w.alloc o).alloc (.cells cs t)) (w.heap.size + 1) t cs := by
  have := At.new (w.alloc o) t cs
  rw [World.size_alloc] at this
  exact this
set_option maxRecDepth 100000 in
set_option maxHeartbeats 40000000 in
theorem r50Write_ok (dv pv : Value) (c : DiskC) (p : Nat) (s : ByteArray) (w : World) (hd : StrsC w dv c.durable) (hp : PendC w pv c.pending) (hl : c.pending.length ≤ 1000000) (hn : c.durable.length ≤ 1000000) (hp1 : p < c.durable.length) (hs : s.size = 512) :
    Calls Tryd.prog 12 #[.agg #[dv, pv], .int .i64 p, .string s] w fun e w' => ∃ v, e = .returned (.tuple #[.agg #[dv, v], .int .i64 0]) ∧ PendC w' v (c.pending ++ [(p, s)]) ∧ Below w.heap.size w w' ∧ ∀ k, v.ownBlock = some k → w.heap.size ≤ k := by
  obtain ⟨da, dc, rfl⟩ := hd.len
  obtain ⟨pa, pc, hpe, hpc⟩ := hp
  have hpp : PendC w pv c.pending := ⟨pa, pc, hpe, hpc⟩
  subst hpe
  obtain ⟨w1, hw1⟩ : ∃ x, x = (w.alloc (.cells #[.slice da c.durable.length dc, .slice pa c.pending.length pc] 29)).alloc (.cells #[.slice none 0 0, .slice none 0 0] 29) := ⟨_, rfl⟩
  have t0 : At w1 w.heap.size 29 #[.slice da c.durable.length dc, .slice pa c.pending.length pc] := by rw [hw1]; exact heap_alloc2_old w _ _
  have t1 : At w1 (w.heap.size + 1) 29 #[.slice none 0 0, .slice none 0 0] := by rw [hw1]; exact heap_alloc2_new w _ _
  have hbw : Below w.heap.size w w1 := by rw [hw1]; exact ((Below.refl _ _).alloc (Nat.le_refl _) _).alloc (by simp) _
  have hsz : w1.heap.size = w.heap.size + 2 := by rw [hw1]; simp
  have hpn : PendC w1 (.slice pa c.pending.length pc) c.pending := hpp.below hbw
  have hlen : (c.pending ++ [(p, s)]).length = c.pending.length + 1 := by rw [List.length_append]; rfl
  have T0 := Lib.hid t0; have T1 := Lib.hid t1; have HBW := Lib.hid hbw; have HSZ := Lib.hid hsz; have HPN := Lib.hid hpn; have HW1 := Lib.hid hw1; have HLEN := Lib.hid hlen
  have k0 := t0.cell 0; have k1 := t0.cell 1
  simp only [List.getElem?_toArray, List.getElem?_cons_zero, List.getElem?_cons_succ] at k0 k1
  clear t0 t1 hbw hpn hw1 hd hpc hpp hsz hlen
  have hG : w.heap.size < w1.heap.size := by have := HSZ.out; omega
  have hG1 : w.heap.size + 1 < w1.heap.size := by have := HSZ.out; omega
  obtain ⟨i1, hi, hz0, hz1, hz2⟩ := info_parts info_rPending
  have d1 : decide ((p : Int) < 0) = false := by simp
  have d2 : decide ((c.durable.length : Int) ≤ p) = false := by simp; omega
  go_enter Tryd.func12, Tryd.ntmps12
  go_wp2_with fail
  rw [← HW1.out]
  refine Lex.wp_region_treeV [1, 2, 4, 5, 9, 10, 12]
    [0, 1, 0, 0, 8, 28, 0, 0, 192, 448, 1020, 2047, 4095, 8191] [0, 3, 6, 7, 8]
    (.alt 1 [] (.alt 2 [] (.alt 4 [] (.alt 5 [] (.alt 9 [] (.alt 10 [11] (.alt 12 [13] .nil .nil) .nil) .nil) (.alt 9 [] (.alt 5 [] (.alt 10 [11] (.alt 12 [13] .nil .nil) .nil) .nil) .nil)) (.alt 9 [] (.alt 4 [] (.alt 5 [] (.alt 10 [11] (.alt 12 [13] .nil .nil) .nil) .nil) .nil) .nil)) (.alt 4 [] (.alt 2 [] (.alt 5 [] (.alt 9 [] (.alt 10 [11] (.alt 12 [13] .nil .nil) .nil) .nil) (.alt 9 [] (.alt 5 [] (.alt 10 [11] (.alt 12 [13] .nil .nil) .nil) .nil) .nil)) (.alt 9 [] (.alt 2 [] (.alt 5 [] (.alt 10 [11] (.alt 12 [13] .nil .nil) .nil) .nil) .nil) .nil)) (.alt 9 [] (.alt 2 [] (.alt 4 [] (.alt 5 [] (.alt 10 [11] (.alt 12 [13] .nil .nil) .nil) .nil) .nil) (.alt 4 [] (.alt 2 [] (.alt 5 [] (.alt 10 [11] (.alt 12 [13] .nil .nil) .nil) .nil) .nil) .nil)) .nil))) (.alt 2 [] (.alt 1 [] (.alt 4 [] (.alt 5 [] (.alt 9 [] (.alt 10 [11] (.alt 12 [13] .nil .nil) .nil) .nil) (.alt 9 [] (.alt 5 [] (.alt 10 [11] (.alt 12 [13] .nil .nil) .nil) .nil) .nil)) (.alt 9 [] (.alt 4 [] (.alt 5 [] (.alt 10 [11] (.alt 12 [13] .nil .nil) .nil) .nil) .nil) .nil)) (.alt 4 [] (.alt 1 [] (.alt 5 [] (.alt 9 [] (.alt 10 [11] (.alt 12 [13] .nil .nil) .nil) .nil) (.alt 9 [] (.alt 5 [] (.alt 10 [11] (.alt 12 [13] .nil .nil) .nil) .nil) .nil)) (.alt 5 [] (.alt 1 [] (.alt 9 [] (.alt 10 [11] (.alt 12 [13] .nil .nil) .nil) .nil) (.alt 9 [] (.alt 1 [] (.alt 10 [11] (.alt 12 [13] .nil .nil) .nil) (.alt 10 [] (.alt 1 [11] (.alt 12 [13] .nil .nil) .nil) .nil)) .nil)) (.alt 9 [] (.alt 1 [] (.alt 5 [] (.alt 10 [11] (.alt 12 [13] .nil .nil) .nil) .nil) (.alt 5 [] (.alt 1 [] (.alt 10 [11] (.alt 12 [13] .nil .nil) .nil) (.alt 10 [] (.alt 1 [11] (.alt 12 [13] .nil .nil) .nil) .nil)) .nil)) .nil))) (.alt 9 [] (.alt 1 [] (.alt 4 [] (.alt 5 [] (.alt 10 [11] (.alt 12 [13] .nil .nil) .nil) .nil) .nil) (.alt 4 [] (.alt 1 [] (.alt 5 [] (.alt 10 [11] (.alt 12 [13] .nil .nil) .nil) .nil) (.alt 5 [] (.alt 1 [] (.alt 10 [11] (.alt 12 [13] .nil .nil) .nil) (.alt 10 [] (.alt 1 [11] (.alt 12 [13] .nil .nil) .nil) .nil)) .nil)) .nil)) .nil))) (.alt 4 [] (.alt 1 [] (.alt 2 [] (.alt 5 [] (.alt 9 [] (.alt 10 [11] (.alt 12 [13] .nil .nil) .nil) .nil) (.alt 9 [] (.alt 5 [] (.alt 10 [11] (.alt 12 [13] .nil .nil) .nil) .nil) .nil)) (.alt 9 [] (.alt 2 [] (.alt 5 [] (.alt 10 [11] (.alt 12 [13] .nil .nil) .nil) .nil) .nil) .nil)) (.alt 2 [] (.alt 1 [] (.alt 5 [] (.alt 9 [] (.alt 10 [11] (.alt 12 [13] .nil .nil) .nil) .nil) (.alt 9 [] (.alt 5 [] (.alt 10 [11] (.alt 12 [13] .nil .nil) .nil) .nil) .nil)) (.alt 5 [] (.alt 1 [] (.alt 9 [] (.alt 10 [11] (.alt 12 [13] .nil .nil) .nil) .nil) (.alt 9 [] (.alt 1 [] (.alt 10 [11] (.alt 12 [13] .nil .nil) .nil) (.alt 10 [] (.alt 1 [11] (.alt 12 [13] .nil .nil) .nil) .nil)) .nil)) (.alt 9 [] (.alt 1 [] (.alt 5 [] (.alt 10 [11] (.alt 12 [13] .nil .nil) .nil) .nil) (.alt 5 [] (.alt 1 [] (.alt 10 [11] (.alt 12 [13] .nil .nil) .nil) (.alt 10 [] (.alt 1 [11] (.alt 12 [13] .nil .nil) .nil) .nil)) .nil)) .nil))) (.alt 9 [] (.alt 1 [] (.alt 2 [] (.alt 5 [] (.alt 10 [11] (.alt 12 [13] .nil .nil) .nil) .nil) .nil) (.alt 2 [] (.alt 1 [] (.alt 5 [] (.alt 10 [11] (.alt 12 [13] .nil .nil) .nil) .nil) (.alt 5 [] (.alt 1 [] (.alt 10 [11] (.alt 12 [13] .nil .nil) .nil) (.alt 10 [] (.alt 1 [11] (.alt 12 [13] .nil .nil) .nil) .nil)) .nil)) .nil)) .nil))) (.alt 9 [] (.alt 1 [] (.alt 2 [] (.alt 4 [] (.alt 5 [] (.alt 10 [11] (.alt 12 [13] .nil .nil) .nil) .nil) .nil) (.alt 4 [] (.alt 2 [] (.alt 5 [] (.alt 10 [11] (.alt 12 [13] .nil .nil) .nil) .nil) .nil) .nil)) (.alt 2 [] (.alt 1 [] (.alt 4 [] (.alt 5 [] (.alt 10 [11] (.alt 12 [13] .nil .nil) .nil) .nil) .nil) (.alt 4 [] (.alt 1 [] (.alt 5 [] (.alt 10 [11] (.alt 12 [13] .nil .nil) .nil) .nil) (.alt 5 [] (.alt 1 [] (.alt 10 [11] (.alt 12 [13] .nil .nil) .nil) (.alt 10 [] (.alt 1 [11] (.alt 12 [13] .nil .nil) .nil) .nil)) .nil)) .nil)) (.alt 4 [] (.alt 1 [] (.alt 2 [] (.alt 5 [] (.alt 10 [11] (.alt 12 [13] .nil .nil) .nil) .nil) .nil) (.alt 2 [] (.alt 1 [] (.alt 5 [] (.alt 10 [11] (.alt 12 [13] .nil .nil) .nil) .nil) (.alt 5 [] (.alt 1 [] (.alt 10 [11] (.alt 12 [13] .nil .nil) .nil) (.alt 10 [] (.alt 1 [11] (.alt 12 [13] .nil .nil) .nil) .nil)) .nil)) .nil)) .nil))) .nil))))
    (by kernel_rfl) (by kernel_rfl) (by kernel_rfl) ?_
  intro ops E hE
  have HE := Lib.hid hE; clear hE
  simp only [Lex.pick, List.filterMap_cons, List.filterMap_nil, List.getElem?_cons_succ, List.getElem?_cons_zero]
  go_wp2_with fail
  refine Lex.Mid.intro trivial ?_
  have b1 : ∀ o, Below w1.heap.size w1 (w1.alloc o).drew := fun o => ((Below.refl w1.heap.size w1).alloc (Nat.le_refl _) o).drew
  have b2 : ∀ o o', Below w1.heap.size w1 ((w1.alloc o).alloc o').drew := fun o o' => (((Below.refl w1.heap.size w1).alloc (Nat.le_refl _) o).alloc (by simp) o').drew
  have q0 : ∀ o, (w1.alloc o).cell? ⟨w.heap.size, 0, none⟩ = some (.slice da c.durable.length dc) := fun o => ((b1 o).cell (p := ⟨w.heap.size, 0, none⟩) hG).trans k0
  have q1 : ∀ o, (w1.alloc o).cell? ⟨w.heap.size, 1, none⟩ = some (.slice pa c.pending.length pc) := fun o => ((b1 o).cell (p := ⟨w.heap.size, 1, none⟩) hG).trans k1
  have r0 : ∀ o o', ((w1.alloc o).alloc o').cell? ⟨w.heap.size, 0, none⟩ = some (.slice da c.durable.length dc) := fun o o' => ((b2 o o').cell (p := ⟨w.heap.size, 0, none⟩) hG).trans k0
  have r1 : ∀ o o', ((w1.alloc o).alloc o').cell? ⟨w.heap.size, 1, none⟩ = some (.slice pa c.pending.length pc) := fun o o' => ((b2 o o').cell (p := ⟨w.heap.size, 1, none⟩) hG).trans k1
  have B1 := Lib.hid b1; have B2 := Lib.hid b2; clear b1 b2
  iterate 60 (try any_goals (first
    | exact Lex.runV_done
    | (refine Lex.runV_alt ?_ ?_)
    | (refine Lex.runV_end (HE.out _ _ (by kernel_rfl) ?_)
       go_wp2_with fail
       refine write_done rfl rfl ((HR10.out.set 0 _).set 1 _) ⟨_, rfl, ?_, ?_, fun i hi => by have h1 := own_up H10.out i hi; omega⟩
       · refine PendC.own (base := w1.heap.size) ?_
         rw [HLEN.out, pendRow_snoc]
         exact own_keep H10.out (fun i hi => by have h1 := own_up H10.out i hi; rw [heap_setCell_other _ _ _ _ (show i ≠ w.heap.size + 1 by omega), heap_setCell_other _ _ _ _ (show i ≠ w.heap.size + 1 by omega)])
       · exact ((HBW.out.trans (G10.out.mono HBW.out.size)).setCell (p := ⟨w.heap.size + 1, 0, none⟩) (by simp) _).setCell (p := ⟨w.heap.size + 1, 1, none⟩) (by simp) _)
    | (refine Lex.Mid.intro trivial ?_)
    | (simp only [Lex.pick, List.filterMap_cons, List.filterMap_nil, List.getElem?_cons_succ, List.getElem?_cons_zero]
       first
        | (
          refine wp_append_pend rfl _ _ rfl w1.heap.size _ _ c.pending rfl ?g1 ?g2 rfl ?g3 hl ?g4 ?_
          case g1 => first | exact (At.new w1 _ _).drew | exact ((At.new w1 _ _).alloc _).drew | exact (At.new1 w1 _ _ _).drew
          case g2 => first | exact Nat.le_refl _ | exact Nat.le_succ _
          case g3 => exact PendC.below HPN.out (by first | exact B1.out _ | exact B2.out _ _)
          case g4 => first | exact (B1.out _).size | exact (B2.out _ _).size
          intro v5 w5 how5 hg5 _
          have hb5 : Below w1.heap.size w1 w5 := (by first | exact (B1.out _).grown hg5 (B1.out _).size (fun i hi => by simp at hi; omega) | exact (B2.out _ _).grown hg5 (B2.out _ _).size (fun i hi => by simp at hi; omega))
          have s0 := (hb5.cell (p := ⟨w.heap.size, 0, none⟩) hG).trans k0
          have s1 := (hb5.cell (p := ⟨w.heap.size, 1, none⟩) hG).trans k1
          have hl5 : w.heap.size < w5.heap.size := Nat.lt_of_lt_of_le hG hb5.size
          have u0 : ∀ o, (w5.alloc o).cell? ⟨w.heap.size, 0, none⟩ = some (.slice da c.durable.length dc) := (fun o => (((Below.refl w5.heap.size w5).alloc (Nat.le_refl _) o).cell (p := ⟨w.heap.size, 0, none⟩) hl5).trans s0)
          (try (have a9 : At w5 (w1.heap.size + 1) 80 #[.int .i64 p, .string s] := At.grown (At.new1 w1 _ _ _).drew hg5 (by simp); have A9 := Lib.hid a9; clear a9))
          (try (have a9 : At w5 w1.heap.size 80 #[.int .i64 p, .string s] := At.grown ((At.new w1 _ _).alloc _).drew hg5 (by simp); have A9 := Lib.hid a9; clear a9))
          have H5 := Lib.hid how5; have G5 := Lib.hid hb5; clear how5 hg5 hb5
          go_wp2_with fail)
        | (
          refine wpList_append_own_at _ rfl _ _ 27 rfl w1.heap.size 80 i1 _ 2 24 Tryd.underlying27 hi hz0 hz1 hz2 rfl (by omega) _ c.pending.length (pendRow c.pending) rfl ?h1 ⟨_, 0, none⟩ 1 1 [.int .i64 p, .string s] rfl rfl ?c1 ?c2 ?c3 ?c4 ?c5 ?_
          case h1 => first | exact H5.out.alloc _ | exact H5.out
          case c1 =>
            intro j u hj
            match j, hj with
            | 0, hj => first | (simp at hj; subst hj; exact (At.new w5 _ _).cell 0) | (simp at hj; subst hj; exact A9.out.cell 0)
            | 1, hj => first | (simp at hj; subst hj; exact (At.new w5 _ _).cell 1) | (simp at hj; subst hj; exact A9.out.cell 1)
          case c2 => intro u hu; simp at hu; rcases hu with rfl | rfl <;> rfl
          case c3 => unfold maxLen; omega
          case c4 => omega
          case c5 => first | exact G5.out.size | exact Nat.le_trans G5.out.size (by simp)
          intro v10 w10 how10 hg10 _ _
          have hb10 : Below w1.heap.size w1 w10 := (by first | exact below_own G5.out G5.out.size H5.out hg10 | exact below_own (G5.out.alloc G5.out.size _) (Nat.le_trans G5.out.size (by simp)) H5.out hg10)
          obtain ⟨ta, tn, tc, rfl⟩ := own_slice how10
          have v0 := (hb10.cell (p := ⟨w.heap.size, 0, none⟩) hG).trans k0
          have hr10 := T1.out.below hb10 hG1
          have y0 := hr10.cell 0; have y1 := hr10.cell 1; have z0 := hr10.free 0; have z1 := hr10.free 1
          simp only [List.getElem?_toArray, List.getElem?_cons_zero, List.getElem?_cons_succ] at y0 y1
          have HR10 := Lib.hid hr10; have H10 := Lib.hid how10; have G10 := Lib.hid hb10; clear how10 hg10 hb10 hr10
          go_wp2_with fail)
        | go_wp2_with fail)))
end Go.Proofs.YtfgjjdjaiddllaaDoor
