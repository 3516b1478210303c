/- A disk of the program records and takes writes. Condition: fewer than a million are pending or recorded. -/
import Derived.Test.YtfgjjdjaiddllaaDoorDiskA
import Derived.WalkLawsBesides
import Derived.WalkSpells
namespace Go.Proofs.YtfgjjdjaiddllaaDoor
set_option linter.unusedVariables false
set_option linter.unusedSimpArgs false
open Go Go.RowKit Go.Maps
/-- A step of a disk: what it holds then, and that nothing but its own parts turned. -/
structure DStep (w w' : World) (d d' : DiskP) (c' : DiskC) : Prop where
  at_ : DiskAt w' d' c'
  a : d'.a = d.a
  bd : d'.bd = d.bd
  mp : d'.mp = d.mp
  foot : ∀ k, d'.foot k → d.foot k ∨ w.heap.size ≤ k
  fr : Fr d.foot w w'
theorem DStep.trans {w w1 w2 : World} {d d1 d2 : DiskP} {c1 c2 : DiskC} (h : DStep w w1 d d1 c1) (k : DStep w1 w2 d1 d2 c2) : DStep w w2 d d2 c2 := by
  refine ⟨k.at_, k.a.trans h.a, k.bd.trans h.bd, k.mp.trans h.mp, fun j hj => ?_, h.fr.trans k.fr h.foot⟩
  rcases k.foot j hj with h1 | h1
  · exact h.foot j h1
  · exact .inr (Nat.le_trans h.fr.size h1)
theorem DStep.refl {w : World} {d : DiskP} {c : DiskC} (h : DiskAt w d c) : DStep w w d d c := ⟨h, rfl, rfl, rfl, fun _ hk => .inl hk, Fr.refl _ _⟩
/-- Another thing apart from the disk stays apart. -/
theorem DStep.apart {w w' : World} {d d' : DiskP} {c' : DiskC} (h : DStep w w' d d' c') {G : Nat → Prop} (hG : ∀ k, G k → k < w.heap.size ∧ ¬ d.foot k) : ∀ k, G k → ¬ d'.foot k := fun k hk hf => by
  rcases h.foot k hf with h1 | h1
  · exact (hG k hk).2 h1
  · exact absurd (hG k hk).1 (by omega)
theorem DiskAt.a_bd {w : World} {d : DiskP} {c : DiskC} (h : DiskAt w d c) : d.a ≠ d.bd := h.self.ne h.rows (by decide)
theorem DiskAt.a_mp {w : World} {d : DiskP} {c : DiskC} (h : DiskAt w d c) : d.a ≠ d.mp := by obtain ⟨D, n, hm, _⟩ := h.latest; exact h.self.ne_map hm
theorem DiskAt.bd_mp {w : World} {d : DiskP} {c : DiskC} (h : DiskAt w d c) : d.bd ≠ d.mp := by obtain ⟨D, n, hm, _⟩ := h.latest; exact h.rows.ne_map hm
theorem DiskAt.a_pv {w : World} {d : DiskP} {c : DiskC} (h : DiskAt w d c) : d.pv.ownBlock ≠ some d.a := h.self.own_ne h.pend (by decide)
theorem DiskAt.a_rv {w : World} {d : DiskP} {c : DiskC} (h : DiskAt w d c) : d.rv.ownBlock ≠ some d.a := h.self.own_ne h.recd (by decide)
theorem info_PageOp : (Tryd.prog.info? 64).map (fun i => (i.zero, i.size, i.bytes)) = some (some (.agg #[.int .i64 0, .string ⟨#[]⟩, .bool false]), 3, 32) := by kernel_rfl
theorem info_write : (Tryd.prog.info? 77).map (fun i => (i.zero, i.size, i.bytes)) = some (some (.agg #[.int .i64 0, .string ⟨#[]⟩]), 2, 24) := by kernel_rfl
theorem oCells_snoc (l : List POp) (x : POp) : oCells (l ++ [x]) = oCells l ++ [.int .i64 x.page, .string x.data, .bool x.sync] := by simp [oCells]
theorem wCells_snoc (l : List (Nat × ByteArray)) (x : Nat × ByteArray) : wCells (l ++ [x]) = wCells l ++ [.int .i64 (x.1 : Int), .string x.2] := by simp [wCells]
def DiskC.note (c : DiskC) (o : POp) : DiskC := if c.recording then { c with recorded := c.recorded ++ [o] } else c
theorem DiskAt.noted {w w1 w' : World} {d : DiskP} {c : DiskC} {v' : Value} {o : POp} (h : DiskAt w d c) (hw1 : Below w.heap.size w w1) (hg : w1.grownBy w' d.rv.ownBlock)
    (how : w'.ownsRow 0 64 3 v' (c.recorded ++ [o]).length (oCells (c.recorded ++ [o]))) (hb : v'.ownBlock = d.rv.ownBlock ∨ ∃ g, v'.ownBlock = some g ∧ w.heap.size ≤ g) :
    DStep w (w'.setCell ⟨d.a, 4, none⟩ v') d { d with rv := v' } { c with recorded := c.recorded ++ [o] } := by
  have h1 := h.below hw1 (Nat.le_refl _)
  have hs := At.grown h1.self hg (by intro e; exact h1.a_rv e.symm)
  have hr := At.grown h1.rows hg (by intro e; exact (h1.rows.own_ne h1.recd (by decide)) e.symm)
  obtain ⟨D, n, hm, hn, hl⟩ := h1.latest
  have hm' := hm.kept hg (by intro e; obtain ⟨cur, hc⟩ := own_at h1.recd e.symm; exact hc.ne_map hm rfl)
  have hp := own_keep (w' := w') h1.pend (fun k hk => hg.block k (by obtain ⟨cur, hc⟩ := own_at h1.pend hk; exact hc.lt) (by
    intro e
    obtain ⟨cur, hc⟩ := own_at h1.pend hk
    obtain ⟨cur', hc'⟩ := own_at h1.recd e.symm
    exact hc.ne hc' (by decide) rfl))
  have hs' := hs.set 4 v'
  have hav : v'.ownBlock ≠ some d.a := hs.own_ne how (by decide)
  refine ⟨⟨hs', hr.far (Ne.symm h.a_bd) _, ?_, ?_, ⟨D, n, map_keep hm' (heap_setCell_other _ _ _ _ (Ne.symm h.a_mp)), hn, hl⟩, h.pos, h.most, h.inside⟩, rfl, rfl, rfl, ?_, ?_⟩
  · exact ownsRow_setCell_other hp (by intro e; exact h1.a_pv e) _
  · exact ownsRow_setCell_other how (by intro e; exact hav e) _
  · intro k hk
    rcases hk with rfl | rfl | rfl | hk | hk
    · exact .inl (.inl rfl)
    · exact .inl (.inr (.inl rfl))
    · exact .inl (.inr (.inr (.inl rfl)))
    · exact .inl (.inr (.inr (.inr (.inl hk))))
    · rcases hb with hb | ⟨g, hb, hgl⟩
      · exact .inl (.inr (.inr (.inr (.inr (hb.symm.trans hk)))))
      · have : g = k := by rw [hb] at hk; simpa using hk
        exact .inr (by omega)
  · exact ((Fr.of_below hw1).trans (Fr.grown (Fr.refl (fun k => d.rv.ownBlock = some k) w1) hg (fun k hk => .inl hk)) (fun k hk => .inl (.inr (.inr (.inr (.inr hk)))))).setCell (.inl (.inl rfl)) _
set_option maxRecDepth 100000 in
set_option maxHeartbeats 1000000 in
theorem record_any (d : DiskP) (c : DiskC) (o : POp) (w : World) (hr : c.recorded.length ≤ 1000000) (h : DiskAt w d c) :
    Calls Tryd.prog 33 #[.pointer (some ⟨d.a, 0, none⟩), .agg #[.int .i64 o.page, .string o.data, .bool o.sync]] w fun e w' => e = .returned (.tuple #[]) ∧ ∃ d', DStep w w' d d' (c.note o) := by
  have h3 := h.self.cell 3; have h4 := h.self.cell 4
  simp only [List.getElem?_toArray, List.getElem?_cons_zero, List.getElem?_cons_succ] at h3 h4
  have ha := h.self.lt
  have H := Lib.hid h; clear h
  cases hc : c.recording with
  | false =>
    have e : c.note o = c := by unfold DiskC.note; simp [hc]
    have HE := Lib.hid e; clear e
    rw [hc] at h3
    clear hc
    go_enter Tryd.func33, Tryd.ntmps33
    go_wp2_with fail
    go_end0
    refine ⟨rfl, d, ?_⟩
    rw [HE.out]
    exact ⟨H.out.below ((Below.refl _ _).alloc (Nat.le_refl _) _) (Nat.le_refl _), rfl, rfl, rfl, fun _ hk => .inl hk, (Fr.refl _ _).alloc _⟩
  | true =>
    rw [hc] at h3
    have e : c.note o = { c with recorded := c.recorded ++ [o] } := by unfold DiskC.note; simp [hc]
    have HE := Lib.hid e; clear e
    obtain ⟨i0, hi, hz0, hz1, hz2⟩ := info_parts info_PageOp
    have hne := H.out.a_rv
    have hrecd := H.out.recd
    have HRC := Lib.hid hrecd; clear hrecd
    have HC := Lib.hid hc; clear hc
    go_enter Tryd.func33, Tryd.ntmps33
    go_wp2_with fail
    refine Lex.wp_region_lex (by kernel_rfl) (by kernel_rfl) ?_
    go_wp2_with (at_builtin; go_must (refine wpList_append_own_at _ rfl _ _ 58 rfl 0 64 i0 _ 3 32 Tryd.underlying58 hi hz0 hz1 hz2 rfl (by omega) d.rv c.recorded.length (oCells c.recorded) rfl ((HRC.out.alloc _).drew.alloc _) ⟨w.heap.size + 1, 0, none⟩ 1 1 [.int .i64 o.page, .string o.data, .bool o.sync] rfl rfl ?c1 ?c2 ?c3 ?c4 ?c5 ?_))
    case c1 =>
      intro j u hj
      match j, hj with
      | 0, hj => simp at hj; subst hj; simp [Addr.add]
      | 1, hj => simp at hj; subst hj; simp [Addr.add]
      | 2, hj => simp at hj; subst hj; simp [Addr.add]
    case c2 => intro u hu; simp at hu; rcases hu with rfl | rfl | rfl <;> rfl
    case c3 => unfold maxLen; omega
    case c4 => omega
    case c5 => omega
    intro v' w' how' hg _ hb'
    have hw1 : Below w.heap.size w ((w.alloc (.cells #[.int .i64 o.page, .string o.data, .bool o.sync] 64)).alloc (.cells #[.int .i64 o.page, .string o.data, .bool o.sync] 64)).drew := (((Below.refl w.heap.size w).alloc (Nat.le_refl _) _).alloc (by rw [World.size_alloc]; omega) _).drew
    have hst := H.out.noted (o := o) hw1 hg (by rw [oCells_snoc, List.length_append]; exact how') (hb'.imp id (fun h => ⟨w.heap.size + 1 + 1, h, by omega⟩))
    obtain ⟨g, cap, rfl, _⟩ := own_cell how' (by omega)
    have hf4 : w'.frozen? ⟨d.a, 4, none⟩ = false := (At.grown ((((H.out.self).alloc _).alloc _).drew) hg (by intro e; exact hne e.symm)).free 4
    have h4' : (w'.cell? ⟨d.a, 4, none⟩) = some d.rv := ((At.grown ((((H.out.self).alloc _).alloc _).drew) hg (by intro e; exact hne e.symm)).cell 4)
    have HS := Lib.hid hst; clear how' hg hb' hw1 hst
    go_wp2_with fail
    refine Lex.Ends.intro (by kernel_rfl) ?_
    go_wp2_with fail
    go_end0
    refine ⟨rfl, { d with rv := .slice (some ⟨g, 0, none⟩) (c.recorded.length + 1) cap }, ?_⟩
    rw [HE.out]
    exact HS.out
theorem lastIdx_snoc (s : ByteArray) (p q : Nat) : ∀ l : List (Nat × ByteArray), lastIdx (l ++ [(p, s)]) q = if p = q then some l.length else lastIdx l q
  | [] => by simp [lastIdx]
  | x :: l => by
    rw [List.cons_append, lastIdx, lastIdx_snoc s p q l]
    by_cases hpq : p = q
    · rw [if_pos hpq, if_pos hpq]; simp
    · rw [if_neg hpq, if_neg hpq]; rfl
theorem latest_put {D : DataW Unit} {l : List (Nat × ByteArray)} (h : latestOK D l) (p : Nat) (s : ByteArray) : latestOK (D.put (.int .i64 p) (.lit (.int .i64 (l.length : Int)))) (l ++ [(p, s)]) := by
  refine ⟨h.1.put _ _, fun q => ?_⟩
  rw [lastIdx_snoc]
  by_cases hpq : p = q
  · subst hpq
    rw [if_pos rfl]
    exact ⟨has_put_same h.1 (by trivial) _, fun z => atKey_put_same h.1 (by trivial) _ z⟩
  · rw [if_neg hpq]
    have hne : (Lit.int .i64 (q : Int)) ≠ Lit.int .i64 (p : Int) := by
      intro e
      simp at e
      omega
    have h2 := h.2 q
    cases hq : lastIdx l q with
    | some i =>
      rw [hq] at h2
      exact ⟨by rw [has_put_other hne]; exact h2.1, fun z => by rw [atKey_put_other hne]; exact h2.2 z⟩
    | none =>
      rw [hq] at h2
      show has _ _ = false
      rw [has_put_other hne]
      exact h2
theorem DiskAt.wrote {w w1 w2 w3 : World} {d : DiskP} {c : DiskC} {v' : Value} {p n : Nat} {s : ByteArray} {D : DataW Unit} (h : DiskAt w d c) (hg1 : w.grownBy w1 (some d.mp)) (hb : Below w1.heap.size w1 w2) (hg2 : w2.grownBy w3 d.pv.ownBlock)
    (hm : w1.ownsMap Tryd.prog 3 (plainElem Tryd.prog 3) d.mp (n + 1) (D.put (.int .i64 p) (.lit (.int .i64 (c.pending.length : Int))))) (hn : n ≤ c.pending.length) (hl : latestOK D c.pending) (hp : p < c.durable.length)
    (how : w3.ownsRow 0 77 2 v' (c.pending ++ [(p, s)]).length (wCells (c.pending ++ [(p, s)]))) (hv : v'.ownBlock = d.pv.ownBlock ∨ ∃ g, v'.ownBlock = some g ∧ w.heap.size ≤ g) :
    DStep w (w3.setCell ⟨d.a, 1, none⟩ v') d { d with pv := v' } { c with pending := c.pending ++ [(p, s)] } := by
  have hs1 := At.grown h.self hg1 (by intro e; exact h.a_mp (by simpa using e))
  have hr1 := At.grown h.rows hg1 (by intro e; exact h.bd_mp (by simpa using e))
  have hmp : ∀ {t e size m v xs}, t ≠ e → w.ownsRow 0 e size v m xs → v.ownBlock ≠ some d.mp := by
    intro t e size m v xs _ ho he
    obtain ⟨cur, hc⟩ := own_at ho he
    obtain ⟨D0, n0, hm0, _⟩ := h.latest
    exact hc.ne_map hm0 rfl
  have hp1 := own_keep (w' := w1) h.pend (fun k hk => hg1.block k (by obtain ⟨cur, hc⟩ := own_at h.pend hk; exact hc.lt) (by
    intro e
    exact hmp (t := 0) (e := 77) (by decide) h.pend (hk.trans e)))
  have hc1 := own_keep (w' := w1) h.recd (fun k hk => hg1.block k (by obtain ⟨cur, hc⟩ := own_at h.recd hk; exact hc.lt) (by
    intro e
    exact hmp (t := 0) (e := 64) (by decide) h.recd (hk.trans e)))
  have hs2 := hs1.below hb hs1.lt
  have hr2 := hr1.below hb hr1.lt
  have hm2 := map_keep hm (hb.block _ hm.lt)
  have hp2 := own_keep (w' := w2) hp1 (fun k hk => hb.block k (by obtain ⟨cur, hc⟩ := own_at hp1 hk; exact hc.lt))
  have hc2 := own_keep (w' := w2) hc1 (fun k hk => hb.block k (by obtain ⟨cur, hc⟩ := own_at hc1 hk; exact hc.lt))
  have hs3 := At.grown hs2 hg2 (by intro e; exact h.a_pv e.symm)
  have hr3 := At.grown hr2 hg2 (by intro e; exact (hr2.own_ne hp2 (by decide)) e.symm)
  have hm3 := hm2.kept hg2 (by intro e; obtain ⟨cur, hc⟩ := own_at hp2 e.symm; exact hc.ne_map hm2 rfl)
  have hc3 := own_keep (w' := w3) hc2 (fun k hk => hg2.block k (by obtain ⟨cur, hc⟩ := own_at hc2 hk; exact hc.lt) (by
    intro e
    obtain ⟨cur, hc⟩ := own_at hc2 hk
    obtain ⟨cur', hc'⟩ := own_at hp2 e.symm
    exact hc.ne hc' (by decide) rfl))
  have hav : v'.ownBlock ≠ some d.a := hs3.own_ne how (by decide)
  refine ⟨⟨hs3.set 1 v', hr3.far (Ne.symm h.a_bd) _, ownsRow_setCell_other how (by intro e; exact hav e) _, ownsRow_setCell_other hc3 (by intro e; exact h.a_rv e) _,
    ⟨_, n + 1, map_keep hm3 (heap_setCell_other _ _ _ _ (Ne.symm h.a_mp)), by rw [List.length_append]; simp; omega, latest_put hl p s⟩, h.pos, h.most, ?_⟩, rfl, rfl, rfl, ?_, ?_⟩
  · intro x hx
    rcases List.mem_append.1 hx with hx | hx
    · exact h.inside x hx
    · simp at hx; subst hx; exact hp
  · intro k hk
    rcases hk with rfl | rfl | rfl | hk | hk
    · exact .inl (.inl rfl)
    · exact .inl (.inr (.inl rfl))
    · exact .inl (.inr (.inr (.inl rfl)))
    · rcases hv with hb | ⟨g, hb, hgl⟩
      · exact .inl (.inr (.inr (.inr (.inl (hb.symm.trans hk)))))
      · have : g = k := by rw [hb] at hk; simpa using hk
        exact .inr (by omega)
    · exact .inl (.inr (.inr (.inr (.inr hk))))
  · have f1 : Fr d.foot w w1 := Fr.grown (Fr.refl _ _) hg1 (fun k hk => .inl (.inr (.inr (.inl (by simpa using hk.symm)))))
    have f2 : Fr d.foot w w2 := f1.trans (Fr.of_below (F := fun _ => False) hb) (fun _ hk => hk.elim)
    have f3 : Fr d.foot w w3 := f2.grown hg2 (fun k hk => .inl (.inr (.inr (.inr (.inl hk)))))
    exact f3.setCell (.inl (.inl rfl)) _
end Go.Proofs.YtfgjjdjaiddllaaDoor
