/- A disk of the program forgets, syncs, begins and ends a recording, and is made. Condition: at most a million operations are recorded. -/
import Derived.Test.YtfgjjdjaiddllaaDoorDiskC
namespace Go.Proofs.YtfgjjdjaiddllaaDoor
set_option linter.unusedVariables false
set_option linter.unusedSimpArgs false
open Go Go.RowKit Go.Maps Go.ChangeMaps
theorem run_clear_map {P : Program} {t k e ty : TypeId} {r clock : Nat} {es : Array MapEntry} {w : World} (ht : P.underlying t = some (.map k e)) (hb : w.heap[r]? = some (.map es clock)) :
    (Builtin.clear_ #[t] ty #[.map (some r)]).run P w = .ok (.tuple #[]) (setBlock w r (.map #[] clock)) := by
  simp [Builtin.clear_, run_underlying ht, MapKept.run_getObj_map hb, MapKept.run_setObj_map _ hb, setBlock, Result.andThen]
theorem DiskAt.forgot {w : World} {d : DiskP} {c : DiskC} {es : Array MapEntry} {clock : Nat} (h : DiskAt w d c) (hb : w.heap[d.mp]? = some (.map es clock)) :
    DStep w (setBlock (w.setCell ⟨d.a, 1, none⟩ (.slice none 0 0)) d.mp (.map #[] clock)) d { d with pv := .slice none 0 0 } { c with pending := [] } := by
  have hb1 : (w.setCell ⟨d.a, 1, none⟩ (.slice none 0 0)).heap[d.mp]? = some (.map es clock) := by rw [heap_setCell_other _ _ _ _ (Ne.symm h.a_mp)]; exact hb
  have ho : ∀ k, k ≠ d.mp → (setBlock (w.setCell ⟨d.a, 1, none⟩ (.slice none 0 0)) d.mp (.map #[] clock)).heap[k]? = (w.setCell ⟨d.a, 1, none⟩ (.slice none 0 0)).heap[k]? := fun k hk => heap_setBlock_other hb1 _ hk
  have ho2 : ∀ k, k ≠ d.mp → k ≠ d.a → (setBlock (w.setCell ⟨d.a, 1, none⟩ (.slice none 0 0)) d.mp (.map #[] clock)).heap[k]? = w.heap[k]? := fun k hk ha => (ho k hk).trans (heap_setCell_other _ ⟨d.a, 1, none⟩ k _ ha)
  have hsz : (setBlock (w.setCell ⟨d.a, 1, none⟩ (.slice none 0 0)) d.mp (.map #[] clock)).heap.size = w.heap.size := by simp [setBlock, World.setCell]
  refine ⟨⟨(h.self.set 1 _).keep (ho _ h.a_mp), h.rows.keep (ho2 _ h.bd_mp (Ne.symm h.a_bd)), ⟨rfl, .inl ⟨rfl, rfl⟩⟩, own_keep h.recd (fun k hk => ho2 k ?_ ?_), ⟨.map [], 0, ⟨#[], clock, heap_setBlock_same hb1 _, ⟨by simp, MapKept.stamped_empty clock, by simp⟩, Nat.le_refl _, rfl⟩, Nat.le_refl _, ⟨⟨[], rfl⟩, fun p => rfl⟩⟩, h.pos, h.most, fun x hx => by cases hx⟩, rfl, rfl, rfl, ?_, ?_⟩
  · rintro rfl
    obtain ⟨cur, hc⟩ := own_at h.recd hk
    obtain ⟨D0, n0, hm0, _⟩ := h.latest
    exact hc.ne_map hm0 rfl
  · rintro rfl
    exact h.a_rv hk
  · intro k hk
    rcases hk with rfl | rfl | rfl | hk | hk
    · exact .inl (.inl rfl)
    · exact .inl (.inr (.inl rfl))
    · exact .inl (.inr (.inr (.inl rfl)))
    · cases hk
    · exact .inl (.inr (.inr (.inr (.inr hk))))
  · exact ⟨rfl, rfl, rfl, Nat.le_of_eq hsz.symm, fun k _ hk => ho2 k (fun e => hk (.inr (.inr (.inl e)))) (fun e => hk (.inl e))⟩
set_option maxRecDepth 100000 in
set_option maxHeartbeats 1000000 in
theorem forget_any (d : DiskP) (c : DiskC) (w : World) (h : DiskAt w d c) :
    Calls Tryd.prog 42 #[.pointer (some ⟨d.a, 0, none⟩)] w fun e w' => e = .returned (.tuple #[]) ∧ DStep w w' d { d with pv := .slice none 0 0 } { c with pending := [] } := by
  have h1 := h.self.cell 1; have h2 := h.self.cell 2
  simp only [List.getElem?_toArray, List.getElem?_cons_zero, List.getElem?_cons_succ] at h1 h2
  obtain ⟨D, n, ⟨es, clock, hb, F, hs, hD⟩, hn, hl⟩ := h.latest
  have hcl := fun ty => run_clear_map (P := Tryd.prog) (ty := ty) (w := w.setCell ⟨d.a, 1, none⟩ (.slice none 0 0)) Tryd.underlying73 (r := d.mp) (clock := clock) (es := es) (by rw [heap_setCell_other _ _ _ _ (Ne.symm h.a_mp)]; exact hb)
  have hf1 : w.frozen? ⟨d.a, 1, none⟩ = false := h.self.free 1
  have hne := h.a_mp
  have hst := h.forgot hb
  have HS := Lib.hid hst; clear hst h hl F hD
  go_enter Tryd.func42, Tryd.ntmps42
  go_wp2_with fail
  go_end0
  exact ⟨rfl, HS.out⟩
theorem strRow_set (l : List ByteArray) (p : Nat) (s : ByteArray) : (strRow l).setIfInBounds p (.string s) = strRow (l.set p s) := by
  simp [strRow, List.map_set]
theorem DiskAt.setPage {w : World} {d : DiskP} {c : DiskC} (h : DiskAt w d c) (p : Nat) (s : ByteArray) : DStep w (w.setCell ⟨d.bd, p, none⟩ (.string s)) d d { c with durable := c.durable.set p s } := by
  have hr := h.rows.set p (.string s)
  rw [strRow_set] at hr
  obtain ⟨D, n, hm, hn, hl⟩ := h.latest
  have hs := h.self.far (p := ⟨d.bd, p, none⟩) h.a_bd (.string s)
  refine ⟨⟨by rw [List.length_set]; exact hs, hr, ownsRow_setCell_other h.pend (h.rows.own_ne h.pend (by decide)) _, ownsRow_setCell_other h.recd (h.rows.own_ne h.recd (by decide)) _,
    ⟨D, n, map_keep hm (heap_setCell_other _ _ _ _ (Ne.symm h.bd_mp)), hn, hl⟩, by rw [List.length_set]; exact h.pos, by rw [List.length_set]; exact h.most, fun x hx => by rw [List.length_set]; exact h.inside x hx⟩, rfl, rfl, rfl, fun _ hk => .inl hk, (Fr.refl _ _).setCell (.inl (.inr (.inl rfl))) _⟩
theorem DStep.alloc {w w' : World} {d d' : DiskP} {c' : DiskC} (h : DStep w w' d d' c') (o : Obj) : DStep w (w'.alloc o) d d' c' :=
  ⟨h.at_.below ((Below.refl w'.heap.size w').alloc (Nat.le_refl _) o) (Nat.le_refl _), h.a, h.bd, h.mp, h.foot, h.fr.alloc o⟩
theorem DStep.drew {w w' : World} {d d' : DiskP} {c' : DiskC} (h : DStep w w' d d' c') : DStep w w'.drew d d' c' :=
  ⟨h.at_.below (Below.refl w'.heap.size w').drew (Nat.le_refl _), h.a, h.bd, h.mp, h.foot, h.fr.drew⟩
def flush (dur : List ByteArray) (l : List (Nat × ByteArray)) : List ByteArray := l.foldl (fun d x => d.set x.1 x.2) dur
theorem flush_snoc (dur : List ByteArray) (l : List (Nat × ByteArray)) (x : Nat × ByteArray) : flush dur (l ++ [x]) = (flush dur l).set x.1 x.2 := by simp [flush]
theorem flush_len (l : List (Nat × ByteArray)) : ∀ dur : List ByteArray, (flush dur l).length = dur.length := by
  induction l with
  | nil => intro dur; rfl
  | cons x l ih => intro dur; show (flush (dur.set x.1 x.2) l).length = _; rw [ih, List.length_set]
def DiskC.synced (c : DiskC) : DiskC := { c with durable := flush c.durable c.pending, pending := [] }
set_option maxRecDepth 100000 in
set_option maxHeartbeats 2000000 in
theorem dSync_any (d : DiskP) (c : DiskC) (w : World) (hpl : c.pending.length ≤ 1000000) (hr : c.recorded.length ≤ 1000000) (h : DiskAt w d c) :
    Calls Tryd.prog 40 #[.pointer (some ⟨d.a, 0, none⟩)] w fun e w' => e = .returned (.tuple #[]) ∧ ∃ d', DStep w w' d d' (c.synced.note ⟨0, ⟨#[]⟩, true⟩) := by
  have h1 := h.self.cell 1
  simp only [List.getElem?_toArray, List.getElem?_cons_zero, List.getElem?_cons_succ] at h1
  have hpv : ∃ b len cap, d.pv = .slice b len cap ∧ len = c.pending.length := by
    obtain ⟨_, ⟨h0, h1⟩ | ⟨g, cap, cur, h0, _⟩⟩ := h.pend
    · exact ⟨none, 0, 0, h0, h1.symm⟩
    · exact ⟨_, _, _, h0, rfl⟩
  obtain ⟨pb, pl, pc, hpve, hpl'⟩ := hpv
  rw [hpve, hpl'] at h1
  have HP := Lib.hid hpve; have HPL := Lib.hid hpl'; clear hpve hpl'
  have H := Lib.hid h; clear h
  go_enter Tryd.func40, Tryd.ntmps40
  go_wp2_with fail
  go_loopw [9] (fun i wr => ∃ k : Nat, k ≤ c.pending.length ∧ i = .int .i64 k ∧ DStep w wr d d { c with durable := flush c.durable (c.pending.take k) })
    (fun i _ => c.pending.length - (intOf i).toNat)
  case atStart => exact ⟨0, by omega, rfl, DStep.refl H.out⟩
  case round =>
    obtain ⟨k, hk, rfl, hst⟩ := hrel
    by_cases hlt : k < c.pending.length
    · have dk : decide ((k : Int) < c.pending.length) = true := by simp; omega
      have hpe := hst.at_.pend
      obtain ⟨g, cap, hv, hcell⟩ := own_cell hpe (by show 0 < c.pending.length; omega)
      have hpb : pb = some ⟨g, 0, none⟩ := by
        have := HP.out.symm.trans hv
        simp only [Value.slice.injEq] at this
        exact this.1
      have k0 := hcell _ _ (wCells_get c.pending k hlt).1
      have k1 := hcell _ _ (wCells_get c.pending k hlt).2
      have q0 := hst.at_.self.cell 0
      simp only [List.getElem?_toArray, List.getElem?_cons_zero] at q0
      have hin := H.out.inside _ (List.getElem_mem hlt)
      have hfl := flush_len (c.pending.take k) c.durable
      have ql := hst.at_.rows.lt
      have qa := hst.at_.self.lt
      have hcl := hst.at_.rows.cell (c.pending[k]).1
      rw [strRow_get _ _ (by show _ < (flush _ _).length; rw [hfl]; exact hin)] at hcl
      have hfz : wr.frozen? ⟨d.bd, (c.pending[k]).1, none⟩ = false := hst.at_.rows.free _
      have htk : c.pending.take (k + 1) = c.pending.take k ++ [c.pending[k]] := List.take_succ_eq_append_getElem hlt
      obtain ⟨p, hpe⟩ : ∃ p, p = (c.pending[k]).1 := ⟨_, rfl⟩
      obtain ⟨s, hse⟩ : ∃ s, s = (c.pending[k]).2 := ⟨_, rfl⟩
      rw [← hpe] at k0 hin hcl hfz
      rw [← hse] at k1
      have hset := hst.at_.setPage p s
      have hmost := H.out.most
      have HE := Lib.hid (And.intro hpe hse); clear hpe hse hcell hv
      have HTK := Lib.hid htk; have HST := Lib.hid hst; clear htk hst hset
      clear hpe
      subst hpb
      rw [hfl] at q0
      go_wp2_with fail
      refine Lex.wp_region_lex (by kernel_rfl) (by kernel_rfl) ?_
      go_wp2_with fail
      refine Lex.Ends.intro (by kernel_rfl) ?_
      go_wp2_with fail
      have hnx2 := HST.out.trans (HST.out.at_.setPage p s)
      have hfs : (flush c.durable (c.pending.take k)).set p s = flush c.durable (c.pending.take (k + 1)) := by rw [HTK.out, flush_snoc, HE.out.1, HE.out.2]
      have hnx3 : DStep w _ d d { c with durable := flush c.durable (c.pending.take (k + 1)) } := hfs ▸ hnx2
      exact ⟨⟨k + 1, by omega, by go_num, (hnx3.alloc _).drew⟩, by simp [intOf]; omega⟩
    · have hk' : k = c.pending.length := by omega
      have dk : decide ((k : Int) < c.pending.length) = false := by simp; omega
      have hsy : DStep w wr d d { c with durable := c.synced.durable } := by
        have e : flush c.durable (c.pending.take k) = c.synced.durable := by rw [hk', List.take_length]; rfl
        exact e ▸ hst
      have HSY := Lib.hid hsy; clear hst hsy hk'
      go_wp2_with fail
      refine (forget_any d _ wr HSY.out.at_).mono ?_
      rintro e w1 ⟨rfl, h1⟩
      have HS1 := Lib.hid (HSY.out.trans h1); clear h1
      go_wp2_with fail
      refine (record_any _ c.synced ⟨0, ⟨#[]⟩, true⟩ w1 hr HS1.out.at_).mono ?_
      rintro e w2 ⟨rfl, d', h2⟩
      have HS2 := Lib.hid (HS1.out.trans h2); clear h2
      go_wp2_with fail
      go_end0
      exact ⟨rfl, d', HS2.out⟩
end Go.Proofs.YtfgjjdjaiddllaaDoor
