/- A journal on a disk as one state, and how it is kept from step to step. No condition. -/
import Derived.Test.YtfgjjdjaiddllaaDoorJourI
namespace Go.Proofs.YtfgjjdjaiddllaaDoor
set_option linter.unusedVariables false
set_option linter.unusedSimpArgs false
open Go Go.RowKit Go.Maps
structure JD (w : World) (j : Jour) (d : DiskP) (c : DiskC) : Prop where
  jour : JourAt w j
  disk : DiskAt w d c
  da : d.a = j.da
  apart : ∀ k, j.foot k → ¬ d.foot k
  inn : j.first + j.count ≤ c.durable.length
/-- From w to w' the journal j and the disk d have become j' and d'; what else lay is as it was. -/
structure JDStep (w w' : World) (j j' : Jour) (d d' : DiskP) (c' : DiskC) : Prop where
  at_ : JD w' j' d' c'
  jb : j'.jb = j.jb
  first : j'.first = j.first
  count : j'.count = j.count
  epoch : j'.epoch = j.epoch
  a : d'.a = d.a
  bd : d'.bd = d.bd
  mp : d'.mp = d.mp
  footj : ∀ k, j'.foot k → j.foot k ∨ w.heap.size ≤ k
  footd : ∀ k, d'.foot k → d.foot k ∨ w.heap.size ≤ k
  fr : Fr (fun k => j.foot k ∨ d.foot k) w w'
theorem JDStep.refl {w : World} {j : Jour} {d : DiskP} {c : DiskC} (h : JD w j d c) : JDStep w w j j d d c := ⟨h, rfl, rfl, rfl, rfl, rfl, rfl, rfl, fun _ hk => .inl hk, fun _ hk => .inl hk, Fr.refl _ _⟩
theorem JDStep.trans {w w1 w2 : World} {j j1 j2 : Jour} {d d1 d2 : DiskP} {c1 c2 : DiskC} (h : JDStep w w1 j j1 d d1 c1) (k : JDStep w1 w2 j1 j2 d1 d2 c2) : JDStep w w2 j j2 d d2 c2 := by
  refine ⟨k.at_, k.jb.trans h.jb, k.first.trans h.first, k.count.trans h.count, k.epoch.trans h.epoch, k.a.trans h.a, k.bd.trans h.bd, k.mp.trans h.mp, fun i hi => ?_, fun i hi => ?_, h.fr.trans k.fr (fun i hi => ?_)⟩
  · rcases k.footj i hi with h1 | h1
    · exact h.footj i h1
    · exact .inr (Nat.le_trans h.fr.size h1)
  · rcases k.footd i hi with h1 | h1
    · exact h.footd i h1
    · exact .inr (Nat.le_trans h.fr.size h1)
  · rcases hi with hi | hi
    · exact (h.footj i hi).imp .inl id
    · exact (h.footd i hi).imp .inr id
theorem JD.below {w w' : World} {j : Jour} {d : DiskP} {c : DiskC} (h : JD w j d c) (hb : Below w.heap.size w w') : JDStep w w' j j d d c :=
  ⟨⟨h.jour.below hb (Nat.le_refl _), h.disk.below hb (Nat.le_refl _), h.da, h.apart, h.inn⟩, rfl, rfl, rfl, rfl, rfl, rfl, rfl, fun _ hk => .inl hk, fun _ hk => .inl hk, Fr.of_below hb⟩
theorem JourAt.rv_jb {w : World} {j : Jour} (h : JourAt w j) : j.rv.ownBlock ≠ some j.jb := h.self.own_ne h.recs (by decide)
/-- The chain of a journal is set. -/
theorem JD.setChain {w : World} {j : Jour} {d : DiskP} {c : DiskC} (h : JD w j d c) (ch : ByteArray) : JDStep w (w.setCell ⟨j.jb, 6, none⟩ (.string ch)) j { j with chain := ch } d d c := by
  have hne : ∀ k, k ≠ j.jb → (w.setCell ⟨j.jb, 6, none⟩ (.string ch)).heap[k]? = w.heap[k]? := fun k hk => heap_setCell_other _ _ _ _ hk
  refine ⟨⟨⟨h.jour.self.set 6 _, own_keep h.jour.recs (fun k hk => hne k (fun e => h.jour.rv_jb (by rw [← e]; exact hk))), h.jour.few, h.jour.count, h.jour.next⟩, h.disk.keep (fun k hk => hne k (fun e => h.apart j.jb (.inl rfl) (by rw [← e]; exact hk))), h.da, h.apart, h.inn⟩, rfl, rfl, rfl, rfl, rfl, rfl, rfl, fun _ hk => .inl hk, fun _ hk => .inl hk, (Fr.refl _ _).setCell (.inl (.inl (.inl rfl))) _⟩
/-- The number of used pages of a journal is set. -/
theorem JD.setNext {w : World} {j : Jour} {d : DiskP} {c : DiskC} (h : JD w j d c) (n : Nat) (hn : n ≤ j.count) : JDStep w (w.setCell ⟨j.jb, 5, none⟩ (.int .i64 (n : Int))) j { j with next := n } d d c := by
  have hne : ∀ k, k ≠ j.jb → (w.setCell ⟨j.jb, 5, none⟩ (.int .i64 (n : Int))).heap[k]? = w.heap[k]? := fun k hk => heap_setCell_other _ _ _ _ hk
  refine ⟨⟨⟨h.jour.self.set 5 _, own_keep h.jour.recs (fun k hk => hne k (fun e => h.jour.rv_jb (by rw [← e]; exact hk))), h.jour.few, h.jour.count, hn⟩, h.disk.keep (fun k hk => hne k (fun e => h.apart j.jb (.inl rfl) (by rw [← e]; exact hk))), h.da, h.apart, h.inn⟩, rfl, rfl, rfl, rfl, rfl, rfl, rfl, fun _ hk => .inl hk, fun _ hk => .inl hk, (Fr.refl _ _).setCell (.inl (.inl (.inl rfl))) _⟩
/-- The disk takes a step of its own. -/
theorem JD.disked {w w' : World} {j : Jour} {d d' : DiskP} {c c' : DiskC} (h : JD w j d c) (hs : DStep w w' d d' c') (hl : c'.durable.length = c.durable.length) : JDStep w w' j j d d' c' := by
  refine ⟨⟨h.jour.keep (fun k hk => hs.fr.keep k (h.jour.lt k hk) (h.apart k hk)), hs.at_, hs.a.trans h.da, fun k hk hf => ?_, by rw [hl]; exact h.inn⟩, rfl, rfl, rfl, rfl, hs.a, hs.bd, hs.mp, fun _ hk => .inl hk, hs.foot, hs.fr.mono (fun _ hk => .inr hk)⟩
  rcases hs.foot k hf with h1 | h1
  · exact h.apart k hk h1
  · have := h.jour.lt k hk; omega
/-- A record is laid among the journal's. -/
theorem JD.recorded {w w1 w2 : World} {j : Jour} {d : DiskP} {c : DiskC} {v' : Value} {rs : List ByteArray} (h : JD w j d c) (hb : Below w.heap.size w w1) (hg : w1.grownBy w2 j.rv.ownBlock)
    (how : w2.ownsRow 0 9 1 v' rs.length (rs.map Value.string)) (hv : v'.ownBlock = j.rv.ownBlock ∨ ∃ g, v'.ownBlock = some g ∧ w.heap.size ≤ g) (hfew : rs.length ≤ 1000000) :
    JDStep w (w2.setCell ⟨j.jb, 4, none⟩ v') j { j with rv := v', recs := rs } d d c := by
  have h1 := (h.below hb).at_
  have hj := At.grown h1.jour.self hg (by intro e; exact h1.jour.rv_jb e.symm)
  have hvj : v'.ownBlock ≠ some j.jb := hj.own_ne how (by show 84 ≠ 9; decide)
  have hdisk : DiskAt (w2.setCell ⟨j.jb, 4, none⟩ v') d c := h1.disk.keep (fun k hk => by
    have hne : k ≠ j.jb := fun e => h.apart j.jb (.inl rfl) (by rw [← e]; exact hk)
    refine (heap_setCell_other _ _ _ _ hne).trans (hg.block k (h1.disk.lt k hk) (fun e => ?_))
    exact h.apart k (.inr e.symm) hk)
  refine ⟨⟨⟨hj.set 4 v', ownsRow_setCell_other how (fun e => hvj e) _, hfew, h.jour.count, h.jour.next⟩, hdisk, h.da, ?_, h.inn⟩, rfl, rfl, rfl, rfl, rfl, rfl, rfl, ?_, fun _ hk => .inl hk, ?_⟩
  · intro k hk hf
    rcases hk with hk | hk
    · exact h.apart k (.inl hk) hf
    · rcases hv with hv | ⟨g, hv, hgl⟩
      · exact h.apart k (.inr (hv.symm.trans hk)) hf
      · have : g = k := by
          have hk' : v'.ownBlock = some k := hk
          rw [hv] at hk'
          simpa using hk'
        have := h.disk.lt k hf
        omega
  · intro k hk
    rcases hk with hk | hk
    · exact .inl (.inl hk)
    · rcases hv with hv | ⟨g, hv, hgl⟩
      · exact .inl (.inr (hv.symm.trans hk))
      · have : g = k := by
          have hk' : v'.ownBlock = some k := hk
          rw [hv] at hk'
          simpa using hk'
        exact .inr (by omega)
  · exact ((Fr.of_below hb).grown hg (fun k hk => .inl (.inl (.inr hk)))).setCell (.inl (.inl (.inl rfl))) _
theorem note_durable (c : DiskC) (o : POp) : (c.note o).durable = c.durable := by unfold DiskC.note; split <;> rfl
theorem note_pending (c : DiskC) (o : POp) : (c.note o).pending = c.pending := by unfold DiskC.note; split <;> rfl
theorem note_recorded (c : DiskC) (o : POp) : (c.note o).recorded.length ≤ c.recorded.length + 1 := by unfold DiskC.note; split <;> simp
theorem put_durable (s : PSt) (e f : Nat) (dg r : ByteArray) : (s.put e f dg r).c.durable = s.c.durable := note_durable _ _
theorem put_pending (s : PSt) (e f : Nat) (dg r : ByteArray) : (s.put e f dg r).c.pending.length = s.c.pending.length + 1 := by
  show ((s.c.wrote _ _).note _).pending.length = _
  rw [note_pending]
  simp [DiskC.wrote]
theorem put_recorded (s : PSt) (e f : Nat) (dg r : ByteArray) : (s.put e f dg r).c.recorded.length ≤ s.c.recorded.length + 1 := note_recorded _ _
end Go.Proofs.YtfgjjdjaiddllaaDoor
