/- A live journal: it lies there, its disk holds it; Open, Append, Records and Free as steps between such states. Conditions: those of each law. -/
import Derived.Test.YtfgjjdjaiddllaaDoorJourQ
namespace Go.Proofs.YtfgjjdjaiddllaaDoor
set_option linter.unusedVariables false
set_option linter.unusedSimpArgs false
open Go Go.RowKit Go.Maps
/-- No page is longer than a page. -/
def Sized (c : DiskC) : Prop := ∀ q : Nat, (c.read q).1.size ≤ 512
theorem Sized.int {c : DiskC} (h : Sized c) (p : Int) : (c.read p).1.size ≤ 512 := by
  by_cases hp : 0 ≤ p
  · obtain ⟨q, rfl⟩ : ∃ q : Nat, p = q := ⟨p.toNat, by omega⟩
    exact h q
  · have : c.read p = (⟨#[]⟩, 2) := by
      unfold DiskC.read
      rw [if_neg (by omega)]
    rw [this]
    decide
theorem read_out (c : DiskC) (q : Nat) (h : ¬ q < c.durable.length) : c.read q = (⟨#[]⟩, 2) := by
  unfold DiskC.read
  rw [if_neg (by omega)]
theorem putPages_sized (e f : Nat) (dg : ByteArray) (hd : dg.size = 32) : ∀ (n : Nat) (r : ByteArray) (st : PSt), Sized st.c → Sized (putPages e f dg n r st).c
  | 0, _, _, h => h
  | n + 1, r, st, h => by
    have h1 : Sized (st.put e f dg r).c := by
      intro q
      by_cases hq : q < st.c.durable.length
      · rw [put_other _ _ _ _ _ _ hq]
        split
        · exact Nat.le_of_eq (page_size e dg r _ hd)
        · exact h q
      · rw [read_out _ _ (by rw [put_durable]; exact hq)]
        decide
    unfold putPages
    split
    · exact h1
    · exact putPages_sized e f dg hd n _ _ h1
theorem putPages_chain (e f : Nat) (dg : ByteArray) : ∀ (n : Nat) (r : ByteArray) (st : PSt), st.chain.size = 32 → (putPages e f dg n r st).chain.size = 32
  | 0, _, _, h => h
  | n + 1, r, st, h => by
    have h1 : (st.put e f dg r).chain.size = 32 := Sha.sha_size _
    unfold putPages
    split
    · exact h1
    · exact putPages_chain e f dg n _ _ h1
theorem blank_sized (n : Nat) : Sized (.blank n) := by
  intro q
  rw [blank_read]
  decide
/-- A journal lies there, and its disk holds it. -/
structure Live (w : World) (j : Jour) (d : DiskP) (c : DiskC) : Prop where
  jd : JD w j d c
  holds : Holds j c
  calm : Calm c
  sized : Sized c
  chain : j.chain.size = 32
  epoch : j.epoch ≤ 4611686018427387903
theorem Live.below {w w' : World} {j : Jour} {d : DiskP} {c : DiskC} (h : Live w j d c) (hb : Below w.heap.size w w') : Live w' j d c := ⟨(h.jd.below hb).at_, h.holds, h.calm, h.sized, h.chain, h.epoch⟩
theorem Live.drewN {w : World} {j : Jour} {d : DiskP} {c : DiskC} (h : Live w j d c) (q : Nat) : Live (w.drewN q) j d c := h.below (below_drewN (Below.refl _ _) q)
/-- What Open returns where the disk holds a journal of that region and epoch. -/
def LivePost (w : World) (j0 : Jour) (d : DiskP) (c : DiskC) (e : Ending) (w' : World) : Prop :=
  ∃ j, e = .returned (.tuple #[.pointer (some ⟨j.jb, 0, none⟩), .int .i64 0]) ∧ Live w' j d c ∧ j.first = j0.first ∧ j.count = j0.count ∧ j.epoch = j0.epoch ∧ j.recs = j0.recs ∧ j.next = j0.next ∧ (∀ k, j.foot k → w.heap.size ≤ k) ∧ Below w.heap.size w w'
theorem open_live (j0 : Jour) (d : DiskP) (c : DiskC) (w : World) (h : DiskAt w d c) (hc : Calm c) (hz : Sized c) (hh : Holds j0 c) (hn : j0.next ≤ j0.count) (h1 : 1 ≤ j0.count) (hin : j0.first + j0.count ≤ c.durable.length) (he : j0.epoch ≤ 4611686018427387903) (hch : j0.chain.size = 32) :
    Calls Tryd.prog 18 #[.pointer (some ⟨d.a, 0, none⟩), .agg #[.int .i64 j0.first, .int .i64 j0.count], .int .i64 j0.epoch] w (LivePost w j0 d c) := by
  have hs : ∀ p, (c.read p).1.size ≤ 9223372036854775000 := fun p => Nat.le_trans (hz.int p) (by decide)
  refine (jOpen_ok d c (rdOf c j0.first) j0.first j0.count j0.epoch _ w rfl h h1 (by omega) hin he (by rw [hc.pend]; exact Nat.zero_le _) hs (fun k => rfl)).mono ?_
  rintro e w' ⟨j, rfl, hj, hda, e1, e2, e3, e4, e5, e6, hfoot, hb⟩
  have ho := hh.opened hn
  rw [ho] at e4 e5 e6
  refine ⟨j, rfl, ⟨⟨hj, h.below hb (Nat.le_refl _), hda.symm, fun k hk hd => ?_, by rw [e1, e2]; exact hin⟩, hh.same e1 e2 e3 e4 e5 e6, hc, hz, by rw [e6]; exact hch, by rw [e3]; exact he⟩, e1, e2, e3, e4, e5, hfoot, hb⟩
  have := hfoot k hk
  have := h.lt k hd
  omega
/-- What Append does. -/
def StepPost (w : World) (j : Jour) (d : DiskP) (c : DiskC) (s : ByteArray) (e : Ending) (w' : World) : Prop :=
  ∃ j' d' c', JDStep w w' j j' d d' c' ∧ Live w' j' d' c' ∧
    ((pagesOf s.size ≤ (j.count : Int) - j.next ∧ e = .returned (.int .i64 0) ∧ c' = after j s c ∧ j'.recs = j.recs ++ [s] ∧ (j'.next : Int) = j.next + pagesOf s.size) ∨
     ((j.count : Int) - j.next < pagesOf s.size ∧ e = .returned (.int .i64 22) ∧ c' = c ∧ j'.recs = j.recs ∧ j'.next = j.next))
theorem append_live (j : Jour) (d : DiskP) (c : DiskC) (s : ByteArray) (w : World) (h : Live w j d c) (hs : s.size ≤ 65536) (hfew : j.recs.length < 1000000) :
    Calls Tryd.prog 19 #[.pointer (some ⟨j.jb, 0, none⟩), .string s] w (StepPost w j d c s) := by
  by_cases hf : pagesOf s.size ≤ (j.count : Int) - j.next
  · refine (jAppend_ok j d c s w h.jd hs hf (by have := h.epoch; omega) (by rw [h.chain]; decide) (by rw [h.calm.pend]; exact Nat.zero_le _) (by rw [h.calm.none]; exact Nat.zero_le _) hfew).mono ?_
    rintro e w' ⟨rfl, j', d', hst, e4, e5, e6⟩
    refine ⟨j', d', _, hst, ⟨hst.at_, h.holds.append h.calm.pend h.jd.inn hs hf hst.first hst.count hst.epoch e4 e5 e6, after_calm h.calm, ?_, ?_, by rw [hst.epoch]; exact h.epoch⟩, .inl ⟨hf, rfl, rfl, e4, ?_⟩⟩
    · intro q
      have : ((after j s c).read q).1.size ≤ 512 := by
        rw [after_read h.calm.pend]
        exact putPages_sized _ _ _ (Sha.sha_size _) _ _ ⟨j.next, j.chain, c⟩ h.sized q
      exact this
    · rw [e6]
      exact putPages_chain _ _ _ _ _ _ h.chain
    · rw [e5]
      exact allPages_next j s c hs
  · refine (jAppend_full j s w h.jd.jour hs (by omega)).mono ?_
    rintro e w' ⟨rfl, rfl⟩
    have hb : Below w.heap.size w w.drew := (Below.refl w.heap.size w).drew
    exact ⟨j, d, c, h.jd.below hb, h.below hb, .inr ⟨by omega, rfl, rfl, rfl, rfl⟩⟩
theorem records_live (j : Jour) (w : World) (h : JourAt w j) :
    Calls Tryd.prog 22 #[.pointer (some ⟨j.jb, 0, none⟩)] w fun e w' => ∃ v, e = .returned v ∧ StrsC w' v j.recs ∧ Below w.heap.size w w' :=
  (jRecords_any j w h).mono fun _ _ ⟨v, he, ho, hb⟩ => ⟨v, he, .own ho, hb⟩
end Go.Proofs.YtfgjjdjaiddllaaDoor
