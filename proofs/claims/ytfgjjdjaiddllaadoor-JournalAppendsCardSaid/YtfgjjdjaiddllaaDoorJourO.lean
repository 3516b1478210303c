/- A disk behind an append: what a journal holds, what another reads. Conditions: those of each law. -/
import Derived.Test.YtfgjjdjaiddllaaDoorJourN
import Derived.Test.YtfgjjdjaiddllaaDoorJourL
namespace Go.Proofs.YtfgjjdjaiddllaaDoor
set_option linter.unusedVariables false
set_option linter.unusedSimpArgs false
open Go Go.RowKit Go.Maps
theorem flush_get (l : List (Nat × ByteArray)) : ∀ (dur : List ByteArray) (q : Nat), q < dur.length → (flush dur l).getD q ⟨#[]⟩ = match lastIdx l q with
    | some i => (l.getD i (0, ⟨#[]⟩)).2
    | none => dur.getD q ⟨#[]⟩ := by
  induction l with
  | nil => intro dur q h; rfl
  | cons x l ih =>
    intro dur q h
    show (flush (dur.set x.1 x.2) l).getD q _ = _
    rw [ih _ _ (by rw [List.length_set]; exact h), lastIdx]
    cases hl : lastIdx l q with
    | some i => simp
    | none =>
      by_cases hx : x.1 = q
      · subst hx; simp [List.getD_eq_getElem?_getD, h]
      · simp [hx, List.getD_eq_getElem?_getD, List.getElem?_set]
theorem synced_read (c : DiskC) (q : Nat) (h : ∀ x ∈ c.pending, x.2.size = 512) : c.synced.read q = c.read q := by
  by_cases hin : q < c.durable.length
  · have h1 : 0 ≤ (q : Int) ∧ (q : Int) < c.durable.length := ⟨by omega, by omega⟩
    have h2 : 0 ≤ (q : Int) ∧ (q : Int) < c.synced.durable.length := by rw [synced_len]; exact h1
    unfold DiskC.read
    rw [if_pos h1, if_pos h2]
    show (if ((flush c.durable c.pending).getD q ⟨#[]⟩).toList == torn.toList then _ else _) = _
    have hg := flush_get c.pending c.durable q hin
    show (if ((flush c.durable c.pending).getD q ⟨#[]⟩).toList == torn.toList then ((⟨#[]⟩ : ByteArray), (21 : Int)) else ((flush c.durable c.pending).getD q ⟨#[]⟩, 0)) = match lastIdx c.pending q with
      | some i => ((c.pending.getD i (0, ⟨#[]⟩)).2, 0)
      | none => if (c.durable.getD q ⟨#[]⟩).toList == torn.toList then (⟨#[]⟩, 21) else (c.durable.getD q ⟨#[]⟩, 0)
    rw [hg]
    cases hl : lastIdx c.pending q with
    | none => rfl
    | some i =>
      have hi := lastIdx_lt _ _ _ hl
      have hs := h c.pending[i] (List.getElem_mem hi)
      have he : (c.pending.getD i (0, ⟨#[]⟩)) = c.pending[i] := by simp [List.getD_eq_getElem?_getD, hi]
      simp only [he]
      have ht : (c.pending[i].2.toList == torn.toList) = false := by
        rw [beq_toList]
        simp only [decide_eq_false_iff_not]
        intro e
        rw [e] at hs
        cases hs
      rw [ht]
      rfl
  · have h1 : ¬ (0 ≤ (q : Int) ∧ (q : Int) < c.durable.length) := by omega
    have h2 : ¬ (0 ≤ (q : Int) ∧ (q : Int) < c.synced.durable.length) := by rw [synced_len]; exact h1
    unfold DiskC.read
    rw [if_neg h1, if_neg h2]
theorem put_pend (st : PSt) (e f : Nat) (dg r : ByteArray) : (st.put e f dg r).c.pending = st.c.pending ++ [(f + st.next, pageCheck e dg r st.chain ++ pageBody e dg r)] := by
  show ((st.c.wrote _ _).note _).pending = _
  rw [note_pending]
  rfl
theorem page_size (e : Nat) (dg r ch : ByteArray) (hd : dg.size = 32) : (pageCheck e dg r ch ++ pageBody e dg r).size = 512 := by
  rw [Sha.app_size, pageBody_size _ _ _ hd, show (pageCheck e dg r ch).size = 32 from Sha.sha_size _]
theorem putPages_pend (e f : Nat) (dg : ByteArray) (hd : dg.size = 32) : ∀ (n : Nat) (r : ByteArray) (st : PSt), (∀ x ∈ st.c.pending, x.2.size = 512) → ∀ x ∈ (putPages e f dg n r st).c.pending, x.2.size = 512
  | 0, _, _, h => h
  | n + 1, r, st, h => by
    have h1 : ∀ x ∈ (st.put e f dg r).c.pending, x.2.size = 512 := by
      intro x hx
      rw [put_pend] at hx
      rcases List.mem_append.1 hx with hx | hx
      · exact h x hx
      · simp at hx; subst hx; exact page_size e dg r _ hd
    unfold putPages
    split
    · exact h1
    · exact putPages_pend e f dg hd n _ _ h1
theorem put_other (st : PSt) (e f : Nat) (dg r : ByteArray) (q : Nat) (hq : q < st.c.durable.length) :
    (st.put e f dg r).c.read q = if f + st.next = q then (pageCheck e dg r st.chain ++ pageBody e dg r, 0) else st.c.read q := by
  show ((st.c.wrote _ _).note _).read _ = _
  rw [read_note, read_wrote _ _ _ _ hq]
theorem putPages_other (e f : Nat) (dg : ByteArray) : ∀ (n : Nat) (r : ByteArray) (st : PSt), r.size < n → ∀ q, q < st.c.durable.length → q < f + st.next ∨ f + (putPages e f dg n r st).next ≤ q → (putPages e f dg n r st).c.read q = st.c.read q
  | 0, _, _, h, _, _, _ => by omega
  | n + 1, r, st, h, q, hq, hc => by
    have h2 : (st.put e f dg r).next = st.next + 1 := rfl
    unfold putPages at hc ⊢
    split at hc
    · rename_i hm
      rw [if_pos hm, put_other _ _ _ _ _ _ hq, if_neg (by omega)]
    · rename_i hm
      rw [if_neg hm]
      have hs : (r.extract 437 r.size).size < n := by rw [ByteArray.size_extract]; omega
      have hnx := putPages_next e f dg n (r.extract 437 r.size) (st.put e f dg r) hs
      rw [putPages_other e f dg n (r.extract 437 r.size) (st.put e f dg r) hs q (by rw [put_durable]; exact hq) (by omega), put_other _ _ _ _ _ _ hq, if_neg (by omega)]
theorem putPages_count (e f : Nat) (dg : ByteArray) : ∀ (n : Nat) (r : ByteArray) (st : PSt), r.size < n → r.size ≤ 65536 → ((putPages e f dg n r st).next : Int) = st.next + pagesOf r.size
  | 0, _, _, h, _ => by omega
  | n + 1, r, st, h, hs => by
    have h2 : (st.put e f dg r).next = st.next + 1 := rfl
    unfold putPages
    split
    · rw [h2, pagesOf_one (by omega)]; omega
    · have hz : (r.extract 437 r.size).size = r.size - 437 := by rw [ByteArray.size_extract]; omega
      rw [putPages_count e f dg n _ _ (by rw [hz]; omega) (by rw [hz]; omega), hz, pagesOf_step (by omega) hs, h2]
      omega
theorem put_recording (st : PSt) (e f : Nat) (dg r : ByteArray) : (st.put e f dg r).c.recording = st.c.recording := by
  show ((st.c.wrote _ _).note _).recording = _
  unfold DiskC.note
  split <;> rfl
theorem putPages_calm (e f : Nat) (dg : ByteArray) : ∀ (n : Nat) (r : ByteArray) (st : PSt), st.c.recording = false → (putPages e f dg n r st).c.recording = false ∧ (putPages e f dg n r st).c.recorded = st.c.recorded
  | 0, _, _, h => ⟨h, rfl⟩
  | n + 1, r, st, h => by
    have h1 : (st.put e f dg r).c.recording = false := (put_recording _ _ _ _ _).trans h
    have h2 : (st.put e f dg r).c.recorded = st.c.recorded := by
      show ((st.c.wrote _ _).note _).recorded = _
      unfold DiskC.note
      rw [show (st.c.wrote (f + st.next) (pageCheck e dg r st.chain ++ pageBody e dg r)).recording = false from h]
      rfl
    unfold putPages
    split
    · exact ⟨h1, h2⟩
    · have := putPages_calm e f dg n (r.extract 437 r.size) _ h1
      exact ⟨this.1, this.2.trans h2⟩
/-- No operation is pending, and none is recorded. -/
structure Calm (c : DiskC) : Prop where
  pend : c.pending = []
  off : c.recording = false
  none : c.recorded = []
/-- The disk behind an append. -/
def after (j : Jour) (s : ByteArray) (c : DiskC) : DiskC := (allPages j.epoch j.first s ⟨j.next, j.chain, c⟩).c.synced.note ⟨0, ⟨#[]⟩, true⟩
theorem after_durable (j : Jour) (s : ByteArray) (c : DiskC) : (after j s c).durable.length = c.durable.length := by
  unfold after
  rw [note_durable, synced_len]
  unfold allPages
  rw [putPages_durable]
theorem after_calm {j : Jour} {s : ByteArray} {c : DiskC} (h : Calm c) : Calm (after j s c) := by
  have h1 := putPages_calm j.epoch j.first (Sha.sha s) (s.size + 1) s ⟨j.next, j.chain, c⟩ h.off
  have hn : after j s c = (allPages j.epoch j.first s ⟨j.next, j.chain, c⟩).c.synced := by
    unfold after DiskC.note
    rw [show (allPages j.epoch j.first s ⟨j.next, j.chain, c⟩).c.synced.recording = false from h1.1]
    rfl
  rw [hn]
  exact ⟨rfl, h1.1, h1.2.trans h.none⟩
theorem after_read {j : Jour} {s : ByteArray} {c : DiskC} (h : c.pending = []) (q : Nat) : (after j s c).read q = (allPages j.epoch j.first s ⟨j.next, j.chain, c⟩).c.read q := by
  unfold after
  rw [read_note, synced_read]
  refine putPages_pend _ _ _ (Sha.sha_size _) _ _ _ ?_
  intro x hx
  rw [show (PSt.mk j.next j.chain c).c.pending = [] from h] at hx
  cases hx
theorem allPages_next (j : Jour) (s : ByteArray) (c : DiskC) (hs : s.size ≤ 65536) : ((allPages j.epoch j.first s ⟨j.next, j.chain, c⟩).next : Int) = j.next + pagesOf s.size :=
  putPages_count _ _ _ _ _ _ (by omega) hs
/-- What is read outside of the pages that an append writes is as it was. -/
theorem after_other {j : Jour} {s : ByteArray} {c : DiskC} (h : c.pending = []) (hs : s.size ≤ 65536) (q : Nat) (hq : q < c.durable.length) (ho : q < j.first + j.next ∨ j.first + j.next + pagesOf s.size ≤ (q : Int)) : (after j s c).read q = c.read q := by
  rw [after_read h]
  have hn := allPages_next j s c hs
  exact putPages_other j.epoch j.first (Sha.sha s) (s.size + 1) s ⟨j.next, j.chain, c⟩ (by omega) q hq (ho.imp id fun h1 => by
    show j.first + (allPages j.epoch j.first s ⟨j.next, j.chain, c⟩).next ≤ q
    omega)
theorem Holds.same {j j' : Jour} {c : DiskC} (h : Holds j c) (e1 : j'.first = j.first) (e2 : j'.count = j.count) (e3 : j'.epoch = j.epoch) (e4 : j'.recs = j.recs) (e5 : j'.next = j.next) (e6 : j'.chain = j.chain) : Holds j' c := by
  refine ⟨?_, ?_⟩
  · rw [e1, e3, e4, e5, e6]; exact h.run
  · rw [e1, e2, e3, e5]; exact h.rest
/-- What holds of a disk holds of another of which the same is read. -/
theorem Holds.read {j : Jour} {c c' : DiskC} (h : Holds j c) (hn : j.next ≤ j.count) (hr : ∀ i, i < j.count → rdOf c' j.first i = rdOf c j.first i) : Holds j c' := by
  refine ⟨h.run.congr fun i _ hi => hr i (by omega), fun i h1 h2 => ?_⟩
  rw [hr i h2]
  exact h.rest i h1 h2
/-- **Behind an append the journal holds the record too.** -/
theorem Holds.append {j j' : Jour} {c : DiskC} {s : ByteArray} (h : Holds j c) (hp : c.pending = []) (hin : j.first + j.count ≤ c.durable.length) (hs : s.size ≤ 65536) (hf : pagesOf s.size ≤ (j.count : Int) - j.next)
    (e1 : j'.first = j.first) (e2 : j'.count = j.count) (e3 : j'.epoch = j.epoch) (e4 : j'.recs = j.recs ++ [s]) (e5 : j'.next = (allPages j.epoch j.first s ⟨j.next, j.chain, c⟩).next)
    (e6 : j'.chain = (allPages j.epoch j.first s ⟨j.next, j.chain, c⟩).chain) : Holds j' (after j s c) := by
  have hn := allPages_next j s c hs
  have hpos := pagesOf_pos hs
  have hrd : ∀ i, rdOf (after j s c) j.first i = rdOf (allPages j.epoch j.first s ⟨j.next, j.chain, c⟩).c j.first i := by
    intro i
    unfold rdOf
    rw [show ((j.first : Int) + (i : Nat)) = ((j.first + i : Nat) : Int) by omega]
    exact after_read hp _
  have hold : ∀ i, i < j.count → i < j.next ∨ (allPages j.epoch j.first s ⟨j.next, j.chain, c⟩).next ≤ i → rdOf (after j s c) j.first i = rdOf c j.first i := by
    intro i hi ho
    rw [hrd]
    exact putPages_read j.epoch j.first (Sha.sha s) (s.size + 1) s ⟨j.next, j.chain, c⟩ (by omega) i (by show _ < c.durable.length; omega) ho
  refine ⟨?_, ?_⟩
  · rw [e1, e3, e4, e5, e6]
    refine (h.run.congr fun i _ hi => hold i (by omega) (.inl hi)).trans ?_
    have hr := putPages_run j.epoch j.first s (s.size + 1) s ⟨j.next, j.chain, c⟩ ⟨[], j.recs, j.next, j.chain⟩ (by omega) (fun i h1 h2 => by
      have h3 : i < (allPages j.epoch j.first s ⟨j.next, j.chain, c⟩).next := h2
      show _ < c.durable.length
      omega) (fun q hq => by cases hq) rfl rfl
    exact hr.congr fun i _ _ => hrd i
  · rw [e1, e2, e3, e5]
    intro i h1 h2
    rw [hold i h2 (.inr h1)]
    exact h.rest i (by omega) h2
end Go.Proofs.YtfgjjdjaiddllaaDoor
