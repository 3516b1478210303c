/- What Append writes Open reads: from page to page, and the whole. Conditions: those of each law. -/
import Derived.Test.YtfgjjdjaiddllaaDoorJourM
import Derived.Test.YtfgjjdjaiddllaaDoorJourK
namespace Go.Proofs.YtfgjjdjaiddllaaDoor
set_option linter.unusedVariables false
set_option linter.unusedSimpArgs false
open Go Go.RowKit Go.Maps
/-- Pages are read one by one. -/
inductive Run (e : Nat) (rd : Nat → ByteArray × Int) : Nat → ByteArray → OSt → Nat → ByteArray → OSt → Prop
  | refl (k : Nat) (ch : ByteArray) (s : OSt) : Run e rd k ch s k ch s
  | step {k k' : Nat} {ch ch' : ByteArray} {s s1 s' : OSt} {p : Pg} : (rd k).2 = 0 → parsed e (rd k).1 ch = some p → s.step p = some s1 → Run e rd (k + 1) p.check s1 k' ch' s' → Run e rd k ch s k' ch' s'
section
variable {e : Nat} {rd rd' : Nat → ByteArray × Int}
theorem Run.le {k k' : Nat} {ch ch' : ByteArray} {s s' : OSt} (h : Run e rd k ch s k' ch' s') : k ≤ k' := by
  induction h with
  | refl => exact Nat.le_refl _
  | step _ _ _ _ ih => omega
theorem Run.trans {k k1 k2 : Nat} {c0 c1 c2 : ByteArray} {s0 s1 s2 : OSt} (h : Run e rd k c0 s0 k1 c1 s1) (h2 : Run e rd k1 c1 s1 k2 c2 s2) : Run e rd k c0 s0 k2 c2 s2 := by
  induction h with
  | refl => exact h2
  | step a b c _ ih => exact .step a b c (ih h2)
theorem Run.congr {k k' : Nat} {ch ch' : ByteArray} {s s' : OSt} (h : Run e rd k ch s k' ch' s') (hr : ∀ i, k ≤ i → i < k' → rd' i = rd i) : Run e rd' k ch s k' ch' s' := by
  induction h with
  | refl => exact .refl _ _ _
  | step a b c hh ih =>
    have hle := hh.le
    have e0 := hr _ (Nat.le_refl _) (by omega)
    exact .step (by rw [e0]; exact a) (by rw [e0]; exact b) c (ih fun i h1 h2 => hr i (by omega) h2)
theorem Run.opens {count k k' : Nat} {ch ch' : ByteArray} {s s' : OSt} (h : Run e rd k ch s k' ch' s') (hk : k' ≤ count) : opens e rd (count - k) k ch s = opens e rd (count - k') k' ch' s' := by
  induction h with
  | refl => rfl
  | step a b c hh ih =>
    have hle := hh.le
    rw [opens_step (by omega) a b c]
    exact ih hk
end
/-- A page that no journal of the epoch has. -/
def Foreign (e : Nat) (x : ByteArray × Int) : Prop := x.2 ≠ 0 ∨ ∀ ch, parsed e x.1 ch = none
def rdOf (c : DiskC) (first : Nat) (k : Nat) : ByteArray × Int := c.read ((first : Int) + k)
/-- The disk holds the journal, and nothing else of its epoch behind it. -/
structure Holds (j : Jour) (c : DiskC) : Prop where
  run : Run j.epoch (rdOf c j.first) 0 (chain0 j.epoch) (OSt.zero j.epoch) j.next j.chain ⟨[], j.recs, j.next, j.chain⟩
  rest : ∀ i, j.next ≤ i → i < j.count → Foreign j.epoch (rdOf c j.first i)
theorem Holds.opened {j : Jour} {c : DiskC} (h : Holds j c) (hn : j.next ≤ j.count) : opened j.epoch j.count (rdOf c j.first) = ⟨[], j.recs, j.next, j.chain⟩ := by
  unfold Go.Proofs.YtfgjjdjaiddllaaDoor.opened
  have := h.run.opens hn
  rw [Nat.sub_zero] at this
  rw [this]
  refine opens_end ?_
  by_cases hlt : j.next < j.count
  · refine .inr ⟨hlt, ?_⟩
    rcases h.rest j.next (Nat.le_refl _) hlt with h1 | h1
    · exact .inl h1
    · exact .inr (h1 _)
  · exact .inl (by omega)
/-! ### What is read of a disk -/
theorem read_note (c : DiskC) (o : POp) (p : Int) : (c.note o).read p = c.read p := by unfold DiskC.note; split <;> rfl
theorem read_wrote (c : DiskC) (p q : Nat) (s : ByteArray) (hq : q < c.durable.length) : (c.wrote p s).read q = if p = q then (s, 0) else c.read q := by
  have hin : 0 ≤ (q : Int) ∧ (q : Int) < c.durable.length := ⟨by omega, by omega⟩
  have e1 : (c.wrote p s).read q = match lastIdx (c.pending ++ [(p, s)]) q with
      | some i => (((c.pending ++ [(p, s)]).getD i (0, ⟨#[]⟩)).2, 0)
      | none => if (c.durable.getD q ⟨#[]⟩).toList == torn.toList then (⟨#[]⟩, 21) else (c.durable.getD q ⟨#[]⟩, 0) := by
    unfold DiskC.read DiskC.wrote
    simp only
    rw [if_pos hin]
    rfl
  have e2 : c.read q = match lastIdx c.pending q with
      | some i => ((c.pending.getD i (0, ⟨#[]⟩)).2, 0)
      | none => if (c.durable.getD q ⟨#[]⟩).toList == torn.toList then (⟨#[]⟩, 21) else (c.durable.getD q ⟨#[]⟩, 0) := by
    unfold DiskC.read
    rw [if_pos hin]
    rfl
  rw [e1, e2, lastIdx_snoc]
  by_cases hpq : p = q
  · rw [if_pos hpq, if_pos hpq]
    simp [List.getD_eq_getElem?_getD]
  · rw [if_neg hpq, if_neg hpq]
    cases hl : lastIdx c.pending q with
    | none => rfl
    | some i =>
      have hil := lastIdx_lt _ _ _ hl
      simp only [List.getD_eq_getElem?_getD]
      rw [List.getElem?_append_left hil]
theorem put_read (st : PSt) (e f : Nat) (dg r : ByteArray) (i : Nat) (hi : f + i < st.c.durable.length) :
    rdOf (st.put e f dg r).c f i = if i = st.next then (pageCheck e dg r st.chain ++ pageBody e dg r, 0) else rdOf st.c f i := by
  unfold rdOf
  show ((st.c.wrote _ _).note _).read _ = _
  rw [read_note, show ((f : Int) + (i : Nat)) = ((f + i : Nat) : Int) by omega, read_wrote _ _ _ _ hi]
  by_cases h : i = st.next
  · rw [if_pos (by omega), if_pos h]
  · rw [if_neg (by omega), if_neg h]
theorem putPages_durable (e f : Nat) (dg : ByteArray) : ∀ (n : Nat) (r : ByteArray) (st : PSt), (putPages e f dg n r st).c.durable = st.c.durable
  | 0, _, _ => rfl
  | n + 1, r, st => by
    unfold putPages
    split
    · exact put_durable _ _ _ _ _
    · rw [putPages_durable e f dg n]; exact put_durable _ _ _ _ _
theorem putPages_next (e f : Nat) (dg : ByteArray) : ∀ (n : Nat) (r : ByteArray) (st : PSt), r.size < n → st.next < (putPages e f dg n r st).next
  | 0, _, _, h => by omega
  | n + 1, r, st, h => by
    unfold putPages
    split
    · show st.next < st.next + 1; omega
    · have := putPages_next e f dg n (r.extract 437 r.size) (st.put e f dg r) (by rw [ByteArray.size_extract]; omega)
      have h2 : (st.put e f dg r).next = st.next + 1 := rfl
      omega
/-- What is read outside of the pages that are written is as it was. -/
theorem putPages_read (e f : Nat) (dg : ByteArray) : ∀ (n : Nat) (r : ByteArray) (st : PSt), r.size < n → ∀ i, f + i < st.c.durable.length → i < st.next ∨ (putPages e f dg n r st).next ≤ i → rdOf (putPages e f dg n r st).c f i = rdOf st.c f i
  | 0, _, _, h, _, _, _ => by omega
  | n + 1, r, st, h, i, hi, hc => by
    have h2 : (st.put e f dg r).next = st.next + 1 := rfl
    unfold putPages at hc ⊢
    split at hc
    · rename_i hm
      rw [if_pos hm, put_read _ _ _ _ _ _ hi, if_neg (by omega)]
    · rename_i hm
      rw [if_neg hm]
      have hs : (r.extract 437 r.size).size < n := by rw [ByteArray.size_extract]; omega
      have hnx := putPages_next e f dg n (r.extract 437 r.size) (st.put e f dg r) hs
      rw [putPages_read e f dg n (r.extract 437 r.size) (st.put e f dg r) hs i (by rw [put_durable]; exact hi) (by omega), put_read _ _ _ _ _ _ hi, if_neg (by omega)]
/-- **The pages of a record are read as that record.** -/
theorem putPages_run (e f : Nat) (data : ByteArray) : ∀ (n : Nat) (r : ByteArray) (st : PSt) (s : OSt), r.size < n → (∀ i, st.next ≤ i → i < (putPages e f (Sha.sha data) n r st).next → f + i < st.c.durable.length) →
    (∀ q ∈ s.open_, q.digest = Sha.sha data) → catL s.open_ ++ r.data.toList = data.data.toList → s.next + s.open_.length = st.next →
    Run e (rdOf (putPages e f (Sha.sha data) n r st).c f) st.next st.chain s (putPages e f (Sha.sha data) n r st).next (putPages e f (Sha.sha data) n r st).chain
      ⟨[], s.recs ++ [data], (putPages e f (Sha.sha data) n r st).next, (putPages e f (Sha.sha data) n r st).chain⟩
  | 0, _, _, _, h, _, _, _, _ => by omega
  | n + 1, r, st, s, h, hin, hdg, hcat, hnx => by
    have h2 : (st.put e f (Sha.sha data) r).next = st.next + 1 := rfl
    have hoff : ∀ p : Pg, p.digest = Sha.sha data → offDigest s p = false := by
      intro p hp
      unfold offDigest
      split
      · rfl
      · rename_i q l hq
        rw [hp, hdg q (by rw [hq]; simp)]
        simp
    have hpar := parsed_page e (Sha.sha data) r st.chain (Sha.sha_size _)
    unfold putPages at hin ⊢
    by_cases hm : min r.size 437 = r.size
    · rw [if_pos hm] at hin ⊢
      have hi := hin st.next (Nat.le_refl _) (by omega)
      have hrd : rdOf (st.put e f (Sha.sha data) r).c f st.next = (pageCheck e (Sha.sha data) r st.chain ++ pageBody e (Sha.sha data) r, 0) := by
        rw [put_read _ _ _ _ _ _ hi, if_pos rfl]
      have hlast : lastOf r = 1 := by unfold lastOf; rw [if_pos hm]
      have hex : r.extract 0 (min r.size 437) = r := by
        rw [hm]
        apply Sha.ba_ext
        rw [Sha.ex_list, List.drop_zero, Nat.sub_zero, List.take_of_length_le (by rw [← size_list]; exact Nat.le_refl _)]
      have hc : catPg (s.open_ ++ [⟨pageCheck e (Sha.sha data) r st.chain, Sha.sha data, r.extract 0 (min r.size 437), lastOf r == 1⟩]) = data := by
        apply Sha.ba_ext
        show (catL _).toArray.toList = _
        rw [hex]
        unfold catL at hcat ⊢
        rw [List.flatMap_append]
        simpa using hcat
      refine .step (by rw [hrd]) (by rw [hrd]; exact hpar) (s1 := ⟨[], s.recs ++ [data], s.next + (s.open_.length + 1), pageCheck e (Sha.sha data) r st.chain⟩) ?_ ?_
      · unfold OSt.step
        rw [hoff _ rfl, hc]
        simp [hlast]
      · have he : s.next + (s.open_.length + 1) = st.next + 1 := by omega
        rw [he]
        exact .refl _ _ _
    · rw [if_neg hm] at hin ⊢
      have hs : (r.extract 437 r.size).size < n := by rw [ByteArray.size_extract]; omega
      have hnx2 := putPages_next e f (Sha.sha data) n (r.extract 437 r.size) (st.put e f (Sha.sha data) r) hs
      have hi := hin st.next (Nat.le_refl _) (by omega)
      have hrd : rdOf (putPages e f (Sha.sha data) n (r.extract 437 r.size) (st.put e f (Sha.sha data) r)).c f st.next = (pageCheck e (Sha.sha data) r st.chain ++ pageBody e (Sha.sha data) r, 0) := by
        rw [putPages_read e f (Sha.sha data) n _ _ hs st.next (by rw [put_durable]; exact hi) (.inl (by omega)), put_read _ _ _ _ _ _ hi, if_pos rfl]
      have hlast : (lastOf r == 1) = false := by unfold lastOf; rw [if_neg hm]; rfl
      have hmin : min r.size 437 = 437 := by omega
      refine .step (by rw [hrd]) (by rw [hrd]; exact hpar) (s1 := { s with open_ := s.open_ ++ [⟨pageCheck e (Sha.sha data) r st.chain, Sha.sha data, r.extract 0 (min r.size 437), lastOf r == 1⟩] }) ?_ ?_
      · unfold OSt.step
        rw [hoff _ rfl]
        simp [hlast]
      · refine putPages_run e f data n (r.extract 437 r.size) (st.put e f (Sha.sha data) r) _ hs (fun i h1 h3 => by rw [put_durable]; exact hin i (by omega) h3) ?_ ?_ ?_
        · intro q hq
          rcases List.mem_append.1 hq with hq | hq
          · exact hdg q hq
          · simp at hq; subst hq; rfl
        · show catL (s.open_ ++ [_]) ++ _ = _
          rw [← hcat]
          unfold catL
          rw [List.flatMap_append, List.append_assoc]
          congr 1
          show ((r.extract 0 (min r.size 437)).data.toList ++ []) ++ (r.extract 437 r.size).data.toList = _
          rw [hmin, List.append_nil, Sha.ex_list, Sha.ex_list, List.drop_zero, Nat.sub_zero, List.take_of_length_le (l := r.data.toList.drop 437) (by rw [List.length_drop, ← size_list]; exact Nat.le_refl _)]
          exact List.take_append_drop _ _
        · show s.next + (s.open_ ++ [_]).length = st.next + 1
          rw [List.length_append]
          show _ + (_ + 1) = _
          omega
end Go.Proofs.YtfgjjdjaiddllaaDoor
