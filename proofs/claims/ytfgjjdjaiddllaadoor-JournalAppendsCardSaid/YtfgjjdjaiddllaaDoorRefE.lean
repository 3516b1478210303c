/- The reference's disk: Read. Conditions: those of each law. -/
import Derived.Test.YtfgjjdjaiddllaaDoorRefD
import Derived.Test.YtfgjjdjaiddllaaDoorJourR
import Derived.Test.YtfgjjdjaiddllaaDoorJourI
import Derived.Test.YtfgjjdjaiddllaaDoorLawA
namespace Go.Proofs.YtfgjjdjaiddllaaDoor
set_option linter.unusedVariables false
set_option linter.unusedSimpArgs false
open Go Go.RowKit Go.Maps
theorem StrsC.cellAt {w : World} {b o n c k : Nat} {xs : List ByteArray} (h : StrsC w (.slice (some ⟨b, o, none⟩) n c) xs) (hk : k < xs.length) : w.cell? ⟨b, o + k, none⟩ = some (.string (xs.getD k ⟨#[]⟩)) := by
  obtain ⟨a', c', he', h0 | ⟨b', o', e', hc'⟩⟩ := h
  · omega
  · cases he'
    cases e'
    exact hc' k hk
theorem StrsC.addrOf {w : World} {a : Option Addr} {n c k : Nat} {xs : List ByteArray} (h : StrsC w (.slice a n c) xs) (hk : k < xs.length) : ∃ b o, a = some ⟨b, o, none⟩ := by
  obtain ⟨a', c', he', h0 | ⟨b', o', e', hc'⟩⟩ := h
  · omega
  · cases he'
    exact ⟨b', o', e'⟩
/-- Pending writes, as cells. -/
def pendRow (l : List (Nat × ByteArray)) : List Value := l.flatMap fun x => [.int .i64 x.1, .string x.2]
theorem pendRow_len (l : List (Nat × ByteArray)) : (pendRow l).length = l.length * 2 := by
  induction l with
  | nil => rfl
  | cons x l ih => simp only [pendRow, List.flatMap_cons, List.length_append, List.length_cons, List.length_nil] at ih ⊢; omega
theorem pendRow_get (l : List (Nat × ByteArray)) (i : Nat) (h : i < l.length) : (pendRow l)[i * 2]? = some (.int .i64 l[i].1) ∧ (pendRow l)[i * 2 + 1]? = some (.string l[i].2) := by
  induction l generalizing i with
  | nil => cases h
  | cons x l ih =>
    match i with
    | 0 => exact ⟨rfl, rfl⟩
    | i + 1 =>
      have := ih i (by simpa using h)
      rw [show (i + 1) * 2 = i * 2 + 2 by omega]
      exact this
theorem pendRow_snoc (l : List (Nat × ByteArray)) (x : Nat × ByteArray) : pendRow (l ++ [x]) = pendRow l ++ [.int .i64 x.1, .string x.2] := by simp [pendRow]
/-- A slice of pending writes, as it is read. -/
def PendC (w : World) (v : Value) (l : List (Nat × ByteArray)) : Prop :=
  ∃ a c, v = .slice a l.length c ∧ ((l.length = 0 ∧ a = none ∧ c = 0) ∨ ∃ b, a = some ⟨b, 0, none⟩ ∧ b < w.heap.size ∧ ∀ j x, (pendRow l)[j]? = some x → w.cell? ⟨b, j, none⟩ = some x)
theorem PendC.below {w w' : World} {v : Value} {l : List (Nat × ByteArray)} (h : PendC w v l) (hb : Below w.heap.size w w') : PendC w' v l := by
  obtain ⟨a, c, he, h0 | ⟨b, ha, hl, hc⟩⟩ := h
  · exact ⟨a, c, he, .inl h0⟩
  · exact ⟨a, c, he, .inr ⟨b, ha, Nat.lt_of_lt_of_le hl hb.size, fun j x hx => (hb.cell (p := ⟨b, j, none⟩) hl).trans (hc j x hx)⟩⟩
theorem PendC.own {w : World} {base : Nat} {v : Value} {l : List (Nat × ByteArray)} (h : w.ownsRow base 80 2 v l.length (pendRow l)) : PendC w v l := by
  by_cases h0 : 0 < l.length
  · obtain ⟨g, cap, rfl, hc⟩ := own_cell h h0
    exact ⟨_, _, rfl, .inr ⟨g, rfl, (row_blk h).2, hc⟩⟩
  · have hl : l = [] := List.eq_nil_of_length_eq_zero (by omega)
    subst hl
    obtain ⟨_, ⟨rfl, hn⟩ | ⟨g, cap, cur, rfl, _, hg, _⟩⟩ := h
    · exact ⟨none, 0, rfl, .inl ⟨rfl, rfl, rfl⟩⟩
    · exact ⟨_, _, rfl, .inr ⟨g, rfl, lt_of_block hg, fun j x hx => by simp [pendRow] at hx⟩⟩
/-- What a page reads as, when the first i writes have been looked at. -/
def readUpto (c : DiskC) (p i : Nat) : ByteArray := match lastIdx (c.pending.take i) p with
  | some j => (c.pending.getD j (0, ⟨#[]⟩)).2
  | none => c.durable.getD p ⟨#[]⟩
theorem lastIdx_end (l : List (Nat × ByteArray)) (x : Nat × ByteArray) (p : Nat) : lastIdx (l ++ [x]) p = if x.1 = p then some l.length else lastIdx l p := by
  induction l with
  | nil => rfl
  | cons y l ih =>
    rw [List.cons_append, lastIdx, ih, lastIdx]
    by_cases h : x.1 = p
    · simp [h]
    · simp [h]
theorem readUpto_zero (c : DiskC) (p : Nat) : readUpto c p 0 = c.durable.getD p ⟨#[]⟩ := rfl
theorem readUpto_succ (c : DiskC) (p i : Nat) (h : i < c.pending.length) : readUpto c p (i + 1) = if c.pending[i].1 = p then c.pending[i].2 else readUpto c p i := by
  unfold readUpto
  rw [List.take_succ_eq_append_getElem h, lastIdx_end]
  by_cases hp : c.pending[i].1 = p
  · rw [if_pos hp, if_pos hp, List.length_take, Nat.min_eq_left (by omega)]
    simp [List.getD_eq_getElem?_getD, h]
  · rw [if_neg hp, if_neg hp]
theorem read_upto (c : DiskC) (p : Nat) (h : p < c.durable.length) (hs : ∀ x ∈ c.pending, x.2.size = 512) :
    c.read p = if (readUpto c p c.pending.length).toList == torn.toList then (⟨#[]⟩, 21) else (readUpto c p c.pending.length, 0) := by
  unfold DiskC.read readUpto
  rw [if_pos (by omega), List.take_length, Int.toNat_natCast]
  cases hl : lastIdx c.pending p with
  | none => rfl
  | some i =>
    have hi := lastIdx_lt _ _ _ hl
    have hz := hs _ (List.getElem_mem hi)
    have e : c.pending.getD i (0, ⟨#[]⟩) = c.pending[i] := by simp [List.getD_eq_getElem?_getD, hi]
    simp only [e]
    rw [if_neg]
    intro h2
    have h3 : c.pending[i].2.toList = torn.toList := by simpa using h2
    have h4 : c.pending[i].2.toList.length = torn.toList.length := by rw [h3]
    rw [toArray_toList, toArray_toList, hz] at h4
    revert h4
    decide
set_option maxRecDepth 100000 in
set_option maxHeartbeats 2000000 in
theorem r50Read_any (dv pv : Value) (c : DiskC) (p : Int) (w : World) (hd : StrsC w dv c.durable) (hp : PendC w pv c.pending) (hps : ∀ x ∈ c.pending, x.2.size = 512) (hl : c.pending.length ≤ 1000000) (hn : c.durable.length ≤ 1000000) :
    Calls Tryd.prog 66 #[.agg #[dv, pv], .int .i64 p] w fun e w' => e = .returned (.tuple #[.string (c.read p).1, .int .i64 (c.read p).2]) ∧ Below w.heap.size w w' := by
  obtain ⟨da, dc, rfl⟩ := hd.len
  obtain ⟨pa, pc, rfl, hpc⟩ := hp
  have HD := Lib.hid hd; have HPC := Lib.hid hpc; have HPS := Lib.hid hps; clear hd hpc hps
  have hbox : At (w.alloc (.cells #[.slice da c.durable.length dc, .slice pa c.pending.length pc] 29)) w.heap.size 29 #[.slice da c.durable.length dc, .slice pa c.pending.length pc] := At.new _ _ _
  have HB := Lib.hid hbox; clear hbox
  go_enter Tryd.func66, Tryd.ntmps66
  by_cases hr : 0 ≤ p ∧ p < c.durable.length
  · obtain ⟨q, rfl⟩ : ∃ q : Nat, p = q := ⟨p.toNat, by omega⟩
    have hq : q < c.durable.length := by omega
    have d1 : decide ((q : Int) < 0) = false := by simp
    have d2 : decide ((c.durable.length : Int) ≤ q) = false := by simp; omega
    have b0 : Below w.heap.size w (w.alloc (.cells #[.slice da c.durable.length dc, .slice pa c.pending.length pc] 29)) := (Below.refl _ _).alloc (Nat.le_refl _) _
    obtain ⟨b, o, rfl⟩ := StrsC.addrOf HD.out hq
    have ce := StrsC.cellAt (StrsC.below HD.out b0) hq
    have B0 := Lib.hid b0; clear b0
    go_wp2_with fail
    obtain ⟨w1, hw1⟩ : ∃ x, x = w.alloc (.cells #[.slice (some ⟨b, o, none⟩) c.durable.length dc, .slice pa c.pending.length pc] 29) := ⟨_, rfl⟩
    rw [← hw1] at HB B0 ⊢
    clear hw1 ce
    have k0 := HB.out.cell 0; have k1 := HB.out.cell 1
    simp only [List.getElem?_toArray, List.getElem?_cons_zero, List.getElem?_cons_succ] at k0 k1
    go_loopw [6, 7] (fun s i wr => ∃ k : Nat, k ≤ c.pending.length ∧ i = .int .i64 k ∧ s = .string (readUpto c q k) ∧ wr = w1) (fun _ i _ => c.pending.length - (intOf i).toNat)
    case atStart => exact ⟨0, by omega, rfl, by rw [readUpto_zero, List.getD_eq_getElem?_getD, List.getElem?_eq_getElem hq]; rfl, rfl⟩
    case round =>
      obtain ⟨k, hk, rfl, rfl, rfl⟩ := hrel
      by_cases hlt : k < c.pending.length
      · have dk : decide ((k : Int) < c.pending.length) = true := by simp; omega
        obtain ⟨b2, rfl, hb2, hc2⟩ := HPC.out.resolve_left (fun h => by have := h.1; omega)
        have hg := pendRow_get c.pending k hlt
        have e1 := (B0.out.cell (p := ⟨b2, k * 2, none⟩) hb2).trans (hc2 _ _ hg.1)
        have e2 := (B0.out.cell (p := ⟨b2, k * 2 + 1, none⟩) hb2).trans (hc2 _ _ hg.2)
        have hst := readUpto_succ c q k hlt
        by_cases heq : c.pending[k].1 = q
        · rw [if_pos heq] at hst
          rw [heq] at e1
          have HST := Lib.hid hst; have HEQ := Lib.hid heq; clear hst heq hg
          generalize c.pending[k].2 = x at *
          have HC2 := Lib.hid hc2; clear hc2
          go_wp2_with fail
          refine ⟨⟨k + 1, by omega, by go_num, by rw [HST.out], by first | rfl | trivial⟩, by simp [intOf]; omega⟩
        · rw [if_neg heq] at hst
          have hne : ((c.pending[k].1 : Int) == q) = false := by simp; omega
          have HST := Lib.hid hst; clear hst hg
          generalize c.pending[k].1 = y at *
          generalize c.pending[k].2 = x at *
          have HC2 := Lib.hid hc2; clear hc2
          go_wp2_with fail
          refine ⟨⟨k + 1, by omega, by go_num, by rw [HST.out], by first | rfl | trivial⟩, by simp [intOf]; omega⟩
      · have hk' : k = c.pending.length := by omega
        have dk : decide ((k : Int) < c.pending.length) = false := by simp; omega
        have hru := read_upto c q hq HPS.out
        rw [← hk'] at hru
        have HK := Lib.hid hk'; clear hk'
        by_cases ht : ((readUpto c q k).toList == torn.toList) = true
        · rw [if_pos ht] at hru
          have HRU := Lib.hid hru; clear hru
          generalize readUpto c q k = s at *
          have ht' : (s.toList == [33]) = true := by rw [← torn_list]; exact ht
          clear ht
          go_wp2_with fail
          go_ret2
          exact ⟨by rw [HRU.out]; rfl, B0.out⟩
        · have ht2 : ((readUpto c q k).toList == torn.toList) = false := by simpa using ht
          rw [if_neg ht] at hru
          have HRU := Lib.hid hru; clear hru ht
          generalize readUpto c q k = s at *
          have ht' : (s.toList == [33]) = false := by rw [← torn_list]; exact ht2
          clear ht2
          go_wp2_with fail
          go_ret2
          exact ⟨by rw [HRU.out]; rfl, B0.out⟩
  · have hrd : c.read p = (⟨#[]⟩, 2) := by
      unfold DiskC.read
      rw [if_neg hr]
    have HRD := Lib.hid hrd; clear hrd
    have b0 : Below w.heap.size w (w.alloc (.cells #[.slice da c.durable.length dc, .slice pa c.pending.length pc] 29)) := (Below.refl _ _).alloc (Nat.le_refl _) _
    have B0 := Lib.hid b0; clear b0
    by_cases h0 : p < 0
    · have d1 : decide (p < 0) = true := by simp; omega
      go_wp2_with fail
      go_ret2
      exact ⟨by rw [HRD.out]; rfl, B0.out⟩
    · have d1 : decide (p < 0) = false := by simp; omega
      have d2 : decide ((c.durable.length : Int) ≤ p) = true := by simp; omega
      go_wp2_with fail
      go_ret2
      exact ⟨by rw [HRD.out]; rfl, B0.out⟩
end Go.Proofs.YtfgjjdjaiddllaaDoor
