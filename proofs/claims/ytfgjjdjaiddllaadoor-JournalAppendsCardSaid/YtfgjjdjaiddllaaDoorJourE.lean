/- The program's journal yields its valid pages. Conditions: the chain is short; what is read is a string of this machine's. -/
import Derived.Test.YtfgjjdjaiddllaaDoorJourD
import Derived.Test.YtfgjjdjaiddllaaDoorDiskF
import Derived.Test.YtfgjjdjaiddllaaDoorRangeGen
import Derived.OwnWalkIn
import Derived.TacticsInMore
import Derived.LoopNIn
import Derived.LoopIn
namespace Go.Proofs.YtfgjjdjaiddllaaDoor
set_option linter.unusedVariables false
set_option linter.unusedSimpArgs false
open Go Go.RowKit Go.Maps
attribute [local go_sem] Oper.semAt_some
/-- What the pages lean on: some journal lies at j's place, with j's region and epoch; the disk holds c. -/
def PagesAt (j : Jour) (d : DiskP) (c : DiskC) (w : World) : Prop := (∃ j' : Jour, JourAt w j' ∧ j'.jb = j.jb ∧ j'.da = j.da ∧ j'.first = j.first ∧ j'.count = j.count ∧ j'.epoch = j.epoch) ∧ DiskAt w d c
/-- From page to page. -/
def pgStep (j : Jour) (c : DiskC) (s : Nat × ByteArray) (p : Pg) (s' : Nat × ByteArray) : Prop :=
  s.1 < j.count ∧ (c.read ((j.first : Int) + s.1)).2 = 0 ∧ parsed j.epoch (c.read ((j.first : Int) + s.1)).1 s.2 = some p ∧ s' = (s.1 + 1, p.check)
def pgDone (j : Jour) (c : DiskC) (s : Nat × ByteArray) : Prop :=
  s.1 = j.count ∨ s.1 < j.count ∧ ((c.read ((j.first : Int) + s.1)).2 ≠ 0 ∨ parsed j.epoch (c.read ((j.first : Int) + s.1)).1 s.2 = Option.none)
theorem parsed_check {e : Nat} {s ch : ByteArray} {p : Pg} (h : parsed e s ch = some p) : p.check.size ≤ 32 := by
  unfold parsed at h
  split at h
  · cases h
    rw [ByteArray.size_extract]
    omega
  · cases h
set_option maxRecDepth 100000 in
set_option maxHeartbeats 4000000 in
theorem jPages_any (j : Jour) (d : DiskP) (c : DiskC) (n : Nat) (J : Nat × ByteArray → World → Prop) (hda : d.a = j.da) (he : j.epoch < 9223372036854775808) (hcnt : j.count ≤ 4096) (hfi : j.first ≤ 4096)
    (hch : j.chain.size ≤ 1000) (hp : c.pending.length ≤ 1000000) (hsz : ∀ p, (c.read p).1.size ≤ 9223372036854775000) (hJ : ∀ s W, J s W → PagesAt j d c W)
    (hJ0 : ∀ W, J (0, j.chain) W → W.cell? ⟨j.jb, 6, none⟩ = some (.string j.chain)) (hJc : ∀ s W, J s W → s.2.size ≤ 1000) :
    Iter (Lex.W none) n Tryd.prog 37 (fun l => #[.pointer (some ⟨j.jb, 0, none⟩)] ++ (#[.func (.yield l) #[] #[]] ++ #[])) (fun p : Pg => #[.agg p.row]) J (pgStep j c) (pgDone j c) (0, j.chain) := by
  intro l J' Jx' W hJJ hJb hY h0
  have hrr : (Lex.W none).round = none := rfl
  refine callsIn_of_wp Tryd.func37 rfl trivial ?_ rfl
  simp only [Tryd.ntmps37, List.size_toArray, List.length_cons, List.length_nil, Nat.reduceAdd, Nat.reduceSub, Array.replicate_succ, Array.replicate_zero, List.push_toArray, List.append_toArray, List.nil_append, List.cons_append]
  have hc5 := hJ0 W (hJJ _ _ h0)
  obtain ⟨⟨j0, hj0, e1, e2, e3, e4, e5⟩, hd0⟩ := hJ _ _ (hJJ _ _ h0)
  have hc2 := hj0.self.cell 2
  simp only [Jour.cells, List.getElem?_toArray, List.getElem?_cons_zero, List.getElem?_cons_succ] at hc2
  rw [e1, e4] at hc2
  clear hj0 e1 e2 e3 e4 e5 hd0 j0
  have H0 := Lib.hid h0; have HJJ := Lib.hid hJJ; have HJ := Lib.hid hJ; have HJb := Lib.hid hJb; have HJc := Lib.hid hJc; have HY := Lib.hid hY; have HSZ := Lib.hid hsz; have HCH := Lib.hid hch; have HDA := Lib.hid hda
  clear h0 hJJ hJ hJb hJc hY hsz hJ0 hch hda
  gi_wp2
  gi_loopw [4, 19] (fun ch i wr => ∃ (k : Nat) (chain : ByteArray), k ≤ j.count ∧ i = .int .i64 k ∧ ch = .string chain ∧ J' (k, chain) wr) (fun _ i _ => j.count - (intOf i).toNat)
  case atStart => exact ⟨0, j.chain, by omega, rfl, rfl, H0.out⟩
  case round =>
    obtain ⟨k, chain, hk, rfl, rfl, hs⟩ := hrel
    obtain ⟨⟨j0, hj0, e1, e2, e3, e4, e5⟩, hd0⟩ := HJ.out _ _ (HJJ.out _ _ hs)
    have hc0 := hj0.self.cell 0
    have hc1 := hj0.self.cell 1
    simp only [Jour.cells, List.getElem?_toArray, List.getElem?_cons_zero, List.getElem?_cons_succ] at hc0 hc1
    rw [e1, e2, ← HDA.out] at hc0
    rw [e1, e3] at hc1
    have hchn := HJc.out _ _ (HJJ.out _ _ hs)
    have HS := Lib.hid hs; clear hs
    have HD := Lib.hid hd0; have HJ0 := Lib.hid hj0; clear hd0 hj0
    have HE1 := Lib.hid e1; have HE5 := Lib.hid e5; clear e1 e2 e3 e4 e5
    by_cases hlt : k < j.count
    · have dk : decide ((k : Int) < j.count) = true := by simp; omega
      have hrs := HSZ.out ((j.first : Int) + k)
      obtain ⟨rd, hrd⟩ : ∃ rd, rd = c.read ((j.first : Int) + k) := ⟨_, rfl⟩
      obtain ⟨s, e⟩ := rd
      rw [← hrd] at hrs
      have HRD := Lib.hid hrd; clear hrd
      have hJd : J' (k, chain) wr.drew := HJb.out _ _ _ HS.out (Below.refl _ _).drew
      have HSd := Lib.hid hJd; clear hJd
      have hDd : DiskAt wr.drew d c := HD.out.keep fun _ _ => rfl
      have HDd := Lib.hid hDd; clear hDd
      by_cases hee : e = 0
      · subst hee
        have hpar := parse_any j0 s chain wr.drew (HJ0.out.keep fun _ _ => rfl) hchn (by rw [HE5.out]; exact he) hrs
        rw [HE1.out, HE5.out] at hpar
        cases hpd : parsed j.epoch s chain with
        | none =>
          rw [hpd, show parsedRow Option.none = #[.string ⟨#[]⟩, .string ⟨#[]⟩, .string ⟨#[]⟩, .bool false] from rfl, show (Option.none : Option Pg).isSome = false from rfl] at hpar
          have HPD := Lib.hid hpd; clear hpd
          have HP := Lib.hid hpar; clear hpar
          gi_wp2
          refine Lex.wpIn_region_lex (by kernel_rfl) (by kernel_rfl) (by kernel_rfl) ?_
          go_wp2_with fail
          refine (dRead_any d c _ _ hp HDd.out).mono ?_
          rintro e' w' ⟨rfl, rfl⟩
          rw [← HRD.out]
          go_wp2_with fail
          refine Lex.Ends.intro (by kernel_rfl) ?_
          gi_wp2
          refine ⟨trivial, fun h => (by cases h), (Lex.callsW HP.out).mono ?_⟩
          rintro e' w1 ⟨rfl, hB⟩
          have hJ1 := HJb.out _ _ _ HSd.out hB
          have HJ1 := Lib.hid hJ1; clear hJ1 hB
          gi_wp2
          refine ⟨fun _ h => (by cases h), ?_⟩
          gi_wp2
          refine bodyPost_ret (results_none rfl _ _ _) rfl ⟨⟨_, rfl⟩, .inl ⟨(k, chain), .inr ⟨hlt, .inr ?_⟩, HJb.out _ _ _ HJ1.out ((Below.refl _ _).alloc (Nat.le_refl _) _)⟩⟩
          rw [← HRD.out]
          exact HPD.out
        | some p =>
          rw [hpd, show parsedRow (some p) = #[.string p.check, .string p.digest, .string p.data, .bool p.last] from rfl, show (some p).isSome = true from rfl] at hpar
          have hstep : pgStep j c (k, chain) p (k + 1, p.check) := ⟨hlt, by rw [← HRD.out], by rw [← HRD.out]; exact hpd, rfl⟩
          have HST := Lib.hid hstep; clear hstep
          have HPD := Lib.hid hpd; clear hpd
          have HP := Lib.hid hpar; clear hpar
          gi_wp2
          refine Lex.wpIn_region_lex (by kernel_rfl) (by kernel_rfl) (by kernel_rfl) ?_
          go_wp2_with fail
          refine (dRead_any d c _ _ hp HDd.out).mono ?_
          rintro e' w' ⟨rfl, rfl⟩
          rw [← HRD.out]
          go_wp2_with fail
          refine Lex.Ends.intro (by kernel_rfl) ?_
          gi_wp2
          refine ⟨trivial, fun h => (by cases h), (Lex.callsW HP.out).mono ?_⟩
          rintro e' w1 ⟨rfl, hB⟩
          have hbw : Below wr.heap.size wr (w1.alloc (.cells #[.string p.check, .string p.digest, .string p.data, .bool p.last] 90)) := ((Below.refl wr.heap.size wr).drew.trans hB).alloc hB.size _
          have hsz1 : wr.heap.size ≤ w1.heap.size := hB.size
          have HSZ1 := Lib.hid hsz1; clear hsz1
          obtain ⟨fn, tmps, assign, body, hy, hR⟩ := HY.out (k, chain) p (k + 1, p.check) wr _ HS.out hbw HST.out
          simp only [Pg.row] at hy
          clear hB hbw
          gi_wp2
          refine ⟨fun h => (by cases h), hR.mono ?_⟩
          rintro e W3 (⟨rfl, hJ3, hk3⟩ | ⟨rfl, hJx3⟩)
          · have hc8 : W3.cell? ⟨w1.heap.size, 0, none⟩ = some (.string p.check) := by
              have h1 := At.new w1 90 #[.string p.check, .string p.digest, .string p.data, .bool p.last]
              have h2 : At W3 w1.heap.size 90 #[.string p.check, .string p.digest, .string p.data, .bool p.last] := h1.keep (hk3 _ HSZ1.out (by simp))
              exact h2.cell 0
            have HJ3 := Lib.hid hJ3; clear hJ3 hk3
            gi_wp2
            go_roundw
            case rel => exact ⟨k + 1, p.check, by omega, by go_num, rfl, HJ3.out⟩
            case measure => simp [intOf]; omega
          · gi_wp2
            refine bodyPost_ret (results_none rfl _ _ _) rfl ?_
            exact ⟨⟨_, rfl⟩, .inr hJx3⟩
      · have de : (e != 0) = true := by simp [hee]
        gi_wp2
        refine Lex.wpIn_region_lex (by kernel_rfl) (by kernel_rfl) (by kernel_rfl) ?_
        go_wp2_with fail
        refine (dRead_any d c _ _ hp HDd.out).mono ?_
        rintro e' w' ⟨rfl, rfl⟩
        rw [← HRD.out]
        go_wp2_with fail
        refine Lex.Ends.intro (by kernel_rfl) ?_
        gi_wp2
        refine bodyPost_ret (results_none rfl _ _ _) rfl ⟨⟨_, rfl⟩, .inl ⟨(k, chain), .inr ⟨hlt, .inl ?_⟩, HSd.out⟩⟩
        rw [← HRD.out]
        exact hee
    · have hk' : k = j.count := by omega
      have dk : decide ((k : Int) < j.count) = false := by simp; omega
      have HK := Lib.hid hk'; clear hk'
      gi_wp2
      refine bodyPost_end (results_none rfl _ _ _) rfl ⟨⟨_, rfl⟩, .inl ⟨(k, chain), .inl HK.out, HS.out⟩⟩
end Go.Proofs.YtfgjjdjaiddllaaDoor
