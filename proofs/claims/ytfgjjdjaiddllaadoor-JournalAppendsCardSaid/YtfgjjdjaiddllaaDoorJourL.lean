/- The program's journal: Append writes the pages of a record. Conditions: the record fits; few writes are pending or recorded. -/
import Derived.Test.YtfgjjdjaiddllaaDoorJourJ
import Derived.Test.YtfgjjdjaiddllaaDoorJourK
namespace Go.Proofs.YtfgjjdjaiddllaaDoor
set_option linter.unusedVariables false
set_option linter.unusedSimpArgs false
open Go Go.RowKit Go.Maps
/-- What Append leaves. -/
def AppendPost (w : World) (j : Jour) (d : DiskP) (c : DiskC) (s : ByteArray) (e : Ending) (w' : World) : Prop :=
  e = .returned (.int .i64 0) ∧ ∃ j' d', JDStep w w' j j' d d' ((allPages j.epoch j.first s ⟨j.next, j.chain, c⟩).c.synced.note ⟨0, ⟨#[]⟩, true⟩) ∧
    j'.recs = j.recs ++ [s] ∧ j'.next = (allPages j.epoch j.first s ⟨j.next, j.chain, c⟩).next ∧ j'.chain = (allPages j.epoch j.first s ⟨j.next, j.chain, c⟩).chain
theorem pagesOf_step {n : Nat} (h : 437 < n) (h2 : n ≤ 65536) : pagesOf n = pagesOf ((n - 437 : Nat) : Int) + 1 := by
  unfold pagesOf
  rw [if_neg (by omega), if_neg (by omega), if_neg (by omega), if_neg (by omega)]
  omega
theorem pagesOf_one {n : Nat} (h : n ≤ 437) : pagesOf n = 1 := by
  unfold pagesOf
  rw [if_neg (by omega)]
  split
  · rfl
  · omega
theorem pagesOf_pos {n : Nat} (h2 : n ≤ 65536) : 1 ≤ pagesOf n := by
  unfold pagesOf
  rw [if_neg (by omega)]
  split
  · omega
  · omega
theorem synced_len (c : DiskC) : c.synced.durable.length = c.durable.length := flush_len _ _
/-- What holds between two pages. -/
def AppI (w2 : World) (j : Jour) (d : DiskP) (dg : ByteArray) (tot : PSt) (c : DiskC) (rest : Value) (wr : World) : Prop :=
  ∃ r j1 d1 st, rest = .string r ∧ JDStep w2 wr j j1 d d1 st.c ∧ j1.next = st.next ∧ j1.chain = st.chain ∧ j1.recs = j.recs ∧ putPages j.epoch j.first dg (r.size + 1) r st = tot ∧ pagesOf r.size + st.next ≤ j.count ∧
    st.c.pending.length ≤ c.pending.length + st.next ∧ st.c.recorded.length ≤ c.recorded.length + st.next ∧ st.chain.size ≤ 1000 ∧ r.size ≤ 65536 ∧ st.c.durable.length = c.durable.length
def sizeOfV : Value → Nat
  | .string r => r.size
  | _ => 0
set_option maxRecDepth 100000 in
set_option maxHeartbeats 8000000 in
theorem jAppend_ok (j : Jour) (d : DiskP) (c : DiskC) (s : ByteArray) (w : World) (h : JD w j d c) (hs : s.size ≤ 65536) (hf : pagesOf s.size ≤ (j.count : Int) - j.next) (he : j.epoch < 9223372036854775808) (hch : j.chain.size ≤ 1000)
    (hpl : c.pending.length ≤ 500000) (hrl : c.recorded.length ≤ 500000) (hfew : j.recs.length < 1000000) :
    Calls Tryd.prog 19 #[.pointer (some ⟨j.jb, 0, none⟩), .string s] w (AppendPost w j d c s) := by
  obtain ⟨N, hN⟩ : ∃ N, N = pagesOf s.size := ⟨_, rfl⟩
  rw [← hN] at hf
  have HN := Lib.hid hN; clear hN
  have H := Lib.hid h; clear h
  go_enter Tryd.func19, Tryd.ntmps19
  go_wp2_with fail
  refine (need_any _ _).mono ?_
  rintro e w ⟨rfl, rfl⟩
  rw [← HN.out]
  go_wp2_with fail
  refine (jFree_any j _ H.out.jour).mono ?_
  rintro e w1 ⟨rfl, rfl⟩
  go_wp2_with fail
  refine (sum_any s _ (by omega)).mono ?_
  rintro e w2 ⟨rfl, hb2⟩
  obtain ⟨dg, hdg⟩ : ∃ dg, dg = Sha.sha s := ⟨_, rfl⟩
  rw [← hdg]
  have hdgs : dg.size ≤ 32 := by rw [hdg, Sha.sha_size]; omega
  have HDG := Lib.hid hdg; clear hdg
  have hbw : Below w.heap.size w w2 := ((Below.refl w.heap.size w).drew).trans hb2
  have hst := H.out.below hbw
  have HST := Lib.hid hst; clear hst hbw hb2
  obtain ⟨tot, htot⟩ : ∃ tot, tot = putPages j.epoch j.first dg (s.size + 1) s ⟨j.next, j.chain, c⟩ := ⟨_, rfl⟩
  have HT := Lib.hid htot; clear htot
  have hcnt := H.out.jour.count
  have hinn := H.out.inn
  have hdm := H.out.disk.most
  have hJD2 := HST.out.at_
  have HJD2 := Lib.hid hJD2; clear hJD2
  go_wp2_with fail
  go_loopw [6] (fun rest wr => AppI w2 j d dg tot c rest wr) (fun rest _ => sizeOfV rest)
  case atStart =>
    refine ⟨s, j, d, ⟨j.next, j.chain, c⟩, rfl, JDStep.refl HJD2.out, rfl, rfl, rfl, HT.out.symm, by rw [← HN.out]; show N + (j.next : Int) ≤ _; omega, by simp, by simp, hch, hs, rfl⟩
  case round =>
    obtain ⟨r, ⟨jb1, da1, fi1, co1, ep1, rv1, rs1, n1, ch1⟩, d1, st, rfl, hstep, hnx, hchn, hrec, htot, hfit, hp1, hr1, hcs, hrs, hdl⟩ := hrel
    have e1 : jb1 = j.jb := hstep.jb
    have e2 : d1.a = da1 := hstep.at_.da
    have e3 : fi1 = j.first := hstep.first
    have e4 : co1 = j.count := hstep.count
    have e5 : ep1 = j.epoch := hstep.epoch
    simp only at hnx hchn hrec
    subst e1 e2 e3 e4 e5 hnx hchn hrec
    have hJ := hstep.at_
    have c3 := hJ.jour.self.cell 3
    simp only [Jour.cells, List.getElem?_toArray, List.getElem?_cons_zero, List.getElem?_cons_succ] at c3
    have hjl := hJ.jour.self.lt
    have HS := Lib.hid hstep; have HTO := Lib.hid htot; have HDL := Lib.hid hdl
    clear hstep htot hdl hJ
    have hpos := pagesOf_pos hrs
    by_cases hl : r.size ≤ 437
    · have hmin : min (r.size : Int) 437 = r.size := by omega
      have hbd : pageBody j.epoch dg r = big j.epoch 8 ++ ⟨#[1]⟩ ++ big r.size 2 ++ dg ++ r.extract 0 r.size ++ zeros (437 - r.size) := by
        unfold pageBody lastOf
        rw [show min r.size 437 = r.size by omega, if_pos rfl]
        rfl
      have HBD := Lib.hid hbd; clear hbd
      go_wp2_with fail
      refine append_body (by kernel_rfl) j.jb j.epoch r.size dg r 1 wr he hl (Nat.le_refl _) hrs hdgs hjl c3 ?_
      intro v w5 hb5
      rw [← HBD.out, show ((UInt8.toNat 1 : Nat) : Int) = 1 from rfl]
      dsimp only
      have hJ5 := HS.out.at_.below (w' := w5) hb5
      have HS5 := Lib.hid (HS.out.trans hJ5)
      obtain ⟨BD, hBDe⟩ : ∃ BD, BD = pageBody j.epoch dg r := ⟨_, rfl⟩
      rw [← hBDe]
      have hbsz : BD.size = 480 := by rw [hBDe]; exact pageBody_size _ _ _ (by rw [HDG.out]; exact Sha.sha_size _)
      have hbsl : BD.size ≤ 480 := by omega
      have HBE := Lib.hid hBDe; have HBZ := Lib.hid hbsz; clear hBDe hbsz c3 hjl hb5 hJ5
      have c6 := HS5.out.at_.jour.self.cell 6
      simp only [Jour.cells, List.getElem?_toArray, List.getElem?_cons_zero, List.getElem?_cons_succ] at c6
      go_wp2_with fail
      refine (sum_any _ _ (by rw [Sha.app_size, Sha.app_size]; show 1 + _ + _ ≤ _; omega)).mono ?_
      rintro e w6 ⟨rfl, hb6⟩
      obtain ⟨CK, hCK⟩ : ∃ CK, CK = Sha.sha (⟨#[8]⟩ ++ st.chain ++ BD) := ⟨_, rfl⟩
      rw [← hCK]
      have hcks : CK.size = 32 := by rw [hCK]; exact Sha.sha_size _
      have hckl : CK.size ≤ 32 := by omega
      have HCK := Lib.hid hCK; have HCKS := Lib.hid hcks
      have hJ6 := HS5.out.at_.below hb6
      have hS7 := (HS5.out.trans hJ6).trans (hJ6.at_.setChain CK)
      have z6 : w6.frozen? ⟨j.jb, 6, none⟩ = false := hJ6.at_.jour.self.free 6
      have d6 := hJ6.at_.jour.self.cell 6
      simp only [Jour.cells, List.getElem?_toArray, List.getElem?_cons_zero, List.getElem?_cons_succ] at d6
      have HS7 := Lib.hid hS7
      clear hCK hcks hb6 hJ6 c6 hS7
      go_wp2_with fail
      clear z6 d6
      generalize w6.setCell ⟨j.jb, 6, none⟩ (.string CK) = w7 at *
      have c0 := HS7.out.at_.jour.self.cell 0; have c1 := HS7.out.at_.jour.self.cell 1; have c5 := HS7.out.at_.jour.self.cell 5; have c6 := HS7.out.at_.jour.self.cell 6
      simp only [Jour.cells, List.getElem?_toArray, List.getElem?_cons_zero, List.getElem?_cons_succ] at c0 c1 c5 c6
      have hW := dWrite_any d1 st.c (j.first + st.next) (CK ++ BD) w7.drew (by have := HDL.out; omega) (by rw [Sha.app_size, HCKS.out, HBZ.out]) (by omega) (by omega) (HS7.out.at_.disk.keep fun _ _ => rfl)
      rw [Int.natCast_add] at hW
      have HW := Lib.hid hW; clear hW
      refine Lex.wp_region_lex (by kernel_rfl) (by kernel_rfl) ?_
      go_wp2_with fail
      refine HW.out.mono ?_
      rintro e w8 ⟨rfl, d2, hd2⟩
      have hJ7d := (HS7.out.at_).below (Below.refl _ _).drew
      have hS8a := (HS7.out.trans hJ7d).trans (hJ7d.at_.disked hd2 (by rw [note_durable]; rfl))
      have HS8 := Lib.hid hS8a; clear hS8a hd2 hJ7d c0 c1 c5 c6
      go_wp2_with fail
      refine Lex.Ends.intro (by kernel_rfl) ?_
      have c5 := HS8.out.at_.jour.self.cell 5
      simp only [Jour.cells, List.getElem?_toArray, List.getElem?_cons_zero, List.getElem?_cons_succ] at c5
      have z5 : w8.frozen? ⟨j.jb, 5, none⟩ = false := HS8.out.at_.jour.self.free 5
      have hS9 := HS8.out.trans ((HS8.out.at_).setNext (st.next + 1) (by show _ ≤ j.count; omega))
      rw [Int.natCast_add] at hS9
      have hput : (st.put j.epoch j.first dg r).c = (st.c.wrote (j.first + st.next) (CK ++ BD)).note ⟨((j.first + st.next : Nat) : Int), CK ++ BD, false⟩ := by
        show (st.c.wrote _ (pageCheck _ _ _ _ ++ pageBody _ _ _)).note ⟨_, pageCheck _ _ _ _ ++ pageBody _ _ _, false⟩ = _
        rw [← HBE.out, show pageCheck j.epoch dg r st.chain = CK by unfold pageCheck; rw [← HBE.out]; exact HCK.out.symm]
      rw [Int.natCast_add] at hput
      have HPUT := Lib.hid hput
      have HS9 := Lib.hid hS9; clear hS9 hput
      have htt : tot = st.put j.epoch j.first dg r := by
        rw [← HTO.out]
        show (if min r.size 437 = r.size then _ else _) = _
        rw [if_pos (by omega)]
      have HTT := Lib.hid htt; clear htt
      have c0 := HS8.out.at_.jour.self.cell 0
      simp only [Jour.cells, List.getElem?_toArray, List.getElem?_cons_zero, List.getElem?_cons_succ] at c0
      have hda2 : d2.a = d1.a := HS8.out.at_.da
      rw [← hda2] at c0
      clear hda2
      go_wp2_with fail
      refine (dSync_any d2 _ _ ?_ ?_ HS9.out.at_.disk).mono ?_
      · rw [← HPUT.out, put_pending]; omega
      · have := put_recorded st j.epoch j.first dg r
        rw [HPUT.out] at this
        omega
      rintro e w10 ⟨rfl, d3, hd3⟩
      have hS10 := HS9.out.trans (HS9.out.at_.disked hd3 (by rw [note_durable, synced_len]))
      rw [← HPUT.out] at hS10
      have HS10 := Lib.hid hS10; clear hS10 hd3 c0 c5 z5
      obtain ⟨i1, hi, hz0, hz1, hz2⟩ := info_parts info_str
      have c4 := HS10.out.at_.jour.self.cell 4
      have z4 : w10.frozen? ⟨j.jb, 4, none⟩ = false := HS10.out.at_.jour.self.free 4
      simp only [Jour.cells, List.getElem?_toArray, List.getElem?_cons_zero, List.getElem?_cons_succ] at c4
      have hrows := HS10.out.at_.jour.recs
      have HROWS := Lib.hid hrows; clear hrows
      go_wp2_with (at_builtin; go_must (refine wpList_append_own_at _ rfl _ _ 22 rfl 0 9 i1 _ 1 16 Tryd.underlying22 hi hz0 hz1 hz2 rfl (by omega) rv1 j.recs.length (j.recs.map Value.string) rfl (HROWS.out.alloc _) ⟨w10.heap.size, 0, none⟩ 1 1 [.string s] rfl rfl ?c1 ?c2 ?c3 ?c4 ?c5 ?_))
      case c1 =>
        intro j u hj
        match j, hj with
        | 0, hj => simp at hj; subst hj; simp [Addr.add]
      case c2 => intro u hu; simp at hu; subst hu; rfl
      case c3 => unfold maxLen; omega
      case c4 => omega
      case c5 => omega
      intro v2 w15 how hg _ hb'
      have hbel : Below w10.heap.size w10 (w10.alloc (.cells #[.string s] 9)) := (Below.refl _ _).alloc (Nat.le_refl _) _
      have hfin := HS10.out.trans (HS10.out.at_.recorded (rs := j.recs ++ [s]) hbel hg (by rw [List.length_append, List.map_append]; exact how) (hb'.imp id (fun h => ⟨_, h, by simp⟩)) (by rw [List.length_append]; show _ + 1 ≤ _; omega))
      obtain ⟨g2, cap2, rfl, _⟩ := own_cell how (by omega)
      have s15 := At.grown (HS10.out.at_.jour.self.alloc (.cells #[.string s] 9)) hg (by intro e; exact HS10.out.at_.jour.rv_jb e.symm)
      have k4 := s15.cell 4
      simp only [Jour.cells, List.getElem?_toArray, List.getElem?_cons_zero, List.getElem?_cons_succ] at k4
      have zz4 : w15.frozen? ⟨j.jb, 4, none⟩ = false := s15.free 4
      have HFIN := Lib.hid hfin
      clear how hg hb' hbel hfin s15
      go_wp2_with fail
      go_ret
      have hall : allPages j.epoch j.first s ⟨j.next, j.chain, c⟩ = st.put j.epoch j.first dg r := by
        unfold allPages
        rw [← HDG.out, ← HT.out]
        exact HTT.out
      refine ⟨rfl, { jb := j.jb, da := d1.a, first := j.first, count := j.count, epoch := j.epoch, rv := .slice (some ⟨g2, 0, none⟩) (j.recs.length + 1) cap2, recs := j.recs ++ [s], next := st.next + 1, chain := CK }, d3, ?_, rfl, ?_, ?_⟩
      · rw [hall]
        exact HST.out.trans HFIN.out
      · rw [hall]; rfl
      · rw [hall]
        show CK = pageCheck j.epoch dg r st.chain
        unfold pageCheck
        rw [← HBE.out]
        exact HCK.out
    · have hmin : min (r.size : Int) 437 = 437 := by omega
      have hne : ((437 : Int) == r.size) = false := by simp; omega
      have hbd : pageBody j.epoch dg r = big j.epoch 8 ++ ⟨#[0]⟩ ++ big 437 2 ++ dg ++ r.extract 0 437 ++ zeros (437 - 437) := by
        unfold pageBody lastOf
        rw [show min r.size 437 = 437 by omega, if_neg (by omega)]
        rfl
      have HBD := Lib.hid hbd; clear hbd
      go_wp2_with fail
      refine append_body (by kernel_rfl) j.jb j.epoch 437 dg r 0 wr he (Nat.le_refl _) (by omega) hrs hdgs hjl c3 ?_
      intro v w5 hb5
      rw [← HBD.out, show ((UInt8.toNat 0 : Nat) : Int) = 0 from rfl]
      dsimp only
      have hJ5 := HS.out.at_.below (w' := w5) hb5
      have HS5 := Lib.hid (HS.out.trans hJ5)
      obtain ⟨BD, hBDe⟩ : ∃ BD, BD = pageBody j.epoch dg r := ⟨_, rfl⟩
      rw [← hBDe]
      have hbsz : BD.size = 480 := by rw [hBDe]; exact pageBody_size _ _ _ (by rw [HDG.out]; exact Sha.sha_size _)
      have hbsl : BD.size ≤ 480 := by omega
      have HBE := Lib.hid hBDe; have HBZ := Lib.hid hbsz; clear hBDe hbsz c3 hjl hb5 hJ5
      have c6 := HS5.out.at_.jour.self.cell 6
      simp only [Jour.cells, List.getElem?_toArray, List.getElem?_cons_zero, List.getElem?_cons_succ] at c6
      go_wp2_with fail
      refine (sum_any _ _ (by rw [Sha.app_size, Sha.app_size]; show 1 + _ + _ ≤ _; omega)).mono ?_
      rintro e w6 ⟨rfl, hb6⟩
      obtain ⟨CK, hCK⟩ : ∃ CK, CK = Sha.sha (⟨#[8]⟩ ++ st.chain ++ BD) := ⟨_, rfl⟩
      rw [← hCK]
      have hcks : CK.size = 32 := by rw [hCK]; exact Sha.sha_size _
      have hckl : CK.size ≤ 32 := by omega
      have HCK := Lib.hid hCK; have HCKS := Lib.hid hcks
      have hJ6 := HS5.out.at_.below hb6
      have hS7 := (HS5.out.trans hJ6).trans (hJ6.at_.setChain CK)
      have z6 : w6.frozen? ⟨j.jb, 6, none⟩ = false := hJ6.at_.jour.self.free 6
      have d6 := hJ6.at_.jour.self.cell 6
      simp only [Jour.cells, List.getElem?_toArray, List.getElem?_cons_zero, List.getElem?_cons_succ] at d6
      have HS7 := Lib.hid hS7
      clear hCK hcks hb6 hJ6 c6 hS7
      go_wp2_with fail
      clear z6 d6
      generalize w6.setCell ⟨j.jb, 6, none⟩ (.string CK) = w7 at *
      have c0 := HS7.out.at_.jour.self.cell 0; have c1 := HS7.out.at_.jour.self.cell 1; have c5 := HS7.out.at_.jour.self.cell 5; have c6 := HS7.out.at_.jour.self.cell 6
      simp only [Jour.cells, List.getElem?_toArray, List.getElem?_cons_zero, List.getElem?_cons_succ] at c0 c1 c5 c6
      have hW := dWrite_any d1 st.c (j.first + st.next) (CK ++ BD) w7.drew (by have := HDL.out; omega) (by rw [Sha.app_size, HCKS.out, HBZ.out]) (by omega) (by omega) (HS7.out.at_.disk.keep fun _ _ => rfl)
      rw [Int.natCast_add] at hW
      have HW := Lib.hid hW; clear hW
      refine Lex.wp_region_lex (by kernel_rfl) (by kernel_rfl) ?_
      go_wp2_with fail
      refine HW.out.mono ?_
      rintro e w8 ⟨rfl, d2, hd2⟩
      have hJ7d := (HS7.out.at_).below (Below.refl _ _).drew
      have hS8a := (HS7.out.trans hJ7d).trans (hJ7d.at_.disked hd2 (by rw [note_durable]; rfl))
      have HS8 := Lib.hid hS8a; clear hS8a hd2 hJ7d c0 c1 c5 c6
      go_wp2_with fail
      refine Lex.Ends.intro (by kernel_rfl) ?_
      have c5 := HS8.out.at_.jour.self.cell 5
      simp only [Jour.cells, List.getElem?_toArray, List.getElem?_cons_zero, List.getElem?_cons_succ] at c5
      have z5 : w8.frozen? ⟨j.jb, 5, none⟩ = false := HS8.out.at_.jour.self.free 5
      have hS9 := HS8.out.trans ((HS8.out.at_).setNext (st.next + 1) (by show _ ≤ j.count; omega))
      rw [Int.natCast_add] at hS9
      have hput : (st.put j.epoch j.first dg r).c = (st.c.wrote (j.first + st.next) (CK ++ BD)).note ⟨((j.first + st.next : Nat) : Int), CK ++ BD, false⟩ := by
        show (st.c.wrote _ (pageCheck _ _ _ _ ++ pageBody _ _ _)).note ⟨_, pageCheck _ _ _ _ ++ pageBody _ _ _, false⟩ = _
        rw [← HBE.out, show pageCheck j.epoch dg r st.chain = CK by unfold pageCheck; rw [← HBE.out]; exact HCK.out.symm]
      rw [Int.natCast_add] at hput
      have HPUT := Lib.hid hput
      have HS9 := Lib.hid hS9; clear hS9 hput
      have hx : (r.extract 437 r.size).size = r.size - 437 := by rw [ByteArray.size_extract]; omega
      have htt : putPages j.epoch j.first dg ((r.extract 437 r.size).size + 1) (r.extract 437 r.size) (st.put j.epoch j.first dg r) = tot := by
        rw [← HTO.out, putPages_fuel j.epoch j.first dg ((r.extract 437 r.size).size + 1) r.size _ _ (by omega) (by rw [hx]; omega)]
        show _ = (if min r.size 437 = r.size then _ else _)
        rw [if_neg (by omega)]
      have hps := pagesOf_step (n := r.size) (by omega) hrs
      have HTT := Lib.hid htt; have HX := Lib.hid hx; have HPS := Lib.hid hps; clear htt hx hps
      go_wp2_with fail
      have hS9 := HS9.out
      rw [← HPUT.out] at hS9
      have hxx := HX.out
      have hp2 := put_pending st j.epoch j.first dg r
      have hr2 := put_recorded st j.epoch j.first dg r
      refine ⟨⟨r.extract 437 r.size, _, d2, st.put j.epoch j.first dg r, rfl, hS9, rfl, ?_, rfl, HTT.out, ?_, ?_, ?_, ?_, by omega, by rw [put_durable]; exact HDL.out⟩, by show (r.extract 437 r.size).size < r.size; omega⟩
      · show CK = pageCheck j.epoch dg r st.chain
        unfold pageCheck
        rw [← HBE.out]
        exact HCK.out
      · have := HPS.out
        rw [hxx]
        show _ + ((st.next + 1 : Nat) : Int) ≤ _
        omega
      · show _ ≤ _ + (st.next + 1)
        omega
      · show _ ≤ _ + (st.next + 1)
        omega
      · show (pageCheck j.epoch dg r st.chain).size ≤ 1000
        unfold pageCheck
        rw [Sha.sha_size]
        omega
end Go.Proofs.YtfgjjdjaiddllaaDoor
