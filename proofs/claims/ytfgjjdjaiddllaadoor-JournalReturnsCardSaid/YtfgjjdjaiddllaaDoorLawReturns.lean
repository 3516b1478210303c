/- JournalReturns: the walk. Condition: the argument is a slice of strings as it is read. -/
import Derived.Test.YtfgjjdjaiddllaaDoorLawB
namespace Go.Proofs.YtfgjjdjaiddllaaDoor
set_option linter.unusedVariables false
set_option linter.unusedSimpArgs false
open Go Go.RowKit Go.Maps
set_option maxRecDepth 100000 in
set_option maxHeartbeats 8000000 in
theorem returns_any (n e : Int) (v : Value) (xs : List ByteArray) (w : World) (h0 : 0 ≤ n ∧ n < 256) (he : 0 ≤ e ∧ e < 65536) (hv : StrsC w v xs) (hb : ∀ x ∈ xs, x.size ≤ 140737488355328) (hl : xs.length ≤ 140737488355328) :
    Calls Tryd.prog 4 #[.int .u8 n, .int .u16 e, v] w fun e w' => e = .returned (.bool true) ∧ Below w.heap.size w w' := by
  obtain ⟨a, cp, rfl⟩ := hv.len
  have HV := Lib.hid hv; have HSZ := Lib.hid hb; clear hv hb
  go_enter Tryd.func4, Tryd.ntmps4
  go_wp2_with fail
  refine (awake_any _).mono ?_
  rintro e1 w1 ⟨rfl, hb1⟩
  have HV1 := Lib.hid (HV.out.below hb1); have HB1 := Lib.hid hb1; clear hb1
  go_wp2_with fail
  refine (few_any _ _ _ HV1.out HSZ.out hl).mono ?_
  rintro e2 w2 ⟨rfl, rfl⟩
  cases hf : few xs with
  | false =>
    go_wp2_with fail
    go_ret
    exact ⟨rfl, HB1.out⟩
  | true =>
    have hf16 : xs.length ≤ 16 := by unfold few at hf; simp at hf; exact hf.1
    have hft : total xs ≤ 6000 := by unfold few at hf; simp at hf; exact hf.2
    have hxs : ∀ k, k < xs.length → (xs.getD k ⟨#[]⟩).size ≤ 6000 := by
      intro k hk
      have := size_le_total (xs := xs) (x := xs.getD k ⟨#[]⟩) (by simp [List.getD_eq_getElem?_getD, hk])
      omega
    clear hf
    obtain ⟨m, hm⟩ : ∃ m : Nat, 1 + n % 12 = m := ⟨(1 + n % 12).toNat, by omega⟩
    have hm1 : 1 ≤ m ∧ m ≤ 12 := by omega
    obtain ⟨ep, rfl⟩ : ∃ ep : Nat, e = ep := ⟨e.toNat, by omega⟩
    have HXS := Lib.hid hxs; have HM := Lib.hid hm; clear hxs hm
    go_wp2_with fail
    rw [HM.out]
    refine (pages_any m _ hm1.1 (by omega)).mono ?_
    rintro e3 w3 ⟨d, rv, rfl, hd, hrv, hb3, hdf⟩
    obtain ⟨ra, rc, rfl⟩ := hrv.len
    rw [List.length_replicate] at *
    have HD := Lib.hid hd; have HB3 := Lib.hid (HB1.out.trans (hb3.mono HB1.out.size)); have HDF := Lib.hid (fun k hk => Nat.le_trans HB1.out.size (hdf k hk)); clear hd hrv hb3 hdf
    unfold rDiskV
    go_wp2_with fail
    have ho3 : Below w3.heap.size w3 (w3.alloc (.cells #[.slice ra m rc, .slice none 0 0] 29)) := (Below.refl _ _).alloc (Nat.le_refl _) _
    have hd4 := HD.out.below ho3 (Nat.le_refl _)
    have HD4 := Lib.hid hd4; have HB4 := Lib.hid (HB3.out.trans (ho3.mono HB3.out.size)); clear hd4 ho3
    generalize w3.alloc (.cells #[.slice ra m rc, .slice none 0 0] 29) = w4 at *
    refine (dPages_any d _ _ HD4.out).mono ?_
    rintro e4 w5 ⟨rfl, rfl⟩
    rw [show (DiskC.blank m).durable.length = m by simp [DiskC.blank]]
    go_wp2_with fail
    have ho5 : Below w5.heap.size w5 (w5.alloc (.cells #[.int .i64 0, .int .i64 m] 24)) := (Below.refl _ _).alloc (Nat.le_refl _) _
    refine (open_clean 0 m ep d (.blank m) _ _ _ _ _ rfl rfl rfl rfl (HD4.out.below ho5 (Nat.le_refl _)) (blank_calm m) (blank_sized m) (blank_clean _ _ _ _) (by omega) (by simp [DiskC.blank]) (by omega)).mono ?_
    rintro e6 w6 ⟨j, rfl, hlv, e1, e2, e3, e4, e5, hjf, hb6⟩
    have e1 : j.first = 0 := e1; have e2 : j.count = m := e2; have e3 : j.epoch = ep := e3; have e4 : j.recs = [] := e4; have e5 : j.next = 0 := e5
    have hK : Keep w (.slice none 0 0) [] w5.heap.size 24 #[.int .i64 0, .int .i64 m] w6 j d (.blank m) := by
      have hsz5 : (w5.alloc (.cells #[.int .i64 0, .int .i64 m] 24)).heap.size = w5.heap.size + 1 := by simp
      refine ⟨hlv, ⟨rfl, .inl ⟨rfl, rfl⟩⟩, (fun k hk => by cases hk), (At.new w5 24 _).below hb6 (by omega), ⟨Nat.lt_of_lt_of_le (by omega) hb6.size, fun hk => by have := hjf _ hk; omega, fun hk => by have := HD4.out.lt _ hk; omega⟩, by decide, fun k hk => ?_, HDF.out, (HB4.out.trans (ho5.mono HB4.out.size)).trans (hb6.mono (Nat.le_trans HB4.out.size ho5.size))⟩
      have := hjf k hk
      have := HB4.out.size
      omega
    have HK := Lib.hid hK
    have E1 := Lib.hid e1; have E2 := Lib.hid e2; have E3 := Lib.hid e3; have E4 := Lib.hid e4; have E5 := Lib.hid e5
    clear hK hlv hjf hb6 ho5 e1 e2 e3 e4 e5
    go_wp2_with fail
    refine (dPages_any d _ _ HK.out.live.jd.disk).mono ?_
    rintro e7 w7 ⟨rfl, rfl⟩
    rw [show (DiskC.blank m).durable.length = m by simp [DiskC.blank]]
    go_wp2_with fail
    go_loopw [12, 13, 54] (fun want free i wr => ∃ (k : Nat) (j' : Jour) (d' : DiskP) (c' : DiskC), k ≤ xs.length ∧ i = .int .i64 k ∧ free = .int .i64 ((m : Int) - j'.next) ∧ j'.recs.length ≤ k ∧
      Keep w want j'.recs w5.heap.size 24 #[.int .i64 0, .int .i64 m] wr j' d' c' ∧ j'.jb = j.jb ∧ d'.a = d.a ∧ j'.first = 0 ∧ j'.count = m ∧ j'.epoch = ep) (fun _ _ i _ => xs.length - (intOf i).toNat)
    case atStart => exact ⟨0, j, d, .blank m, by omega, rfl, by rw [E5.out]; simp, by rw [E4.out]; exact Nat.le_refl _, by rw [E4.out]; exact HK.out, rfl, rfl, E1.out, E2.out, E3.out⟩
    case round =>
      obtain ⟨k, j', d', c', hk, rfl, rfl, hrl, hkeep, ejb, ea, ef, ec, ee⟩ := hrel
      have HKK := Lib.hid hkeep
      by_cases hlt : k < xs.length
      · have dk : decide ((k : Int) < xs.length) = true := by simp; omega
        obtain ⟨b, o, rfl, hc⟩ : ∃ b o, a = some ⟨b, o, none⟩ ∧ ∀ j, j < xs.length → wr.cell? ⟨b, o + j, none⟩ = some (.string (xs.getD j ⟨#[]⟩)) := by
          obtain ⟨a', c', he', h0 | ⟨b, o, rfl, hc⟩⟩ := HV.out.below hkeep.below
          · omega
          · cases he'; exact ⟨b, o, rfl, hc⟩
        have ce := hc k hlt
        have t3 := HXS.out k hlt
        obtain ⟨s, hs⟩ : ∃ s, s = xs.getD k ⟨#[]⟩ := ⟨_, rfl⟩
        rw [← hs] at t3 ce
        have HX := Lib.hid hc; have HRL := Lib.hid hrl; have EJ := Lib.hid ejb; have EA := Lib.hid ea; have EF := Lib.hid ef; have EC := Lib.hid ec; have EE := Lib.hid ee
        clear hc hs hrl ejb ea ef ec ee hkeep
        go_wp2_with fail
        have hap := append_live j' d' c' s wr HKK.out.live (by omega) (by have := HRL.out; omega)
        rw [EJ.out] at hap
        refine hap.mono ?_
        rintro e8 w8 ⟨j8, d8, c8, hst, hl8, ⟨hfit, rfl, hc8, hr8, hn8⟩ | ⟨hfull, rfl, rfl, hr8, hn8⟩⟩
        · rw [EC.out] at hfit
          have hk8 := HKK.out.step hst hl8
          obtain ⟨N, hN⟩ : ∃ N, N = pagesOf s.size := ⟨_, rfl⟩
          rw [← hN] at hfit hn8
          have dn : decide (N ≤ (m : Int) - j'.next) = true := by simp; omega
          have HN := Lib.hid hN; have HST := Lib.hid hst; have HK8 := Lib.hid hk8; have HR8 := Lib.hid hr8; have HN8 := Lib.hid hn8
          clear hN hst hl8 hk8 hc8 hr8 hn8 hap
          obtain ⟨i1, hi, hz0, hz1, hz2⟩ := info_parts info_str
          have hrows := HK8.out.rows
          have HROWS := Lib.hid hrows; clear hrows
          have hlen : j'.recs.length ≤ 16 := by have := HRL.out; omega
          go_wp2_with fail
          refine (need_any _ _).mono ?_
          rintro e9 w9 ⟨rfl, rfl⟩
          rw [← HN.out]
          go_wp2_with (at_builtin; go_must (refine wpList_append_own_at _ rfl _ _ 22 rfl w.heap.size 9 i1 _ 1 16 Tryd.underlying22 hi hz0 hz1 hz2 rfl (by omega) _ j'.recs.length (j'.recs.map Value.string) rfl (HROWS.out.alloc _) ⟨w9.heap.size, 0, none⟩ 1 1 [.string s] rfl rfl ?c1 ?c2 ?c3 ?c4 ?c5 ?_))
          case c1 =>
            intro j u hj
            match j, hj with
            | 0, hj => simp at hj; subst hj; simp [Addr.add]
          case c2 => intro u hu; simp at hu; subst hu; rfl
          case c3 => unfold maxLen; omega
          case c4 => omega
          case c5 => have := HK8.out.below.size; simp; omega
          intro v2 w15 how hg _ hb'
          have hk15 := HK8.out.grow (w1 := w9.alloc (.cells #[.string s] 9)) (acc' := j'.recs ++ [s]) ((Below.refl _ _).alloc (Nat.le_refl _) _) hg (by rw [List.length_append, List.map_append]; exact how) (hb'.imp id (fun h => ⟨_, h, by simp⟩))
          obtain ⟨g2, cap2, rfl, _⟩ := own_cell how (by omega)
          have HK15 := Lib.hid hk15; clear how hg hb' hk15
          go_wp2_with fail
          refine (need_any _ _).mono ?_
          rintro e16 w16 ⟨rfl, rfl⟩
          rw [← HN.out]
          go_wp2_with fail
          have h8 := HN8.out
          have hpos : 1 ≤ N := by rw [HN.out]; exact pagesOf_pos (by omega)
          refine ⟨⟨k + 1, j8, d8, _, by omega, by go_num, ?_, ?_, by rw [HR8.out]; exact HK15.out, HST.out.jb.trans EJ.out, HST.out.a.trans EA.out, HST.out.first.trans EF.out, HST.out.count.trans EC.out, HST.out.epoch.trans EE.out⟩, by simp [intOf]; omega⟩
          · rw [show wrap64 ((m : Int) - j'.next - N) = (m : Int) - j8.next by unfold wrap64; omega]
          · rw [HR8.out, List.length_append]
            have := HRL.out
            show _ + 1 ≤ k + 1
            omega
        · rw [EC.out] at hfull
          have hk8 := HKK.out.step hst hl8
          obtain ⟨N, hN⟩ : ∃ N, N = pagesOf s.size := ⟨_, rfl⟩
          rw [← hN] at hfull
          have dn : decide (N ≤ (m : Int) - j'.next) = false := by simp; omega
          have HN := Lib.hid hN; have HST := Lib.hid hst; have HK8 := Lib.hid hk8; have HR8 := Lib.hid hr8; have HN8 := Lib.hid hn8
          clear hN hst hl8 hk8 hr8 hn8 hap
          go_wp2_with fail
          refine (need_any _ _).mono ?_
          rintro e9 w9 ⟨rfl, rfl⟩
          rw [← HN.out]
          go_wp2_with fail
          refine ⟨⟨k + 1, j8, d8, _, by omega, by go_num, by rw [HN8.out], ?_, by rw [HR8.out]; exact HK8.out, HST.out.jb.trans EJ.out, HST.out.a.trans EA.out, HST.out.first.trans EF.out, HST.out.count.trans EC.out, HST.out.epoch.trans EE.out⟩, by simp [intOf]; omega⟩
          rw [HR8.out]
          have := HRL.out
          omega
      · have dk : decide ((k : Int) < xs.length) = false := by simp; omega
        have HRL := Lib.hid hrl; have EJ := Lib.hid ejb; have EA := Lib.hid ea; have EF := Lib.hid ef; have EC := Lib.hid ec; have EE := Lib.hid ee
        clear hrl ejb ea ef ec ee hkeep
        go_wp2_with fail
        refine (crash_calm d' c' _ _ EA.out HKK.out.live.jd.disk HKK.out.live.calm).mono ?_
        rintro e8 w8 ⟨rfl, d8, hs8⟩
        have hl8 := HKK.out.live.disked hs8
        have hk8 := HKK.out.step hl8.2 hl8.1
        have EA8 := Lib.hid (hs8.a.trans EA.out)
        have HK8 := Lib.hid hk8; clear hs8 hl8 hk8
        have k0 := HK8.out.cell.cell 0; have k1 := HK8.out.cell.cell 1
        simp only [List.getElem?_toArray, List.getElem?_cons_zero, List.getElem?_cons_succ] at k0 k1
        go_wp2_with fail
        have hlen : j'.recs.length ≤ 16 := by have := HRL.out; omega
        refine (open_again j' d8 c' w8 _ _ _ _ EA8.out (by rw [EF.out]; rfl) (by rw [EC.out]) (by rw [EE.out]) HK8.out.live (by rw [EC.out]; omega)).mono ?_
        rintro e9 w9 ⟨q, rfl, hq, -, cq, -, rq, nq, -, hb9⟩
        have HK9 := Lib.hid (HK8.out.under hb9); have HQ := Lib.hid hq; have RQ := Lib.hid rq; have NQ := Lib.hid nq; have CQ := Lib.hid (cq.trans EC.out); clear hq cq rq nq hb9
        go_wp2_with fail
        refine (records_live q w9 HQ.out.jd.jour).mono ?_
        rintro e10 w10 ⟨v10, rfl, hs10, hb10⟩
        rw [RQ.out] at hs10
        have HK10 := Lib.hid (HK9.out.under hb10); have HQ10 := Lib.hid (HQ.out.below hb10); have HS10 := Lib.hid hs10; clear hs10 hb10
        go_wp2_with fail
        refine (eqStrs_any _ _ _ _ _ HS10.out (StrsC.own HK10.out.rows) (by omega) (by omega)).mono ?_
        rintro e11 w11 ⟨rfl, n11, rfl⟩
        rw [show decide (j'.recs = j'.recs) = true by simp]
        have hb11 : Below w10.heap.size w10 (w10.drewN n11) := below_drewN (Below.refl _ _) n11
        have HK11 := Lib.hid (HK10.out.under hb11); have HQ11 := Lib.hid (HQ10.out.below hb11); clear hb11
        generalize w10.drewN n11 = w11 at *
        go_wp2_with fail
        refine (jFree_any q _ HQ11.out.jd.jour).mono ?_
        rintro e12 w12 ⟨rfl, rfl⟩
        rw [CQ.out, NQ.out]
        have hb12 : Below w11.heap.size w11 w11.drew := (Below.refl w11.heap.size w11).drew
        have HK12 := Lib.hid (HK11.out.under hb12); clear hb12
        generalize w11.drew = w12 at *
        go_wp2_with fail
        have hrc := records_live j' w12 HK12.out.live.jd.jour
        rw [EJ.out] at hrc
        refine hrc.mono ?_
        rintro e13 w13 ⟨v13, rfl, hs13, hb13⟩
        have HK13 := Lib.hid (HK12.out.under hb13); have HS13 := Lib.hid hs13; clear hs13 hb13 hrc
        go_wp2_with fail
        refine (eqStrs_any _ _ _ _ _ HS13.out (StrsC.own HK13.out.rows) (by omega) (by omega)).mono ?_
        rintro e14 w14 ⟨rfl, n14, rfl⟩
        rw [show decide (j'.recs = j'.recs) = true by simp]
        have hb14 : Below w13.heap.size w13 (w13.drewN n14) := below_drewN (Below.refl _ _) n14
        have HK14 := Lib.hid (HK13.out.under hb14); clear hb14
        generalize w13.drewN n14 = w14 at *
        go_wp2_with fail
        go_ret
        exact ⟨by simp, HK14.out.below⟩
end Go.Proofs.YtfgjjdjaiddllaaDoor
