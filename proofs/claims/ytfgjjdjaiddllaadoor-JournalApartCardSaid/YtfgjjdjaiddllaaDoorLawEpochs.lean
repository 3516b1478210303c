/- JournalEpochs: the walk. Condition: the arguments are slices of strings as they are read. -/
import Derived.Test.YtfgjjdjaiddllaaDoorLawD
namespace Go.Proofs.YtfgjjdjaiddllaaDoor
set_option linter.unusedVariables false
set_option linter.unusedSimpArgs false
open Go Go.RowKit Go.Maps
theorem few_parts {xs : List ByteArray} (hf : few xs = true) : xs.length ≤ 16 ∧ ∀ k, k < xs.length → (xs.getD k ⟨#[]⟩).size ≤ 6000 := by
  have hf16 : xs.length ≤ 16 := by unfold few at hf; simp at hf; exact hf.1
  have hft : total xs ≤ 6000 := by unfold few at hf; simp at hf; exact hf.2
  refine ⟨hf16, fun k hk => ?_⟩
  have := size_le_total (xs := xs) (x := xs.getD k ⟨#[]⟩) (by simp [List.getD_eq_getElem?_getD, hk])
  omega
set_option maxRecDepth 100000 in
set_option maxHeartbeats 8000000 in
theorem epochs_any (n : Int) (v1 v2 : Value) (xs ys : List ByteArray) (w : World) (h0 : 0 ≤ n ∧ n < 256) (hv1 : StrsC w v1 xs) (hv2 : StrsC w v2 ys) (hb1 : ∀ x ∈ xs, x.size ≤ 140737488355328) (hl1 : xs.length ≤ 140737488355328)
    (hb2 : ∀ x ∈ ys, x.size ≤ 140737488355328) (hl2 : ys.length ≤ 140737488355328) :
    Calls Tryd.prog 5 #[.int .u8 n, v1, v2] w fun e w' => e = .returned (.bool true) ∧ Below w.heap.size w w' := by
  obtain ⟨a1, cp1, rfl⟩ := hv1.len
  obtain ⟨a2, cp2, rfl⟩ := hv2.len
  have HV1 := Lib.hid hv1; have HV2 := Lib.hid hv2; have HS1 := Lib.hid hb1; have HS2 := Lib.hid hb2; clear hv1 hv2 hb1 hb2
  go_enter Tryd.func5, Tryd.ntmps5
  go_wp2_with fail
  refine (awake_any _).mono ?_
  rintro e1 w1 ⟨rfl, hb1⟩
  have HB1 := Lib.hid hb1; have HU1 := Lib.hid (HV1.out.below hb1); have HU2 := Lib.hid (HV2.out.below hb1); clear hb1
  go_wp2_with fail
  refine (few_any _ _ _ HU1.out HS1.out hl1).mono ?_
  rintro e2 w2 ⟨rfl, rfl⟩
  cases hf1 : few xs with
  | false =>
    go_wp2_with fail
    go_ret
    exact ⟨rfl, HB1.out⟩
  | true =>
    go_wp2_with fail
    refine (few_any _ _ _ HU2.out HS2.out hl2).mono ?_
    rintro e3 w3 ⟨rfl, rfl⟩
    cases hf2 : few ys with
    | false =>
      go_wp2_with fail
      go_ret
      exact ⟨rfl, HB1.out⟩
    | true =>
      obtain ⟨h16x, hzx⟩ := few_parts hf1
      obtain ⟨h16y, hzy⟩ := few_parts hf2
      clear hf1 hf2 HS1 HS2 HU1 HU2
      obtain ⟨m, hm⟩ : ∃ m : Nat, 1 + n % 12 = m := ⟨(1 + n % 12).toNat, by omega⟩
      have hm1 : 1 ≤ m ∧ m ≤ 12 := by omega
      have HZX := Lib.hid hzx; have HZY := Lib.hid hzy; have HM := Lib.hid hm; clear hzx hzy hm
      go_wp2_with fail
      rw [HM.out]
      refine (pages_any m _ hm1.1 (by omega)).mono ?_
      rintro e4 w4 ⟨d, rv, rfl, hd, hrv, hb4, hdf⟩
      obtain ⟨ra, rc, rfl⟩ := hrv.len
      rw [List.length_replicate] at *
      have hdk : Dk w [] w4 d (.blank m) := ⟨hd, blank_calm m, blank_sized m, (fun x hx => by cases hx), fun k hk => Nat.le_trans HB1.out.size (hdf k hk), HB1.out.trans (hb4.mono HB1.out.size)⟩
      have HDK := Lib.hid hdk; clear hd hrv hb4 hdf hdk
      unfold rDiskV
      go_wp2_with fail
      have HDK5 := Lib.hid (HDK.out.under ((Below.refl _ _).alloc (Nat.le_refl _) (.cells #[.slice ra m rc, .slice none 0 0] 29)))
      generalize w4.alloc (.cells #[.slice ra m rc, .slice none 0 0] 29) = w5 at *
      refine (dPages_any d _ _ HDK5.out.disk).mono ?_
      rintro e5 w6 ⟨rfl, rfl⟩
      rw [show (DiskC.blank m).durable.length = m by simp [DiskC.blank]]
      go_wp2_with fail
      obtain ⟨B, hB⟩ : ∃ B, B = w6.heap.size := ⟨_, rfl⟩
      have hdk7 := (HDK5.out.alloc 24 #[.int .i64 0, .int .i64 m] (by decide)).alloc 22 #[.slice a1 xs.length cp1, .slice a2 ys.length cp2, .slice a1 xs.length cp1] (by decide)
      have eB : (w6.alloc (.cells #[.int .i64 0, .int .i64 m] 24)).heap.size = B + 1 := by rw [hB]; simp
      rw [eB, ← hB] at hdk7
      have HDK7 := Lib.hid hdk7; have HB := Lib.hid hB; have EB := Lib.hid eB; clear hdk7 hB eB
      rw [← HB.out]
      go_loopw [47] (fun i wr => ∃ (k : Nat) (d' : DiskP) (c' : DiskC), k ≤ 3 ∧ i = .int .i64 k ∧
        Dk w [(B + 1, 22, #[.slice a1 xs.length cp1, .slice a2 ys.length cp2, .slice a1 xs.length cp1]), (B, 24, #[.int .i64 0, .int .i64 m])] wr d' c' ∧ d'.a = d.a ∧ m ≤ c'.durable.length ∧ (∀ e, k ≤ e → e < 3 → Clean e c' 0 m)) (fun i _ => 3 - (intOf i).toNat)
      case atStart => exact ⟨0, d, _, by omega, rfl, HDK7.out, rfl, by simp [DiskC.blank], fun e _ _ => blank_clean _ _ _ _⟩
      case round =>
        obtain ⟨k, d', c', hk, rfl, hdk, ea, hdl, hcl⟩ := hrel
        obtain ⟨wo, rfl⟩ : ∃ wo : World, wo = wr := ⟨_, rfl⟩
        have HD0 := Lib.hid hdk; have EA := Lib.hid ea; have HCL := Lib.hid hcl; clear hdk ea hcl
        by_cases hlt : k < 3
        · have dk : decide ((k : Int) < 3) = true := by simp; omega
          obtain ⟨a3, cp3, zs, ce, h16, hzz, HZ⟩ : ∃ (a3 : Option Addr) (cp3 : Nat) (zs : List ByteArray), wo.cell? ⟨B + 1, k, none⟩ = some (.slice a3 zs.length cp3) ∧ zs.length ≤ 16 ∧ (∀ k, k < zs.length → (zs.getD k ⟨#[]⟩).size ≤ 6000) ∧ Hid (StrsC w (.slice a3 zs.length cp3) zs) := by
            have hat := (HD0.out.cells _ List.mem_cons_self).1
            have h3 := hat.cell k
            match k, hlt, h3 with
            | 0, _, h3 => exact ⟨a1, cp1, xs, h3, h16x, HZX.out, HV1⟩
            | 1, _, h3 => exact ⟨a2, cp2, ys, h3, h16y, HZY.out, HV2⟩
            | 2, _, h3 => exact ⟨a1, cp1, xs, h3, h16x, HZX.out, HV1⟩
          have HZZ := Lib.hid hzz; clear hzz
          have kp := (HD0.out.cells _ (List.mem_cons_of_mem _ List.mem_cons_self)).1
          have k0 := kp.cell 0; have k1 := kp.cell 1
          simp only [List.getElem?_toArray, List.getElem?_cons_zero, List.getElem?_cons_succ] at k0 k1
          clear kp
          go_wp2_with fail
          refine (open_clean 0 m k d' c' _ _ _ _ _ EA.out rfl rfl rfl HD0.out.disk HD0.out.calm HD0.out.sized (HCL.out k (by omega) hlt) (by omega) (by omega) (by omega)).mono ?_
          rintro e6 w7 hpost
          obtain ⟨j, rfl, e1, e2, e3, e4, e5, hkp⟩ := HD0.out.opened hpost
          have e1 : j.first = 0 := e1; have e2 : j.count = m := e2; have e3 : j.epoch = k := e3; have e4 : j.recs = [] := e4; have e5 : j.next = 0 := e5
          have HKP := Lib.hid hkp; have E1 := Lib.hid e1; have E2 := Lib.hid e2; have E3 := Lib.hid e3; have E4 := Lib.hid e4
          clear hpost hkp e1 e2 e3 e4 e5
          go_wp2_with fail
          refine (records_live j w7 HKP.out.live.jd.jour).mono ?_
          rintro e8 w8 ⟨v8, rfl, hs8, hb8⟩
          rw [E4.out] at hs8
          obtain ⟨a8, c8, rfl⟩ := hs8.len
          have HK8 := Lib.hid (HKP.out.under hb8); clear hs8 hb8
          go_wp2_with fail
          go_loopw [14, 73] (fun want i wr => ∃ (q : Nat) (j' : Jour) (d' : DiskP) (c' : DiskC), q ≤ zs.length ∧ i = .int .i64 q ∧ j'.recs.length ≤ q ∧
            Kp w want j'.recs [(B + 1, 22, #[.slice a1 xs.length cp1, .slice a2 ys.length cp2, .slice a1 xs.length cp1]), (B, 24, #[.int .i64 0, .int .i64 m])] wr j' d' c' ∧ j'.jb = j.jb ∧ d'.a = d.a ∧ j'.first = 0 ∧ j'.count = m ∧ j'.epoch = k ∧
            m ≤ c'.durable.length ∧ (∀ e, k < e → e < 3 → Clean e c' 0 m)) (fun _ i _ => zs.length - (intOf i).toNat)
          case atStart => exact ⟨0, j, d', c', by omega, rfl, by rw [E4.out]; exact Nat.le_refl _, by rw [E4.out]; exact HK8.out, rfl, EA.out, E1.out, E2.out, E3.out, hdl, fun e h1 h2 => HCL.out e (by omega) h2⟩
          case round =>
            obtain ⟨q, j', d9, c9, hq, rfl, hrl, hkeep, ejb, ea, ef, ec, ee, hdl9, hcl9⟩ := hrel
            have HKK := Lib.hid hkeep
            have HRL := Lib.hid hrl; have EJ := Lib.hid ejb; have EA := Lib.hid ea; have EF := Lib.hid ef; have EC := Lib.hid ec; have EE := Lib.hid ee; have HCL9 := Lib.hid hcl9
            clear hrl ejb ea ef ec ee hcl9 hkeep
            by_cases hltq : q < zs.length
            · have dq : decide ((q : Int) < zs.length) = true := by simp; omega
              obtain ⟨b, o, rfl, hc⟩ : ∃ b o, a3 = some ⟨b, o, none⟩ ∧ ∀ j, j < zs.length → wr.cell? ⟨b, o + j, none⟩ = some (.string (zs.getD j ⟨#[]⟩)) := by
                obtain ⟨a', c', he', h0 | ⟨b, o, rfl, hc⟩⟩ := HZ.out.below HKK.out.below
                · omega
                · cases he'; exact ⟨b, o, rfl, hc⟩
              have cez := hc q hltq
              have t3 := HZZ.out q hltq
              obtain ⟨s, hs⟩ : ∃ s, s = zs.getD q ⟨#[]⟩ := ⟨_, rfl⟩
              rw [← hs] at t3 cez
              have HX := Lib.hid hc; clear hc hs
              go_wp2_with fail
              have hap := append_live j' d9 c9 s wr HKK.out.live (by omega) (by have := HRL.out; omega)
              rw [EJ.out] at hap
              refine hap.mono ?_
              rintro e10 w10 ⟨j10, d10, c10, hst, hl10, ⟨hfit, rfl, hc10, hr10, -⟩ | ⟨hfull, rfl, rfl, hr10, -⟩⟩
              · have hk10 := HKK.out.step hst hl10
                have hdl10 : m ≤ c10.durable.length := by rw [hc10, after_durable]; exact hdl9
                have hcl10 : ∀ e, k < e → e < 3 → Clean e c10 0 m := by
                  intro e h1 h2
                  rw [hc10]
                  refine Clean.after (HCL9.out e h1 h2) HKK.out.live.calm.pend (by omega) (by rw [EE.out]; omega) (by omega) (by rw [EE.out]; omega)
                have HST := Lib.hid hst; have HK10 := Lib.hid hk10; have HR10 := Lib.hid hr10; have HDL := Lib.hid hdl10; have HCL10 := Lib.hid hcl10
                clear hst hl10 hk10 hc10 hr10 hdl10 hcl10 hap hdl9
                obtain ⟨i1, hi, hz0, hz1, hz2⟩ := info_parts info_str
                have hrows := HK10.out.rows
                have HROWS := Lib.hid hrows; clear hrows
                have hlen9 : j'.recs.length ≤ 16 := by have := HRL.out; omega
                go_wp2_with (at_builtin; go_must (refine wpList_append_own_at _ rfl _ _ 22 rfl w.heap.size 9 i1 _ 1 16 Tryd.underlying22 hi hz0 hz1 hz2 rfl (by omega) _ j'.recs.length (j'.recs.map Value.string) rfl (HROWS.out.alloc _) ⟨w10.heap.size, 0, none⟩ 1 1 [.string s] rfl rfl ?c1 ?c2 ?c3 ?c4 ?c5 ?_))
                case c1 =>
                  intro j u hj
                  match j, hj with
                  | 0, hj => simp at hj; subst hj; simp [Addr.add]
                case c2 => intro u hu; simp at hu; subst hu; rfl
                case c3 => unfold maxLen; omega
                case c4 => omega
                case c5 => have := HK10.out.below.size; simp; omega
                intro v2 w15 how hg _ hb'
                have hk15 := HK10.out.grow (w1 := w10.alloc (.cells #[.string s] 9)) (acc' := j'.recs ++ [s]) ((Below.refl _ _).alloc (Nat.le_refl _) _) hg (by rw [List.length_append, List.map_append]; exact how) (hb'.imp id (fun h => ⟨_, h, by simp⟩))
                obtain ⟨g2, cap2, rfl, _⟩ := own_cell how (by omega)
                rw [← HR10.out] at hk15
                have HK15 := Lib.hid hk15; clear how hg hb' hk15
                have hlen : j10.recs.length ≤ q + 1 := by rw [HR10.out]; have := HRL.out; first | (rw [List.length_append]; show _ + 1 ≤ _; omega) | omega
                have kp := (HK15.out.cells _ (List.mem_cons_of_mem _ List.mem_cons_self)).1
                have k0 := kp.cell 0; have k1 := kp.cell 1
                simp only [List.getElem?_toArray, List.getElem?_cons_zero, List.getElem?_cons_succ] at k0 k1
                clear kp
                go_wp2_with fail
                refine (open_again j10 d10 c10 w15 _ _ _ _ (HST.out.a.trans EA.out) (by rw [HST.out.first, EF.out]; rfl) (by rw [HST.out.count, EC.out]) (by rw [HST.out.epoch, EE.out]) HK15.out.live (by rw [HST.out.count, EC.out]; omega)).mono ?_
                rintro e11 w11 ⟨p, rfl, hp, -, -, -, rp, -, -, hb11⟩
                have HK11 := Lib.hid (HK15.out.under hb11); have HP := Lib.hid hp; have RP := Lib.hid rp; clear hp rp hb11
                go_wp2_with fail
                refine (records_live p w11 HP.out.jd.jour).mono ?_
                rintro e12 w12 ⟨v12, rfl, hs12, hb12⟩
                rw [RP.out] at hs12
                have HK12 := Lib.hid (HK11.out.under hb12); have HS12 := Lib.hid hs12; clear hs12 hb12
                go_wp2_with fail
                refine (eqStrs_any _ _ _ _ _ HS12.out (StrsC.own HK12.out.rows) (by omega) (by omega)).mono ?_
                rintro e13 w13 ⟨rfl, n13, rfl⟩
                rw [show decide (j10.recs = j10.recs) = true by simp]
                have hb13 : Below w12.heap.size w12 (w12.drewN n13) := below_drewN (Below.refl _ _) n13
                have HK13 := Lib.hid (HK12.out.under hb13); clear hb13
                generalize w12.drewN n13 = w13 at *
                go_wp2_with fail
                refine ⟨⟨q + 1, j10, d10, c10, by omega, by go_num, hlen, HK13.out, HST.out.jb.trans EJ.out, HST.out.a.trans EA.out, HST.out.first.trans EF.out, HST.out.count.trans EC.out, HST.out.epoch.trans EE.out, HDL.out, HCL10.out⟩, by simp [intOf]; omega⟩
              · have hk10 := HKK.out.step hst hl10
                rw [← hr10] at hk10
                have HST := Lib.hid hst; have HK10 := Lib.hid hk10; have HR10 := Lib.hid hr10; have HDL := Lib.hid hdl9; have HCL10 := Lib.hid HCL9.out
                clear hst hl10 hk10 hr10 hap hdl9
                have hlen : j10.recs.length ≤ q + 1 := by rw [HR10.out]; have := HRL.out; first | (rw [List.length_append]; show _ + 1 ≤ _; omega) | omega
                have kp := (HK10.out.cells _ (List.mem_cons_of_mem _ List.mem_cons_self)).1
                have k0 := kp.cell 0; have k1 := kp.cell 1
                simp only [List.getElem?_toArray, List.getElem?_cons_zero, List.getElem?_cons_succ] at k0 k1
                clear kp
                go_wp2_with fail
                refine (open_again j10 d10 c10 w10 _ _ _ _ (HST.out.a.trans EA.out) (by rw [HST.out.first, EF.out]; rfl) (by rw [HST.out.count, EC.out]) (by rw [HST.out.epoch, EE.out]) HK10.out.live (by rw [HST.out.count, EC.out]; omega)).mono ?_
                rintro e11 w11 ⟨p, rfl, hp, -, -, -, rp, -, -, hb11⟩
                have HK11 := Lib.hid (HK10.out.under hb11); have HP := Lib.hid hp; have RP := Lib.hid rp; clear hp rp hb11
                go_wp2_with fail
                refine (records_live p w11 HP.out.jd.jour).mono ?_
                rintro e12 w12 ⟨v12, rfl, hs12, hb12⟩
                rw [RP.out] at hs12
                have HK12 := Lib.hid (HK11.out.under hb12); have HS12 := Lib.hid hs12; clear hs12 hb12
                go_wp2_with fail
                refine (eqStrs_any _ _ _ _ _ HS12.out (StrsC.own HK12.out.rows) (by omega) (by omega)).mono ?_
                rintro e13 w13 ⟨rfl, n13, rfl⟩
                rw [show decide (j10.recs = j10.recs) = true by simp]
                have hb13 : Below w12.heap.size w12 (w12.drewN n13) := below_drewN (Below.refl _ _) n13
                have HK13 := Lib.hid (HK12.out.under hb13); clear hb13
                generalize w12.drewN n13 = w13 at *
                go_wp2_with fail
                refine ⟨⟨q + 1, j10, d10, c10, by omega, by go_num, hlen, HK13.out, HST.out.jb.trans EJ.out, HST.out.a.trans EA.out, HST.out.first.trans EF.out, HST.out.count.trans EC.out, HST.out.epoch.trans EE.out, HDL.out, HCL10.out⟩, by simp [intOf]; omega⟩
            · have dq : decide ((q : Int) < zs.length) = false := by simp; omega
              go_wp2_with fail
              refine ⟨⟨k + 1, d9, c9, by omega, by go_num, HKK.out.dk, EA.out, hdl9, fun e h1 h2 => HCL9.out e (by omega) h2⟩, by simp [intOf]; omega⟩
        · have dk : decide ((k : Int) < 3) = false := by simp; omega
          go_wp2_with fail
          go_ret
          exact ⟨rfl, HD0.out.below⟩
end Go.Proofs.YtfgjjdjaiddllaaDoor
