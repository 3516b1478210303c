/- ObjectsDrops: the walk. Condition: the arguments are slices as they are read. -/
import Derived.Test.YtjlpdknomdhbhaaGreatDoorLawOBld
import Derived.Test.YtjlpdknomdhbhaaGreatDoorStrCo
namespace Go.Proofs.YtjlpdknomdhbhaaGreatDoor
set_option linter.unusedVariables false
set_option linter.unusedSimpArgs false
open Go Go.RowKit Go.Maps
set_option maxRecDepth 100000 in
set_option maxHeartbeats 8000000 in
theorem odrops_any (v u x : Value) (l : List Obj) (ls ws : List Int) (n : Int) (w : World) (hM : MaxL w) (hn : 0 ≤ n ∧ n < 256) (h : ObjsC w v l) (hr : ObjsR l) (hu : BytC w u ls) (hx : BytC w x ws) :
    Calls Tryz.prog 6 #[v, u, x, .int .u8 n] w fun e w' => e = .returned (.bool true) ∧ Below w.heap.size w w' := by
  obtain ⟨t, rfl⟩ : ∃ t : Nat, n = t := ⟨n.toNat, by omega⟩
  have HC := Lib.hid h; have HM := Lib.hid hM; have HR := Lib.hid hr; have HU := Lib.hid hu; have HX := Lib.hid hx
  obtain ⟨va, vc, rfl⟩ := h.len
  obtain ⟨ua, uc, rfl⟩ := hu.1.len
  obtain ⟨xa, xc, rfl⟩ := hx.1.len
  clear h hM hr hu hx
  go_enter Tryz.func6, Tryz.ntmps6
  go_wp2_with fail
  refine (awake_any _ HM.out).mono ?_
  rintro e w1 ⟨rfl, hb⟩
  replace HC := Lib.hid (HC.out.below hb); replace HU := Lib.hid (HU.out.below hb); replace HX := Lib.hid (HX.out.below hb); have HB := Lib.hid hb; clear hb HM
  go_wp2_with fail
  refine (r49FewObjects_any _ l _ HC.out HR.out).mono ?_
  rintro e w2 ⟨rfl, hb⟩
  replace HC := Lib.hid (HC.out.below hb); replace HU := Lib.hid (HU.out.below hb); replace HX := Lib.hid (HX.out.below hb); replace HB := Lib.hid (HB.out.trans (hb.mono HB.out.size)); clear hb HR
  cases hf : fewL l with
  | false =>
    go_wp2_with fail
    go_ret
    exact ⟨rfl, HB.out⟩
  | true =>
    by_cases h10 : ws.length ≤ 10
    · have d10 : decide ((10 : Int) < ws.length) = false := by simp; omega
      have HF := Lib.hid hf; clear hf
      go_wp2_with fail
      refine (build_any _ _ l ls w2 HC.out HF.out HU.out).mono ?_
      rintro e w3 ⟨a, mp, rv, av, k, D, S, rfl, hk, hI⟩
      obtain ⟨aa, am, ac, rfl⟩ := own_slice hI.all_
      obtain rfl := own_len hI.all_
      obtain ⟨L, hL, hLL⟩ := hI.ref
      obtain ⟨ra, rm, rc, rfl⟩ := own_slice hL
      clear hL hLL L
      have hb23 := hI.below
      have hB2s : w.heap.size ≤ w2.heap.size := HB.out.size
      replace HX := Lib.hid (HX.out.below hb23); replace HB := Lib.hid (HB.out.trans (hb23.mono HB.out.size)); have HI := Lib.hid hI
      clear hI hb23 HC HU HF
      by_cases h0 : D.length = 0
      · have d0 : ((D.length : Int) == 0) = true := by rw [h0]; rfl
        go_wp2_with fail
        go_ret
        exact ⟨rfl, HB.out⟩
      · have d0 : ((D.length : Int) == 0) = false := by rw [beq_eq_false_iff_ne]; omega
        have hst : StrsC w3 (.slice aa D.length ac) D := StrsC.own HI.out.all_
        have hkeys := HI.out.keys
        obtain ⟨F, hset, _⟩ := HI.out.set
        have hfew := HI.out.few
        have hmw : w.heap.size ≤ mp := Nat.le_trans hB2s HI.out.ha.2
        have HST := Lib.hid hst; have HK := Lib.hid hkeys; have HSET := Lib.hid hset
        clear hst hkeys hset HI
        go_wp2_with fail
        have hD0 : 0 < D.length := by omega
        go_loopw [13, 46] (fun v i wr => ∃ (m : Nat) (R : List ByteArray), m ≤ ws.length ∧ i = .int .i64 m ∧ wr.ownsRow w3.heap.size 9 1 v R.length (R.map Value.string) ∧ R.length ≤ m ∧ (∀ d ∈ R, d ∈ D) ∧ Below w3.heap.size w3 wr) (fun _ i _ => ws.length - (intOf i).toNat)
        case atStart => exact ⟨0, [], by omega, rfl, ⟨rfl, .inl ⟨rfl, rfl⟩⟩, Nat.le_refl _, (fun d hd => by cases hd), Below.refl _ _⟩
        case round =>
          obtain ⟨m, R, hm, rfl, ho, hRl, hRD, hb⟩ := hrel
          obtain ⟨pa, pm, pc, rfl⟩ := own_slice ho
          obtain rfl := own_len ho
          have HO := Lib.hid ho; have HRD := Lib.hid hRD; have HBL := Lib.hid hb; have hBl := hb.size
          clear ho hRD hb
          by_cases hlt : m < ws.length
          · have dk : decide ((m : Int) < ws.length) = true := by simp; omega
            obtain ⟨ub, uo, x, rfl, hx, hx0, hx1⟩ := (HX.out.below HBL.out).at hlt
            obtain ⟨y, rfl⟩ : ∃ y : Nat, x = y := ⟨x.toNat, by omega⟩
            have hjl : y % D.length < D.length := Nat.mod_lt _ hD0
            obtain ⟨j, hj⟩ : ∃ j, j = y % D.length := ⟨_, rfl⟩
            rw [← hj] at hjl
            have ej : Int.tmod (y : Int) D.length = j := by rw [hj]; rfl
            obtain ⟨g, gc, he, hcd⟩ := HST.out.below HBL.out
            cases he
            obtain ⟨gb, go_, rfl, hcell⟩ := hcd.resolve_left (by omega)
            have hd := hcell j hjl
            rw [List.getD_eq_getElem?_getD, List.getElem?_eq_getElem hjl, Option.getD_some] at hd
            have hmem : D[j] ∈ D := List.getElem_mem hjl
            obtain ⟨d, hdd⟩ : ∃ d, d = D[j] := ⟨_, rfl⟩
            rw [← hdd] at hd hmem
            have HMEM := Lib.hid hmem; clear hj hdd hcell hcd hmem
            go_wp2_with (at_builtin; go_must (refine wp_push_str rfl _ _ rfl w3.heap.size R.length (.slice pa R.length pc) (R.map Value.string) rfl (HO.out.alloc _) wr.heap.size 1 d rfl (cell_new wr (.string d) 9) (by omega) (by simp; omega) ?_); intro v6 w6 ho hg _; have HO6 := Lib.hid ho; have HB6 := Lib.hid (below_own (HBL.out.alloc hBl _) (by simp; omega) HO.out hg); clear ho hg)
            exact ⟨⟨m + 1, R ++ [d], by omega, by go_num, by simpa using HO6.out, by simp; omega, fun z hz => by
              rcases List.mem_append.1 hz with hz | hz
              · exact HRD.out z hz
              · rw [List.mem_singleton] at hz; rw [hz]; exact HMEM.out, HB6.out⟩, by simp [intOf]; omega⟩
          · have dk : decide ((m : Int) < ws.length) = false := by simp; omega
            have hrs : StrsC wr (.slice pa R.length pc) R := StrsC.own HO.out
            have hz32 : ∀ d ∈ R, d.size ≤ maxLen := fun d hd => by rw [(HK.out d (HRD.out d hd)).2]; decide
            have hS1 := HSET.out.below HBL.out
            have HRS := Lib.hid hrs; have HZ := Lib.hid hz32; have HS1 := Lib.hid hS1; have HBW := Lib.hid (HB.out.trans (HBL.out.mono HB.out.size))
            have hst := HST.out.below HBL.out
            replace HST := Lib.hid hst
            clear hrs hz32 hS1 hst HSET
            go_wp2_with fail
            refine (closure_any a mp k F S (.slice pa R.length pc) R _ HS1.out (by omega) HRS.out (by omega) HZ.out).mono ?_
            rintro e w4 ⟨v1, v2, l1, l2, rfl, o1, o2, _, i1, i2, m1, m2, hb4⟩
            obtain ⟨a1, n1, c1, rfl⟩ := own_slice o1
            obtain rfl := own_len o1
            obtain ⟨a2, n2, c2, rfl⟩ := own_slice o2
            obtain rfl := own_len o2
            have hmany := HS1.out.many
            have hbl1 : l1.length ≤ 100000 := by
              have := reach_bound S R HS1.out.good l1 (incr_nodup i1) (fun x hx => ((m1 x).1 hx).1)
              omega
            have hbl2 : l2.length ≤ 100000 := by
              have := reach_bound S R HS1.out.good l2 (incr_nodup i2) (fun x hx => ((m2 x).1 hx).1)
              omega
            have hS2 := HS1.out.below hb4
            have HB4 := Lib.hid (HBW.out.trans (hb4.mono HBW.out.size)); have HST4 := Lib.hid (HST.out.below hb4)
            have HV1 := Lib.hid o1; have HV2 := Lib.hid o2; have HRS4 := Lib.hid (own_below (own_below HO.out (Below.refl _ _)) hb4)
            have I1 := Lib.hid i1; have I2 := Lib.hid i2; have M1 := Lib.hid m1; have M2 := Lib.hid m2; have HS2 := Lib.hid hS2
            clear o1 o2 i1 i2 m1 m2 hb4 hS2 HST
            have hjl : t % D.length < D.length := Nat.mod_lt _ hD0
            obtain ⟨j, hj⟩ : ∃ j, j = t % D.length := ⟨_, rfl⟩
            rw [← hj] at hjl
            have ej : Int.tmod (t : Int) D.length = j := by rw [hj]; rfl
            obtain ⟨g, gc, he, hcd⟩ := HST4.out
            cases he
            obtain ⟨gb, go_, rfl, hcell⟩ := hcd.resolve_left (by omega)
            have hd := hcell j hjl
            rw [List.getD_eq_getElem?_getD, List.getElem?_eq_getElem hjl, Option.getD_some] at hd
            have hkd := HK.out D[j] (List.getElem_mem hjl)
            obtain ⟨d, hdd⟩ : ∃ d, d = D[j] := ⟨_, rfl⟩
            rw [← hdd] at hd hkd
            have HKD := Lib.hid hkd
            have hdz : d.size ≤ maxLen := by rw [hkd.2]; decide
            have HDZ := Lib.hid hdz
            clear hj hdd hcell hcd hkd hdz HST4
            go_wp2_with fail
            refine (drop_any a mp k F S d _ HS2.out HDZ.out).mono ?_
            rintro e w5 ⟨rfl, hs5, hfr⟩
            rw [HKD.out.1]
            obtain ⟨f, sm, _⟩ := HS2.out.map_
            have u1 := own_fr HV1.out sm hfr; have u2 := own_fr HV2.out sm hfr; have u3 := own_fr HRS4.out sm hfr
            have hb5 : Below w.heap.size w w5 := HB4.out.trans (hfr.below HB4.out.size (fun k hk => by have e2 : k = mp := hk; omega))
            have U1 := Lib.hid u1; have U2 := Lib.hid u2; have U3 := Lib.hid u3; have HB5 := Lib.hid hb5; have HS5 := Lib.hid hs5
            clear u1 u2 u3 hb5 hs5 hfr sm HS2 HB4 HV1 HV2 HRS4 HS1
            go_wp2_with fail
            refine (closure_any a mp k F (S.drop d) (.slice pa R.length pc) R _ HS5.out (by omega) (StrsC.own U3.out) (by omega) HZ.out).mono ?_
            rintro e w6 ⟨v3, v4, l3, l4, rfl, o3, o4, _, i3, i4, m3, m4, hb6⟩
            obtain ⟨a3, n3, c3, rfl⟩ := own_slice o3
            obtain rfl := own_len o3
            obtain ⟨a4, n4, c4, rfl⟩ := own_slice o4
            obtain rfl := own_len o4
            have hmany5 := HS5.out.many
            have hbl3 : l3.length ≤ 100000 := by
              have := reach_bound (S.drop d) R HS5.out.good l3 (incr_nodup i3) (fun x hx => ((m3 x).1 hx).1)
              omega
            have hbl4 : l4.length ≤ 100000 := by
              have := reach_bound (S.drop d) R HS5.out.good l4 (incr_nodup i4) (fun x hx => ((m4 x).1 hx).1)
              omega
            obtain ⟨hyes, hno⟩ := drop_lists HKD.out.1 I1.out I2.out i3 i4 M1.out M2.out m3 m4
            have HYES := Lib.hid hyes; have HNO := Lib.hid hno
            have V1 := Lib.hid (StrsC.own (own_below U1.out hb6)); have V2 := Lib.hid (StrsC.own (own_below U2.out hb6)); have V3 := Lib.hid (StrsC.own o3); have V4 := Lib.hid (StrsC.own o4)
            have HB6 := Lib.hid (HB5.out.trans (hb6.mono HB5.out.size))
            clear o3 o4 i3 i4 m3 m4 hb6 hyes hno U1 U2 U3 HB5 HS5 I1 I2 M1 M2
            go_wp2_with fail
            refine (contStrs_any _ l1 d _ V1.out (by omega)).mono ?_
            rintro e w7 ⟨rfl, rfl⟩
            by_cases hin : d ∈ l1
            · rw [(Lib.containsS_iff l1 d).2 hin]
              obtain ⟨y1, y2⟩ := HYES.out hin
              have Y1 := Lib.hid y1; have Y2 := Lib.hid y2; clear y1 y2 hin
              go_wp2_with fail
              refine (contStrs_any _ l4 d _ V4.out (by omega)).mono ?_
              rintro e w8 ⟨rfl, rfl⟩
              rw [(Lib.containsS_iff l4 d).2 Y1.out]
              go_wp2_with fail
              refine (contStrs_any _ l3 d _ V3.out (by omega)).mono ?_
              rintro e w9 ⟨rfl, rfl⟩
              rw [containsS_false l3 d Y2.out]
              go_wp2_with fail
              go_ret
              exact ⟨rfl, HB6.out⟩
            · rw [containsS_false l1 d hin]
              obtain ⟨rfl, rfl⟩ := HNO.out hin
              clear hin
              go_wp2_with fail
              refine (eqStrs_any _ _ l3 l3 _ V3.out V1.out (by omega) (by omega)).mono ?_
              rintro e _ ⟨rfl, q, rfl⟩
              rw [decide_eq_true (rfl : l3 = l3)]
              have hbq : Below w7.heap.size w7 (w7.drewN q) := below_drewN (Below.refl _ _) q
              replace V4 := Lib.hid (V4.out.below hbq); replace V2 := Lib.hid (V2.out.below hbq); replace HB6 := Lib.hid (HB6.out.trans (hbq.mono HB6.out.size))
              clear hbq V1 V3
              generalize w7.drewN q = w8 at *
              go_wp2_with fail
              refine (eqStrs_any _ _ l4 l4 _ V4.out V2.out (by omega) (by omega)).mono ?_
              rintro e _ ⟨rfl, q, rfl⟩
              rw [decide_eq_true (rfl : l4 = l4)]
              have hbq : Below w8.heap.size w8 (w8.drewN q) := below_drewN (Below.refl _ _) q
              replace HB6 := Lib.hid (HB6.out.trans (hbq.mono HB6.out.size))
              clear hbq V4 V2
              generalize w8.drewN q = w9 at *
              go_wp2_with fail
              go_ret
              exact ⟨rfl, HB6.out⟩
    · have d10 : decide ((10 : Int) < ws.length) = true := by simp; omega
      go_wp2_with fail
      go_ret
      exact ⟨rfl, HB.out⟩
end Go.Proofs.YtjlpdknomdhbhaaGreatDoor
