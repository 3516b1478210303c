/- ObjectsClosed: the walk. Condition: the arguments are slices as they are read. -/
import Derived.Test.YtjlpdknomdhbhaaGreatDoorLawOBld
import Derived.Test.YtjlpdknomdhbhaaGreatDoorStrCo
namespace Go.Proofs.YtjlpdknomdhbhaaGreatDoor
set_option linter.unusedVariables false
set_option linter.unusedSimpArgs false
open Go Go.RowKit Go.Maps
theorem fput_true {f : ByteArray → Option Value} {x : ByteArray} (h : f x = some (.bool true)) (k : ByteArray) : fput f k (.bool true) x = some (.bool true) := by
  unfold fput
  split
  · rfl
  · exact h
theorem fput_self (f : ByteArray → Option Value) (k : ByteArray) (v : Value) : fput f k v k = some v := by unfold fput; rw [if_pos rfl]
/-- Everything that is reached was marked. -/
theorem all_marked {S : Store} {R l1 : List ByteArray} {f : ByteArray → Option Value} (m1 : ∀ k, k ∈ l1 ↔ Store.Reach S R k ∧ (S.get k).isSome = true) (h1 : ∀ d ∈ R, f d = some (.bool true))
    (h2 : ∀ d ∈ l1, ∀ o, S.get d = some o → ∀ x ∈ o.refs, f x = some (.bool true)) (d : ByteArray) (hd : Store.Reach S R d) : f d = some (.bool true) := by
  rcases hd.inv with h | ⟨e, o, q1, q2, q3⟩
  · exact h1 d h
  · exact h2 e ((m1 e).2 ⟨q1, by rw [q2]; rfl⟩) o q2 d q3
theorem reach_size {S : Store} {R : List ByteArray} (hg : ∀ k o, S.get k = some o → okO o = true) (hz : ∀ d ∈ R, d.size ≤ maxLen) (d : ByteArray) (hd : Store.Reach S R d) : d.size ≤ maxLen := by
  rcases hd.inv with h | ⟨e, o, q1, q2, q3⟩
  · exact hz d h
  · rw [(okO_parts (hg e o q2)).2.2.2.2 d q3]; decide
set_option maxRecDepth 100000 in
set_option maxHeartbeats 16000000 in
theorem oclosed_any (v u x y : Value) (l : List Obj) (ls ws : List Int) (rs : List ByteArray) (w : World) (hM : MaxL w) (h : ObjsC w v l) (hr : ObjsR l) (hu : BytC w u ls) (hx : BytC w x ws) (hy : StrsC w y rs) (hyb : ∀ z ∈ rs, z.size ≤ 140737488355328) (hyl : rs.length ≤ 140737488355328) :
    Calls Tryz.prog 8 #[v, u, x, y] w fun e w' => e = .returned (.bool true) ∧ Below w.heap.size w w' := by
  have HC := Lib.hid h; have HM := Lib.hid hM; have HR := Lib.hid hr; have HU := Lib.hid hu; have HX := Lib.hid hx; have HY := Lib.hid hy; have HYB := Lib.hid hyb
  obtain ⟨va, vc, rfl⟩ := h.len
  obtain ⟨ua, uc, rfl⟩ := hu.1.len
  obtain ⟨xa, xc, rfl⟩ := hx.1.len
  obtain ⟨ya, yc, rfl⟩ := hy.len
  clear h hM hr hu hx hy hyb
  go_enter Tryz.func8, Tryz.ntmps8
  go_wp2_with fail
  refine (awake_any _ HM.out).mono ?_
  rintro e w1 ⟨rfl, hb⟩
  replace HC := Lib.hid (HC.out.below hb); replace HU := Lib.hid (HU.out.below hb); replace HX := Lib.hid (HX.out.below hb); replace HY := Lib.hid (HY.out.below hb); have HB := Lib.hid hb; clear hb HM
  go_wp2_with fail
  refine (r49FewObjects_any _ l _ HC.out HR.out).mono ?_
  rintro e w2 ⟨rfl, hb⟩
  replace HC := Lib.hid (HC.out.below hb); replace HU := Lib.hid (HU.out.below hb); replace HX := Lib.hid (HX.out.below hb); replace HY := Lib.hid (HY.out.below hb); replace HB := Lib.hid (HB.out.trans (hb.mono HB.out.size)); clear hb HR
  cases hf : fewL l with
  | false =>
    go_wp2_with fail
    go_ret
    exact ⟨rfl, HB.out⟩
  | true =>
    have HF := Lib.hid hf; clear hf
    by_cases h10 : ws.length ≤ 10
    case neg =>
      have d10 : decide ((10 : Int) < ws.length) = true := by simp; omega
      go_wp2_with fail
      go_ret
      exact ⟨rfl, HB.out⟩
    have d10 : decide ((10 : Int) < ws.length) = false := by simp; omega
    by_cases h11 : rs.length ≤ 10
    case neg =>
      have d11 : decide ((10 : Int) < rs.length) = true := by simp; omega
      go_wp2_with fail
      go_ret
      exact ⟨rfl, HB.out⟩
    have d11 : decide ((10 : Int) < rs.length) = false := by simp; omega
    go_wp2_with fail
    refine (r46Few_any _ rs _ HY.out HYB.out (by omega)).mono ?_
    rintro e w2 ⟨rfl, rfl⟩
    cases hfe : few46 rs with
    | false =>
      go_wp2_with fail
      go_ret
      exact ⟨rfl, HB.out⟩
    | true =>
      have hrz : ∀ z ∈ rs, z.size ≤ maxLen := by
        unfold few46 at hfe
        simp only [Bool.and_eq_true, decide_eq_true_eq] at hfe
        intro z hz
        have := sumS_mem hz
        unfold maxLen
        omega
      have HRZ := Lib.hid hrz
      clear hrz hfe HYB
      go_wp2_with fail
      refine (build_any _ _ l ls w2 HC.out HF.out HU.out).mono ?_
      rintro e w3 ⟨a, mp, rv, av, k, D, S, rfl, hk, hI⟩
      obtain ⟨aa, am, ac, rfl⟩ := own_slice hI.all_
      obtain rfl := own_len hI.all_
      obtain ⟨L, hL, hLL⟩ := hI.ref
      obtain ⟨ra, rm, rc, rfl⟩ := own_slice hL
      clear hL hLL L
      have hb23 := hI.below
      replace HX := Lib.hid (HX.out.below hb23); replace HY := Lib.hid (HY.out.below hb23); replace HB := Lib.hid (HB.out.trans (hb23.mono HB.out.size)); have HI := Lib.hid hI
      clear hI hb23 HC HU HF
      have hst : StrsC w3 (.slice aa D.length ac) D := StrsC.own HI.out.all_
      have hkeys := HI.out.keys
      obtain ⟨F, hset, _⟩ := HI.out.set
      have hfew := HI.out.few
      have HST := Lib.hid hst; have HK := Lib.hid hkeys; have HSET := Lib.hid hset
      clear hst hkeys hset HI
      go_wp2_with fail
      refine (cloneStrs_any (.slice ya rs.length yc) rs _ HY.out (by omega)).mono ?_
      rintro e w4 ⟨v4, rfl, _, _, ho4, hb4⟩
      obtain ⟨na, nm, nc, rfl⟩ := own_slice ho4
      obtain rfl := own_len ho4
      have HO4 := Lib.hid ho4; have HB4 := Lib.hid hb4; clear ho4 hb4 HY
      go_wp2_with fail
      go_loopw [3, 68] (fun v i wr => ∃ (m : Nat) (R : List ByteArray), m ≤ ws.length ∧ i = .int .i64 m ∧ wr.ownsRow w3.heap.size 9 1 v R.length (R.map Value.string) ∧ R.length ≤ rs.length + m ∧ (∀ d ∈ R, d.size ≤ maxLen) ∧ Below w3.heap.size w3 wr) (fun _ i _ => ws.length - (intOf i).toNat)
      case atStart => exact ⟨0, rs, by omega, rfl, HO4.out, Nat.le_refl _, HRZ.out, HB4.out⟩
      case round =>
        obtain ⟨m, R, hm, rfl, ho, hRl, hRD, hb⟩ := hrel
        obtain ⟨pa, pm, pc, rfl⟩ := own_slice ho
        obtain rfl := own_len ho
        have HO := Lib.hid ho; have HZ := Lib.hid hRD; have HBL := Lib.hid hb; have hBl := hb.size
        clear ho hRD hb HO4 HB4
        by_cases hlt : m < ws.length
        · have dk : decide ((m : Int) < ws.length) = true := by simp; omega
          obtain ⟨ub, uo, x, rfl, hx, hx0, hx1⟩ := (HX.out.below HBL.out).at hlt
          obtain ⟨y, rfl⟩ : ∃ y : Nat, x = y := ⟨x.toNat, by omega⟩
          by_cases hD0 : 0 < D.length
          · have d0 : decide ((0 : Int) < D.length) = true := decide_eq_true (by omega)
            have hjl : y % D.length < D.length := Nat.mod_lt _ hD0
            obtain ⟨j, hj⟩ : ∃ j, j = y % D.length := ⟨_, rfl⟩
            rw [← hj] at hjl
            have ej : Int.tmod (y : Int) D.length = j := by rw [hj]; rfl
            obtain ⟨g, gc, he, hcd⟩ := HST.out.below HBL.out
            cases he
            obtain ⟨gb, go_, rfl, hcell⟩ := hcd.resolve_left (by omega)
            have hd := hcell j hjl
            rw [List.getD_eq_getElem?_getD, List.getElem?_eq_getElem hjl, Option.getD_some] at hd
            have hdz : D[j].size ≤ maxLen := by rw [(HK.out D[j] (List.getElem_mem hjl)).2]; decide
            obtain ⟨d, hdd⟩ : ∃ d, d = D[j] := ⟨_, rfl⟩
            rw [← hdd] at hd hdz
            have HDZ := Lib.hid hdz; clear hj hdd hcell hcd hdz
            go_wp2_with (at_builtin; go_must (refine wp_push_str rfl _ _ rfl w3.heap.size R.length (.slice pa R.length pc) (R.map Value.string) rfl (HO.out.alloc _) wr.heap.size 1 d rfl (cell_new wr (.string d) 9) (by omega) (by simp; omega) ?_); intro v6 w6 ho hg _; have HO6 := Lib.hid ho; have HB6 := Lib.hid (below_own (HBL.out.alloc hBl _) (by simp; omega) HO.out hg); clear ho hg)
            exact ⟨⟨m + 1, R ++ [d], by omega, by go_num, by simpa using HO6.out, by simp; omega, fun z hz => by
              rcases List.mem_append.1 hz with hz | hz
              · exact HZ.out z hz
              · rw [List.mem_singleton] at hz; rw [hz]; exact HDZ.out, HB6.out⟩, by simp [intOf]; omega⟩
          · have d0 : decide ((0 : Int) < D.length) = false := by rw [show D.length = 0 by omega]; rfl
            go_wp2_with fail
            exact ⟨⟨m + 1, R, by omega, by go_num, HO.out, by omega, HZ.out, HBL.out⟩, by simp [intOf]; omega⟩
        · have dk : decide ((m : Int) < ws.length) = false := by simp; omega
          have hrs : StrsC wr (.slice pa R.length pc) R := StrsC.own HO.out
          have hS1 := HSET.out.below HBL.out
          have hrz := reach_size hS1.good HZ.out
          have HRS := Lib.hid hrs; have HS1 := Lib.hid hS1; have HRZ2 := Lib.hid hrz; have HBW := Lib.hid (HB.out.trans (HBL.out.mono HB.out.size))
          clear hrs hS1 hrz HST HSET HX HBL HO HK HB
          go_wp2_with fail
          refine (closure_any a mp k F S (.slice pa R.length pc) R _ HS1.out (by omega) HRS.out (by omega) HZ.out).mono ?_
          rintro e w5 ⟨v1, v2, l1, l2, rfl, o1, o2, _, i1, i2, m1, m2, hb5⟩
          obtain ⟨a1, n1, c1, rfl⟩ := own_slice o1
          obtain rfl := own_len o1
          obtain ⟨a2, n2, c2, rfl⟩ := own_slice o2
          obtain rfl := own_len o2
          have hmany := HS1.out.many
          have hbl1 : l1.length ≤ 20 := by
            have := keys_le S l1 (incr_nodup i1) (fun x hx => ((m1 x).1 hx).2)
            omega
          have hbl2 : l2.length ≤ 90000 := by
            have := reach_bound S R HS1.out.good l2 (incr_nodup i2) (fun x hx => ((m2 x).1 hx).1)
            omega
          have HS2 := Lib.hid (HS1.out.below hb5); have HB5 := Lib.hid (HBW.out.trans (hb5.mono HBW.out.size)); have HR5 := Lib.hid (HRS.out.below hb5)
          have V1 := Lib.hid (StrsC.own o1); have V2 := Lib.hid (StrsC.own o2)
          have I1 := Lib.hid i1; have I2 := Lib.hid i2; have M1 := Lib.hid m1; have M2 := Lib.hid m2
          clear o1 o2 i1 i2 m1 m2 hb5 HS1 HBW HRS
          go_wp2_with fail
          refine (cloneStrs_any (.slice a1 l1.length c1) l1 _ V1.out (by omega)).mono ?_
          rintro e w6 ⟨v6, rfl, _, _, ho6, hb6⟩
          obtain ⟨ta, tm, tc, rfl⟩ := own_slice ho6
          obtain rfl := own_len ho6
          have V26 := Lib.hid (V2.out.below hb6); have HO6 := Lib.hid ho6; have HB6 := Lib.hid hb6; clear ho6 hb6
          go_wp2_with (at_builtin; go_must (refine wp_append_strs rfl _ _ rfl w5.heap.size l1.length (.slice ta l1.length tc) (l1.map Value.string) rfl HO6.out (.slice a2 l2.length c2) l2 rfl V26.out (by omega) HB6.out.size ?_); intro v7 w7 ho7 hg7; obtain ⟨sa, sm_, sc, rfl⟩ := own_slice ho7; obtain rfl := own_len ho7; have HB7 := Lib.hid (below_own HB6.out HB6.out.size HO6.out hg7); have HO7 := Lib.hid ho7; clear ho7 hg7)
          have hboth : ∀ x, x ∈ l1 ++ l2 ↔ Store.Reach S R x := by
            intro x
            rw [List.mem_append, M1.out x, M2.out x]
            constructor
            · rintro (h | h) <;> exact h.1
            · intro h
              cases hq : (S.get x).isSome with
              | true => exact .inl ⟨h, rfl⟩
              | false => exact .inr ⟨h, rfl⟩
          have hs7 : StrsC w7 (.slice sa (l1.length + l2.length) sc) (l1 ++ l2) := by
            have := HO7.out
            rw [← List.map_append, ← List.length_append] at this
            have h2 := StrsC.own this
            rwa [List.length_append] at h2
          have HBO := Lib.hid hboth; have HS7 := Lib.hid hs7; have HSE7 := Lib.hid (HS2.out.below HB7.out)
          have V17 := Lib.hid (V1.out.below HB7.out); have V27 := Lib.hid (V2.out.below HB7.out); have HR7 := Lib.hid (HR5.out.below HB7.out); have HBB7 := Lib.hid (HB5.out.trans (HB7.out.mono HB5.out.size))
          clear hboth hs7 V26 HO6 HB6 HO7 HS2 V1 V2 HR5 HB5 HB7
          refine (closure_any a mp k F S _ (l1 ++ l2) _ HSE7.out (by omega) HS7.out (by rw [List.length_append]; omega) (fun x hx => HRZ2.out x ((HBO.out x).1 hx))).mono ?_
          rintro e w8 ⟨v3, v4, l3, l4, rfl, o3, o4, _, i3, i4, m3, m4, hb8⟩
          have e3 : l3 = l1 := incr_unique i3 I1.out fun x => by rw [m3, M1.out, Store.Reach.again HBO.out]
          have e4 : l4 = l2 := incr_unique i4 I2.out fun x => by rw [m4, M2.out, Store.Reach.again HBO.out]
          subst e3; subst e4
          obtain ⟨a3, n3, c3, rfl⟩ := own_slice o3
          obtain rfl := own_len o3
          obtain ⟨a4, n4, c4, rfl⟩ := own_slice o4
          obtain rfl := own_len o4
          have HSE8 := Lib.hid (HSE7.out.below hb8); have V18 := Lib.hid (V17.out.below hb8); have V28 := Lib.hid (V27.out.below hb8); have V3 := Lib.hid (StrsC.own o3); have V4 := Lib.hid (StrsC.own o4); have HR8 := Lib.hid (HR7.out.below hb8); have HB8 := Lib.hid (HBB7.out.trans (hb8.mono HBB7.out.size))
          clear o3 o4 i3 i4 m3 m4 hb8 HS7 HSE7 V17 V27 HR7 HBB7
          go_wp2_with fail
          refine (eqStrs_any _ _ l3 l3 _ V18.out V3.out (by omega) (by omega)).mono ?_
          rintro e _ ⟨rfl, q, rfl⟩
          rw [decide_eq_true (rfl : l3 = l3)]
          have hbq : Below w8.heap.size w8 (w8.drewN q) := below_drewN (Below.refl _ _) q
          replace HSE8 := Lib.hid (HSE8.out.below hbq); replace V18 := Lib.hid (V18.out.below hbq); replace V28 := Lib.hid (V28.out.below hbq); replace V4 := Lib.hid (V4.out.below hbq); replace HR8 := Lib.hid (HR8.out.below hbq); replace HB8 := Lib.hid (HB8.out.trans (hbq.mono HB8.out.size))
          clear hbq V3
          generalize w8.drewN q = w9 at *
          go_wp2_with fail
          refine (eqStrs_any _ _ l4 l4 _ V28.out V4.out (by omega) (by omega)).mono ?_
          rintro e _ ⟨rfl, q, rfl⟩
          rw [decide_eq_true (rfl : l4 = l4)]
          have hbq : Below w9.heap.size w9 (w9.drewN q) := below_drewN (Below.refl _ _) q
          replace HSE8 := Lib.hid (HSE8.out.below hbq); replace V18 := Lib.hid (V18.out.below hbq); replace V28 := Lib.hid (V28.out.below hbq); replace HR8 := Lib.hid (HR8.out.below hbq); replace HB8 := Lib.hid (HB8.out.trans (hbq.mono HB8.out.size))
          clear hbq V4
          generalize w9.drewN q = w10 at *
          go_wp2_with fail
          refine (isSorted_any _ l3 _ V18.out I1.out (by omega)).mono ?_
          rintro e _ ⟨rfl, q, rfl⟩
          have hbq : Below w10.heap.size w10 (w10.drewN q) := below_drewN (Below.refl _ _) q
          replace HSE8 := Lib.hid (HSE8.out.below hbq); replace V18 := Lib.hid (V18.out.below hbq); replace V28 := Lib.hid (V28.out.below hbq); replace HR8 := Lib.hid (HR8.out.below hbq); replace HB8 := Lib.hid (HB8.out.trans (hbq.mono HB8.out.size))
          clear hbq
          generalize w10.drewN q = w11 at *
          go_wp2_with fail
          refine (isSorted_any _ l4 _ V28.out I2.out (by omega)).mono ?_
          rintro e _ ⟨rfl, q, rfl⟩
          have hbq : Below w11.heap.size w11 (w11.drewN q) := below_drewN (Below.refl _ _) q
          replace HSE8 := Lib.hid (HSE8.out.below hbq); replace V18 := Lib.hid (V18.out.below hbq); replace V28 := Lib.hid (V28.out.below hbq); replace HR8 := Lib.hid (HR8.out.below hbq); replace HB8 := Lib.hid (HB8.out.trans (hbq.mono HB8.out.size))
          clear hbq
          generalize w11.drewN q = w12 at *
          have hmm := @run_makeMap Tryz.prog
          have hsm : Smap (w12.alloc (.map #[] 0)) w12.heap.size 0 (fun _ => none) := Smap.made w12
          have hbm : Below w12.heap.size w12 (w12.alloc (.map #[] 0)) := (Below.refl _ _).alloc (Nat.le_refl _) _
          have HSM := Lib.hid hsm; have HBM := Lib.hid hbm; clear hsm hbm
          go_wp2_with fail
          clear hmm
          go_loopw [125] (fun i wr => ∃ (m n : Nat) (f : ByteArray → Option Value), m ≤ R.length ∧ i = .int .i64 m ∧ n ≤ m ∧ Smap wr w12.heap.size n f ∧ (∀ j (h : j < R.length), j < m → f R[j] = some (.bool true)) ∧ Below w12.heap.size w12 wr) (fun i _ => R.length - (intOf i).toNat)
          case atStart => exact ⟨0, 0, _, by omega, rfl, Nat.le_refl _, HSM.out, (fun j _ h => by omega), HBM.out⟩
          case round =>
            obtain ⟨m, n, f, hm, rfl, hnm, hsm, hft, hbl⟩ := hrel
            have hlt12 := hsm.lt
            have HSM2 := Lib.hid hsm; have HFT := Lib.hid hft; have HBL := Lib.hid hbl; have hbls := hbl.size
            clear hsm hft hbl HSM HBM
            by_cases hlt : m < R.length
            · have dk : decide ((m : Int) < R.length) = true := by simp; omega
              obtain ⟨g, gc, he, hcd⟩ := HR8.out.below HBL.out
              cases he
              obtain ⟨gb, go_, rfl, hcell⟩ := hcd.resolve_left (by omega)
              have hd := hcell m hlt
              rw [List.getD_eq_getElem?_getD, List.getElem?_eq_getElem hlt, Option.getD_some] at hd
              have hdz := HZ.out R[m] (List.getElem_mem hlt)
              obtain ⟨d, hdd⟩ : ∃ d, d = R[m] := ⟨_, rfl⟩
              rw [← hdd] at hd hdz
              have HDD := Lib.hid hdd; have HDZ := Lib.hid hdz; clear hdd hdz hcell hcd
              go_wp2_with (at_mapUpdate; go_must (refine wp_upd rfl _ _ _ 63 4 rfl Tryz.underlying63 HSM2.out (by unfold maxLen; omega) rfl d (.bool true) rfl rfl HDZ.out ?_); intro w13 hm13 hg13; have HM13 := Lib.hid hm13; have HB13 := Lib.hid (HBL.out.grown hg13 hbls (fun k hk => by cases hk; exact Nat.le_refl _)); clear hm13 hg13)
              refine ⟨⟨m + 1, n + 1, _, by omega, by go_num, by omega, HM13.out, fun j hj hjm => ?_, HB13.out⟩, by simp [intOf]; omega⟩
              rcases (by omega : j < m ∨ j = m) with h | h
              · exact fput_true (HFT.out j hj h) d
              · subst h
                rw [← HDD.out]
                exact fput_self _ _ _
            · have dk : decide ((m : Int) < R.length) = false := by simp; omega
              have hft : ∀ d ∈ R, f d = some (.bool true) := by
                intro d hd
                obtain ⟨j, hj, rfl⟩ := List.getElem_of_mem hd
                exact HFT.out j hj (by omega)
              have HFA := Lib.hid hft
              clear hft HFT
              go_wp2_with fail
              go_loopw [134] (fun i wr => ∃ (m n : Nat) (f : ByteArray → Option Value), m ≤ l3.length ∧ i = .int .i64 m ∧ n ≤ 1000 + 64 * m ∧ Smap wr w12.heap.size n f ∧ (∀ d ∈ R, f d = some (.bool true)) ∧ (∀ j (h : j < l3.length), j < m → ∀ o, S.get l3[j] = some o → ∀ x ∈ o.refs, f x = some (.bool true)) ∧ Below w12.heap.size w12 wr) (fun i _ => l3.length - (intOf i).toNat)
              case atStart => exact ⟨0, n, f, by omega, rfl, by omega, HSM2.out, HFA.out, (fun j _ h => by omega), HBL.out⟩
              case round =>
                clear HSM2 HFA HBL hbls hlt12
                obtain ⟨m, n, f, hm, rfl, hnm, hsm, hft, hfr, hbl⟩ := hrel
                have hlt12 := hsm.lt
                have HSM2 := Lib.hid hsm; have HFA := Lib.hid hft; have HFR := Lib.hid hfr; have HBL := Lib.hid hbl; have hbls := hbl.size
                clear hsm hft hfr hbl
                by_cases hlt : m < l3.length
                · have dk : decide ((m : Int) < l3.length) = true := by simp; omega
                  obtain ⟨g, gc, he, hcd⟩ := V18.out.below HBL.out
                  cases he
                  obtain ⟨gb, go_, rfl, hcell⟩ := hcd.resolve_left (by omega)
                  have hd := hcell m hlt
                  rw [List.getD_eq_getElem?_getD, List.getElem?_eq_getElem hlt, Option.getD_some] at hd
                  have hmem := (M1.out l3[m]).1 (List.getElem_mem hlt)
                  have hdz := HRZ2.out l3[m] hmem.1
                  obtain ⟨d, hdd⟩ : ∃ d, d = l3[m] := ⟨_, rfl⟩
                  rw [← hdd] at hd hdz hmem
                  obtain ⟨o, hgo⟩ : ∃ o, S.get d = some o := by
                    cases hq : S.get d with
                    | none => rw [hq] at hmem; cases hmem.2
                    | some o => exact ⟨o, rfl⟩
                  have hok := okO_parts (HSE8.out.good d o hgo)
                  have hreach : ∀ x ∈ o.refs, x ∈ l3 ∨ x ∈ l4 := by
                    intro x hx
                    have hr := Store.Reach.ref hmem.1 hgo hx
                    cases hq : (S.get x).isSome with
                    | true => exact .inl ((M1.out x).2 ⟨hr, hq⟩)
                    | false => exact .inr ((M2.out x).2 ⟨hr, hq⟩)
                  have HDD := Lib.hid hdd; have HDZ := Lib.hid hdz; have HGO := Lib.hid hgo; have HRE := Lib.hid hreach; have HOK := Lib.hid hok; have HSE := Lib.hid (HSE8.out.below HBL.out)
                  clear hdd hdz hcell hcd hmem hgo hreach hok
                  go_wp2_with fail
                  have hget := get_any a mp k F S d wr HSE.out HDZ.out
                  rw [HGO.out] at hget
                  refine hget.mono ?_
                  rintro e w13 ⟨sv, rfl, hs13, hu13, hb13⟩
                  obtain ⟨oa, oc, rfl⟩ := hs13.len
                  have HS13 := Lib.hid hs13; have HU13 := Lib.hid hu13; have HB13 := Lib.hid hb13
                  clear hs13 hu13 hb13 hget
                  unfold objV
                  go_wp2_with fail
                  have hba : Below w13.heap.size w13 (w13.alloc (.cells #[.int .i64 o.kind, .slice oa o.refs.length oc, .string o.data] 24)) := (Below.refl _ _).alloc (Nat.le_refl _) _
                  have hb14 : Below wr.heap.size wr (w13.alloc (.cells #[.int .i64 o.kind, .slice oa o.refs.length oc, .string o.data] 24)) := HB13.out.alloc HB13.out.size _
                  have hs14 := HS13.out.below hba
                  have hsm14 := HSM2.out.below hb14 hlt12
                  obtain ⟨wB, hwB⟩ : ∃ x, x = wr := ⟨_, rfl⟩
                  subst hwB
                  generalize w13.alloc (.cells #[.int .i64 o.kind, .slice oa o.refs.length oc, .string o.data] 24) = w14 at *
                  have HB14 := Lib.hid hb14; have HS14 := Lib.hid hs14; have HSM14 := Lib.hid hsm14
                  clear hba hb14 hs14 hsm14 HS13 HB13 HSM2
                  go_loopw [149] (fun i wi => ∃ (q n' : Nat) (f' : ByteArray → Option Value), q ≤ o.refs.length ∧ i = .int .i64 q ∧ n' ≤ 1000 + 64 * m + q ∧ Smap wi w12.heap.size n' f' ∧ (∀ d ∈ R, f' d = some (.bool true)) ∧ (∀ j (h : j < l3.length), j < m → ∀ o, S.get l3[j] = some o → ∀ x ∈ o.refs, f' x = some (.bool true)) ∧ (∀ j (h : j < o.refs.length), j < q → f' o.refs[j] = some (.bool true)) ∧ Fr (fun k => k = w12.heap.size) w14 wi) (fun i _ => o.refs.length - (intOf i).toNat)
                  case atStart => exact ⟨0, n, f, by omega, rfl, by omega, HSM14.out, HFA.out, HFR.out, (fun j _ h => by omega), Fr.refl _ _⟩
                  case round =>
                    clear HSM14 HFA HFR
                    obtain ⟨q, n', f', hq, rfl, hnq, hsm, hft, hfr, hfq, hfi⟩ := hrel
                    have HSMI := Lib.hid hsm; have HFA := Lib.hid hft; have HFR := Lib.hid hfr; have HFQ := Lib.hid hfq; have HFI := Lib.hid hfi
                    have hltB : w12.heap.size < wB.heap.size := hlt12
                    have h14s := HB14.out.size
                    have hbi : Below w12.heap.size w12 wr := (HBL.out.trans (HB14.out.mono hbls)).trans (hfi.below (B := w12.heap.size) (by omega) (fun k hk => by have e2 : k = w12.heap.size := hk; omega))
                    have hbis := hbi.size
                    have hsi : StrsC wr (.slice oa o.refs.length oc) o.refs := HS14.out.keep (fun k hk hl => hfi.keep k hl (fun e => by
                      have e2 : k = w12.heap.size := e
                      have := (HU13.out k hk).1
                      omega))
                    have HBI := Lib.hid hbi; have HSI := Lib.hid hsi
                    clear hsm hft hfr hfq hfi hbi hsi
                    by_cases hqt : q < o.refs.length
                    · have dq : decide ((q : Int) < o.refs.length) = true := by simp; omega
                      obtain ⟨g2, gc2, he, hcd⟩ := HSI.out
                      cases he
                      obtain ⟨gb2, go2, rfl, hcell⟩ := hcd.resolve_left (by omega)
                      have hx := hcell q hqt
                      rw [List.getD_eq_getElem?_getD, List.getElem?_eq_getElem hqt, Option.getD_some] at hx
                      have hxm := HRE.out o.refs[q] (List.getElem_mem hqt)
                      have hxz : o.refs[q].size ≤ maxLen := by rw [HOK.out.2.2.2.2 _ (List.getElem_mem hqt)]; decide
                      obtain ⟨x, hxx⟩ : ∃ x, x = o.refs[q] := ⟨_, rfl⟩
                      rw [← hxx] at hx hxm hxz
                      have HXX := Lib.hid hxx; have HXM := Lib.hid hxm; have HXZ := Lib.hid hxz
                      have hok2 := HOK.out.2.2.1
                      clear hxx hxm hxz hcell hcd
                      go_wp2_with (at_mapUpdate; go_must (refine wp_upd rfl _ _ _ 63 4 rfl Tryz.underlying63 HSMI.out (by unfold maxLen; omega) rfl x (.bool true) rfl rfl HXZ.out ?_); intro w15 hm15 hg15; have HM15 := Lib.hid hm15; have HG15 := Lib.hid hg15; have HB15 := Lib.hid (HBI.out.grown hg15 hbis (fun k hk => by cases hk; exact Nat.le_refl _)); clear hm15 hg15)
                      have hloop : (∃ (q' n' : Nat) (f' : ByteArray → Option Value), q' ≤ o.refs.length ∧ Value.int .i64 ((q : Int) + 1) = .int .i64 q' ∧ n' ≤ 1000 + 64 * m + q' ∧ Smap w15 w12.heap.size n' f' ∧ (∀ d ∈ R, f' d = some (.bool true)) ∧ (∀ j (h : j < l3.length), j < m → ∀ o, S.get l3[j] = some o → ∀ x ∈ o.refs, f' x = some (.bool true)) ∧ (∀ j (h : j < o.refs.length), j < q' → f' o.refs[j] = some (.bool true)) ∧ Fr (fun k => k = w12.heap.size) w14 w15) := by
                        refine ⟨q + 1, n' + 1, fput f' x (.bool true), by omega, by go_num, by omega, HM15.out, fun d hd => fput_true (HFA.out d hd) x, fun j hj hjm o' ho' y hy => fput_true (HFR.out j hj hjm o' ho' y hy) x, fun j hj hjq => ?_, HFI.out.grown HG15.out (fun k hk => .inl (Option.some.inj hk).symm)⟩
                        rcases (by omega : j < q ∨ j = q) with h | h
                        · exact fput_true (HFQ.out j hj h) x
                        · subst h
                          rw [← HXX.out]
                          exact fput_self _ _ _
                      have HLOOP := Lib.hid hloop; clear hloop
                      have hV1 := V18.out.below HB15.out; have hV2 := V28.out.below HB15.out
                      have HV1 := Lib.hid hV1; have HV2 := Lib.hid hV2; clear hV1 hV2
                      refine (contStrs_any _ l3 x _ HV1.out (by omega)).mono ?_
                      rintro e w16 ⟨rfl, rfl⟩
                      by_cases hxi : x ∈ l3
                      · rw [(Lib.containsS_iff l3 x).2 hxi]
                        clear hxi
                        go_wp2_with fail
                        exact ⟨HLOOP.out, by simp [intOf]; omega⟩
                      · rw [containsS_false l3 x hxi]
                        have hx4 := HXM.out.resolve_left hxi
                        have HX4 := Lib.hid hx4
                        clear hxi hx4
                        go_wp2_with fail
                        refine (contStrs_any _ l4 x _ HV2.out (by omega)).mono ?_
                        rintro e w17 ⟨rfl, rfl⟩
                        rw [(Lib.containsS_iff l4 x).2 HX4.out]
                        go_wp2_with fail
                        exact ⟨HLOOP.out, by simp [intOf]; omega⟩
                    · have dq : decide ((q : Int) < o.refs.length) = false := by simp; omega
                      have HQ : q = o.refs.length := by omega
                      have hok2 := HOK.out.2.2.1
                      go_wp2_with fail
                      refine ⟨⟨m + 1, n', f', by omega, by go_num, by omega, HSMI.out, HFA.out, fun j hj hjm o' ho' x hx => ?_, HBI.out⟩, by simp [intOf]; omega⟩
                      rcases (by omega : j < m ∨ j = m) with h | h
                      · exact HFR.out j hj h o' ho' x hx
                      · subst h
                        rw [← HDD.out, HGO.out] at ho'
                        cases ho'
                        obtain ⟨i, hi, rfl⟩ := List.getElem_of_mem hx
                        exact HFQ.out i hi (by omega)
                · have dk : decide ((m : Int) < l3.length) = false := by simp; omega
                  have hmark : ∀ d, Store.Reach S R d → f d = some (.bool true) := by
                    refine all_marked M1.out HFA.out fun d hd o ho x hx => ?_
                    obtain ⟨j, hj, rfl⟩ := List.getElem_of_mem hd
                    exact HFR.out j hj (by omega) o ho x hx
                  have HMK := Lib.hid hmark
                  clear hmark HFA HFR
                  go_wp2_with fail
                  go_loopw [169] (fun i wi => ∃ (q : Nat), q ≤ l4.length ∧ i = .int .i64 q ∧ Smap wi w12.heap.size n f ∧ Below w12.heap.size w12 wi) (fun i _ => l4.length - (intOf i).toNat)
                  case atStart => exact ⟨0, by omega, rfl, HSM2.out, HBL.out⟩
                  case round =>
                    clear HSM2 HBL hbls hlt12
                    obtain ⟨q, hq, rfl, hsm, hbl⟩ := hrel
                    have hlt12 := hsm.lt
                    have HSM2 := Lib.hid hsm; have HBL := Lib.hid hbl; have hbls := hbl.size
                    clear hsm hbl
                    by_cases hlt : q < l4.length
                    · have dk : decide ((q : Int) < l4.length) = true := by simp; omega
                      obtain ⟨g, gc, he, hcd⟩ := V28.out.below HBL.out
                      cases he
                      obtain ⟨gb, go_, rfl, hcell⟩ := hcd.resolve_left (by omega)
                      have hd := hcell q hlt
                      rw [List.getD_eq_getElem?_getD, List.getElem?_eq_getElem hlt, Option.getD_some] at hd
                      have hmem := (M2.out l4[q]).1 (List.getElem_mem hlt)
                      have hdz := HRZ2.out l4[q] hmem.1
                      obtain ⟨d, hdd⟩ : ∃ d, d = l4[q] := ⟨_, rfl⟩
                      rw [← hdd] at hd hdz hmem
                      have hgo : S.get d = none := by
                        cases hq : S.get d with
                        | none => rfl
                        | some o => rw [hq] at hmem; cases hmem.2
                      have HDZ := Lib.hid hdz; have HGO := Lib.hid hgo; have HSE := Lib.hid (HSE8.out.below HBL.out)
                      clear hdd hdz hcell hcd hmem hgo
                      go_wp2_with fail
                      have hget := get_any a mp k F S d wr HSE.out HDZ.out
                      rw [HGO.out] at hget
                      refine hget.mono ?_
                      rintro e w13 ⟨rfl, hb13⟩
                      have hb14 : Below wr.heap.size wr (w13.alloc (.cells #[.int .i64 0, .slice none 0 0, .string ⟨#[]⟩] 24)) := hb13.alloc hb13.size _
                      have HSM14 := Lib.hid (HSM2.out.below hb14 hlt12); have HB14 := Lib.hid (HBL.out.trans (hb14.mono hbls))
                      clear hget hb13 hb14
                      unfold objV Obj.none
                      go_wp2_with fail
                      exact ⟨⟨q + 1, by omega, by go_num, HSM14.out, HB14.out⟩, by simp [intOf]; omega⟩
                    · have dk : decide ((q : Int) < l4.length) = false := by simp; omega
                      have V19 := Lib.hid (V18.out.below HBL.out)
                      go_wp2_with fail
                      refine (cloneStrs_any (.slice a1 l3.length c1) l3 _ V19.out (by omega)).mono ?_
                      rintro e w13 ⟨v13, rfl, _, _, ho13, hb13⟩
                      obtain ⟨ta, tm, tc, rfl⟩ := own_slice ho13
                      obtain rfl := own_len ho13
                      have V29 := Lib.hid ((V28.out.below HBL.out).below hb13); have HO13 := Lib.hid ho13; have HB13 := Lib.hid hb13; have HSM13 := Lib.hid (HSM2.out.below hb13 hlt12); clear ho13 hb13
                      go_wp2_with (at_builtin; go_must (refine wp_append_strs rfl _ _ rfl wr.heap.size l3.length (.slice ta l3.length tc) (l3.map Value.string) rfl HO13.out (.slice a2 l4.length c2) l4 rfl V29.out (by omega) HB13.out.size ?_); intro v14 w14 ho14 hg14; obtain ⟨sa, sm_, sc, rfl⟩ := own_slice ho14; obtain rfl := own_len ho14; have HB15 := Lib.hid (below_own HB13.out HB13.out.size HO13.out hg14); have HSM15 := Lib.hid (Smap.row HSM13.out HO13.out hg14); have HO14 := Lib.hid ho14; clear ho14 hg14)
                      have hs14 : StrsC w14 (.slice sa (l3.length + l4.length) sc) (l3 ++ l4) := by
                        have := HO14.out
                        rw [← List.map_append, ← List.length_append] at this
                        have h2 := StrsC.own this
                        rwa [List.length_append] at h2
                      have hfb : Below w.heap.size w w14 := HB8.out.trans ((HBL.out.trans (HB15.out.mono hbls)).mono HB8.out.size)
                      have HS14 := Lib.hid hs14; have HFB := Lib.hid hfb
                      clear hs14 hfb HO14 HO13 HB13 HB15
                      go_loopw [187] (fun i wi => ∃ (z : Nat), z ≤ (l3 ++ l4).length ∧ i = .int .i64 z ∧ wi = w14) (fun i _ => (l3 ++ l4).length - (intOf i).toNat)
                      case atStart => exact ⟨0, by omega, rfl, rfl⟩
                      case round =>
                        obtain ⟨z, hz, rfl, rfl⟩ := hrel
                        rw [List.length_append] at hz
                        by_cases hlz : z < l3.length + l4.length
                        · have dk : decide ((z : Int) < ((l3.length + l4.length : Nat) : Int)) = true := by simp; omega
                          have hlz' : z < (l3 ++ l4).length := by rw [List.length_append]; exact hlz
                          obtain ⟨g, gc, he, hcd⟩ := HS14.out
                          obtain ⟨gb, go_, hga, hcell⟩ := hcd.resolve_left (by omega)
                          have hd := hcell z hlz'
                          rw [List.getD_eq_getElem?_getD, List.getElem?_eq_getElem hlz', Option.getD_some] at hd
                          have hrd := (HBO.out (l3 ++ l4)[z]).1 (List.getElem_mem hlz')
                          have hdz := HRZ2.out _ hrd
                          have hmk := HMK.out _ hrd
                          obtain ⟨d, hdd⟩ : ∃ d, d = (l3 ++ l4)[z] := ⟨_, rfl⟩
                          rw [← hdd] at hd hdz hmk
                          obtain rfl : sa = some ⟨gb, go_, none⟩ := by
                            rw [← hga]
                            exact (Value.slice.inj he).1
                          have hlk := HSM15.out.run_look Tryz.underlying63 (.bool false) (zeroB' _) d hdz
                          rw [hmk, Option.getD_some] at hlk
                          clear hdd hcell hcd hrd hdz hmk he hga
                          go_wp2_with fail
                          exact ⟨⟨z + 1, by rw [List.length_append]; omega, by go_num, by first | rfl | trivial⟩, by simp [intOf]; omega⟩
                        · have dk : decide ((z : Int) < ((l3.length + l4.length : Nat) : Int)) = false := by simp; omega
                          go_wp2_with fail
                          go_ret
                          exact ⟨rfl, HFB.out⟩
end Go.Proofs.YtjlpdknomdhbhaaGreatDoor
