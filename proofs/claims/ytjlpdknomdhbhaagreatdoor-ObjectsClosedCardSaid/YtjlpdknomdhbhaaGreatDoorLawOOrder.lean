/- ObjectsOrder: the walk. Condition: the argument is a slice of objects as it is read. -/
import Derived.Test.YtjlpdknomdhbhaaGreatDoorRefFO
import Derived.Test.YtjlpdknomdhbhaaGreatDoorLawOBytes
namespace Go.Proofs.YtjlpdknomdhbhaaGreatDoor
set_option linter.unusedVariables false
set_option linter.unusedSimpArgs false
open Go Go.RowKit Go.Maps
theorem putS_some (S : Store) (o : Obj) (k : ByteArray) : ((putS S o).get k).isSome = true ↔ (okO o = true ∧ digO o = k) ∨ (S.get k).isSome = true := by
  unfold putS
  by_cases h : okO o = true
  · rw [if_pos h, Store.get_put]
    by_cases h2 : digO o = k
    · rw [if_pos h2]; simp [h, h2]
    · rw [if_neg h2]; simp [h2]
  · rw [if_neg h]; simp [h]
theorem SetAt.other {w w' : World} {a mp n mp2 : Nat} {F : Nat → Prop} {S : Store} (h : SetAt w a mp n F S) (hfr : Fr (fun k => k = mp2) w w') (h1 : a ≠ mp2) (h2 : mp ≠ mp2) (h3 : ¬ F mp2) : SetAt w' a mp n F S :=
  h.keep hfr.size fun k hk hf => hfr.keep k hk (fun e => by
    have e2 : k = mp2 := e
    subst e2
    rcases hf with e3 | e3 | e3
    · exact h1 e3.symm
    · exact h2 e3.symm
    · exact h3 e3)
/-- Two sets under way: the first K objects are in the one, the first K of the turned row in the other. -/
structure OrdI (w0 w : World) (a mpa b mpb : Nat) (l : List Obj) (t K : Nat) : Prop where
  left : ∃ FA SA, SetAt w a mpa K FA SA ∧ (∀ i, FA i → w0.heap.size ≤ i) ∧ ¬ FA mpb ∧ ∀ k, (SA.get k).isSome = true ↔ ∃ (i : Nat) (h : i < l.length), i < K ∧ okO l[i] = true ∧ digO l[i] = k
  right : ∃ FB SB, SetAt w b mpb K FB SB ∧ (∀ i, FB i → w0.heap.size ≤ i) ∧ ¬ FB mpa ∧ ∀ k, (SB.get k).isSome = true ↔ ∃ (i j : Nat) (h : j < l.length), i < K ∧ j = (i + t) % l.length ∧ okO l[j] = true ∧ digO l[j] = k
  ha : w0.heap.size ≤ a ∧ w0.heap.size ≤ mpa ∧ w0.heap.size ≤ b ∧ w0.heap.size ≤ mpb
  ne : a ≠ mpb ∧ mpa ≠ mpb ∧ b ≠ mpa
  below : Below w0.heap.size w0 w
theorem OrdI.under {w0 w w' : World} {a mpa b mpb : Nat} {l : List Obj} {t K : Nat} (h : OrdI w0 w a mpa b mpb l t K) (hb : Below w.heap.size w w') : OrdI w0 w' a mpa b mpb l t K := by
  obtain ⟨⟨FA, SA, a1, a2, a3, a4⟩, ⟨FB, SB, b1, b2, b3, b4⟩, h3, h4, h5⟩ := h
  exact ⟨⟨FA, SA, a1.below hb, a2, a3, a4⟩, ⟨FB, SB, b1.below hb, b2, b3, b4⟩, h3, h4, h5.trans (hb.mono h5.size)⟩
/-- All objects are in both: the keys are the same. -/
theorem ord_same {l : List Obj} {t : Nat} {k : ByteArray} : (∃ (i j : Nat) (h : j < l.length), i < l.length ∧ j = (i + t) % l.length ∧ okO l[j] = true ∧ digO l[j] = k) ↔ ∃ (i : Nat) (h : i < l.length), i < l.length ∧ okO l[i] = true ∧ digO l[i] = k := by
  constructor
  · rintro ⟨i, j, h, _, _, h1, h2⟩
    exact ⟨j, h, h, h1, h2⟩
  · rintro ⟨j, h, _, h1, h2⟩
    have hn : 0 < l.length := by omega
    have ht := Nat.mod_lt t hn
    refine ⟨(j + (l.length - t % l.length)) % l.length, j, h, Nat.mod_lt _ hn, ?_, h1, h2⟩
    have e1 : ((j + (l.length - t % l.length)) % l.length + t) % l.length = (j + (l.length - t % l.length) + t) % l.length := by rw [Nat.mod_add_mod]
    rw [e1]
    have e2 : j + (l.length - t % l.length) + t = j + l.length * (1 + t / l.length) := by
      have := Nat.div_add_mod t l.length
      rw [Nat.mul_add, Nat.mul_one]
      omega
    rw [e2, Nat.add_mul_mod_self_left, Nat.mod_eq_of_lt h]
theorem fewL_parts {l : List Obj} (h : fewL l = true) : (∀ o ∈ l, few49 o = true) ∧ l.length ≤ 20 := by
  unfold fewL at h
  simp only [Bool.and_eq_true, decide_eq_true_eq, List.all_eq_true] at h
  refine ⟨fun o ho => ?_, h.2⟩
  have := h.1 o ho
  unfold fewO at this
  simp only [Bool.and_eq_true] at this
  exact this.1
theorem digR_two (o : Obj) : ∃ (s : ByteArray) (n : Int), digR o = .tuple #[.string s, .int .i64 n] ∧ ((n = 0 ∧ s.size = 32) ∨ n = 1) := by
  unfold digR; split
  · exact ⟨_, _, rfl, .inl ⟨rfl, Sha.sha_size _⟩⟩
  · exact ⟨_, _, rfl, .inr rfl⟩
set_option maxRecDepth 100000 in
set_option maxHeartbeats 8000000 in
theorem oorder_any (v : Value) (l : List Obj) (n : Int) (w : World) (hM : MaxL w) (hn : 0 ≤ n ∧ n < 256) (h : ObjsC w v l) (hr : ObjsR l) :
    Calls Tryz.prog 7 #[v, .int .u8 n] w fun e w' => e = .returned (.bool true) ∧ Below w.heap.size w w' := by
  obtain ⟨t, rfl⟩ : ∃ t : Nat, n = t := ⟨n.toNat, by omega⟩
  have HC := Lib.hid h; have HM := Lib.hid hM; have HR := Lib.hid hr
  obtain ⟨va, vc, rfl⟩ := h.len
  clear h hM hr
  go_enter Tryz.func7, Tryz.ntmps7
  go_wp2_with fail
  refine (awake_any _ HM.out).mono ?_
  rintro e w1 ⟨rfl, hb⟩
  replace HC := Lib.hid (HC.out.below hb); have HB := Lib.hid hb; clear hb HM
  go_wp2_with fail
  refine (r49FewObjects_any _ l _ HC.out HR.out).mono ?_
  rintro e w2 ⟨rfl, hb⟩
  replace HC := Lib.hid (HC.out.below hb); replace HB := Lib.hid (HB.out.trans (hb.mono HB.out.size)); clear hb
  cases hf : fewL l with
  | false =>
    go_wp2_with fail
    go_ret
    exact ⟨rfl, HB.out⟩
  | true =>
    obtain ⟨hfew, h20⟩ := fewL_parts hf
    have HF := Lib.hid hfew; clear hf hfew HR
    go_wp2_with fail
    refine (newSet_any w2).mono ?_
    rintro e w3 ⟨a, mpa, rfl, hsa, hga, hgma, hb3⟩
    go_wp2_with fail
    refine (newSet_any w3).mono ?_
    rintro e w4 ⟨b, mpb, rfl, hsb, hgb, hgmb, hb4⟩
    have hI : OrdI w2 w4 a mpa b mpb l t 0 := by
      have l1 := hsa.lt_a; have l2 := hsa.lt_mp; have s3 := hb3.size
      refine ⟨⟨_, _, hsa.below hb4, (fun i hi => hi.elim), id, fun k => ⟨fun hk => (by cases hk), fun ⟨_, _, hk, _⟩ => by omega⟩⟩, ⟨_, _, hsb, (fun i hi => hi.elim), id, fun k => ⟨fun hk => (by cases hk), fun ⟨_, _, _, hk, _⟩ => by omega⟩⟩, ⟨hga, hgma, by omega, by omega⟩, ⟨by omega, by omega, by omega⟩, hb3.trans (hb4.mono hb3.size)⟩
    have HI := Lib.hid hI; clear hI hsa hsb hb3 hb4
    go_wp2_with fail
    go_loopw [31] (fun i wr => ∃ k : Nat, k ≤ l.length ∧ i = .int .i64 k ∧ OrdI w2 wr a mpa b mpb l t k) (fun i _ => l.length - (intOf i).toNat)
    case atStart => exact ⟨0, by omega, rfl, HI.out⟩
    case round =>
      obtain ⟨k, hk, rfl, hI⟩ := hrel
      by_cases hlt : k < l.length
      · have dk : decide ((k : Int) < l.length) = true := by simp; omega
        have hcb := HC.out.below hI.below
        have HCB := Lib.hid hcb
        obtain ⟨a', c', he, hcd⟩ := hcb
        cases he
        obtain ⟨vb, vo, rfl, hbl, hc⟩ := hcd.resolve_left (by omega)
        obtain ⟨rv, e0, e1, e2, hs⟩ := hc k hlt
        obtain ⟨ra, rc, rfl⟩ := hs.len
        have hre := reach_few (HF.out l[k] (List.getElem_mem hlt))
        obtain ⟨q, hq⟩ : ∃ q, q = l[k] := ⟨_, rfl⟩
        rw [← hq] at e0 e1 e2 hs hre
        obtain ⟨⟨FA, SA, a1, a2, a3, a4⟩, ⟨FB, SB, b1, b2, b3, b4⟩, h3, h4, h5⟩ := hI
        have HQ := Lib.hid hq; have HS := Lib.hid hs; have HRE := Lib.hid hre; have HCC := Lib.hid hc
        have A1 := Lib.hid a1; have A2 := Lib.hid a2; have A3 := Lib.hid a3; have A4 := Lib.hid a4; have B1 := Lib.hid b1; have B2 := Lib.hid b2; have B3 := Lib.hid b3; have B4 := Lib.hid b4; have HH := Lib.hid h3; have HN := Lib.hid h4; have HBB := Lib.hid h5
        clear hq hs hre hc hcd a1 a2 a3 a4 b1 b2 b3 b4 h3 h4 h5
        go_wp2_with fail
        refine (put_any a mpa k FA SA q (.slice ra q.refs.length rc) _ A1.out HS.out HRE.out (by omega)).mono ?_
        rintro e w5 ⟨rfl, FA', a1', a2', a3', hfr⟩
        have hmpa : w2.heap.size ≤ mpa := HH.out.2.1
        have hmpb : w2.heap.size ≤ mpb := HH.out.2.2.2
        have hb25 : Below w2.heap.size w2 w5 := HBB.out.trans (hfr.below HBB.out.size (fun k hk => by have e2 : k = mpa := hk; omega))
        have b1' := B1.out.other hfr HN.out.2.2 (fun e => HN.out.2.1 e.symm) B3.out
        have hltb := B1.out.lt_mp
        have a2'' : ∀ i, FA' i → w2.heap.size ≤ i := fun i hi => (a3' i hi).elim (A2.out i) (fun h => Nat.le_trans HBB.out.size h.1)
        have a3'' : ¬ FA' mpb := fun hi => (a3' _ hi).elim A3.out (fun h => by omega)
        have A1' := Lib.hid a1'; have A2' := Lib.hid a2''; have A3' := Lib.hid a3''; have B1' := Lib.hid b1'; have HB25 := Lib.hid hb25
        clear a1' a2' a3' hfr b1' a2'' a3'' hb25 e0 e1 e2
        have hn : 0 < l.length := by omega
        have hjl : (k + t) % l.length < l.length := Nat.mod_lt _ hn
        obtain ⟨j, hj⟩ : ∃ j, j = (k + t) % l.length := ⟨_, rfl⟩
        rw [← hj] at hjl
        have ej : Int.tmod ((k : Int) + t) l.length = j := by rw [hj]; rfl
        have HJ := Lib.hid hj; clear hj
        obtain ⟨a', c', he, hcd⟩ := HC.out.below HB25.out
        cases he
        obtain ⟨vb', vo', hvb, hbl', hc⟩ := hcd.resolve_left (by omega)
        cases hvb
        obtain ⟨rv, e0, e1, e2, hs⟩ := hc j hjl
        obtain ⟨sa, sc, rfl⟩ := hs.len
        have hre := reach_few (HF.out l[j] (List.getElem_mem hjl))
        obtain ⟨r, hr⟩ : ∃ r, r = l[j] := ⟨_, rfl⟩
        rw [← hr] at e0 e1 e2 hs hre
        have HRr := Lib.hid hr; have HS2 := Lib.hid hs; have HRE2 := Lib.hid hre; clear hr hs hre hc hcd
        obtain ⟨X1, N1, hD1, hz1⟩ := digR_two q
        rw [hD1]
        have HD1 := Lib.hid hz1; clear hD1 hz1
        go_wp2_with fail
        refine (put_any b mpb k FB SB r (.slice sa r.refs.length sc) _ B1'.out HS2.out HRE2.out (by omega)).mono ?_
        rintro e w6 ⟨rfl, FB', b1', b2', b3', hfr⟩
        obtain ⟨X2, N2, hD2, hz2⟩ := digR_two r
        rw [hD2]
        have hz1 := HD1.out
        have hlta := A1'.out.lt_mp
        have hI : OrdI w2 w6 a mpa b mpb l t (k + 1) := by
          refine ⟨⟨FA', _, A1'.out.other hfr HN.out.1 HN.out.2.1 A3'.out, A2'.out, A3'.out, fun d => ?_⟩, ⟨FB', _, b1', fun i hi => (b3' i hi).elim (B2.out i) (fun h => Nat.le_trans HB25.out.size h.1), fun hi => (b3' _ hi).elim B3.out (fun h => by omega), fun d => ?_⟩, HH.out, HN.out, HB25.out.trans (hfr.below HB25.out.size (fun k hk => by have e2 : k = mpb := hk; omega))⟩
          · rw [putS_some, A4.out d]
            constructor
            · rintro (⟨h1, h2⟩ | ⟨i, hi, h0, h1, h2⟩)
              · exact ⟨k, hlt, by omega, by rw [← HQ.out]; exact h1, by rw [← HQ.out]; exact h2⟩
              · exact ⟨i, hi, by omega, h1, h2⟩
            · rintro ⟨i, hi, h0, h1, h2⟩
              rcases (by omega : i < k ∨ i = k) with h3 | h3
              · exact .inr ⟨i, hi, h3, h1, h2⟩
              · subst h3; left; rw [HQ.out]; exact ⟨h1, h2⟩
          · rw [putS_some, B4.out d]
            constructor
            · rintro (⟨h1, h2⟩ | ⟨i, j', hi, h0, h1, h2⟩)
              · exact ⟨k, j, hjl, by omega, HJ.out, by rw [← HRr.out]; exact h1, by rw [← HRr.out]; exact h2⟩
              · exact ⟨i, j', hi, by omega, h1, h2⟩
            · rintro ⟨i, j', hi, h0, h1, h2⟩
              rcases (by omega : i < k ∨ i = k) with h3 | h3
              · exact .inr ⟨i, j', hi, h3, h1, h2⟩
              · subst h3; left
                have : j' = j := h1.trans HJ.out.symm
                subst this
                rw [HRr.out]; exact h2
        have HI2 := Lib.hid hI
        clear hI hfr b1' b2' b3' hD2 e0 e1 e2
        rcases hz1 with ⟨rfl, hx1⟩ | rfl
        · have k1 : decide ((X1.size : Int) = 32) = true := by simp; omega
          have k1' : ((X1.size : Int) == 32) = true := by simp; omega
          rcases hz2 with ⟨rfl, hx2⟩ | rfl
          · have k2' : ((X2.size : Int) == 32) = true := by simp; omega
            go_wp2_with fail
            exact ⟨⟨k + 1, by omega, by go_num, HI2.out⟩, by simp [intOf]; omega⟩
          · go_wp2_with fail
            exact ⟨⟨k + 1, by omega, by go_num, HI2.out⟩, by simp [intOf]; omega⟩
        · rcases hz2 with ⟨rfl, hx2⟩ | rfl
          · have k2' : ((X2.size : Int) == 32) = true := by simp; omega
            go_wp2_with fail
            exact ⟨⟨k + 1, by omega, by go_num, HI2.out⟩, by simp [intOf]; omega⟩
          · go_wp2_with fail
            exact ⟨⟨k + 1, by omega, by go_num, HI2.out⟩, by simp [intOf]; omega⟩
      · have dk : decide ((k : Int) < l.length) = false := by simp; omega
        obtain ⟨⟨FA, SA, a1, _, _, a4⟩, ⟨FB, SB, b1, _, _, b4⟩, h3, h4, h5⟩ := hI
        have hkl : k = l.length := by omega
        rw [hkl] at a4 b4
        have same : ∀ d, (SA.get d).isSome = true ↔ (SB.get d).isSome = true := fun d => (a4 d).trans (ord_same.symm.trans (b4 d).symm)
        have hzz : ∀ d, (SA.get d).isSome = true → d.size = 32 := by
          intro d hd
          obtain ⟨i, hi, _, _, h6⟩ := (a4 d).1 hd
          rw [← h6]
          exact Sha.sha_size _
        have HZZ := Lib.hid hzz; clear hzz
        have A1 := Lib.hid a1; have B1 := Lib.hid b1; have SM := Lib.hid same; have HBB := Lib.hid h5
        clear a1 a4 b1 b4 h3 h4 h5 same hkl HF HI
        go_wp2_with fail
        refine (digests_any a mpa _ FA SA _ A1.out (by omega)).mono ?_
        rintro e w6 ⟨v1, L1, rfl, ho, hinc, hm, hb⟩
        have hlen : L1.length ≤ 20 := by
          have h1 := keys_le SA L1 (incr_nodup hinc) (fun k hk => (hm k).2 hk)
          have h2 := A1.out.many
          omega
        have HV1 := Lib.hid (StrsC.own ho)
        obtain ⟨da, dc, rfl⟩ := (StrsC.own ho).len
        replace A1 := Lib.hid (A1.out.below hb); replace B1 := Lib.hid (B1.out.below hb); have HB6 := Lib.hid (HB.out.trans ((HBB.out.mono HB.out.size).trans (hb.mono (Nat.le_trans HB.out.size HBB.out.size))))
        have HINC := Lib.hid hinc; have HMM := Lib.hid hm
        clear ho hinc hm hb HBB
        go_wp2_with fail
        refine (clone_any' a mpa _ FA SA _ A1.out (by omega)).mono ?_
        rintro e w7 ⟨c, mpc, FC, SC, rfl, hc1, hc2, _, hca, hcm, hb7⟩
        have C1 := Lib.hid hc1; have C2 := Lib.hid hc2; have HB7 := Lib.hid hb7
        clear hc1 hc2 hb7
        go_wp2_with fail
        refine (digests_any b mpb _ FB SB _ (B1.out.below HB7.out) (by omega)).mono ?_
        rintro e w8 ⟨v2, L2, rfl, ho2, hinc2, hm2, hb8⟩
        have hL : L1 = L2 := incr_unique HINC.out hinc2 (fun x => by rw [← hm2, ← HMM.out, SM.out])
        subst hL
        have HV2 := Lib.hid (StrsC.own ho2)
        obtain ⟨ea, ec, rfl⟩ := (StrsC.own ho2).len
        replace C1 := Lib.hid (C1.out.below hb8); have HB8 := Lib.hid (HB7.out.trans (hb8.mono HB7.out.size))
        clear ho2 hinc2 hm2 hb8 HB7
        go_wp2_with fail
        refine (eqStrs_any _ _ L1 L1 _ (HV1.out.below HB8.out) HV2.out (by omega) (by omega)).mono ?_
        rintro e _ ⟨rfl, q, rfl⟩
        rw [decide_eq_true (rfl : L1 = L1)]
        have hbq : Below w8.heap.size w8 (w8.drewN q) := below_drewN (Below.refl _ _) q
        replace C1 := Lib.hid (C1.out.below hbq); replace HB8 := Lib.hid (HB8.out.trans (hbq.mono HB8.out.size))
        clear hbq HV2
        generalize w8.drewN q = w9 at *
        go_wp2_with fail
        refine (isSorted_any _ L1 _ (HV1.out.below HB8.out) HINC.out (by omega)).mono ?_
        rintro e _ ⟨rfl, q2, rfl⟩
        have hbq : Below w9.heap.size w9 (w9.drewN q2) := below_drewN (Below.refl _ _) q2
        replace C1 := Lib.hid (C1.out.below hbq); replace HB8 := Lib.hid (HB8.out.trans (hbq.mono HB8.out.size))
        clear hbq
        generalize w9.drewN q2 = w10 at *
        go_wp2_with fail
        go_loopw [95] (fun i wr => ∃ (m : Nat) (S : Store), m ≤ L1.length ∧ i = .int .i64 m ∧ SetAt wr c mpc k FC S ∧ (∀ d, (S.get d).isSome = true ↔ ∃ (j : Nat) (h : j < L1.length), m ≤ j ∧ L1[j] = d) ∧ Below w6.heap.size w6 wr) (fun i _ => L1.length - (intOf i).toNat)
        case atStart =>
          refine ⟨0, SC, by omega, rfl, C1.out, fun d => ?_, HB8.out⟩
          rw [C2.out d, HMM.out d]
          constructor
          · intro hd
            obtain ⟨j, hj, e⟩ := List.getElem_of_mem hd
            exact ⟨j, hj, by omega, e⟩
          · rintro ⟨j, hj, _, rfl⟩
            exact List.getElem_mem hj
        case round =>
          obtain ⟨m, S, hml, rfl, hs, hk, hb⟩ := hrel
          have HS := Lib.hid hs; have HK := Lib.hid hk; have HBW := Lib.hid hb
          clear hs hk hb C1 C2
          by_cases hm : m < L1.length
          · have dm : decide ((m : Int) < L1.length) = true := by simp; omega
            obtain ⟨a', c', he, hcd⟩ := HV1.out.below HBW.out
            cases he
            obtain ⟨vb, vo, rfl, hc⟩ := hcd.resolve_left (by omega)
            have e0 := hc m hm
            have ed : L1.getD m ⟨#[]⟩ = L1[m] := by simp [List.getD_eq_getElem?_getD, hm]
            rw [ed] at e0
            have hsome := (HK.out L1[m]).2 ⟨m, hm, Nat.le_refl _, rfl⟩
            have hkk : ∀ d, ((S.drop L1[m]).get d).isSome = true ↔ ∃ (j : Nat) (h : j < L1.length), m + 1 ≤ j ∧ L1[j] = d := by
              intro d
              rw [Store.get_drop]
              by_cases hdd : L1[m] = d
              · rw [if_pos hdd]
                refine ⟨fun h => (by cases h), ?_⟩
                rintro ⟨j, hj, h1, h2⟩
                exact absurd (hdd.trans h2.symm) (List.pairwise_iff_getElem.1 (incr_nodup HINC.out) m j hm hj (by omega))
              · rw [if_neg hdd, HK.out d]
                constructor
                · rintro ⟨j, hj, h1, h2⟩
                  refine ⟨j, hj, ?_, h2⟩
                  rcases (by omega : m + 1 ≤ j ∨ j = m) with h3 | h3
                  · exact h3
                  · subst h3; exact absurd h2 hdd
                · rintro ⟨j, hj, h1, h2⟩
                  exact ⟨j, hj, by omega, h2⟩
            have hnone : ((S.drop L1[m]).get L1[m]).isSome = false := by rw [Store.get_drop, if_pos rfl]; rfl
            have hks : L1[m].size ≤ maxLen := by
              rw [HZZ.out _ ((HMM.out _).2 (List.getElem_mem hm))]
              decide
            obtain ⟨D, hD⟩ : ∃ D, D = L1[m] := ⟨_, rfl⟩
            rw [← hD] at e0 hsome hkk hnone hks
            have HSO := Lib.hid hsome; have HKK := Lib.hid hkk; have HNO := Lib.hid hnone
            clear hsome hkk hnone hc hcd ed hD
            go_wp2_with fail
            refine (drop_any c mpc k FC S D _ HS.out hks).mono ?_
            rintro e w11 ⟨rfl, hs1, hfr⟩
            rw [HSO.out]
            have hb1 := HBW.out.trans (hfr.below HBW.out.size (fun k hk => by have e2 : k = mpc := hk; omega))
            have HB1 := Lib.hid hb1; have HS1 := Lib.hid hs1; clear hb1 hs1 hfr
            go_wp2_with fail
            refine (drop_any c mpc k FC _ D _ HS1.out hks).mono ?_
            rintro e w12 ⟨rfl, hs1, hfr⟩
            rw [HNO.out]
            have hb1 := HB1.out.trans (hfr.below HB1.out.size (fun k hk => by have e2 : k = mpc := hk; omega))
            have HB2 := Lib.hid hb1; have HS2 := Lib.hid hs1; clear hb1 hs1 hfr
            have hk2 : ∀ d, (((S.drop D).drop D).get d).isSome = true ↔ ∃ (j : Nat) (h : j < L1.length), m + 1 ≤ j ∧ L1[j] = d := by
              intro d
              rw [← HKK.out d, Store.get_drop]
              by_cases hdd : D = d
              · rw [if_pos hdd, Store.get_drop, if_pos hdd]
              · rw [if_neg hdd]
            have HK2 := Lib.hid hk2; clear hk2
            go_wp2_with fail
            exact ⟨⟨m + 1, _, by omega, by go_num, HS2.out, HK2.out, HB2.out⟩, by simp [intOf]; omega⟩
          · have dm : decide ((m : Int) < L1.length) = false := by simp; omega
            have A2 := Lib.hid (A1.out.below HBW.out)
            have hempty : ∀ d, (S.get d).isSome = false := by
              intro d
              cases hq : (S.get d).isSome with
              | false => rfl
              | true =>
                obtain ⟨j, hj, h1, _⟩ := (HK.out d).1 hq
                omega
            have HE := Lib.hid hempty; clear hempty
            go_wp2_with fail
            refine (digests_any a mpa _ FA SA _ A2.out (by omega)).mono ?_
            rintro e w11 ⟨v3, L3, rfl, ho3, hinc3, hm3, hb3⟩
            have hL : L1 = L3 := incr_unique HINC.out hinc3 (fun x => by rw [← hm3, ← HMM.out])
            subst hL
            have HV3 := Lib.hid (StrsC.own ho3)
            obtain ⟨ga, gc, rfl⟩ := (StrsC.own ho3).len
            have HB3 := Lib.hid (HBW.out.trans (hb3.mono HBW.out.size)); have HS3 := Lib.hid (HS.out.below hb3)
            clear ho3 hinc3 hm3 hb3
            go_wp2_with fail
            refine (eqStrs_any _ _ L1 L1 _ HV3.out (HV1.out.below HB3.out) (by omega) (by omega)).mono ?_
            rintro e _ ⟨rfl, q3, rfl⟩
            rw [decide_eq_true (rfl : L1 = L1)]
            have hbq : Below w11.heap.size w11 (w11.drewN q3) := below_drewN (Below.refl _ _) q3
            replace HS3 := Lib.hid (HS3.out.below hbq); replace HB3 := Lib.hid (HB3.out.trans (hbq.mono HB3.out.size))
            clear hbq HV3
            generalize w11.drewN q3 = w12 at *
            go_wp2_with fail
            refine (digests_any c mpc _ FC S _ HS3.out (by omega)).mono ?_
            rintro e w13 ⟨v4, L4, rfl, ho4, _, hm4, hb4⟩
            have hL4 : L4 = [] := by
              cases L4 with
              | nil => rfl
              | cons x L4 =>
                have := (hm4 x).2 List.mem_cons_self
                rw [HE.out x] at this
                cases this
            subst hL4
            obtain ⟨ha4, hc4, rfl⟩ := (StrsC.own (xs := []) ho4).len
            have hbf := HB6.out.trans ((HB3.out.trans (hb4.mono HB3.out.size)).mono HB6.out.size)
            clear ho4 hm4 hb4
            go_wp2_with fail
            go_ret
            exact ⟨by simp, hbf⟩
end Go.Proofs.YtjlpdknomdhbhaaGreatDoor
