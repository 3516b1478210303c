/- ObjectsReturns: the walk. Condition: the arguments are an object and files as they are read. -/
import Derived.Test.YtjlpdknomdhbhaaGreatDoorLawOP
namespace Go.Proofs.YtjlpdknomdhbhaaGreatDoor
set_option linter.unusedVariables false
set_option linter.unusedSimpArgs false
open Go Go.RowKit Go.Maps
set_option maxRecDepth 100000 in
set_option maxHeartbeats 8000000 in
theorem oreturns_any (o : Obj) (u : Value) (v : Value) (l : List FileD) (w : World) (hM : MaxL w) (hf : FilesC w v l) (hfb : ∀ x ∈ l, x.name.size ≤ 140737488355328 ∧ x.data.size ≤ 140737488355328) (hfl : l.length ≤ 140737488355328)
    (h : StrsC w u o.refs) (hx : ∀ x ∈ o.refs, x.size ≤ 140737488355328) (hl : o.refs.length ≤ 140737488355328) (hd : o.data.size ≤ 140737488355328) :
    Calls Tryz.prog 5 #[objV o u, v] w fun e w' => e = .returned (.bool true) ∧ Below w.heap.size w w' := by
  obtain ⟨a, c, rfl⟩ := h.len
  obtain ⟨va, vc, rfl⟩ := hf.len
  have hb0 : Below w.heap.size w (w.alloc (.cells #[.int .i64 o.kind, .slice a o.refs.length c, .string o.data] 24)) := (Below.refl _ _).alloc (Nat.le_refl _) _
  have HM := Lib.hid (hM.below hb0); have HS := Lib.hid (h.below hb0); have HF := Lib.hid (hf.below hb0); have HB := Lib.hid hb0; have HX := Lib.hid hx; have HFB := Lib.hid hfb
  have H1 := Lib.hid (At.new w 24 #[.int .i64 o.kind, .slice a o.refs.length c, .string o.data]); clear hM h hx hb0 hf hfb
  unfold objV
  go_enter Tryz.func5, Tryz.ntmps5
  go_wp2_with fail
  generalize w.alloc (.cells #[.int .i64 o.kind, .slice a o.refs.length c, .string o.data] 24) = w1 at *
  refine (awake_any _ HM.out).mono ?_
  rintro e w2 ⟨rfl, hb⟩
  replace HS := Lib.hid (HS.out.below hb); replace HF := Lib.hid (HF.out.below hb); replace HM := Lib.hid (HM.out.below hb); replace H1 := Lib.hid (H1.out.below hb H1.out.lt); replace HB := Lib.hid (HB.out.trans (hb.mono HB.out.size))
  clear hb
  have c0 := H1.out.cell 0; have c1 := H1.out.cell 1; have c2 := H1.out.cell 2
  simp only [List.getElem?_toArray, List.getElem?_cons_zero, List.getElem?_cons_succ] at c0 c1 c2
  go_wp2_with fail
  refine (r49Few_any o (.slice a o.refs.length c) _ HS.out HX.out hl hd).mono ?_
  rintro e w3 ⟨rfl, hb⟩
  replace HS := Lib.hid (HS.out.below hb); replace HF := Lib.hid (HF.out.below hb); replace HM := Lib.hid (HM.out.below hb); replace H1 := Lib.hid (H1.out.below hb H1.out.lt); replace HB := Lib.hid (HB.out.trans (hb.mono HB.out.size))
  clear hb c0 c1 c2
  cases hfo : few49 o with
  | false =>
    go_wp2_with fail
    go_ret
    exact ⟨rfl, HB.out⟩
  | true =>
    have HR := Lib.hid (reach_few hfo); clear hfo
    go_wp2_with fail
    refine (r49FewFiles_any _ l _ HF.out HFB.out hfl).mono ?_
    rintro e w4 ⟨rfl, hb⟩
    replace HS := Lib.hid (HS.out.below hb); replace HF := Lib.hid (HF.out.below hb); replace HM := Lib.hid (HM.out.below hb); replace H1 := Lib.hid (H1.out.below hb H1.out.lt); replace HB := Lib.hid (HB.out.trans (hb.mono HB.out.size))
    clear hb
    cases hfw : fewA l with
    | false =>
      go_wp2_with fail
      go_ret
      exact ⟨rfl, HB.out⟩
    | true =>
      obtain ⟨henc, hlen⟩ := few_enc hfw
      clear hfw
      have hAr := archO_refs l
      have hAR := archO_reach henc
      obtain ⟨A, hA⟩ : ∃ A, A = archO l := ⟨_, rfl⟩
      obtain ⟨AE, hAE⟩ : ∃ A, A = archE l := ⟨_, rfl⟩
      rw [← hA] at hAr hAR
      have HA := Lib.hid hA; have HAE := Lib.hid hAE; have HAr := Lib.hid hAr; have HAR := Lib.hid hAR; clear hA hAE hAr hAR
      have c0 := H1.out.cell 0; have c1 := H1.out.cell 1; have c2 := H1.out.cell 2
      simp only [List.getElem?_toArray, List.getElem?_cons_zero, List.getElem?_cons_succ] at c0 c1 c2
      go_wp2_with fail
      refine (oEncode_any o (.slice a o.refs.length c) _ HS.out HR.out).mono ?_
      rintro e w5 ⟨rfl, hb⟩
      replace HS := Lib.hid (HS.out.below hb); replace HF := Lib.hid (HF.out.below hb); replace HM := Lib.hid (HM.out.below hb); replace H1 := Lib.hid (H1.out.below hb H1.out.lt); replace HB := Lib.hid (HB.out.trans (hb.mono HB.out.size))
      clear hb c0 c1 c2
      by_cases hok : okO o = true
      · have he : encR o = .tuple #[.string (encO o), .int .i64 0] := by unfold encR; rw [if_pos hok]
        rw [he]
        have hsz := (encO_size o hok).1
        have hde := dec_enc o hok
        obtain ⟨S, hS⟩ : ∃ S, S = encO o := ⟨_, rfl⟩
        rw [← hS] at hsz hde ⊢
        have HDE := Lib.hid hde
        clear he hde hok hS
        go_wp2_with fail
        refine (oDecode_any S _ (by omega)).mono ?_
        intro e w6 hp
        rw [HDE.out] at hp
        obtain ⟨pa, pc, rfl, hs6, _, hb⟩ := hp
        unfold objV
        have hb3 : Below w5.heap.size w5 (w6.alloc (.cells #[.int .i64 o.kind, .slice pa o.refs.length pc, .string o.data] 24)) := hb.alloc hb.size _
        have H5 := Lib.hid (At.new w6 24 #[.int .i64 o.kind, .slice pa o.refs.length pc, .string o.data])
        have HS6 := Lib.hid (hs6.below ((Below.refl w6.heap.size w6).alloc (Nat.le_refl _) (.cells #[.int .i64 o.kind, .slice pa o.refs.length pc, .string o.data] 24)))
        replace HS := Lib.hid (HS.out.below hb3); replace HF := Lib.hid (HF.out.below hb3); replace HM := Lib.hid (HM.out.below hb3); replace H1 := Lib.hid (H1.out.below hb3 H1.out.lt); replace HB := Lib.hid (HB.out.trans (hb3.mono HB.out.size))
        clear hb hb3 hs6
        have c0 := H1.out.cell 0; have c1 := H1.out.cell 1; have c2 := H1.out.cell 2
        simp only [List.getElem?_toArray, List.getElem?_cons_zero, List.getElem?_cons_succ] at c0 c1 c2
        have e0 := H5.out.cell 0; have e1 := H5.out.cell 1; have e2 := H5.out.cell 2
        simp only [List.getElem?_toArray, List.getElem?_cons_zero, List.getElem?_cons_succ] at e0 e1 e2
        go_wp2_with fail
        refine (r49Same_any o o (.slice pa o.refs.length pc) (.slice a o.refs.length c) _ HS6.out HS.out HR.out HR.out).mono ?_
        rintro e w7 ⟨rfl, hb⟩
        rw [sameO_self]
        replace HS := Lib.hid (HS.out.below hb); replace HF := Lib.hid (HF.out.below hb); replace HM := Lib.hid (HM.out.below hb); replace H1 := Lib.hid (H1.out.below hb H1.out.lt); replace HB := Lib.hid (HB.out.trans (hb.mono HB.out.size))
        clear hb c0 c1 c2 e0 e1 e2 H5 HS6
        go_wp2_with fail
        refine (archive_any _ l _ HF.out HM.out (by omega) (by omega)).mono ?_
        rintro e w20 ⟨rfl, hb⟩
        rw [← HA.out, ← HAE.out]
        unfold objV
        have hb3 : Below w7.heap.size w7 (w20.alloc (.cells #[.int .i64 A.kind, .slice none 0 0, .string A.data] 24)) := hb.alloc hb.size _
        have H5 := Lib.hid (At.new w20 24 #[.int .i64 A.kind, .slice none 0 0, .string A.data])
        replace HS := Lib.hid (HS.out.below hb3); replace HF := Lib.hid (HF.out.below hb3); replace HM := Lib.hid (HM.out.below hb3); replace H1 := Lib.hid (H1.out.below hb3 H1.out.lt); replace HB := Lib.hid (HB.out.trans (hb3.mono HB.out.size))
        clear hb hb3
        have e0 := H5.out.cell 0; have e1 := H5.out.cell 1; have e2 := H5.out.cell 2
        simp only [List.getElem?_toArray, List.getElem?_cons_zero, List.getElem?_cons_succ] at e0 e1 e2
        by_cases hz : AE = 0
        · have ho := arch_some (l := l) (by rw [← HAE.out]; exact hz)
          have hfr := filesR_arch (l := l) (by rw [← HAE.out]; exact hz)
          have h32 := (sizeA_of (l := l) (by rw [← HAE.out]; exact hz)).1
          rw [← HA.out] at ho hfr
          have hk : A.kind = 0 := by rw [ho]
          subst hz
          have HFR := Lib.hid hfr; have HK := Lib.hid hk; clear ho hfr hk
          go_wp2_with fail
          obtain ⟨b5, hb5⟩ : ∃ b, b = w20.heap.size := ⟨_, rfl⟩
          rw [← hb5] at H5 e0 e1 e2 ⊢
          clear hb5
          generalize w20.alloc (.cells #[.int .i64 A.kind, .slice none 0 0, .string A.data] 24) = w21 at *
          refine (files_any A (.slice none 0 0) _ (by rw [HAr.out]; exact StrsC.nil _ _ _) HAR.out HM.out).mono ?_
          rintro e w22 ⟨v22, rfl, hf22, _, hb⟩
          rw [HFR.out] at hf22 ⊢
          simp only at hf22 ⊢
          obtain ⟨fa, fc, rfl⟩ := hf22.len
          have HF22 := Lib.hid hf22; clear hf22
          replace HS := Lib.hid (HS.out.below hb); replace HF := Lib.hid (HF.out.below hb); replace HM := Lib.hid (HM.out.below hb); replace H1 := Lib.hid (H1.out.below hb H1.out.lt); replace HB := Lib.hid (HB.out.trans (hb.mono HB.out.size))
          replace H5 := Lib.hid (H5.out.below hb H5.out.lt)
          clear hb e0 e1 e2
          go_wp2_with fail
          refine (eqFiles_same _ _ l _ HF22.out HF.out (by omega)).mono ?_
          rintro e _ ⟨rfl, q, rfl⟩
          have hb : Below w22.heap.size w22 (w22.drewN q) := below_drewN (Below.refl _ _) q
          replace H5 := Lib.hid (H5.out.below hb H5.out.lt); replace HB := Lib.hid (HB.out.trans (hb.mono HB.out.size))
          clear hb
          generalize w22.drewN q = w23 at *
          have e0 := H5.out.cell 0; have e1 := H5.out.cell 1; have e2 := H5.out.cell 2
          simp only [List.getElem?_toArray, List.getElem?_cons_zero, List.getElem?_cons_succ] at e0 e1 e2
          rw [HK.out] at e0
          go_wp2_with fail
          go_ret
          exact ⟨by simp, HB.out⟩
        · have hn : A = Obj.none := by rw [HA.out]; exact arch_none (by rw [← HAE.out]; exact hz)
          have d0 : (AE == 0) = false := by simpa using hz
          have hdt : A.data = ⟨#[]⟩ := by rw [hn]; rfl
          rw [hdt] at H5 HB e0 e1 e2 ⊢
          have D0 := Lib.hid hz
          clear hn hdt hz
          go_wp2_with fail
          go_ret
          exact ⟨by simp, HB.out⟩
      · have he : encR o = .tuple #[.string ⟨#[]⟩, .int .i64 1] := by unfold encR; rw [if_neg hok]
        rw [he]
        clear he hok
        go_wp2_with fail
        refine (archive_any _ l _ HF.out HM.out (by omega) (by omega)).mono ?_
        rintro e w20 ⟨rfl, hb⟩
        rw [← HA.out, ← HAE.out]
        unfold objV
        have hb3 : Below w5.heap.size w5 (w20.alloc (.cells #[.int .i64 A.kind, .slice none 0 0, .string A.data] 24)) := hb.alloc hb.size _
        have H5 := Lib.hid (At.new w20 24 #[.int .i64 A.kind, .slice none 0 0, .string A.data])
        replace HS := Lib.hid (HS.out.below hb3); replace HF := Lib.hid (HF.out.below hb3); replace HM := Lib.hid (HM.out.below hb3); replace H1 := Lib.hid (H1.out.below hb3 H1.out.lt); replace HB := Lib.hid (HB.out.trans (hb3.mono HB.out.size))
        clear hb hb3
        have e0 := H5.out.cell 0; have e1 := H5.out.cell 1; have e2 := H5.out.cell 2
        simp only [List.getElem?_toArray, List.getElem?_cons_zero, List.getElem?_cons_succ] at e0 e1 e2
        by_cases hz : AE = 0
        · have ho := arch_some (l := l) (by rw [← HAE.out]; exact hz)
          have hfr := filesR_arch (l := l) (by rw [← HAE.out]; exact hz)
          have h32 := (sizeA_of (l := l) (by rw [← HAE.out]; exact hz)).1
          rw [← HA.out] at ho hfr
          have hk : A.kind = 0 := by rw [ho]
          subst hz
          have HFR := Lib.hid hfr; have HK := Lib.hid hk; clear ho hfr hk
          go_wp2_with fail
          obtain ⟨b5, hb5⟩ : ∃ b, b = w20.heap.size := ⟨_, rfl⟩
          rw [← hb5] at H5 e0 e1 e2 ⊢
          clear hb5
          generalize w20.alloc (.cells #[.int .i64 A.kind, .slice none 0 0, .string A.data] 24) = w21 at *
          refine (files_any A (.slice none 0 0) _ (by rw [HAr.out]; exact StrsC.nil _ _ _) HAR.out HM.out).mono ?_
          rintro e w22 ⟨v22, rfl, hf22, _, hb⟩
          rw [HFR.out] at hf22 ⊢
          simp only at hf22 ⊢
          obtain ⟨fa, fc, rfl⟩ := hf22.len
          have HF22 := Lib.hid hf22; clear hf22
          replace HS := Lib.hid (HS.out.below hb); replace HF := Lib.hid (HF.out.below hb); replace HM := Lib.hid (HM.out.below hb); replace H1 := Lib.hid (H1.out.below hb H1.out.lt); replace HB := Lib.hid (HB.out.trans (hb.mono HB.out.size))
          replace H5 := Lib.hid (H5.out.below hb H5.out.lt)
          clear hb e0 e1 e2
          go_wp2_with fail
          refine (eqFiles_same _ _ l _ HF22.out HF.out (by omega)).mono ?_
          rintro e _ ⟨rfl, q, rfl⟩
          have hb : Below w22.heap.size w22 (w22.drewN q) := below_drewN (Below.refl _ _) q
          replace H5 := Lib.hid (H5.out.below hb H5.out.lt); replace HB := Lib.hid (HB.out.trans (hb.mono HB.out.size))
          clear hb
          generalize w22.drewN q = w23 at *
          have e0 := H5.out.cell 0; have e1 := H5.out.cell 1; have e2 := H5.out.cell 2
          simp only [List.getElem?_toArray, List.getElem?_cons_zero, List.getElem?_cons_succ] at e0 e1 e2
          rw [HK.out] at e0
          go_wp2_with fail
          go_ret
          exact ⟨by simp, HB.out⟩
        · have hn : A = Obj.none := by rw [HA.out]; exact arch_none (by rw [← HAE.out]; exact hz)
          have d0 : (AE == 0) = false := by simpa using hz
          have hdt : A.data = ⟨#[]⟩ := by rw [hn]; rfl
          rw [hdt] at H5 HB e0 e1 e2 ⊢
          have D0 := Lib.hid hz
          clear hn hdt hz
          go_wp2_with fail
          go_ret
          exact ⟨by simp, HB.out⟩
end Go.Proofs.YtjlpdknomdhbhaaGreatDoor
