/- ObjectsArchives: the walk. Condition: the arguments are files and an object as they are read. -/
import Derived.Test.YtjlpdknomdhbhaaGreatDoorLawOP
namespace Go.Proofs.YtjlpdknomdhbhaaGreatDoor
set_option linter.unusedVariables false
set_option linter.unusedSimpArgs false
open Go Go.RowKit Go.Maps
set_option maxRecDepth 100000 in
set_option maxHeartbeats 8000000 in
theorem oarchives_any (v : Value) (l : List FileD) (o : Obj) (u : Value) (w : World) (hM : MaxL w) (hf : FilesC w v l) (hfb : ∀ x ∈ l, x.name.size ≤ 140737488355328 ∧ x.data.size ≤ 140737488355328) (hfl : l.length ≤ 140737488355328)
    (h : StrsC w u o.refs) (hx : ∀ x ∈ o.refs, x.size ≤ 140737488355328) (hl : o.refs.length ≤ 140737488355328) (hd : o.data.size ≤ 140737488355328) :
    Calls Tryz.prog 4 #[v, objV o u] w fun e w' => e = .returned (.bool true) ∧ Below w.heap.size w w' := by
  obtain ⟨a, c, rfl⟩ := h.len
  obtain ⟨va, vc, rfl⟩ := hf.len
  have hb0 : Below w.heap.size w (w.alloc (.cells #[.int .i64 o.kind, .slice a o.refs.length c, .string o.data] 24)) := (Below.refl _ _).alloc (Nat.le_refl _) _
  have HM := Lib.hid (hM.below hb0); have HS := Lib.hid (h.below hb0); have HF := Lib.hid (hf.below hb0); have HB := Lib.hid hb0; have HX := Lib.hid hx; have HFB := Lib.hid hfb
  have H1 := Lib.hid (At.new w 24 #[.int .i64 o.kind, .slice a o.refs.length c, .string o.data]); clear hM h hx hb0 hf hfb
  unfold objV
  go_enter Tryz.func4, Tryz.ntmps4
  go_wp2_with fail
  generalize w.alloc (.cells #[.int .i64 o.kind, .slice a o.refs.length c, .string o.data] 24) = w1 at *
  refine (awake_any _ HM.out).mono ?_
  rintro e w2 ⟨rfl, hb⟩
  replace HS := Lib.hid (HS.out.below hb); replace HF := Lib.hid (HF.out.below hb); replace HM := Lib.hid (HM.out.below hb); replace H1 := Lib.hid (H1.out.below hb H1.out.lt); replace HB := Lib.hid (HB.out.trans (hb.mono HB.out.size))
  clear hb
  go_wp2_with fail
  refine (r49FewFiles_any _ l _ HF.out HFB.out hfl).mono ?_
  rintro e w3 ⟨rfl, hb⟩
  replace HS := Lib.hid (HS.out.below hb); replace HF := Lib.hid (HF.out.below hb); replace HM := Lib.hid (HM.out.below hb); replace H1 := Lib.hid (H1.out.below hb H1.out.lt); replace HB := Lib.hid (HB.out.trans (hb.mono HB.out.size))
  clear hb
  cases hfw : fewA l with
  | false =>
    go_wp2_with fail
    go_ret
    exact ⟨rfl, HB.out⟩
  | true =>
    obtain ⟨henc, hlen⟩ := few_enc hfw
    clear hfw
    have c0 := H1.out.cell 0; have c1 := H1.out.cell 1; have c2 := H1.out.cell 2
    simp only [List.getElem?_toArray, List.getElem?_cons_zero, List.getElem?_cons_succ] at c0 c1 c2
    go_wp2_with fail
    refine (r49Few_any o (.slice a o.refs.length c) _ HS.out HX.out hl hd).mono ?_
    rintro e w4 ⟨rfl, hb⟩
    replace HS := Lib.hid (HS.out.below hb); replace HF := Lib.hid (HF.out.below hb); replace HM := Lib.hid (HM.out.below hb); replace H1 := Lib.hid (H1.out.below hb H1.out.lt); replace HB := Lib.hid (HB.out.trans (hb.mono HB.out.size))
    clear hb c0 c1 c2
    cases hfo : few49 o with
    | false =>
      go_wp2_with fail
      go_ret
      exact ⟨rfl, HB.out⟩
    | true =>
      have HR := Lib.hid (reach_few hfo); clear hfo
      have hAr := archO_refs l
      have hAR := archO_reach henc
      obtain ⟨A, hA⟩ : ∃ A, A = archO l := ⟨_, rfl⟩
      obtain ⟨AE, hAE⟩ : ∃ A, A = archE l := ⟨_, rfl⟩
      rw [← hA] at hAr hAR
      have HA := Lib.hid hA; have HAE := Lib.hid hAE; have HAr := Lib.hid hAr; have HAR := Lib.hid hAR; clear hA hAE hAr hAR
      go_wp2_with fail
      refine (archive_any _ l _ HF.out HM.out (by omega) (by omega)).mono ?_
      rintro e w5 ⟨rfl, hb⟩
      rw [← HA.out, ← HAE.out]
      unfold objV
      have hb3 : Below w4.heap.size w4 (w5.alloc (.cells #[.int .i64 A.kind, .slice none 0 0, .string A.data] 24)) := hb.alloc hb.size _
      have H5 := Lib.hid (At.new w5 24 #[.int .i64 A.kind, .slice none 0 0, .string A.data])
      replace HS := Lib.hid (HS.out.below hb3); replace HF := Lib.hid (HF.out.below hb3); replace HM := Lib.hid (HM.out.below hb3); replace H1 := Lib.hid (H1.out.below hb3 H1.out.lt); replace HB := Lib.hid (HB.out.trans (hb3.mono HB.out.size))
      clear hb hb3
      go_wp2_with fail
      obtain ⟨b5, hb5⟩ : ∃ b, b = w5.heap.size := ⟨_, rfl⟩
      rw [← hb5] at H5 ⊢
      clear hb5
      generalize w5.alloc (.cells #[.int .i64 A.kind, .slice none 0 0, .string A.data] 24) = w6 at *
      refine (r49Archive_any _ l _ HF.out (by omega) (by omega)).mono ?_
      rintro e w7 ⟨rfl, hb⟩
      rw [← HA.out, ← HAE.out]
      unfold objV
      have hb3 : Below w6.heap.size w6 (w7.alloc (.cells #[.int .i64 A.kind, .slice none 0 0, .string A.data] 24)) := hb.alloc hb.size _
      have H7 := Lib.hid (At.new w7 24 #[.int .i64 A.kind, .slice none 0 0, .string A.data])
      replace HS := Lib.hid (HS.out.below hb3); replace HF := Lib.hid (HF.out.below hb3); replace HM := Lib.hid (HM.out.below hb3); replace H1 := Lib.hid (H1.out.below hb3 H1.out.lt); replace HB := Lib.hid (HB.out.trans (hb3.mono HB.out.size))
      replace H5 := Lib.hid (H5.out.below hb3 H5.out.lt)
      clear hb hb3
      have c0 := H1.out.cell 0; have c1 := H1.out.cell 1; have c2 := H1.out.cell 2
      simp only [List.getElem?_toArray, List.getElem?_cons_zero, List.getElem?_cons_succ] at c0 c1 c2
      go_wp2_with fail
      obtain ⟨b7, hb7⟩ : ∃ b, b = w7.heap.size := ⟨_, rfl⟩
      rw [← hb7] at H7 ⊢
      clear hb7
      generalize w7.alloc (.cells #[.int .i64 A.kind, .slice none 0 0, .string A.data] 24) = w8 at *
      refine (files_any o (.slice a o.refs.length c) _ HS.out HR.out HM.out).mono ?_
      rintro e w9 ⟨v9, rfl, hf9, _, hb⟩
      have hL32 := filesR_few o
      obtain ⟨L, hL⟩ : ∃ L, L = (filesR o).1 := ⟨_, rfl⟩
      obtain ⟨N, hN⟩ : ∃ N, N = (filesR o).2 := ⟨_, rfl⟩
      rw [← hL] at hf9 hL32
      rw [← hN]
      have HL := Lib.hid hL; have HN := Lib.hid hN; clear hL hN
      obtain ⟨fa, fc, rfl⟩ := hf9.len
      have HF9 := Lib.hid hf9; clear hf9
      replace HS := Lib.hid (HS.out.below hb); replace HF := Lib.hid (HF.out.below hb); replace HM := Lib.hid (HM.out.below hb); replace H1 := Lib.hid (H1.out.below hb H1.out.lt); replace HB := Lib.hid (HB.out.trans (hb.mono HB.out.size))
      replace H5 := Lib.hid (H5.out.below hb H5.out.lt); replace H7 := Lib.hid (H7.out.below hb H7.out.lt)
      clear hb c0 c1 c2
      have c0 := H1.out.cell 0; have c1 := H1.out.cell 1; have c2 := H1.out.cell 2
      simp only [List.getElem?_toArray, List.getElem?_cons_zero, List.getElem?_cons_succ] at c0 c1 c2
      go_wp2_with fail
      refine (r49Files_any o (.slice a o.refs.length c) _ HS.out HR.out).mono ?_
      rintro e w10 ⟨v10, rfl, hf10, _, hb⟩
      rw [← HL.out] at hf10
      rw [← HN.out]
      obtain ⟨ga, gc, rfl⟩ := hf10.len
      have HF10 := Lib.hid hf10; clear hf10
      replace HS := Lib.hid (HS.out.below hb); replace HF := Lib.hid (HF.out.below hb); replace HM := Lib.hid (HM.out.below hb); replace H1 := Lib.hid (H1.out.below hb H1.out.lt); replace HB := Lib.hid (HB.out.trans (hb.mono HB.out.size))
      replace H5 := Lib.hid (H5.out.below hb H5.out.lt); replace H7 := Lib.hid (H7.out.below hb H7.out.lt); replace HF9 := Lib.hid (HF9.out.below hb)
      clear hb c0 c1 c2
      have e0 := H5.out.cell 0; have e1 := H5.out.cell 1; have e2 := H5.out.cell 2
      have f0 := H7.out.cell 0; have f1 := H7.out.cell 1; have f2 := H7.out.cell 2
      simp only [List.getElem?_toArray, List.getElem?_cons_zero, List.getElem?_cons_succ] at e0 e1 e2 f0 f1 f2
      go_wp2_with fail
      refine (r49Same_any A A (.slice none 0 0) (.slice none 0 0) _ (by rw [HAr.out]; exact StrsC.nil _ _ _) (by rw [HAr.out]; exact StrsC.nil _ _ _) HAR.out HAR.out).mono ?_
      rintro e w11 ⟨rfl, hb⟩
      rw [sameO_self]
      replace HF9 := Lib.hid (HF9.out.below hb); replace HF10 := Lib.hid (HF10.out.below hb); replace HB := Lib.hid (HB.out.trans (hb.mono HB.out.size))
      clear hb e0 e1 e2 f0 f1 f2
      go_wp2_with fail
      refine (eqFiles_same _ _ L _ HF9.out HF10.out (by omega)).mono ?_
      rintro e _ ⟨rfl, q, rfl⟩
      go_wp2_with fail
      go_ret
      exact ⟨by simp, below_drewN HB.out q⟩
end Go.Proofs.YtjlpdknomdhbhaaGreatDoor
