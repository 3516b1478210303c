/- ObjectsBytes: the walk. Condition: the argument is an object as it is read. -/
import Derived.Test.YtjlpdknomdhbhaaGreatDoorAwkA
namespace Go.Proofs.YtjlpdknomdhbhaaGreatDoor
set_option linter.unusedVariables false
set_option linter.unusedSimpArgs false
open Go Go.RowKit Go.Maps
theorem encR_parts (o : Obj) : ∃ s n, encR o = .tuple #[.string s, .int .i64 n] := by
  unfold encR; split
  · exact ⟨_, _, rfl⟩
  · exact ⟨_, _, rfl⟩
theorem digR_parts (o : Obj) : ∃ s n, digR o = .tuple #[.string s, .int .i64 n] := by
  unfold digR; split
  · exact ⟨_, _, rfl⟩
  · exact ⟨_, _, rfl⟩
theorem reach_few {o : Obj} (h : few49 o = true) : Reach o := by
  unfold few49 few46 at h
  simp only [Bool.and_eq_true, decide_eq_true_eq] at h
  obtain ⟨⟨h1, h2⟩, _, h3⟩ := h
  exact ⟨fun x hx => by have := sumS_mem hx; omega, by omega, by omega⟩
/-- What Decode returns, in one shape. -/
theorem DecPost.parts {w : World} {r : Option Obj} {e : Ending} {w' : World} (h : DecPost w r e w') :
    ∃ a c, e = .returned (.tuple #[objV (r.getD Obj.none) (.slice a (r.getD Obj.none).refs.length c), .int .i64 (if r.isSome then 0 else 9)]) ∧ StrsC w' (.slice a (r.getD Obj.none).refs.length c) (r.getD Obj.none).refs ∧ Below w.heap.size w w' := by
  cases r with
  | some o => obtain ⟨a, c, h1, h2, _, h3⟩ := h; exact ⟨a, c, h1, h2, h3⟩
  | none => obtain ⟨h1, h2⟩ := h; exact ⟨none, 0, h1, StrsC.nil _ _ _, h2⟩
set_option maxRecDepth 100000 in
set_option maxHeartbeats 8000000 in
theorem obytes_any (o : Obj) (v : Value) (s : ByteArray) (w : World) (hM : MaxL w) (h : StrsC w v o.refs) (hx : ∀ x ∈ o.refs, x.size ≤ 140737488355328) (hl : o.refs.length ≤ 140737488355328) (hd : o.data.size ≤ 140737488355328) :
    Calls Tryz.prog 3 #[objV o v, .string s] w fun e w' => e = .returned (.bool true) ∧ Below w.heap.size w w' := by
  obtain ⟨a, c, rfl⟩ := h.len
  have hb0 : Below w.heap.size w (w.alloc (.cells #[.int .i64 o.kind, .slice a o.refs.length c, .string o.data] 24)) := (Below.refl _ _).alloc (Nat.le_refl _) _
  have HM := Lib.hid (hM.below hb0); have HS := Lib.hid (h.below hb0); have HB := Lib.hid hb0; have HX := Lib.hid hx
  have H1 := Lib.hid (At.new w 24 #[.int .i64 o.kind, .slice a o.refs.length c, .string o.data]); clear hM h hx hb0
  unfold objV
  go_enter Tryz.func3, Tryz.ntmps3
  go_wp2_with fail
  generalize w.alloc (.cells #[.int .i64 o.kind, .slice a o.refs.length c, .string o.data] 24) = w1 at *
  refine (awake_any _ HM.out).mono ?_
  rintro e w2 ⟨rfl, hb⟩
  replace HS := Lib.hid (HS.out.below hb); replace H1 := Lib.hid (H1.out.below hb H1.out.lt); replace HB := Lib.hid (HB.out.trans (hb.mono HB.out.size)); clear hb
  have c0 := H1.out.cell 0; have c1 := H1.out.cell 1; have c2 := H1.out.cell 2
  simp only [List.getElem?_toArray, List.getElem?_cons_zero, List.getElem?_cons_succ] at c0 c1 c2
  go_wp2_with fail
  refine (r49Few_any o (.slice a o.refs.length c) _ HS.out HX.out hl hd).mono ?_
  rintro e w3 ⟨rfl, hb⟩
  replace HS := Lib.hid (HS.out.below hb); replace H1 := Lib.hid (H1.out.below hb H1.out.lt); replace HB := Lib.hid (HB.out.trans (hb.mono HB.out.size)); clear hb c0 c1 c2
  cases hf : few49 o with
  | false =>
    go_wp2_with fail
    go_ret
    exact ⟨rfl, HB.out⟩
  | true =>
    have hr := reach_few hf
    have HR := Lib.hid hr; clear hr hf
    by_cases h5 : s.size ≤ 5000
    · have d5 : decide ((5000 : Int) < s.size) = false := by simp; omega
      have c0 := H1.out.cell 0; have c1 := H1.out.cell 1; have c2 := H1.out.cell 2
      simp only [List.getElem?_toArray, List.getElem?_cons_zero, List.getElem?_cons_succ] at c0 c1 c2
      obtain ⟨ES, EN, hE⟩ := encR_parts o
      obtain ⟨DS, DN, hD⟩ := digR_parts o
      have HE := Lib.hid hE; have HD := Lib.hid hD; clear hE hD
      go_wp2_with fail
      refine (oEncode_any o (.slice a o.refs.length c) _ HS.out HR.out).mono ?_
      rintro e w4 ⟨rfl, hb⟩
      rw [HE.out]
      replace HS := Lib.hid (HS.out.below hb); replace H1 := Lib.hid (H1.out.below hb H1.out.lt); replace HB := Lib.hid (HB.out.trans (hb.mono HB.out.size)); clear hb c0 c1 c2
      have c0 := H1.out.cell 0; have c1 := H1.out.cell 1; have c2 := H1.out.cell 2
      simp only [List.getElem?_toArray, List.getElem?_cons_zero, List.getElem?_cons_succ] at c0 c1 c2
      go_wp2_with fail
      refine (r49Encode_any o (.slice a o.refs.length c) _ HS.out HR.out).mono ?_
      rintro e w5 ⟨rfl, hb⟩
      rw [HE.out]
      replace HS := Lib.hid (HS.out.below hb); replace H1 := Lib.hid (H1.out.below hb H1.out.lt); replace HB := Lib.hid (HB.out.trans (hb.mono HB.out.size)); clear hb c0 c1 c2
      have c0 := H1.out.cell 0; have c1 := H1.out.cell 1; have c2 := H1.out.cell 2
      simp only [List.getElem?_toArray, List.getElem?_cons_zero, List.getElem?_cons_succ] at c0 c1 c2
      go_wp2_with fail
      refine (oDigest_any o (.slice a o.refs.length c) _ HS.out HR.out).mono ?_
      rintro e w6 ⟨rfl, hb⟩
      rw [HD.out]
      replace HS := Lib.hid (HS.out.below hb); replace H1 := Lib.hid (H1.out.below hb H1.out.lt); replace HB := Lib.hid (HB.out.trans (hb.mono HB.out.size)); clear hb c0 c1 c2
      have c0 := H1.out.cell 0; have c1 := H1.out.cell 1; have c2 := H1.out.cell 2
      simp only [List.getElem?_toArray, List.getElem?_cons_zero, List.getElem?_cons_succ] at c0 c1 c2
      go_wp2_with fail
      refine (r49Digest_any o (.slice a o.refs.length c) _ HS.out HR.out).mono ?_
      rintro e w7 ⟨rfl, hb⟩
      rw [HD.out]
      replace HB := Lib.hid (HB.out.trans (hb.mono HB.out.size)); clear hb c0 c1 c2 HS H1
      go_wp2_with fail
      refine (oDecode_any s _ (by omega)).mono ?_
      intro e w8 hp
      obtain ⟨p, hpp⟩ : ∃ p, p = (decO s).getD Obj.none := ⟨_, rfl⟩
      obtain ⟨N, hN⟩ : ∃ N : Int, N = (if (decO s).isSome then 0 else 9) := ⟨_, rfl⟩
      obtain ⟨pa, pc, rfl, hs8, hb⟩ := hp.parts
      rw [← hpp] at hs8 ⊢
      rw [← hN]
      have HPP := Lib.hid hpp; have HN := Lib.hid hN
      have hpr : Reach p := by
        rw [hpp]
        cases hq : decO s with
        | none => exact ⟨fun x hx => (by cases hx), Nat.zero_le _, Nat.zero_le _⟩
        | some q => exact reach_small q (enc_dec hq).1
      clear hpp hN hp
      have HPR := Lib.hid hpr; clear hpr
      have hb3 : Below w7.heap.size w7 (w8.alloc (.cells #[.int .i64 p.kind, .slice pa p.refs.length pc, .string p.data] 24)) := hb.alloc hb.size _
      have h9 : At (w8.alloc (.cells #[.int .i64 p.kind, .slice pa p.refs.length pc, .string p.data] 24)) w8.heap.size 24 #[.int .i64 p.kind, .slice pa p.refs.length pc, .string p.data] := At.new _ _ _
      have H9 := Lib.hid h9; have HS := Lib.hid (hs8.below ((Below.refl w8.heap.size w8).alloc (Nat.le_refl _) (.cells #[.int .i64 p.kind, .slice pa p.refs.length pc, .string p.data] 24)))
      replace HB := Lib.hid (HB.out.trans (hb3.mono HB.out.size)); clear hb hb3 h9 hs8
      unfold objV
      go_wp2_with fail
      obtain ⟨b9, hb9⟩ : ∃ b9, b9 = w8.heap.size := ⟨_, rfl⟩
      rw [← hb9] at H9 ⊢
      clear hb9
      generalize w8.alloc (.cells #[.int .i64 p.kind, .slice pa p.refs.length pc, .string p.data] 24) = w9 at *
      refine (r49Decode_any s _ (by omega)).mono ?_
      intro e w10 hp
      obtain ⟨qa, qc, rfl, hs8, hb⟩ := hp.parts
      rw [← HPP.out] at hs8 ⊢
      rw [← HN.out]
      have hb3 : Below w9.heap.size w9 (w10.alloc (.cells #[.int .i64 p.kind, .slice qa p.refs.length qc, .string p.data] 24)) := hb.alloc hb.size _
      have h11 : At (w10.alloc (.cells #[.int .i64 p.kind, .slice qa p.refs.length qc, .string p.data] 24)) w10.heap.size 24 #[.int .i64 p.kind, .slice qa p.refs.length qc, .string p.data] := At.new _ _ _
      have H11 := Lib.hid h11; have HS2 := Lib.hid (hs8.below ((Below.refl w10.heap.size w10).alloc (Nat.le_refl _) (.cells #[.int .i64 p.kind, .slice qa p.refs.length qc, .string p.data] 24)))
      replace H9 := Lib.hid (H9.out.below hb3 H9.out.lt); replace HS := Lib.hid (HS.out.below hb3); replace HB := Lib.hid (HB.out.trans (hb3.mono HB.out.size)); clear hb hb3 h11 hs8 hp
      have k1 : (ES.toList == ES.toList) = true := beq_self_eq_true _
      have k2 : (DS.toList == DS.toList) = true := beq_self_eq_true _
      have c0 := H9.out.cell 0; have c1 := H9.out.cell 1; have c2 := H9.out.cell 2
      have e0 := H11.out.cell 0; have e1 := H11.out.cell 1; have e2 := H11.out.cell 2
      simp only [List.getElem?_toArray, List.getElem?_cons_zero, List.getElem?_cons_succ] at c0 c1 c2 e0 e1 e2
      unfold objV
      go_wp2_with fail
      obtain ⟨b11, hb11⟩ : ∃ b11, b11 = w10.heap.size := ⟨_, rfl⟩
      rw [← hb11] at H11 e0 e1 e2 ⊢
      clear hb11
      generalize w10.alloc (.cells #[.int .i64 p.kind, .slice qa p.refs.length qc, .string p.data] 24) = w11 at *
      refine (r49Same_any p p (.slice pa p.refs.length pc) (.slice qa p.refs.length qc) _ HS.out HS2.out HPR.out HPR.out).mono ?_
      rintro e w12 ⟨rfl, hb⟩
      rw [sameO_self]
      replace HB := Lib.hid (HB.out.trans (hb.mono HB.out.size)); replace HS := Lib.hid (HS.out.below hb); replace H9 := Lib.hid (H9.out.below hb H9.out.lt); clear hb c0 c1 c2 e0 e1 e2 k1 k2 H11 HS2
      have hN2 := HN.out
      have hP2 := HPP.out
      clear HN HPP
      cases hdc : decO s with
      | none =>
        rw [hdc] at hN2 hP2
        simp only [Option.isSome_none, Bool.false_eq_true, if_false] at hN2
        clear hP2 hdc
        subst hN2
        go_wp2_with fail
        go_ret
        exact ⟨rfl, HB.out⟩
      | some q =>
        rw [hdc] at hN2 hP2
        simp only [Option.isSome_some, if_true, Option.getD_some] at hN2 hP2
        subst hN2
        obtain ⟨hok, hes⟩ := enc_dec hdc
        have he : encR p = .tuple #[.string s, .int .i64 0] := by rw [hP2]; unfold encR; rw [if_pos hok, hes]
        have HEE := Lib.hid he; clear he hok hes hP2 hdc
        have k1 : (s.toList == s.toList) = true := beq_self_eq_true _
        have c0 := H9.out.cell 0; have c1 := H9.out.cell 1; have c2 := H9.out.cell 2
        simp only [List.getElem?_toArray, List.getElem?_cons_zero, List.getElem?_cons_succ] at c0 c1 c2
        go_wp2_with fail
        refine (oEncode_any p (.slice pa p.refs.length pc) _ HS.out HPR.out).mono ?_
        rintro e w13 ⟨rfl, hb⟩
        rw [HEE.out]
        replace HB := Lib.hid (HB.out.trans (hb.mono HB.out.size)); clear hb c0 c1 c2
        go_wp2_with fail
        go_ret
        exact ⟨by simp, HB.out⟩
    · have d5 : decide ((5000 : Int) < s.size) = true := by simp; omega
      go_wp2_with fail
      go_ret
      exact ⟨rfl, HB.out⟩
end Go.Proofs.YtjlpdknomdhbhaaGreatDoor
