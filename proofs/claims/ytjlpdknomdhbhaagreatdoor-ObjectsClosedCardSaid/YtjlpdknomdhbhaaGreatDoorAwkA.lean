/- The laws' example stands. Condition: the world holds bytealg.MaxLen. -/
import Derived.Test.YtjlpdknomdhbhaaGreatDoorAwkP
import Derived.Test.YtjlpdknomdhbhaaGreatDoorRefOb
import Derived.Test.YtjlpdknomdhbhaaGreatDoorRefNn
import Derived.Test.YtjlpdknomdhbhaaGreatDoorStrsEq
namespace Go.Proofs.YtjlpdknomdhbhaaGreatDoor
set_option linter.unusedVariables false
set_option linter.unusedSimpArgs false
open Go Go.RowKit Go.Maps
theorem reach_small (o : Obj) (h : okO o = true) : Reach o := by
  obtain ⟨_, _, h3, h4, h5⟩ := okO_parts h
  exact ⟨fun x hx => by have := h5 x hx; omega, by omega, by omega⟩
theorem StrsC.nil (w : World) (a : Option Addr) (c : Nat) : StrsC w (.slice a 0 c) [] := ⟨a, c, rfl, .inl rfl⟩
theorem f1_cells (w : World) (n : Nat) : FilesC (w.alloc (.cells #[.string ⟨#[97, 47, 98, 46, 109, 111, 100]⟩, .string ⟨#[49]⟩, .string ⟨#[120, 45, 49]⟩, .string ⟨#[]⟩] 41)) (.slice (some ⟨w.heap.size, 0, none⟩) 2 n) Awk.f1 :=
  ⟨_, n, rfl, .inr ⟨w.heap.size, 0, rfl, by simp, fun j x hx => by rw [Nat.zero_add, (At.new w 41 _).cell, List.getElem?_toArray]; exact hx⟩⟩
theorem f2_cells (w : World) (n : Nat) : FilesC (w.alloc (.cells #[.string ⟨#[97]⟩, .string ⟨#[]⟩, .string ⟨#[97, 47, 98]⟩, .string ⟨#[]⟩] 41)) (.slice (some ⟨w.heap.size, 0, none⟩) 2 n) Awk.f2 :=
  ⟨_, n, rfl, .inr ⟨w.heap.size, 0, rfl, by simp, fun j x hx => by rw [Nat.zero_add, (At.new w 41 _).cell, List.getElem?_toArray]; exact hx⟩⟩
theorem enc_f1 : (encA Awk.f1).size ≤ 140737488340000 := by decide
theorem enc_f2 : (encA Awk.f2).size ≤ 140737488340000 := by decide
open Awk in
set_option maxRecDepth 100000 in
set_option maxHeartbeats 8000000 in
theorem awake_any (w : World) (hM : MaxL w) : Calls Tryz.prog 9 #[] w fun e w' => e = .returned (.bool true) ∧ Below w.heap.size w w' := by
  have HM := Lib.hid hM; clear hM
  go_enter Tryz.func9, Tryz.ntmps9
  have hb0 : Below w.heap.size w (w.alloc (.cells #[.int .i64 5, .slice none 0 0, .string ⟨#[97, 98]⟩] 24)) := (Below.refl _ _).alloc (Nat.le_refl _) _
  have h1 : At (w.alloc (.cells #[.int .i64 5, .slice none 0 0, .string ⟨#[97, 98]⟩] 24)) w.heap.size 24 #[.int .i64 5, .slice none 0 0, .string ⟨#[97, 98]⟩] := At.new _ _ _
  have HB := Lib.hid hb0; have H1 := Lib.hid h1; clear hb0 h1
  have c0 := H1.out.cell 0; have c1 := H1.out.cell 1; have c2 := H1.out.cell 2
  simp only [List.getElem?_toArray, List.getElem?_cons_zero, List.getElem?_cons_succ] at c0 c1 c2
  go_wp2_with fail
  refine (oEncode_any o5 (.slice none 0 0) _ (StrsC.nil _ _ _) (reach_small o5 ok5)).mono ?_
  rintro e w1 ⟨rfl, hb⟩
  rw [encR5]
  replace H1 := Lib.hid (H1.out.below hb H1.out.lt); replace HB := Lib.hid (HB.out.trans (hb.mono HB.out.size)); clear hb c0 c1 c2
  go_wp2_with fail
  refine (oDecode_any ⟨#[5, 0, 2, 97, 98]⟩ _ (by decide)).mono ?_
  intro e w2 hp
  rw [dec5] at hp
  obtain ⟨sa, sc, rfl, hs2, _, hb2⟩ := hp
  rw [show objV o5 (.slice sa o5.refs.length sc) = .agg #[.int .i64 5, .slice sa 0 sc, .string ⟨#[97, 98]⟩] from rfl]
  have hb3 : Below w1.heap.size w1 (w2.alloc (.cells #[.int .i64 5, .slice sa 0 sc, .string ⟨#[97, 98]⟩] 24)) := hb2.alloc hb2.size _
  have h4 : At (w2.alloc (.cells #[.int .i64 5, .slice sa 0 sc, .string ⟨#[97, 98]⟩] 24)) w2.heap.size 24 #[.int .i64 5, .slice sa 0 sc, .string ⟨#[97, 98]⟩] := At.new _ _ _
  replace H1 := Lib.hid (H1.out.below hb3 H1.out.lt); replace HB := Lib.hid (HB.out.trans (hb3.mono HB.out.size)); have H4 := Lib.hid h4; clear hb2 hb3 h4 hs2
  have c0 := H1.out.cell 0; have c1 := H1.out.cell 1; have c2 := H1.out.cell 2
  simp only [List.getElem?_toArray, List.getElem?_cons_zero, List.getElem?_cons_succ] at c0 c1 c2
  go_wp2_with fail
  obtain ⟨b4, hb4⟩ : ∃ b4, b4 = w2.heap.size := ⟨_, rfl⟩
  rw [← hb4] at H4 ⊢
  clear hb4
  generalize w2.alloc (.cells #[.int .i64 5, .slice sa 0 sc, .string ⟨#[97, 98]⟩] 24) = w3 at *
  refine (oDigest_any o5 (.slice none 0 0) _ (StrsC.nil _ _ _) (reach_small o5 ok5)).mono ?_
  rintro e w4 ⟨rfl, hb⟩
  rw [digR5]
  have hfc := f1_cells w4 2
  have hbf : Below w4.heap.size w4 (w4.alloc (.cells #[.string ⟨#[97, 47, 98, 46, 109, 111, 100]⟩, .string ⟨#[49]⟩, .string ⟨#[120, 45, 49]⟩, .string ⟨#[]⟩] 41)) := (Below.refl _ _).alloc (Nat.le_refl _) _
  have hbb : Below w3.heap.size w3 (w4.alloc (.cells #[.string ⟨#[97, 47, 98, 46, 109, 111, 100]⟩, .string ⟨#[49]⟩, .string ⟨#[120, 45, 49]⟩, .string ⟨#[]⟩] 41)) := hb.trans (hbf.mono hb.size)
  replace H1 := Lib.hid (H1.out.below hbb H1.out.lt); replace HB := Lib.hid (HB.out.trans (hbb.mono HB.out.size)); replace H4 := Lib.hid (H4.out.below hbb H4.out.lt); have HFC := Lib.hid hfc; clear hbf hbb hb hfc c0 c1 c2
  obtain ⟨D1, hD1⟩ : ∃ D, D = d1 := ⟨_, rfl⟩
  rw [← hD1]
  have HD1 := Lib.hid hD1; clear hD1
  go_wp2_with fail
  obtain ⟨gf, hgf⟩ : ∃ gf, gf = w4.heap.size := ⟨_, rfl⟩
  rw [← hgf] at HFC ⊢
  clear hgf
  generalize w4.alloc (.cells #[.string ⟨#[97, 47, 98, 46, 109, 111, 100]⟩, .string ⟨#[49]⟩, .string ⟨#[120, 45, 49]⟩, .string ⟨#[]⟩] 41) = w5 at *
  refine (archive_any (.slice (some ⟨gf, 0, none⟩) 2 2) f1 _ HFC.out (HM.out.below HB.out) enc_f1 (by decide)).mono ?_
  rintro e w6 ⟨rfl, hb⟩
  rw [arch1, arch_some arch1]
  have hfr := filesR_arch arch1
  rw [arch_some arch1] at hfr
  have hxs : (encA f1).size ≤ 100 := by decide
  obtain ⟨X, hX⟩ : ∃ X, X = encA f1 := ⟨_, rfl⟩
  rw [← hX] at hfr hxs ⊢
  clear hX
  have HFR := Lib.hid hfr; clear hfr
  rw [show objV ⟨0, [], X⟩ (.slice none 0 0) = .agg #[.int .i64 0, .slice none 0 0, .string X] from rfl]
  have hb7 : Below w5.heap.size w5 (w6.alloc (.cells #[.int .i64 0, .slice none 0 0, .string X] 24)) := hb.alloc hb.size _
  replace H1 := Lib.hid (H1.out.below hb7 H1.out.lt); replace HB := Lib.hid (HB.out.trans (hb7.mono HB.out.size)); replace H4 := Lib.hid (H4.out.below hb7 H4.out.lt); replace HFC := Lib.hid (HFC.out.below hb7)
  have H9 := Lib.hid (At.new w6 24 #[.int .i64 0, .slice none 0 0, .string X]); clear hb hb7
  have c0 := H9.out.cell 0; have c1 := H9.out.cell 1; have c2 := H9.out.cell 2
  simp only [List.getElem?_toArray, List.getElem?_cons_zero, List.getElem?_cons_succ] at c0 c1 c2
  go_wp2_with fail
  obtain ⟨b9, hb9⟩ : ∃ b9, b9 = w6.heap.size := ⟨_, rfl⟩
  rw [← hb9] at H9 ⊢
  clear hb9
  generalize w6.alloc (.cells #[.int .i64 0, .slice none 0 0, .string X] 24) = w7 at *
  refine (files_any ⟨0, [], X⟩ (.slice none 0 0) _ (StrsC.nil _ _ _) ⟨fun x hx => (by cases hx), Nat.zero_le _, by show X.size ≤ _; omega⟩ (HM.out.below HB.out)).mono ?_
  rintro e w8 ⟨v8, rfl, hf8, hu8, hb8⟩
  rw [HFR.out] at hf8 ⊢
  simp only at hf8 ⊢
  obtain ⟨fa, fc, rfl⟩ := hf8.len
  have hfd := f2_cells w8 2
  have hbb : Below w7.heap.size w7 (w8.alloc (.cells #[.string ⟨#[97]⟩, .string ⟨#[]⟩, .string ⟨#[97, 47, 98]⟩, .string ⟨#[]⟩] 41)) := hb8.alloc hb8.size _
  replace H1 := Lib.hid (H1.out.below hbb H1.out.lt); replace HB := Lib.hid (HB.out.trans (hbb.mono HB.out.size)); replace H4 := Lib.hid (H4.out.below hbb H4.out.lt); replace HFC := Lib.hid (HFC.out.below hbb)
  have HF8 := Lib.hid (hf8.below ((Below.refl w8.heap.size w8).alloc (Nat.le_refl _) (.cells #[.string ⟨#[97]⟩, .string ⟨#[]⟩, .string ⟨#[97, 47, 98]⟩, .string ⟨#[]⟩] 41))); have HFD := Lib.hid hfd; clear hfd hbb hf8 hb8 hu8 c0 c1 c2 H9
  go_wp2_with fail
  obtain ⟨gg, hgg⟩ : ∃ gg, gg = w8.heap.size := ⟨_, rfl⟩
  rw [← hgg] at HFD ⊢
  clear hgg
  generalize w8.alloc (.cells #[.string ⟨#[97]⟩, .string ⟨#[]⟩, .string ⟨#[97, 47, 98]⟩, .string ⟨#[]⟩] 41) = w9 at *
  refine (archive_any (.slice (some ⟨gg, 0, none⟩) 2 2) f2 _ HFD.out (HM.out.below HB.out) enc_f2 (by decide)).mono ?_
  rintro e w10 ⟨rfl, hb⟩
  rw [arch2, arch_none (l := f2) (by rw [arch2]; decide)]
  rw [show objV Obj.none (.slice none 0 0) = .agg #[.int .i64 0, .slice none 0 0, .string ⟨#[]⟩] from rfl]
  have hbb : Below w9.heap.size w9 (w10.alloc (.cells #[.int .i64 0, .slice none 0 0, .string ⟨#[]⟩] 24)) := hb.alloc hb.size _
  replace H1 := Lib.hid (H1.out.below hbb H1.out.lt); replace HB := Lib.hid (HB.out.trans (hbb.mono HB.out.size)); replace H4 := Lib.hid (H4.out.below hbb H4.out.lt); replace HFC := Lib.hid (HFC.out.below hbb); replace HF8 := Lib.hid (HF8.out.below hbb)
  clear hb hbb HFD
  go_wp2_with fail
  generalize w10.alloc (.cells #[.int .i64 0, .slice none 0 0, .string ⟨#[]⟩] 24) = w11 at *
  refine (newSet_any w11).mono ?_
  rintro e w12 ⟨a, mp, rfl, hset, hga, hgm, hbb⟩
  have hw11 := HB.out.size
  replace H1 := Lib.hid (H1.out.below hbb H1.out.lt); replace HB := Lib.hid (HB.out.trans (hbb.mono HB.out.size)); replace H4 := Lib.hid (H4.out.below hbb H4.out.lt); replace HFC := Lib.hid (HFC.out.below hbb); replace HF8 := Lib.hid (HF8.out.below hbb)
  have HSET := Lib.hid hset; clear hset hbb
  have c0 := H1.out.cell 0; have c1 := H1.out.cell 1; have c2 := H1.out.cell 2
  have d0 := H4.out.cell 0; have d1' := H4.out.cell 1; have d2' := H4.out.cell 2
  simp only [List.getElem?_toArray, List.getElem?_cons_zero, List.getElem?_cons_succ] at c0 c1 c2 d0 d1' d2'
  go_wp2_with fail
  refine (r49Same_any o5 o5 (.slice sa 0 sc) (.slice none 0 0) _ (StrsC.nil _ _ _) (StrsC.nil _ _ _) (reach_small o5 ok5) (reach_small o5 ok5)).mono ?_
  rintro e w13 ⟨rfl, hbb⟩
  rw [sameO_self]
  replace H1 := Lib.hid (H1.out.below hbb H1.out.lt); replace HB := Lib.hid (HB.out.trans (hbb.mono HB.out.size)); replace HFC := Lib.hid (HFC.out.below hbb); replace HF8 := Lib.hid (HF8.out.below hbb); replace HSET := Lib.hid (HSET.out.below hbb)
  clear hbb c0 c1 c2 d0 d1' d2' H4
  go_wp2_with fail
  refine (eqFiles_same (.slice fa f1.length fc) (.slice (some ⟨gf, 0, none⟩) 2 2) f1 _ HF8.out HFC.out (by decide)).mono ?_
  rintro e _ ⟨rfl, q, rfl⟩
  have hbb : Below w13.heap.size w13 (w13.drewN q) := below_drewN (Below.refl _ _) q
  replace H1 := Lib.hid (H1.out.below hbb H1.out.lt); replace HB := Lib.hid (HB.out.trans (hbb.mono HB.out.size)); replace HSET := Lib.hid (HSET.out.below hbb)
  clear hbb HF8 HFC
  generalize w13.drewN q = w14 at *
  have c0 := H1.out.cell 0; have c1 := H1.out.cell 1; have c2 := H1.out.cell 2
  simp only [List.getElem?_toArray, List.getElem?_cons_zero, List.getElem?_cons_succ] at c0 c1 c2
  go_wp2_with fail
  refine (put_any a mp 0 _ _ o5 (.slice none 0 0) _ HSET.out (StrsC.nil _ _ _) (reach_small o5 ok5) (by omega)).mono ?_
  rintro e w15 ⟨rfl, F1, hs1, _, _, hfr⟩
  rw [digR5, ← HD1.out]
  rw [put5] at hs1
  have hn1 := HSET.out.ne_at H1.out
  have hwm : w.heap.size ≤ mp := by omega
  have hbb : Below w.heap.size w w15 := HB.out.trans (hfr.below HB.out.size (fun k hk => by have e2 : k = mp := hk; omega))
  replace H1 := Lib.hid (hfr.at H1.out hn1); replace HB := Lib.hid hbb; clear HSET; have HSET := Lib.hid hs1; clear hbb hfr hs1 hn1 c0 c1 c2
  have hst : StrsC (w15.alloc (.cells #[.string D1] 9)) (.slice (some ⟨w15.heap.size, 0, none⟩) 1 1) [D1] := StrsC.block (xs := [D1]) (At.new w15 9 #[.string D1]) rfl 1
  have hbb : Below w15.heap.size w15 (w15.alloc (.cells #[.string D1] 9)) := (Below.refl _ _).alloc (Nat.le_refl _) _
  replace H1 := Lib.hid (H1.out.below hbb H1.out.lt); replace HB := Lib.hid (HB.out.trans (hbb.mono HB.out.size)); replace HSET := Lib.hid (HSET.out.below hbb); have HST := Lib.hid hst; clear hst hbb
  go_wp2_with fail
  obtain ⟨g5, hg5⟩ : ∃ g, g = w15.heap.size := ⟨_, rfl⟩
  rw [← hg5] at HST ⊢
  clear hg5
  generalize w15.alloc (.cells #[.string D1] 9) = w16 at *
  refine (put_any a mp 1 _ _ o2 (.slice (some ⟨g5, 0, none⟩) 1 1) _ HSET.out (by rw [show o2.refs = [D1] from by rw [HD1.out]; rfl]; exact HST.out) (reach_small o2 ok2) (by omega)).mono ?_
  rintro e w17 ⟨rfl, F2, hs2', _, _, hfr⟩
  rw [digR2]
  rw [put2] at hs2'
  have hn1 := HSET.out.ne_at H1.out
  have hbb : Below w.heap.size w w17 := HB.out.trans (hfr.below HB.out.size (fun k hk => by have e2 : k = mp := hk; omega))
  replace H1 := Lib.hid (hfr.at H1.out hn1); replace HB := Lib.hid hbb; clear HSET; have HSET := Lib.hid hs2'; clear hbb hfr hs2' hn1 HST
  obtain ⟨D2, hD2⟩ : ∃ D, D = d2 := ⟨_, rfl⟩
  rw [← hD2]
  have HD2 := Lib.hid hD2; clear hD2
  go_wp2_with fail
  refine (get_any a mp 2 _ _ D1 _ HSET.out (by rw [HD1.out]; decide)).mono ?_
  intro e w18 hp
  rw [HD1.out, s2_d1] at hp
  obtain ⟨sv, rfl, hsv, _, hbb⟩ := hp
  obtain ⟨ga, gc, rfl⟩ := hsv.len
  rw [show objV o5 (.slice ga o5.refs.length gc) = .agg #[.int .i64 5, .slice ga 0 gc, .string ⟨#[97, 98]⟩] from rfl]
  have hb19 : Below w17.heap.size w17 ((w18.alloc (.cells #[.int .i64 5, .slice ga 0 gc, .string ⟨#[97, 98]⟩] 24)).alloc (.cells #[.string D2] 9)) := (hbb.alloc hbb.size _).alloc (by have := hbb.size; simp; omega) _
  replace H1 := Lib.hid (H1.out.below hb19 H1.out.lt); replace HB := Lib.hid (HB.out.trans (hb19.mono HB.out.size)); replace HSET := Lib.hid (HSET.out.below hb19)
  have H18 := Lib.hid ((At.new w18 24 #[.int .i64 5, .slice ga 0 gc, .string ⟨#[97, 98]⟩]).alloc (.cells #[.string D2] 9))
  have HST := Lib.hid (StrsC.block (xs := [D2]) (At.new1 w18 (.cells #[.int .i64 5, .slice ga 0 gc, .string ⟨#[97, 98]⟩] 24) 9 #[.string D2]) rfl 1)
  clear hb19 hbb hsv
  go_wp2_with fail
  obtain ⟨b18, hb18⟩ : ∃ b, b = w18.heap.size := ⟨_, rfl⟩
  rw [← hb18] at H18 HST ⊢
  clear hb18
  generalize (w18.alloc (.cells #[.int .i64 5, .slice ga 0 gc, .string ⟨#[97, 98]⟩] 24)).alloc (.cells #[.string D2] 9) = w19 at *
  refine (closure_any a mp 2 _ _ (.slice (some ⟨b18 + 1, 0, none⟩) 1 1) [D2] _ HSET.out (by omega) HST.out (by show 1 ≤ _; omega) (fun k hk => by rw [List.mem_singleton.1 hk, HD2.out]; decide)).mono ?_
  rintro e w20 ⟨v1, v2, l1, l2, rfl, ho1, ho2, _, hi1, hi2, hm1, hm2, hbb⟩
  rw [HD2.out] at hm1 hm2
  have hl1 : l1.length = 2 := two hi1 (fun k => by rw [hm1, reach_iff, s2_some]; exact ⟨fun h => h.1, fun h => ⟨h, h⟩⟩)
  have hl2 : l2.length = 0 := none_ hm2
  obtain ⟨p1, q1, r1, rfl⟩ := own_slice ho1
  obtain ⟨p2, q2, r2, rfl⟩ := own_slice ho2
  have e1 := own_len ho1
  have e2 := own_len ho2
  rw [hl1] at e1
  rw [hl2] at e2
  subst e1
  subst e2
  replace H1 := Lib.hid (H1.out.below hbb H1.out.lt); replace HB := Lib.hid (HB.out.trans (hbb.mono HB.out.size)); replace HSET := Lib.hid (HSET.out.below hbb); replace H18 := Lib.hid (H18.out.below hbb H18.out.lt)
  clear hbb hm1 hm2 hi1 hi2 ho1 ho2 HST hl1 hl2
  have c0 := H1.out.cell 0; have c1 := H1.out.cell 1; have c2 := H1.out.cell 2
  have d0 := H18.out.cell 0; have d1' := H18.out.cell 1; have d2' := H18.out.cell 2
  simp only [List.getElem?_toArray, List.getElem?_cons_zero, List.getElem?_cons_succ] at c0 c1 c2 d0 d1' d2'
  go_wp2_with fail
  refine (r49Same_any o5 o5 (.slice ga 0 gc) (.slice none 0 0) _ (StrsC.nil _ _ _) (StrsC.nil _ _ _) (reach_small o5 ok5) (reach_small o5 ok5)).mono ?_
  rintro e w21 ⟨rfl, hbb⟩
  rw [sameO_self]
  replace HB := Lib.hid (HB.out.trans (hbb.mono HB.out.size)); replace HSET := Lib.hid (HSET.out.below hbb)
  clear hbb c0 c1 c2 d0 d1' d2' H1 H18
  go_wp2_with fail
  refine (drop_any a mp 2 _ _ D1 _ HSET.out (by rw [HD1.out]; decide)).mono ?_
  rintro e w22 ⟨rfl, hs3, hfr⟩
  rw [show (s2.get D1).isSome = true from by rw [HD1.out, s2_d1]; rfl]
  rw [HD1.out] at hs3
  have hbb : Below w.heap.size w w22 := HB.out.trans (hfr.below HB.out.size (fun k hk => by have e2 : k = mp := hk; omega))
  replace HB := Lib.hid hbb; clear HSET; have HSET := Lib.hid hs3; clear hbb hfr hs3
  go_wp2_with fail
  refine (digests_any a mp 2 _ _ _ HSET.out (by omega)).mono ?_
  rintro e w23 ⟨v, l, rfl, ho, hi, hm, hbb⟩
  have hl : l = [D2] := by rw [HD2.out]; exact Awk.one hi hm
  subst hl
  have hbb2 : Below w23.heap.size w23 (w23.alloc (.cells #[.string D2] 9)) := (Below.refl _ _).alloc (Nat.le_refl _) _
  have HST1 := Lib.hid ((StrsC.own ho).below hbb2)
  have HST2 := Lib.hid (StrsC.block (xs := [D2]) (At.new w23 9 #[.string D2]) rfl 1)
  have HBF := Lib.hid ((HB.out.trans (hbb.mono HB.out.size)).trans (hbb2.mono (HB.out.trans (hbb.mono HB.out.size)).size))
  obtain ⟨p3, q3, r3, rfl⟩ := own_slice ho
  clear ho hi hm hbb hbb2
  go_wp2_with fail
  refine (eqStrs_any _ _ [D2] [D2] _ HST1.out HST2.out (by show 1 ≤ _; omega) (by show 1 ≤ _; omega)).mono ?_
  rintro e _ ⟨rfl, q, rfl⟩
  have HF := Lib.hid (below_drewN HBF.out q)
  rw [decide_eq_true (show ([D2] : List ByteArray) = [D2] from rfl)]
  go_wp2_with fail
  go_ret
  exact ⟨rfl, HF.out⟩
end Go.Proofs.YtjlpdknomdhbhaaGreatDoor
