/- The reference's journal reads a page as the program's parses it. Conditions: the chain is short, the epoch is one. -/
import Derived.Test.YtfgjjdjaiddllaaDoorRefE
import Derived.Test.YtfgjjdjaiddllaaDoorRefP
namespace Go.Proofs.YtfgjjdjaiddllaaDoor
set_option linter.unusedVariables false
set_option linter.unusedSimpArgs false
open Go Go.RowKit Go.Maps
/-- A page of the reference. -/
def rPageV : Option Pg → Array Value
  | none => #[.string ⟨#[]⟩, .bool false, .string ⟨#[]⟩, .string ⟨#[]⟩, .bool false]
  | some p => #[.string p.check, .bool p.last, .string p.digest, .string p.data, .bool true]
def pageOf (c : DiskC) (at_ : Int) (epoch : Nat) (chain : ByteArray) : Option Pg := if (c.read at_).2 = 0 then parsed epoch (c.read at_).1 chain else none
theorem info_rPage : (Tryd.prog.info? 114).map (·.size) = some 5 := by kernel_rfl
/-- A struct of five cells, stored cell by cell. -/
def put5 (w : World) (b : Nat) (v0 v1 v2 v3 v4 : Value) : World := ((((w.setCell ⟨b, 0, none⟩ v0).setCell ⟨b, 1, none⟩ v1).setCell ⟨b, 2, none⟩ v2).setCell ⟨b, 3, none⟩ v3).setCell ⟨b, 4, none⟩ v4
theorem At.put5 {w : World} {b : Nat} {t : TypeId} {a0 a1 a2 a3 a4 : Value} (h : At w b t #[a0, a1, a2, a3, a4]) (v0 v1 v2 v3 v4 : Value) : At (put5 w b v0 v1 v2 v3 v4) b t #[v0, v1, v2, v3, v4] :=
  ((((h.set 0 v0).set 1 v1).set 2 v2).set 3 v3).set 4 v4
theorem below5 {B b : Nat} {w0 w : World} (h : Below B w0 w) (hb : B ≤ b) (v0 v1 v2 v3 v4 : Value) : Below B w0 (put5 w b v0 v1 v2 v3 v4) :=
  ((((h.setCell (p := ⟨b, 0, none⟩) hb v0).setCell (p := ⟨b, 1, none⟩) hb v1).setCell (p := ⟨b, 2, none⟩) hb v2).setCell (p := ⟨b, 3, none⟩) hb v3).setCell (p := ⟨b, 4, none⟩) hb v4
theorem page_done {tmps : Array Value} {w : World} {b : Nat} {v0 v1 v2 v3 v4 : Value} {Q : Ending → World → Prop} (hp : tmps.getD 8 undef = .pointer (some ⟨b, 0, none⟩)) (hat : At w b 114 #[v0, v1, v2, v3, v4]) (hq : Q (.returned (.agg #[v0, v1, v2, v3, v4])) w) :
    bodyPost Tryd.prog Tryd.f52 Q Exit.ret { tmps := tmps, defers := [] } w :=
  bodyPost_ret (results_cell_row (p := 8) (by rfl) _ _ b _ _ _ _ hp hat Tryd.underlying114 rfl info_rPage) rfl hq
set_option maxRecDepth 100000 in
set_option maxHeartbeats 2000000 in
theorem r51read_any (dv pv : Value) (c : DiskC) (p : Int) (chain : ByteArray) (epoch : Nat) (w : World) (hd : StrsC w dv c.durable) (hp : PendC w pv c.pending) (hps : ∀ x ∈ c.pending, x.2.size = 512) (hl : c.pending.length ≤ 1000000) (hn : c.durable.length ≤ 1000000)
    (hz : ∀ q, (c.read q).1.size ≤ 140737488340000) (hch : chain.size ≤ 1000) (he : epoch ≤ 4611686018427387903) :
    Calls Tryd.prog 52 #[.agg #[dv, pv], .int .i64 p, .string chain, .int .i64 epoch] w fun e w' => e = .returned (.agg (rPageV (pageOf c p epoch chain))) ∧ Below w.heap.size w w' := by
  obtain ⟨da, dc, rfl⟩ := hd.len
  obtain ⟨pa, pc, hpe, hpc⟩ := hp
  have hpp : PendC w pv c.pending := ⟨pa, pc, hpe, hpc⟩
  subst hpe
  have HD := Lib.hid hd; have HP := Lib.hid hpp; have HPS := Lib.hid hps; have HZ := Lib.hid hz; clear hd hpc hpp hps hz
  go_enter Tryd.func52, Tryd.ntmps52
  go_wp2_with fail
  have hb0 : Below w.heap.size w ((w.alloc (.cells #[.slice da c.durable.length dc, .slice pa c.pending.length pc] 29)).alloc (.cells (rPageV none) 114)) := ((Below.refl _ _).alloc (Nat.le_refl _) _).alloc (by simp) _
  have hat0 : At ((w.alloc (.cells #[.slice da c.durable.length dc, .slice pa c.pending.length pc] 29)).alloc (.cells (rPageV none) 114)) (w.heap.size + 1) 114 (rPageV none) := heap_alloc2_new w _ _
  refine (r50Read_any _ _ c p _ (HD.out.below hb0) (HP.out.below hb0) HPS.out hl hn).mono ?_
  rintro e w1 ⟨rfl, hb1⟩
  have hat1 := hat0.below hb1 hat0.lt
  have hbw := hb0.trans (hb1.mono hb0.size)
  have hs := HZ.out p
  have HB := Lib.hid hbw; have HA := Lib.hid hat1; clear hb0 hat0 hb1 hat1 hbw HD HP HPS HZ
  obtain ⟨R, hR⟩ : ∃ R, R = rPageV (pageOf c p epoch chain) := ⟨_, rfl⟩
  have HPO := Lib.hid hR.symm
  unfold pageOf at hR
  obtain ⟨s, hs0⟩ : ∃ s, s = (c.read p).1 := ⟨_, rfl⟩
  obtain ⟨er, her⟩ : ∃ er, er = (c.read p).2 := ⟨_, rfl⟩
  rw [← hs0] at hR hs ⊢
  rw [← her] at hR ⊢
  clear hs0 her
  have HRR := Lib.hid hR; clear hR
  by_cases hA : er = 0
  · subst hA
    have hR := HRR.out
    rw [if_pos rfl] at hR
    clear HRR
    by_cases hB : s.size = 512
    · obtain ⟨dgs, hdgs⟩ : ∃ dgs, dgs = Sha.sha (⟨#[8]⟩ ++ chain ++ s.extract 32 512) := ⟨_, rfl⟩
      cases hC : ((s.extract 0 32).toList == dgs.toList) with
      | false =>
        rw [parsed_sha (by rw [← hdgs]; exact hC)] at hR
        have HR := Lib.hid hR; clear hR
        have HDG := Lib.hid hdgs; clear hdgs
        go_wp2_with fail
        refine Lex.wp_region_lex (by kernel_rfl) (by kernel_rfl) ?_
        go_wp2_with fail
        refine (rSum_any _ _ ?_).mono ?_
        · have h1 : (⟨#[8]⟩ : ByteArray).size = 1 := rfl
          rw [Sha.app_size, Sha.app_size, ByteArray.size_extract]
          omega
        rintro e2 w2 ⟨rfl, hb2⟩
        have hb3 : Below w.heap.size w w2 := HB.out.drew.trans (hb2.mono HB.out.size)
        have ha3 : At w2 (w.heap.size + 1) 114 (rPageV none) := At.below (w := w1.drew) HA.out hb2 HA.out.lt
        have HB3 := Lib.hid hb3; have HA3 := Lib.hid ha3; clear hb3 ha3 hb2
        generalize hS : Sha.sha _ = S
        obtain rfl : dgs = S := HDG.out.trans hS
        clear hS
        have z : ∀ i, w2.frozen? ⟨w.heap.size + 1, i, none⟩ = false := fun i => HA3.out.free i
        have z0 := z 0; have z1 := z 1; have z2 := z 2; have z3 := z 3; have z4 := z 4
        have x0 := HA3.out.cell 0; have x1 := HA3.out.cell 1; have x2 := HA3.out.cell 2; have x3 := HA3.out.cell 3; have x4 := HA3.out.cell 4
        simp only [rPageV, List.getElem?_toArray, List.getElem?_cons_zero, List.getElem?_cons_succ] at x0 x1 x2 x3 x4
        clear z
        go_wp2_with fail
        refine Lex.Ends.intro (by kernel_rfl) ?_
        go_wp2_with fail
        refine page_done (b := w.heap.size + 1) rfl (At.put5 HA3.out _ _ _ _ _) ⟨?_, (below5 (b := w.heap.size + 1) HB3.out (by omega) _ _ _ _ _)⟩
        rw [HPO.out, HR.out]
        rfl
      | true =>
        have hb40 := byteAt_get s 40 (by omega)
        have hbl := byteAt_lt s 40
        have hrb := rReadBig_any (s.extract 32 40)
        have h8 := ext8 hB
        have hsl := len_same s hB
        have h43 : (s.extract 41 43).size = 2 := by rw [ByteArray.size_extract]; omega
        obtain ⟨r, hr⟩ : ∃ r, r = readBig (s.extract 32 40) := ⟨_, rfl⟩
        obtain ⟨L, hL⟩ : ∃ L, L = pageLen s := ⟨_, rfl⟩
        obtain ⟨fl, hfl⟩ : ∃ fl, fl = byteAt s 40 := ⟨_, rfl⟩
        rw [← hr] at hrb
        rw [← hL] at hsl
        rw [← hfl] at hb40 hbl
        have HRB := Lib.hid hrb; have H8 := Lib.hid h8; have H43 := Lib.hid h43; have HSL := Lib.hid hsl
        clear hrb h8 h43 hsl
        have HLL := Lib.hid hL; have HFL := Lib.hid hfl; have HB40 := Lib.hid hb40; clear hL hfl hb40
        by_cases hD : r = epoch
        · subst hD
          have HDG := Lib.hid hdgs; have HRE := Lib.hid hr; clear hdgs hr
          by_cases hE : fl ≤ 1
          · have dF : decide ((1 : Int) < fl) = false := by simp; omega
            have hb40 := HB40.out
            go_wp2_with fail
            refine Lex.wp_region_lex (by kernel_rfl) (by kernel_rfl) ?_
            go_wp2_with fail
            refine (rSum_any _ _ ?_).mono ?_
            · have h1 : (⟨#[8]⟩ : ByteArray).size = 1 := rfl
              rw [Sha.app_size, Sha.app_size, ByteArray.size_extract]
              omega
            rintro e2 w2 ⟨rfl, hb2⟩
            have hb3 : Below w.heap.size w w2 := HB.out.drew.trans (hb2.mono HB.out.size)
            have ha3 : At w2 (w.heap.size + 1) 114 (rPageV none) := At.below (w := w1.drew) HA.out hb2 HA.out.lt
            have HB3 := Lib.hid hb3; have HA3 := Lib.hid ha3; clear hb3 ha3 hb2
            generalize hS : Sha.sha _ = S
            obtain rfl : dgs = S := HDG.out.trans hS
            clear hS
            go_wp2_with fail
            refine (HRB.out _ (by rw [H8.out]; decide) (by rw [H8.out]; decide)).mono ?_
            rintro e3 w3 ⟨rfl, rfl⟩
            go_wp2_with fail
            refine Lex.Ends.intro (by kernel_rfl) ?_
            go_wp2_with fail
            refine (rReadBig_any (s.extract 41 43) _ (by rw [H43.out]; decide) (by rw [H43.out]; decide)).mono ?_
            rintro e4 w4 ⟨rfl, rfl⟩
            rw [HSL.out]
            have hLm : L < 65536 := by
              have h1 := byteAt_lt s 41
              have h2 := byteAt_lt s 42
              rw [HLL.out]
              unfold pageLen
              omega
            by_cases hF : L ≤ 437
            · have dL : decide ((437 : Int) < L) = false := by simp; omega
              by_cases hG : fl = 0 ∧ L ≠ 437
              · rw [parsed_full (by rw [← HFL.out]; exact hG.1) (by rw [← HLL.out]; exact hG.2)] at hR
                have HR := Lib.hid hR; clear hR
                obtain ⟨hG1, hG2⟩ := hG
                have dG : ((fl : Int) == 0) = true := by simp; omega
                have dH : ((L : Int) != 437) = true := by simp; omega
                have z : ∀ i, w4.frozen? ⟨w.heap.size + 1, i, none⟩ = false := fun i => HA3.out.free i
                have z0 := z 0; have z1 := z 1; have z2 := z 2; have z3 := z 3; have z4 := z 4
                have x0 := HA3.out.cell 0; have x1 := HA3.out.cell 1; have x2 := HA3.out.cell 2; have x3 := HA3.out.cell 3; have x4 := HA3.out.cell 4
                simp only [rPageV, List.getElem?_toArray, List.getElem?_cons_zero, List.getElem?_cons_succ] at x0 x1 x2 x3 x4
                clear z
                go_wp2_with fail
                refine page_done (b := w.heap.size + 1) rfl (At.put5 HA3.out _ _ _ _ _) ⟨?_, (below5 (b := w.heap.size + 1) HB3.out (by omega) _ _ _ _ _)⟩
                rw [HPO.out, HR.out]
                rfl
              · by_cases hG0 : fl = 0
                · have hG1 : L = 437 := by
                    by_cases e : L = 437
                    · exact e
                    · exact absurd ⟨hG0, e⟩ hG
                  have dG : ((fl : Int) == 0) = true := by simp; omega
                  have dH : ((L : Int) != 437) = false := by simp; omega
                  have HGG := Lib.hid hG; have HG0 := Lib.hid hG0; have HG1 := Lib.hid hG1; clear hG hG0 hG1
                  have HRR2 := Lib.hid hR; clear hR
                  go_wp2_with fail
                  go_loopw [12] (fun i wr => ∃ k : Nat, 75 + L ≤ k ∧ k ≤ 512 ∧ i = .int .i64 k ∧ (∀ j, 75 + L ≤ j → j < k → byteAt s j = 0) ∧ wr = w4) (fun i _ => 512 - (intOf i).toNat)
                  case atStart => exact ⟨75 + L, by omega, by omega, by go_num, fun j h1 h2 => by omega, rfl⟩
                  case round =>
                    obtain ⟨k, hk1, hk2, rfl, hzz, rfl⟩ := hrel
                    have HZZ := Lib.hid hzz; clear hzz
                    by_cases hlt : k < 512
                    · have dk : decide ((k : Int) < 512) = true := by simp; omega
                      have hbk := byteAt_get s k (by omega)
                      by_cases h0 : byteAt s k = 0
                      · have HH0 := Lib.hid h0
                        rw [h0] at hbk
                        go_wp2_with fail
                        refine ⟨⟨k + 1, by omega, by omega, by go_num, fun j h1 h2 => ?_, by first | rfl | trivial⟩, by simp [intOf]; omega⟩
                        by_cases e : j = k
                        · rw [e]; exact HH0.out
                        · exact HZZ.out j h1 (by omega)
                      · have hR := HRR2.out
                        rw [parsed_rest (i := k) hB (by rw [← HLL.out]; omega) hlt h0] at hR
                        have HR := Lib.hid hR; clear hR
                        obtain ⟨y, hy⟩ : ∃ y, y = byteAt s k := ⟨_, rfl⟩
                        rw [← hy] at hbk h0
                        have d1 : ((y : Int) != 0) = true := by simp; omega
                        have HY := Lib.hid hy; clear hy
                        have z : ∀ i, wr.frozen? ⟨w.heap.size + 1, i, none⟩ = false := fun i => HA3.out.free i
                        have z0 := z 0; have z1 := z 1; have z2 := z 2; have z3 := z 3; have z4 := z 4
                        have x0 := HA3.out.cell 0; have x1 := HA3.out.cell 1; have x2 := HA3.out.cell 2; have x3 := HA3.out.cell 3; have x4 := HA3.out.cell 4
                        simp only [rPageV, List.getElem?_toArray, List.getElem?_cons_zero, List.getElem?_cons_succ] at x0 x1 x2 x3 x4
                        clear z
                        go_wp2_with fail
                        refine page_done (b := w.heap.size + 1) rfl (At.put5 HA3.out _ _ _ _ _) ⟨?_, (below5 (b := w.heap.size + 1) HB3.out (by omega) _ _ _ _ _)⟩
                        rw [HPO.out, HR.out]
                        rfl
                    · have hk' : k = 512 := by omega
                      have dk : decide ((k : Int) < 512) = false := by simp; omega
                      have hR := HRR2.out
                      rw [parsed_good hB he (by rw [← HDG.out]; exact hC) HRE.out.symm (by rw [← HFL.out]; exact hE) (by rw [← HLL.out]; exact hF) (by rw [← HLL.out, ← HFL.out]; exact HGG.out) (fun i h1 h2 => HZZ.out i (by rw [HLL.out]; exact h1) (by omega))] at hR
                      rw [← HLL.out, ← HFL.out] at hR
                      have HR := Lib.hid hR; clear hR
                      have z : ∀ i, wr.frozen? ⟨w.heap.size + 1, i, none⟩ = false := fun i => HA3.out.free i
                      have z0 := z 0; have z1 := z 1; have z2 := z 2; have z3 := z 3; have z4 := z 4
                      have x0 := HA3.out.cell 0; have x1 := HA3.out.cell 1; have x2 := HA3.out.cell 2; have x3 := HA3.out.cell 3; have x4 := HA3.out.cell 4
                      simp only [rPageV, List.getElem?_toArray, List.getElem?_cons_zero, List.getElem?_cons_succ] at x0 x1 x2 x3 x4
                      clear z
                      go_wp2_with fail
                      refine Lex.wp_region_lex (by kernel_rfl) (by kernel_rfl) ?_
                      go_wp2_with fail
                      refine Lex.Ends.intro (by kernel_rfl) ?_
                      go_wp2_with fail
                      refine page_done (b := w.heap.size + 1) rfl (At.put5 HA3.out _ _ _ _ _).drew ⟨?_, (below5 (b := w.heap.size + 1) HB3.out (by omega) _ _ _ _ _).drew⟩
                      have e1 : ((fl : Int) == 1) = (fl == 1) := by
                        rw [Bool.eq_iff_iff]
                        simp
                        omega
                      rw [HPO.out, HR.out, e1]
                      rfl
                · have dG : ((fl : Int) == 0) = false := by simp; omega
                  have HGG := Lib.hid hG; clear hG
                  have HRR2 := Lib.hid hR; clear hR
                  go_wp2_with fail
                  go_loopw [12] (fun i wr => ∃ k : Nat, 75 + L ≤ k ∧ k ≤ 512 ∧ i = .int .i64 k ∧ (∀ j, 75 + L ≤ j → j < k → byteAt s j = 0) ∧ wr = w4) (fun i _ => 512 - (intOf i).toNat)
                  case atStart => exact ⟨75 + L, by omega, by omega, by go_num, fun j h1 h2 => by omega, rfl⟩
                  case round =>
                    obtain ⟨k, hk1, hk2, rfl, hzz, rfl⟩ := hrel
                    have HZZ := Lib.hid hzz; clear hzz
                    by_cases hlt : k < 512
                    · have dk : decide ((k : Int) < 512) = true := by simp; omega
                      have hbk := byteAt_get s k (by omega)
                      by_cases h0 : byteAt s k = 0
                      · have HH0 := Lib.hid h0
                        rw [h0] at hbk
                        go_wp2_with fail
                        refine ⟨⟨k + 1, by omega, by omega, by go_num, fun j h1 h2 => ?_, by first | rfl | trivial⟩, by simp [intOf]; omega⟩
                        by_cases e : j = k
                        · rw [e]; exact HH0.out
                        · exact HZZ.out j h1 (by omega)
                      · have hR := HRR2.out
                        rw [parsed_rest (i := k) hB (by rw [← HLL.out]; omega) hlt h0] at hR
                        have HR := Lib.hid hR; clear hR
                        obtain ⟨y, hy⟩ : ∃ y, y = byteAt s k := ⟨_, rfl⟩
                        rw [← hy] at hbk h0
                        have d1 : ((y : Int) != 0) = true := by simp; omega
                        have HY := Lib.hid hy; clear hy
                        have z : ∀ i, wr.frozen? ⟨w.heap.size + 1, i, none⟩ = false := fun i => HA3.out.free i
                        have z0 := z 0; have z1 := z 1; have z2 := z 2; have z3 := z 3; have z4 := z 4
                        have x0 := HA3.out.cell 0; have x1 := HA3.out.cell 1; have x2 := HA3.out.cell 2; have x3 := HA3.out.cell 3; have x4 := HA3.out.cell 4
                        simp only [rPageV, List.getElem?_toArray, List.getElem?_cons_zero, List.getElem?_cons_succ] at x0 x1 x2 x3 x4
                        clear z
                        go_wp2_with fail
                        refine page_done (b := w.heap.size + 1) rfl (At.put5 HA3.out _ _ _ _ _) ⟨?_, (below5 (b := w.heap.size + 1) HB3.out (by omega) _ _ _ _ _)⟩
                        rw [HPO.out, HR.out]
                        rfl
                    · have hk' : k = 512 := by omega
                      have dk : decide ((k : Int) < 512) = false := by simp; omega
                      have hR := HRR2.out
                      rw [parsed_good hB he (by rw [← HDG.out]; exact hC) HRE.out.symm (by rw [← HFL.out]; exact hE) (by rw [← HLL.out]; exact hF) (by rw [← HLL.out, ← HFL.out]; exact HGG.out) (fun i h1 h2 => HZZ.out i (by rw [HLL.out]; exact h1) (by omega))] at hR
                      rw [← HLL.out, ← HFL.out] at hR
                      have HR := Lib.hid hR; clear hR
                      have z : ∀ i, wr.frozen? ⟨w.heap.size + 1, i, none⟩ = false := fun i => HA3.out.free i
                      have z0 := z 0; have z1 := z 1; have z2 := z 2; have z3 := z 3; have z4 := z 4
                      have x0 := HA3.out.cell 0; have x1 := HA3.out.cell 1; have x2 := HA3.out.cell 2; have x3 := HA3.out.cell 3; have x4 := HA3.out.cell 4
                      simp only [rPageV, List.getElem?_toArray, List.getElem?_cons_zero, List.getElem?_cons_succ] at x0 x1 x2 x3 x4
                      clear z
                      go_wp2_with fail
                      refine Lex.wp_region_lex (by kernel_rfl) (by kernel_rfl) ?_
                      go_wp2_with fail
                      refine Lex.Ends.intro (by kernel_rfl) ?_
                      go_wp2_with fail
                      refine page_done (b := w.heap.size + 1) rfl (At.put5 HA3.out _ _ _ _ _).drew ⟨?_, (below5 (b := w.heap.size + 1) HB3.out (by omega) _ _ _ _ _).drew⟩
                      have e1 : ((fl : Int) == 1) = (fl == 1) := by
                        rw [Bool.eq_iff_iff]
                        simp
                        omega
                      rw [HPO.out, HR.out, e1]
                      rfl
            · rw [parsed_len (by rw [← HLL.out]; omega)] at hR
              have HR := Lib.hid hR; clear hR
              have dL : decide ((437 : Int) < L) = true := by simp; omega
              have z : ∀ i, w4.frozen? ⟨w.heap.size + 1, i, none⟩ = false := fun i => HA3.out.free i
              have z0 := z 0; have z1 := z 1; have z2 := z 2; have z3 := z 3; have z4 := z 4
              have x0 := HA3.out.cell 0; have x1 := HA3.out.cell 1; have x2 := HA3.out.cell 2; have x3 := HA3.out.cell 3; have x4 := HA3.out.cell 4
              simp only [rPageV, List.getElem?_toArray, List.getElem?_cons_zero, List.getElem?_cons_succ] at x0 x1 x2 x3 x4
              clear z
              go_wp2_with fail
              refine page_done (b := w.heap.size + 1) rfl (At.put5 HA3.out _ _ _ _ _) ⟨?_, (below5 (b := w.heap.size + 1) HB3.out (by omega) _ _ _ _ _)⟩
              rw [HPO.out, HR.out]
              rfl
          · rw [parsed_flag (by rw [← HFL.out]; omega)] at hR
            have HR := Lib.hid hR; clear hR
            have dF : decide ((1 : Int) < fl) = true := by simp; omega
            have hb40 := HB40.out
            go_wp2_with fail
            refine Lex.wp_region_lex (by kernel_rfl) (by kernel_rfl) ?_
            go_wp2_with fail
            refine (rSum_any _ _ ?_).mono ?_
            · have h1 : (⟨#[8]⟩ : ByteArray).size = 1 := rfl
              rw [Sha.app_size, Sha.app_size, ByteArray.size_extract]
              omega
            rintro e2 w2 ⟨rfl, hb2⟩
            have hb3 : Below w.heap.size w w2 := HB.out.drew.trans (hb2.mono HB.out.size)
            have ha3 : At w2 (w.heap.size + 1) 114 (rPageV none) := At.below (w := w1.drew) HA.out hb2 HA.out.lt
            have HB3 := Lib.hid hb3; have HA3 := Lib.hid ha3; clear hb3 ha3 hb2
            generalize hS : Sha.sha _ = S
            obtain rfl : dgs = S := HDG.out.trans hS
            clear hS
            go_wp2_with fail
            refine (HRB.out _ (by rw [H8.out]; decide) (by rw [H8.out]; decide)).mono ?_
            rintro e3 w3 ⟨rfl, rfl⟩
            have z : ∀ i, w3.frozen? ⟨w.heap.size + 1, i, none⟩ = false := fun i => HA3.out.free i
            have z0 := z 0; have z1 := z 1; have z2 := z 2; have z3 := z 3; have z4 := z 4
            have x0 := HA3.out.cell 0; have x1 := HA3.out.cell 1; have x2 := HA3.out.cell 2; have x3 := HA3.out.cell 3; have x4 := HA3.out.cell 4
            simp only [rPageV, List.getElem?_toArray, List.getElem?_cons_zero, List.getElem?_cons_succ] at x0 x1 x2 x3 x4
            clear z
            go_wp2_with fail
            refine Lex.Ends.intro (by kernel_rfl) ?_
            go_wp2_with fail
            refine page_done (b := w.heap.size + 1) rfl (At.put5 HA3.out _ _ _ _ _) ⟨?_, (below5 (b := w.heap.size + 1) HB3.out (by omega) _ _ _ _ _)⟩
            rw [HPO.out, HR.out]
            rfl
        · rw [parsed_epoch hB he (by rw [← hr]; exact hD)] at hR
          have d1 : (r != (epoch : Int)) = true := by simpa using hD
          have d2 : (r == (epoch : Int)) = false := by simpa using hD
          have HR := Lib.hid hR; have HDG := Lib.hid hdgs; clear hR hdgs hr hbl hD
          go_wp2_with fail
          refine Lex.wp_region_lex (by kernel_rfl) (by kernel_rfl) ?_
          go_wp2_with fail
          refine (rSum_any _ _ ?_).mono ?_
          · have h1 : (⟨#[8]⟩ : ByteArray).size = 1 := rfl
            rw [Sha.app_size, Sha.app_size, ByteArray.size_extract]
            omega
          rintro e2 w2 ⟨rfl, hb2⟩
          have hb3 : Below w.heap.size w w2 := HB.out.drew.trans (hb2.mono HB.out.size)
          have ha3 : At w2 (w.heap.size + 1) 114 (rPageV none) := At.below (w := w1.drew) HA.out hb2 HA.out.lt
          have HB3 := Lib.hid hb3; have HA3 := Lib.hid ha3; clear hb3 ha3 hb2
          generalize hS : Sha.sha _ = S
          obtain rfl : dgs = S := HDG.out.trans hS
          clear hS
          go_wp2_with fail
          refine (HRB.out _ (by rw [H8.out]; decide) (by rw [H8.out]; decide)).mono ?_
          rintro e3 w3 ⟨rfl, rfl⟩
          have z : ∀ i, w3.frozen? ⟨w.heap.size + 1, i, none⟩ = false := fun i => HA3.out.free i
          have z0 := z 0; have z1 := z 1; have z2 := z 2; have z3 := z 3; have z4 := z 4
          have x0 := HA3.out.cell 0; have x1 := HA3.out.cell 1; have x2 := HA3.out.cell 2; have x3 := HA3.out.cell 3; have x4 := HA3.out.cell 4
          simp only [rPageV, List.getElem?_toArray, List.getElem?_cons_zero, List.getElem?_cons_succ] at x0 x1 x2 x3 x4
          clear z
          go_wp2_with fail
          refine Lex.Ends.intro (by kernel_rfl) ?_
          go_wp2_with fail
          refine page_done (b := w.heap.size + 1) rfl (At.put5 HA3.out _ _ _ _ _) ⟨?_, (below5 (b := w.heap.size + 1) HB3.out (by omega) _ _ _ _ _)⟩
          rw [HPO.out, HR.out]
          rfl
    · rw [parsed_size hB] at hR
      have HR := Lib.hid hR; clear hR
      have d1 : ((s.size : Int) != 512) = true := by simp; omega
      have d2 : ((s.size : Int) == 512) = false := by simp; omega
      have z : ∀ i, w1.frozen? ⟨w.heap.size + 1, i, none⟩ = false := fun i => HA.out.free i
      have z0 := z 0; have z1 := z 1; have z2 := z 2; have z3 := z 3; have z4 := z 4
      have x0 := HA.out.cell 0; have x1 := HA.out.cell 1; have x2 := HA.out.cell 2; have x3 := HA.out.cell 3; have x4 := HA.out.cell 4
      simp only [rPageV, List.getElem?_toArray, List.getElem?_cons_zero, List.getElem?_cons_succ] at x0 x1 x2 x3 x4
      clear z
      go_wp2_with fail
      refine Lex.wp_region_lex (by kernel_rfl) (by kernel_rfl) ?_
      go_wp2_with fail
      refine Lex.Ends.intro (by kernel_rfl) ?_
      go_wp2_with fail
      refine page_done (b := w.heap.size + 1) rfl (At.put5 HA.out _ _ _ _ _).drew ⟨?_, (below5 (b := w.heap.size + 1) HB.out (by omega) _ _ _ _ _).drew⟩
      rw [HPO.out, HR.out]
      rfl
  · have d1 : (er == 0) = false := by simp [hA]
    have d2 : (er != 0) = true := by simp [hA]
    have hR := HRR.out
    rw [if_neg hA] at hR
    have HR := Lib.hid hR; clear hR
    have z : ∀ i, w1.frozen? ⟨w.heap.size + 1, i, none⟩ = false := fun i => HA.out.free i
    have z0 := z 0; have z1 := z 1; have z2 := z 2; have z3 := z 3; have z4 := z 4
    have x0 := HA.out.cell 0; have x1 := HA.out.cell 1; have x2 := HA.out.cell 2; have x3 := HA.out.cell 3; have x4 := HA.out.cell 4
    simp only [rPageV, List.getElem?_toArray, List.getElem?_cons_zero, List.getElem?_cons_succ] at x0 x1 x2 x3 x4
    clear z
    go_wp2_with fail
    refine Lex.wp_region_lex (by kernel_rfl) (by kernel_rfl) ?_
    go_wp2_with fail
    refine Lex.Ends.intro (by kernel_rfl) ?_
    go_wp2_with fail
    refine page_done (b := w.heap.size + 1) rfl (At.put5 HA.out _ _ _ _ _).drew ⟨?_, (below5 (b := w.heap.size + 1) HB.out (by omega) _ _ _ _ _).drew⟩
    rw [HPO.out, HR.out]
    rfl
end Go.Proofs.YtfgjjdjaiddllaaDoor
