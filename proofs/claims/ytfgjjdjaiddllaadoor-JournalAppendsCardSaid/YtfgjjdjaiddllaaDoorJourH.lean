/- The program's journal: Open reads the records. Condition: what is read is a string of this machine's; at most a million pages are pending. -/
import Derived.Test.YtfgjjdjaiddllaaDoorJourG
import Derived.Test.YtfgjjdjaiddllaaDoorJourF
namespace Go.Proofs.YtfgjjdjaiddllaaDoor
set_option linter.unusedVariables false
set_option linter.unusedSimpArgs false
open Go Go.RowKit Go.Maps
theorem W_round (r : Option Nat) : (Lex.W r).round = r := rfl
attribute [local go_sem] Oper.semAt_some W_round
/-- What Open leaves: a journal that holds what was gathered, all of it new. -/
def OpenPost (w : World) (dp : DiskP) (rd : Nat → ByteArray × Int) (first count epoch : Nat) (e : Ending) (w' : World) : Prop :=
  ∃ j : Jour, e = .returned (.tuple #[.pointer (some ⟨j.jb, 0, none⟩), .int .i64 0]) ∧ JourAt w' j ∧ j.da = dp.a ∧ j.first = first ∧ j.count = count ∧ j.epoch = epoch ∧
    j.recs = (opened epoch count rd).recs ∧ j.next = (opened epoch count rd).next ∧ j.chain = (opened epoch count rd).jch ∧ (∀ k, j.foot k → w.heap.size ≤ k) ∧ Below w.heap.size w w'
theorem info_pg : (Tryd.prog.info? 90).map (fun i => (i.zero, i.size, i.bytes)) = some (some (.agg #[.string ⟨#[]⟩, .string ⟨#[]⟩, .string ⟨#[]⟩, .bool false]), 4, 56) := by kernel_rfl
set_option maxRecDepth 100000 in
set_option maxHeartbeats 4000000 in
theorem jOpen_ok (d : DiskP) (c : DiskC) (rd : Nat → ByteArray × Int) (first count epoch n : Nat) (w : World) (hn : n = c.durable.length) (h : DiskAt w d c) (h2 : 1 ≤ count) (h3 : count ≤ n) (h4 : first + count ≤ n) (h6 : epoch ≤ 4611686018427387903)
    (hp : c.pending.length ≤ 1000000) (hsz : ∀ p, (c.read p).1.size ≤ 9223372036854775000) (hrd : ∀ k, rd k = c.read ((first : Int) + k)) :
    Calls Tryd.prog 18 #[.pointer (some ⟨d.a, 0, none⟩), .agg #[.int .i64 first, .int .i64 count], .int .i64 epoch] w (OpenPost w d rd first count epoch) := by
  refine (callsIn_wide (n := 9)).1 ?_
  have hrr : Fence.wide.round = none := rfl
  have hmost := h.most
  rw [← hn] at hmost
  have HH := Lib.hid h; have HN := Lib.hid hn; have HSZ := Lib.hid hsz; have HRD := Lib.hid hrd; clear h hn hsz hrd
  have d1 : decide ((first : Int) < 0) = false := by simp
  have d2 : decide ((count : Int) < 1) = false := by simp; omega
  have d3 : decide (n < count) = false := by simp; omega
  have d4 : decide ((n : Int) - count < first) = false := by simp; omega
  have d5 : decide ((epoch : Int) < 0) = false := by simp
  have d6 : decide ((4611686018427387903 : Int) < epoch) = false := by simp; omega
  refine callsIn_of_wp_marks Tryd.func18 rfl trivial ?_ rfl
  simp only [Tryd.ntmps18, List.size_toArray, List.length_cons, List.length_nil, Nat.reduceAdd, Nat.reduceSub, Array.replicate_succ, Array.replicate_zero, List.push_toArray, List.append_toArray, List.nil_append, List.cons_append]
  gi_wp2
  have hd1 : DiskAt (w.alloc (.cells #[.int .i64 first, .int .i64 count] 24)).drew d c := HH.out.below ((Below.refl w.heap.size w).alloc (Nat.le_refl _) _).drew (Nat.le_refl _)
  have hB1 : Below w.heap.size w (w.alloc (.cells #[.int .i64 first, .int .i64 count] 24)).drew := ((Below.refl w.heap.size w).alloc (Nat.le_refl _) _).drew
  have hA1 : At (w.alloc (.cells #[.int .i64 first, .int .i64 count] 24)).drew w.heap.size 24 #[.int .i64 first, .int .i64 count] := (At.new w _ _).drew
  have HD1 := Lib.hid hd1; have HB1 := Lib.hid hB1; have HA1 := Lib.hid hA1; clear hd1 hB1 hA1
  refine Lex.wpIn_region_lexN (fun k => k = w.heap.size) [10, 17, 21] 23 [13, 7] (by kernel_rfl) (by kernel_rfl) (by kernel_rfl) (by kernel_rfl) ?_
  simp only [Lex.wpCuts, List.take_succ_cons, List.take_zero, List.drop_succ_cons, List.drop_zero]
  generalize (w.alloc (.cells #[.int .i64 first, .int .i64 count] 24)).drew = w1 at *
  have c0 := HA1.out.cell 0; have c1 := HA1.out.cell 1
  simp only [List.getElem?_toArray, List.getElem?_cons_zero, List.getElem?_cons_succ] at c0 c1
  go_wp2_with fail
  (with_reducible refine (dPages_any d c _ HD1.out).mono ?_); rintro e w1 ⟨rfl, rfl⟩; rw [← HN.out]; go_wp2_with fail
  refine Lex.Mid.intro (fun k _ hk => rfl) ?_
  go_wp2_with fail
  (with_reducible refine (dPages_any d c _ HD1.out).mono ?_); rintro e w1 ⟨rfl, rfl⟩; rw [← HN.out]; go_wp2_with fail
  refine Lex.Mid.intro (fun k _ hk => rfl) ?_
  go_wp2_with fail
  refine Lex.EndsN.intro (by kernel_rfl) ?_ ?_
  · exact ⟨⟨rfl, by show (w1.cell? ⟨w.heap.size, 1, none⟩).isSome = true; rw [c1]; rfl⟩, ⟨rfl, by show (w1.cell? ⟨w.heap.size, 0, none⟩).isSome = true; rw [c0]; rfl⟩, ⟨rfl, by show (w1.cell? ⟨w.heap.size, 1, none⟩).isSome = true; rw [c1]; rfl⟩, trivial⟩
  clear d1 d2 d3 d4 d5 d6
  gi_wp2
  obtain ⟨jr, hjr⟩ : ∃ jr : Array Value, jr = #[.pointer (some ⟨d.a, 0, none⟩), .int .i64 first, .int .i64 count, .int .i64 epoch, .slice none 0 0, .int .i64 0, .string ⟨#[]⟩] := ⟨_, rfl⟩
  have a3 : At (((w1.alloc (.cells jr 84)).alloc (.cells #[.pointer (some ⟨w1.heap.size, 0, none⟩)] 36)).drew) w1.heap.size 84 jr := ((At.new w1 84 jr).alloc _).drew
  have b3 : At (((w1.alloc (.cells jr 84)).alloc (.cells #[.pointer (some ⟨w1.heap.size, 0, none⟩)] 36)).drew) (w1.heap.size + 1) 36 #[.pointer (some ⟨w1.heap.size, 0, none⟩)] := by
    have h := (At.new (w1.alloc (.cells jr 84)) 36 #[.pointer (some ⟨w1.heap.size, 0, none⟩)]).drew
    rw [World.size_alloc] at h
    exact h
  have B3 : Below w1.heap.size w1 (((w1.alloc (.cells jr 84)).alloc (.cells #[.pointer (some ⟨w1.heap.size, 0, none⟩)] 36)).drew) := (((Below.refl w1.heap.size w1).alloc (Nat.le_refl _) _).alloc (by rw [World.size_alloc]; omega) _).drew
  have HJR := Lib.hid hjr
  rw [← hjr]
  clear hjr
  have HA3 := Lib.hid a3; have HB3 := Lib.hid b3; have HBB3 := Lib.hid B3; clear a3 b3 B3
  refine Lex.wpIn_region_lexN (fun k => k = w1.heap.size + 1) [0] 5 [3, 2] (by kernel_rfl) (by kernel_rfl) (by kernel_rfl) (by kernel_rfl) ?_
  simp only [Lex.wpCuts, List.take_succ_cons, List.take_zero, List.drop_succ_cons, List.drop_zero]
  generalize ((w1.alloc (.cells jr 84)).alloc (.cells #[.pointer (some ⟨w1.heap.size, 0, none⟩)] 36)).drew = w3 at *
  have p0 := HB3.out.cell 0
  simp only [List.getElem?_toArray, List.getElem?_cons_zero, List.getElem?_cons_succ] at p0
  go_wp2_with fail
  refine (big_any epoch 8 w3 (by omega) (by omega) (by omega)).mono ?_
  rintro e w4 ⟨rfl, hb4⟩
  have HB4 := Lib.hid hb4; clear hb4
  go_wp2_with fail
  refine Lex.Mid.intro (fun k hk hl => by subst hk; exact HB4.out.block _ hl) ?_
  go_wp2_with fail
  refine (sum_any _ _ (by rw [Sha.app_size, big_size]; decide)).mono ?_
  rintro e w5 ⟨rfl, hb5⟩
  have hb5' : Below w3.heap.size w3 w5 := HB4.out.trans (hb5.mono HB4.out.size)
  have HB5 := Lib.hid hb5'; clear hb5 hb5'
  go_wp2_with fail
  refine Lex.Mid.intro (fun k hk hl => by subst hk; exact HB5.out.block _ hl) ?_
  have a5 := At.below HA3.out HB5.out HA3.out.lt
  have q6 : w5.frozen? ⟨w1.heap.size, 6, none⟩ = false := a5.free 6
  have c6 := a5.cell 6
  rw [HJR.out] at c6
  simp only [List.getElem?_toArray, List.getElem?_cons_zero, List.getElem?_cons_succ] at c6
  have HA5 := Lib.hid a5; clear a5
  go_wp2_with fail
  refine Lex.EndsN.intro (by kernel_rfl) ?_ ?_
  · exact ⟨⟨rfl, by show (w3.cell? ⟨w1.heap.size + 1, 0, none⟩).isSome = true; rw [p0]; rfl⟩, trivial⟩
  have hsz3 : w1.heap.size + 1 < w3.heap.size := HB3.out.lt
  have hsz5 := HB5.out.size
  have hbx : Below w1.heap.size w1 (w5.setCell ⟨w1.heap.size, 6, none⟩ (.string (Sha.sha (⟨#[9]⟩ ++ big epoch 8)))) := (HBB3.out.trans (HB5.out.mono HBB3.out.size)).setCell (p := ⟨w1.heap.size, 6, none⟩) (Nat.le_refl _) _
  have hja : At (w5.setCell ⟨w1.heap.size, 6, none⟩ (.string (Sha.sha (⟨#[9]⟩ ++ big epoch 8)))) w1.heap.size 84 #[.pointer (some ⟨d.a, 0, none⟩), .int .i64 first, .int .i64 count, .int .i64 epoch, .slice none 0 0, .int .i64 0, .string (Sha.sha (⟨#[9]⟩ ++ big epoch 8))] := by
    have h := HA5.out.set 6 (.string (Sha.sha (⟨#[9]⟩ ++ big epoch 8)))
    rw [HJR.out] at h
    exact h
  have hjb : At (w5.setCell ⟨w1.heap.size, 6, none⟩ (.string (Sha.sha (⟨#[9]⟩ ++ big epoch 8)))) (w1.heap.size + 1) 36 #[.pointer (some ⟨w1.heap.size, 0, none⟩)] := (At.below HB3.out HB5.out HB3.out.lt).far (by show w1.heap.size + 1 ≠ w1.heap.size; omega) _
  have hs6 : (w5.setCell ⟨w1.heap.size, 6, none⟩ (.string (Sha.sha (⟨#[9]⟩ ++ big epoch 8)))).heap.size = w5.heap.size := by simp [World.setCell]
  have HX := Lib.hid hbx; have HJA := Lib.hid hja; have HJB := Lib.hid hjb; have HS6 := Lib.hid hs6
  clear hbx hja hjb c6 q6 p0 hs6
  generalize w5.setCell ⟨w1.heap.size, 6, none⟩ (.string (Sha.sha (⟨#[9]⟩ ++ big epoch 8))) = w6 at *
  have e8 := HJB.out.cell 0
  simp only [List.getElem?_toArray, List.getElem?_cons_zero, List.getElem?_cons_succ] at e8
  have hlt8 : w1.heap.size + 1 < w6.heap.size := HJB.out.lt
  gi_wp2
  obtain ⟨jb, hjbe⟩ : ∃ jb, jb = w1.heap.size := ⟨_, rfl⟩
  obtain ⟨b9, hb9e⟩ : ∃ b9, b9 = w6.heap.size := ⟨_, rfl⟩
  have h7 : OpenW w d first count epoch jb (jb + 1) b9 (b9 + 1) (OSt.zero epoch) (.slice none 0 0) (.slice none 0 0) (w6.alloc (.cells #[.slice none 0 0] 87)) := by
    rw [hjbe, hb9e]
    refine ⟨HJB.out.alloc _, At.new _ _ _, ⟨rfl, .inl ⟨rfl, rfl⟩⟩, ⟨HJA.out.alloc _, ⟨rfl, .inl ⟨rfl, rfl⟩⟩, by show 0 ≤ 1000000; omega, by show count ≤ 4096; omega, Nat.zero_le _⟩, fun k hk => (by cases hk), fun k hk => (by cases hk), ?_⟩
    exact (HB1.out.trans (HX.out.mono HB1.out.size)).alloc (Nat.le_trans HB1.out.size HX.out.size) _
  have hs7 : (w6.alloc (.cells #[.slice none 0 0] 87)).heap.size = b9 + 1 := by rw [World.size_alloc, hb9e]
  have hlt9 : jb + 1 < b9 := by rw [hjbe, hb9e]; exact hlt8
  have hjw : w.heap.size ≤ jb := by rw [hjbe]; exact HB1.out.size
  rw [← hjbe, ← hb9e]
  have H7 := Lib.hid h7; have HS7 := Lib.hid hs7; clear h7 hs7 e8 hlt8 hsz3 hsz5 HS6 HX HJA HJB HA5 HB5 HB4 HA3 HB3 HBB3 HJR c0 c1 HD1 HA1
  clear hjbe hb9e HB1
  generalize w6.alloc (.cells #[.slice none 0 0] 87) = w7 at *
  have hs7 := HS7.out
  refine wpIn_rangeFunc_iter (r := none) rfl rfl (enters_of Tryd.func37 (by kernel_rfl) rfl) (fun p : Pg => #[.agg #[.string p.check, .string p.digest, .string p.data, .bool p.last]]) (fun _ => rfl)
    (OpenJ w d rd first count epoch jb (jb + 1) b9 (b9 + 1)) (OpenX w d rd first count epoch jb (jb + 1) b9 (b9 + 1))
    (pgStep ⟨jb, d.a, first, count, epoch, .slice none 0 0, [], 0, chain0 epoch⟩ c) (pgDone ⟨jb, d.a, first, count, epoch, .slice none 0 0, [], 0, chain0 epoch⟩ c) (0, chain0 epoch)
    ?hJb ?hJl ?hJxl ?h0 ?hiter ?hround ?hdone ?hstop
  case hJb =>
    rintro s W W' ⟨t, ov, rv, h0, h1, h2, h3, h4, h5, h6, h7⟩ hb
    exact ⟨t, ov, rv, h0, h1, h2, h3, h4, h5, h6, h7.below hb⟩
  case hJl =>
    rintro s W W' ⟨t, ov, rv, h0, h1, h2, h3, h4, h5, h6, h7⟩ hb
    rw [hs7] at hb
    exact ⟨t, ov, rv, h0, h1, h2, h3, h4, h5, h6, h7.fr (by omega) (by omega) (by omega) (by omega) hb⟩
  case hJxl =>
    rintro c W W' ⟨rfl, t, ov, rv, h1, h2, h3, h7⟩ hb
    rw [hs7] at hb
    exact ⟨rfl, t, ov, rv, h1, h2, h3, h7.fr (by omega) (by omega) (by omega) (by omega) hb⟩
  case h0 => exact ⟨OSt.zero epoch, _, _, fun _ => rfl, Nat.zero_le _, rfl, Nat.le_refl _, fun q hq => (by cases hq), by show (Sha.sha _).size ≤ 1000; rw [Sha.sha_size]; omega, rfl, H7.out⟩
  case hiter =>
    refine jPages_any ⟨jb, d.a, first, count, epoch, .slice none 0 0, [], 0, chain0 epoch⟩ d c _ _ rfl (by show epoch < _; omega) (by show count ≤ _; omega) (by show first ≤ _; omega) (by show (Sha.sha _).size ≤ 1000; rw [Sha.sha_size]; omega) hp HSZ.out ?_ ?_ ?_
    · rintro s W ⟨t, ov, rv, h0, h1, h2, h3, h4, h5, h6, h7⟩
      exact ⟨⟨_, h7.jour, rfl, rfl, rfl, rfl, rfl⟩, HH.out.below h7.old (Nat.le_refl _)⟩
    · rintro W ⟨t, ov, rv, h0, h1, h2, h3, h4, h5, h6, h7⟩
      have e := h0 rfl
      subst e
      exact h7.jour.self.cell 6
    · rintro s W ⟨t, ov, rv, h0, h1, h2, h3, h4, h5, h6, h7⟩
      exact h5
  case hround =>
    rintro ⟨k, ch⟩ p s' W0 W hsz0 ⟨t, ov, rv, g0, g1, g2, g3, g4, g5, g6, hW⟩ hb ⟨hk, hrk, hpd, rfl⟩
    have hWW := hW.below hb
    have HW := Lib.hid hWW; have HW0 := Lib.hid hW; have HB := Lib.hid hb; have HPD := Lib.hid hpd; have HG4 := Lib.hid g4; have HG6 := Lib.hid g6; have HRK := Lib.hid hrk; have HG0 := Lib.hid g0
    clear hWW hW hb hpd g4 g6 hrk g0 hs7
    simp only at g1 g2 g3 g5 hk
    gi_wp2
    have hszW := HB.out.size
    refine ⟨RKeep.below ((Below.refl _ _).alloc (Nat.le_refl _) _) (by omega), fun W2 hf2 => ?_⟩
    have hO2 : OpenW w d first count epoch jb (jb + 1) b9 (b9 + 1) t ov rv W2 := (HW.out.below ((Below.refl _ _).alloc (Nat.le_refl _) _)).fr (by omega) (by omega) (by omega) (by omega) (by rw [HS7.out] at hf2; exact hf2)
    have hP2 : At W2 W.heap.size 90 #[.string p.check, .string p.digest, .string p.data, .bool p.last] := (At.new W _ _).keep (hf2.keep _ (by simp) (by omega))
    obtain ⟨bp, hbp⟩ : ∃ bp, bp = W.heap.size := ⟨_, rfl⟩
    have hbp0 : W0.heap.size ≤ bp := by omega
    have hsz2 : w7.heap.size + 1 < W2.heap.size := by have := hf2.size; rw [World.size_alloc] at this; omega
    have hs7 := HS7.out
    rw [← hbp] at hP2 ⊢
    have HO2 := Lib.hid hO2; have HP2 := Lib.hid hP2; clear hO2 hP2 hf2 hszW hbp
    have o9 := HO2.out.obox.cell 0; have o8 := HO2.out.jbox.cell 0
    have r1 := HP2.out.cell 1; have r3 := HP2.out.cell 3; have r0 := HP2.out.cell 0; have r2 := HP2.out.cell 2
    simp only [List.getElem?_toArray, List.getElem?_cons_zero, List.getElem?_cons_succ] at o9 o8 r1 r3 r0 r2
    cases hto : t.open_ with
    | nil =>
      have hov : ∃ b cap, ov = .slice b 0 cap := by
        obtain ⟨_, ⟨h0, _⟩ | ⟨g, cap, cur, h0, _⟩⟩ := HO2.out.rows
        · exact ⟨none, 0, h0⟩
        · rw [hto] at h0; exact ⟨_, _, h0⟩
      obtain ⟨ob, oc, hov⟩ := hov
      have hove : (Value.slice ob 0 oc) = ov := hov.symm
      have HOVE := Lib.hid hove
      rw [hov] at o9
      clear hov hove
      have hoff : offDigest t p = false := by unfold offDigest; rw [hto]
      have HOFF := Lib.hid hoff; clear hoff
      have HTO := Lib.hid hto; clear hto
      gi_wp2
      refine Lex.wpIn_region_lex (by kernel_rfl) (by kernel_rfl) (by kernel_rfl) ?_
      go_wp2_with fail
      refine Lex.Ends.intro (by kernel_rfl) ?_
      iterate 7 gi_step
      refine Lex.wpIn_region_plain (by kernel_rfl) ?_
      obtain ⟨i0, hi, hz0, hz1, hz2⟩ := info_parts info_pg
      have hlen : t.open_.length ≤ 4096 := by omega
      go_wp2_with (at_builtin; go_must (refine wpList_append_own_at _ rfl _ _ 87 rfl 0 90 i0 _ 4 56 Tryd.underlying87 hi hz0 hz1 hz2 rfl (by omega) ov t.open_.length (pgCells t.open_) HOVE.out ((HO2.out.rows.drew).alloc _) ⟨W2.heap.size, 0, none⟩ 1 1 [.string p.check, .string p.digest, .string p.data, .bool p.last] rfl rfl ?c1 ?c2 ?c3 ?c4 ?c5 ?_))
      case c1 =>
        intro j u hj
        match j, hj with
        | 0, hj => simp at hj; subst hj; simp [Addr.add]
        | 1, hj => simp at hj; subst hj; simp [Addr.add]
        | 2, hj => simp at hj; subst hj; simp [Addr.add]
        | 3, hj => simp at hj; subst hj; simp [Addr.add]
      case c2 => intro u hu; simp at hu; rcases hu with rfl | rfl | rfl | rfl <;> rfl
      case c3 => unfold maxLen; omega
      case c4 => omega
      case c5 => omega
      intro v' w' how hg _ hb'
      have hbel : Below W2.heap.size W2 (W2.alloc (.cells #[.string p.check, .string p.digest, .string p.data, .bool p.last] 90)).drew := ((Below.refl W2.heap.size W2).alloc (Nat.le_refl _) _).drew
      obtain ⟨hO3, hF3⟩ := HO2.out.pushed (p := p) (by omega) (by omega) hbel hg (by rw [pgCells_snoc, List.length_append]; exact how) (hb'.imp id (fun h => ⟨_, h, by simp; omega⟩))
      obtain ⟨g, cap, rfl, hgc⟩ := own_cell how (by omega)
      have a9 : At w' b9 87 #[ov] := At.grown ((HO2.out.obox.alloc _).drew) hg (by intro e; exact (HO2.out.obox.own_ne HO2.out.rows (by decide)) e.symm)
      have q9 : w'.frozen? ⟨b9, 0, none⟩ = false := a9.free 0
      have k9 := a9.cell 0
      simp only [List.getElem?_toArray, List.getElem?_cons_zero, List.getElem?_cons_succ] at k9
      have HO3 := Lib.hid hO3; have HF3 := Lib.hid hF3; clear how hg hb' hbel hO3 hF3 a9 hgc
      go_wp2_with fail
      refine Lex.Only.intro ?_
      clear k9 q9
      have hP9 := HF3.out.at HP2.out (by
        rintro (h | h | h | h)
        · have := HW0.out.lt bp (.inl h); omega
        · have := HW0.out.lt bp (.inr (.inr (.inl h))); omega
        · have := HW0.out.lt bp (.inr (.inr (.inr (.inl h)))); omega
        · have := HW0.out.lt bp (.inr (.inr (.inr (.inr h)))); omega)
      have HP9 := Lib.hid hP9; clear hP9
      generalize w'.setCell ⟨b9, 0, none⟩ (.slice (some ⟨g, 0, none⟩) (t.open_.length + 1) cap) = w9 at *
      have y1 := HP9.out.cell 1; have y3 := HP9.out.cell 3; have y0 := HP9.out.cell 0; have y2 := HP9.out.cell 2
      simp only [List.getElem?_toArray, List.getElem?_cons_zero, List.getElem?_cons_succ] at y1 y3 y0 y2
      clear r0 r1 r2 r3 o8 o9 hi hz0 hz1 hz2
      cases hla : p.last with
      | false =>
        rw [hla] at y3
        have HLA := Lib.hid hla; clear hla
        gi_wp2
        have hstep : t.step p = some { t with open_ := t.open_ ++ [p] } := by
          unfold OSt.step
          rw [HOFF.out, HLA.out]
          rfl
        obtain ⟨f1, f2⟩ := openF_far HW0.out (by omega) (by omega)
        rw [hs7]
        refine ⟨RKeep.fr HF3.out (by omega) f1 f2 (fun k hk => openF_lt HW0.out hk), .inl ⟨rfl, ⟨_, _, _, fun h => (by cases h), hk, ?_, by show t.recs.length ≤ _; omega, ?_, ?_, ?_, HO3.out⟩⟩⟩
        · show t.next + (t.open_ ++ [p]).length = k + 1
          rw [List.length_append]
          show _ + (_ + 1) = _
          omega
        · intro q hq
          rcases List.mem_append.1 hq with hq | hq
          · exact HG4.out q hq
          · simp at hq; subst hq; exact parsed_data HPD.out
        · have := parsed_check HPD.out
          show p.check.size ≤ 1000
          omega
        · exact (opens_step hk (by rw [HRD.out]; exact HRK.out) (by rw [HRD.out]; exact HPD.out) hstep).symm.trans HG6.out
      | true =>
        rw [hla] at y3
        have HLA := Lib.hid hla; clear hla
        have z9 := HO3.out.obox.cell 0
        simp only [List.getElem?_toArray, List.getElem?_cons_zero, List.getElem?_cons_succ] at z9
        have hl9 := HO3.out.obox.lt
        gi_wp2
        obtain ⟨L, hL⟩ : ∃ L, L = t.open_ ++ [p] := ⟨_, rfl⟩
        have hLn : t.open_.length + 1 = L.length := by rw [hL, List.length_append]; rfl
        have hLd : ∀ q ∈ L, q.data.size ≤ 437 := by
          intro q hq
          rw [hL] at hq
          rcases List.mem_append.1 hq with hq | hq
          · exact HG4.out q hq
          · simp at hq; subst hq; exact parsed_data HPD.out
        have hcellL : ∀ i x, (pgCells L)[i]? = some x → w9.cell? ⟨g, i, none⟩ = some x := by
          have hr := HO3.out.rows
          rw [← hL] at hr
          obtain ⟨g', cap', hv', hc'⟩ := own_cell hr (by show 0 < L.length; omega)
          simp only [Value.slice.injEq, Option.some.injEq, Addr.mk.injEq, and_true] at hv'
          rw [hv'.1]
          exact hc'
        have hgl : g < w9.heap.size := HO3.out.lt g (by simp [Value.ownBlock])
        obtain ⟨b11, hb11⟩ : ∃ b11, b11 = w9.heap.size := ⟨_, rfl⟩
        have hB0 : Lib.IsBuilderF 94 5 b11 b11 (Lib.byteCells (catL (L.take 0))) (w9.alloc (.cells #[.pointer none, .slice none 0 0] 94)) := by rw [hb11]; exact bldNew w9
        have hb0 : Below b11 w9 (w9.alloc (.cells #[.pointer none, .slice none 0 0] 94)) := by rw [hb11]; exact (Below.refl _ _).alloc (Nat.le_refl _) _
        rw [← hb11]
        rw [hb11] at hb0
        have hgb : g < b11 := by omega
        have h9b : b9 < b11 := by omega
        have hln : L.length ≤ 4097 := by omega
        have hcat : ∀ m, (catL (L.take m)).length ≤ 437 * 4097 := by
          intro m
          have h1 := catL_len (L.take m) (fun q hq => hLd q (List.mem_of_mem_take hq))
          have h2 : (L.take m).length ≤ 4097 := by rw [List.length_take]; omega
          omega
        rw [← hb11] at hb0
        have HLd := Lib.hid hLd; have HCL := Lib.hid hcellL; have HB0 := Lib.hid hB0; have Hb0 := Lib.hid hb0; have HL := Lib.hid hL; have HLN := Lib.hid hLn; have HB11 := Lib.hid hb11; have HCAT := Lib.hid hcat
        clear hLd hcellL hB0 hb0 hL hLn hgl hb11 hcat
        generalize w9.alloc (.cells #[.pointer none, .slice none 0 0] 94) = w10 at *
        gi_loopw [83] (fun i wr => ∃ m : Nat, m ≤ L.length ∧ i = .int .i64 m ∧ Lib.IsBuilderF 94 5 b11 b11 (Lib.byteCells (catL (L.take m))) wr ∧ Below b11 w9 wr) (fun i _ => L.length - (intOf i).toNat)
        case atStart => exact ⟨0, Nat.zero_le _, rfl, HB0.out, Hb0.out⟩
        case round =>
          obtain ⟨m, hm, rfl, hbld, hbe⟩ := hrel
          by_cases hlt : m < L.length
          · have hmt : (m : Int) < (t.open_.length : Int) + 1 := by have := HLN.out; omega
            obtain ⟨x0, x1, x2, x3⟩ := pgCells_get L m hlt
            obtain ⟨q, hq⟩ : ∃ q, q = L[m] := ⟨_, rfl⟩
            rw [← hq] at x0 x1 x2 x3
            have hqs : q.data.size ≤ 437 := by rw [hq]; exact HLd.out _ (List.getElem_mem hlt)
            have hcs := HCAT.out m
            have u0 := (hbe.cell (p := ⟨g, m * 4, none⟩) hgb).trans (HCL.out _ _ x0)
            have u1 := (hbe.cell (p := ⟨g, m * 4 + 1, none⟩) hgb).trans (HCL.out _ _ x1)
            have u2 := (hbe.cell (p := ⟨g, m * 4 + 2, none⟩) hgb).trans (HCL.out _ _ x2)
            have u3 := (hbe.cell (p := ⟨g, m * 4 + 3, none⟩) hgb).trans (HCL.out _ _ x3)
            have hbsz : b11 ≤ wr.heap.size := by have := hbe.size; have := HB11.out; omega
            have hnext : Lib.byteCells (catL (L.take m)) ++ Lib.strCells q.data = Lib.byteCells (catL (L.take (m + 1))) := by
              rw [catL_take L m hlt, ← hq]
              exact byteCells_app _ _
            have HBLD := Lib.hid hbld; have HBE := Lib.hid hbe; have HNX := Lib.hid hnext; have HQ := Lib.hid hq
            clear hbld hbe x0 x1 x2 x3 hnext hq
            gi_wp2
            refine ⟨trivial, (Lex.callsW (bldWrite_any b11 b11 _ q.data _ (isBuilderF_alloc HBLD.out _) (by rw [Lib.byteCells_length]; omega) (by rw [World.size_alloc]; omega))).mono ?_⟩
            rintro e w' ⟨rfl, hb', hbe'⟩
            rw [HNX.out] at hb'
            have hbe2 : Below b11 w9 w' := (HBE.out.alloc hbsz (.cells #[.string q.check, .string q.digest, .string q.data, .bool q.last] 90)).trans hbe'
            have HB' := Lib.hid hb'; have HE' := Lib.hid hbe2; clear hb' hbe2 hbe'
            gi_wp2
            go_roundw
            case rel => exact ⟨m + 1, by omega, by go_num, HB'.out, HE'.out⟩
            case measure => simp [intOf]; omega
          · have hmL : m = L.length := by omega
            have dm : decide ((m : Int) < (t.open_.length : Int) + 1) = false := by have := HLN.out; simp; omega
            rw [hmL, List.take_length] at hbld
            have HBLD := Lib.hid hbld; have HBE := Lib.hid hbe; clear hbld hbe hmL
            gi_wp2
            have hbw : b11 ≤ wr.heap.size := by have := HBE.out.size; have := HB11.out; omega
            have hbpl : bp < b11 := by have := HP9.out.lt; have := HB11.out; omega
            have hbe9 : Below w9.heap.size w9 wr := by rw [← HB11.out]; exact HBE.out
            have hOr : OpenW w d first count epoch jb (jb + 1) b9 (b9 + 1) { t with open_ := t.open_ ++ [p] } (.slice (some ⟨g, 0, none⟩) (t.open_.length + 1) cap) rv wr := HO3.out.below hbe9
            have hFr : Fr (openF jb b9 ov rv) W2 wr := HF3.out.trans (Fr.of_below (F := fun _ => False) hbe9) (fun _ hk => hk.elim)
            have hPr : At wr bp 90 #[.string p.check, .string p.digest, .string p.data, .bool p.last] := At.below HP9.out hbe9 HP9.out.lt
            have HOR := Lib.hid hOr; have HFR := Lib.hid hFr; have HPR := Lib.hid hPr
            clear hbe9 hOr hFr hPr y0 y1 y2 y3
            have hcs : (catPg L).size ≤ 9223372036854775000 := by
              have h1 := HCAT.out L.length
              rw [List.take_length] at h1
              have h2 : (catPg L).size = (catL L).length := by show (catL L).toArray.size = _; simp
              omega
            refine Lex.wpIn_region_lexN (fun k => k = bp) [3] 4 [1, 1] (by kernel_rfl) (by kernel_rfl) (by kernel_rfl) (by kernel_rfl) ?_
            simp only [Lex.wpCuts, List.take_succ_cons, List.take_zero, List.drop_succ_cons, List.drop_zero]
            go_wp2_with fail
            refine (bldString_cat b11 L _ (isBuilderF_drew HBLD.out) hbw).mono ?_
            rintro e w12 ⟨rfl, hb12, hbe12⟩
            have HB12 := Lib.hid hb12; have HE12 := Lib.hid hbe12; clear hb12 hbe12
            go_wp2_with fail
            refine Lex.Mid.intro (fun k hk hl => by subst hk; exact HE12.out.block _ hbpl) ?_
            go_wp2_with fail
            refine (sum_any (catPg L) _ hcs).mono ?_
            rintro e w13 ⟨rfl, hb13⟩
            have he13 : Below b11 wr.drew w13 := HE12.out.trans (hb13.mono (by have := HE12.out.size; exact Nat.le_trans hbw this))
            have hB13 := isBuilderF_below HB12.out hb13
            have HE13 := Lib.hid he13; have HB13 := Lib.hid hB13; clear hb13 he13 hB13
            go_wp2_with fail
            refine Lex.Mid.intro (fun k hk hl => by subst hk; exact HE13.out.block _ hbpl) ?_
            have hP13 : At w13 bp 90 #[.string p.check, .string p.digest, .string p.data, .bool p.last] := HPR.out.drew.keep (HE13.out.block _ hbpl)
            have y1 := hP13.cell 1; have y0 := hP13.cell 0
            simp only [List.getElem?_toArray, List.getElem?_cons_zero, List.getElem?_cons_succ] at y1 y0
            have HP13 := Lib.hid hP13; clear hP13
            go_wp2_with fail
            refine Lex.EndsN.intro (by kernel_rfl) ?_ ?_
            · exact ⟨⟨rfl, by show (wr.cell? ⟨bp, 1, none⟩).isSome = true; rw [HPR.out.cell 1]; rfl⟩, trivial⟩
            have hO13 : OpenW w d first count epoch jb (jb + 1) b9 (b9 + 1) { t with open_ := t.open_ ++ [p] } (.slice (some ⟨g, 0, none⟩) (t.open_.length + 1) cap) rv w13 :=
              HOR.out.keep (fun k hk => HE13.out.block k (by have := HO3.out.lt k hk; rw [HB11.out]; exact this)) ((HOR.out.old.drew).trans (HE13.out.mono (by have := HO3.out.old.size; rw [HB11.out]; exact this)))
            have hF13 : Fr (openF jb b9 ov rv) W2 w13 := by
              refine HFR.out.trans (G := fun k => b11 ≤ k) ⟨HE13.out.os, HE13.out.tape, HE13.out.output, HE13.out.size, fun k hk hn => HE13.out.block k (by omega)⟩ (fun k hk => .inr ?_)
              have := HF3.out.size
              rw [HB11.out] at hk
              omega
            have HO13 := Lib.hid hO13; have HF13 := Lib.hid hF13; clear hO13 hF13
            cases hS : ((Sha.sha (catPg L)).toList == p.digest.toList) with
            | false =>
              have hS2 : ((Sha.sha (catPg L)).toList != p.digest.toList) = true := by rw [bne, hS]; rfl
              have hstep : t.step p = none := by
                unfold OSt.step
                rw [HOFF.out, HLA.out, ← HL.out, hS]
                rfl
              have HST := Lib.hid hstep; clear hstep hS
              gi_wp2
              obtain ⟨f1, f2⟩ := openF_far HW0.out (by omega) (by omega)
              rw [hs7]
              have htot := (opens_stop hk (by rw [HRD.out]; exact HRK.out) (by rw [HRD.out]; exact HPD.out) HST.out).symm.trans HG6.out
              refine ⟨RKeep.fr HF13.out (by omega) f1 f2 (fun k hk => openF_lt HW0.out hk), .inr ⟨.exit 0, .inr ⟨0, rfl, rfl⟩, rfl, { t with open_ := t.open_ ++ [p] }, _, _, ?_, ?_, ?_, HO13.out⟩⟩
              · rw [← htot]
              · rw [← htot]
              · rw [← htot]
            | true =>
              have hS2 : ((Sha.sha (catPg L)).toList != p.digest.toList) = false := by rw [bne, hS]; rfl
              have hstep : t.step p = some ⟨[], t.recs ++ [catPg (t.open_ ++ [p])], t.next + (t.open_ ++ [p]).length, p.check⟩ := by
                unfold OSt.step
                rw [HOFF.out, HLA.out, ← HL.out, hS]
                rfl
              have HST := Lib.hid hstep; clear hstep hS
              gi_wp2
              have hsz13 : b11 ≤ w13.heap.size := by have := HE13.out.size; exact Nat.le_trans hbw this
              have p8 := HO13.out.jbox.cell 0
              have p4 := HO13.out.jour.self.cell 4
              simp only [Jour.cells, List.getElem?_toArray, List.getElem?_cons_zero, List.getElem?_cons_succ] at p8 p4
              refine Lex.wpIn_region_lexN (fun k => k = jb + 1 ∨ k = jb) [0, 1, 4] 8 [6, 2] (by kernel_rfl) (by kernel_rfl) (by kernel_rfl) (by kernel_rfl) ?_
              simp only [Lex.wpCuts, List.take_succ_cons, List.take_zero, List.drop_succ_cons, List.drop_zero]
              go_wp2_with fail
              refine (bldString_cat b11 L _ (isBuilderF_drew HB13.out) hsz13).mono ?_
              rintro e w14 ⟨rfl, _, hbe14⟩
              have hO14 : OpenW w d first count epoch jb (jb + 1) b9 (b9 + 1) { t with open_ := t.open_ ++ [p] } (.slice (some ⟨g, 0, none⟩) (t.open_.length + 1) cap) rv w14 :=
                HO13.out.keep (fun k hk => hbe14.block k (by have := HO3.out.lt k hk; rw [HB11.out]; exact this)) ((HO13.out.old.drew).trans (hbe14.mono (by have := HO3.out.old.size; rw [HB11.out]; exact this)))
              have hF14 : Fr (openF jb b9 ov rv) W2 w14 := by
                refine HF13.out.drew.trans (G := fun k => b11 ≤ k) ⟨hbe14.os, hbe14.tape, hbe14.output, hbe14.size, fun k hk hn => hbe14.block k (by omega)⟩ (fun k hk => .inr ?_)
                have := HF3.out.size
                rw [HB11.out] at hk
                omega
              have hP14 : At w14 bp 90 #[.string p.check, .string p.digest, .string p.data, .bool p.last] := HP13.out.drew.keep (hbe14.block _ hbpl)
              have HO14 := Lib.hid hO14; have HF14 := Lib.hid hF14; have HE14 := Lib.hid hbe14; have HP14 := Lib.hid hP14; clear hO14 hF14 hbe14 hP14
              go_wp2_with fail
              refine Lex.Mid.intro (fun k hk hl => HE14.out.block _ (by rcases hk with rfl | rfl <;> omega)) ?_
              obtain ⟨i1, hi, hz0, hz1, hz2⟩ := info_parts info_str
              have hrl : t.recs.length ≤ 4096 := by omega
              go_wp2_with (at_builtin; go_must (refine wpList_append_own_at _ rfl _ _ 22 rfl 0 9 i1 _ 1 16 Tryd.underlying22 hi hz0 hz1 hz2 rfl (by omega) rv t.recs.length (t.recs.map Value.string) rfl (HO14.out.jour.recs.alloc _) ⟨w14.heap.size, 0, none⟩ 1 1 [.string (catPg L)] rfl rfl ?c1 ?c2 ?c3 ?c4 ?c5 ?_))
              case c1 =>
                intro j u hj
                match j, hj with
                | 0, hj => simp at hj; subst hj; simp [Addr.add]
              case c2 => intro u hu; simp at hu; subst hu; rfl
              case c3 => unfold maxLen; omega
              case c4 => omega
              case c5 => omega
              intro v2 w15 how hg _ hb'
              have hbel : Below w14.heap.size w14 (w14.alloc (.cells #[.string (catPg L)] 9)) := (Below.refl _ _).alloc (Nat.le_refl _) _
              have hnx : t.next + (t.open_ ++ [p]).length ≤ count := by
                rw [List.length_append]
                show _ + (_ + 1) ≤ _
                omega
              obtain ⟨hOf, hFf⟩ := HO14.out.done (rs := t.recs ++ [catPg (t.open_ ++ [p])]) (nx := t.next + (t.open_ ++ [p]).length) (chk := p.check) (by omega) (by omega) (by omega) hbel hg
                (by rw [List.length_append, List.map_append, ← HL.out]; exact how) (hb'.imp id (fun h => ⟨_, h, by
                  have h1 := HF14.out.size
                  omega⟩)) (by rw [List.length_append]; show _ + 1 ≤ _; omega) hnx
              have hFf' : Fr (openF jb b9 ov rv) W2 ((((w15.setCell ⟨jb, 4, none⟩ v2).setCell ⟨jb, 5, none⟩ (.int .i64 ((t.next + (t.open_ ++ [p]).length : Nat) : Int))).setCell ⟨jb, 6, none⟩ (.string p.check)).setCell ⟨b9, 0, none⟩ (.slice none 0 0)) :=
                HF14.out.trans hFf (fun k hk => .inl (by
                  rcases hk with h | h | h | h
                  · exact .inl h
                  · exact .inr (.inl h)
                  · cases h
                  · exact .inr (.inr (.inr h))))
              obtain ⟨g2, cap2, rfl, _⟩ := own_cell how (by omega)
              have s15 := At.grown (HO14.out.jour.self.alloc (.cells #[.string (catPg L)] 9)) hg (by intro e; exact (HO14.out.jour.self.own_ne HO14.out.jour.recs (by show 84 ≠ 9; decide)) e.symm)
              have b15 := At.grown (HO14.out.jbox.alloc (.cells #[.string (catPg L)] 9)) hg (by intro e; exact (HO14.out.jbox.own_ne HO14.out.jour.recs (by decide)) e.symm)
              have o15 := At.grown (HO14.out.obox.alloc (.cells #[.string (catPg L)] 9)) hg (by intro e; exact (HO14.out.obox.own_ne HO14.out.jour.recs (by decide)) e.symm)
              have p15 := At.grown (HP14.out.alloc (.cells #[.string (catPg L)] 9)) hg (by intro e; exact (HP14.out.own_ne HO14.out.jour.recs (by decide)) e.symm)
              have k4 := s15.cell 4; have k5 := s15.cell 5; have k6 := s15.cell 6; have k8 := b15.cell 0; have k9 := o15.cell 0; have kp := p15.cell 0
              simp only [Jour.cells, List.getElem?_toArray, List.getElem?_cons_zero, List.getElem?_cons_succ] at k4 k5 k6 k8 k9 kp
              have z4 : w15.frozen? ⟨jb, 4, none⟩ = false := s15.free 4
              have z5 : w15.frozen? ⟨jb, 5, none⟩ = false := s15.free 5
              have z6 : w15.frozen? ⟨jb, 6, none⟩ = false := s15.free 6
              have zz9 : w15.frozen? ⟨b9, 0, none⟩ = false := o15.free 0
              have hsame : ∀ k, (k = jb + 1 ∨ k = jb) → w15.heap[k]? = w14.heap[k]? := by
                intro k hk
                rcases hk with rfl | rfl
                · exact b15.trans HO14.out.jbox.symm
                · exact s15.trans HO14.out.jour.self.symm
              have HSM := Lib.hid hsame; have HOF := Lib.hid hOf; have HFF := Lib.hid hFf'
              clear how hg hb' hbel hFf hOf hFf' s15 b15 o15 p15 hsame
              refine Lex.Mid.intro (fun k hk hl => (HSM.out k hk).trans (HE14.out.block _ (by rcases hk with rfl | rfl <;> omega))) ?_
              go_wp2_with fail
              refine Lex.EndsN.intro (by kernel_rfl) ?_ ?_
              · refine ⟨⟨.inl rfl, ?_⟩, ⟨.inl rfl, ?_⟩, ⟨.inr rfl, ?_⟩, trivial⟩
                · show (w13.cell? ⟨jb + 1, 0, none⟩).isSome = true; rw [p8]; rfl
                · show (w13.cell? ⟨jb + 1, 0, none⟩).isSome = true; rw [p8]; rfl
                · show (w13.cell? ⟨jb, 4, none⟩).isSome = true; rw [p4]; rfl
              gi_wp2
              refine Lex.wpIn_region_lex (by kernel_rfl) (by kernel_rfl) (by kernel_rfl) ?_
              go_wp2_with fail
              refine Lex.Ends.intro (by kernel_rfl) ?_
              gi_wp2
              have hnum : ((t.next + (t.open_ ++ [p]).length : Nat) : Int) = (t.next : Int) + ((t.open_.length : Int) + 1) := by rw [List.length_append]; simp
              have hOf := HOF.out
              have hFf := HFF.out
              rw [hnum] at hOf hFf
              obtain ⟨f1, f2⟩ := openF_far HW0.out (by omega) (by omega)
              rw [hs7]
              refine ⟨RKeep.fr hFf.drew (by omega) f1 f2 (fun k hk => openF_lt HW0.out hk), .inl ⟨rfl, ⟨_, _, _, fun h => (by cases h), hk, ?_, ?_, fun q hq => (by cases hq), ?_, ?_, hOf.keep (fun _ _ => rfl) hOf.old.drew⟩⟩⟩
              · show t.next + (t.open_ ++ [p]).length + 0 = k + 1
                rw [List.length_append]
                show _ + (_ + 1) + 0 = _
                omega
              · show (t.recs ++ [catPg (t.open_ ++ [p])]).length ≤ k + 1
                rw [List.length_append]
                show _ + 1 ≤ _
                omega
              · have := parsed_check HPD.out
                show p.check.size ≤ 1000
                omega
              · exact (opens_step hk (by rw [HRD.out]; exact HRK.out) (by rw [HRD.out]; exact HPD.out) HST.out).symm.trans HG6.out
    | cons q l =>
      have hpos : 0 < t.open_.length := by rw [hto]; show 0 < l.length + 1; omega
      obtain ⟨g0, cap0, hov, hcell⟩ := own_cell HO2.out.rows hpos
      have x1 := hcell 1 (.string q.digest) (by rw [hto]; rfl)
      have hove : (Value.slice (some ⟨g0, 0, none⟩) t.open_.length cap0) = ov := hov.symm
      have HOVE := Lib.hid hove
      rw [hov] at o9
      clear hov hove hcell
      have hpi : (0 : Int) < t.open_.length := by omega
      have hlt : t.open_.length ≤ 4096 := by omega
      cases hS : (q.digest.toList == p.digest.toList) with
      | false =>
        have hoff : offDigest t p = true := by unfold offDigest; rw [hto]; simp only [bne, hS]; rfl
        have HOFF := Lib.hid hoff; clear hoff
        have HTO := Lib.hid hto; clear hto
        gi_wp2
        refine Lex.wpIn_region_lex (by kernel_rfl) (by kernel_rfl) (by kernel_rfl) ?_
        go_wp2_with fail
        refine Lex.Ends.intro (by kernel_rfl) ?_
        gi_wp2
        have hstep : t.step p = none := by
          unfold OSt.step
          rw [HOFF.out]
          rfl
        obtain ⟨f1, f2⟩ := openF_far HW0.out (by omega) (by omega)
        rw [hs7]
        have htot := (opens_stop hk (by rw [HRD.out]; exact HRK.out) (by rw [HRD.out]; exact HPD.out) hstep).symm.trans HG6.out
        refine ⟨RKeep.fr (Fr.refl (openF jb b9 ov rv) W2).drew (by omega) f1 f2 (fun k hk => openF_lt HW0.out hk), .inr ⟨.exit 0, .inr ⟨0, rfl, rfl⟩, rfl, t, ov, rv, ?_, ?_, ?_, HO2.out.keep (fun _ _ => rfl) HO2.out.old.drew⟩⟩
        · rw [← htot]
        · rw [← htot]
        · rw [← htot]
      | true =>
        have hoff : offDigest t p = false := by unfold offDigest; rw [hto]; simp only [bne, hS]; rfl
        have HOFF := Lib.hid hoff; clear hoff
        have HTO := Lib.hid hto; clear hto
        gi_wp2
        refine Lex.wpIn_region_lex (by kernel_rfl) (by kernel_rfl) (by kernel_rfl) ?_
        go_wp2_with fail
        refine Lex.Ends.intro (by kernel_rfl) ?_
        iterate 7 gi_step
        refine Lex.wpIn_region_plain (by kernel_rfl) ?_
        clear x1 hpos hpi hlt hS
        obtain ⟨i0, hi, hz0, hz1, hz2⟩ := info_parts info_pg
        have hlen : t.open_.length ≤ 4096 := by omega
        go_wp2_with (at_builtin; go_must (refine wpList_append_own_at _ rfl _ _ 87 rfl 0 90 i0 _ 4 56 Tryd.underlying87 hi hz0 hz1 hz2 rfl (by omega) ov t.open_.length (pgCells t.open_) HOVE.out ((HO2.out.rows.drew).alloc _) ⟨W2.heap.size, 0, none⟩ 1 1 [.string p.check, .string p.digest, .string p.data, .bool p.last] rfl rfl ?c1 ?c2 ?c3 ?c4 ?c5 ?_))
        case c1 =>
          intro j u hj
          match j, hj with
          | 0, hj => simp at hj; subst hj; simp [Addr.add]
          | 1, hj => simp at hj; subst hj; simp [Addr.add]
          | 2, hj => simp at hj; subst hj; simp [Addr.add]
          | 3, hj => simp at hj; subst hj; simp [Addr.add]
        case c2 => intro u hu; simp at hu; rcases hu with rfl | rfl | rfl | rfl <;> rfl
        case c3 => unfold maxLen; omega
        case c4 => omega
        case c5 => omega
        intro v' w' how hg _ hb'
        have hbel : Below W2.heap.size W2 (W2.alloc (.cells #[.string p.check, .string p.digest, .string p.data, .bool p.last] 90)).drew := ((Below.refl W2.heap.size W2).alloc (Nat.le_refl _) _).drew
        obtain ⟨hO3, hF3⟩ := HO2.out.pushed (p := p) (by omega) (by omega) hbel hg (by rw [pgCells_snoc, List.length_append]; exact how) (hb'.imp id (fun h => ⟨_, h, by simp; omega⟩))
        obtain ⟨g, cap, rfl, hgc⟩ := own_cell how (by omega)
        have a9 : At w' b9 87 #[ov] := At.grown ((HO2.out.obox.alloc _).drew) hg (by intro e; exact (HO2.out.obox.own_ne HO2.out.rows (by decide)) e.symm)
        have q9 : w'.frozen? ⟨b9, 0, none⟩ = false := a9.free 0
        have k9 := a9.cell 0
        simp only [List.getElem?_toArray, List.getElem?_cons_zero, List.getElem?_cons_succ] at k9
        have HO3 := Lib.hid hO3; have HF3 := Lib.hid hF3; clear how hg hb' hbel hO3 hF3 a9 hgc
        go_wp2_with fail
        refine Lex.Only.intro ?_
        clear k9 q9
        have hP9 := HF3.out.at HP2.out (by
          rintro (h | h | h | h)
          · have := HW0.out.lt bp (.inl h); omega
          · have := HW0.out.lt bp (.inr (.inr (.inl h))); omega
          · have := HW0.out.lt bp (.inr (.inr (.inr (.inl h)))); omega
          · have := HW0.out.lt bp (.inr (.inr (.inr (.inr h)))); omega)
        have HP9 := Lib.hid hP9; clear hP9
        generalize w'.setCell ⟨b9, 0, none⟩ (.slice (some ⟨g, 0, none⟩) (t.open_.length + 1) cap) = w9 at *
        have y1 := HP9.out.cell 1; have y3 := HP9.out.cell 3; have y0 := HP9.out.cell 0; have y2 := HP9.out.cell 2
        simp only [List.getElem?_toArray, List.getElem?_cons_zero, List.getElem?_cons_succ] at y1 y3 y0 y2
        clear r0 r1 r2 r3 o8 o9 hi hz0 hz1 hz2
        cases hla : p.last with
        | false =>
          rw [hla] at y3
          have HLA := Lib.hid hla; clear hla
          gi_wp2
          have hstep : t.step p = some { t with open_ := t.open_ ++ [p] } := by
            unfold OSt.step
            rw [HOFF.out, HLA.out]
            rfl
          obtain ⟨f1, f2⟩ := openF_far HW0.out (by omega) (by omega)
          rw [hs7]
          refine ⟨RKeep.fr HF3.out (by omega) f1 f2 (fun k hk => openF_lt HW0.out hk), .inl ⟨rfl, ⟨_, _, _, fun h => (by cases h), hk, ?_, by show t.recs.length ≤ _; omega, ?_, ?_, ?_, HO3.out⟩⟩⟩
          · show t.next + (t.open_ ++ [p]).length = k + 1
            rw [List.length_append]
            show _ + (_ + 1) = _
            omega
          · intro q hq
            rcases List.mem_append.1 hq with hq | hq
            · exact HG4.out q hq
            · simp at hq; subst hq; exact parsed_data HPD.out
          · have := parsed_check HPD.out
            show p.check.size ≤ 1000
            omega
          · exact (opens_step hk (by rw [HRD.out]; exact HRK.out) (by rw [HRD.out]; exact HPD.out) hstep).symm.trans HG6.out
        | true =>
          rw [hla] at y3
          have HLA := Lib.hid hla; clear hla
          have z9 := HO3.out.obox.cell 0
          simp only [List.getElem?_toArray, List.getElem?_cons_zero, List.getElem?_cons_succ] at z9
          have hl9 := HO3.out.obox.lt
          gi_wp2
          obtain ⟨L, hL⟩ : ∃ L, L = t.open_ ++ [p] := ⟨_, rfl⟩
          have hLn : t.open_.length + 1 = L.length := by rw [hL, List.length_append]; rfl
          have hLd : ∀ q ∈ L, q.data.size ≤ 437 := by
            intro q hq
            rw [hL] at hq
            rcases List.mem_append.1 hq with hq | hq
            · exact HG4.out q hq
            · simp at hq; subst hq; exact parsed_data HPD.out
          have hcellL : ∀ i x, (pgCells L)[i]? = some x → w9.cell? ⟨g, i, none⟩ = some x := by
            have hr := HO3.out.rows
            rw [← hL] at hr
            obtain ⟨g', cap', hv', hc'⟩ := own_cell hr (by show 0 < L.length; omega)
            simp only [Value.slice.injEq, Option.some.injEq, Addr.mk.injEq, and_true] at hv'
            rw [hv'.1]
            exact hc'
          have hgl : g < w9.heap.size := HO3.out.lt g (by simp [Value.ownBlock])
          obtain ⟨b11, hb11⟩ : ∃ b11, b11 = w9.heap.size := ⟨_, rfl⟩
          have hB0 : Lib.IsBuilderF 94 5 b11 b11 (Lib.byteCells (catL (L.take 0))) (w9.alloc (.cells #[.pointer none, .slice none 0 0] 94)) := by rw [hb11]; exact bldNew w9
          have hb0 : Below b11 w9 (w9.alloc (.cells #[.pointer none, .slice none 0 0] 94)) := by rw [hb11]; exact (Below.refl _ _).alloc (Nat.le_refl _) _
          rw [← hb11]
          rw [hb11] at hb0
          have hgb : g < b11 := by omega
          have h9b : b9 < b11 := by omega
          have hln : L.length ≤ 4097 := by omega
          have hcat : ∀ m, (catL (L.take m)).length ≤ 437 * 4097 := by
            intro m
            have h1 := catL_len (L.take m) (fun q hq => hLd q (List.mem_of_mem_take hq))
            have h2 : (L.take m).length ≤ 4097 := by rw [List.length_take]; omega
            omega
          rw [← hb11] at hb0
          have HLd := Lib.hid hLd; have HCL := Lib.hid hcellL; have HB0 := Lib.hid hB0; have Hb0 := Lib.hid hb0; have HL := Lib.hid hL; have HLN := Lib.hid hLn; have HB11 := Lib.hid hb11; have HCAT := Lib.hid hcat
          clear hLd hcellL hB0 hb0 hL hLn hgl hb11 hcat
          generalize w9.alloc (.cells #[.pointer none, .slice none 0 0] 94) = w10 at *
          gi_loopw [83] (fun i wr => ∃ m : Nat, m ≤ L.length ∧ i = .int .i64 m ∧ Lib.IsBuilderF 94 5 b11 b11 (Lib.byteCells (catL (L.take m))) wr ∧ Below b11 w9 wr) (fun i _ => L.length - (intOf i).toNat)
          case atStart => exact ⟨0, Nat.zero_le _, rfl, HB0.out, Hb0.out⟩
          case round =>
            obtain ⟨m, hm, rfl, hbld, hbe⟩ := hrel
            by_cases hlt : m < L.length
            · have hmt : (m : Int) < (t.open_.length : Int) + 1 := by have := HLN.out; omega
              obtain ⟨x0, x1, x2, x3⟩ := pgCells_get L m hlt
              obtain ⟨q, hq⟩ : ∃ q, q = L[m] := ⟨_, rfl⟩
              rw [← hq] at x0 x1 x2 x3
              have hqs : q.data.size ≤ 437 := by rw [hq]; exact HLd.out _ (List.getElem_mem hlt)
              have hcs := HCAT.out m
              have u0 := (hbe.cell (p := ⟨g, m * 4, none⟩) hgb).trans (HCL.out _ _ x0)
              have u1 := (hbe.cell (p := ⟨g, m * 4 + 1, none⟩) hgb).trans (HCL.out _ _ x1)
              have u2 := (hbe.cell (p := ⟨g, m * 4 + 2, none⟩) hgb).trans (HCL.out _ _ x2)
              have u3 := (hbe.cell (p := ⟨g, m * 4 + 3, none⟩) hgb).trans (HCL.out _ _ x3)
              have hbsz : b11 ≤ wr.heap.size := by have := hbe.size; have := HB11.out; omega
              have hnext : Lib.byteCells (catL (L.take m)) ++ Lib.strCells q.data = Lib.byteCells (catL (L.take (m + 1))) := by
                rw [catL_take L m hlt, ← hq]
                exact byteCells_app _ _
              have HBLD := Lib.hid hbld; have HBE := Lib.hid hbe; have HNX := Lib.hid hnext; have HQ := Lib.hid hq
              clear hbld hbe x0 x1 x2 x3 hnext hq
              gi_wp2
              refine ⟨trivial, (Lex.callsW (bldWrite_any b11 b11 _ q.data _ (isBuilderF_alloc HBLD.out _) (by rw [Lib.byteCells_length]; omega) (by rw [World.size_alloc]; omega))).mono ?_⟩
              rintro e w' ⟨rfl, hb', hbe'⟩
              rw [HNX.out] at hb'
              have hbe2 : Below b11 w9 w' := (HBE.out.alloc hbsz (.cells #[.string q.check, .string q.digest, .string q.data, .bool q.last] 90)).trans hbe'
              have HB' := Lib.hid hb'; have HE' := Lib.hid hbe2; clear hb' hbe2 hbe'
              gi_wp2
              go_roundw
              case rel => exact ⟨m + 1, by omega, by go_num, HB'.out, HE'.out⟩
              case measure => simp [intOf]; omega
            · have hmL : m = L.length := by omega
              have dm : decide ((m : Int) < (t.open_.length : Int) + 1) = false := by have := HLN.out; simp; omega
              rw [hmL, List.take_length] at hbld
              have HBLD := Lib.hid hbld; have HBE := Lib.hid hbe; clear hbld hbe hmL
              gi_wp2
              have hbw : b11 ≤ wr.heap.size := by have := HBE.out.size; have := HB11.out; omega
              have hbpl : bp < b11 := by have := HP9.out.lt; have := HB11.out; omega
              have hbe9 : Below w9.heap.size w9 wr := by rw [← HB11.out]; exact HBE.out
              have hOr : OpenW w d first count epoch jb (jb + 1) b9 (b9 + 1) { t with open_ := t.open_ ++ [p] } (.slice (some ⟨g, 0, none⟩) (t.open_.length + 1) cap) rv wr := HO3.out.below hbe9
              have hFr : Fr (openF jb b9 ov rv) W2 wr := HF3.out.trans (Fr.of_below (F := fun _ => False) hbe9) (fun _ hk => hk.elim)
              have hPr : At wr bp 90 #[.string p.check, .string p.digest, .string p.data, .bool p.last] := At.below HP9.out hbe9 HP9.out.lt
              have HOR := Lib.hid hOr; have HFR := Lib.hid hFr; have HPR := Lib.hid hPr
              clear hbe9 hOr hFr hPr y0 y1 y2 y3
              have hcs : (catPg L).size ≤ 9223372036854775000 := by
                have h1 := HCAT.out L.length
                rw [List.take_length] at h1
                have h2 : (catPg L).size = (catL L).length := by show (catL L).toArray.size = _; simp
                omega
              refine Lex.wpIn_region_lexN (fun k => k = bp) [3] 4 [1, 1] (by kernel_rfl) (by kernel_rfl) (by kernel_rfl) (by kernel_rfl) ?_
              simp only [Lex.wpCuts, List.take_succ_cons, List.take_zero, List.drop_succ_cons, List.drop_zero]
              go_wp2_with fail
              refine (bldString_cat b11 L _ (isBuilderF_drew HBLD.out) hbw).mono ?_
              rintro e w12 ⟨rfl, hb12, hbe12⟩
              have HB12 := Lib.hid hb12; have HE12 := Lib.hid hbe12; clear hb12 hbe12
              go_wp2_with fail
              refine Lex.Mid.intro (fun k hk hl => by subst hk; exact HE12.out.block _ hbpl) ?_
              go_wp2_with fail
              refine (sum_any (catPg L) _ hcs).mono ?_
              rintro e w13 ⟨rfl, hb13⟩
              have he13 : Below b11 wr.drew w13 := HE12.out.trans (hb13.mono (by have := HE12.out.size; exact Nat.le_trans hbw this))
              have hB13 := isBuilderF_below HB12.out hb13
              have HE13 := Lib.hid he13; have HB13 := Lib.hid hB13; clear hb13 he13 hB13
              go_wp2_with fail
              refine Lex.Mid.intro (fun k hk hl => by subst hk; exact HE13.out.block _ hbpl) ?_
              have hP13 : At w13 bp 90 #[.string p.check, .string p.digest, .string p.data, .bool p.last] := HPR.out.drew.keep (HE13.out.block _ hbpl)
              have y1 := hP13.cell 1; have y0 := hP13.cell 0
              simp only [List.getElem?_toArray, List.getElem?_cons_zero, List.getElem?_cons_succ] at y1 y0
              have HP13 := Lib.hid hP13; clear hP13
              go_wp2_with fail
              refine Lex.EndsN.intro (by kernel_rfl) ?_ ?_
              · exact ⟨⟨rfl, by show (wr.cell? ⟨bp, 1, none⟩).isSome = true; rw [HPR.out.cell 1]; rfl⟩, trivial⟩
              have hO13 : OpenW w d first count epoch jb (jb + 1) b9 (b9 + 1) { t with open_ := t.open_ ++ [p] } (.slice (some ⟨g, 0, none⟩) (t.open_.length + 1) cap) rv w13 :=
                HOR.out.keep (fun k hk => HE13.out.block k (by have := HO3.out.lt k hk; rw [HB11.out]; exact this)) ((HOR.out.old.drew).trans (HE13.out.mono (by have := HO3.out.old.size; rw [HB11.out]; exact this)))
              have hF13 : Fr (openF jb b9 ov rv) W2 w13 := by
                refine HFR.out.trans (G := fun k => b11 ≤ k) ⟨HE13.out.os, HE13.out.tape, HE13.out.output, HE13.out.size, fun k hk hn => HE13.out.block k (by omega)⟩ (fun k hk => .inr ?_)
                have := HF3.out.size
                rw [HB11.out] at hk
                omega
              have HO13 := Lib.hid hO13; have HF13 := Lib.hid hF13; clear hO13 hF13
              cases hS : ((Sha.sha (catPg L)).toList == p.digest.toList) with
              | false =>
                have hS2 : ((Sha.sha (catPg L)).toList != p.digest.toList) = true := by rw [bne, hS]; rfl
                have hstep : t.step p = none := by
                  unfold OSt.step
                  rw [HOFF.out, HLA.out, ← HL.out, hS]
                  rfl
                have HST := Lib.hid hstep; clear hstep hS
                gi_wp2
                obtain ⟨f1, f2⟩ := openF_far HW0.out (by omega) (by omega)
                rw [hs7]
                have htot := (opens_stop hk (by rw [HRD.out]; exact HRK.out) (by rw [HRD.out]; exact HPD.out) HST.out).symm.trans HG6.out
                refine ⟨RKeep.fr HF13.out (by omega) f1 f2 (fun k hk => openF_lt HW0.out hk), .inr ⟨.exit 0, .inr ⟨0, rfl, rfl⟩, rfl, { t with open_ := t.open_ ++ [p] }, _, _, ?_, ?_, ?_, HO13.out⟩⟩
                · rw [← htot]
                · rw [← htot]
                · rw [← htot]
              | true =>
                have hS2 : ((Sha.sha (catPg L)).toList != p.digest.toList) = false := by rw [bne, hS]; rfl
                have hstep : t.step p = some ⟨[], t.recs ++ [catPg (t.open_ ++ [p])], t.next + (t.open_ ++ [p]).length, p.check⟩ := by
                  unfold OSt.step
                  rw [HOFF.out, HLA.out, ← HL.out, hS]
                  rfl
                have HST := Lib.hid hstep; clear hstep hS
                gi_wp2
                have hsz13 : b11 ≤ w13.heap.size := by have := HE13.out.size; exact Nat.le_trans hbw this
                have p8 := HO13.out.jbox.cell 0
                have p4 := HO13.out.jour.self.cell 4
                simp only [Jour.cells, List.getElem?_toArray, List.getElem?_cons_zero, List.getElem?_cons_succ] at p8 p4
                refine Lex.wpIn_region_lexN (fun k => k = jb + 1 ∨ k = jb) [0, 1, 4] 8 [6, 2] (by kernel_rfl) (by kernel_rfl) (by kernel_rfl) (by kernel_rfl) ?_
                simp only [Lex.wpCuts, List.take_succ_cons, List.take_zero, List.drop_succ_cons, List.drop_zero]
                go_wp2_with fail
                refine (bldString_cat b11 L _ (isBuilderF_drew HB13.out) hsz13).mono ?_
                rintro e w14 ⟨rfl, _, hbe14⟩
                have hO14 : OpenW w d first count epoch jb (jb + 1) b9 (b9 + 1) { t with open_ := t.open_ ++ [p] } (.slice (some ⟨g, 0, none⟩) (t.open_.length + 1) cap) rv w14 :=
                  HO13.out.keep (fun k hk => hbe14.block k (by have := HO3.out.lt k hk; rw [HB11.out]; exact this)) ((HO13.out.old.drew).trans (hbe14.mono (by have := HO3.out.old.size; rw [HB11.out]; exact this)))
                have hF14 : Fr (openF jb b9 ov rv) W2 w14 := by
                  refine HF13.out.drew.trans (G := fun k => b11 ≤ k) ⟨hbe14.os, hbe14.tape, hbe14.output, hbe14.size, fun k hk hn => hbe14.block k (by omega)⟩ (fun k hk => .inr ?_)
                  have := HF3.out.size
                  rw [HB11.out] at hk
                  omega
                have hP14 : At w14 bp 90 #[.string p.check, .string p.digest, .string p.data, .bool p.last] := HP13.out.drew.keep (hbe14.block _ hbpl)
                have HO14 := Lib.hid hO14; have HF14 := Lib.hid hF14; have HE14 := Lib.hid hbe14; have HP14 := Lib.hid hP14; clear hO14 hF14 hbe14 hP14
                go_wp2_with fail
                refine Lex.Mid.intro (fun k hk hl => HE14.out.block _ (by rcases hk with rfl | rfl <;> omega)) ?_
                obtain ⟨i1, hi, hz0, hz1, hz2⟩ := info_parts info_str
                have hrl : t.recs.length ≤ 4096 := by omega
                go_wp2_with (at_builtin; go_must (refine wpList_append_own_at _ rfl _ _ 22 rfl 0 9 i1 _ 1 16 Tryd.underlying22 hi hz0 hz1 hz2 rfl (by omega) rv t.recs.length (t.recs.map Value.string) rfl (HO14.out.jour.recs.alloc _) ⟨w14.heap.size, 0, none⟩ 1 1 [.string (catPg L)] rfl rfl ?c1 ?c2 ?c3 ?c4 ?c5 ?_))
                case c1 =>
                  intro j u hj
                  match j, hj with
                  | 0, hj => simp at hj; subst hj; simp [Addr.add]
                case c2 => intro u hu; simp at hu; subst hu; rfl
                case c3 => unfold maxLen; omega
                case c4 => omega
                case c5 => omega
                intro v2 w15 how hg _ hb'
                have hbel : Below w14.heap.size w14 (w14.alloc (.cells #[.string (catPg L)] 9)) := (Below.refl _ _).alloc (Nat.le_refl _) _
                have hnx : t.next + (t.open_ ++ [p]).length ≤ count := by
                  rw [List.length_append]
                  show _ + (_ + 1) ≤ _
                  omega
                obtain ⟨hOf, hFf⟩ := HO14.out.done (rs := t.recs ++ [catPg (t.open_ ++ [p])]) (nx := t.next + (t.open_ ++ [p]).length) (chk := p.check) (by omega) (by omega) (by omega) hbel hg
                  (by rw [List.length_append, List.map_append, ← HL.out]; exact how) (hb'.imp id (fun h => ⟨_, h, by
                    have h1 := HF14.out.size
                    omega⟩)) (by rw [List.length_append]; show _ + 1 ≤ _; omega) hnx
                have hFf' : Fr (openF jb b9 ov rv) W2 ((((w15.setCell ⟨jb, 4, none⟩ v2).setCell ⟨jb, 5, none⟩ (.int .i64 ((t.next + (t.open_ ++ [p]).length : Nat) : Int))).setCell ⟨jb, 6, none⟩ (.string p.check)).setCell ⟨b9, 0, none⟩ (.slice none 0 0)) :=
                  HF14.out.trans hFf (fun k hk => .inl (by
                    rcases hk with h | h | h | h
                    · exact .inl h
                    · exact .inr (.inl h)
                    · cases h
                    · exact .inr (.inr (.inr h))))
                obtain ⟨g2, cap2, rfl, _⟩ := own_cell how (by omega)
                have s15 := At.grown (HO14.out.jour.self.alloc (.cells #[.string (catPg L)] 9)) hg (by intro e; exact (HO14.out.jour.self.own_ne HO14.out.jour.recs (by show 84 ≠ 9; decide)) e.symm)
                have b15 := At.grown (HO14.out.jbox.alloc (.cells #[.string (catPg L)] 9)) hg (by intro e; exact (HO14.out.jbox.own_ne HO14.out.jour.recs (by decide)) e.symm)
                have o15 := At.grown (HO14.out.obox.alloc (.cells #[.string (catPg L)] 9)) hg (by intro e; exact (HO14.out.obox.own_ne HO14.out.jour.recs (by decide)) e.symm)
                have p15 := At.grown (HP14.out.alloc (.cells #[.string (catPg L)] 9)) hg (by intro e; exact (HP14.out.own_ne HO14.out.jour.recs (by decide)) e.symm)
                have k4 := s15.cell 4; have k5 := s15.cell 5; have k6 := s15.cell 6; have k8 := b15.cell 0; have k9 := o15.cell 0; have kp := p15.cell 0
                simp only [Jour.cells, List.getElem?_toArray, List.getElem?_cons_zero, List.getElem?_cons_succ] at k4 k5 k6 k8 k9 kp
                have z4 : w15.frozen? ⟨jb, 4, none⟩ = false := s15.free 4
                have z5 : w15.frozen? ⟨jb, 5, none⟩ = false := s15.free 5
                have z6 : w15.frozen? ⟨jb, 6, none⟩ = false := s15.free 6
                have zz9 : w15.frozen? ⟨b9, 0, none⟩ = false := o15.free 0
                have hsame : ∀ k, (k = jb + 1 ∨ k = jb) → w15.heap[k]? = w14.heap[k]? := by
                  intro k hk
                  rcases hk with rfl | rfl
                  · exact b15.trans HO14.out.jbox.symm
                  · exact s15.trans HO14.out.jour.self.symm
                have HSM := Lib.hid hsame; have HOF := Lib.hid hOf; have HFF := Lib.hid hFf'
                clear how hg hb' hbel hFf hOf hFf' s15 b15 o15 p15 hsame
                refine Lex.Mid.intro (fun k hk hl => (HSM.out k hk).trans (HE14.out.block _ (by rcases hk with rfl | rfl <;> omega))) ?_
                go_wp2_with fail
                refine Lex.EndsN.intro (by kernel_rfl) ?_ ?_
                · refine ⟨⟨.inl rfl, ?_⟩, ⟨.inl rfl, ?_⟩, ⟨.inr rfl, ?_⟩, trivial⟩
                  · show (w13.cell? ⟨jb + 1, 0, none⟩).isSome = true; rw [p8]; rfl
                  · show (w13.cell? ⟨jb + 1, 0, none⟩).isSome = true; rw [p8]; rfl
                  · show (w13.cell? ⟨jb, 4, none⟩).isSome = true; rw [p4]; rfl
                gi_wp2
                refine Lex.wpIn_region_lex (by kernel_rfl) (by kernel_rfl) (by kernel_rfl) ?_
                go_wp2_with fail
                refine Lex.Ends.intro (by kernel_rfl) ?_
                gi_wp2
                have hnum : ((t.next + (t.open_ ++ [p]).length : Nat) : Int) = (t.next : Int) + ((t.open_.length : Int) + 1) := by rw [List.length_append]; simp
                have hOf := HOF.out
                have hFf := HFF.out
                rw [hnum] at hOf hFf
                obtain ⟨f1, f2⟩ := openF_far HW0.out (by omega) (by omega)
                rw [hs7]
                refine ⟨RKeep.fr hFf.drew (by omega) f1 f2 (fun k hk => openF_lt HW0.out hk), .inl ⟨rfl, ⟨_, _, _, fun h => (by cases h), hk, ?_, ?_, fun q hq => (by cases hq), ?_, ?_, hOf.keep (fun _ _ => rfl) hOf.old.drew⟩⟩⟩
                · show t.next + (t.open_ ++ [p]).length + 0 = k + 1
                  rw [List.length_append]
                  show _ + (_ + 1) + 0 = _
                  omega
                · show (t.recs ++ [catPg (t.open_ ++ [p])]).length ≤ k + 1
                  rw [List.length_append]
                  show _ + 1 ≤ _
                  omega
                · have := parsed_check HPD.out
                  show p.check.size ≤ 1000
                  omega
                · exact (opens_step hk (by rw [HRD.out]; exact HRK.out) (by rw [HRD.out]; exact HPD.out) HST.out).symm.trans HG6.out
  case hdone =>
    rintro ⟨k, ch⟩ W hdn ⟨t, ov, rv, g0, g1, g2, g3, g4, g5, g6, hW⟩ hD
    have htot : opened epoch count rd = t := by
      rw [← g6]
      refine opens_end ?_
      rcases hdn with h | ⟨h, hh⟩
      · exact .inl h
      · exact .inr ⟨h, by rw [HRD.out]; exact hh⟩
    have HT := Lib.hid htot; clear htot g0 g4 g6 hdn
    have e8 := hW.jbox.cell 0
    simp only [List.getElem?_toArray, List.getElem?_cons_zero, List.getElem?_cons_succ] at e8
    have HW := Lib.hid hW; have HDD := Lib.hid hD; clear hW hD
    gi_wp2
    simp only [hs7] at HDD ⊢
    refine ⟨by simp, .inl ⟨_, _, rfl, run_takeDeferred HDD.out, ?_⟩⟩
    refine ⟨.tuple #[.pointer (some ⟨jb, 0, none⟩), .int .i64 0], (results_tmp2 (fn := Tryd.f18) (t := 6) (u := 7) rfl _ _ _).trans rfl, ?_⟩
    have hput : ∀ (o : Obj) k, k ≠ b9 + 1 → (W.putObj (b9 + 1) o).heap[k]? = W.heap[k]? := fun o k hk => World.putObj_heap_other hk
    have hfoot : ∀ k, (⟨jb, d.a, first, count, epoch, rv, t.recs, t.next, t.jch⟩ : Jour).foot k → k = jb ∨ b9 + 1 + 1 < k := by
      intro k hk
      rcases hk with h | h
      · exact .inl h
      · exact .inr (HW.out.hrv k h)
    refine ⟨⟨jb, d.a, first, count, epoch, rv, t.recs, t.next, t.jch⟩, rfl, HW.out.jour.keep (fun k hk => hput _ k (by have := hfoot k hk; omega)), rfl, rfl, rfl, rfl, (by rw [HT.out]), (by rw [HT.out]), (by rw [HT.out]), fun k hk => by have := hfoot k hk; omega, ?_⟩
    exact HW.out.old.trans ⟨rfl, rfl, rfl, by simp [World.putObj], fun k hk => hput _ k (by omega)⟩
  case hstop =>
    rintro c0 W ⟨rfl, t, ov, rv, g1, g2, g3, hW⟩ hD
    have HG1 := Lib.hid g1; have HG2 := Lib.hid g2; have HG3 := Lib.hid g3; clear g1 g2 g3
    have e8 := hW.jbox.cell 0
    simp only [List.getElem?_toArray, List.getElem?_cons_zero, List.getElem?_cons_succ] at e8
    have HW := Lib.hid hW; have HDD := Lib.hid hD; clear hW hD
    gi_wp2
    simp only [hs7] at HDD ⊢
    refine ⟨by simp, .inl ⟨_, _, rfl, run_takeDeferred HDD.out, ?_⟩⟩
    refine ⟨.tuple #[.pointer (some ⟨jb, 0, none⟩), .int .i64 0], (results_tmp2 (fn := Tryd.f18) (t := 6) (u := 7) rfl _ _ _).trans rfl, ?_⟩
    have hput : ∀ (o : Obj) k, k ≠ b9 + 1 → (W.putObj (b9 + 1) o).heap[k]? = W.heap[k]? := fun o k hk => World.putObj_heap_other hk
    have hfoot : ∀ k, (⟨jb, d.a, first, count, epoch, rv, t.recs, t.next, t.jch⟩ : Jour).foot k → k = jb ∨ b9 + 1 + 1 < k := by
      intro k hk
      rcases hk with h | h
      · exact .inl h
      · exact .inr (HW.out.hrv k h)
    refine ⟨⟨jb, d.a, first, count, epoch, rv, t.recs, t.next, t.jch⟩, rfl, HW.out.jour.keep (fun k hk => hput _ k (by have := hfoot k hk; omega)), rfl, rfl, rfl, rfl, HG1.out.symm, HG2.out.symm, HG3.out.symm, fun k hk => by have := hfoot k hk; omega, ?_⟩
    exact HW.out.old.trans ⟨rfl, rfl, rfl, by simp [World.putObj], fun k hk => hput _ k (by omega)⟩
end Go.Proofs.YtfgjjdjaiddllaaDoor
