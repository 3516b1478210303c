/- The reference's journal: ValidRegion, Free. Conditions: those of each law. -/
import Derived.Test.YtfgjjdjaiddllaaDoorRefF
import Derived.Test.YtfgjjdjaiddllaaDoorJourG
import Derived.Deep.DeepCutAuto
namespace Go.Proofs.YtfgjjdjaiddllaaDoor
set_option linter.unusedVariables false
set_option linter.unusedSimpArgs false
open Go Go.RowKit Go.Maps
def okRegion (N : Nat) (f n : Int) : Prop := 0 ≤ f ∧ 1 ≤ n ∧ f + n ≤ N
instance (N : Nat) (f n : Int) : Decidable (okRegion N f n) := inferInstanceAs (Decidable (_ ∧ _ ∧ _))
set_option maxRecDepth 100000 in
set_option maxHeartbeats 1000000 in
theorem rValid_any (a : Option Addr) (N cp : Nat) (pv : Value) (f n : Int) (w : World) (hN : N ≤ 1000000) :
    Calls Tryd.prog 50 #[.agg #[.slice a N cp, pv], .agg #[.int .i64 f, .int .i64 n]] w fun e w' => e = .returned (.bool (decide (okRegion N f n))) ∧ Below w.heap.size w w' := by
  have hb : Below w.heap.size w ((w.alloc (.cells #[.slice a N cp, pv] 29)).alloc (.cells #[.int .i64 f, .int .i64 n] 24)) := ((Below.refl _ _).alloc (Nat.le_refl _) _).alloc (by simp) _
  have HB := Lib.hid hb; clear hb
  obtain ⟨r, hr⟩ : ∃ r, r = decide (okRegion N f n) := ⟨_, rfl⟩
  rw [← hr]
  go_enter Tryd.func50, Tryd.ntmps50
  by_cases h1 : 0 ≤ f
  · have d1 : decide (0 ≤ f) = true := by simp; omega
    by_cases h2 : f < N
    · have d2 : decide (f < (N : Int)) = true := by simp; omega
      by_cases h3 : 1 ≤ n
      · have d3 : decide (1 ≤ n) = true := by simp; omega
        by_cases h4 : n ≤ (N : Int) - f
        · have d4 : decide (n ≤ (N : Int) - f) = true := by simp; omega
          rw [decide_eq_true (show okRegion N f n from ⟨by omega, by omega, by omega⟩)] at hr
          subst hr
          go_wp2_with fail
          go_ret
          exact ⟨rfl, HB.out⟩
        · have d4 : decide (n ≤ (N : Int) - f) = false := by simp; omega
          rw [decide_eq_false (show ¬ okRegion N f n from fun hh => by obtain ⟨q1, q2, q3⟩ := hh; omega)] at hr
          subst hr
          go_wp2_with fail
          go_ret
          exact ⟨rfl, HB.out⟩
      · have d3 : decide (1 ≤ n) = false := by simp; omega
        rw [decide_eq_false (show ¬ okRegion N f n from fun hh => by obtain ⟨q1, q2, q3⟩ := hh; omega)] at hr
        subst hr
        go_wp2_with fail
        go_ret
        exact ⟨rfl, HB.out⟩
    · have d2 : decide (f < (N : Int)) = false := by simp; omega
      rw [decide_eq_false (show ¬ okRegion N f n from fun hh => by obtain ⟨q1, q2, q3⟩ := hh; omega)] at hr
      subst hr
      go_wp2_with fail
      go_ret
      exact ⟨rfl, HB.out⟩
  · have d1 : decide (0 ≤ f) = false := by simp; omega
    rw [decide_eq_false (show ¬ okRegion N f n from fun hh => by obtain ⟨q1, q2, q3⟩ := hh; omega)] at hr
    subst hr
    go_wp2_with fail
    go_ret
    exact ⟨rfl, HB.out⟩
/-- A journal of the reference. -/
def rJourV (f n e next : Int) (chain : ByteArray) (rv : Value) : Array Value := #[.int .i64 f, .int .i64 n, .int .i64 e, .int .i64 next, .string chain, rv]
set_option maxRecDepth 100000 in
theorem rFree_any (f n e next : Int) (chain : ByteArray) (rv : Value) (w : World) (hn : 0 ≤ n ∧ n ≤ 1000000) (hx : 0 ≤ next ∧ next ≤ 1000000) :
    Calls Tryd.prog 28 #[.agg (rJourV f n e next chain rv)] w fun e w' => e = .returned (.int .i64 (n - next)) ∧ Below w.heap.size w w' := by
  have hb : Below w.heap.size w (w.alloc (.cells (rJourV f n e next chain rv) 38)) := (Below.refl _ _).alloc (Nat.le_refl _) _
  have HB := Lib.hid hb; clear hb
  unfold rJourV
  go_enter Tryd.func28, Tryd.ntmps28
  go_wp2_with fail
  go_ret
  exact ⟨rfl, HB.out⟩
/-- A struct of six cells, stored cell by cell. -/
def put6 (w : World) (b : Nat) (v0 v1 v2 v3 v4 v5 : Value) : World := (((((w.setCell ⟨b, 0, none⟩ v0).setCell ⟨b, 1, none⟩ v1).setCell ⟨b, 2, none⟩ v2).setCell ⟨b, 3, none⟩ v3).setCell ⟨b, 4, none⟩ v4).setCell ⟨b, 5, none⟩ v5
theorem At.put6 {w : World} {b : Nat} {t : TypeId} {a0 a1 a2 a3 a4 a5 : Value} (h : At w b t #[a0, a1, a2, a3, a4, a5]) (v0 v1 v2 v3 v4 v5 : Value) : At (put6 w b v0 v1 v2 v3 v4 v5) b t #[v0, v1, v2, v3, v4, v5] :=
  (((((h.set 0 v0).set 1 v1).set 2 v2).set 3 v3).set 4 v4).set 5 v5
theorem below6 {B b : Nat} {w0 w : World} (h : Below B w0 w) (hb : B ≤ b) (v0 v1 v2 v3 v4 v5 : Value) : Below B w0 (put6 w b v0 v1 v2 v3 v4 v5) :=
  (((((h.setCell (p := ⟨b, 0, none⟩) hb v0).setCell (p := ⟨b, 1, none⟩) hb v1).setCell (p := ⟨b, 2, none⟩) hb v2).setCell (p := ⟨b, 3, none⟩) hb v3).setCell (p := ⟨b, 4, none⟩) hb v4).setCell (p := ⟨b, 5, none⟩) hb v5
theorem put6_far {w : World} {b k : Nat} (h : k ≠ b) (v0 v1 v2 v3 v4 v5 : Value) : (put6 w b v0 v1 v2 v3 v4 v5).heap[k]? = w.heap[k]? := by
  unfold put6
  rw [heap_setCell_other _ _ _ _ h, heap_setCell_other _ _ _ _ h, heap_setCell_other _ _ _ _ h, heap_setCell_other _ _ _ _ h, heap_setCell_other _ _ _ _ h, heap_setCell_other _ _ _ _ h]
/-- The reference's Open in its loop. -/
structure OpR (w0 wc : World) (ds : Array Value) (F N E jb : Nat) (next : Nat) (jch : ByteArray) (recs : List ByteArray) (rv : Value) (wr : World) : Prop where
  b0 : At wr w0.heap.size 29 ds
  b1 : At wr (w0.heap.size + 1) 24 #[.int .i64 F, .int .i64 N]
  b2 : At wr (w0.heap.size + 1 + 1) 38 #[.int .i64 0, .int .i64 0, .int .i64 0, .int .i64 0, .string ⟨#[]⟩, .slice none 0 0]
  jo : At wr jb 38 (rJourV F N E next jch rv)
  rows : wr.ownsRow wc.heap.size 9 1 rv recs.length (recs.map Value.string)
  below : Below w0.heap.size w0 wr
  size : wc.heap.size ≤ wr.heap.size
theorem OpR.under {w0 wc wr wr' : World} {ds : Array Value} {F N E jb next : Nat} {jch : ByteArray} {recs : List ByteArray} {rv : Value} (h : OpR w0 wc ds F N E jb next jch recs rv wr) (hb : Below wr.heap.size wr wr') : OpR w0 wc ds F N E jb next jch recs rv wr' :=
  ⟨h.b0.below hb h.b0.lt, h.b1.below hb h.b1.lt, h.b2.below hb h.b2.lt, h.jo.below hb h.jo.lt, own_keep h.rows (fun k hk => hb.block k (by obtain ⟨cur, hc⟩ := own_at h.rows hk; exact hc.lt)), h.below.trans (hb.mono h.below.size), Nat.le_trans h.size hb.size⟩
theorem info_rJournal : (Tryd.prog.info? 38).map (·.size) = some 6 := by kernel_rfl
theorem own_slice {w : World} {base n size : Nat} {e : TypeId} {v : Value} {xs : List Value} (h : w.ownsRow base e size v n xs) : ∃ a m c, v = .slice a m c := by
  obtain ⟨_, ⟨rfl, _⟩ | ⟨g, cap, cur, rfl, _⟩⟩ := h
  · exact ⟨_, _, _, rfl⟩
  · exact ⟨_, _, _, rfl⟩
theorem own_up {w : World} {base n size : Nat} {e : TypeId} {v : Value} {xs : List Value} (h : w.ownsRow base e size v n xs) : ∀ k, v.ownBlock = some k → base ≤ k := by
  intro k hk
  obtain ⟨_, ⟨rfl, _⟩ | ⟨g, cap, cur, rfl, hg, _⟩⟩ := h
  · cases hk
  · have : g = k := by
      have hk' : some g = some k := hk
      simpa using hk'
    omega
theorem step_off {s : OSt} {p : Pg} (h : offDigest s p = true) : s.step p = none := by
  unfold OSt.step
  rw [if_pos h]
theorem step_more {s : OSt} {p : Pg} (h : offDigest s p = false) (hl : p.last = false) : s.step p = some { s with open_ := s.open_ ++ [p] } := by
  unfold OSt.step
  rw [h, hl]
  rfl
theorem step_last {s : OSt} {p : Pg} (h : offDigest s p = false) (hl : p.last = true) : s.step p = if (Sha.sha (catPg (s.open_ ++ [p]))).toList == p.digest.toList then some ⟨[], s.recs ++ [catPg (s.open_ ++ [p])], s.next + (s.open_ ++ [p]).length, p.check⟩ else none := by
  unfold OSt.step
  rw [h, hl]
  rfl
theorem OpR.pushed {w0 wc w8 wa w9 : World} {ds : Array Value} {F N E jb next : Nat} {jch : ByteArray} {recs : List ByteArray} {rv v2 : Value} {x : ByteArray} (h : OpR w0 wc ds F N E jb next jch recs rv w8) (hb : Below w8.heap.size w8 wa) (hg : wa.grownBy w9 rv.ownBlock)
    (how : w9.ownsRow wc.heap.size 9 1 v2 (recs.length + 1) (recs.map Value.string ++ [.string x])) (hjb : jb < wc.heap.size) (hG : w0.heap.size + 3 ≤ jb) (next' : Nat) (jch' : ByteArray) :
    OpR w0 wc ds F N E jb next' jch' (recs ++ [x]) v2 (((w9.setCell ⟨jb, 5, none⟩ v2).setCell ⟨jb, 3, none⟩ (.int .i64 next')).setCell ⟨jb, 4, none⟩ (.string jch')) := by
  have hne : ∀ k, rv.ownBlock = some k → wc.heap.size ≤ k := own_up h.rows
  have hf : Fr (fun k => rv.ownBlock = some k) w8 w9 := (Fr.of_below hb).grown hg (fun k hk => .inl hk)
  have hk : ∀ {b : Nat} {t : TypeId} {cs : Array Value}, At w8 b t cs → b < wc.heap.size → At w9 b t cs := fun hat hlt => hf.at hat (fun e => by have := hne _ e; omega)
  have hfar : ∀ {b : Nat} {t : TypeId} {cs : Array Value}, At w9 b t cs → b ≠ jb → At (((w9.setCell ⟨jb, 5, none⟩ v2).setCell ⟨jb, 3, none⟩ (.int .i64 next')).setCell ⟨jb, 4, none⟩ (.string jch')) b t cs := fun hat hn => ((hat.far (p := ⟨jb, 5, none⟩) hn _).far (p := ⟨jb, 3, none⟩) hn _).far (p := ⟨jb, 4, none⟩) hn _
  refine ⟨hfar (hk h.b0 (by omega)) (by omega), hfar (hk h.b1 (by omega)) (by omega), hfar (hk h.b2 (by omega)) (by omega), (((hk h.jo hjb).set 5 v2).set 3 _).set 4 _, ?_, ?_, ?_⟩
  · rw [List.length_append, List.map_append]
    refine own_keep how (fun k hk => ?_)
    have hk2 := own_up how k hk
    have hn : k ≠ jb := by omega
    rw [heap_setCell_other _ _ _ _ hn, heap_setCell_other _ _ _ _ hn, heap_setCell_other _ _ _ _ hn]
  · exact (((h.below.trans (hf.below h.below.size (fun k hk => by have := hne k hk; omega))).setCell (p := ⟨jb, 5, none⟩) (by show _ ≤ jb; omega) _).setCell (p := ⟨jb, 3, none⟩) (by show _ ≤ jb; omega) _).setCell (p := ⟨jb, 4, none⟩) (by show _ ≤ jb; omega) _
  · have := h.size
    have := hf.size
    simp
    omega
theorem parsed_check32 {e : Nat} {s ch : ByteArray} {p : Pg} (h : parsed e s ch = some p) : p.check.size = 32 := by
  unfold parsed at h
  split at h
  · rename_i hh
    cases h
    have hz : s.size = 512 := by
      simp only [headOK, Bool.and_eq_true, beq_iff_eq] at hh
      exact hh.1.1.1
    show (s.extract 0 32).size = 32
    rw [ByteArray.size_extract]
    omega
  · cases h
theorem parsed_more {e : Nat} {s ch : ByteArray} {p : Pg} (h : parsed e s ch = some p) (hl : p.last = false) : p.data.size = 437 := by
  unfold parsed at h
  split at h
  · rename_i hh
    cases h
    have hz : s.size = 512 := by
      simp only [headOK, Bool.and_eq_true, beq_iff_eq] at hh
      exact hh.1.1.1
    have hb : byteAt s 40 ≠ 1 := by simpa using hl
    simp only [bodyOK, Bool.and_eq_true, decide_eq_true_eq, Bool.not_eq_true', Bool.and_eq_false_iff, Bool.not_eq_false', decide_eq_false_iff_not] at hh
    have h1 := hh.2.1.1.1
    have h3 := hh.2.1.2
    have hp : pageLen s = 437 := by
      rcases h3 with h3 | h3
      · omega
      · exact h3
    show (s.extract 75 (75 + pageLen s)).size = 437
    rw [ByteArray.size_extract, hp]
    omega
  · cases h
theorem catPg_snoc (l : List Pg) (p : Pg) : catPg (l ++ [p]) = catPg l ++ p.data := by
  apply Sha.ba_ext
  rw [Sha.app_list]
  unfold catPg catL
  simp
theorem catPg_size (l : List Pg) (h : ∀ q ∈ l, q.data.size = 437) : (catPg l).size = 437 * l.length := by
  rw [← Sha.len_list]
  show (catL l).length = _
  induction l with
  | nil => rfl
  | cons q l ih =>
    have h1 := ih (fun x hx => h x (List.mem_cons_of_mem _ hx))
    have h2 := h q List.mem_cons_self
    have e : catL (q :: l) = q.data.data.toList ++ catL l := rfl
    have h3 : q.data.data.toList.length = q.data.size := Array.length_toList
    rw [e, List.length_append, List.length_cons, h3, h2, h1]
    omega
theorem open_done {tmps : Array Value} {w : World} {b : Nat} {v0 v1 v2 v3 v4 v5 : Value} {Q : Ending → World → Prop} (hp : tmps.getD 6 undef = .pointer (some ⟨b, 0, none⟩)) (h7 : tmps.getD 7 undef = .int .i64 0) (hat : At w b 38 #[v0, v1, v2, v3, v4, v5])
    (hq : Q (.returned (.tuple #[.agg #[v0, v1, v2, v3, v4, v5], .int .i64 0])) w) : bodyPost Tryd.prog Tryd.f34 Q Exit.ret { tmps := tmps, defers := [] } w := by
  refine bodyPost_ret (v := .tuple #[.agg #[v0, v1, v2, v3, v4, v5], .int .i64 0]) ?_ rfl hq
  rw [results_cell_tmp (p := 6) (u := 7) (ty := 38) rfl, hp, h7]
  simp [asAddr, run_loadVar_row w b 38 38 _ (0, 0) _ hat Tryd.underlying38 rfl info_rJournal]
set_option maxRecDepth 100000 in
set_option maxHeartbeats 8000000 in
theorem r51Open_any (dv pv : Value) (c : DiskC) (f n ep : Int) (w : World) (hd : StrsC w dv c.durable) (hp : PendC w pv c.pending) (hps : ∀ x ∈ c.pending, x.2.size = 512) (hl : c.pending.length ≤ 1000000) (hn : c.durable.length ≤ 1000000)
    (hz : ∀ q, (c.read q).1.size ≤ 140737488340000) (hok : openOK c.durable.length f n ep) :
    Calls Tryd.prog 34 #[.agg #[dv, pv], .agg #[.int .i64 f, .int .i64 n], .int .i64 ep] w fun e w' => ∃ rv, e = .returned (.tuple #[.agg (rJourV f n ep (opened ep.toNat n.toNat (fun k : Nat => c.read (f + (k : Int)))).next (opened ep.toNat n.toNat (fun k : Nat => c.read (f + (k : Int)))).jch rv), .int .i64 0]) ∧
      StrsC w' rv (opened ep.toNat n.toNat (fun k : Nat => c.read (f + (k : Int)))).recs ∧ Below w.heap.size w w' ∧ ∀ k, rv.ownBlock = some k → w.heap.size ≤ k := by
  obtain ⟨da, dc, rfl⟩ := hd.len
  obtain ⟨pa, pc, hpe, hpc⟩ := hp
  have hpp : PendC w pv c.pending := ⟨pa, pc, hpe, hpc⟩
  subst hpe
  have HD := Lib.hid hd; have HP := Lib.hid hpp; have HPS := Lib.hid hps; have HZ := Lib.hid hz; clear hd hpc hpp hps hz
  obtain ⟨h1, h2, h3, h4, h5, h6⟩ := hok
  obtain ⟨F, rfl⟩ : ∃ F : Nat, f = F := ⟨f.toNat, by omega⟩
  obtain ⟨N, rfl⟩ : ∃ N : Nat, n = N := ⟨n.toNat, by omega⟩
  obtain ⟨E, rfl⟩ : ∃ E : Nat, ep = E := ⟨ep.toNat, by omega⟩
  rw [Int.toNat_natCast, Int.toNat_natCast]
  obtain ⟨rd, hrd⟩ : ∃ rd : Nat → ByteArray × Int, rd = fun k : Nat => c.read ((F : Int) + (k : Int)) := ⟨_, rfl⟩
  rw [← hrd]
  obtain ⟨O, hO⟩ : ∃ O, O = opened E N rd := ⟨_, rfl⟩
  rw [← hO]
  have HRD := Lib.hid hrd; have HO := Lib.hid hO; clear hrd hO
  go_enter Tryd.func34, Tryd.ntmps34
  go_wp2_with fail
  refine (rValid_any _ _ _ _ F N _ hn).mono ?_
  rintro e w1 ⟨rfl, hb1⟩
  rw [decide_eq_true (show okRegion _ _ _ from ⟨h1, h2, by omega⟩)]
  have d1 : decide ((E : Int) < 0) = false := by simp
  have d2 : decide ((4611686018427387904 : Int) ≤ E) = false := by simp; omega
  have hs1 := hb1.size
  have t0 : At w1 w.heap.size 29 #[.slice da c.durable.length dc, .slice pa c.pending.length pc] := At.below (((At.new w 29 _).alloc _).alloc _) hb1 (by simp; omega)
  have t1 : At w1 (w.heap.size + 1) 24 #[.int .i64 F, .int .i64 N] := At.below (At.alloc (by have := At.new (w.alloc (.cells #[.slice da c.durable.length dc, .slice pa c.pending.length pc] 29)) 24 #[.int .i64 F, .int .i64 N]; rw [World.size_alloc] at this; exact this) _) hb1 (by simp)
  have t2 : At w1 (w.heap.size + 1 + 1) 38 #[.int .i64 0, .int .i64 0, .int .i64 0, .int .i64 0, .string ⟨#[]⟩, .slice none 0 0] := At.below (by
    have := At.new ((w.alloc (.cells #[.slice da c.durable.length dc, .slice pa c.pending.length pc] 29)).alloc (.cells #[.int .i64 F, .int .i64 N] 24)) 38 #[.int .i64 0, .int .i64 0, .int .i64 0, .int .i64 0, .string ⟨#[]⟩, .slice none 0 0]
    rw [World.size_alloc, World.size_alloc] at this
    exact this) hb1 (by simp)
  have hbw : Below w.heap.size w w1 := ((((Below.refl w.heap.size w).alloc (Nat.le_refl _) _).alloc (by simp) _).alloc (by simp; omega) _).trans (hb1.mono (by simp; omega))
  have hsz : w.heap.size + 3 ≤ w1.heap.size := by simp at hs1; omega
  have T0 := Lib.hid t0; have T1 := Lib.hid t1; have T2 := Lib.hid t2; have HBW := Lib.hid hbw; clear t0 t1 t2 hbw hb1 hs1
  have p0 := T1.out.cell 0; have p1 := T1.out.cell 1
  simp only [List.getElem?_toArray, List.getElem?_cons_zero, List.getElem?_cons_succ] at p0 p1
  go_upto_region 3 with fail
  go_cut [8] (fun jv wx => ∃ jb, jv = .pointer (some ⟨jb, 0, none⟩) ∧ w1.heap.size ≤ jb ∧ At wx jb 38 (rJourV F N E 0 (chain0 E) (.slice none 0 0)) ∧ Below w1.heap.size w1 wx)
  case first =>
    refine Lex.wp_region_treeV [0, 3, 5, 6] [0, 0, 0, 4, 15, 0, 63] [1, 2] (.alt 0 [] (.alt 3 [4] (.alt 5 [] (.alt 6 [] .nil .nil) .nil) (.alt 5 [] (.alt 3 [4] (.alt 6 [] .nil .nil) .nil) .nil)) (.alt 3 [] (.alt 0 [4] (.alt 5 [] (.alt 6 [] .nil .nil) .nil) (.alt 5 [] (.alt 0 [4] (.alt 6 [] .nil .nil) .nil) .nil)) (.alt 5 [] (.alt 0 [] (.alt 3 [4] (.alt 6 [] .nil .nil) .nil) (.alt 3 [] (.alt 0 [4] (.alt 6 [] .nil .nil) .nil) .nil)) .nil))) (by kernel_rfl) (by kernel_rfl) (by kernel_rfl) ?_
    intro ops Ee hE
    have HE := Lib.hid hE; clear hE
    simp only [Lex.pick, List.filterMap_cons, List.filterMap_nil, List.getElem?_cons_succ, List.getElem?_cons_zero]
    have hE9 : E < 9223372036854775808 := by omega
    have hl1 : w.heap.size + 1 < w1.heap.size := by omega
    have qa0 : ∀ o, (w1.alloc o).cell? ⟨w.heap.size + 1, 0, none⟩ = some (.int .i64 F) := fun o => (((Below.refl w1.heap.size w1).alloc (Nat.le_refl _) o).cell (p := ⟨w.heap.size + 1, 0, none⟩) hl1).trans p0
    have qa1 : ∀ o, (w1.alloc o).cell? ⟨w.heap.size + 1, 1, none⟩ = some (.int .i64 N) := fun o => (((Below.refl w1.heap.size w1).alloc (Nat.le_refl _) o).cell (p := ⟨w.heap.size + 1, 1, none⟩) hl1).trans p1
    go_wp2_with fail
    iterate 24 (try any_goals (first
      | exact Lex.runV_done
      | (refine Lex.runV_alt ?_ ?_)
      | (refine Lex.runV_end (HE.out _ _ (by kernel_rfl) ?_); go_wp2_with fail; go_meet;
         first
          | exact ⟨_, rfl, HB4.out.size, At.new w4 _ _, (((Below.refl w1.heap.size w1).drew.trans HB4.out).alloc HB4.out.size _)⟩
          | exact ⟨w1.heap.size, rfl, Nat.le_refl _, At.put6 (At.below (At.drew (At.new w1 _ _)) HB4.out (by simp)) _ _ _ _ _ _, below6 ((((Below.refl w1.heap.size w1).alloc (Nat.le_refl _) _).drew).trans (HB4.out.mono (by simp))) (Nat.le_refl _) _ _ _ _ _ _⟩)
      | (refine Lex.Mid.intro trivial ?_)
      | (simp only [Lex.pick, List.filterMap_cons, List.filterMap_nil, List.getElem?_cons_succ, List.getElem?_cons_zero]
         go_wp2_with (go_at_call 51; refine (rBegin_any E _ hE9).mono ?_; rintro e w4 ⟨rfl, hb4⟩; have hbx : Below w1.heap.size w1 w4 := (by first | exact (Below.refl w1.heap.size w1).drew.trans hb4 | exact (((Below.refl w1.heap.size w1).alloc (Nat.le_refl _) _).drew).trans (hb4.mono (by simp))); have pp0 := (hbx.cell (p := ⟨w.heap.size + 1, 0, none⟩) (show w.heap.size + 1 < w1.heap.size by omega)).trans p0; have pp1 := (hbx.cell (p := ⟨w.heap.size + 1, 1, none⟩) (show w.heap.size + 1 < w1.heap.size by omega)).trans p1; have hl4 : w.heap.size + 1 < w4.heap.size := (by have := hbx.size; omega); have pa0 : ∀ o, (w4.alloc o).cell? ⟨w.heap.size + 1, 0, none⟩ = some (.int .i64 F) := (fun o => (((Below.refl w4.heap.size w4).alloc (Nat.le_refl _) o).cell (p := ⟨w.heap.size + 1, 0, none⟩) hl4).trans pp0); have pa1 : ∀ o, (w4.alloc o).cell? ⟨w.heap.size + 1, 1, none⟩ = some (.int .i64 N) := (fun o => (((Below.refl w4.heap.size w4).alloc (Nat.le_refl _) o).cell (p := ⟨w.heap.size + 1, 1, none⟩) hl4).trans pp1); clear hbx; (try (have hat4 := At.below (At.drew (At.new w1 38 _)) hb4 (by simp); have x0 := hat4.cell 0; have x1 := hat4.cell 1; have x2 := hat4.cell 2; have x3 := hat4.cell 3; have x4 := hat4.cell 4; have x5 := hat4.cell 5; have z0 := hat4.free 0; have z1 := hat4.free 1; have z2 := hat4.free 2; have z3 := hat4.free 3; have z4 := hat4.free 4; have z5 := hat4.free 5; simp only [List.getElem?_toArray, List.getElem?_cons_zero, List.getElem?_cons_succ] at x0 x1 x2 x3 x4 x5; clear hat4)); have HB4 := Lib.hid hb4; clear hb4))))
  case rest =>
    obtain ⟨jb, rfl, hjb, hja, hbc⟩ := hcut
    have hop : OpR w wc #[.slice da c.durable.length dc, .slice pa c.pending.length pc] F N E jb 0 (chain0 E) [] (.slice none 0 0) wc :=
      ⟨T0.out.below hbc T0.out.lt, T1.out.below hbc T1.out.lt, T2.out.below hbc T2.out.lt, hja, ⟨rfl, .inl ⟨rfl, rfl⟩⟩, HBW.out.trans (hbc.mono HBW.out.size), Nat.le_refl _⟩
    have hjl := hja.lt
    have q0 := hja.cell 4
    unfold rJourV at q0
    simp only [List.getElem?_toArray, List.getElem?_cons_zero, List.getElem?_cons_succ] at q0
    have HOP := Lib.hid hop; clear hop hja hbc T0 T1 T2 HBW p0 p1 d1 d2
    go_wp2_with fail
    clear q0
    go_loopw [9, 10, 11, 12] (fun ch rc fs i wr => ∃ (k : Nat) (s : OSt) (cw fw : ByteArray) (rv : Value), k ≤ N ∧ i = .int .i64 k ∧ ch = .string cw ∧ rc = .string (catPg s.open_) ∧ fs = .string fw ∧ (s.open_ = [] ∨ ∃ q l, s.open_ = q :: l ∧ fw = q.digest) ∧ (∀ q ∈ s.open_, q.data.size = 437) ∧ cw.size = 32 ∧
      s.next + s.open_.length = k ∧ s.recs.length ≤ k ∧ opens E rd (N - k) k cw s = O ∧ OpR w wc #[.slice da c.durable.length dc, .slice pa c.pending.length pc] F N E jb s.next s.jch s.recs rv wr) (fun _ _ _ i _ => N - (intOf i).toNat)
    case atStart =>
      exact ⟨0, OSt.zero E, chain0 E, ⟨#[]⟩, _, by omega, rfl, rfl, rfl, rfl, .inl rfl, (fun q hq => by cases hq), Sha.sha_size _, rfl, Nat.le_refl _, by rw [HO.out]; rfl, HOP.out⟩
    case round =>
      obtain ⟨k, s, cw, fw, rv, hk, rfl, rfl, rfl, rfl, hfw, h437, hcw, hnx, hrl, hop, hor⟩ := hrel
      obtain ⟨ra, rn, rcp, rfl⟩ := own_slice hor.rows
      have k1 := hor.b1.cell 0; have k2 := hor.b1.cell 1; have k3 := hor.b0.cell 0; have k4 := hor.b0.cell 1
      simp only [List.getElem?_toArray, List.getElem?_cons_zero, List.getElem?_cons_succ] at k1 k2 k3 k4
      have HOR := Lib.hid hor; have HOPN := Lib.hid hop; have HFW := Lib.hid hfw; have H437 := Lib.hid h437; clear hor hop hfw h437
      by_cases hlt : k < N
      · have dk : decide ((k : Int) < N) = true := by simp; omega
        go_wp2_with fail
        refine (r51read_any _ _ c ((F : Int) + k) cw E wr (StrsC.below HD.out HOR.out.below) (PendC.below HP.out HOR.out.below) HPS.out hl hn HZ.out (by omega) (by omega)).mono ?_
        rintro e5 w5 ⟨rfl, hb5⟩
        have hpo : pageOf c ((F : Int) + k) E cw = if (rd k).2 = 0 then parsed E (rd k).1 cw else none := by
          rw [HRD.out]
          rfl
        have HPO := Lib.hid hpo; clear hpo
        have hor5 := HOR.out.under hb5
        have HOR5 := Lib.hid hor5; clear hor5 hb5 k1 k2 k3 k4
        obtain ⟨M, hM⟩ : ∃ M, N - k = M + 1 := ⟨N - k - 1, by omega⟩
        have hopn := HOPN.out
        rw [hM, opens] at hopn
        cases hpg : pageOf c ((F : Int) + k) E cw with
        | none =>
          have hos : s = O := by
            rw [← hopn]
            rw [HPO.out] at hpg
            by_cases h0 : (rd k).2 = 0
            · rw [if_pos h0] at hpg ⊢
              rw [hpg]
            · rw [if_neg h0]
          have HOS := Lib.hid hos; clear hos hopn hpg
          rw [show rPageV none = #[.string ⟨#[]⟩, .bool false, .string ⟨#[]⟩, .string ⟨#[]⟩, .bool false] from rfl]
          have hor6 := HOR5.out.under ((Below.refl w5.heap.size w5).alloc (Nat.le_refl _) (.cells #[.string ⟨#[]⟩, .bool false, .string ⟨#[]⟩, .string ⟨#[]⟩, .bool false] 114))
          have HOR6 := Lib.hid hor6; clear hor6
          have j0 := HOR6.out.jo.cell 0; have j1 := HOR6.out.jo.cell 1; have j2 := HOR6.out.jo.cell 2; have j3 := HOR6.out.jo.cell 3; have j4 := HOR6.out.jo.cell 4; have j5 := HOR6.out.jo.cell 5
          have y0 := HOR6.out.b2.cell 0; have y1 := HOR6.out.b2.cell 1; have y2 := HOR6.out.b2.cell 2; have y3 := HOR6.out.b2.cell 3; have y4 := HOR6.out.b2.cell 4; have y5 := HOR6.out.b2.cell 5
          have z0 := HOR6.out.b2.free 0; have z1 := HOR6.out.b2.free 1; have z2 := HOR6.out.b2.free 2; have z3 := HOR6.out.b2.free 3; have z4 := HOR6.out.b2.free 4; have z5 := HOR6.out.b2.free 5
          simp only [rJourV, List.getElem?_toArray, List.getElem?_cons_zero, List.getElem?_cons_succ] at j0 j1 j2 j3 j4 j5 y0 y1 y2 y3 y4 y5
          go_wp2_with fail
          refine open_done (b := w.heap.size + 1 + 1) rfl rfl (At.put6 HOR6.out.b2 _ _ _ _ _ _) ⟨.slice ra rn rcp, ?_, ?_, below6 (b := w.heap.size + 1 + 1) HOR6.out.below (by omega) _ _ _ _ _ _, fun i hi => by have := own_up HOR6.out.rows i hi; omega⟩
          · rw [← HOS.out]
            rfl
          · rw [← HOS.out]
            exact StrsC.own (base := wc.heap.size) (own_keep HOR6.out.rows (fun i hi => put6_far (by have := own_up HOR6.out.rows i hi; omega) _ _ _ _ _ _))
        | some p =>
          have hpp : (rd k).2 = 0 ∧ parsed E (rd k).1 cw = some p := by
            rw [HPO.out] at hpg
            by_cases h0 : (rd k).2 = 0
            · rw [if_pos h0] at hpg
              exact ⟨h0, hpg⟩
            · rw [if_neg h0] at hpg
              cases hpg
          rw [if_pos hpp.1, hpp.2] at hopn
          have hp37 := parsed_data hpp.2
          have hpc := parsed_check32 hpp.2
          have hpm := parsed_more hpp.2
          obtain ⟨op, recs, next, jch⟩ := s
          simp only at hnx hrl hopn
          have HOR5' : Hid (OpR w wc #[.slice da c.durable.length dc, .slice pa c.pending.length pc] F N E jb next jch recs (.slice ra rn rcp) w5) := HOR5
          have H437' : Hid (∀ q ∈ op, q.data.size = 437) := H437
          clear HOR5 HOR H437 HOPN HPO
          have hrs := catPg_size op H437'.out
          have hopl : op.length ≤ k := by omega
          have HFW' : Hid (op = [] ∨ ∃ q l, op = q :: l ∧ fw = q.digest) := HFW
          clear hpg hpp HFW
          have hor7 := HOR5'.out.under (((Below.refl w5.heap.size w5).alloc (Nat.le_refl _) (.cells #[.string p.check, .bool p.last, .string p.digest, .string p.data, .bool true] 114)).drew)
          have hor6 := HOR5'.out.under ((Below.refl w5.heap.size w5).alloc (Nat.le_refl _) (.cells #[.string p.check, .bool p.last, .string p.digest, .string p.data, .bool true] 114))
          rw [show rPageV (some p) = #[.string p.check, .bool p.last, .string p.digest, .string p.data, .bool true] from rfl]
          show _
          have hre := catPg_snoc op p
          obtain ⟨R, hR⟩ : ∃ R, R = catPg op := ⟨_, rfl⟩
          rw [← hR] at hre hrs ⊢
          have HRE := Lib.hid hre.symm; have HR := Lib.hid hR; clear hre hR
          by_cases hn : op = []
          · have hR0 : R.size = 0 := by rw [hrs, hn]; rfl
            have dn : (R.toList == []) = true := by
              rw [ByteArray.toList_eq]
              have : R.data.toList = [] := List.eq_nil_of_length_eq_zero (by rw [Sha.len_list]; exact hR0)
              rw [this]
              rfl
            have hoff : offDigest ⟨op, recs, next, jch⟩ p = false := by rw [hn]; rfl
            have HN := Lib.hid hn; clear hn
            cases hlast : p.last with
            | false =>
              rw [step_more hoff hlast] at hopn
              have HOPN := Lib.hid (show opens E rd M (k + 1) p.check ⟨op ++ [p], recs, next, jch⟩ = O from hopn)
              (try rw [hlast] at hor7)
              (try rw [hlast] at hpm)
              have HOR7 := Lib.hid hor7; have hp437 := hpm rfl
              clear hor7 hor6 hopn hpm hoff hlast
              go_wp2_with fail
              refine Lex.wp_region_lex (by kernel_rfl) (by kernel_rfl) ?_
              go_wp2_with fail
              refine Lex.Ends.intro (by kernel_rfl) ?_
              go_wp2_with fail
              refine ⟨⟨k + 1, ⟨op ++ [p], recs, next, jch⟩, p.check, p.digest, .slice ra rn rcp, by omega, by go_num, rfl, by rw [HRE.out], rfl, .inr ⟨p, [], by rw [HN.out]; rfl, rfl⟩, ?_, hpc, ?_, by show recs.length ≤ _; omega, by rw [show N - (k + 1) = M by omega]; exact HOPN.out, HOR7.out⟩, by simp [intOf]; omega⟩
              · intro x hx
                rcases List.mem_append.1 hx with hx | hx
                · exact H437'.out x hx
                · simp at hx
                  rw [hx]
                  exact hp437
              · show next + (op ++ [p]).length = _
                rw [List.length_append]
                show next + (op.length + 1) = _
                omega
            | true =>
              rw [step_last hoff hlast] at hopn
              have HST := Lib.hid hopn
              (try rw [hlast] at hor7)
              have HOR7 := Lib.hid hor7
              clear hor7 hor6 hopn hpm hoff hlast
              go_wp2_with fail
              refine Lex.wp_region_lex (by kernel_rfl) (by kernel_rfl) ?_
              go_wp2_with fail
              refine Lex.Ends.intro (by kernel_rfl) ?_
              go_wp2_with fail
              refine (rSum_any _ _ ?_).mono ?_
              · rw [Sha.app_size]
                omega
              rintro e8 w8 ⟨rfl, hb8⟩
              have hor8 := HOR7.out.under hb8
              have HOR8 := Lib.hid hor8; clear hor8 hb8
              rw [HRE.out]
              generalize hS : Sha.sha (catPg (op ++ [p])) = S
              have hos := HST.out
              rw [hS] at hos
              clear hS
              cases hsm : (S.toList == p.digest.toList) with
              | false =>
                rw [hsm] at hos
                have HOS := Lib.hid (show (⟨op, recs, next, jch⟩ : OSt) = O from hos); clear hos
                have j0 := HOR8.out.jo.cell 0; have j1 := HOR8.out.jo.cell 1; have j2 := HOR8.out.jo.cell 2; have j3 := HOR8.out.jo.cell 3; have j4 := HOR8.out.jo.cell 4; have j5 := HOR8.out.jo.cell 5
                have y0 := HOR8.out.b2.cell 0; have y1 := HOR8.out.b2.cell 1; have y2 := HOR8.out.b2.cell 2; have y3 := HOR8.out.b2.cell 3; have y4 := HOR8.out.b2.cell 4; have y5 := HOR8.out.b2.cell 5
                have z0 := HOR8.out.b2.free 0; have z1 := HOR8.out.b2.free 1; have z2 := HOR8.out.b2.free 2; have z3 := HOR8.out.b2.free 3; have z4 := HOR8.out.b2.free 4; have z5 := HOR8.out.b2.free 5
                simp only [rJourV, List.getElem?_toArray, List.getElem?_cons_zero, List.getElem?_cons_succ] at j0 j1 j2 j3 j4 j5 y0 y1 y2 y3 y4 y5
                go_wp2_with fail
                refine open_done (b := w.heap.size + 1 + 1) rfl rfl (At.put6 HOR8.out.b2 _ _ _ _ _ _) ⟨.slice ra rn rcp, ?_, ?_, below6 (b := w.heap.size + 1 + 1) HOR8.out.below (by omega) _ _ _ _ _ _, fun i hi => by have := own_up HOR8.out.rows i hi; omega⟩
                · rw [← HOS.out]
                  rfl
                · rw [← HOS.out]
                  exact StrsC.own (base := wc.heap.size) (own_keep HOR8.out.rows (fun i hi => put6_far (by have := own_up HOR8.out.rows i hi; omega) _ _ _ _ _ _))
              | true =>
                rw [hsm] at hos
                have HOS := Lib.hid (show opens E rd M (k + 1) p.check ⟨[], recs ++ [catPg (op ++ [p])], next + (op ++ [p]).length, p.check⟩ = O from hos); clear hos
                have hrz : (catPg (op ++ [p])).size ≤ 140737488350000 := by rw [← HRE.out, Sha.app_size]; omega
                generalize catPg (op ++ [p]) = REC at *
                have j3 := HOR8.out.jo.cell 3; have j4 := HOR8.out.jo.cell 4; have j5 := HOR8.out.jo.cell 5
                unfold rJourV at j3 j4 j5
                simp only [List.getElem?_toArray, List.getElem?_cons_zero, List.getElem?_cons_succ] at j3 j4 j5
                obtain ⟨i1, hi, hz0, hz1, hz2⟩ := info_parts info_str
                go_wp2_with (at_builtin; go_must (refine wpList_append_own_at _ rfl _ _ 22 rfl wc.heap.size 9 i1 _ 1 16 Tryd.underlying22 hi hz0 hz1 hz2 rfl (by omega) _ recs.length (recs.map Value.string) rfl (HOR8.out.rows.alloc _) ⟨w8.heap.size, 0, none⟩ 1 1 [.string REC] rfl rfl ?c1 ?c2 ?c3 ?c4 ?c5 ?_))
                case c1 =>
                  intro j u hj
                  match j, hj with
                  | 0, hj => simp at hj; subst hj; simp [Addr.add]
                case c2 => intro u hu; simp at hu; subst hu; rfl
                case c3 => unfold maxLen; omega
                case c4 => omega
                case c5 => have := HOR8.out.size; simp; omega
                intro v2 w9 how hg _ _
                have hpush := HOR8.out.pushed ((Below.refl w8.heap.size w8).alloc (Nat.le_refl _) _) hg how hjl (by omega) (k + 1) p.check
                have hjo9 : At w9 jb 38 (rJourV F N E next jch (.slice ra rn rcp)) := (Fr.grown (Fr.of_below ((Below.refl w8.heap.size w8).alloc (Nat.le_refl _) _)) hg (fun i hi => .inl hi)).at HOR8.out.jo (fun e => by have := own_up HOR8.out.rows _ e; omega)
                obtain ⟨sa, sn, sc, rfl⟩ := own_slice how
                have HPU := Lib.hid hpush; clear how hg hpush j3 j4 j5
                have j3 := hjo9.cell 3; have j4 := hjo9.cell 4; have j5 := hjo9.cell 5
                have z3 := hjo9.free 3; have z4 := hjo9.free 4; have z5 := hjo9.free 5
                unfold rJourV at j3 j4 j5
                simp only [List.getElem?_toArray, List.getElem?_cons_zero, List.getElem?_cons_succ] at j3 j4 j5
                clear hjo9
                go_wp2_with fail
                have hnl : next + (op ++ [p]).length = k + 1 := by
                  rw [List.length_append]
                  show next + (op.length + 1) = _
                  omega
                have hos := HOS.out
                rw [hnl] at hos
                refine ⟨⟨k + 1, ⟨[], recs ++ [REC], k + 1, p.check⟩, p.check, p.digest, .slice sa sn sc, by omega, by go_num, rfl, rfl, rfl, .inl rfl, (fun x hx => by cases hx), hpc, rfl, ?_, by rw [show N - (k + 1) = M by omega]; exact hos, HPU.out⟩, by simp [intOf]; omega⟩
                show (recs ++ [REC]).length ≤ _
                rw [List.length_append]
                show recs.length + 1 ≤ _
                omega
          · have hRp : 0 < R.size := by
              rw [hrs]
              cases op with
              | nil => exact absurd rfl hn
              | cons x l => rw [List.length_cons]; omega
            have dn : (R.toList == []) = false := by
              rw [ByteArray.toList_eq]
              have : R.data.toList ≠ [] := fun e => by
                have h2 := Sha.len_list R
                rw [e] at h2
                simp at h2
                omega
              simpa using this
            obtain ⟨q0, l0, hq0, hfq⟩ := HFW'.out.resolve_left hn
            have HQ0 := Lib.hid hq0; clear hn HFW'
            cases hd : (p.digest.toList == fw.toList) with
            | false =>
              have hoff : offDigest ⟨op, recs, next, jch⟩ p = true := by
                show offDigest ⟨op, recs, next, jch⟩ p = true
                unfold offDigest
                rw [show ({ open_ := op, recs := recs, next := next, jch := jch } : OSt).open_ = q0 :: l0 from hq0]
                show (q0.digest.toList != p.digest.toList) = true
                rw [← hfq, bne, Bool.beq_comm, hd]
                rfl
              rw [step_off hoff] at hopn
              have HOS := Lib.hid (show (⟨op, recs, next, jch⟩ : OSt) = O from hopn)
              have HOR6 := Lib.hid hor6
              clear hopn hor7 hor6 hoff hpm hq0 hfq
              go_wp2_with fail
              refine Lex.wp_region_lex (by kernel_rfl) (by kernel_rfl) ?_
              go_wp2_with fail
              refine Lex.Ends.intro (by kernel_rfl) ?_
              have j0 := HOR6.out.jo.cell 0; have j1 := HOR6.out.jo.cell 1; have j2 := HOR6.out.jo.cell 2; have j3 := HOR6.out.jo.cell 3; have j4 := HOR6.out.jo.cell 4; have j5 := HOR6.out.jo.cell 5
              have y0 := HOR6.out.b2.cell 0; have y1 := HOR6.out.b2.cell 1; have y2 := HOR6.out.b2.cell 2; have y3 := HOR6.out.b2.cell 3; have y4 := HOR6.out.b2.cell 4; have y5 := HOR6.out.b2.cell 5
              have z0 := HOR6.out.b2.free 0; have z1 := HOR6.out.b2.free 1; have z2 := HOR6.out.b2.free 2; have z3 := HOR6.out.b2.free 3; have z4 := HOR6.out.b2.free 4; have z5 := HOR6.out.b2.free 5
              simp only [rJourV, List.getElem?_toArray, List.getElem?_cons_zero, List.getElem?_cons_succ] at j0 j1 j2 j3 j4 j5 y0 y1 y2 y3 y4 y5
              go_wp2_with fail
              refine open_done (b := w.heap.size + 1 + 1) rfl rfl (At.put6 HOR6.out.b2 _ _ _ _ _ _).drew ⟨.slice ra rn rcp, ?_, ?_, (below6 (b := w.heap.size + 1 + 1) HOR6.out.below (by omega) _ _ _ _ _ _).drew, fun i hi => by have := own_up HOR6.out.rows i hi; omega⟩
              · rw [← HOS.out]
                rfl
              · rw [← HOS.out]
                exact StrsC.drewN (StrsC.own (base := wc.heap.size) (own_keep HOR6.out.rows (fun i hi => put6_far (by have := own_up HOR6.out.rows i hi; omega) _ _ _ _ _ _))) 1
            | true =>
              have hfd : fw = p.digest := by
                apply Sha.ba_ext
                have h2 : p.digest.toList = fw.toList := by simpa using hd
                rw [ByteArray.toList_eq, ByteArray.toList_eq] at h2
                exact h2.symm
              have hoff : offDigest ⟨op, recs, next, jch⟩ p = false := by
                unfold offDigest
                rw [show ({ open_ := op, recs := recs, next := next, jch := jch } : OSt).open_ = q0 :: l0 from hq0]
                show (q0.digest.toList != p.digest.toList) = false
                rw [← hfq, hfd]
                simp
              have HFQ := Lib.hid (hfq.symm.trans hfd)
              clear hq0 hfq hd
              subst hfd
              cases hlast : p.last with
              | false =>
                rw [step_more hoff hlast] at hopn
                have HOPN := Lib.hid (show opens E rd M (k + 1) p.check ⟨op ++ [p], recs, next, jch⟩ = O from hopn)
                (try rw [hlast] at hor7)
                (try rw [hlast] at hpm)
                have HOR7 := Lib.hid hor7; have hp437 := hpm rfl
                clear hor7 hor6 hopn hpm hoff hlast
                go_wp2_with fail
                refine Lex.wp_region_lex (by kernel_rfl) (by kernel_rfl) ?_
                go_wp2_with fail
                refine Lex.Ends.intro (by kernel_rfl) ?_
                go_wp2_with fail
                refine ⟨⟨k + 1, ⟨op ++ [p], recs, next, jch⟩, p.check, p.digest, .slice ra rn rcp, by omega, by go_num, rfl, by rw [HRE.out], rfl, .inr ⟨q0, l0 ++ [p], by rw [HQ0.out]; rfl, HFQ.out.symm⟩, ?_, hpc, ?_, by show recs.length ≤ _; omega, by rw [show N - (k + 1) = M by omega]; exact HOPN.out, HOR7.out⟩, by simp [intOf]; omega⟩
                · intro x hx
                  rcases List.mem_append.1 hx with hx | hx
                  · exact H437'.out x hx
                  · simp at hx
                    rw [hx]
                    exact hp437
                · show next + (op ++ [p]).length = _
                  rw [List.length_append]
                  show next + (op.length + 1) = _
                  omega
              | true =>
                rw [step_last hoff hlast] at hopn
                have HST := Lib.hid hopn
                (try rw [hlast] at hor7)
                have HOR7 := Lib.hid hor7
                clear hor7 hor6 hopn hpm hoff hlast
                go_wp2_with fail
                refine Lex.wp_region_lex (by kernel_rfl) (by kernel_rfl) ?_
                go_wp2_with fail
                refine Lex.Ends.intro (by kernel_rfl) ?_
                go_wp2_with fail
                refine (rSum_any _ _ ?_).mono ?_
                · rw [Sha.app_size]
                  omega
                rintro e8 w8 ⟨rfl, hb8⟩
                have hor8 := HOR7.out.under hb8
                have HOR8 := Lib.hid hor8; clear hor8 hb8
                rw [HRE.out]
                generalize hS : Sha.sha (catPg (op ++ [p])) = S
                have hos := HST.out
                rw [hS] at hos
                clear hS
                cases hsm : (S.toList == p.digest.toList) with
                | false =>
                  rw [hsm] at hos
                  have HOS := Lib.hid (show (⟨op, recs, next, jch⟩ : OSt) = O from hos); clear hos
                  have j0 := HOR8.out.jo.cell 0; have j1 := HOR8.out.jo.cell 1; have j2 := HOR8.out.jo.cell 2; have j3 := HOR8.out.jo.cell 3; have j4 := HOR8.out.jo.cell 4; have j5 := HOR8.out.jo.cell 5
                  have y0 := HOR8.out.b2.cell 0; have y1 := HOR8.out.b2.cell 1; have y2 := HOR8.out.b2.cell 2; have y3 := HOR8.out.b2.cell 3; have y4 := HOR8.out.b2.cell 4; have y5 := HOR8.out.b2.cell 5
                  have z0 := HOR8.out.b2.free 0; have z1 := HOR8.out.b2.free 1; have z2 := HOR8.out.b2.free 2; have z3 := HOR8.out.b2.free 3; have z4 := HOR8.out.b2.free 4; have z5 := HOR8.out.b2.free 5
                  simp only [rJourV, List.getElem?_toArray, List.getElem?_cons_zero, List.getElem?_cons_succ] at j0 j1 j2 j3 j4 j5 y0 y1 y2 y3 y4 y5
                  go_wp2_with fail
                  refine open_done (b := w.heap.size + 1 + 1) rfl rfl (At.put6 HOR8.out.b2 _ _ _ _ _ _) ⟨.slice ra rn rcp, ?_, ?_, below6 (b := w.heap.size + 1 + 1) HOR8.out.below (by omega) _ _ _ _ _ _, fun i hi => by have := own_up HOR8.out.rows i hi; omega⟩
                  · rw [← HOS.out]
                    rfl
                  · rw [← HOS.out]
                    exact StrsC.own (base := wc.heap.size) (own_keep HOR8.out.rows (fun i hi => put6_far (by have := own_up HOR8.out.rows i hi; omega) _ _ _ _ _ _))
                | true =>
                  rw [hsm] at hos
                  have HOS := Lib.hid (show opens E rd M (k + 1) p.check ⟨[], recs ++ [catPg (op ++ [p])], next + (op ++ [p]).length, p.check⟩ = O from hos); clear hos
                  have hrz : (catPg (op ++ [p])).size ≤ 140737488350000 := by rw [← HRE.out, Sha.app_size]; omega
                  generalize catPg (op ++ [p]) = REC at *
                  have j3 := HOR8.out.jo.cell 3; have j4 := HOR8.out.jo.cell 4; have j5 := HOR8.out.jo.cell 5
                  unfold rJourV at j3 j4 j5
                  simp only [List.getElem?_toArray, List.getElem?_cons_zero, List.getElem?_cons_succ] at j3 j4 j5
                  obtain ⟨i1, hi, hz0, hz1, hz2⟩ := info_parts info_str
                  go_wp2_with (at_builtin; go_must (refine wpList_append_own_at _ rfl _ _ 22 rfl wc.heap.size 9 i1 _ 1 16 Tryd.underlying22 hi hz0 hz1 hz2 rfl (by omega) _ recs.length (recs.map Value.string) rfl (HOR8.out.rows.alloc _) ⟨w8.heap.size, 0, none⟩ 1 1 [.string REC] rfl rfl ?c1 ?c2 ?c3 ?c4 ?c5 ?_))
                  case c1 =>
                    intro j u hj
                    match j, hj with
                    | 0, hj => simp at hj; subst hj; simp [Addr.add]
                  case c2 => intro u hu; simp at hu; subst hu; rfl
                  case c3 => unfold maxLen; omega
                  case c4 => omega
                  case c5 => have := HOR8.out.size; simp; omega
                  intro v2 w9 how hg _ _
                  have hpush := HOR8.out.pushed ((Below.refl w8.heap.size w8).alloc (Nat.le_refl _) _) hg how hjl (by omega) (k + 1) p.check
                  have hjo9 : At w9 jb 38 (rJourV F N E next jch (.slice ra rn rcp)) := (Fr.grown (Fr.of_below ((Below.refl w8.heap.size w8).alloc (Nat.le_refl _) _)) hg (fun i hi => .inl hi)).at HOR8.out.jo (fun e => by have := own_up HOR8.out.rows _ e; omega)
                  obtain ⟨sa, sn, sc, rfl⟩ := own_slice how
                  have HPU := Lib.hid hpush; clear how hg hpush j3 j4 j5
                  have j3 := hjo9.cell 3; have j4 := hjo9.cell 4; have j5 := hjo9.cell 5
                  have z3 := hjo9.free 3; have z4 := hjo9.free 4; have z5 := hjo9.free 5
                  unfold rJourV at j3 j4 j5
                  simp only [List.getElem?_toArray, List.getElem?_cons_zero, List.getElem?_cons_succ] at j3 j4 j5
                  clear hjo9
                  go_wp2_with fail
                  have hnl : next + (op ++ [p]).length = k + 1 := by
                    rw [List.length_append]
                    show next + (op.length + 1) = _
                    omega
                  have hos := HOS.out
                  rw [hnl] at hos
                  refine ⟨⟨k + 1, ⟨[], recs ++ [REC], k + 1, p.check⟩, p.check, p.digest, .slice sa sn sc, by omega, by go_num, rfl, rfl, rfl, .inl rfl, (fun x hx => by cases hx), hpc, rfl, ?_, by rw [show N - (k + 1) = M by omega]; exact hos, HPU.out⟩, by simp [intOf]; omega⟩
                  show (recs ++ [REC]).length ≤ _
                  rw [List.length_append]
                  show recs.length + 1 ≤ _
                  omega
      · have dk : decide ((k : Int) < N) = false := by simp; omega
        have hos : s = O := by
          have := HOPN.out
          rw [show N - k = 0 by omega] at this
          exact this
        have HOS := Lib.hid hos; clear hos
        have j0 := HOR.out.jo.cell 0; have j1 := HOR.out.jo.cell 1; have j2 := HOR.out.jo.cell 2; have j3 := HOR.out.jo.cell 3; have j4 := HOR.out.jo.cell 4; have j5 := HOR.out.jo.cell 5
        have y0 := HOR.out.b2.cell 0; have y1 := HOR.out.b2.cell 1; have y2 := HOR.out.b2.cell 2; have y3 := HOR.out.b2.cell 3; have y4 := HOR.out.b2.cell 4; have y5 := HOR.out.b2.cell 5
        have z0 := HOR.out.b2.free 0; have z1 := HOR.out.b2.free 1; have z2 := HOR.out.b2.free 2; have z3 := HOR.out.b2.free 3; have z4 := HOR.out.b2.free 4; have z5 := HOR.out.b2.free 5
        simp only [rJourV, List.getElem?_toArray, List.getElem?_cons_zero, List.getElem?_cons_succ] at j0 j1 j2 j3 j4 j5 y0 y1 y2 y3 y4 y5
        go_wp2_with fail
        refine open_done (b := w.heap.size + 1 + 1) rfl rfl (At.put6 HOR.out.b2 _ _ _ _ _ _) ⟨.slice ra rn rcp, ?_, ?_, below6 (b := w.heap.size + 1 + 1) HOR.out.below (by omega) _ _ _ _ _ _, fun i hi => by have := own_up HOR.out.rows i hi; omega⟩
        · rw [← HOS.out]
          rfl
        · rw [← HOS.out]
          exact StrsC.own (base := wc.heap.size) (own_keep HOR.out.rows (fun i hi => put6_far (by have := own_up HOR.out.rows i hi; omega) _ _ _ _ _ _))
end Go.Proofs.YtfgjjdjaiddllaaDoor
