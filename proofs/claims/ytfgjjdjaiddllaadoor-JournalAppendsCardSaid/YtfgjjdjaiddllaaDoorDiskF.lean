/- A disk of the program crashes where nothing is pending and no choice is given. -/
import Derived.Test.YtfgjjdjaiddllaaDoorDiskE
import Derived.Test.YtfgjjdjaiddllaaDoorRangeOne
import Derived.OwnWalkIn
import Derived.Shelf.Abstract
import Derived.TacticsInMore
import Derived.LoopNIn
import Derived.LoopIn
namespace Go.Proofs.YtfgjjdjaiddllaaDoor
set_option linter.unusedVariables false
set_option linter.unusedSimpArgs false
open Go Go.RowKit Go.Maps Go.Shelf
attribute [local go_sem] Oper.semAt_some
theorem DStep.put {w w' : World} {d d' : DiskP} {c' : DiskC} (h : DStep w w' d d' c') {l : Nat} {o : Obj} (hl : w.heap.size ≤ l) (hf : ∀ k, d'.foot k → k < w.heap.size) : DStep w (w'.putObj l o) d d' c' :=
  ⟨h.at_.keep fun k hk => World.putObj_heap_other (by have := hf k hk; omega), h.a, h.bd, h.mp, h.foot,
    h.fr.trans (w' := w'.putObj l o) (G := fun k => k = l) ⟨rfl, rfl, rfl, by simp [World.putObj], fun k _ hk => World.putObj_heap_other hk⟩ (fun k hk => .inr (by omega))⟩
theorem cell_lt {w : World} {b i : Nat} {v : Value} (h : w.cell? ⟨b, i, none⟩ = some v) : b < w.heap.size := by
  by_cases hb : b < w.heap.size
  · exact hb
  · have e : w.heap[b]? = none := Array.getElem?_eq_none (by omega)
    simp [World.cell?, e] at h
theorem endless_nil (w : World) :
    Calls Tryd.prog 41 #[.slice none 0 0] w fun e w' => e = .returned (.func (.func 58) #[] #[.pointer (some ⟨w.heap.size, 0, none⟩)]) ∧
      Below w.heap.size w w' ∧ w'.cell? ⟨w.heap.size, 0, none⟩ = some (.slice (some ⟨w.heap.size + 1, 0, none⟩) 1 1) ∧ w'.cell? ⟨w.heap.size + 1, 0, none⟩ = some (.int .i64 0) := by
  go_enter Tryd.func41, Tryd.ntmps41
  go_wp2_with fail
  go_ret
  refine ⟨rfl, ((Below.refl w.heap.size w).alloc (Nat.le_refl _) _).alloc (by rw [World.size_alloc]; omega) _, ?_, ?_⟩
  · exact ((At.new w 100 #[.slice (some ⟨w.heap.size + 1, 0, none⟩) 1 1]).alloc _).cell 0
  · have h := (At.new (w.alloc (.cells #[.slice (some ⟨w.heap.size + 1, 0, none⟩) 1 1] 100)) 3 #[.int .i64 0]).cell 0
    rw [World.size_alloc] at h
    exact h
set_option maxRecDepth 100000 in
set_option maxHeartbeats 1000000 in
theorem endless_once (F : Fence) (n : Nat) (hn : 2 ≤ n) (hro : F.round = none) (hfn : F.fn 58) (b : Nat) (l : Nat) (J : World → Prop) (W : World) (h0 : W.cell? ⟨b, 0, none⟩ = some (.slice (some ⟨b + 1, 0, none⟩) 1 1)) (h1 : W.cell? ⟨b + 1, 0, none⟩ = some (.int .i64 0))
    (hy : YieldAt F (n - 1) Tryd.prog l #[.int .i64 0] W (fun e W' => e = .returned (.bool false) ∧ J W')) :
    CallsIn F n Tryd.prog 58 (#[.func (.yield l) #[] #[]] ++ #[.pointer (some ⟨b, 0, none⟩)]) W (fun e W' => (∃ v, e = .returned v) ∧ J W') := by
  have hn1 : 1 ≤ n := by omega
  refine callsIn_of_wp Tryd.func58 rfl hfn ?_ hro
  simp only [Tryd.ntmps58, List.size_toArray, List.length_cons, List.length_nil, Nat.reduceAdd, Nat.reduceSub, Array.replicate_succ, Array.replicate_zero, List.push_toArray, List.append_toArray, List.nil_append, List.cons_append]
  obtain ⟨fn, tmps, assign, body, hyy, hR⟩ := hy
  gi_wp2
  refine wpIn_loop_rounds 1 ?_
  rw [roundsIn_succ]
  gi_wp2
  refine wpIn_loop_rounds 1 ?_
  rw [roundsIn_succ]
  gi_wp2
  refine hR.mono ?_
  rintro e W' ⟨rfl, hJ⟩
  gi_wp2
  refine bodyPost_ret (results_none rfl _ _ _) rfl ?_
  exact ⟨⟨_, rfl⟩, hJ⟩
set_option maxRecDepth 100000 in
set_option maxHeartbeats 1000000 in
theorem dCrash_nil (d : DiskP) (c : DiskC) (w : World) (h : DiskAt w d c) (hp : c.pending = []) :
    Calls Tryd.prog 20 #[.pointer (some ⟨d.a, 0, none⟩), .slice none 0 0] w fun e w' => e = .returned (.tuple #[]) ∧ DStep w w' d { d with pv := .slice none 0 0 } { c with pending := [] } := by
  refine (callsIn_wide (n := 6)).1 ?_
  have hrr : Fence.wide.round = none := rfl
  refine callsIn_of_wp_marks Tryd.func20 rfl trivial ?_ rfl
  simp only [Tryd.ntmps20, List.size_toArray, List.length_cons, List.length_nil, Nat.reduceAdd, Nat.reduceSub, Array.replicate_succ, Array.replicate_zero, List.push_toArray, List.append_toArray, List.nil_append, List.cons_append]
  have H := Lib.hid h; clear h
  have HP := Lib.hid hp; clear hp
  gi_wp2
  refine ⟨trivial, (callsIn_wide.2 (endless_nil _)).mono ?_⟩
  rintro e w1 ⟨rfl, hb, hc0, hc1⟩
  simp only [World.size_alloc] at hb hc0 hc1
  have e0 : At w1 w.heap.size 26 #[.pointer (some ⟨d.a, 0, none⟩)] := At.below (((At.new w 26 #[.pointer (some ⟨d.a, 0, none⟩)]).alloc (.cells #[.int .i64 0] 3))) hb (by omega)
  have e1 : At w1 (w.heap.size + 1) 3 #[.int .i64 0] := by
    have h := At.new (w.alloc (.cells #[.pointer (some ⟨d.a, 0, none⟩)] 26)) 3 #[.int .i64 0]
    rw [World.size_alloc] at h
    exact At.below h hb (by omega)
  have hbw : Below w.heap.size w w1 := (((Below.refl w.heap.size w).alloc (Nat.le_refl _) _).alloc (by rw [World.size_alloc]; omega) _).trans (hb.mono (by omega))
  have hsz := hb.size
  have HB := Lib.hid hbw; have H0 := Lib.hid e0; have H1 := Lib.hid e1; have HC0 := Lib.hid hc0; have HC1 := Lib.hid hc1
  clear hb hbw e0 e1 hc0 hc1
  have hsz' : w.heap.size + 2 ≤ w1.heap.size := by simp only [World.size_alloc] at hsz; omega
  clear hsz
  have hHD : DiskAt w1 d c := H.out.below HB.out (Nat.le_refl _)
  have HD := Lib.hid hHD; clear hHD
  have hdl := H.out.lt
  have HL := Lib.hid hdl; clear hdl
  gi_wp2
  have hc0l : w.heap.size + 1 + 1 < w1.heap.size := cell_lt HC0.out
  have hc1l : w.heap.size + 1 + 1 + 1 < w1.heap.size := cell_lt HC1.out
  refine wpIn_rangeFunc_once (r := none) rfl rfl (enters_of Tryd.func58 (by kernel_rfl) rfl) #[.int .i64 0] rfl
    (fun l J W hb hy => endless_once Fence.wide (6 - 1) (by omega) rfl trivial (w.heap.size + 1 + 1) l J W ((hb.cell hc0l).trans HC0.out) ((hb.cell hc1l).trans HC1.out) hy)
    (fun _ c0 W => c0 = .exit 0 ∧ Below w1.heap.size w1 W)
    (fun D c0 W l o hl h => ⟨h.1, h.2.trans ⟨rfl, rfl, rfl, by simp [World.putObj], fun k hk => World.putObj_heap_other (by omega)⟩⟩)
    { tmps := #[.pointer (some ⟨d.a, 0, none⟩), .slice none 0 0, .pointer (some ⟨w.heap.size, 0, none⟩), undef, .pointer (some ⟨w.heap.size + 1, 0, none⟩), .int .i64 0, undef, .slice none 0 0, .func (.func 58) #[] #[.pointer (some ⟨w.heap.size + 1 + 1, 0, none⟩)], .int .i64 0, undef, undef, undef, undef, undef, undef, undef, undef, undef, undef, undef, undef, undef, undef, undef, undef, undef, undef, undef, undef, undef, undef, undef, undef, undef, undef, undef, undef, undef, undef, undef, undef, undef, undef, undef, undef, undef, undef, undef], defers := [] }
    ?assign ?body ?stop
  case assign =>
    intro l W K hK
    refine Lex.wpIn_region_plain (by kernel_rfl) ?_
    go_wp2
    refine Lex.Only.intro ?_
    exact hK
  case body =>
    intro l W hb
    have k0 := (At.below H0.out hb H0.out.lt).cell 0
    have k1 := (At.below H1.out hb H1.out.lt).cell 0
    have k2 := ((HD.out.below hb (Nat.le_refl _)).self).cell 1
    simp only [List.getElem?_toArray, List.getElem?_cons_zero, List.getElem?_cons_succ] at k0 k1 k2
    have hpv : ∃ b cap, d.pv = .slice b 0 cap := by
      obtain ⟨_, ⟨h0, _⟩ | ⟨g, cap, cur, h0, _⟩⟩ := HD.out.pend
      · exact ⟨none, 0, h0⟩
      · rw [HP.out] at h0; exact ⟨_, _, h0⟩
    obtain ⟨pb, pc, hpv⟩ := hpv
    rw [hpv] at k2
    clear hpv
    have HW := Lib.hid hb; clear hb
    gi_wp2
    refine Lex.wpIn_region_lex (by kernel_rfl) (by kernel_rfl) (by kernel_rfl) ?_
    go_wp2
    refine Lex.Ends.intro (by kernel_rfl) ?_
    gi_wp2
    exact ⟨.exit 0, .inr ⟨0, rfl, rfl⟩, (KeepsOthers.drew W).from _, rfl, HW.out.drew⟩
  case stop =>
    rintro c0 W ⟨rfl, hb⟩ hD
    have k0 := (At.below H0.out hb H0.out.lt).cell 0
    simp only [List.getElem?_toArray, List.getElem?_cons_zero] at k0
    have hd := HD.out.below hb (Nat.le_refl _)
    have HDD := Lib.hid hd; clear hd
    have HW := Lib.hid hb; clear hb
    have HDe := Lib.hid hD; clear hD
    gi_wp2
    refine ⟨trivial, (callsIn_wide.2 (forget_any d c W HDD.out)).mono ?_⟩
    rintro e w2 ⟨rfl, h2⟩
    have H2 := Lib.hid h2; clear h2
    gi_wp2
    have hf : ∀ k, DiskP.foot { d with pv := .slice none 0 0 } k → k < w.heap.size := by
      intro k hk
      refine HL.out k ?_
      rcases hk with h | h | h | h | h
      · exact .inl h
      · exact .inr (.inl h)
      · exact .inr (.inr (.inl h))
      · cases h
      · exact .inr (.inr (.inr (.inr h)))
    have hsz1 := HB.out.size
    have hszW := HW.out.size
    have hK : w2.heap[w1.heap.size]? = some (.deferred (some [])) := (H2.out.fr.keep _ (Array.getElem?_eq_some_iff.1 HDe.out).1 (fun h => by have := HL.out _ h; omega)).trans HDe.out
    refine ⟨by simp, .inl ⟨_, _, rfl, run_takeDeferred hK, ?_⟩⟩
    refine ⟨_, results_none rfl _ _ _, rfl, ?_⟩
    have hs0 : DStep w W d d c := ⟨HDD.out, rfl, rfl, rfl, fun _ h => .inl h, Fr.of_below (HB.out.trans (HW.out.mono hsz1))⟩
    exact (hs0.trans H2.out).put (by omega) hf
end Go.Proofs.YtfgjjdjaiddllaaDoor
