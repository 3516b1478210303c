/- A slice of objects as it is read; the reference's FewObjects. Condition: the sizes are in reach. -/
import Derived.Test.YtjlpdknomdhbhaaGreatDoorRefOb
import Derived.Test.YtjlpdknomdhbhaaGreatDoorStrSo
namespace Go.Proofs.YtjlpdknomdhbhaaGreatDoor
set_option linter.unusedVariables false
set_option linter.unusedSimpArgs false
open Go Go.RowKit Go.Maps
/-- A slice of objects, as it is read. -/
def ObjsC (w : World) (v : Value) (l : List Obj) : Prop :=
  ∃ a c, v = .slice a l.length c ∧ (l.length = 0 ∨ ∃ b o, a = some ⟨b, o, none⟩ ∧ b < w.heap.size ∧
    ∀ (i : Nat) (h : i < l.length), ∃ rv, w.cell? ⟨b, o + i * 3, none⟩ = some (.int .i64 l[i].kind) ∧ w.cell? ⟨b, o + i * 3 + 1, none⟩ = some rv ∧ w.cell? ⟨b, o + i * 3 + 2, none⟩ = some (.string l[i].data) ∧ StrsC w rv l[i].refs)
theorem ObjsC.below {w w' : World} {v : Value} {l : List Obj} (h : ObjsC w v l) (hb : Below w.heap.size w w') : ObjsC w' v l := by
  obtain ⟨a, c, he, h0 | ⟨b, o, ha, hl, hc⟩⟩ := h
  · exact ⟨a, c, he, .inl h0⟩
  · refine ⟨a, c, he, .inr ⟨b, o, ha, Nat.lt_of_lt_of_le hl hb.size, fun i hi => ?_⟩⟩
    obtain ⟨rv, h1, h2, h3, h4⟩ := hc i hi
    exact ⟨rv, (hb.cell (p := ⟨b, o + i * 3, none⟩) hl).trans h1, (hb.cell (p := ⟨b, o + i * 3 + 1, none⟩) hl).trans h2, (hb.cell (p := ⟨b, o + i * 3 + 2, none⟩) hl).trans h3, h4.below hb⟩
theorem ObjsC.len {w : World} {v : Value} {l : List Obj} (h : ObjsC w v l) : ∃ a c, v = .slice a l.length c := by
  obtain ⟨a, c, h, _⟩ := h
  exact ⟨a, c, h⟩
/-- The sizes of objects that came in. -/
def ObjsR (l : List Obj) : Prop := (∀ o ∈ l, (∀ x ∈ o.refs, x.size ≤ 140737488355328) ∧ o.refs.length ≤ 140737488355328 ∧ o.data.size ≤ 140737488355328) ∧ l.length ≤ 140737488355328
def fewO (o : Obj) : Bool := few49 o && decide (o.data.size ≤ 300)
def fewL (l : List Obj) : Bool := l.all fewO && decide (l.length ≤ 20)
theorem fewL_bad {l : List Obj} {o : Obj} (ho : o ∈ l) (h : fewO o = false) : fewL l = false := by
  unfold fewL
  rw [Bool.and_eq_false_iff]
  left
  rw [List.all_eq_false]
  exact ⟨o, ho, by rw [h]; decide⟩
set_option maxRecDepth 100000 in
set_option maxHeartbeats 2000000 in
theorem r49FewObjects_any (v : Value) (l : List Obj) (w : World) (h : ObjsC w v l) (hr : ObjsR l) :
    Calls Tryz.prog 24 #[v] w fun e w' => e = .returned (.bool (fewL l)) ∧ Below w.heap.size w w' := by
  have HC := Lib.hid h
  obtain ⟨a, c, rfl⟩ := h.len
  obtain ⟨R, hR⟩ : ∃ R, R = fewL l := ⟨_, rfl⟩
  rw [← hR]
  obtain ⟨hr, hll⟩ := hr
  have HR := Lib.hid hR; have HRE := Lib.hid hr; clear hR hr h
  go_enter Tryz.func24, Tryz.ntmps24
  go_wp2_with fail
  go_loopw [3] (fun i wr => ∃ k : Nat, k ≤ l.length ∧ i = .int .i64 k ∧ (∀ j (h : j < l.length), j < k → fewO l[j] = true) ∧ Below w.heap.size w wr) (fun i _ => l.length - (intOf i).toNat)
  case atStart => exact ⟨0, by omega, rfl, fun j _ h => by omega, Below.refl _ _⟩
  case round =>
    obtain ⟨k, hk, rfl, hgood, hb⟩ := hrel
    have HB := Lib.hid hb; have HG := Lib.hid hgood; clear hb hgood
    by_cases hlt : k < l.length
    · have dk : decide ((k : Int) < l.length) = true := by simp; omega
      obtain ⟨a', c', he, hcd⟩ := HC.out.below HB.out
      cases he
      obtain ⟨b, o, rfl, hbl, hc⟩ := hcd.resolve_left (by omega)
      obtain ⟨rv, e0, e1, e2, hs⟩ := hc k hlt
      obtain ⟨ra, rc, rfl⟩ := hs.len
      have hre := HRE.out l[k] (List.getElem_mem hlt)
      have hmem : l[k] ∈ l := List.getElem_mem hlt
      have hkk : ∀ P : fewO l[k] = true, ∀ j (h : j < l.length), j < k + 1 → fewO l[j] = true := by
        intro P j h hj
        rcases (by omega : j < k ∨ j = k) with h1 | h1
        · exact HG.out j h h1
        · subst h1; exact P
      obtain ⟨q, hq⟩ : ∃ q, q = l[k] := ⟨_, rfl⟩
      rw [← hq] at e0 e1 e2 hs hre hmem hkk
      have HS := Lib.hid hs; have HRQ := Lib.hid hre; have HME := Lib.hid hmem; have HKK := Lib.hid hkk; have hbl2 := hbl; have E2 := Lib.hid e2
      clear hq hc hcd hs hre hmem hkk hbl
      go_wp2_with fail
      refine (r49Few_any q (.slice ra q.refs.length rc) _ HS.out HRQ.out.1 HRQ.out.2.1 HRQ.out.2.2).mono ?_
      rintro e w2 ⟨rfl, hb⟩
      have g2 := (hb.cell (p := ⟨b, o + k * 3 + 2, none⟩) hbl2).trans E2.out
      replace HB := Lib.hid (HB.out.trans (hb.mono HB.out.size)); clear hb e0 e1 e2
      cases hfq : few49 q with
      | false =>
        have hrf : R = false := by rw [HR.out]; exact fewL_bad HME.out (by unfold fewO; rw [hfq]; rfl)
        have HRF := Lib.hid hrf; clear hrf hfq
        go_wp2_with fail
        go_ret
        exact ⟨by rw [HRF.out]; rfl, HB.out⟩
      | true =>
        by_cases h3 : q.data.size ≤ 300
        · have d3 : decide ((300 : Int) < q.data.size) = false := by simp; omega
          have hkk := HKK.out (by unfold fewO; rw [hfq, decide_eq_true h3]; rfl)
          have HK2 := Lib.hid hkk; clear hkk hfq
          go_wp2_with fail
          exact ⟨⟨k + 1, by omega, by go_num, HK2.out, HB.out⟩, by simp [intOf]; omega⟩
        · have d3 : decide ((300 : Int) < q.data.size) = true := by simp; omega
          have hrf : R = false := by rw [HR.out]; exact fewL_bad HME.out (by unfold fewO; rw [decide_eq_false h3, Bool.and_false])
          have HRF := Lib.hid hrf; clear hrf hfq
          go_wp2_with fail
          go_ret
          exact ⟨by rw [HRF.out]; rfl, HB.out⟩
    · have dk : decide ((k : Int) < l.length) = false := by simp; omega
      have hr : R = decide ((l.length : Int) ≤ 20) := by
        rw [HR.out]
        unfold fewL
        have : l.all fewO = true := by
          rw [List.all_eq_true]
          intro x hx
          obtain ⟨j, hj, rfl⟩ := List.getElem_of_mem hx
          exact HG.out j hj (by omega)
        rw [this, Bool.true_and]
        exact decide_eq_decide.2 (by omega)
      have HRR := Lib.hid hr; clear hr
      go_wp2_with fail
      go_ret
      exact ⟨by rw [HRR.out]; rfl, HB.out⟩
end Go.Proofs.YtjlpdknomdhbhaaGreatDoor
