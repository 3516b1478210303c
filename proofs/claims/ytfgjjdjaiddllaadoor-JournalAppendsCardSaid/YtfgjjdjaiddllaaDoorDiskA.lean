/- A disk of the program as a state: where its parts lie, what it holds, and what keeps it. No condition. -/
import Derived.Test.YtfgjjdjaiddllaaDoorProg
import Derived.WalkKit
import Derived.Test.YtfgjjdjaiddllaaDoorBase
import Derived.Test.YtfgjjdjaiddllaaDoorLex
import Derived.Maps.OwnSet
import Derived.Maps.AppendAt
namespace Go.Proofs.YtfgjjdjaiddllaaDoor
set_option linter.unusedVariables false
set_option linter.unusedSimpArgs false
open Go Go.RowKit Go.Maps
theorem At.ne {w : World} {b b' : Nat} {t t' : TypeId} {cs cs' : Array Value} (h : At w b t cs) (h' : At w b' t' cs') (ht : t ≠ t') : b ≠ b' := by
  rintro rfl
  unfold At at h h'
  rw [h] at h'
  simp only [Option.some.injEq, Obj.cells.injEq] at h'
  exact ht h'.2.1
theorem own_at {w : World} {base g n size : Nat} {e : TypeId} {v : Value} {xs : List Value} (h : w.ownsRow base e size v n xs) (hg : v.ownBlock = some g) : ∃ cur, At w g e cur := by
  obtain ⟨_, ⟨rfl, _⟩ | ⟨g', cap, cur, rfl, _, hc, _⟩⟩ := h
  · cases hg
  · cases hg; exact ⟨cur, hc⟩
theorem own_keep {w w' : World} {base n size : Nat} {e : TypeId} {v : Value} {xs : List Value} (h : w.ownsRow base e size v n xs) (hk : ∀ k, v.ownBlock = some k → w'.heap[k]? = w.heap[k]?) : w'.ownsRow base e size v n xs := by
  obtain ⟨hl, hn | ⟨g, cap, cur, rfl, hb, hc, hr⟩⟩ := h
  · exact ⟨hl, .inl hn⟩
  · exact ⟨hl, .inr ⟨g, cap, cur, rfl, hb, by rw [hk g rfl]; exact hc, hr⟩⟩
theorem map_keep {P : Program} {k : TypeId} {R : Value → Option (DataW Unit × List MemPlace)} {w w' : World} {b n : Nat} {D : DataW Unit} (h : w.ownsMap P k R b n D) (hk : w'.heap[b]? = w.heap[b]?) : w'.ownsMap P k R b n D := by
  obtain ⟨es, clock, hb, F, hs, hD⟩ := h
  exact ⟨es, clock, by rw [hk]; exact hb, F, hs, hD⟩
theorem At.ne_map {P : Program} {k : TypeId} {R : Value → Option (DataW Unit × List MemPlace)} {w : World} {b g n : Nat} {D : DataW Unit} {t : TypeId} {cs : Array Value} (h : At w b t cs) (hm : w.ownsMap P k R g n D) : b ≠ g := by
  rintro rfl
  obtain ⟨es, clock, hb, _⟩ := hm
  unfold At at h
  rw [h] at hb
  cases hb
theorem At.own_ne {w : World} {b base n size : Nat} {t e : TypeId} {cs : Array Value} {v : Value} {xs : List Value} (h : At w b t cs) (ho : w.ownsRow base e size v n xs) (ht : t ≠ e) : v.ownBlock ≠ some b := by
  intro hb
  obtain ⟨cur, hc⟩ := own_at ho hb
  exact h.ne hc ht rfl
/-- A pending operation of a disk, as it is recorded. -/
structure POp where
  page : Int
  data : ByteArray
  sync : Bool
/-- What a disk holds. -/
structure DiskC where
  durable : List ByteArray
  pending : List (Nat × ByteArray)
  recording : Bool
  recorded : List POp
/-- Where a disk lies: its block, the rows of its pages, its map, the slices of what is pending and of what is recorded. -/
structure DiskP where
  a : Nat
  bd : Nat
  mp : Nat
  pv : Value
  rv : Value
def DiskP.foot (d : DiskP) (k : Nat) : Prop := k = d.a ∨ k = d.bd ∨ k = d.mp ∨ d.pv.ownBlock = some k ∨ d.rv.ownBlock = some k
def lastIdx (l : List (Nat × ByteArray)) (p : Nat) : Option Nat :=
  match l with
  | [] => none
  | x :: l => match lastIdx l p with
    | some i => some (i + 1)
    | none => if x.1 = p then some 0 else none
def latestOK (D : DataW Unit) (l : List (Nat × ByteArray)) : Prop :=
  IsMap D ∧ ∀ p : Nat, (match lastIdx l p with
    | some i => has D (.int .i64 p) = true ∧ ∀ z, D.atKey (.int .i64 p) z = .lit (.int .i64 i)
    | none => has D (.int .i64 p) = false)
def strRow (l : List ByteArray) : Array Value := (l.map Value.string).toArray
def wCells (l : List (Nat × ByteArray)) : List Value := l.flatMap fun x => [.int .i64 (x.1 : Int), .string x.2]
def oCells (l : List POp) : List Value := l.flatMap fun x => [.int .i64 x.page, .string x.data, .bool x.sync]
/-- The disk lies there and holds that. -/
structure DiskAt (w : World) (d : DiskP) (c : DiskC) : Prop where
  self : At w d.a 75 #[.slice (some ⟨d.bd, 0, none⟩) c.durable.length c.durable.length, d.pv, .map (some d.mp), .bool c.recording, d.rv]
  rows : At w d.bd 9 (strRow c.durable)
  pend : w.ownsRow 0 77 2 d.pv c.pending.length (wCells c.pending)
  recd : w.ownsRow 0 64 3 d.rv c.recorded.length (oCells c.recorded)
  latest : ∃ D n, w.ownsMap Tryd.prog 3 (plainElem Tryd.prog 3) d.mp n D ∧ n ≤ c.pending.length ∧ latestOK D c.pending
  pos : 0 < c.durable.length
  most : c.durable.length ≤ 4096
  inside : ∀ x ∈ c.pending, x.1 < c.durable.length
theorem DiskAt.lt {w : World} {d : DiskP} {c : DiskC} (h : DiskAt w d c) : ∀ k, d.foot k → k < w.heap.size := by
  intro k hk
  rcases hk with rfl | rfl | rfl | hk | hk
  · exact h.self.lt
  · exact h.rows.lt
  · obtain ⟨D, n, hm, _⟩ := h.latest; exact hm.lt
  · obtain ⟨cur, hc⟩ := own_at h.pend hk; exact hc.lt
  · obtain ⟨cur, hc⟩ := own_at h.recd hk; exact hc.lt
theorem DiskAt.keep {w w' : World} {d : DiskP} {c : DiskC} (h : DiskAt w d c) (hk : ∀ k, d.foot k → w'.heap[k]? = w.heap[k]?) : DiskAt w' d c := by
  obtain ⟨D, n, hm, hr⟩ := h.latest
  exact ⟨h.self.keep (hk _ (Or.inl rfl)), h.rows.keep (hk _ (Or.inr (Or.inl rfl))), own_keep h.pend (fun k hb => hk k (by unfold DiskP.foot; simp [hb])),
    own_keep h.recd (fun k hb => hk k (by unfold DiskP.foot; simp [hb])), ⟨D, n, map_keep hm (hk _ (Or.inr (Or.inr (Or.inl rfl)))), hr⟩, h.pos, h.most, h.inside⟩
theorem DiskAt.below {B : Nat} {w w' : World} {d : DiskP} {c : DiskC} (h : DiskAt w d c) (hb : Below B w w') (hB : w.heap.size ≤ B) : DiskAt w' d c :=
  h.keep fun k hk => hb.block k (Nat.lt_of_lt_of_le (h.lt k hk) hB)
theorem DiskAt.fr {F : Nat → Prop} {w w' : World} {d : DiskP} {c : DiskC} (h : DiskAt w d c) (hf : Fr F w w') (hF : ∀ k, F k → ¬ d.foot k) : DiskAt w' d c :=
  h.keep fun k hk => hf.keep k (h.lt k hk) (fun h' => hF k h' hk)
/-- What is read of a page. -/
def DiskC.page (c : DiskC) (p : Nat) : ByteArray :=
  match lastIdx c.pending p with
  | some i => (c.pending.getD i (0, ⟨#[]⟩)).2
  | none => c.durable.getD p ⟨#[]⟩
def torn : ByteArray := ⟨#[33]⟩
theorem torn_list : torn.toList = [33] := by rw [ByteArray.toList_eq]; rfl
/-- What Read returns. -/
def DiskC.read (c : DiskC) (p : Int) : ByteArray × Int :=
  if 0 ≤ p ∧ p < c.durable.length then
    match lastIdx c.pending p.toNat with
    | some i => ((c.pending.getD i (0, ⟨#[]⟩)).2, 0)
    | none => if (c.durable.getD p.toNat ⟨#[]⟩).toList == torn.toList then (⟨#[]⟩, 21) else (c.durable.getD p.toNat ⟨#[]⟩, 0)
  else (⟨#[]⟩, 2)
theorem dPages_any (d : DiskP) (c : DiskC) (w : World) (h : DiskAt w d c) :
    Calls Tryd.prog 17 #[.pointer (some ⟨d.a, 0, none⟩)] w fun e w' => e = .returned (.int .i64 c.durable.length) ∧ w' = w := by
  have h0 := h.self.cell 0
  simp only [List.getElem?_toArray, List.getElem?_cons_zero] at h0
  clear h
  go_enter Tryd.func17, Tryd.ntmps17
  go_wp2_with fail
  go_ret
  exact ⟨rfl, rfl⟩
theorem dHas_any (d : DiskP) (c : DiskC) (p : Int) (w : World) (h : DiskAt w d c) :
    Calls Tryd.prog 32 #[.pointer (some ⟨d.a, 0, none⟩), .int .i64 p] w fun e w' => e = .returned (.bool (decide (0 ≤ p ∧ p < (c.durable.length : Int)))) ∧ w' = w := by
  have h0 := h.self.cell 0
  simp only [List.getElem?_toArray, List.getElem?_cons_zero] at h0
  clear h
  go_enter Tryd.func32, Tryd.ntmps32
  go_wp2_with fail
  all_goals (try go_ret)
  · have h0p : 0 ≤ p := by assumption
    refine ⟨?_, rfl⟩
    show Ending.returned (.bool (decide (p < (c.durable.length : Int)))) = _
    simp [h0p]
  · have h0p : ¬ 0 ≤ p := by omega
    refine ⟨?_, rfl⟩
    show Ending.returned (.bool false) = _
    simp [h0p]
theorem law : Keyed Tryd.prog 3 := int_keyed Tryd.underlying3
theorem zeroI (w : World) : (zeroValue 3).run Tryd.prog w = .ok (.int .i64 0) w := by kernel_rfl
theorem wf64 {x : Int} (h : -9223372036854775808 ≤ x ∧ x < 9223372036854775808) : (Lit.int .i64 x).wf = true := WalkArith.wf_i64 (by omega)
theorem lastIdx_lt : ∀ (l : List (Nat × ByteArray)) (p i : Nat), lastIdx l p = some i → i < l.length
  | [], _, _, h => by cases h
  | x :: l, p, i, h => by
    unfold lastIdx at h
    cases hl : lastIdx l p with
    | some j =>
      rw [hl] at h
      have := lastIdx_lt l p j hl
      simp at h
      simp
      omega
    | none =>
      rw [hl] at h
      simp at h
      simp
      omega
theorem strRow_get (l : List ByteArray) (i : Nat) (h : i < l.length) : (strRow l)[i]? = some (.string (l.getD i ⟨#[]⟩)) := by
  simp [strRow, List.getD_eq_getElem?_getD, h]
theorem wCells_len (l : List (Nat × ByteArray)) : (wCells l).length = l.length * 2 := by
  induction l with
  | nil => rfl
  | cons x l ih => simp only [wCells, List.flatMap_cons, List.length_append, List.length_cons, List.length_nil] at ih ⊢; omega
theorem wCells_get (l : List (Nat × ByteArray)) (i : Nat) (h : i < l.length) : (wCells l)[i * 2]? = some (.int .i64 (l[i].1 : Int)) ∧ (wCells l)[i * 2 + 1]? = some (.string l[i].2) := by
  induction l generalizing i with
  | nil => cases h
  | cons x l ih =>
    match i with
    | 0 => exact ⟨rfl, rfl⟩
    | i + 1 =>
      have := ih i (by simpa using h)
      rw [show (i + 1) * 2 = i * 2 + 2 by omega]
      exact this
theorem own_cell {w : World} {base n size : Nat} {e : TypeId} {v : Value} {xs : List Value} (h : w.ownsRow base e size v n xs) (hn : 0 < n) : ∃ g cap, v = .slice (some ⟨g, 0, none⟩) n cap ∧ ∀ i x, xs[i]? = some x → w.cell? ⟨g, i, none⟩ = some x := by
  obtain ⟨hl, ⟨_, h0⟩ | ⟨g, cap, cur, rfl, _, hc, _, _, hcs, ht⟩⟩ := h
  · omega
  · refine ⟨g, cap, rfl, fun i x hx => ?_⟩
    rw [At.cell hc i, ← Array.getElem?_toList]
    rw [← ht, List.getElem?_take] at hx
    split at hx
    · exact hx
    · cases hx
set_option maxHeartbeats 1000000 in
set_option maxRecDepth 100000 in
theorem dRead_any (d : DiskP) (c : DiskC) (p : Int) (w : World) (hp : c.pending.length ≤ 1000000) (h : DiskAt w d c) :
    Calls Tryd.prog 43 #[.pointer (some ⟨d.a, 0, none⟩), .int .i64 p] w fun e w' => e = .returned (.tuple #[.string (c.read p).1, .int .i64 (c.read p).2]) ∧ w' = w := by
  have h0 := h.self.cell 0; have h1 := h.self.cell 1; have h2 := h.self.cell 2
  simp only [List.getElem?_toArray, List.getElem?_cons_zero, List.getElem?_cons_succ] at h0 h1 h2
  obtain ⟨D, n, hm, hn, hl⟩ := h.latest
  have HM := Lib.hid hm; clear hm
  have HL := Lib.hid hl; clear hl
  by_cases hin : 0 ≤ p ∧ p < c.durable.length
  · obtain ⟨q, rfl⟩ : ∃ q : Nat, p = q := ⟨p.toNat, by omega⟩
    have hmost := h.most
    have hr := h.rows.cell q
    rw [strRow_get _ _ (by omega)] at hr
    have dd : (decide (0 ≤ (q : Int) ∧ (q : Int) < c.durable.length)) = true := decide_eq_true hin
    have hlq := HL.out.2 q
    have hpw := h.pend
    have H := Lib.hid h; clear h
    have hkey := keyOf_int_mk (P := Tryd.prog) (k := 3) (q := .i64) Tryd.underlying3 (wf64 (x := (q : Int)) (by omega))
    have hread : c.read q = match lastIdx c.pending q with
        | some i => ((c.pending.getD i (0, ⟨#[]⟩)).2, 0)
        | none => if (c.durable.getD q ⟨#[]⟩).toList == torn.toList then (⟨#[]⟩, 21) else (c.durable.getD q ⟨#[]⟩, 0) := by
      unfold DiskC.read
      rw [if_pos hin]
      rfl
    cases hli : lastIdx c.pending q with
    | some i =>
      rw [hli] at hlq hread
      have hil := lastIdx_lt _ _ _ hli
      clear hli
      obtain ⟨hhas, hatk⟩ := hlq
      obtain ⟨g, cap, hpv, hcell⟩ := own_cell hpw (by omega)
      have hc := hcell _ _ (wCells_get _ _ hil).2
      rw [hpv] at h1
      have HR := Lib.hid hread; clear hread
      clear hpw hcell hr
      go_enter Tryd.func43, Tryd.ntmps43
      go_wp2_with fail
      refine (dHas_any d c q w H.out).mono ?_
      rintro e w' ⟨rfl, rfl⟩
      rw [dd]
      go_wp2_with (at_lookup; go_must (refine wpList_lookup_own_ok_int _ rfl _ _ 73 rfl 3 3 .i64 law Tryd.underlying73 Tryd.underlying3 (zeroI _) d.mp n _ rfl HM.out _ _ rfl hkey ?_); intro v hat hwc; have hv : v = (i : Int) := (by have := hat.symm.trans (hatk _); simpa using this); subst hv; rw [hhas])
      go_ret2
      refine ⟨?_, rfl⟩
      rw [HR.out, List.getD_eq_getElem?_getD, List.getElem?_eq_getElem hil]
      rfl
    | none =>
      rw [hli] at hlq hread
      simp only at hlq hread
      obtain ⟨s, hs⟩ : ∃ s, s = c.durable.getD q ⟨#[]⟩ := ⟨_, rfl⟩
      rw [← hs] at hr hread
      clear hpw hs
      have HR := Lib.hid hread; clear hread
      by_cases htn : (s.toList == [33]) = true
      · have ht : (s.toList == torn.toList) = true := by rw [torn_list]; exact htn
        have HT := Lib.hid ht; clear ht
        go_enter Tryd.func43, Tryd.ntmps43
        go_wp2_with fail
        refine (dHas_any d c q w H.out).mono ?_
        rintro e w' ⟨rfl, rfl⟩
        rw [dd]
        go_wp2_with (at_lookup; go_must (refine wpList_lookup_own_ok_int _ rfl _ _ 73 rfl 3 3 .i64 law Tryd.underlying73 Tryd.underlying3 (zeroI _) d.mp n _ rfl HM.out _ _ rfl hkey ?_); intro v hat hwc; rw [hlq])
        go_ret2
        refine ⟨?_, rfl⟩
        rw [HR.out, if_pos HT.out]
        rfl
      · have htn : (s.toList == [33]) = false := by simpa using htn
        have ht : ¬ (s.toList == torn.toList) = true := by
          rw [torn_list, htn]; simp
        have HT := Lib.hid ht; clear ht
        go_enter Tryd.func43, Tryd.ntmps43
        go_wp2_with fail
        refine (dHas_any d c q w H.out).mono ?_
        rintro e w' ⟨rfl, rfl⟩
        rw [dd]
        go_wp2_with (at_lookup; go_must (refine wpList_lookup_own_ok_int _ rfl _ _ 73 rfl 3 3 .i64 law Tryd.underlying73 Tryd.underlying3 (zeroI _) d.mp n _ rfl HM.out _ _ rfl hkey ?_); intro v hat hwc; rw [hlq])
        go_ret2
        refine ⟨?_, rfl⟩
        rw [HR.out, if_neg HT.out]
        rfl
  · have hread : c.read p = (⟨#[]⟩, 2) := by
      unfold DiskC.read
      rw [if_neg hin]
    have dd : (decide (0 ≤ p ∧ p < (c.durable.length : Int))) = false := decide_eq_false hin
    have HR := Lib.hid hread; clear hread
    have H := Lib.hid h; clear h
    go_enter Tryd.func43, Tryd.ntmps43
    go_wp2_with fail
    refine (dHas_any d c p w H.out).mono ?_
    rintro e w' ⟨rfl, rfl⟩
    rw [dd]
    go_wp2_with fail
    go_ret2
    refine ⟨?_, rfl⟩
    rw [HR.out]
    rfl
end Go.Proofs.YtfgjjdjaiddllaaDoor
