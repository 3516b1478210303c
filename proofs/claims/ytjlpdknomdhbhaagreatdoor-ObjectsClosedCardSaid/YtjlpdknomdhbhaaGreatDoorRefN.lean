/- The reference's names of files. Condition: a name is in reach. The reference's names of files: Name. Condition: a name is in reach. The reference's archives: begins, bytes. Conditions: the sizes are in reach. The reference's archives: ValidFiles, Archive. Conditions: the sizes are in reach. The reference's archives: Archive, Files. Conditions: the sizes are in reach. -/
import Derived.Test.YtjlpdknomdhbhaaGreatDoorArcL
import Derived.Test.YtjlpdknomdhbhaaGreatDoorFilL
import Derived.Test.YtjlpdknomdhbhaaGreatDoorRefOb
namespace Go.Proofs.YtjlpdknomdhbhaaGreatDoor
set_option linter.unusedVariables false
set_option linter.unusedSimpArgs false
open Go Go.RowKit Go.Maps
theorem take_all_succ {l : List UInt8} {p : UInt8 → Bool} {i : Nat} {c : UInt8} (h : l[i]? = some c) (ht : (l.take i).all p = true) (hc : p c = true) : (l.take (i + 1)).all p = true := by
  obtain ⟨h1, h2⟩ := List.getElem?_eq_some_iff.1 h
  rw [List.take_succ_eq_append_getElem h1, List.all_append, ht, h2]
  simp [hc]
theorem all_false {l : List UInt8} {p : UInt8 → Bool} {i : Nat} {c : UInt8} (h : l[i]? = some c) (hc : p c = false) : l.all p = false := by
  rw [Bool.eq_false_iff]
  intro ha
  rw [List.all_eq_true] at ha
  have := ha c (List.mem_of_getElem? h)
  rw [hc] at this
  cases this
set_option maxRecDepth 100000 in
set_option maxHeartbeats 2000000 in
theorem r49part_any (s : ByteArray) (w : World) (hs : s.size ≤ 140737488355328) : Calls Tryz.prog 123 #[.string s] w fun e w' => e = .returned (.bool (Nam.partOK s.data.toList)) ∧ w' = w := by
  obtain ⟨R, hR⟩ : ∃ R, R = Nam.partOK s.data.toList := ⟨_, rfl⟩
  rw [← hR]
  have HR := Lib.hid hR; clear hR
  have hlen : s.toList.length = s.size := toArray_toList s
  go_enter Tryz.func123, Tryz.ntmps123
  by_cases h1 : s.toList = []
  · have h0 : s.size = 0 := by rw [h1] at hlen; exact hlen.symm
    have hd : s.data.toList = [] := List.eq_nil_of_length_eq_zero (by rw [Array.length_toList]; exact h0)
    have e : R = false := by rw [HR.out, hd]; rfl
    have HE := Lib.hid e; clear e hd h0 hlen
    go_wp2_with fail
    go_ret
    exact ⟨by rw [HE.out]; rfl, rfl⟩
  have h2 : 0 < s.size := by
    rcases Nat.eq_zero_or_pos s.size with h0 | h0
    · exact absurd (List.eq_nil_of_length_eq_zero (by omega)) h1
    · exact h0
  have e2 : s.get! 0 = s[0] := getElem!_pos s.data 0 h2
  clear hlen
  by_cases h3 : (s[0].toNat : Int) = 46
  · have hc : s.get! 0 = 46 := by
      rw [e2]
      apply UInt8.toNat_inj.1
      show s[0].toNat = 46
      omega
    have e : R = false := by
      rw [HR.out, partOK_eq s h2, hc]
      rfl
    have HE := Lib.hid e; clear e hc e2
    go_wp2_with fail
    go_ret
    exact ⟨by rw [HE.out]; rfl, rfl⟩
  · have hc : (s.get! 0 == 46) = false := by
      rw [e2, beq_eq_false_iff_ne]
      intro e
      apply h3
      rw [e]
      rfl
    have e : R = s.data.toList.all Nam.goodB := by
      rw [HR.out, partOK_eq s h2, hc, List.not_any_eq_all_not]
      simp
    have HE := Lib.hid e; clear e hc e2
    have d1 : (s.toList.isEmpty) = false := by
      cases hE : s.toList with
      | nil => exact absurd hE h1
      | cons a l => rfl
    have d2 : ((s[0].toNat : Int) == 46) = false := by simpa using h3
    go_wp2_with fail
    have H1 := Lib.hid h1; have H3 := Lib.hid h3; clear h1 h3
    go_loopw [3] (fun i wr => ∃ k : Nat, k ≤ s.size ∧ i = .int .i64 k ∧ (s.data.toList.take k).all Nam.goodB = true ∧ wr = w) (fun i _ => s.size - (intOf i).toNat)
    case atStart => exact ⟨0, by omega, rfl, rfl, rfl⟩
    case round =>
      obtain ⟨k, hk, rfl, hgo, rfl⟩ := hrel
      have HG := Lib.hid hgo; clear hgo
      by_cases hlt : k < s.size
      · have dk : decide ((k : Int) < (s.size : Int)) = true := by simp; omega
        have hgd := Nam.get_data s k hlt
        have heq : s.get! k = s[k] := getElem!_pos s.data k hlt
        rw [heq] at hgd
        obtain ⟨c, hcc⟩ : ∃ c : Nat, c = s[k].toNat := ⟨_, rfl⟩
        have hgb : Nam.goodB s[k] = goodRune (c : Int) := by rw [hcc]; rfl
        have hcl : c < 256 := by rw [hcc]; exact UInt8.toNat_lt _
        have HGD := Lib.hid hgd; have HGB := Lib.hid hgb; have HCC := Lib.hid hcc; clear hgd heq hgb hcc
        cases hgr : goodRune (c : Int) with
        | false =>
          have hb : R = false := by rw [HE.out]; exact all_false HGD.out (by rw [HGB.out]; exact hgr)
          have HB := Lib.hid hb; clear hb
          have hh := hgr
          unfold goodRune at hh
          simp only [Bool.or_eq_false_iff, Bool.and_eq_false_iff, decide_eq_false_iff_not, beq_eq_false_iff_ne, ne_eq] at hh
          have hq : ((c : Int) < 97 ∨ 122 < (c : Int)) ∧ ((c : Int) < 48 ∨ 57 < (c : Int)) ∧ (c : Int) ≠ 46 ∧ (c : Int) ≠ 95 ∧ (c : Int) ≠ 45 := by omega
          rw [HCC.out] at hq
          clear hh hgr
          go_wp2_with fail
          all_goals first
            | (go_ret; exact ⟨by rw [HB.out]; rfl, rfl⟩)
            | (exfalso; simp only [bne_eq_false_iff_eq] at *; omega)
        | true =>
          have hh := hgr
          unfold goodRune at hh
          simp only [Bool.or_eq_true, Bool.and_eq_true, decide_eq_true_eq, beq_iff_eq] at hh
          have ht := take_all_succ HGD.out HG.out (by rw [HGB.out]; exact hgr)
          have HT := Lib.hid ht; clear ht hgr
          rw [HCC.out] at hh
          go_wp2_with fail
          all_goals first
            | (exfalso; omega)
            | (exfalso; simp only [bne_eq_false_iff_eq] at *; omega)
            | (exfalso; simp at *; omega)
            | exact ⟨⟨k + 1, by omega, by go_num, HT.out, (by first | rfl | trivial)⟩, by simp [intOf]; omega⟩
      · have dk : decide ((k : Int) < (s.size : Int)) = false := by simp; omega
        have hr : R = true := by
          have := HG.out
          rw [List.take_of_length_le (by rw [Array.length_toList]; show s.size ≤ k; omega)] at this
          rw [HE.out]; exact this
        have HB := Lib.hid hr; clear hr
        go_wp2_with fail
        go_ret
        exact ⟨by rw [HB.out]; rfl, rfl⟩
end Go.Proofs.YtjlpdknomdhbhaaGreatDoor
namespace Go.Proofs.YtjlpdknomdhbhaaGreatDoor
set_option linter.unusedVariables false
set_option linter.unusedSimpArgs false
open Go Go.RowKit Go.Maps
/-- The state of the reference's loop over a name: the part that begins at f has come to i. -/
structure NmI (l : List UInt8) (f i : Nat) : Prop where
  le : f ≤ i
  hi : i ≤ l.length
  no : (47 : UInt8) ∉ (l.drop f).take (i - f)
  eq : (Nam.cuts l).all Nam.partOK = (Nam.cuts (l.drop f)).all Nam.partOK
theorem NmI.next {l : List UInt8} {f i : Nat} {c : UInt8} (h : NmI l f i) (hc : l[i]? = some c) (h47 : c ≠ 47) : NmI l f (i + 1) := by
  have hl := (List.getElem?_eq_some_iff.1 hc).1
  have hle := h.le
  refine ⟨by omega, by omega, ?_, h.eq⟩
  rw [show i + 1 - f = (i - f) + 1 by omega]
  have hx : i - f < (l.drop f).length := by rw [List.length_drop]; omega
  rw [List.take_succ_eq_append_getElem hx, List.mem_append, not_or]
  refine ⟨h.no, ?_⟩
  rw [List.mem_singleton, List.getElem_drop]
  have : l[f + (i - f)]? = some c := by rw [show f + (i - f) = i by omega]; exact hc
  intro e
  obtain ⟨_, h2⟩ := List.getElem?_eq_some_iff.1 this
  rw [h2] at e
  exact h47 e.symm
theorem NmI.cut {l : List UInt8} {f i : Nat} (h : NmI l f i) (hc : l[i]? = some 47) : (Nam.cuts l).all Nam.partOK = (Nam.partOK ((l.drop f).take (i - f)) && (Nam.cuts (l.drop (i + 1))).all Nam.partOK) := by
  obtain ⟨hl, h2⟩ := List.getElem?_eq_some_iff.1 hc
  have hle := h.le
  have e : l.drop f = (l.drop f).take (i - f) ++ 47 :: l.drop (i + 1) := by
    conv => lhs; rw [← List.take_append_drop (i - f) (l.drop f)]
    rw [List.drop_drop, show f + (i - f) = i by omega, List.drop_eq_getElem_cons hl, h2]
  rw [h.eq]
  conv => lhs; rw [e]
  rw [Nam.cuts_hit _ _ h.no, List.all_cons]
theorem NmI.start (l : List UInt8) : NmI l 0 0 := ⟨Nat.le_refl _, Nat.zero_le _, by simp, rfl⟩
theorem NmI.cut_next {l : List UInt8} {f i : Nat} (h : NmI l f i) (hc : l[i]? = some 47) (hp : Nam.partOK ((l.drop f).take (i - f)) = true) : NmI l (i + 1) (i + 1) := by
  obtain ⟨hl, h2⟩ := List.getElem?_eq_some_iff.1 hc
  have := h.cut hc
  rw [hp, Bool.true_and] at this
  exact ⟨Nat.le_refl _, hl, by simp, this⟩
theorem NmI.last {l : List UInt8} {f : Nat} (h : NmI l f l.length) : (Nam.cuts l).all Nam.partOK = Nam.partOK ((l.drop f).take (l.length - f)) := by
  have e : (l.drop f).take (l.length - f) = l.drop f := List.take_of_length_le (by rw [List.length_drop]; exact Nat.le_refl _)
  have hn := h.no
  rw [e] at hn ⊢
  rw [h.eq, Nam.cuts_miss _ hn]
  simp
theorem ex_take (s : ByteArray) (a b : Nat) : (s.extract a b).data.toList = (s.data.toList.drop a).take (b - a) := Sha.ex_list s a b
set_option maxRecDepth 100000 in
set_option maxHeartbeats 2000000 in
theorem r49Name_any (s : ByteArray) (w : World) (hs : s.size ≤ 140737488350000) : Calls Tryz.prog 95 #[.string s] w fun e w' => e = .returned (.bool (Nam.nameOK s)) ∧ w' = w := by
  obtain ⟨R, hR⟩ : ∃ R, R = Nam.nameOK s := ⟨_, rfl⟩
  rw [← hR]
  have HR := Lib.hid hR; clear hR
  have hll : s.data.toList.length = s.size := by rw [Array.length_toList]; rfl
  have HLL := Lib.hid hll; clear hll
  go_enter Tryz.func95, Tryz.ntmps95
  go_wp2_with fail
  go_loopw [3, 4] (fun f i wr => ∃ k j : Nat, k ≤ s.size + 1 ∧ f = .int .i64 j ∧ i = .int .i64 k ∧ (if k ≤ s.size then NmI s.data.toList j k else (Nam.cuts s.data.toList).all Nam.partOK = true) ∧ wr = w) (fun _ i _ => s.size + 1 - (intOf i).toNat)
  case atStart => exact ⟨0, 0, by omega, rfl, rfl, by rw [if_pos (Nat.zero_le _)]; exact NmI.start _, rfl⟩
  case round =>
    obtain ⟨k, j, hk, rfl, rfl, hnm, rfl⟩ := hrel
    by_cases hle : k ≤ s.size
    · have dk : decide ((k : Int) ≤ (s.size : Int)) = true := by simp; omega
      rw [if_pos hle] at hnm
      have hjk := hnm.le
      have HN := Lib.hid hnm; clear hnm
      by_cases heq : k = s.size
      · have dq : ((k : Int) == (s.size : Int)) = true := by simp; omega
        have hp := HN.out
        rw [heq, ← HLL.out] at hp
        have hp2 := hp.last
        rw [HLL.out, ← ex_take] at hp2
        have HP := Lib.hid hp2; have HEQ := Lib.hid heq; clear hp hp2 heq
        have djs : decide ((j : Int) ≤ (k : Int)) = true := by simp; omega
        have dks : decide ((k : Int) ≤ (s.size : Int)) = true := by simp; omega
        go_wp2_with fail
        refine (r49part_any (s.extract j k) _ (by rw [ByteArray.size_extract]; omega)).mono ?_
        rintro _ _ ⟨rfl, rfl⟩
        have hps : Nam.partOK (s.extract j k).data.toList = (Nam.cuts s.data.toList).all Nam.partOK := by rw [HP.out, HEQ.out]
        rw [hps]
        cases hall : (Nam.cuts s.data.toList).all Nam.partOK with
        | false =>
          have hr : R = false := by rw [HR.out]; unfold Nam.nameOK; rw [hall, Bool.and_false]
          have HB := Lib.hid hr; clear hr hall hps
          go_wp2_with fail
          go_ret
          exact ⟨by rw [HB.out]; rfl, rfl⟩
        | true =>
          have HALL := Lib.hid hall; clear hall hps
          go_wp2_with fail
          exact ⟨⟨k + 1, k + 1, by have := HEQ.out; omega, by go_num, by go_num, by rw [if_neg (by have := HEQ.out; omega)]; exact HALL.out, (by first | rfl | trivial)⟩, by simp [intOf]; have := HEQ.out; omega⟩
      · have hlt : k < s.size := by omega
        have dq : ((k : Int) == (s.size : Int)) = false := by simp; omega
        have hgd := Nam.get_data s k hlt
        have heq2 : s.get! k = s[k] := getElem!_pos s.data k hlt
        rw [heq2] at hgd
        have djs : decide ((j : Int) ≤ (k : Int)) = true := by simp; omega
        have dks : decide ((k : Int) ≤ (s.size : Int)) = true := by simp; omega
        by_cases h47 : (s[k].toNat : Int) = 47
        · have hc : s[k] = 47 := by
            apply UInt8.toNat_inj.1
            show s[k].toNat = 47
            omega
          rw [hc] at hgd
          have hcut := HN.out.cut hgd
          rw [← ex_take] at hcut
          have HCUT := Lib.hid hcut; have HGD := Lib.hid hgd; clear hcut hgd hc heq2 heq
          go_wp2_with fail
          refine (r49part_any (s.extract j k) _ (by rw [ByteArray.size_extract]; omega)).mono ?_
          rintro _ _ ⟨rfl, rfl⟩
          cases hp : Nam.partOK (s.extract j k).data.toList with
          | false =>
            have hr : R = false := by rw [HR.out]; unfold Nam.nameOK; rw [HCUT.out, hp, Bool.false_and, Bool.and_false]
            have HB := Lib.hid hr; clear hr hp
            go_wp2_with fail
            go_ret
            exact ⟨by rw [HB.out]; rfl, rfl⟩
          | true =>
            have hn2 := HN.out.cut_next HGD.out (by rw [← ex_take]; exact hp)
            have HN2 := Lib.hid hn2; clear hn2 hp
            go_wp2_with fail
            exact ⟨⟨k + 1, k + 1, by omega, by go_num, by go_num, by rw [if_pos (by omega)]; exact HN2.out, (by first | rfl | trivial)⟩, by simp [intOf]; omega⟩
        · have hc : s[k] ≠ 47 := by
            intro e
            apply h47
            rw [e]
            rfl
          have hn2 := HN.out.next hgd hc
          have HN2 := Lib.hid hn2; clear hn2 hgd hc heq2 heq
          go_wp2_with fail
          exact ⟨⟨k + 1, j, by omega, rfl, by go_num, by rw [if_pos (by omega)]; exact HN2.out, (by first | rfl | trivial)⟩, by simp [intOf]; omega⟩
    · have dk : decide ((k : Int) ≤ (s.size : Int)) = false := by simp; omega
      rw [if_neg hle] at hnm
      have HN := Lib.hid hnm; clear hnm
      have hr : R = decide ((s.size : Int) ≤ 64) := by
        rw [HR.out]
        unfold Nam.nameOK
        rw [HN.out, Bool.and_true]
        exact decide_eq_decide.2 (by omega)
      have HB := Lib.hid hr; clear hr
      go_wp2_with fail
      go_ret
      exact ⟨by rw [HB.out]; rfl, rfl⟩
end Go.Proofs.YtjlpdknomdhbhaaGreatDoor
namespace Go.Proofs.YtjlpdknomdhbhaaGreatDoor
set_option linter.unusedVariables false
set_option linter.unusedSimpArgs false
open Go Go.RowKit Go.Maps
theorem pre_iff (x s : List UInt8) : x.isPrefixOf s = true ↔ x.length ≤ s.length ∧ s.take x.length = x := by
  rw [List.isPrefixOf_iff_prefix, List.prefix_iff_eq_take]
  constructor
  · intro h
    have hl := congrArg List.length h
    rw [List.length_take] at hl
    exact ⟨by omega, h.symm⟩
  · rintro ⟨_, h⟩
    exact h.symm
set_option maxRecDepth 100000 in
theorem r49begins_any (s x : ByteArray) (w : World) (hs : s.size ≤ 140737488355328) (hx : x.size ≤ 140737488355328) : Calls Tryz.prog 96 #[.string s, .string x] w fun e w' => e = .returned (.bool (x.data.toList.isPrefixOf s.data.toList)) ∧ w' = w := by
  obtain ⟨R, hR⟩ : ∃ R, R = x.data.toList.isPrefixOf s.data.toList := ⟨_, rfl⟩
  rw [← hR]
  have HR := Lib.hid hR; clear hR
  have l1 : s.data.toList.length = s.size := by rw [Array.length_toList]; rfl
  have l2 : x.data.toList.length = x.size := by rw [Array.length_toList]; rfl
  go_enter Tryz.func96, Tryz.ntmps96
  by_cases hle : x.size ≤ s.size
  · have d1 : decide ((x.size : Int) ≤ (s.size : Int)) = true := by simp; omega
    have e : R = ((s.extract 0 x.size).toList == x.toList) := by
      rw [HR.out, Bool.eq_iff_iff, pre_iff, beq_iff_eq, ByteArray.toList_eq, ByteArray.toList_eq, Sha.ex_list, l1, l2]
      simp [hle]
    have HE := Lib.hid e; clear e l1 l2
    cases hb : ((s.extract 0 x.size).toList == x.toList) with
    | true =>
      go_wp2_with fail
      go_ret
      exact ⟨by rw [HE.out, hb]; rfl, rfl⟩
    | false =>
      go_wp2_with fail
      go_ret
      exact ⟨by rw [HE.out, hb]; rfl, rfl⟩
  · have d1 : decide ((x.size : Int) ≤ (s.size : Int)) = false := by simp; omega
    have e : R = false := by
      rw [HR.out, Bool.eq_false_iff]
      intro h
      have := ((pre_iff _ _).1 h).1
      omega
    have HE := Lib.hid e; clear e l1 l2
    go_wp2_with fail
    go_ret
    exact ⟨by rw [HE.out]; rfl, rfl⟩
set_option maxRecDepth 100000 in
set_option maxHeartbeats 2000000 in
theorem r49bytes_any (v : Value) (l : List FileD) (w : World) (h : FilesC w v l) (hr : (encA l).size ≤ 140737488340000) (hl : l.length ≤ 1000000) :
    Calls Tryz.prog 60 #[v] w fun e w' => e = .returned (.string (encA l)) ∧ Below w.heap.size w w' := by
  obtain ⟨a, c, rfl, hc⟩ := h
  have HC := Lib.hid hc; have HSZ := Lib.hid hr; clear hc hr
  go_enter Tryz.func60, Tryz.ntmps60
  go_wp2_with fail
  refine (r02Uint_any l.length _ (by omega)).mono ?_
  rintro e w1 ⟨rfl, hb1⟩
  have HB1 := Lib.hid hb1; clear hb1
  go_wp2_with fail
  go_loopw [3, 5] (fun t i wr => ∃ k : Nat, k ≤ l.length ∧ i = .int .i64 k ∧ t = .string (bytesTo l k) ∧ Below w.heap.size w wr) (fun _ i _ => l.length - (intOf i).toNat)
  case atStart => exact ⟨0, by omega, rfl, by rw [bytesTo_zero], HB1.out⟩
  case round =>
    obtain ⟨k, hk, rfl, rfl, hb⟩ := hrel
    have HB := Lib.hid hb; clear hb HB1
    by_cases hlt : k < l.length
    · have dk : decide ((k : Int) < l.length) = true := by simp; omega
      obtain ⟨b, o, rfl, hbl, hc⟩ := HC.out.resolve_left (by omega)
      have hg := fCells_get l k hlt
      have e0 := (HB.out.cell (p := ⟨b, o + k * 2, none⟩) hbl).trans (hc _ _ hg.1)
      have e1 := (HB.out.cell (p := ⟨b, o + (k * 2 + 1), none⟩) hbl).trans (hc _ _ hg.2)
      rw [← Nat.add_assoc] at e1
      have hst := bytesTo_step l k hlt
      have hle := bytesTo_le l (k + 1)
      rw [hst, Sha.app_size, Sha.app_size] at hle
      obtain ⟨X, hX⟩ : ∃ X, X = bytesTo l k := ⟨_, rfl⟩
      have htx := text_le l k hlt
      obtain ⟨nm, hnm⟩ : ∃ nm, nm = l[k].name := ⟨_, rfl⟩
      obtain ⟨dt, hdt⟩ : ∃ dt, dt = l[k].data := ⟨_, rfl⟩
      rw [← hX, ← hnm, ← hdt] at hst hle; rw [← hnm] at e0; rw [← hdt] at e1; rw [← hnm, ← hdt] at htx
      rw [← hX]
      have HST := Lib.hid hst; have HLE := Lib.hid hle; have HCC := Lib.hid hc; clear hst hle hc hg hX hnm hdt
      have hsz := HSZ.out
      have hbs := HB.out.size
      go_wp2_with fail
      refine Lex.wp_region_lexN (fun i => i = b) [12] 14 [7, 7] (by kernel_rfl) (by kernel_rfl) (by kernel_rfl) ?_
      simp only [Lex.wpCuts, List.take_succ_cons, List.take_zero, List.drop_succ_cons, List.drop_zero]
      go_wp2_with fail
      refine (r02Text_any nm _ (by omega)).mono ?_
      rintro e w2 ⟨rfl, hb2⟩
      replace hb2 : Below wr.heap.size wr w2 := (Below.refl wr.heap.size wr).drew.trans hb2
      have f1 := (hb2.cell (p := ⟨b, o + k * 2 + 1, none⟩) (Nat.lt_of_lt_of_le hbl hbs)).trans e1
      have HB2 := Lib.hid hb2; clear hb2
      have hle := HLE.out
      obtain ⟨TN, hTN⟩ : ∃ t, t = Cod.text nm := ⟨_, rfl⟩
      rw [← hTN] at hle HLE HST ⊢
      clear hTN
      go_wp2_with fail
      refine Lex.Mid.intro (fun i hi hl => by subst hi; exact HB2.out.block _ hl) ?_
      have hYs : (X ++ TN).size = X.size + TN.size := Sha.app_size _ _
      go_wp2_with fail
      refine (r02Text_any dt _ (by omega)).mono ?_
      rintro e w3 ⟨rfl, hb3⟩
      have HB3 := Lib.hid (HB2.out.trans (hb3.mono HB2.out.size)); clear hb3 f1
      obtain ⟨TD, hTD⟩ : ∃ t, t = Cod.text dt := ⟨_, rfl⟩
      rw [← hTD] at hle HLE HST ⊢
      clear hTD
      go_wp2_with fail
      refine Lex.Mid.intro (fun i hi hl => by subst hi; exact HB3.out.block _ hl) ?_
      have hz2 : X ++ TN ++ TD = bytesTo l (k + 1) := by rw [HST.out, ByteArray.append_assoc]
      have HZ := Lib.hid hz2; clear hz2
      go_wp2_with fail
      refine Lex.EndsN.intro (by kernel_rfl) ⟨⟨rfl, by show (World.cell? _ ⟨b, o + k * 2 + 1, none⟩).isSome = true; rw [cell_same (w := wr) (w' := wr.drew) (a := ⟨b, o + k * 2 + 1, none⟩) rfl, e1]; rfl⟩, trivial⟩ ?_
      go_wp2_with fail
      exact ⟨⟨k + 1, by omega, by go_num, by rw [HZ.out], HB.out.trans (HB3.out.mono HB.out.size)⟩, by simp [intOf]; omega⟩
    · have hkl : k = l.length := by omega
      have dk : decide ((k : Int) < l.length) = false := by simp; omega
      have hz : bytesTo l k = encA l := by rw [hkl, bytesTo_all]
      rw [hz]
      clear hz hkl
      go_wp2_with fail
      go_ret
      exact ⟨rfl, HB.out⟩
end Go.Proofs.YtjlpdknomdhbhaaGreatDoor
namespace Go.Proofs.YtjlpdknomdhbhaaGreatDoor
set_option linter.unusedVariables false
set_option linter.unusedSimpArgs false
open Go Go.RowKit Go.Maps
theorem Nam.refFrom_step (all l : List (List UInt8)) (i : Nat) (h : i < l.length) : refFrom all (l.take i) (l.drop i) = ((nameL l[i] && order (l.take i) l[i]) && (!(all.any fun q => under l[i] q) && refFrom all (l.take (i + 1)) (l.drop (i + 1)))) := by
  rw [List.drop_eq_getElem_cons h]
  conv => lhs; unfold refFrom
  rw [List.take_succ_eq_append_getElem h]
theorem slash_data (nm : ByteArray) : (nm ++ (⟨#[47]⟩ : ByteArray)).data.toList = nm.data.toList ++ [47] := by rw [Sha.app_list]
theorem any_take {α : Type} {l : List α} {p : α → Bool} {j : Nat} (h : j < l.length) (h1 : (l.take j).any p = false) (h2 : p l[j] = false) : (l.take (j + 1)).any p = false := by
  rw [List.take_succ_eq_append_getElem h, List.any_append, h1]
  simp [h2]
theorem any_hit {α : Type} {l : List α} {p : α → Bool} {j : Nat} (h : j < l.length) (h2 : p l[j] = true) : l.any p = true := List.any_eq_true.2 ⟨_, List.getElem_mem h, h2⟩
/-- The names are good up to the start, and the reference says so. -/
def RfI (l : List FileD) (k : Nat) : Prop := namesA l = Nam.refFrom (names l) ((names l).take k) ((names l).drop k)
theorem RfI.start (l : List FileD) : RfI l 0 := by
  unfold RfI namesA
  exact Nam.names_ref _
set_option maxRecDepth 100000 in
set_option maxHeartbeats 4000000 in
theorem r49ValidFiles_any (v : Value) (l : List FileD) (w : World) (h : FilesC w v l) (hr : (encA l).size ≤ 140737488340000) (hl : l.length ≤ 1000000) :
    Calls Tryz.prog 59 #[v] w fun e w' => e = .returned (.int .i64 (archE l)) ∧ Below w.heap.size w w' := by
  have HFC := Lib.hid h
  obtain ⟨a, c, rfl, hc⟩ := h
  obtain ⟨RE, hRE⟩ : ∃ R, R = archE l := ⟨_, rfl⟩
  rw [← hRE]
  have HRE := Lib.hid hRE; have HC := Lib.hid hc; have HSZ := Lib.hid hr; clear hRE hc hr
  go_enter Tryz.func59, Tryz.ntmps59
  go_wp2_with fail
  go_loopw [3] (fun i wr => ∃ k : Nat, k ≤ l.length ∧ i = .int .i64 k ∧ RfI l k ∧ Below w.heap.size w wr) (fun i _ => l.length - (intOf i).toNat)
  case atStart => exact ⟨0, by omega, rfl, RfI.start l, Below.refl _ _⟩
  case round =>
    obtain ⟨k, hk, rfl, hrf, hb⟩ := hrel
    have HRF := Lib.hid hrf; have HB := Lib.hid hb; clear hrf hb
    by_cases hlt : k < l.length
    · have dk : decide ((k : Int) < l.length) = true := by simp; omega
      obtain ⟨b, o, rfl, hbl, hc⟩ := HC.out.resolve_left (by omega)
      have hg := fCells_get l k hlt
      have e0 := (HB.out.cell (p := ⟨b, o + k * 2, none⟩) hbl).trans (hc _ _ hg.1)
      have htx := (text_le l k hlt).1
      obtain ⟨nm, hnm⟩ : ∃ nm, nm = l[k].name := ⟨_, rfl⟩
      rw [← hnm] at e0 htx
      have HN := Lib.hid hnm; have HCC := Lib.hid hc; clear hnm hc hg
      have hnl : k < (names l).length := by rw [names_len]; exact hlt
      have hstep := Eq.trans (show namesA l = _ from HRF.out) (Nam.refFrom_step (names l) (names l) k hnl)
      rw [names_at l k hlt, ← HN.out] at hstep
      have HST := Lib.hid hstep; clear hstep
      have HB2 := Lib.hid HB.out.drew
      have hsz := HSZ.out
      by_cases k0 : k = 0
      · have dk0 : decide ((0 : Int) < (k : Int)) = false := by simp; omega
        have n0 : ¬ 0 < k := by omega
        have HK0 := Lib.hid k0; clear k0
        go_wp2_with fail
        refine Lex.wp_region_lex (by kernel_rfl) (by kernel_rfl) ?_
        go_wp2_with fail
        refine (r49Name_any nm _ (by omega)).mono ?_
        rintro _ _ ⟨rfl, rfl⟩
        cases hok : Nam.nameOK nm with
        | false =>
          have hbad : namesA l = false := by rw [HST.out, ← Nam.nameOK_L, hok]; rfl
          have HBAD := Lib.hid hbad; clear hbad hok
          go_wp2_with fail
          refine Lex.Ends.intro (by kernel_rfl) ?_
          have hbd := arch_bad HBAD.out
          go_wp2_with fail
          go_ret
          exact ⟨by rw [HRE.out, hbd.2]; rfl, HB2.out⟩
        | true =>
          have hst := HST.out
          rw [← Nam.nameOK_L, hok, HK0.out, Nam.order_zero, Bool.true_and, Bool.true_and, ← HK0.out] at hst
          have HST2 := Lib.hid hst; clear hst hok
          go_wp2_with fail
          refine Lex.Ends.intro (by kernel_rfl) ?_
          go_wp2_with fail
          go_loopw [4] (fun q wx => ∃ j : Nat, j ≤ l.length ∧ q = .int .i64 j ∧ ((names l).take j).any (fun q => Nam.under nm.data.toList q) = false ∧ Below w.heap.size w wx) (fun q _ => l.length - (intOf q).toNat)
          case atStart => exact ⟨0, by omega, rfl, rfl, HB2.out⟩
          case round =>
            obtain ⟨j, hj, rfl, hno, hb⟩ := hrel
            have HNO := Lib.hid hno; have HB3 := Lib.hid hb; clear hno hb HB2
            by_cases hjl : j < l.length
            · have dj : decide ((j : Int) < (l.length : Int)) = true := by simp; omega
              have hgj := fCells_get l j hjl
              have f0 := (HB3.out.cell (p := ⟨b, o + j * 2, none⟩) hbl).trans (HCC.out _ _ hgj.1)
              have g0 := (HB3.out.cell (p := ⟨b, o + k * 2, none⟩) hbl).trans (HCC.out _ _ (fCells_get l k hlt).1)
              have htj := (text_le l j hjl).1
              rw [← HN.out] at g0
              obtain ⟨qm, hqm⟩ : ∃ qm, qm = l[j].name := ⟨_, rfl⟩
              rw [← hqm] at f0 htj
              obtain ⟨T, hT⟩ : ∃ T : ByteArray, T = nm ++ ⟨#[47]⟩ := ⟨_, rfl⟩
              have hap : T.size = nm.size + 1 := by rw [hT, Sha.app_size]; rfl
              have hun : T.data.toList.isPrefixOf qm.data.toList = Nam.under nm.data.toList ((names l)[j]'(by rw [names_len]; exact hjl)) := by rw [hT, slash_data, names_at l j hjl, ← hqm]; rfl
              have HUN := Lib.hid hun; have HT := Lib.hid hT; clear hun hqm hgj hT
              have hsz := HSZ.out
              go_wp2_with fail
              refine Lex.wp_region_lex (by kernel_rfl) (by kernel_rfl) ?_
              go_wp2_with fail
              rw [← HT.out]
              refine (r49begins_any qm T _ (by omega) (by omega)).mono ?_
              rintro _ _ ⟨rfl, rfl⟩
              rw [HUN.out]
              cases hu : Nam.under nm.data.toList ((names l)[j]'(by rw [names_len]; exact hjl)) with
              | true =>
                have hbad : namesA l = false := by
                  rw [HST2.out, any_hit (by rw [names_len]; exact hjl) hu]
                  rfl
                have HBAD := Lib.hid hbad; clear hbad hu
                have HB2 := Lib.hid (HB3.out.drew)
                go_wp2_with fail
                refine Lex.Ends.intro (by kernel_rfl) ?_
                have hbd := arch_bad HBAD.out
                go_wp2_with fail
                go_ret
                exact ⟨by rw [HRE.out, hbd.2]; rfl, HB2.out⟩
              | false =>
                have hno2 := any_take (p := fun q => Nam.under nm.data.toList q) (by rw [names_len]; exact hjl) HNO.out hu
                have HNO2 := Lib.hid hno2; clear hno2 hu
                go_wp2_with fail
                refine Lex.Ends.intro (by kernel_rfl) ?_
                go_wp2_with fail
                exact ⟨⟨j + 1, by omega, by go_num, HNO2.out, HB3.out.drew⟩, by simp [intOf]; omega⟩
            · have dj : decide ((j : Int) < (l.length : Int)) = false := by simp; omega
              have hno := HNO.out
              rw [List.take_of_length_le (by rw [names_len]; omega)] at hno
              have hst := HST2.out
              rw [hno, Bool.not_false, Bool.true_and] at hst
              have hrf : RfI l (k + 1) := hst
              have HRF2 := Lib.hid hrf; clear hst hno hrf
              go_wp2_with fail
              exact ⟨⟨k + 1, by omega, by go_num, HRF2.out, HB3.out⟩, by simp [intOf]; omega⟩
      · have dk0 : decide ((0 : Int) < (k : Int)) = true := by simp; omega
        have n0 : 0 < k := by omega
        have hjl : k - 1 < l.length := by omega
        have hgj := fCells_get l (k - 1) hjl
        have f0 := (HB.out.cell (p := ⟨b, o + (k - 1) * 2, none⟩) hbl).trans (HCC.out _ _ hgj.1)
        obtain ⟨pm, hpm⟩ : ∃ pm, pm = l[k - 1].name := ⟨_, rfl⟩
        rw [← hpm] at f0
        have hj : k = (k - 1) + 1 := by omega
        have HPM := Lib.hid hpm; have HJ := Lib.hid hj; clear hpm hj hgj k0
        go_wp2_with fail
        refine Lex.wp_region_lex (by kernel_rfl) (by kernel_rfl) ?_
        go_wp2_with fail
        refine (r49Name_any nm _ (by omega)).mono ?_
        rintro _ _ ⟨rfl, rfl⟩
        cases hok : Nam.nameOK nm with
        | false =>
          have hbad : namesA l = false := by rw [HST.out, ← Nam.nameOK_L, hok]; rfl
          have HBAD := Lib.hid hbad; clear hbad hok
          go_wp2_with fail
          refine Lex.Ends.intro (by kernel_rfl) ?_
          have hbd := arch_bad HBAD.out
          go_wp2_with fail
          go_ret
          exact ⟨by rw [HRE.out, hbd.2]; rfl, HB2.out⟩
        | true =>
          have hord : Nam.order ((names l).take k) nm.data.toList = Op.bytesLess pm.toList nm.toList := by
            rw [show (names l).take k = (names l).take ((k - 1) + 1) from congrArg (fun q => (names l).take q) HJ.out, Nam.order_succ (names l) (k - 1) (by rw [names_len]; exact hjl), names_at l (k - 1) hjl, ← HPM.out, ByteArray.toList_eq, ByteArray.toList_eq]
          have hst := HST.out
          rw [← Nam.nameOK_L, hok, hord, Bool.true_and] at hst
          clear hok hord
          cases hls : Op.bytesLess pm.toList nm.toList with
          | false =>
            have hbad : namesA l = false := by rw [hst, hls]; rfl
            have HBAD := Lib.hid hbad; clear hbad hst
            go_wp2_with fail
            refine Lex.Ends.intro (by kernel_rfl) ?_
            have hbd := arch_bad HBAD.out
            go_wp2_with fail
            go_ret
            exact ⟨by rw [HRE.out, hbd.2]; rfl, HB2.out⟩
          | true =>
            rw [hls, Bool.true_and] at hst
            have HST2 := Lib.hid hst; clear hst
            go_wp2_with fail
            refine Lex.Ends.intro (by kernel_rfl) ?_
            go_wp2_with fail
            go_loopw [4] (fun q wx => ∃ j : Nat, j ≤ l.length ∧ q = .int .i64 j ∧ ((names l).take j).any (fun q => Nam.under nm.data.toList q) = false ∧ Below w.heap.size w wx) (fun q _ => l.length - (intOf q).toNat)
            case atStart => exact ⟨0, by omega, rfl, rfl, HB2.out⟩
            case round =>
              obtain ⟨j, hj, rfl, hno, hb⟩ := hrel
              have HNO := Lib.hid hno; have HB3 := Lib.hid hb; clear hno hb HB2
              by_cases hjl : j < l.length
              · have dj : decide ((j : Int) < (l.length : Int)) = true := by simp; omega
                have hgj := fCells_get l j hjl
                have f0 := (HB3.out.cell (p := ⟨b, o + j * 2, none⟩) hbl).trans (HCC.out _ _ hgj.1)
                have g0 := (HB3.out.cell (p := ⟨b, o + k * 2, none⟩) hbl).trans (HCC.out _ _ (fCells_get l k hlt).1)
                have htj := (text_le l j hjl).1
                rw [← HN.out] at g0
                obtain ⟨qm, hqm⟩ : ∃ qm, qm = l[j].name := ⟨_, rfl⟩
                rw [← hqm] at f0 htj
                obtain ⟨T, hT⟩ : ∃ T : ByteArray, T = nm ++ ⟨#[47]⟩ := ⟨_, rfl⟩
                have hap : T.size = nm.size + 1 := by rw [hT, Sha.app_size]; rfl
                have hun : T.data.toList.isPrefixOf qm.data.toList = Nam.under nm.data.toList ((names l)[j]'(by rw [names_len]; exact hjl)) := by rw [hT, slash_data, names_at l j hjl, ← hqm]; rfl
                have HUN := Lib.hid hun; have HT := Lib.hid hT; clear hun hqm hgj hT
                have hsz := HSZ.out
                go_wp2_with fail
                refine Lex.wp_region_lex (by kernel_rfl) (by kernel_rfl) ?_
                go_wp2_with fail
                rw [← HT.out]
                refine (r49begins_any qm T _ (by omega) (by omega)).mono ?_
                rintro _ _ ⟨rfl, rfl⟩
                rw [HUN.out]
                cases hu : Nam.under nm.data.toList ((names l)[j]'(by rw [names_len]; exact hjl)) with
                | true =>
                  have hbad : namesA l = false := by
                    rw [HST2.out, any_hit (by rw [names_len]; exact hjl) hu]
                    rfl
                  have HBAD := Lib.hid hbad; clear hbad hu
                  have HB2 := Lib.hid (HB3.out.drew)
                  go_wp2_with fail
                  refine Lex.Ends.intro (by kernel_rfl) ?_
                  have hbd := arch_bad HBAD.out
                  go_wp2_with fail
                  go_ret
                  exact ⟨by rw [HRE.out, hbd.2]; rfl, HB2.out⟩
                | false =>
                  have hno2 := any_take (p := fun q => Nam.under nm.data.toList q) (by rw [names_len]; exact hjl) HNO.out hu
                  have HNO2 := Lib.hid hno2; clear hno2 hu
                  go_wp2_with fail
                  refine Lex.Ends.intro (by kernel_rfl) ?_
                  go_wp2_with fail
                  exact ⟨⟨j + 1, by omega, by go_num, HNO2.out, HB3.out.drew⟩, by simp [intOf]; omega⟩
              · have dj : decide ((j : Int) < (l.length : Int)) = false := by simp; omega
                have hno := HNO.out
                rw [List.take_of_length_le (by rw [names_len]; omega)] at hno
                have hst := HST2.out
                rw [hno, Bool.not_false, Bool.true_and] at hst
                have hrf : RfI l (k + 1) := hst
                have HRF2 := Lib.hid hrf; clear hst hno hrf
                go_wp2_with fail
                exact ⟨⟨k + 1, by omega, by go_num, HRF2.out, HB3.out⟩, by simp [intOf]; omega⟩
    · have hkl : k = l.length := by omega
      have dk : decide ((k : Int) < l.length) = false := by simp; omega
      have hok : namesA l = true := by
        have := HRF.out
        unfold RfI at this
        rw [hkl, List.drop_of_length_le (by rw [names_len]; exact Nat.le_refl _)] at this
        rw [this]
        rfl
      have HOK := Lib.hid hok; clear hok hkl
      by_cases h32 : l.length ≤ 32
      · have d32 : decide ((32 : Int) < (l.length : Int)) = false := by simp; omega
        go_wp2_with fail
        refine (r49bytes_any (.slice a l.length c) l _ (HFC.out.below HB.out) HSZ.out hl).mono ?_
        rintro _ w2 ⟨rfl, hb2⟩
        have HB2 := Lib.hid (HB.out.trans (hb2.mono HB.out.size)); clear hb2
        obtain ⟨X, hX⟩ : ∃ X, X = encA l := ⟨_, rfl⟩
        rw [← hX]
        have HX := Lib.hid hX; clear hX
        by_cases h64 : X.size ≤ 65536
        · have d64 : decide ((65536 : Int) < (X.size : Int)) = false := by simp; omega
          have hsz : sizeA l = true := by unfold sizeA; rw [← HX.out, decide_eq_true h32, decide_eq_true h64]; rfl
          have he : archE l = 0 := by unfold archE; rw [if_pos HOK.out, if_pos hsz]
          have HE := Lib.hid he; clear he hsz
          go_wp2_with fail
          go_ret
          exact ⟨by rw [HRE.out, HE.out]; rfl, HB2.out⟩
        · have d64 : decide ((65536 : Int) < (X.size : Int)) = true := by simp; omega
          have hsz : sizeA l = false := by unfold sizeA; rw [← HX.out, decide_eq_false h64]; simp
          have he : archE l = 7 := by unfold archE; rw [if_pos HOK.out, if_neg (by rw [hsz]; decide)]
          have HE := Lib.hid he; clear he hsz
          go_wp2_with fail
          go_ret
          exact ⟨by rw [HRE.out, HE.out]; rfl, HB2.out⟩
      · have d32 : decide ((32 : Int) < (l.length : Int)) = true := by simp; omega
        have hsz : sizeA l = false := by unfold sizeA; rw [decide_eq_false h32]; simp
        have he : archE l = 7 := by unfold archE; rw [if_pos HOK.out, if_neg (by rw [hsz]; decide)]
        have HE := Lib.hid he; clear he hsz
        go_wp2_with fail
        go_ret
        exact ⟨by rw [HRE.out, HE.out]; rfl, HB.out⟩
end Go.Proofs.YtjlpdknomdhbhaaGreatDoor
namespace Go.Proofs.YtjlpdknomdhbhaaGreatDoor
set_option linter.unusedVariables false
set_option linter.unusedSimpArgs false
open Go Go.RowKit Go.Maps
theorem rarc_done {tmps : Array Value} {w : World} {b : Nat} {v0 v1 v2 p3 : Value} {Q : Ending → World → Prop} (hp : tmps.getD 2 undef = .pointer (some ⟨b, 0, none⟩)) (h3 : tmps.getD 3 undef = p3) (hat : At w b 24 #[v0, v1, v2])
    (hq : Q (.returned (.tuple #[.agg #[v0, v1, v2], p3])) w) : bodyPost Tryz.prog Tryz.f20 Q Exit.ret { tmps := tmps, defers := [] } w := by
  refine bodyPost_ret (v := .tuple #[.agg #[v0, v1, v2], p3]) ?_ rfl hq
  rw [results_cell_tmp (p := 2) (u := 3) (ty := 24) rfl, hp, h3]
  simp [asAddr, run_loadVar_row w b 24 24 _ (0, 0) _ hat Tryz.underlying24 rfl info_Object]
theorem arch_none {l : List FileD} (h : archE l ≠ 0) : archO l = Obj.none := by
  unfold archE at h
  unfold archO
  by_cases h1 : namesA l = true
  · rw [if_pos h1] at h
    by_cases h2 : sizeA l = true
    · rw [if_pos h2] at h; exact absurd rfl h
    · exact if_neg (fun e => h2 e.2)
  · exact if_neg (fun e => h1 e.1)
theorem arch_some {l : List FileD} (h : archE l = 0) : archO l = ⟨0, [], encA l⟩ := by
  unfold archE at h
  unfold archO
  by_cases h1 : namesA l = true
  · rw [if_pos h1] at h
    by_cases h2 : sizeA l = true
    · exact if_pos ⟨h1, h2⟩
    · rw [if_neg h2] at h; cases h
  · rw [if_neg h1] at h; cases h
set_option maxRecDepth 100000 in
set_option maxHeartbeats 2000000 in
theorem r49Archive_any (v : Value) (l : List FileD) (w : World) (h : FilesC w v l) (hr : (encA l).size ≤ 140737488340000) (hl : l.length ≤ 1000000) :
    Calls Tryz.prog 20 #[v] w fun e w' => e = .returned (.tuple #[objV (archO l) (.slice none 0 0), .int .i64 (archE l)]) ∧ Below w.heap.size w w' := by
  have HFC := Lib.hid h
  obtain ⟨a, c, rfl, _⟩ := h
  obtain ⟨RO, hRO⟩ : ∃ R, R = objV (archO l) (.slice none 0 0) := ⟨_, rfl⟩
  obtain ⟨RE, hRE⟩ : ∃ R, R = archE l := ⟨_, rfl⟩
  rw [← hRO, ← hRE]
  have HRO := Lib.hid hRO; have HRE := Lib.hid hRE; have HSZ := Lib.hid hr; clear hRO hRE hr
  go_enter Tryz.func20, Tryz.ntmps20
  have hb0 : Below w.heap.size w (w.alloc (.cells #[.int .i64 0, .slice none 0 0, .string ⟨#[]⟩] 24)) := (Below.refl _ _).alloc (Nat.le_refl _) _
  have hob : At (w.alloc (.cells #[.int .i64 0, .slice none 0 0, .string ⟨#[]⟩] 24)) w.heap.size 24 #[.int .i64 0, .slice none 0 0, .string ⟨#[]⟩] := At.new _ _ _
  have HB0 := Lib.hid hb0; have HOB := Lib.hid hob; clear hb0 hob
  go_wp2_with fail
  refine (r49ValidFiles_any (.slice a l.length c) l _ (HFC.out.below HB0.out) HSZ.out hl).mono ?_
  rintro _ w1 ⟨rfl, hb1⟩
  rw [← HRE.out]
  have HB1 := Lib.hid (HB0.out.trans (hb1.mono HB0.out.size)); have HOB1 := Lib.hid (HOB.out.below hb1 HOB.out.lt); clear hb1
  have z0 := HOB1.out.free 0; have z1 := HOB1.out.free 1; have z2 := HOB1.out.free 2
  have y0 := HOB1.out.cell 0; have y1 := HOB1.out.cell 1; have y2 := HOB1.out.cell 2
  simp only [List.getElem?_toArray, List.getElem?_cons_zero, List.getElem?_cons_succ] at y0 y1 y2
  by_cases he : RE = 0
  · have heb : (RE != 0) = false := by simpa using he
    have ho := arch_some (l := l) (by rw [← HRE.out]; exact he)
    have HE := Lib.hid he; have HO := Lib.hid ho; clear he ho
    go_wp2_with fail
    refine (r49bytes_any (.slice a l.length c) l _ (HFC.out.below HB1.out) HSZ.out hl).mono ?_
    rintro _ w2 ⟨rfl, hb2⟩
    have HB2 := Lib.hid (HB1.out.trans (hb2.mono HB1.out.size)); have HOB2 := Lib.hid (HOB1.out.below hb2 HOB1.out.lt); clear hb2 z0 z1 z2 y0 y1 y2
    have z0 := HOB2.out.free 0; have z1 := HOB2.out.free 1; have z2 := HOB2.out.free 2
    have y0 := HOB2.out.cell 0; have y1 := HOB2.out.cell 1; have y2 := HOB2.out.cell 2
    simp only [List.getElem?_toArray, List.getElem?_cons_zero, List.getElem?_cons_succ] at y0 y1 y2
    generalize encA l = X at *
    go_wp2_with fail
    refine rarc_done (p3 := .int .i64 0) rfl rfl (At.put3 HOB2.out _ _ _) ?_
    rw [HRO.out, HE.out, HO.out]
    exact ⟨rfl, below3 (b := w.heap.size) HB2.out (Nat.le_refl _) _ _ _⟩
  · have heb : (RE != 0) = true := by simpa using he
    have ho := arch_none (l := l) (by rw [← HRE.out]; exact he)
    have HE := Lib.hid he; have HO := Lib.hid ho; clear he ho
    go_wp2_with fail
    refine rarc_done (p3 := .int .i64 RE) rfl rfl (At.put3 HOB1.out _ _ _) ?_
    rw [HRO.out, HO.out]
    exact ⟨rfl, below3 (b := w.heap.size) HB1.out (Nat.le_refl _) _ _ _⟩
/-- n files are read, or none. -/
def rfFs (s : ByteArray) : Nat → Nat → Option (List FileD × Nat)
  | 0, a => some ([], a)
  | n + 1, a => match Cod.rdT s a with
    | none => none
    | some (x, b) => match Cod.rdT s b with
      | none => none
      | some (y, c) => (rfFs s n c).map fun p => (⟨x, y⟩ :: p.1, p.2)
theorem rfFs_succ' (s : ByteArray) (n a : Nat) : rfFs s (n + 1) a = match Cod.rdT s a with
    | none => none
    | some (x, b) => match Cod.rdT s b with
      | none => none
      | some (y, c) => (rfFs s n c).map fun p => (⟨x, y⟩ :: p.1, p.2) := rfl
theorem rdFs_off (s : ByteArray) : ∀ (n a : Nat) (e : Int), e ≠ 0 → (rdFs s n a e).2.2 = e
  | 0, _, _, _ => rfl
  | n + 1, a, e, he => by
    rw [rdFs_succ, tx_off s a e he]
    simp only
    rw [tx_off s a e he]
    exact rdFs_off s n a e he
theorem rfFs_some (s : ByteArray) : ∀ (n a : Nat), match rfFs s n a with
    | some (l, b) => rdFs s n a 0 = (l, b, 0)
    | none => (rdFs s n a 0).2.2 ≠ 0
  | 0, a => rfl
  | n + 1, a => by
    unfold rfFs
    cases h1 : Cod.rdT s a with
    | none =>
      simp only
      rw [rdFs_succ, tx_bad s a h1]
      simp only
      rw [tx_off s a 9 (by decide)]
      simp only
      rw [rdFs_off s n a 9 (by decide)]
      decide
    | some y =>
      obtain ⟨x, b⟩ := y
      simp only
      cases h2 : Cod.rdT s b with
      | none =>
        simp only
        rw [rdFs_succ, tx_ok s a x b h1]
        simp only
        rw [tx_bad s b h2]
        simp only
        rw [rdFs_off s n b 9 (by decide)]
        decide
      | some z =>
        obtain ⟨y, c⟩ := z
        simp only
        have ih := rfFs_some s n c
        cases h3 : rfFs s n c with
        | none =>
          rw [h3] at ih
          simp only [Option.map_none]
          rw [rdFs_succ, tx_ok s a x b h1]
          simp only
          rw [tx_ok s b y c h2]
          exact ih
        | some p =>
          obtain ⟨l, d⟩ := p
          rw [h3] at ih
          simp only [Option.map_some] at ih ⊢
          rw [rdFs_succ, tx_ok s a x b h1]
          simp only
          rw [tx_ok s b y c h2]
          simp only
          rw [ih]
/-- As the reference finds the files. -/
theorem filesF_none {s : ByteArray} (h : Cod.rdN s 0 = none) : filesF s = none := by
  unfold filesF rdC
  rw [h]
theorem filesF_much {s : ByteArray} {n a : Nat} (h : Cod.rdN s 0 = some (n, a)) (hn : ¬ n ≤ 32) : filesF s = none := by
  unfold filesF rdC
  rw [h]
  simp only
  rw [if_neg (by omega)]
theorem filesF_off {s : ByteArray} {n a : Nat} (h : Cod.rdN s 0 = some (n, a)) (hn : n ≤ 32) (h2 : rfFs s n a = none) : filesF s = none := by
  have := rfFs_some s n a
  rw [h2] at this
  unfold filesF rdC
  rw [h]
  simp only
  rw [if_pos (by omega)]
  simp only
  rw [if_neg (fun e => this e.2.1)]
theorem filesF_read {s : ByteArray} {n a b : Nat} {l : List FileD} (h : Cod.rdN s 0 = some (n, a)) (hn : n ≤ 32) (h2 : rfFs s n a = some (l, b)) : filesF s = if archE l = 0 ∧ b = s.size then some l else none := by
  have := rfFs_some s n a
  rw [h2] at this
  simp only at this
  unfold filesF rdC
  rw [h]
  simp only
  rw [if_pos (by omega)]
  simp only
  rw [this]
  simp
end Go.Proofs.YtjlpdknomdhbhaaGreatDoor
