/- A slice of strings in rising order is sorted (slices.IsSorted). Condition: at most a million strings. -/
import Derived.Test.YtjlpdknomdhbhaaGreatDoorSetM
namespace Go.Proofs.YtjlpdknomdhbhaaGreatDoor
set_option linter.unusedVariables false
set_option linter.unusedSimpArgs false
open Go Go.RowKit Go.Maps
set_option maxRecDepth 100000 in
theorem isNaN_any (x : ByteArray) (w : World) : Calls Tryz.prog 104 #[.string x] w fun e w' => e = .returned (.bool false) ∧ w' = w := by
  have k1 : (x.toList == x.toList) = true := beq_self_eq_true _
  go_enter Tryz.func104, Tryz.ntmps104
  go_wp2_with fail
  go_ret
  exact ⟨rfl, rfl⟩
set_option maxRecDepth 100000 in
theorem less_any (x y : ByteArray) (w : World) : Calls Tryz.prog 70 #[.string x, .string y] w fun e w' => e = .returned (.bool (Op.bytesLess x.toList y.toList)) ∧ w' = w := by
  obtain ⟨R, hR⟩ : ∃ R, R = Op.bytesLess x.toList y.toList := ⟨_, rfl⟩
  rw [← hR]
  have HR := Lib.hid hR; clear hR
  go_enter Tryz.func70, Tryz.ntmps70
  go_wp2_with fail
  refine (isNaN_any x _).mono ?_
  rintro e _ ⟨rfl, rfl⟩
  go_wp2_with fail
  go_ret
  rw [HR.out]
  exact ⟨rfl, rfl⟩
theorem incr_not_less {l : List ByteArray} (h : Incr l) {i : Nat} (hi : 0 < i) (hl : i < l.length) : Op.bytesLess (l.getD i ⟨#[]⟩).toList (l.getD (i - 1) ⟨#[]⟩).toList = false := by
  have h1 := (List.pairwise_iff_getElem.1 h) (i - 1) i (by omega) hl (by omega)
  have e1 : l.getD i ⟨#[]⟩ = l[i] := by simp [List.getD_eq_getElem?_getD, hl]
  have e2 : l.getD (i - 1) ⟨#[]⟩ = l[i - 1] := by simp [List.getD_eq_getElem?_getD, (by omega : i - 1 < l.length)]
  rw [e1, e2, ByteArray.toList_eq, ByteArray.toList_eq]
  show Nam.less _ _ = false
  cases hh : Nam.less l[i].data.toList l[i - 1].data.toList with
  | false => rfl
  | true => exact absurd (Nam.less_trans hh h1) (by rw [Nam.less_irrefl]; decide)
set_option maxRecDepth 100000 in
set_option maxHeartbeats 1000000 in
theorem isSorted_any (v : Value) (l : List ByteArray) (w : World) (h : StrsC w v l) (hi : Incr l) (hl : l.length ≤ 1000000) : Calls Tryz.prog 34 #[v] w fun e w' => e = .returned (.bool true) ∧ ∃ q, w' = w.drewN q := by
  have HC := Lib.hid h; have HI := Lib.hid hi
  obtain ⟨a, c, rfl⟩ := h.len
  clear h hi
  go_enter Tryz.func34, Tryz.ntmps34
  go_wp2_with fail
  go_loopw [3] (fun i wr => ∃ (i0 : Int) (m : Nat), i = .int .i64 i0 ∧ -1 ≤ i0 ∧ i0 < l.length ∧ wr = w.drewN m) (fun i _ => ((intOf i) + 1).toNat)
  case atStart => exact ⟨(l.length : Int) - 1, 0, by go_num, by omega, by omega, rfl⟩
  case round =>
    obtain ⟨i0, m, rfl, hi0, hi1, rfl⟩ := hrel
    by_cases hlt : 0 < i0
    · obtain ⟨q, rfl⟩ : ∃ q : Nat, i0 = ((q + 1 : Nat) : Int) := ⟨(i0 - 1).toNat, by omega⟩
      have hq : q + 1 < l.length := by omega
      have dk : decide ((0 : Int) < ((q + 1 : Nat) : Int)) = true := by simp <;> omega
      obtain ⟨a', c', he, hcd⟩ := HC.out.below (below_drewN (Below.refl _ _) (m + 1))
      cases he
      obtain ⟨b, o, rfl, hcc⟩ := hcd.resolve_left (by omega)
      clear hcd
      have e1 : wrap64 (((q + 1 : Nat) : Int) - 1) = q := by unfold wrap64; omega
      have hb : (0 : Int) ≤ ((q + 1 : Nat) : Int) ∧ ((q + 1 : Nat) : Int) < l.length := by omega
      have g1 := hcc (q + 1) hq; have g2 := hcc q (by omega)
      have hn := incr_not_less HI.out (i := q + 1) (by omega) hq
      rw [Nat.add_sub_cancel] at hn
      generalize l.getD (q + 1) ⟨#[]⟩ = x at *
      generalize l.getD q ⟨#[]⟩ = y at *
      have HN := Lib.hid hn; have HCC := Lib.hid hcc; clear hn hcc
      go_wp2_with fail
      refine Lex.wp_region_lex (by kernel_rfl) (by kernel_rfl) ?_
      go_wp2_with fail
      refine (less_any x y _).mono ?_
      rintro e _ ⟨rfl, rfl⟩
      rw [HN.out]
      go_wp2_with fail
      refine Lex.Ends.intro (by kernel_rfl) ?_
      go_wp2_with fail
      exact ⟨⟨q, _, by go_num, by omega, by omega, rfl⟩, by simp [intOf]; omega⟩
    · have dk : decide ((0 : Int) < i0) = false := by simp; omega
      go_wp2_with fail
      go_ret
      exact ⟨rfl, m, rfl⟩
end Go.Proofs.YtjlpdknomdhbhaaGreatDoor
