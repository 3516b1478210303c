/- The program's SHA-256 takes bytes: its state is that of all the bytes. Condition: the state is held at a block of the heap. -/
import Derived.Test.YtjlpdknomdhbhaaGreatDoorShaD
import Derived.Test.YtjlpdknomdhbhaaGreatDoorShaStream
namespace Go.Proofs.YtjlpdknomdhbhaaGreatDoor
set_option linter.unusedVariables false
set_option linter.unusedSimpArgs false
open Go Go.RowKit
/-- Block b is a SHA-256 state after the bytes m. -/
def Held (w : World) (b : Nat) (m : ByteArray) : Prop := At w b 138 (hash (Sha.state m) (Sha.rest m) ((m.size : Int) % 18446744073709551616))
theorem hash8 (v : List Int) (r : ByteArray) (t : Int) (h : v.length = 8) : (hash v r t)[8]? = some (.string r) := by
  unfold hash
  rw [Array.getElem?_append_right (by rw [Sha.row_size]; omega), Sha.row_size, h]
  rfl
theorem hash9 (v : List Int) (r : ByteArray) (t : Int) (h : v.length = 8) : (hash v r t)[9]? = some (.int .u64 t) := by
  unfold hash
  rw [Array.getElem?_append_right (by rw [Sha.row_size]; omega), Sha.row_size, h]
  rfl
theorem hash8_set (v : List Int) (r r' : ByteArray) (t : Int) (h : v.length = 8) : (hash v r t).setIfInBounds 8 (.string r') = hash v r' t := by
  unfold hash
  rw [Array.setIfInBounds_append_right (by rw [Sha.row_size]; omega), Sha.row_size, h]
  rfl
theorem hash9_set (v : List Int) (r : ByteArray) (t t' : Int) (h : v.length = 8) : (hash v r t).setIfInBounds 9 (.int .u64 t') = hash v r t' := by
  unfold hash
  rw [Array.setIfInBounds_append_right (by rw [Sha.row_size]; omega), Sha.row_size, h]
  rfl
theorem clone_any (s : ByteArray) (w : World) (h : s.size ≤ 281474976710656) :
    Calls Tryz.prog 108 #[.string s] w fun e w' => e = .returned (.string s) ∧ Below w.heap.size w w' := by
  go_enter Tryz.func108, Tryz.ntmps108
  go_wp2_with fail
  refine (Tryz.stringslite_Clone s _ h).mono ?_
  rintro e w' ⟨rfl, hb⟩
  go_wp2_with fail
  go_ret
  exact ⟨rfl, hb⟩
set_option maxHeartbeats 1000000 in
set_option maxRecDepth 100000 in
theorem write_any (b : Nat) (m s : ByteArray) (w : World) (hs : s.size ≤ 9223372036854775000) (hh : Held w b m) :
    Calls Tryz.prog 80 #[.pointer (some ⟨b, 0, none⟩), .string s] w fun e w' => e = .returned (.tuple #[]) ∧ Held w' b (m ++ s) ∧ Fr (fun k => k = b) w w' := by
  have hlt := hh.lt
  have hl := (Sha.state_word m).1
  have hc8 := hh.cell 8; have hc9 := hh.cell 9
  rw [hash8 _ _ _ hl] at hc8
  rw [hash9 _ _ _ hl] at hc9
  have f8 : w.frozen? ⟨b, 8, none⟩ = false := hh.free 8
  have f9 : w.frozen? ⟨b, 9, none⟩ = false := hh.free 9
  have hsz : ¬ 9223372036854775807 < (Sha.rest m).size + s.size := by rw [Sha.rest_size]; omega
  have HH := Lib.hid hh; clear hh
  go_enter Tryz.func80, Tryz.ntmps80
  go_wp2_with fail
  have hmore := Sha.state_more m s
  have hrest := Sha.rest_more m s
  rw [← Sha.app_size] at hsz
  have hw0 : At (w.setCell ⟨b, 9, none⟩ (.int .u64 (IntKind.u64.wrap ((m.size : Int) % 18446744073709551616 + s.size)))) b 138 (hash (Sha.state m) (Sha.rest m) (((m ++ s).size : Int) % 18446744073709551616)) := by
    have h := At.set HH.out 9 (.int .u64 (IntKind.u64.wrap ((m.size : Int) % 18446744073709551616 + s.size)))
    rw [hash9_set _ _ _ _ hl, IntKind.wrap_u64] at h
    rw [Sha.app_size, IntKind.wrap_u64]
    have e : ((m.size + s.size : Nat) : Int) % 18446744073709551616 = ((m.size : Int) % 18446744073709551616 + s.size) % 18446744073709551616 := by omega
    rw [e]
    exact h
  have hfr0 : Fr (fun k => k = b) w (w.setCell ⟨b, 9, none⟩ (.int .u64 (IntKind.u64.wrap ((m.size : Int) % 18446744073709551616 + s.size))))   := (Fr.refl (fun k => k = b) w).setCell (p := ⟨b, 9, none⟩) (Or.inl rfl) _
  generalize Sha.rest m ++ s = S at *
  generalize hT : ((m ++ s).size : Int) % 18446744073709551616 = T at *
  have HT := Lib.hid hT; clear hT
  have HW0 := Lib.hid hw0; have HF0 := Lib.hid hfr0; clear hw0 hfr0 hc8 hc9 f8 f9
  have HM := Lib.hid hmore; have HR := Lib.hid hrest; clear hmore hrest
  go_loopw [1] (fun v wr => ∃ j : Nat, 64 * j ≤ S.size ∧ v = .string (S.extract (64 * j) S.size) ∧ At wr b 138 (hash (Sha.run (Sha.state m) S j) (Sha.rest m) T) ∧ Fr (fun k => k = b) w wr)
    (fun v _ => match v with | .string x => x.size | _ => 0)
  case atStart =>
    refine ⟨0, by omega, ?_, HW0.out, HF0.out⟩
    have : S.extract 0 S.size = S := by apply Sha.ba_ext; rw [Sha.ex_list, List.drop_zero]; exact List.take_of_length_le (by rw [Sha.len_list]; omega)
    rw [Nat.mul_zero, this]
  case round =>
    obtain ⟨j, hj, rfl, hw, hf⟩ := hrel
    have hxs : (S.extract (64 * j) S.size).size = S.size - 64 * j := by
      rw [ByteArray.size_extract]; omega
    by_cases hge : 64 ≤ S.size - 64 * j
    · have dge : decide (64 ≤ ((S.extract (64 * j) S.size).size : Int)) = true := by rw [hxs]; simp; omega
      have HX := Lib.hid hxs
      have HW := Lib.hid hw; clear hw
      have HF := Lib.hid hf; clear hf
      have h1 : (S.extract (64 * j) S.size).extract 0 64 = S.extract (64 * j) (64 * j + 64) := by
        apply Sha.ba_ext
        rw [Sha.ex_list, Sha.ex_list, Sha.ex_list, List.drop_zero, List.take_take]
        congr 1
        omega
      have h2 : (S.extract (64 * j) S.size).extract 64 (S.size - 64 * j) = S.extract (64 * (j + 1)) S.size := by
        apply Sha.ba_ext
        rw [Sha.ex_list, Sha.ex_list, Sha.ex_list, List.drop_take, List.drop_drop, List.take_take, show 64 * j + 64 = 64 * (j + 1) by omega]
        congr 1
        omega
      have H1 := Lib.hid h1; have H2 := Lib.hid h2; clear h1 h2
      have h64 : (S.extract (64 * j) (64 * j + 64)).size = 64 := by rw [ByteArray.size_extract]; omega
      have H64 := Lib.hid h64; clear h64
      go_wp2_with fail
      rw [H1.out]
      refine (add_any b _ _ _ _ wr H64.out ((Sha.state_word m).run S j) HW.out).mono ?_
      rintro e w1 ⟨rfl, hw, hf⟩
      have HW := Lib.hid hw; clear hw
      have HF' := Lib.hid hf; clear hf
      go_wp2_with fail
      refine ⟨⟨j + 1, by omega, by rw [H2.out], HW.out, HF.out.trans HF'.out (fun k hk => Or.inl hk)⟩, ?_⟩
      show ((S.extract (64 * j) S.size).extract 64 (S.size - 64 * j)).size < (S.extract (64 * j) S.size).size
      rw [H2.out, HX.out, ByteArray.size_extract]
      omega
    · have hj' : j = S.size / 64 := by omega
      have dge : decide (64 ≤ ((S.extract (64 * j) S.size).size : Int)) = false := by rw [hxs]; simp; omega
      have hx : S.extract (64 * j) S.size = Sha.rest (m ++ s) := by rw [hj']; exact HR.out
      have hr : Sha.run (Sha.state m) S j = Sha.state (m ++ s) := by rw [hj']; exact HM.out
      rw [hr] at hw
      rw [hx] at hxs dge ⊢
      have hl' := (Sha.state_word (m ++ s)).1
      have f8 : wr.frozen? ⟨b, 8, none⟩ = false := hw.free 8
      have c8 := hw.cell 8
      rw [hash8 _ _ _ hl'] at c8
      have hlw := hw.lt
      have HW := Lib.hid hw; clear hw
      have HF := Lib.hid hf; clear hf hj' hx hr
      go_wp2_with fail
      refine (clone_any _ _ (by omega)).mono ?_
      rintro e w1 ⟨rfl, hb⟩
      have hw1 := HW.out.below hb hlw
      have f8' : w1.frozen? ⟨b, 8, none⟩ = false := hw1.free 8
      have c8' := hw1.cell 8
      rw [hash8 _ _ _ hl'] at c8'
      have HW1 := Lib.hid hw1
      have HB := Lib.hid hb; clear hb hw1
      go_wp2_with fail
      go_end0
      refine ⟨rfl, ?_, (HF.out.trans (Fr.of_below HB.out) (F := fun k => k = b) (G := fun k => k = b) (fun k hk => Or.inl hk)).setCell (p := ⟨b, 8, none⟩) (Or.inl rfl) _⟩
      have h := HW1.out.set 8 (.string (Sha.rest (m ++ s)))
      rw [hash8_set _ _ _ _ hl'] at h
      unfold Held
      rw [HT.out]
      exact h
end Go.Proofs.YtjlpdknomdhbhaaGreatDoor
