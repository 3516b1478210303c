/- Runes among '.', '_', '-': the library's ContainsRune at every rune. No condition. A part of a file's name: the predicate of one rune. No condition. Names of files, plainly: the parts of a name, what a valid name is, and the two ways to find it. No condition. A part of a file's name. No condition. slices.IndexFunc, ContainsFunc of strings, with any function value that answers for what is in the slice. Condition: the list is in reach. A file's name. Condition: the world holds bytealg.MaxLen. -/
import Derived.Test.YtjlpdknomdhbhaaGreatDoorStrs
import Derived.Test.YtjlpdknomdhbhaaGreatDoorLex
import Derived.Test.YtjlpdknomdhbhaaGreatDoorShelf
import Derived.Test.YtjlpdknomdhbhaaGreatDoorObjP
import Derived.Lib.Split
import Derived.Test.YtjlpdknomdhbhaaGreatDoorMem
import Derived.Laws.EntriesVeiled
import Derived.Lib.Hide
import Derived.Lib.SplitLaws
namespace Go.Proofs.YtjlpdknomdhbhaaGreatDoor
set_option linter.unusedVariables false
set_option linter.unusedSimpArgs false
open Go Go.RowKit
def dots : ByteArray := ⟨#[46, 95, 45]⟩
theorem enc_hi (r : Int) (h0 : 128 ≤ r) : ∃ (l : List UInt8) (u : UInt8), (Utf8.encode r).data.toList = l ++ [u] ∧ 1 ≤ l.length ∧ l.length ≤ 3 ∧ 128 ≤ u.toNat := by
  have hb : ∀ c : Nat, 128 ≤ (UInt8.ofNat (0x80 + c % 64)).toNat := fun c => by
    have e : (UInt8.ofNat (0x80 + c % 64)).toNat = (0x80 + c % 64) % 256 := by simp
    omega
  obtain ⟨c, hc⟩ : ∃ c, c = if Utf8.valid r then r.toNat else Utf8.runeError := ⟨_, rfl⟩
  have hc2 : 128 ≤ c := by
    rw [hc]
    split
    · omega
    · decide
  have e : Utf8.encode r = if c < 0x80 then ⟨#[UInt8.ofNat c]⟩
      else if c < 0x800 then ⟨#[UInt8.ofNat (0xC0 + c / 64), UInt8.ofNat (0x80 + c % 64)]⟩
      else if c < 0x10000 then ⟨#[UInt8.ofNat (0xE0 + c / 4096), UInt8.ofNat (0x80 + c / 64 % 64), UInt8.ofNat (0x80 + c % 64)]⟩
      else ⟨#[UInt8.ofNat (0xF0 + c / 262144), UInt8.ofNat (0x80 + c / 4096 % 64), UInt8.ofNat (0x80 + c / 64 % 64), UInt8.ofNat (0x80 + c % 64)]⟩ := by
    rw [hc]
    rfl
  rw [e, if_neg (by omega)]
  by_cases h1 : c < 0x800
  · rw [if_pos h1]
    exact ⟨[UInt8.ofNat (0xC0 + c / 64)], _, rfl, by simp, by simp, hb c⟩
  · rw [if_neg h1]
    by_cases h2 : c < 0x10000
    · rw [if_pos h2]
      exact ⟨[UInt8.ofNat (0xE0 + c / 4096), UInt8.ofNat (0x80 + c / 64 % 64)], _, rfl, by simp, by simp, hb c⟩
    · rw [if_neg h2]
      exact ⟨[UInt8.ofNat (0xF0 + c / 262144), UInt8.ofNat (0x80 + c / 4096 % 64), UInt8.ofNat (0x80 + c / 64 % 64)], _, rfl, by simp, by simp, hb c⟩
theorem indexByte_hi (u : UInt8) (hu : 128 ≤ u.toNat) (l : List UInt8) (h : ∀ b ∈ l, b.toNat < 128) : Lib.indexByte l u = -1 := by
  induction l with
  | nil => rfl
  | cons b l ih =>
    have hb := h b (by simp)
    have e : (b == u) = false := by
      rw [beq_eq_false_iff_ne]
      rintro rfl
      omega
    have hl := ih fun b' hb' => h b' (by simp [hb'])
    simp [Lib.indexByte, e, hl]
theorem dots_get : ∀ (i : Nat) (h : i < dots.size), (dots[i]).toNat < 128 := by decide
theorem dots_lo (i j : Nat) : ∀ b ∈ (dots.extract i j).data.toList, b.toNat < 128 := by
  intro b hb
  have h : b ∈ dots.data.toList := by
    rw [ByteArray.data_extract, Array.toList_extract] at hb
    simp only [List.extract] at hb
    exact List.mem_of_mem_drop (List.mem_of_mem_take hb)
  have e : dots.data.toList = [46, 95, 45] := rfl
  rw [e] at h
  simp at h
  rcases h with rfl | rfl | rfl <;> decide
set_option maxRecDepth 100000 in
set_option maxHeartbeats 2000000 in
theorem idxRune_hi (r : Int) (w : World) (h0 : 128 ≤ r) (h1 : r ≤ 1114111) :
    Calls Tryz.prog 146 #[.string dots, .int .i32 r] w fun e w' => e = .returned (.int .i64 (-1)) ∧ Below w.heap.size w w' := by
  have d1 : decide (r < 128) = false := by simp; omega
  by_cases he : r = 65533
  · subst he
    go_enter Tryz.func146, Tryz.ntmps146
    go_wp2_with fail
    go_loopw [] (fun w' => ∃ pos : Nat, w' = w.iter dots pos) (fun w' => dots.size - w'.iterPos w.heap.size)
    case atStart => exact ⟨0, rfl⟩
    case round =>
      obtain ⟨pos, rfl⟩ := hrel
      by_cases hp : pos < dots.size
      · have hnx : ∀ ty, (Instr.next (.pointer (some ⟨w.heap.size, 0, none⟩)) true ty).run Tryz.prog (w.iter dots pos) = _ := fun ty => run_next_any w dots pos ty hp
        have hg := dots_get pos hp
        have hd : Utf8.decode dots pos = ((dots[pos]).toNat, 1) := by
          first
            | exact decode_ascii dots pos hp hg
            | (rw [decode_ascii dots pos hp hg])
        rw [hd] at hnx
        have dr : (((dots[pos]).toNat : Int) == 65533) = false := by
          simp
          omega
        go_wp2_with fail
        go_roundw
        case rel => exact ⟨pos + 1, rfl⟩
        case measure =>
          simp
          omega
      · have hnx : ∀ ty, (Instr.next (.pointer (some ⟨w.heap.size, 0, none⟩)) true ty).run Tryz.prog (w.iter dots pos) = _ := fun ty => run_next_end w dots pos ty hp
        go_wp2_with fail
        go_ret
        refine ⟨rfl, rfl, rfl, rfl, ?_, fun k hk => ?_⟩
        · show w.heap.size ≤ (w.heap.push (Obj.stringIter dots pos)).size
          simp
        · show (w.heap.push (Obj.stringIter dots pos))[k]? = _
          rw [Array.getElem?_push, if_neg (by omega)]
  · have d2 : (r == 65533) = false := by simpa using he
    go_enter Tryz.func146, Tryz.ntmps146
    go_wp2_with fail
    refine (Tryz.utf8_ValidRune r _).mono ?_
    rintro e w1 ⟨rfl, rfl⟩
    cases hv : Lib.validRune r with
    | false =>
      go_wp2_with fail
      go_ret
      exact ⟨rfl, Below.refl _ _⟩
    | true =>
      obtain ⟨l, u, hl, hl1, hl3, hu⟩ := enc_hi r h0
      obtain ⟨E, hE⟩ : ∃ E, E = Utf8.encode r := ⟨_, rfl⟩
      rw [← hE] at hl
      have hsz : E.size = l.length + 1 := by show E.data.size = _; rw [← Array.length_toList, hl]; simp
      have hEE := Lib.hid hE; clear hE
      go_wp2_with fail
      go_step3
      go_upto_region 2 with fail
      rw [← hEE.out]
      go_wp2_with fail
      go_loopw [9, 10] (fun i f wr => i = .int .i64 (l.length : Int) ∧ f = .int .i64 0 ∧ wr = w1) (fun _ _ _ => 1)
      case atStart => exact ⟨rfl, rfl, rfl⟩
      case round =>
        obtain ⟨rfl, rfl, rfl⟩ := hrel
        by_cases h3 : l.length = 3
        · have d3 : decide ((l.length : Int) < 3) = false := by simp; omega
          go_wp2_with fail
          rw [Exit.noGoto_ret]
          go_ret
          exact ⟨rfl, Below.refl _ _⟩
        · have d3 : decide ((l.length : Int) < dots.size) = true := by
            have : (dots.size : Int) = 3 := rfl
            simp; omega
          have d4 : l.length < dots.size := by
            have : dots.size = 3 := rfl
            omega
          go_wp2_with fail
          have hE6 : l.length < E.size := by omega
          have eu : E[l.length] = u := by
            have : E.data[l.length]? = some u := by rw [← Array.getElem?_toList, hl]; simp
            show E.data[l.length] = u
            rw [Array.getElem?_eq_getElem hE6] at this
            exact Option.some.inj this
          have hv := dots_get l.length d4
          have d6 : (((dots[l.length]).toNat : Int) != ((E[l.length]).toNat : Int)) = true := by
            rw [eu]
            simp
            omega
          go_step3
          go_upto_region 6 with fail
          refine Lex.wp_region_lex (by kernel_rfl) (by kernel_rfl) ?_
          go_wp2_with fail
          refine Lex.Ends.intro (by kernel_rfl) ?_
          go_wp2_with fail
          refine Lex.wp_region_lex (by kernel_rfl) (by kernel_rfl) ?_
          go_wp2_with fail
          refine (Tryz.strings_IndexByte _ _ _).mono ?_
          rintro e w1 ⟨rfl, rfl⟩
          have eI : Lib.indexByte (dots.extract (l.length + 1) dots.size).data.toList ((u.toNat : Int).toNat.toUInt8) = -1 := by
            have : ((u.toNat : Int).toNat.toUInt8) = u := by simp
            rw [this]
            exact indexByte_hi u hu _ (dots_lo _ _)
          rw [eI]
          go_wp2_with fail
          refine Lex.Ends.intro (by kernel_rfl) ?_
          go_wp2_with fail
          rw [Exit.noGoto_ret]
          show Exit.noGoto (Exit.inBlock 0 _) Exit.ret _ _
          rw [Exit.noGoto_ret]
          show Exit.noGoto (Exit.inBlock 0 _) Exit.ret _ _
          rw [Exit.noGoto_ret]
          simp only [Exit.inBlock, Exit.then, Exit.noGoto_ret]
          go_ret
          exact ⟨rfl, ⟨rfl, rfl, rfl, Nat.le_refl _, fun _ _ => rfl⟩⟩
theorem indexByte_dots (r : Int) (h0 : 0 ≤ r) (h1 : r < 128) :
    decide (0 ≤ Lib.indexByte dots.data.toList r.toNat.toUInt8) = (r == 46 || r == 95 || r == 45) := by
  obtain ⟨n, rfl⟩ := Int.eq_ofNat_of_zero_le h0
  have hn : n < 128 := by omega
  revert hn
  clear h0 h1
  have : ∀ n : Nat, n < 128 → decide (0 ≤ Lib.indexByte dots.data.toList ((n : Int)).toNat.toUInt8) = ((n : Int) == 46 || (n : Int) == 95 || (n : Int) == 45) := by
    set_option maxRecDepth 100000 in decide
  exact this n
set_option maxRecDepth 100000 in
theorem contRune_any (r : Int) (w : World) (h0 : 0 ≤ r) (h1 : r ≤ 1114111) :
    Calls Tryz.prog 120 #[.string dots, .int .i32 r] w fun e w' => e = .returned (.bool (r == 46 || r == 95 || r == 45)) ∧ Below w.heap.size w w' := by
  by_cases h : r < 128
  · refine (Tryz.strings_ContainsRune_ascii dots r w h0 h).mono ?_
    rintro e w1 ⟨rfl, rfl⟩
    rw [indexByte_dots r h0 h]
    exact ⟨rfl, Below.refl _ _⟩
  · have e : (r == 46 || r == 95 || r == 45) = false := by simp; omega
    rw [e]
    go_enter Tryz.func120, Tryz.ntmps120
    go_wp2_with fail
    refine (idxRune_hi r _ (by omega) h1).mono ?_
    rintro e w1 ⟨rfl, hb⟩
    go_wp2_with fail
    go_ret
    exact ⟨rfl, hb⟩
end Go.Proofs.YtjlpdknomdhbhaaGreatDoor
namespace Go.Proofs.YtjlpdknomdhbhaaGreatDoor
set_option linter.unusedVariables false
set_option linter.unusedSimpArgs false
open Go Go.RowKit
def goodRune (r : Int) : Bool := (decide (97 ≤ r) && decide (r ≤ 122)) || (decide (48 ≤ r) && decide (r ≤ 57)) || (r == 46 || r == 95 || r == 45)
set_option maxRecDepth 100000 in
theorem part1_any (r : Int) (w : World) (h0 : 0 ≤ r) (h1 : r ≤ 1114111) :
    Calls Tryz.prog 119 #[.int .i32 r] w fun e w' => e = .returned (.bool (goodRune r)) ∧ Below w.heap.size w w' := by
  obtain ⟨a, ha⟩ : ∃ a, a = decide (97 ≤ r) := ⟨_, rfl⟩
  go_enter Tryz.func119, Tryz.ntmps119
  go_wp2_with fail
  all_goals first
    | (go_ret; refine ⟨?_, Below.refl _ _⟩; have e : goodRune r = true := by (simp [goodRune] at *; omega)
       rw [e]; rfl)
    | (refine (contRune_any r _ h0 h1).mono ?_
       rintro e w1 ⟨rfl, hb⟩
       obtain ⟨q, hq⟩ : ∃ q, q = (r == 46 || r == 95 || r == 45) := ⟨_, rfl⟩
       have e : goodRune r = q := by
         have : ((decide (97 ≤ r) && decide (r ≤ 122)) || (decide (48 ≤ r) && decide (r ≤ 57))) = false := by (simp at *; omega)
         rw [hq, goodRune, this, Bool.false_or]
       have hQ := Lib.hid hq
       clear hq
       go_wp2_with fail
       go_ret
       refine ⟨?_, hb⟩
       rw [e, hQ.out]
       first
         | rfl
         | (refine congrArg (fun b => Ending.returned (Value.bool b)) (?_ : (_ || (r == 46 || r == 95 || r == 45)) = (r == 46 || r == 95 || r == 45))
            have : ∀ x y : Bool, x = false → (x || y) = y := by decide
            refine this _ _ ?_
            simp
            omega))
set_option maxRecDepth 100000 in
theorem part2_any (r : Int) (b : Nat) (w : World) (h0 : 0 ≤ r) (h1 : r ≤ 1114111) (hA : At w b 148 #[.func (.func 119) #[] #[]]) :
    Calls Tryz.prog 122 #[.int .i32 r, .pointer (some ⟨b, 0, none⟩)] w fun e w' => e = .returned (.bool (!goodRune r)) ∧ Below w.heap.size w w' := by
  go_enter Tryz.func122, Tryz.ntmps122
  have hc : w.cell? ⟨b, 0, none⟩ = some (.func (.func 119) #[] #[]) := by rw [hA.cell]; rfl
  go_wp2_with fail
  refine (part1_any r _ h0 h1).mono ?_
  rintro e w1 ⟨rfl, hb⟩
  go_wp2_with fail
  go_ret
  exact ⟨rfl, hb⟩
end Go.Proofs.YtjlpdknomdhbhaaGreatDoor
namespace Go.Proofs.YtjlpdknomdhbhaaGreatDoor
set_option linter.unusedVariables false
set_option linter.unusedSimpArgs false
open Go
namespace Nam
def goodB (c : UInt8) : Bool := goodRune (c.toNat : Int)
def partOK : List UInt8 → Bool
  | [] => false
  | c :: l => !(c == 46) && (c :: l).all goodB
def cuts : List UInt8 → List (List UInt8)
  | [] => [[]]
  | c :: l => if c = 47 then [] :: cuts l else (c :: (cuts l).headD []) :: (cuts l).tail
def nameOK (s : ByteArray) : Bool := decide (s.size ≤ 64) && (cuts s.data.toList).all partOK
theorem cuts_ne (l : List UInt8) : cuts l ≠ [] := by
  cases l with
  | nil => simp [cuts]
  | cons c l => unfold cuts; split <;> simp
theorem cuts_miss : ∀ l : List UInt8, (47 : UInt8) ∉ l → cuts l = [l]
  | [], _ => rfl
  | c :: l, h => by
    have h1 : c ≠ 47 := fun e => h (by rw [e]; exact List.mem_cons_self)
    have h2 := cuts_miss l (fun hm => h (List.mem_cons_of_mem _ hm))
    unfold cuts
    rw [if_neg h1, h2]
    rfl
theorem cuts_hit (b : List UInt8) : ∀ a : List UInt8, (47 : UInt8) ∉ a → cuts (a ++ 47 :: b) = a :: cuts b
  | [], _ => by simp [cuts]
  | c :: l, h => by
    have h1 : c ≠ 47 := fun e => h (by rw [e]; exact List.mem_cons_self)
    have h2 := cuts_hit b l (fun hm => h (List.mem_cons_of_mem _ hm))
    have e : cuts (c :: (l ++ 47 :: b)) = (c :: (cuts (l ++ 47 :: b)).headD []) :: (cuts (l ++ 47 :: b)).tail := by rw [cuts, if_neg h1]
    rw [List.cons_append, e, h2]
    rfl
theorem occ_one (s : List UInt8) (i : Nat) : Lib.occAt s [47] i = true ↔ s[i]? = some 47 := by
  unfold Lib.occAt
  rw [← List.head?_drop]
  cases s.drop i with
  | nil => simp
  | cons c l => simp [List.isPrefixOf]; exact ⟨fun h => h.symm, fun h => h.symm⟩
theorem split_cuts : ∀ (n : Nat) (l : List UInt8), l.length ≤ n → Lib.split l [47] = cuts l := by
  intro n
  induction n with
  | zero =>
    intro l h
    have : l = [] := List.eq_nil_of_length_eq_zero (by omega)
    subst this
    rfl
  | succ n ih =>
    intro l h
    rcases Lib.index_spec l [47] with ⟨h1, h2⟩ | ⟨i, h1, h2, h3, h4⟩
    · have hm : (47 : UInt8) ∉ l := by
        intro hm
        obtain ⟨j, hj⟩ := List.mem_iff_getElem?.1 hm
        have hjl : j < l.length := (List.getElem?_eq_some_iff.1 hj).1
        have := h2 j (by omega)
        rw [(occ_one l j).2 hj] at this
        cases this
      rw [cuts_miss l hm]
      unfold Lib.split
      rw [Lib.count_miss h1]
      rfl
    · have hi := (occ_one l i).1 h3
      have hil : i < l.length := (List.getElem?_eq_some_iff.1 hi).1
      have e : l = l.take i ++ 47 :: l.drop (i + 1) := by
        conv => lhs; rw [← List.take_append_drop i l]
        rw [List.drop_eq_getElem_cons hil]
        have := (List.getElem?_eq_some_iff.1 hi).2
        rw [this]
      have hm : (47 : UInt8) ∉ l.take i := by
        intro hm
        obtain ⟨j, hj⟩ := List.mem_iff_getElem?.1 hm
        have hjl : j < (l.take i).length := (List.getElem?_eq_some_iff.1 hj).1
        rw [List.length_take] at hjl
        have hji : j < i := by omega
        rw [List.getElem?_take_of_lt hji] at hj
        have := h4 j hji
        rw [(occ_one l j).2 hj] at this
        cases this
      have e2 : cuts l = l.take i :: cuts (l.drop (i + 1)) := by
        conv => lhs; rw [e]
        exact cuts_hit _ _ hm
      have hne : ¬ ((Lib.index l [47] == -1) = true) := by rw [h1, beq_iff_eq]; omega
      have ih2 := ih (l.drop (i + 1)) (by rw [List.length_drop]; omega)
      rw [e2, ← ih2]
      unfold Lib.split
      rw [Lib.count_hit (by simp) h1, Nat.add_comm 1]
      conv => lhs; unfold Lib.splitK
      rw [if_neg hne, h1]
      simp
theorem decodeN_lt (n b0 b1 b2 b3 : Nat) (h : b0 < 128) : Lib.decodeN n b0 b1 b2 b3 = (b0, 1) := by simp [Lib.decodeN, h]
set_option maxRecDepth 100000 in
theorem decodeN_ge (n b0 b1 b2 b3 : Nat) (h : 128 ≤ b0) : 128 ≤ (Lib.decodeN n b0 b1 b2 b3).1 := by
  unfold Lib.decodeN
  rw [if_neg (by omega)]
  repeat' split
  all_goals simp only
  all_goals omega
theorem good_hi {n : Nat} (h : 128 ≤ n) : goodRune (n : Int) = false := by
  unfold goodRune
  simp
  omega
theorem get_data (s : ByteArray) (i : Nat) (h : i < s.size) : s.data.toList[i]? = some (s.get! i) := by
  have h2 : i < s.data.size := h
  rw [Array.getElem?_toList, Array.getElem?_eq_getElem h2]
  congr 1
  exact (getElem!_pos s.data i h2).symm
theorem decode_cases (s : ByteArray) (i : Nat) : ((s.get! i).toNat < 128 ∧ Utf8.decode s i = ((s.get! i).toNat, 1)) ∨ (128 ≤ (s.get! i).toNat ∧ 128 ≤ (Utf8.decode s i).1) := by
  rw [Lib.decode_at]
  by_cases h : (s.get! i).toNat < 128
  · exact .inl ⟨h, decodeN_lt _ _ _ _ _ h⟩
  · exact .inr ⟨by omega, decodeN_ge _ _ _ _ _ (by omega)⟩
theorem idx_bad (s : ByteArray) : ∀ (f pos : Nat), s.size ≤ pos + f → decide (0 ≤ Lib.idxFuncFrom (fun x => !goodRune (x : Int)) true s f pos) = (s.data.toList.drop pos).any (fun c => !goodB c)
  | 0, pos, h => by
    have : s.data.toList.drop pos = [] := List.drop_eq_nil_of_le (by rw [Array.length_toList]; show s.size ≤ _; omega)
    rw [this]
    rfl
  | f + 1, pos, h => by
    by_cases hp : pos < s.size
    · have hd : s.data.toList.drop pos = s.get! pos :: s.data.toList.drop (pos + 1) := by
        have h2 : pos < s.data.toList.length := by rw [Array.length_toList]; exact hp
        rw [List.drop_eq_getElem_cons h2]
        have := get_data s pos hp
        rw [List.getElem?_eq_getElem h2] at this
        rw [Option.some.inj this]
      rw [hd, List.any_cons]
      unfold Lib.idxFuncFrom
      rw [if_pos hp]
      rcases decode_cases s pos with ⟨h1, h2⟩ | ⟨h1, h2⟩
      · rw [h2]
        simp only
        have ih := idx_bad s f (pos + 1) (by omega)
        show decide (0 ≤ if (!goodB (s.get! pos)) = true then _ else _) = _
        by_cases hg : goodB (s.get! pos) = true
        · simpa [hg] using ih
        · simp [hg]
      · have e1 : goodRune (((Utf8.decode s pos).1 : Nat) : Int) = false := good_hi h2
        have e2 : goodB (s.get! pos) = false := good_hi h1
        rw [e1, e2]
        simp
    · have : s.data.toList.drop pos = [] := List.drop_eq_nil_of_le (by rw [Array.length_toList]; show s.size ≤ _; omega)
      rw [this, Lib.idxFuncFrom_end _ _ _ _ _ hp]
      rfl
end Nam
end Go.Proofs.YtjlpdknomdhbhaaGreatDoor
namespace Go.Proofs.YtjlpdknomdhbhaaGreatDoor
set_option linter.unusedVariables false
set_option linter.unusedSimpArgs false
open Go Go.RowKit
theorem partOK_eq (s : ByteArray) (h : 0 < s.size) : Nam.partOK s.data.toList = (!(s.get! 0 == 46) && !(s.data.toList.any fun c => !Nam.goodB c)) := by
  have h1 := Nam.get_data s 0 h
  cases hl : s.data.toList with
  | nil => rw [hl] at h1; cases h1
  | cons c l =>
    rw [hl] at h1
    simp only [List.getElem?_cons_zero, Option.some.injEq] at h1
    unfold Nam.partOK
    rw [← h1, List.not_any_eq_all_not]
    simp
set_option maxRecDepth 100000 in
set_option maxHeartbeats 1000000 in
theorem part_any (s : ByteArray) (w : World) : Calls Tryz.prog 94 #[.string s] w fun e w' => e = .returned (.bool (Nam.partOK s.data.toList)) ∧ Below w.heap.size w w' := by
  obtain ⟨R, hR⟩ : ∃ R, R = Nam.partOK s.data.toList := ⟨_, rfl⟩
  rw [← hR]
  have HR := Lib.hid hR; clear hR
  go_enter Tryz.func94, Tryz.ntmps94
  have hlen : s.toList.length = s.size := toArray_toList s
  by_cases h1 : s.toList = []
  · have h0 : s.size = 0 := by rw [h1] at hlen; exact hlen.symm
    have hd : s.data.toList = [] := List.eq_nil_of_length_eq_zero (by rw [Array.length_toList]; exact h0)
    have e : R = false := by rw [HR.out, hd]; rfl
    have HE := Lib.hid e; clear e hd h0 hlen
    go_wp2_with fail
    go_ret
    exact ⟨by rw [HE.out]; rfl, (Below.refl _ _).alloc (Nat.le_refl _) _⟩
  have h2 : 0 < s.size := by
    rcases Nat.eq_zero_or_pos s.size with h0 | h0
    · exact absurd (List.eq_nil_of_length_eq_zero (by omega)) h1
    · exact h0
  have e2 : s.get! 0 = s[0] := getElem!_pos s.data 0 h2
  clear hlen
  by_cases h3 : (s[0].toNat : Int) = 46
  · have hc : s.get! 0 = 46 := by
      rw [e2]
      apply UInt8.toNat_inj.1
      show s[0].toNat = 46
      omega
    have e : R = false := by
      rw [HR.out, partOK_eq s h2, hc]
      rfl
    have HE := Lib.hid e; clear e hc e2
    go_wp2_with fail
    go_ret
    exact ⟨by rw [HE.out]; rfl, (Below.refl _ _).alloc (Nat.le_refl _) _⟩
  · have hc : (s.get! 0 == 46) = false := by
      rw [e2, beq_eq_false_iff_ne]
      intro e
      apply h3
      rw [e]
      rfl
    have e : R = !(s.data.toList.any fun c => !Nam.goodB c) := by
      rw [HR.out, partOK_eq s h2, hc]
      rfl
    have HE := Lib.hid e; clear e hc e2
    have hA := At.new w 148 #[Value.func (.func 119) #[] #[]]
    have HA := Lib.hid hA; clear hA
    have HB := Lib.hid ((Below.refl w.heap.size w).alloc (Nat.le_refl _) (.cells #[Value.func (.func 119) #[] #[]] 148))
    have d1 : (s.toList.isEmpty) = false := by
      cases hE : s.toList with
      | nil => exact absurd hE h1
      | cons a l => rfl
    have d2 : ((s[0].toNat : Int) != 46) = true := by simpa using h3
    go_wp2_with fail
    refine (Tryz.strings_ContainsFunc_grows 122 #[.pointer (some ⟨w.heap.size, 0, none⟩)] Tryz.call122 (fun x => !goodRune (x : Int)) s _ (fun W x hx hb => part2_any x w.heap.size W (by omega) (by omega) (HA.out.below hb HA.out.lt))).mono ?_
    rintro e3 w3 ⟨rfl, hb3⟩
    have HB3 := Lib.hid (HB.out.trans (hb3.mono HB.out.size)); clear hb3
    have hcn : decide (0 ≤ Lib.idxFunc (fun x => !goodRune (x : Int)) true s) = !R := by
      rw [HE.out, Bool.not_not]
      exact Nam.idx_bad s s.size 0 (by omega)
    rw [hcn]
    clear hcn d1 d2
    cases R with
    | true =>
      go_wp2_with fail
      go_ret
      exact ⟨rfl, HB3.out⟩
    | false =>
      go_wp2_with fail
      go_ret
      exact ⟨rfl, HB3.out⟩
end Go.Proofs.YtjlpdknomdhbhaaGreatDoor
namespace Go.Proofs.YtjlpdknomdhbhaaGreatDoor
set_option linter.unusedVariables false
set_option linter.unusedSimpArgs false
open Go Go.RowKit Go.Maps
/-- A function value that answers for strings in a list, in every world in which all stands as in w. -/
def PredS (g : Nat) (lb : Array Value) (p : ByteArray → Bool) (xs : List ByteArray) (w : World) : Prop :=
  ∀ (W : World) (x : ByteArray), x ∈ xs → Below w.heap.size w W → Calls Tryz.prog g (#[.string x] ++ lb) W fun e w' => e = .returned (.bool (p x)) ∧ Below W.heap.size W w'
set_option maxRecDepth 100000 in
set_option maxHeartbeats 1000000 in
theorem idxFn_any (g : Nat) (lb : Array Value) (eg : ∀ args w, (callFunc g args).run Tryz.prog w = .ok (.enter g args) w) (p : ByteArray → Bool) (v : Value) (xs : List ByteArray) (w : World) (hp : PredS g lb p xs w) (h : StrsC w v xs) (hl : xs.length ≤ 140737488355328) :
    Calls Tryz.prog 105 #[v, .func (.func g) #[] lb] w fun e w' => (∃ i : Int, e = .returned (.int .i64 i) ∧ (decide (0 ≤ i) = xs.any p)) ∧ Below w.heap.size w w' := by
  obtain ⟨a, c, rfl, hc⟩ := h
  have HP := Lib.hid hp; have HC := Lib.hid hc; clear hp hc
  go_enter Tryz.func105, Tryz.ntmps105
  go_wp2_with fail
  go_loopw [8] (fun i wr => ∃ k : Nat, k ≤ xs.length ∧ i = .int .i64 k ∧ (xs.take k).any p = false ∧ Below w.heap.size w wr) (fun i _ => xs.length - (intOf i).toNat)
  case atStart => exact ⟨0, by omega, rfl, rfl, Below.refl _ _⟩
  case round =>
    obtain ⟨k, hk, rfl, hno, hb⟩ := hrel
    have HNO := Lib.hid hno; have HB := Lib.hid hb; clear hno hb
    by_cases hlt : k < xs.length
    · have dk : decide ((k : Int) < xs.length) = true := by simp; omega
      obtain ⟨b, o, rfl, hc⟩ := HC.out.resolve_left (by omega)
      have ce := hc k hlt
      have ce2 := (HB.out.cell (p := ⟨b, o + k, none⟩) (block_lt ce)).trans ce
      obtain ⟨s, hs⟩ : ∃ s, s = xs.getD k ⟨#[]⟩ := ⟨_, rfl⟩
      rw [← hs] at ce2
      have hsx : s = xs[k] := by rw [hs]; simp [List.getD_eq_getElem?_getD, hlt]
      have hmem : s ∈ xs := by rw [hsx]; exact List.getElem_mem hlt
      have htk : (xs.take (k + 1)).any p = p s := by
        rw [List.take_succ_eq_append_getElem hlt, List.any_append, HNO.out, ← hsx]
        simp
      have hany : p s = true → xs.any p = true := fun h => List.any_eq_true.2 ⟨s, by rw [hsx]; exact List.getElem_mem hlt, h⟩
      have HTK := Lib.hid htk; have HANY := Lib.hid hany; have HCC := Lib.hid hc; clear htk hany hs hsx ce hc
      have cS := HP.out wr s hmem HB.out
      cases hps : p s with
      | true =>
        rw [hps] at cS
        have ha := HANY.out hps
        have HA := Lib.hid ha; clear ha hps
        go_wp2_with (go_at_fn g; refine cS.mono ?_; rintro e w2 ⟨rfl, hb2⟩)
        go_ret
        exact ⟨⟨_, rfl, by rw [HA.out]; simp⟩, HB.out.trans (hb2.mono HB.out.size)⟩
      | false =>
        rw [hps] at cS
        have ht := HTK.out
        rw [hps] at ht
        have HT := Lib.hid ht; clear ht hps
        go_wp2_with (go_at_fn g; refine cS.mono ?_; rintro e w2 ⟨rfl, hb2⟩)
        exact ⟨⟨k + 1, by omega, by go_num, HT.out, HB.out.trans (hb2.mono HB.out.size)⟩, by simp [intOf]; omega⟩
    · have dk : decide ((k : Int) < xs.length) = false := by simp; omega
      have hall : xs.any p = false := by
        have := HNO.out
        rw [List.take_of_length_le (by omega)] at this
        exact this
      have HA := Lib.hid hall; clear hall
      go_wp2_with fail
      go_ret
      exact ⟨⟨_, rfl, by rw [HA.out]; rfl⟩, HB.out⟩
set_option maxRecDepth 100000 in
theorem contFn_any (g : Nat) (lb : Array Value) (eg : ∀ args w, (callFunc g args).run Tryz.prog w = .ok (.enter g args) w) (p : ByteArray → Bool) (v : Value) (xs : List ByteArray) (w : World) (hp : PredS g lb p xs w) (h : StrsC w v xs) (hl : xs.length ≤ 140737488355328) :
    Calls Tryz.prog 71 #[v, .func (.func g) #[] lb] w fun e w' => e = .returned (.bool (xs.any p)) ∧ Below w.heap.size w w' := by
  have HI := Lib.hid (idxFn_any g lb eg p v xs w hp h hl); clear hp h
  go_enter Tryz.func71, Tryz.ntmps71
  go_wp2_with fail
  refine HI.out.mono ?_
  rintro e w2 ⟨⟨i, rfl, hi⟩, hb⟩
  have HB := Lib.hid hb; have HJ := Lib.hid hi; clear hb hi
  go_wp2_with fail
  go_ret
  exact ⟨by rw [← HJ.out]; rfl, HB.out⟩
end Go.Proofs.YtjlpdknomdhbhaaGreatDoor
namespace Go.Proofs.YtjlpdknomdhbhaaGreatDoor
set_option linter.unusedVariables false
set_option linter.unusedSimpArgs false
open Go Go.RowKit Go.Maps
/-- The world holds bytealg.MaxLen. -/
def MaxL (w : World) : Prop := ∃ m : Int, w.cell? ⟨0, 0, none⟩ = some (.int .i64 m)
theorem MaxL.below {w w' : World} (h : MaxL w) (hb : Below w.heap.size w w') : MaxL w' := by
  obtain ⟨m, h⟩ := h
  exact ⟨m, (hb.cell (p := ⟨0, 0, none⟩) (block_lt h)).trans h⟩
set_option maxRecDepth 100000 in
theorem named1_any (x : ByteArray) (w : World) : Calls Tryz.prog 93 #[.string x] w fun e w' => e = .returned (.bool (!Nam.partOK x.data.toList)) ∧ Below w.heap.size w w' := by
  go_enter Tryz.func93, Tryz.ntmps93
  go_wp2_with fail
  refine (part_any x _).mono ?_
  rintro e w2 ⟨rfl, hb⟩
  have HB := Lib.hid hb; clear hb
  go_wp2_with fail
  go_ret
  exact ⟨rfl, HB.out⟩
theorem split_any (s : ByteArray) : ((Lib.splitB ⟨#[47]⟩ 0 (Lib.countB s ⟨#[47]⟩) s).any fun x => !Nam.partOK x.data.toList) = !((Nam.cuts s.data.toList).all Nam.partOK) := by
  have h := Lib.splitB_data ⟨#[47]⟩ 0 (Lib.countB s ⟨#[47]⟩) s
  have h2 : Lib.splitK [47] 0 (Lib.countB s ⟨#[47]⟩) s.data.toList = Nam.cuts s.data.toList := Nam.split_cuts _ _ (Nat.le_refl _)
  rw [← h2, List.not_all_eq_any_not]
  have h3 : Lib.splitK [47] 0 (Lib.countB s ⟨#[47]⟩) s.data.toList = (Lib.splitB ⟨#[47]⟩ 0 (Lib.countB s ⟨#[47]⟩) s).map (·.data.toList) := h.symm
  rw [h3, List.any_map]
  rfl
set_option maxRecDepth 100000 in
set_option maxHeartbeats 1000000 in
theorem named_any (s : ByteArray) (w : World) (hM : MaxL w) : Calls Tryz.prog 56 #[.string s] w fun e w' => e = .returned (.bool (Nam.nameOK s)) ∧ Below w.heap.size w w' := by
  obtain ⟨R, hR⟩ : ∃ R, R = Nam.nameOK s := ⟨_, rfl⟩
  rw [← hR]
  have HR := Lib.hid hR; clear hR
  obtain ⟨m, hm⟩ := hM
  have HM := Lib.hid hm; clear hm
  go_enter Tryz.func56, Tryz.ntmps56
  by_cases h1 : s.size ≤ 64
  · have d1 : decide ((s.size : Int) ≤ 64) = true := by simp; omega
    have e : R = (Nam.cuts s.data.toList).all Nam.partOK := by rw [HR.out, Nam.nameOK, decide_eq_true h1]; simp
    have HE := Lib.hid e; clear e
    go_wp2_with fail
    refine (Tryz.strings_Split s ⟨#[47]⟩ m _ (by omega) HM.out (by decide)).mono ?_
    rintro e2 w2 ⟨rfl, rfl⟩
    have hsa := split_any s
    have hlen := Lib.splitB_all ⟨#[47]⟩ (by decide) 0 _ s rfl
    have hcl := Lib.count_le s.data.toList [47]
    have hcl2 : Lib.countB s ⟨#[47]⟩ ≤ s.data.toList.length + 1 := hcl
    rw [Array.length_toList] at hcl2
    have hcl3 : Lib.countB s ⟨#[47]⟩ ≤ s.size + 1 := hcl2
    obtain ⟨xs, hxs⟩ : ∃ xs, xs = Lib.splitB ⟨#[47]⟩ 0 (Lib.countB s ⟨#[47]⟩) s := ⟨_, rfl⟩
    rw [← hxs] at hsa hlen ⊢
    rw [← hlen]
    have hst : StrsC (w.alloc (.cells (xs.map Value.string).toArray 9)) (.slice (some ⟨w.heap.size, 0, none⟩) xs.length xs.length) xs := StrsC.block (At.new _ _ _) rfl _
    have hb1 : Below w.heap.size w (w.alloc (.cells (xs.map Value.string).toArray 9)) := (Below.refl _ _).alloc (Nat.le_refl _) _
    have HST := Lib.hid hst; have HB1 := Lib.hid hb1; have HSA := Lib.hid hsa
    have hl2 : xs.length ≤ 140737488355328 := by omega
    clear hst hb1 hsa hxs hlen hcl hcl2 hcl3
    generalize w.alloc (.cells (xs.map Value.string).toArray 9) = w1 at *
    go_wp2_with fail
    refine (contFn_any 93 #[] Tryz.call93 (fun x => !Nam.partOK x.data.toList) _ xs _ (fun W x _ _ => named1_any x W) HST.out hl2).mono ?_
    rintro e3 w3 ⟨rfl, hb3⟩
    rw [HSA.out, ← HE.out]
    have HB3 := Lib.hid (HB1.out.trans (hb3.mono HB1.out.size)); clear hb3
    go_wp2_with fail
    go_ret
    exact ⟨by simp, HB3.out⟩
  · have d1 : decide ((s.size : Int) ≤ 64) = false := by simp; omega
    have e : R = false := by rw [HR.out, Nam.nameOK, decide_eq_false h1]; rfl
    have HE := Lib.hid e; clear e
    go_wp2_with fail
    go_ret
    exact ⟨by rw [HE.out]; rfl, Below.refl _ _⟩
end Go.Proofs.YtjlpdknomdhbhaaGreatDoor
