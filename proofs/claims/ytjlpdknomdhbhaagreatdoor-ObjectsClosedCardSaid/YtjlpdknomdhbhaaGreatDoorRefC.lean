/- The reference's SHA-256: Length, padded, Sum: it gives the same digest as the program's. Conditions: the string's length lies in reach. -/
import Derived.Test.YtjlpdknomdhbhaaGreatDoorRefB
import Derived.Test.YtjlpdknomdhbhaaGreatDoorBuf
import Derived.Test.YtjlpdknomdhbhaaGreatDoorLexT
namespace Go.Proofs.YtjlpdknomdhbhaaGreatDoor
set_option linter.unusedVariables false
set_option linter.unusedSimpArgs false
open Go Go.RowKit
namespace Sha
def be8l (n k : Nat) : List Int := (List.range k).map fun j => ((n / 2 ^ (56 - 8 * j) % 256 : Nat) : Int)
theorem be8l_next (n k : Nat) : be8l n (k + 1) = be8l n k ++ [((n / 2 ^ (56 - 8 * k) % 256 : Nat) : Int)] := by
  unfold be8l
  rw [List.range_succ, List.map_append]
  rfl
theorem be8l_len (n k : Nat) : (be8l n k).length = k := by simp [be8l]
theorem be8l_str (n : Nat) : strOfNums (be8l n 8) = be8 n := by
  apply ba_ext
  rw [strOfNums_data]
  unfold be8l be8
  rw [List.map_map]
  rw [List.toList_toArray]
  apply List.map_congr_left
  intro j _
  show UInt8.ofNat (Int.toNat _) = _
  rw [Int.toNat_natCast]
theorem be8_val (n k : Nat) (h : k < 8) : (n : Int) / 2 ^ (8 * (7 - k)) % 256 = ((n / 2 ^ (56 - 8 * k) % 256 : Nat) : Int) := by
  rw [show 8 * (7 - k) = 56 - 8 * k by omega]
  rw [Int.natCast_emod, Int.natCast_ediv, Int.natCast_pow]
  rfl
theorem strVals_nums (s : ByteArray) : strVals s = (s.data.toList.map fun b => (b.toNat : Int)).map (Value.int .u8) := by
  unfold strVals
  rw [List.map_map]
  rfl
def nums (s : ByteArray) : List Int := s.data.toList.map fun b => (b.toNat : Int)
theorem nums_len (s : ByteArray) : (nums s).length = s.size := by
  unfold nums
  rw [List.length_map, len_list]
theorem nums_vals (s : ByteArray) : strVals s = (nums s).map (Value.int .u8) := strVals_nums s
theorem nums_str (s : ByteArray) : strOfNums (nums s) = s := by
  apply ba_ext
  rw [strOfNums_data]
  unfold nums
  rw [List.map_map]
  conv => rhs; rw [← List.map_id s.data.toList]
  apply List.map_congr_left
  intro b _
  show UInt8.ofNat (Int.toNat _) = b
  rw [Int.toNat_natCast, UInt8.ofNat_toNat]
theorem str_app (a b : List Int) : strOfNums (a ++ b) = strOfNums a ++ strOfNums b := by
  apply ba_ext
  rw [app_list, strOfNums_data, strOfNums_data, strOfNums_data, List.map_append]
theorem repeat_zero : ∀ z : Nat, Lib.repeatL ([0] : List UInt8) z = List.replicate z 0
  | 0 => rfl
  | z + 1 => by
    show [0] ++ Lib.repeatL [0] z = _
    rw [repeat_zero z]
    rfl
theorem pad_nums (m : ByteArray) (z : Nat) (hz : z = (119 - m.size % 64) % 64) (hm : 8 * m.size < 18446744073709551616) : strOfNums (nums m ++ [128] ++ List.replicate z 0) ++ be8 (8 * m.size) = m ++ pad m := by
  rw [str_app, str_app, nums_str, pad, ← hz, repeat_zero, Nat.mod_eq_of_lt hm]
  apply ba_ext
  simp only [app_list, List.append_assoc]
  congr 2
  congr 1
  rw [strOfNums_data, List.map_replicate]
  rfl
end Sha
set_option maxRecDepth 100000 in
set_option maxHeartbeats 2000000 in
theorem rLength_any (n : Nat) (w : World) (hn : n < 9223372036854775808) :
    Calls Tryz.prog 112 #[.int .i64 n] w fun e w' => e = .returned (.string (be8 n)) ∧ Below w.heap.size w w' := by
  obtain ⟨i0, hi, hz0, hz1, hz2⟩ := info_parts info_bb
  go_enter Tryz.func112, Tryz.ntmps112
  go_wp2_with fail
  go_loopw [3, 4] (fun v i wr => ∃ k : Nat, k ≤ 8 ∧ i = .int .i64 (7 - k : Int) ∧ wr.ownsRow w.heap.size 5 1 v k ((Sha.be8l n k).map (Value.int .u8)) ∧ Below w.heap.size w wr) (fun _ i _ => (intOf i + 1).toNat)
  case atStart => exact ⟨0, by omega, rfl, ⟨rfl, .inr ⟨w.heap.size, 0, #[], rfl, Nat.le_refl _, At.new _ _ _, Nat.le_refl _, by decide, rfl, rfl⟩⟩, (Below.refl _ _).alloc (Nat.le_refl _) _⟩
  case round =>
    obtain ⟨k, hk, rfl, hv, hb⟩ := hrel
    have HV := Lib.hid hv; have HB := Lib.hid hb; clear hv hb
    by_cases hlt : k < 8
    · have dk : decide ((0 : Int) ≤ 7 - k) = true := by simp; omega
      have hv := Sha.be8_val n k hlt
      have hnx := Sha.be8l_next n k
      have HX := Lib.hid hv; have HN := Lib.hid hnx; clear hv hnx
      go_wp2_with (at_builtin; go_must (refine wpList_append_own_at _ rfl _ _ 45 rfl w.heap.size 5 i0 (.int .u8 0) 1 1 Tryz.underlying45 hi hz0 hz1 hz2 rfl (by omega) _ k ((Sha.be8l n k).map (Value.int .u8)) rfl (HV.out.alloc _) ⟨wr.heap.size, 0, none⟩ 1 1 [.int .u8 ((n / 2 ^ (56 - 8 * k) % 256 : Nat) : Int)] rfl rfl ?c1 ?c2 ?c3 ?c4 ?c5 ?_))
      case c1 =>
        intro j u hj
        match j, hj with
        | 0, hj => simp only [List.getElem?_cons_zero, Option.some.injEq] at hj; subst hj; rw [← HX.out]; exact (At.new wr 5 _).cell 0
      case c2 => intro u hu; simp at hu; subst hu; rfl
      case c3 => unfold maxLen; omega
      case c4 => omega
      case c5 => have := HB.out.size; simp; omega
      intro v2 w15 how hg _ hb'
      have hb15 : Below w.heap.size w w15 := below_own (HB.out.alloc HB.out.size _) (by have := HB.out.size; simp; omega) HV.out hg
      have how' : w15.ownsRow w.heap.size 5 1 v2 (k + 1) ((Sha.be8l n (k + 1)).map (Value.int .u8)) := by rw [HN.out, List.map_append]; exact how
      have HB15 := Lib.hid hb15; have HOW := Lib.hid how'; clear how how' hg hb' hb15
      go_wp2_with fail
      refine ⟨⟨k + 1, by omega, ?_, HOW.out, HB15.out⟩, by simp [intOf]; omega⟩
      congr 1
      omega
    · have hk' : k = 8 := by omega
      have dk : decide ((0 : Int) ≤ 7 - k) = false := by simp; omega
      have HK := Lib.hid hk'; clear hk'
      go_wp2_with fail
      rw [run_convert_own wr 45 5 9 rfl rfl rfl _ HV.out]
      rw [HK.out, Sha.be8l_str]
      go_wp2_with fail
      go_ret
      exact ⟨rfl, HB.out⟩
def sliceLen : Value → Nat
  | .slice _ n _ => n
  | _ => 0
set_option maxRecDepth 100000 in
theorem run_convert_buf (w : World) {base : Nat} {v : Value} (xs : List Int) (h : BufAt w base v (xs.map (Value.int .u8))) : (convert 45 9 v).run Tryz.prog w = .ok (.string (strOfNums xs)) w := by
  obtain ⟨g, cap, cur, fz, rfl, hb, hg, _, hcs, hle, hcm, ht⟩ := h
  rw [List.length_map] at *
  refine run_convert_bytes_arg w 45 5 rfl rfl g 0 xs.length cap xs rfl (fun i hi => ?_) 9 rfl
  rw [Nat.zero_add, cell_of_row w g i cur 5 fz hg]
  have h1 : cur.toList[i]? = ((xs.map (Value.int .u8)))[i]? := by
    rw [← ht, List.getElem?_take_of_lt (by omega)]
  rw [← Array.getElem?_toList, h1, List.getElem?_map, List.getD_eq_getElem?_getD, List.getElem?_eq_getElem (by omega)]
  rfl
set_option maxRecDepth 100000 in
set_option maxHeartbeats 2000000 in
theorem rPadded_any (m : ByteArray) (w : World) (hm : m.size ≤ 140737488350000) :
    Calls Tryz.prog 82 #[.string m] w fun e w' => e = .returned (.string (m ++ Sha.pad m)) ∧ Below w.heap.size w w' := by
  go_enter Tryz.func82, Tryz.ntmps82
  go_wp2_with fail
  rw [Lib.run_convert_string_bytes w 9 45 5 m rfl rfl rfl]
  obtain ⟨hbuf, hb1⟩ := buf_start w m (by omega)
  generalize Lib.bytesWorld w 5 m = w1 at *
  generalize grownCap w m.size 0 5 = cap at *
  have HBUF := Lib.hid hbuf; have HB1 := Lib.hid hb1; clear hbuf hb1
  go_wp2_with (at_builtin; go_must (refine wpList_append_buf rfl _ _ 45 rfl rfl w.heap.size _ (strVals m) rfl (HBUF.out.below ((Below.refl _ _).alloc (Nat.le_refl _) _)) ⟨w1.heap.size, 0, none⟩ 1 (.int .u8 128) rfl ?c1 rfl ?c3 ?c4 ?_))
  case c1 => exact (At.new w1 5 _).cell 0
  case c3 => rw [strVals_len]; omega
  case c4 => have := HB1.out.size; simp; omega
  intro v2 w2 hb2 hg2
  have hbw : Below w.heap.size w w2 := (HBUF.out.below_grown (w0 := w) HB1.out HB1.out.size (HB1.out.alloc HB1.out.size _) (by have := HB1.out.size; simp; omega) hg2)
  rw [Sha.nums_vals, show (Sha.nums m).map (Value.int .u8) ++ [Value.int .u8 128] = (Sha.nums m ++ [128] ++ List.replicate 0 0).map (Value.int .u8) by simp] at hb2
  have HBUF2 := Lib.hid hb2; have HB2 := Lib.hid hbw; clear hb2 hg2 hbw
  obtain ⟨z, hz⟩ : ∃ z, z = (119 - m.size % 64) % 64 := ⟨_, rfl⟩
  have hzm : ∀ k, k ≤ z → ((m.size + 1 + k) % 64 = 56 ↔ k = z) := fun k hk => by omega
  have hz64 : z < 64 := by omega
  have HZ := Lib.hid hz; have HZM := Lib.hid hzm; clear hz hzm
  go_wp2_with fail
  go_loopw [3] (fun v wr => ∃ k : Nat, k ≤ z ∧ BufAt wr w.heap.size v ((Sha.nums m ++ [128] ++ List.replicate k 0).map (Value.int .u8)) ∧ Below w.heap.size w wr) (fun v _ => z + m.size + 1 - sliceLen v)
  case atStart => exact ⟨0, by omega, HBUF2.out, HB2.out⟩
  case round =>
    obtain ⟨k, hk, hbf, hbl⟩ := hrel
    obtain ⟨g, cp, rfl⟩ := hbf.len
    have HBF := Lib.hid hbf; have HBL := Lib.hid hbl; clear hbf hbl
    obtain ⟨L, hL⟩ : ∃ L, L = Sha.nums m ++ [128] ++ List.replicate k 0 := ⟨_, rfl⟩
    have hlen : L.length = m.size + 1 + k := by
      rw [hL, List.length_append, List.length_append, Sha.nums_len, List.length_replicate]
      rfl
    rw [← hL] at HBF ⊢
    rw [List.length_map, hlen] at HBF ⊢
    have HLEN := Lib.hid hlen; have HL := Lib.hid hL; clear hlen hL
    by_cases hlt : k < z
    · have hne := HZM.out k hk
      have hmod : ¬ ((m.size + 1 + k) % 64 = 56) := by omega
      have dk : decide (((m.size : Int) + 1 + k) % 64 = 56) = false := by simp; omega
      clear hne
      go_wp2_with (at_builtin; go_must (refine wpList_append_buf rfl _ _ 45 rfl rfl w.heap.size _ (L.map (Value.int .u8)) rfl (HBF.out.below ((Below.refl _ _).alloc (Nat.le_refl _) _)) ⟨wr.heap.size, 0, none⟩ 1 (.int .u8 0) rfl ?c1 rfl ?c3 ?c4 ?_))
      case c1 => exact (At.new wr 5 _).cell 0
      case c3 => rw [List.length_map, HLEN.out]; omega
      case c4 => have := HBL.out.size; simp; omega
      intro v3 w3 hb3 hg3
      have hb4 : Below w.heap.size w w3 := HBF.out.below_grown (w0 := w) HBL.out HBL.out.size (HBL.out.alloc HBL.out.size _) (by have := HBL.out.size; simp; omega) hg3
      have hb3' : BufAt w3 w.heap.size v3 ((Sha.nums m ++ [128] ++ List.replicate (k + 1) 0).map (Value.int .u8)) := by
        rw [List.replicate_succ', ← List.append_assoc, ← HL.out, List.map_append]
        exact hb3
      obtain ⟨g3, cp3, rfl⟩ := hb3'.len
      have hlen3 : ((Sha.nums m ++ [128] ++ List.replicate (k + 1) 0).map (Value.int .u8)).length = m.size + 1 + (k + 1) := by
        rw [List.length_map, List.length_append, List.length_append, Sha.nums_len, List.length_replicate]
        rfl
      rw [hlen3] at hb3' ⊢
      have HB3 := Lib.hid hb3'; have HB4 := Lib.hid hb4; clear hb3 hb3' hb4 hg3 hlen3
      go_wp2_with fail
      exact ⟨⟨k + 1, by omega, HB3.out, HB4.out⟩, by simp [sliceLen]; omega⟩
    · have hk' : k = z := by omega
      have hmod : (m.size + 1 + k) % 64 = 56 := (HZM.out k hk).2 hk'
      have dk : decide (((m.size : Int) + 1 + k) % 64 = 56) = true := by simp; omega
      have HK := Lib.hid hk'; clear hk'
      have hpn := Sha.pad_nums m z HZ.out (by omega)
      rw [← HK.out, ← HL.out] at hpn
      have HPN := Lib.hid hpn; clear hpn
      have hls : (strOfNums L).size ≤ 140737488350100 := by rw [strOfNums_size, HLEN.out]; omega
      go_wp2_with fail
      refine Lex.wp_region_treeV [1, 5] [0, 1, 0, 4, 12, 28, 63, 127] [0, 2, 3, 4] (.alt 1 [] (.alt 5 [6, 7] .nil .nil) (.alt 5 [] (.alt 1 [6, 7] .nil .nil) .nil)) (by kernel_rfl) (by kernel_rfl) (by kernel_rfl) ?_
      intro ops E hE
      have HE := Lib.hid hE; clear hE
      simp only [Lex.pick, List.filterMap_cons, List.filterMap_nil, List.getElem?_cons_succ, List.getElem?_cons_zero]
      go_wp2_with fail
      have e8 : (8 : Int) * m.size = ((8 * m.size : Nat) : Int) := by omega
      rw [e8]
      clear e8
      refine Lex.Mid.intro trivial ?_
      refine Lex.runV_alt ?_ (Lex.runV_alt ?_ Lex.runV_done)
      · simp only [Lex.pick, List.filterMap_cons, List.filterMap_nil, List.getElem?_cons_succ, List.getElem?_cons_zero]
        go_wp2_with fail
        rw [run_convert_buf wr.drew L HBF.out]
        go_wp2_with fail
        refine Lex.Mid.intro trivial ?_
        refine Lex.runV_alt ?_ Lex.runV_done
        simp only [Lex.pick, List.filterMap_cons, List.filterMap_nil, List.getElem?_cons_succ, List.getElem?_cons_zero]
        go_wp2_with fail
        refine (rLength_any (8 * m.size) _ (by omega)).mono ?_
        rintro e w5 ⟨rfl, hb5⟩
        have h8 := be8_size (8 * m.size)
        have HB5 := Lib.hid hb5; clear hb5
        go_wp2_with fail
        rw [HPN.out]
        refine Lex.Mid.intro trivial (Lex.runV_end (HE.out _ _ (by kernel_rfl) ?_))
        go_wp2_with fail
        go_ret
        exact ⟨rfl, HBL.out.drew.trans (HB5.out.mono HBL.out.size)⟩
      · simp only [Lex.pick, List.filterMap_cons, List.filterMap_nil, List.getElem?_cons_succ, List.getElem?_cons_zero]
        go_wp2_with fail
        refine (rLength_any (8 * m.size) _ (by omega)).mono ?_
        rintro e w5 ⟨rfl, hb5⟩
        have h8 := be8_size (8 * m.size)
        have HBF5 := Lib.hid (BufAt.below (w := wr.drew) HBF.out hb5)
        have HB5 := Lib.hid hb5; clear hb5
        go_wp2_with fail
        refine Lex.Mid.intro trivial ?_
        refine Lex.runV_alt ?_ Lex.runV_done
        simp only [Lex.pick, List.filterMap_cons, List.filterMap_nil, List.getElem?_cons_succ, List.getElem?_cons_zero]
        go_wp2_with fail
        rw [run_convert_buf w5 L HBF5.out]
        go_wp2_with fail
        rw [HPN.out]
        refine Lex.Mid.intro trivial (Lex.runV_end (HE.out _ _ (by kernel_rfl) ?_))
        go_wp2_with fail
        go_ret
        exact ⟨rfl, HBL.out.drew.trans (HB5.out.mono HBL.out.size)⟩
theorem padded_size (m : ByteArray) : (m ++ Sha.pad m).size % 64 = 0 := by
  rw [Sha.app_size, Sha.pad, Sha.app_size, Sha.app_size, be8_size]
  have h1 : (⟨#[128]⟩ : ByteArray).size = 1 := rfl
  have h2 : (⟨(Lib.repeatL [0] ((119 - m.size % 64) % 64)).toArray⟩ : ByteArray).size = (119 - m.size % 64) % 64 := by
    rw [Sha.repeat_zero]
    show (List.replicate _ _).toArray.size = _
    simp
  rw [h1, h2]
  omega
theorem padded_max (m : ByteArray) : (m ++ Sha.pad m).size ≤ m.size + 72 := by
  rw [Sha.app_size, Sha.pad, Sha.app_size, Sha.app_size, be8_size]
  have h1 : (⟨#[128]⟩ : ByteArray).size = 1 := rfl
  have h2 : (⟨(Lib.repeatL [0] ((119 - m.size % 64) % 64)).toArray⟩ : ByteArray).size = (119 - m.size % 64) % 64 := by
    rw [Sha.repeat_zero]
    show (List.replicate _ _).toArray.size = _
    simp
  rw [h1, h2]
  omega
set_option maxRecDepth 100000 in
set_option maxHeartbeats 4000000 in
theorem rSum_any (m : ByteArray) (w : World) (hm : m.size ≤ 140737488350000) :
    Calls Tryz.prog 47 #[.string m] w fun e w' => e = .returned (.string (Sha.sha m)) ∧ Below w.heap.size w w' := by
  go_enter Tryz.func47, Tryz.ntmps47
  go_wp2_with fail
  have hat0 : At (w.alloc (.cells #[.int .u32 1779033703, .int .u32 3144134277, .int .u32 1013904242, .int .u32 2773480762, .int .u32 1359893119, .int .u32 2600822924, .int .u32 528734635, .int .u32 1541459225] 112)) w.heap.size 112 (Sha.row Sha.IV) := At.new _ _ _
  refine (rPadded_any m _ hm).mono ?_
  rintro e w1 ⟨rfl, hb1⟩
  have hb0 : Below w.heap.size w w1 := ((Below.refl w.heap.size w).alloc (Nat.le_refl _) _).trans (hb1.mono (by simp))
  have hat1 := hat0.below hb1 (by simp)
  have hp0 := padded_size m
  have hp1 := padded_max m
  obtain ⟨p, hp⟩ : ∃ p, p = m ++ Sha.pad m := ⟨_, rfl⟩
  rw [← hp] at hp0 hp1 ⊢
  obtain ⟨N, hN⟩ : ∃ N, N = p.size / 64 := ⟨_, rfl⟩
  have hpn : p.size = 64 * N := by omega
  have HP := Lib.hid hp; have HN := Lib.hid hN; have HAT := Lib.hid hat1; have HB0 := Lib.hid hb0; clear hp hN hat0 hat1 hb0 hb1
  go_wp2_with fail
  go_loopw [3, 5] (fun v i wr => ∃ (k g : Nat), k ≤ N ∧ i = .int .i64 ((64 * k : Nat) : Int) ∧ v = .slice (some ⟨g, 0, none⟩) 8 8 ∧ At wr g 112 (Sha.row (Sha.run Sha.IV p k)) ∧ Below w.heap.size w wr) (fun _ i _ => p.size - (intOf i).toNat)
  case atStart => exact ⟨0, w.heap.size, by omega, rfl, rfl, HAT.out, HB0.out⟩
  case round =>
    obtain ⟨k, g, hk, rfl, rfl, hat, hb⟩ := hrel
    have hcap : 64 * N ≤ 140737488350072 := by omega
    by_cases hlt : k < N
    · have dk : decide (((64 * k : Nat) : Int) < p.size) = true := by simp; omega
      have HA := Lib.hid hat; have HB := Lib.hid hb; clear hat hb
      go_wp2_with fail
      have hes : (p.extract (64 * k) (64 * k + 64)).size = 64 := by rw [ByteArray.size_extract]; omega
      have hwd := Sha.IV_word.run p k
      refine (rCompress_any _ g 8 _ wr hwd hes HA.out).mono ?_
      rintro e w3 ⟨g3, rfl, hat3, hg3, hb3⟩
      have hrun : Sha.row (Sha.block (Sha.run Sha.IV p k) (p.extract (64 * k) (64 * k + 64))) = Sha.row (Sha.run Sha.IV p (k + 1)) := rfl
      rw [hrun] at hat3
      have HA3 := Lib.hid hat3; have HB3 := Lib.hid (HB.out.trans (hb3.mono HB.out.size)); clear hat3 hb3 hrun hwd hes
      go_wp2_with fail
      refine ⟨⟨k + 1, g3, by omega, ?_, rfl, HA3.out, HB3.out⟩, by simp [intOf]; omega⟩
      congr 1
    · have dk : decide (((64 * k : Nat) : Int) < p.size) = false := by simp; omega
      have hk' : k = N := by omega
      subst hk'
      obtain ⟨wo, rfl⟩ : ∃ wo : World, wo = wr := ⟨_, rfl⟩
      have HA := Lib.hid hat; have HB := Lib.hid hb; clear hat hb
      have hwd := Sha.IV_word.run p k
      have hl := hwd.1
      have hbd := hwd.2
      have hfin : strOfNums (Sha.bytes (Sha.run Sha.IV p k)) = Sha.sha m := by
        rw [Sha.sha, Sha.state, ← HP.out, ← HN.out]
      have HFIN := Lib.hid hfin; clear hfin
      generalize Sha.run Sha.IV p k = zs at *
      obtain ⟨i0, hi, hz0, hz1, hz2⟩ := info_parts info_u8
      go_wp2_with fail
      go_loopw [6, 7] (fun v i wr => ∃ j : Nat, j ≤ 8 ∧ i = .int .i64 j ∧ wr.ownsRow wo.heap.size 5 1 v (4 * j) ((Sha.bytes (zs.take j)).map (Value.int .u8)) ∧ Below wo.heap.size wo wr) (fun _ i _ => 8 - (intOf i).toNat)
      case atStart => exact ⟨0, by omega, rfl, ⟨rfl, .inr ⟨wo.heap.size, 0, #[], rfl, Nat.le_refl _, At.new _ _ _, Nat.le_refl _, by decide, rfl, rfl⟩⟩, (Below.refl _ _).alloc (Nat.le_refl _) _⟩
      case round =>
        obtain ⟨j, hj, rfl, how, hbr⟩ := hrel
        by_cases hj8 : j < 8
        · have dj : decide ((j : Int) < 8) = true := by simp; omega
          have rk : wr.cell? ⟨g, j, none⟩ = some (.int .u32 (zs.getD j 0)) := by
            rw [(HA.out.below hbr HA.out.lt).cell j, Sha.row_get, List.getElem?_eq_getElem (by omega), List.getD_eq_getElem?_getD, List.getElem?_eq_getElem (by omega)]
            rfl
          have hsn := Sha.bytes_snoc zs j (by omega)
          have hx : 0 ≤ zs.getD j 0 ∧ zs.getD j 0 < 4294967296 := by
            rw [List.getD_eq_getElem?_getD, List.getElem?_eq_getElem (by omega)]
            exact hbd _ (List.getElem_mem _)
          generalize zs.getD j 0 = x at *
          have HOW := Lib.hid how; have HBR := Lib.hid hbr; have HSN := Lib.hid hsn; have HBD := Lib.hid hbd; clear how hbr hsn hbd
          have h16 : x / 16777216 < 256 := by omega
          go_wp2_with fail
          refine Lex.wp_region_lex (by kernel_rfl) (by kernel_rfl) ?_
          go_wp2_with (at_builtin; go_must (refine wpList_append_own_at _ rfl _ _ 45 rfl wo.heap.size 5 i0 (.int .u8 0) 1 1 Tryz.underlying45 hi hz0 hz1 hz2 rfl (by omega) _ (4 * j) _ rfl (World.ownsRow.alloc (by exact HOW.out) _).drew ⟨wr.heap.size, 0, none⟩ 4 4 ((Sha.be4 x).map (Value.int .u8)) rfl rfl ?c1 ?c2 ?c3 ?c4 ?c5 ?_))
          case c1 =>
            intro q u hq
            match q, hq with
            | 0, hq => simp [Sha.be4] at hq; subst hq; simp [Addr.add]
            | 1, hq => simp [Sha.be4] at hq; subst hq; simp [Addr.add]
            | 2, hq => simp [Sha.be4] at hq; subst hq; simp [Addr.add]
            | 3, hq => simp [Sha.be4] at hq; subst hq; simp [Addr.add]
          case c2 => intro u hu; simp [Sha.be4] at hu; rcases hu with rfl | rfl | rfl | rfl <;> rfl
          case c3 => unfold maxLen; omega
          case c4 => omega
          case c5 => have := HBR.out.size; simp; omega
          intro v' w' how' hg _ _
          have hb' : Below wo.heap.size wo w' := below_own (HBR.out.alloc (by have := HBR.out.size; omega) _).drew (by have := HBR.out.size; simp; omega) HOW.out hg
          have ho' : w'.ownsRow wo.heap.size 5 1 v' (4 * (j + 1)) ((Sha.bytes (zs.take (j + 1))).map (Value.int .u8)) := by
            rw [HSN.out, List.map_append]
            exact how'
          have HO := Lib.hid ho'; have HBB := Lib.hid hb'; clear how' hg ho' hb'
          go_wp2_with fail
          refine Lex.Ends.intro (by kernel_rfl) ?_
          go_wp2_with fail
          go_roundw
          case rel =>
            first
              | exact ⟨j + 1, by omega, by go_num, HO.out, HBB.out⟩
              | ((repeat apply Exists.intro); exact ⟨⟨j + 1, by omega, by go_num, HO.out, HBB.out⟩, rfl⟩)
          case measure => simp [intOf]; omega
        · have hj' : j = 8 := by omega
          have dj : decide ((j : Int) < 8) = false := by simp; omega
          have HJ := Lib.hid hj'; have HOW := Lib.hid how; have HBR := Lib.hid hbr; clear hj' how hbr
          go_wp2_with fail
          rw [run_convert_own wr 45 5 9 rfl rfl rfl _ HOW.out]
          have hj8 := HJ.out
          have htk : zs.take j = zs := List.take_of_length_le (by omega)
          rw [htk, HFIN.out]
          go_wp2_with fail
          go_ret
          exact ⟨rfl, HB.out.trans (HBR.out.mono HB.out.size)⟩
end Go.Proofs.YtjlpdknomdhbhaaGreatDoor
