/- The digest of the program's SHA-256. Condition: the state is held at a block of the heap. -/
import Derived.Test.YtjlpdknomdhbhaaGreatDoorMem
import Derived.Test.YtjlpdknomdhbhaaGreatDoorShaE
import Derived.Maps.AppendAt
import Derived.Lib.Bytes
namespace Go.Proofs.YtjlpdknomdhbhaaGreatDoor
set_option linter.unusedVariables false
set_option linter.unusedSimpArgs false
open Go Go.RowKit
namespace Sha
def be4 (x : Int) : List Int := [x / 16777216, x / 65536 % 256, x / 256 % 256, x % 256]
def bytes (l : List Int) : List Int := l.flatMap be4
/-- What is added ahead of the digest. -/
def pad (m : ByteArray) : ByteArray := ⟨#[128]⟩ ++ ⟨(Lib.repeatL [0] ((119 - m.size % 64) % 64)).toArray⟩ ++ be8 (8 * m.size % 18446744073709551616)
/-- The digest of m. -/
def sha (m : ByteArray) : ByteArray := strOfNums (bytes (state (m ++ pad m)))
theorem nil_app (m : ByteArray) : (⟨#[]⟩ : ByteArray) ++ m = m := by apply ba_ext; rw [app_list]; rfl
theorem bytes_len (l : List Int) : (bytes l).length = 4 * l.length := by
  induction l with
  | nil => rfl
  | cons x l ih => simp only [bytes, List.flatMap_cons, List.length_append, List.length_cons, be4, List.length_nil] at ih ⊢; omega
theorem bytes_snoc (l : List Int) (k : Nat) (h : k < l.length) : bytes (l.take (k + 1)) = bytes (l.take k) ++ be4 (l.getD k 0) := by
  rw [bytes, bytes, List.take_succ_eq_append_getElem h, List.flatMap_append]
  congr 1
  rw [List.flatMap_cons, List.flatMap_nil, List.append_nil, List.getD_eq_getElem?_getD, List.getElem?_eq_getElem h]
  rfl
theorem sha_size (m : ByteArray) : (sha m).size = 32 := by
  rw [sha, strOfNums_size, bytes_len, (state_word _).1]
end Sha
theorem info_u8 : (Tryz.prog.info? 5).map (fun i => (i.zero, i.size, i.bytes)) = some (some (.int .u8 0), 1, 1) := by kernel_rfl
theorem info_Hash : (Tryz.prog.info? 138).map (·.size) = some 10 := by kernel_rfl
theorem zero_Hash : (Tryz.prog.info? 138).map (·.zero) = some (some (.agg (hash (List.replicate 8 0) ⟨#[]⟩ 0))) := by kernel_rfl
theorem hash_size (v : List Int) (r : ByteArray) (t : Int) (h : v.length = 8) : (hash v r t).size = 10 := by simp [hash, Sha.row_size, h]
theorem hash_one (v : List Int) (r : ByteArray) (t : Int) : ∀ x ∈ (hash v r t).toList, x.oneCell' = true := by
  intro x hx
  unfold hash at hx
  rw [Array.toList_append, List.mem_append] at hx
  rcases hx with hx | hx
  · exact Sha.row_one v x hx
  · simp at hx
    rcases hx with rfl | rfl <;> rfl
set_option maxHeartbeats 1000000 in
theorem shaClone_any (b : Nat) (v : List Int) (r : ByteArray) (t : Int) (w : World) (hl : v.length = 8) (hh : At w b 138 (hash v r t)) :
    Calls Tryz.prog 109 #[.pointer (some ⟨b, 0, none⟩)] w fun e w' => e = .returned (.pointer (some ⟨w.heap.size, 0, none⟩)) ∧ w' = w.alloc (.cells (hash v r t) 138) := by
  have hlt := hh.lt
  go_enter Tryz.func109, Tryz.ntmps109
  go_upto_region 1 with (fail)
  refine wp_region_lit ?_
  refine wpList_same (.pointer (some ⟨b, 0, none⟩)) rfl (by rfl) ?_
  refine wpList_same (.pointer (some ⟨b, 0, none⟩)) rfl (by rfl) ?_
  refine wpList_load_row rfl 138 _ rfl b rfl 138 (hash v r t) (0, 0) _ hh Tryz.underlying138 rfl (by rw [hash_size _ _ _ hl]; exact info_Hash) ?_
  refine wpList_alloc_row rfl 138 rfl (hash (List.replicate 8 0) ⟨#[]⟩ 0) zero_Hash ?_
  refine wpList_store_row rfl _ _ _ rfl w.heap.size _ _ (hash v r t) (by rfl) (by rfl) (At.new _ _ _) (by rw [hash_size _ _ _ hl]; rfl) (by rw [hash_size _ _ _ hl]; exact info_Hash) (hash_one _ _ _) ?_
  rw [setRow_alloc]
  obtain ⟨cs, hcs⟩ : ∃ cs, cs = hash v r t := ⟨_, rfl⟩
  rw [← hcs]
  have HC := Lib.hid hcs; clear hcs
  go_wp2
  go_ret
  exact ⟨rfl, by rw [HC.out]⟩
set_option maxHeartbeats 2000000 in
set_option maxRecDepth 100000 in
theorem hsum_any (b : Nat) (m : ByteArray) (w : World) (hh : Held w b m) :
    Calls Tryz.prog 81 #[.pointer (some ⟨b, 0, none⟩)] w fun e w' => e = .returned (.string (Sha.sha m)) ∧ Below w.heap.size w w' := by
  have hlt := hh.lt
  have hl := (Sha.state_word m).1
  go_enter Tryz.func81, Tryz.ntmps81
  go_wp2_with fail
  refine (shaClone_any b _ _ _ w hl hh).mono ?_
  rintro e w1 ⟨rfl, rfl⟩
  obtain ⟨w1, hw1⟩ : ∃ x, x = w.alloc (.cells (hash (Sha.state m) (Sha.rest m) ((m.size : Int) % 18446744073709551616)) 138) := ⟨_, rfl⟩
  have hc : Held w1 w.heap.size m := by rw [hw1]; exact At.new _ _ _
  have hb1 : Below w.heap.size w w1 := by rw [hw1]; exact (Below.refl _ _).alloc (Nat.le_refl _) _
  have hsz1 : w1.heap.size = w.heap.size + 1 := by rw [hw1, World.size_alloc]
  rw [← hw1]
  clear hw1
  have hc8 := hc.cell 8
  rw [hash8 _ _ _ hl] at hc8
  have hob := hh.below hb1 hlt
  have hc9 := hob.cell 9
  rw [hash9 _ _ _ hl] at hc9
  have HH := Lib.hid hh; have HC := Lib.hid hc; have HB1 := Lib.hid hb1; have HOB := Lib.hid hob
  clear hh hc hb1 hob
  have hrs := Sha.rest_size m
  have HC9 := Lib.hid hc9; clear hc9
  go_wp2_with fail
  have hz : (119 - (m.size : Int) % 64) % 64 = (((119 - m.size % 64) % 64 : Nat) : Int) := by omega
  rw [hz]
  generalize hzn : (119 - m.size % 64) % 64 = z
  have HZN := Lib.hid hzn
  have hz64 : z < 64 := by omega
  clear hzn hz
  refine Lex.wp_region_lexN (fun k => k = b) [7] 11 [3, 7] (by kernel_rfl) (by kernel_rfl) (by kernel_rfl) ?_
  simp only [Lex.wpCuts, List.take_succ_cons, List.take_zero, List.drop_succ_cons, List.drop_zero]
  go_wp2_with fail
  refine (Tryz.strings_Repeat ⟨#[0]⟩ _ _ (by omega) (by show 1 * _ ≤ _; omega)).mono ?_
  rintro e w2 ⟨rfl, hb2⟩
  have hb2 : Below w1.heap.size w1 w2 := ((Below.refl w1.heap.size w1).drew).trans hb2
  have hb2c : Held w2 w.heap.size m := At.below (B := w1.heap.size) HC.out hb2 (by omega)
  have hob2 := At.below (B := w1.heap.size) HOB.out hb2 (by omega)
  have hc9 := hob2.cell 9
  rw [hash9 _ _ _ hl] at hc9
  have hsz2 := hb2.size
  have HB2 := Lib.hid hb2; have HC2 := Lib.hid hb2c; have HOB2 := Lib.hid hob2; clear hb2 hb2c hob2
  have hrs : (⟨(Lib.repeatL (⟨#[0]⟩ : ByteArray).data.toList z).toArray⟩ : ByteArray).size = z := by
    show (Lib.repeatL [0] z).toArray.size = z
    simp [Lib.repeatL_length]
  generalize hR : (⟨(Lib.repeatL (⟨#[0]⟩ : ByteArray).data.toList z).toArray⟩ : ByteArray) = R at *
  have HR := Lib.hid hR; clear hR
  clear hb2
  go_wp2_with fail
  refine Lex.Mid.intro (fun k _ hk => HB2.out.block k hk) ?_
  go_wp2_with fail
  obtain ⟨N, hN⟩ : ∃ N, N = 8 * m.size % 18446744073709551616 := ⟨_, rfl⟩
  have hNw : IntKind.u64.wrap (8 * ((m.size : Int) % 18446744073709551616)) = (N : Int) := by rw [IntKind.wrap_u64, hN]; omega
  rw [hNw]
  have hNl : N < 18446744073709551616 := by omega
  have HN := Lib.hid hN; clear hN hNw
  refine (number_any N w2 hNl).mono ?_
  rintro e w3 ⟨rfl, hb3⟩
  have hb3' : Below w1.heap.size w1 w3 := HB2.out.trans (hb3.mono (by omega))
  have hc3 : Held w3 w.heap.size m := At.below (B := w1.heap.size) HC.out hb3' (by omega)
  have HB3 := Lib.hid hb3'; have HC3 := Lib.hid hc3
  have hsz3 := hb3.size
  have hcb := (At.below (B := w1.heap.size) HOB.out hb3' (by omega)).cell 9
  rw [hash9 _ _ _ hl] at hcb
  clear hb3 hb3' hc3
  have hbs := be8_size N
  generalize hB8 : be8 N = B8 at *
  have HB8 := Lib.hid hB8; clear hB8
  go_wp2_with fail
  refine Lex.Mid.intro (fun k _ hk => HB3.out.block k hk) ?_
  go_wp2_with fail
  have hpad : (⟨#[128]⟩ : ByteArray) ++ R ++ B8 = Sha.pad m := by
    rw [Sha.pad, ← HR.out, HZN.out, ← HN.out, HB8.out]
  have hpsz : (Sha.pad m).size ≤ 9223372036854775000 := by
    rw [← hpad, Sha.app_size, Sha.app_size, hrs, hbs]
    show 1 + z + 8 ≤ _
    omega
  rw [hpad]
  refine (write_any w.heap.size m _ w3 hpsz HC3.out).mono ?_
  rintro e w4 ⟨rfl, hc4, hf4⟩
  have hb4 : Below w.heap.size w w4 := (HB1.out.trans (HB3.out.mono (by omega))).trans (hf4.below (by have := HB3.out.size; omega) (fun k hk => by omega))
  have hcb4 := (HH.out.below hb4 hlt).cell 9
  rw [hash9 _ _ _ hl] at hcb4
  have HC4 := Lib.hid hc4; have HB4 := Lib.hid hb4; clear hc4 hb4 hf4
  go_wp2_with fail
  refine Lex.EndsN.intro (by kernel_rfl) ⟨⟨rfl, by show (w1.cell? ⟨b, 9, none⟩).isSome = true; rw [HC9.out]; rfl⟩, trivial⟩ ?_
  clear hc9 hcb hcb4 hc8
  have hwd := Sha.state_word (m ++ Sha.pad m)
  obtain ⟨z0, z1, z2, z3, z4, z5, z6, z7, hz, d0, d1, d2, d3, d4, d5, d6, d7⟩ := hwd.lit
  have hc4 := HC4.out
  unfold Held at hc4
  rw [hz, hash_lit] at hc4
  have v0 := hc4.cell 0; have v1 := hc4.cell 1; have v2 := hc4.cell 2; have v3 := hc4.cell 3; have v4 := hc4.cell 4; have v5 := hc4.cell 5; have v6 := hc4.cell 6; have v7 := hc4.cell 7
  simp only [List.getElem?_toArray, List.getElem?_cons_zero, List.getElem?_cons_succ] at v0 v1 v2 v3 v4 v5 v6 v7
  have HZ := Lib.hid hz; clear hz hc4 hwd
  go_wp2_with fail
  have hl : ([z0, z1, z2, z3, z4, z5, z6, z7] : List Int).length = 8 := rfl
  have hbd : ∀ x ∈ ([z0, z1, z2, z3, z4, z5, z6, z7] : List Int), 0 ≤ x ∧ x < 4294967296 := by
    intro x hx
    simp only [List.mem_cons, List.mem_nil_iff, or_false] at hx
    rcases hx with rfl | rfl | rfl | rfl | rfl | rfl | rfl | rfl <;> assumption
  have hzz : (#[.int .u32 z0, .int .u32 z1, .int .u32 z2, .int .u32 z3, .int .u32 z4, .int .u32 z5, .int .u32 z6, .int .u32 z7] : Array Value) = Sha.row [z0, z1, z2, z3, z4, z5, z6, z7] := rfl
  rw [hzz]
  generalize [z0, z1, z2, z3, z4, z5, z6, z7] = zs at *
  clear hzz v0 v1 v2 v3 v4 v5 v6 v7
  obtain ⟨i0, hi, hz0, hz1, hz2⟩ := info_parts info_u8
  have hnil := World.ownsRow_nil w4 w4.heap.size 5 1
  go_loopw [33, 5] (fun i v wr => ∃ k : Nat, k ≤ 8 ∧ i = .int .i64 k ∧ wr.ownsRow w4.heap.size 5 1 v (4 * k) ((Sha.bytes (zs.take k)).map (Value.int .u8)) ∧ Below w4.heap.size w4 wr)
    (fun i _ _ => 8 - (intOf i).toNat)
  case atStart =>
    exact ⟨0, by omega, rfl, hnil, Below.refl _ _⟩
  case round =>
    obtain ⟨k, hk, rfl, how, hbr⟩ := hrel
    by_cases hk8 : k < 8
    · have dk : decide ((k : Int) < 8) = true := by simp; omega
      have rk : (Sha.row zs)[k]? = some (.int .u32 (zs.getD k 0)) := by
        rw [Sha.row_get, List.getElem?_eq_getElem (by omega), List.getD_eq_getElem?_getD, List.getElem?_eq_getElem (by omega)]
        rfl
      have hsn := Sha.bytes_snoc zs k (by omega)
      have hx : 0 ≤ zs.getD k 0 ∧ zs.getD k 0 < 4294967296 := by
        rw [List.getD_eq_getElem?_getD, List.getElem?_eq_getElem (by omega)]
        exact hbd _ (List.getElem_mem _)
      generalize zs.getD k 0 = x at *
      have HOW := Lib.hid how; clear how
      have HBR := Lib.hid hbr; clear hbr
      have HSN := Lib.hid hsn; clear hsn
      go_wp2_with fail
      rw [run_index_array_in 136 112 8 (Sha.row zs) .i64 k _ _ rfl hk8 rk Tryz.sizeOf112 Tryz.isAgg112]
      have h16 : x / 16777216 < 256 := by omega
      go_wp2_with (at_builtin; go_must (refine wpList_append_own_at _ rfl _ _ 45 rfl w4.heap.size 5 i0 (.int .u8 0) 1 1 Tryz.underlying45 hi hz0 hz1 hz2 rfl (by omega) _ (4 * k) _ rfl (HOW.out.alloc _) ⟨wr.heap.size, 0, none⟩ 4 4 ((Sha.be4 x).map (Value.int .u8)) rfl rfl ?c1 ?c2 ?c3 ?c4 ?c5 ?_))
      case c1 =>
        intro j u hj
        match j, hj with
        | 0, hj => simp [Sha.be4] at hj; subst hj; simp [Addr.add]
        | 1, hj => simp [Sha.be4] at hj; subst hj; simp [Addr.add]
        | 2, hj => simp [Sha.be4] at hj; subst hj; simp [Addr.add]
        | 3, hj => simp [Sha.be4] at hj; subst hj; simp [Addr.add]
      case c2 => intro u hu; simp [Sha.be4] at hu; rcases hu with rfl | rfl | rfl | rfl <;> rfl
      case c3 => unfold maxLen; omega
      case c4 => omega
      case c5 => have := HBR.out.size; simp; omega
      intro v' w' how' hg _ _
      have hb' : Below w4.heap.size w4 w' := below_own (HBR.out.alloc (by have := HBR.out.size; omega) _) (by have := HBR.out.size; simp; omega) HOW.out hg
      have ho' : w'.ownsRow w4.heap.size 5 1 v' (4 * (k + 1)) ((Sha.bytes (zs.take (k + 1))).map (Value.int .u8)) := by
        rw [HSN.out, List.map_append]
        exact how'
      have HO := Lib.hid ho'; have HBB := Lib.hid hb'; clear how' hg ho' hb'
      go_wp2_with fail
      go_roundw
      case rel => exact ⟨k + 1, by omega, by go_num, HO.out, HBB.out⟩
      case measure => simp [intOf]; omega
    · have hk' : k = 8 := by omega
      have dk : decide ((k : Int) < 8) = false := by simp; omega
      have HK := Lib.hid hk'; clear hk'
      have HOW := Lib.hid how; clear how
      have HBR := Lib.hid hbr; clear hbr
      go_wp2_with fail
      rw [run_convert_own wr 45 5 9 rfl rfl rfl _ HOW.out]
      have htk : zs.take k = zs := List.take_of_length_le (by rw [HK.out, hl]; omega)
      rw [htk, ← HZ.out]
      go_wp2_with fail
      go_ret
      exact ⟨rfl, HB4.out.trans (HBR.out.mono HB4.out.size)⟩
theorem sum_any (m : ByteArray) (w : World) (hs : m.size ≤ 9223372036854775000) :
    Calls Tryz.prog 46 #[.string m] w fun e w' => e = .returned (.string (Sha.sha m)) ∧ Below w.heap.size w w' := by
  go_enter Tryz.func46, Tryz.ntmps46
  go_wp2_with fail
  refine (new_any w).mono ?_
  rintro e w1 ⟨rfl, rfl⟩
  have hc : Held (w.alloc (.cells (hash [1779033703, 3144134277, 1013904242, 2773480762, 1359893119, 2600822924, 528734635, 1541459225] ⟨#[]⟩ 0) 138)) w.heap.size ⟨#[]⟩ := At.new _ _ _
  have HC := Lib.hid hc; clear hc
  go_wp2_with fail
  refine (write_any w.heap.size _ m _ hs HC.out).mono ?_
  rintro e w2 ⟨rfl, hc2, hf⟩
  rw [Sha.nil_app] at hc2
  have hb : Below w.heap.size w w2 := ((Below.refl w.heap.size w).alloc (Nat.le_refl _) _).trans (hf.below (by simp) (fun k hk => by omega))
  have HC2 := Lib.hid hc2; have HB := Lib.hid hb; clear hc2 hf hb
  go_wp2_with fail
  refine (hsum_any w.heap.size m w2 HC2.out).mono ?_
  rintro e w3 ⟨rfl, hb3⟩
  have hb4 := HB.out.trans (hb3.mono HB.out.size)
  have HB4 := Lib.hid hb4; clear hb3 hb4
  go_wp2_with fail
  go_ret
  exact ⟨rfl, HB4.out⟩
end Go.Proofs.YtjlpdknomdhbhaaGreatDoor
