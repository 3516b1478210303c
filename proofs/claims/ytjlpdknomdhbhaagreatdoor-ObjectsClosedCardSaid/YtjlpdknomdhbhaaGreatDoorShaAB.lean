/- What the program's SHA-256 computes, as plain functions on integers and lists, and small laws on them. No condition. The rotations and mixes of the program's SHA-256 and of the reference's return what their text says. Conditions: the counts lie in range. -/
import Derived.WalkKit
import Derived.Test.YtjlpdknomdhbhaaGreatDoorChecked
import Derived.WalkLawsBesides
import Derived.WalkSpells
import Derived.Lib.Hide
import Derived.BigQuiet
import Derived.Deep.QuietTactic
namespace Go.Proofs.YtjlpdknomdhbhaaGreatDoor
set_option linter.unusedVariables false
set_option linter.unusedSimpArgs false
open Go
namespace Sha
def rotl (x r : Int) : Int := bits BinOp.or IntKind.u32 (x * 2 ^ r.toNat % 4294967296) (x / 2 ^ (32 - r).toNat)
def x32 (x y : Int) : Int := bits BinOp.xor IntKind.u32 x y
def a32 (x y : Int) : Int := bits BinOp.and IntKind.u32 x y
def sg (x ra rb rc : Int) : Int := x32 (x32 (rotl x ra) (rotl x rb)) (rotl x rc)
def ss (x ra rb s : Int) : Int := x32 (x32 (rotl x ra) (rotl x rb)) (x / 2 ^ s.toNat)
def row (l : List Int) : Array Value := (l.map (Value.int .u32)).toArray
theorem row_size (l : List Int) : (row l).size = l.length := by simp [row]
theorem row_get (l : List Int) (i : Nat) : (row l)[i]? = (l[i]?).map (Value.int .u32) := by simp [row]
theorem row_set (l : List Int) (i : Nat) (v : Int) : (row l).setIfInBounds i (.int .u32 v) = row (l.set i v) := by
  simp [row, List.map_set]
theorem row_one (l : List Int) : ∀ v ∈ (row l).toList, v.oneCell' = true := by
  simp [row]; intro a _; rfl
def K : List Int := [1116352408, 1899447441, 3049323471, 3921009573, 961987163, 1508970993, 2453635748, 2870763221, 3624381080, 310598401, 607225278, 1426881987, 1925078388, 2162078206, 2614888103, 3248222580, 3835390401, 4022224774, 264347078, 604807628, 770255983, 1249150122, 1555081692, 1996064986, 2554220882, 2821834349, 2952996808, 3210313671, 3336571891, 3584528711, 113926993, 338241895, 666307205, 773529912, 1294757372, 1396182291, 1695183700, 1986661051, 2177026350, 2456956037, 2730485921, 2820302411, 3259730800, 3345764771, 3516065817, 3600352804, 4094571909, 275423344, 430227734, 506948616, 659060556, 883997877, 958139571, 1322822218, 1537002063, 1747873779, 1955562222, 2024104815, 2227730452, 2361852424, 2428436474, 2756734187, 3204031479, 3329325298]
theorem K_len : K.length = 64 := by decide
/-- The word at i after k of its four bytes. -/
def acc (s : ByteArray) (i : Nat) : Nat → Int
  | 0 => 0
  | k + 1 => bits BinOp.or IntKind.u32 (acc s i k * 256 % 4294967296) ((s.data.toList.getD (4 * i + k) 0).toNat : Int)
def nxt (l : List Int) : Int :=
  (ss (l.getD (l.length - 2) 0) 15 13 10 + l.getD (l.length - 7) 0 + ss (l.getD (l.length - 15) 0) 25 14 3 + l.getD (l.length - 16) 0) % 4294967296
def step (s : ByteArray) (l : List Int) : List Int := l ++ [if l.length < 16 then acc s l.length 4 else nxt l]
def sched (s : ByteArray) : Nat → List Int
  | 0 => []
  | n + 1 => step s (sched s n)
theorem sched_len (s : ByteArray) : ∀ n, (sched s n).length = n
  | 0 => rfl
  | n + 1 => by simp [sched, step, sched_len s n]
def lay (l : List Int) : List Int := l ++ List.replicate (64 - l.length) 0
theorem lay_len (l : List Int) (h : l.length ≤ 64) : (lay l).length = 64 := by simp [lay]; omega
theorem lay_get (l : List Int) (j : Nat) (h : j < l.length) : (lay l).getD j 0 = l.getD j 0 := by
  simp [lay, List.getElem?_append, h]
theorem lay_set (l : List Int) (v : Int) (h : l.length < 64) : (lay l).set l.length v = lay (l ++ [v]) := by
  unfold lay
  rw [List.set_append_right _ _ (Nat.le_refl _)]
  simp only [Nat.sub_self, List.length_append, List.length_singleton, List.append_assoc]
  congr 1
  obtain ⟨m, hm⟩ : ∃ m, 64 - l.length = m + 1 := ⟨63 - l.length, by omega⟩
  rw [hm, show 64 - (l.length + 1) = m by omega, List.replicate_succ]
  rfl
theorem lay_set_last (l : List Int) (u v : Int) (_h : l.length < 64) : (lay (l ++ [u])).set l.length v = lay (l ++ [v]) := by
  unfold lay
  simp [List.set_append]
theorem lay_zero (l : List Int) (h : l.length < 64) : lay (l ++ [0]) = lay l := by
  unfold lay
  simp only [List.length_append, List.length_singleton, List.append_assoc]
  congr 1
  obtain ⟨m, hm⟩ : ∃ m, 64 - l.length = m + 1 := ⟨63 - l.length, by omega⟩
  rw [hm, show 64 - (l.length + 1) = m by omega, List.replicate_succ]
  rfl
theorem row_at (l : List Int) (v : Int) (h : l.length < 64) : (row (lay (l ++ [v])))[l.length]? = some (.int .u32 v) := by
  rw [row_get]
  simp [lay]
theorem acc_step (s : ByteArray) (i k : Nat) (h : 4 * i + k < s.size) : acc s i (k + 1) = bits BinOp.or IntKind.u32 (acc s i k * 256 % 4294967296) ((s[4 * i + k].toNat : Int) % 4294967296) := by
  have e : s.data.toList.getD (4 * i + k) 0 = s[4 * i + k] := by
    have : 4 * i + k < s.data.toList.length := by simpa using h
    rw [List.getD_eq_getElem?_getD, List.getElem?_eq_getElem this]
    rfl
  rw [acc, e]
  congr 1
  have := s[4 * i + k].toNat_lt
  omega
theorem acc_bd (s : ByteArray) (i : Nat) : ∀ k, 0 ≤ acc s i k ∧ acc s i k < 4294967296
  | 0 => by simp [acc]
  | k + 1 => by
    simp only [acc, bits]
    have := (BitVec.ofInt 32 (acc s i k * 256 % 4294967296) ||| BitVec.ofInt 32 ((s.data.toList.getD (4 * i + k) 0).toNat : Int)).isLt
    show 0 ≤ IntKind.u32.wrap _ ∧ IntKind.u32.wrap _ < _
    rw [IntKind.wrap_u32]
    omega
theorem sched_bd (s : ByteArray) : ∀ n, ∀ x ∈ sched s n, 0 ≤ x ∧ x < 4294967296
  | 0, x, h => by cases h
  | n + 1, x, h => by
    rw [sched, step, List.mem_append, List.mem_singleton] at h
    rcases h with h | rfl
    · exact sched_bd s n x h
    · split
      · exact acc_bd _ _ _
      · unfold nxt; omega
theorem sched_bdD (s : ByteArray) (n j : Nat) : 0 ≤ (sched s n).getD j 0 ∧ (sched s n).getD j 0 < 4294967296 := by
  rw [List.getD_eq_getElem?_getD]
  cases h : (sched s n)[j]? with
  | none => simp
  | some x => exact sched_bd s n x (List.mem_of_getElem? h)
theorem row_lay (l : List Int) (j : Nat) (h : j < l.length) : (row (lay l))[j]? = some (.int .u32 (l.getD j 0)) := by
  rw [row_get]
  unfold lay
  rw [List.getElem?_append_left h, List.getElem?_eq_getElem h, List.getD_eq_getElem?_getD, List.getElem?_eq_getElem h]
  rfl
theorem sched64_get (s : ByteArray) (k : Nat) (h : k < 64) : (row (sched s 64))[k]? = some (.int .u32 ((sched s 64).getD k 0)) := by
  have hl : k < (sched s 64).length := by rw [sched_len]; exact h
  rw [row_get, List.getElem?_eq_getElem hl, List.getD_eq_getElem?_getD, List.getElem?_eq_getElem hl]
  rfl
theorem K_get (k : Nat) (h : k < 64) : (row K)[k]? = some (.int .u32 (K.getD k 0)) := by
  have hl : k < K.length := by rw [K_len]; exact h
  rw [row_get, List.getElem?_eq_getElem hl, List.getD_eq_getElem?_getD, List.getElem?_eq_getElem hl]
  rfl
def n32 (x : Int) : Int := x32 4294967295 x
/-- One round over the eight words. -/
def rnd (v : List Int) (k w : Int) : List Int :=
  match v with
  | [a, b, c, d, e, f, g, h] =>
    let t1 := (h + sg e 26 21 7 + x32 (a32 e f) (a32 (n32 e) g) + k + w) % 4294967296
    let t2 := (sg a 30 19 10 + x32 (x32 (a32 a b) (a32 a c)) (a32 b c)) % 4294967296
    [(t1 + t2) % 4294967296, a, b, c, (d + t1) % 4294967296, e, f, g]
  | _ => v
theorem rnd_lit (y0 y1 y2 y3 y4 y5 y6 y7 k w : Int) : row (rnd [y0, y1, y2, y3, y4, y5, y6, y7] k w) =
    row [(y7 + sg y4 26 21 7 + bits .xor .u32 (bits .and .u32 y4 y5) (bits .and .u32 (bits .xor .u32 IntKind.u32.max y4) y6) + k + w +
      (sg y0 30 19 10 + bits .xor .u32 (bits .xor .u32 (bits .and .u32 y0 y1) (bits .and .u32 y0 y2)) (bits .and .u32 y1 y2))) % 4294967296, y0, y1, y2,
      (y3 + (y7 + sg y4 26 21 7 + bits .xor .u32 (bits .and .u32 y4 y5) (bits .and .u32 (bits .xor .u32 IntKind.u32.max y4) y6) + k + w)) % 4294967296, y4, y5, y6] := by
  simp only [rnd, x32, a32, n32, show IntKind.u32.max = 4294967295 from rfl]
  generalize bits BinOp.xor IntKind.u32 _ _ = p
  generalize bits BinOp.xor IntKind.u32 _ _ = q
  generalize sg y4 26 21 7 = r
  generalize sg y0 30 19 10 = s
  have e1 : ∀ a b : Int, (a % 4294967296 + b % 4294967296) % 4294967296 = (a + b) % 4294967296 := fun a b => by omega
  have e2 : ∀ a b : Int, (a + b % 4294967296) % 4294967296 = (a + b) % 4294967296 := fun a b => by omega
  rw [e1, e2]
def rounds (W : List Int) (v : List Int) : Nat → List Int
  | 0 => v
  | n + 1 => rnd (rounds W v n) (K.getD n 0) (W.getD n 0)
def Word (v : List Int) : Prop := v.length = 8 ∧ ∀ x ∈ v, 0 ≤ x ∧ x < 4294967296
theorem Word.lit {v : List Int} (h : Word v) : ∃ a b c d e f g i, v = [a, b, c, d, e, f, g, i] ∧ (0 ≤ a ∧ a < 4294967296) ∧ (0 ≤ b ∧ b < 4294967296) ∧ (0 ≤ c ∧ c < 4294967296) ∧ (0 ≤ d ∧ d < 4294967296) ∧ (0 ≤ e ∧ e < 4294967296) ∧ (0 ≤ f ∧ f < 4294967296) ∧ (0 ≤ g ∧ g < 4294967296) ∧ (0 ≤ i ∧ i < 4294967296) := by
  obtain ⟨h1, h2⟩ := h
  match v, h1 with
  | [a, b, c, d, e, f, g, i], _ => exact ⟨a, b, c, d, e, f, g, i, rfl, h2 _ (by simp), h2 _ (by simp), h2 _ (by simp), h2 _ (by simp), h2 _ (by simp), h2 _ (by simp), h2 _ (by simp), h2 _ (by simp)⟩
theorem Word.rnd {v : List Int} (h : Word v) (k w : Int) : Word (rnd v k w) := by
  obtain ⟨a, b, c, d, e, f, g, i, rfl, ha, hb, hc, hd, he, hf, hg, hi⟩ := h.lit
  refine ⟨rfl, fun x hx => ?_⟩
  simp only [Sha.rnd, List.mem_cons, List.mem_nil_iff, or_false] at hx
  rcases hx with rfl | rfl | rfl | rfl | rfl | rfl | rfl | rfl <;> first | assumption | omega
theorem Word.rounds {v : List Int} (h : Word v) (W : List Int) : ∀ n, Word (rounds W v n)
  | 0 => h
  | n + 1 => (Word.rounds h W n).rnd _ _
/-- The words after a block. -/
def block (v : List Int) (s : ByteArray) : List Int := List.zipWith (fun x y => (x + y) % 4294967296) v (rounds (sched s 64) v 64)
/-- The words when the first k are added. -/
def part (v z : List Int) (k : Nat) : List Int := List.zipWith (fun x y => (x + y) % 4294967296) (v.take k) z ++ v.drop k
theorem part_len (v z : List Int) (h : v.length = 8) (h' : z.length = 8) (k : Nat) (hk : k ≤ 8) : (part v z k).length = 8 := by
  simp [part]; omega
theorem part_zero (v z : List Int) : part v z 0 = v := by simp [part]
theorem part_get (v z : List Int) (h : v.length = 8) (h' : z.length = 8) (k : Nat) (hk : k < 8) : (part v z k).getD k 0 = v.getD k 0 := by
  have hl : (List.zipWith (fun x y => (x + y) % 4294967296) (v.take k) z).length = k := by simp; omega
  simp only [part, List.getD_eq_getElem?_getD]
  rw [List.getElem?_append_right (by omega), hl]
  simp
theorem part_step (v z : List Int) (h : v.length = 8) (h' : z.length = 8) (k : Nat) (hk : k < 8) : (part v z k).set k ((v.getD k 0 + z.getD k 0) % 4294967296) = part v z (k + 1) := by
  match v, h, z, h' with
  | [a, b, c, d, e, f, g, i], _, [a', b', c', d', e', f', g', i'], _ =>
    match k, hk with
    | 0, _ => rfl
    | 1, _ => rfl
    | 2, _ => rfl
    | 3, _ => rfl
    | 4, _ => rfl
    | 5, _ => rfl
    | 6, _ => rfl
    | 7, _ => rfl
theorem part_end (v z : List Int) (h : v.length = 8) : part v z 8 = List.zipWith (fun x y => (x + y) % 4294967296) v z := by
  simp [part, List.take_of_length_le, List.drop_eq_nil_of_le, h]
theorem Word.block {v : List Int} (h : Word v) (s : ByteArray) : Word (block v s) := by
  refine ⟨?_, fun x hx => ?_⟩
  · simp [Sha.block, h.1, (h.rounds (sched s 64) 64).1]
  · obtain ⟨i, hi, rfl⟩ := List.getElem_of_mem hx
    simp only [Sha.block, List.getElem_zipWith]
    omega
end Sha
end Go.Proofs.YtjlpdknomdhbhaaGreatDoor
namespace Go.Proofs.YtjlpdknomdhbhaaGreatDoor
set_option linter.unusedVariables false
set_option linter.unusedSimpArgs false
open Go Go.RowKit
set_option maxHeartbeats 400000 in
theorem rotl_any (x k r : Int) (w : World) (hk : bits BinOp.and IntKind.u64 (IntKind.u64.wrap k) 31 = r) (h0 : 0 ≤ r) (h1 : r ≤ 31) (_hx0 : 0 ≤ x) (_hx : x < 4294967296) :
    Calls Tryz.prog 136 #[.int .u32 x, .int .i64 k] w fun e w' => e = .returned (.int .u32 (Sha.rotl x r)) ∧ w = w' := by
  go_enter Tryz.func136, Tryz.ntmps136
  go_wp2
  go_ret
  exact ⟨rfl, rfl⟩
set_option maxHeartbeats 400000 in
theorem rotr_any (x k : Int) (w : World) (h0 : 0 ≤ k) (h1 : k ≤ 32) (_hx0 : 0 ≤ x) (_hx : x < 4294967296) :
    Calls Tryz.prog 115 #[.int .u32 x, .int .i64 k] w fun e w' => e = .returned (.int .u32 (bits BinOp.or IntKind.u32 (x / 2 ^ k.toNat) (x * 2 ^ (32 - k).toNat % 4294967296))) ∧ ∃ n, w' = w.drewN n := by
  go_enter Tryz.func115, Tryz.ntmps115
  go_wp2
  go_quiet (fail)
  go_wp2
  go_ret
  exact ⟨rfl, _, rfl⟩
set_option maxHeartbeats 400000 in
theorem mix3_any (x a b c ra rb rc : Int) (w : World) (ha : bits BinOp.and IntKind.u64 (IntKind.u64.wrap (-a)) 31 = ra) (ha0 : 0 ≤ ra) (ha1 : ra ≤ 31)
   (hb : bits BinOp.and IntKind.u64 (IntKind.u64.wrap (-b)) 31 = rb) (hb0 : 0 ≤ rb) (hb1 : rb ≤ 31)
   (hc : bits BinOp.and IntKind.u64 (IntKind.u64.wrap (-c)) 31 = rc) (hc0 : 0 ≤ rc) (hc1 : rc ≤ 31)
   (_a1 : 0 ≤ a) (_a2 : a ≤ 32) (_b1 : 0 ≤ b) (_b2 : b ≤ 32) (_c1 : 0 ≤ c) (_c2 : c ≤ 32) (hx0 : 0 ≤ x) (hx : x < 4294967296) :
    Calls Tryz.prog 135 #[.int .u32 x, .int .i64 a, .int .i64 b, .int .i64 c] w fun e w' => e = .returned (.int .u32 (Sha.sg x ra rb rc)) ∧ w = w' := by
  have A := Lib.hid ha; have B := Lib.hid hb; have C := Lib.hid hc
  clear ha hb hc
  go_enter Tryz.func135, Tryz.ntmps135
  go_wp2_with fail
  refine (rotl_any x _ ra _ A.out ha0 ha1 hx0 hx).mono ?_
  rintro e w' ⟨rfl, rfl⟩
  go_wp2_with fail
  refine (rotl_any x _ rb _ B.out hb0 hb1 hx0 hx).mono ?_
  rintro e w' ⟨rfl, rfl⟩
  go_wp2_with fail
  refine (rotl_any x _ rc _ C.out hc0 hc1 hx0 hx).mono ?_
  rintro e w' ⟨rfl, rfl⟩
  go_wp2_with fail
  go_ret
  exact ⟨rfl, rfl⟩
set_option maxHeartbeats 800000 in
theorem mix2_any (x a b c ra rb : Int) (w : World) (ha : bits BinOp.and IntKind.u64 (IntKind.u64.wrap (-a)) 31 = ra) (ha0 : 0 ≤ ra) (ha1 : ra ≤ 31)
   (hb : bits BinOp.and IntKind.u64 (IntKind.u64.wrap (-b)) 31 = rb) (hb0 : 0 ≤ rb) (hb1 : rb ≤ 31)
   (_a1 : 0 ≤ a) (_a2 : a ≤ 32) (_b1 : 0 ≤ b) (_b2 : b ≤ 32) (c1 : 0 ≤ c) (c2 : c ≤ 31) (hx0 : 0 ≤ x) (hx : x < 4294967296) :
    Calls Tryz.prog 153 #[.int .u32 x, .int .i64 a, .int .i64 b, .int .i64 c] w fun e w' => e = .returned (.int .u32 (Sha.ss x ra rb c)) ∧ ∃ n, w' = w.drewN n := by
  have A := Lib.hid ha; have B := Lib.hid hb
  clear ha hb
  go_enter Tryz.func153, Tryz.ntmps153
  go_wp2_with fail
  go_quiet ((go_at_call 136; first | (with_reducible exact Calls.quiet_of_same ((rotl_any x (-a) ra _ A.out ha0 ha1 hx0 hx).mono fun _ _ h => ⟨h.1, h.2.symm⟩)) | (with_reducible exact Calls.quiet_of_same ((rotl_any x (-b) rb _ B.out hb0 hb1 hx0 hx).mono fun _ _ h => ⟨h.1, h.2.symm⟩))))
  go_wp2
  go_ret
  exact ⟨rfl, _, rfl⟩
end Go.Proofs.YtjlpdknomdhbhaaGreatDoor
