/- A builder's writes keep all other blocks that are no rows of bytes. Condition: its length stays within 2^47. Archives: plain laws that the program's walk asks for; a slice of files as it is read. No condition. Archive of the program. Conditions: the sizes are in reach; the world holds bytealg.MaxLen. -/
import Derived.Test.YtjlpdknomdhbhaaGreatDoorObjL
import Derived.Test.YtjlpdknomdhbhaaGreatDoorSmap
import Derived.Lib.OthersKept
import Derived.Test.YtjlpdknomdhbhaaGreatDoorArcP
import Derived.Test.YtjlpdknomdhbhaaGreatDoorNamL
import Derived.Test.YtjlpdknomdhbhaaGreatDoorSetP
namespace Go.Proofs.YtjlpdknomdhbhaaGreatDoor
set_option linter.unusedVariables false
set_option linter.unusedSimpArgs false
open Go Go.RowKit Go.Maps
theorem bldCheck_kept (B b : Nat) (bs : List Value) (w : World) (h : Lib.IsBuilderF 79 5 B b bs w) :
    Calls Tryz.prog 91 #[.pointer (some ⟨b, 0, none⟩)] w fun e w' => e = .returned (.tuple #[]) ∧ (Lib.BuilderAtF 79 5 B b (.pointer (some ⟨b, 0, none⟩)) bs w' ∧ Below B w w') ∧ Lib.OthersKept 5 (some b) w w' := by
  rcases h with h | h
  · refine (bldCheck_fresh b w h.cell0 h.shape h.frozen0).mono ?_
    rintro e w' ⟨rfl, rfl⟩
    exact ⟨rfl, ⟨h.used _, (Below.refl B w).setCell (p := ⟨b, 0, none⟩) h.1 _⟩, (Lib.OthersKept.refl _ _ _).setCell ⟨b, 0, none⟩ rfl _⟩
  · refine (bldCheck_used b w h.cell0).mono ?_
    rintro e w' ⟨rfl, rfl⟩
    exact ⟨rfl, ⟨h, Below.refl B _⟩, Lib.OthersKept.refl _ _ _⟩
set_option maxHeartbeats 2000000 in
set_option maxRecDepth 100000 in
theorem bldWrite_kept (B b : Nat) (bs : List Value) (s : ByteArray) (w : World) (h : Lib.IsBuilderF 79 5 B b bs w) (hlen : bs.length + s.size ≤ 140737488355328) (hBw : B ≤ w.heap.size) :
    Calls Tryz.prog 55 #[.pointer (some ⟨b, 0, none⟩), .string s] w fun e w' => e = .returned (.tuple #[.int .i64 s.size, .nilIface]) ∧ (Lib.IsBuilderF 79 5 B b (bs ++ Lib.strCells s) w' ∧ Below B w w') ∧ Lib.OthersKept 5 (some b) w w' := by
  obtain ⟨i0, hi, hz0, hz1, hz2⟩ := info_parts info_u8
  go_enter Tryz.func55, Tryz.ntmps55
  go_wp2_with (go_at_call 91; refine (bldCheck_kept B b bs _ h).mono ?_)
  rintro e w1 ⟨rfl, ⟨h1, hb1⟩, hk1⟩
  obtain ⟨hB, v, hbk, hown, hne⟩ := h1
  have c0 : w1.cell? ⟨b, 0, none⟩ = some (.pointer (some ⟨b, 0, none⟩)) := by rw [Lib.cell_of_heap hbk]; rfl
  have c1 : w1.cell? ⟨b, 1, none⟩ = some v := by rw [Lib.cell_of_heap hbk]; rfl
  go_wp2_with (at_builtin; refine Lib.wpList_append_own_stringF _ rfl _ _ 45 9 rfl B 5 i0 Tryz.underlying45 Tryz.underlying9 hi hz0 hz1 hz2 _ _ _ rfl hown s rfl ?c3 ?c4 ?c5 ?_)
  case c3 => unfold maxLen; omega
  case c4 => omega
  case c5 => have := hb1.size; omega
  intro v' w2 hown' hgrow _
  have hlt : b < w1.heap.size := by
    rcases Nat.lt_or_ge b w1.heap.size with h' | h'
    · exact h'
    · simp [Array.getElem?_eq_none h'] at hbk
  have hb2 : w2.heap[b]? = some (.cells #[.pointer (some ⟨b, 0, none⟩), v] 79 (0, 0)) := by
    rw [hgrow.block b hlt (fun e => hne e.symm)]
    exact hbk
  have d0 : w2.cell? ⟨b, 0, none⟩ = some (.pointer (some ⟨b, 0, none⟩)) := by rw [Lib.cell_of_heap hb2]; rfl
  have d1 : w2.cell? ⟨b, 1, none⟩ = some v := by rw [Lib.cell_of_heap hb2]; rfl
  have f1 : w2.frozen? ⟨b, 1, none⟩ = false := Lib.frozen_of_heap hb2 1
  have hk2 := hk1.grown hgrow (Lib.ownsRowF_kind hown)
  obtain ⟨ao, n', cap, rfl⟩ : ∃ ao n' cap, v' = .slice ao n' cap := by
    rcases hown'.2 with ⟨hv, _⟩ | ⟨g, cap, cur, fz, hv, _⟩
    · exact ⟨_, _, _, hv⟩
    · exact ⟨_, _, _, hv⟩
  go_wp2
  go_ret2
  refine ⟨rfl, ⟨?_, ?_⟩, hk2.setCell ⟨b, 1, none⟩ rfl _⟩
  · exact .inr (Lib.BuilderAtF.put (T := 79) (e := 5) hB hb2 (bs' := bs ++ Lib.strCells s) (by simpa [Lib.strCells_length] using hown') (by decide))
  · exact (hb1.grown hgrow (by have := hb1.size; omega) (fun k hk => (hown.lt k hk).1)).setCell (p := ⟨b, 1, none⟩) hB _
theorem bldK (b : Nat) (X s : ByteArray) (w : World) (h : BldAt w b X) (hl : X.size + s.size ≤ 140737488355328) :
    Calls Tryz.prog 55 #[.pointer (some ⟨b, 0, none⟩), .string s] w fun e w' => e = .returned (.tuple #[.int .i64 s.size, .nilIface]) ∧ BldAt w' b (X ++ s) ∧ Below b w w' ∧ Lib.OthersKept 5 (some b) w w' :=
  (bldWrite_kept b b _ s w h (by rw [Lib.strCells_length]; exact hl) (Nat.le_of_lt h.lt)).mono fun _ _ ⟨h1, ⟨h2, h3⟩, h4⟩ => ⟨h1, by unfold BldAt; rw [strCells_app]; exact h2, h3, h4⟩
theorem bldLen (b : Nat) (X : ByteArray) (w : World) (h : BldAt w b X) :
    Calls Tryz.prog 57 #[.pointer (some ⟨b, 0, none⟩)] w fun e w' => e = .returned (.int .i64 X.size) ∧ w' = w :=
  (Tryz.Builder_Len_f b b _ w h).mono fun _ _ ⟨h1, h2⟩ => ⟨by rw [h1, Lib.strCells_length], h2⟩
/-- A builder stands while a map turns. -/
theorem BldAt.map {w w' : World} {b m n : Nat} {X : ByteArray} {f : ByteArray → Option Value} (h : BldAt w b X) (hm : Smap w m n f) (hg : w.grownBy w' (some m)) : BldAt w' b X := by
  obtain ⟨D, ⟨es, clock, hbm, _⟩, _⟩ := hm
  have key : ∀ p, Lib.BuilderAtF 79 5 b b p (Lib.strCells X) w → Lib.BuilderAtF 79 5 b b p (Lib.strCells X) w' := by
    intro p h
    have hlt := h.lt
    obtain ⟨hB, v, hbk, hown, hne⟩ := h
    refine ⟨hB, v, (hg.block b hlt (fun e => ?_)).trans hbk, hown.kept hg (.inr fun e => ?_), hne⟩
    · cases e
      rw [hbm] at hbk
      cases hbk
    · obtain ⟨c, fz, hc⟩ := Lib.ownsRowF_kind hown m e
      rw [hbm] at hc
      cases hc
  exact h.imp (key _) (key _)
theorem _root_.Go.Lib.OthersKept.at {w w' : World} {b g : Nat} {t : TypeId} {cs : Array Value} (h : Lib.OthersKept 5 (some b) w w') (ha : At w g t cs) (hg : g ≠ b) (ht : t ≠ 5) : At w' g t cs :=
  h g _ ha (fun e => hg (Option.some.inj e)) (fun c fz e => by simp only [Obj.cells.injEq] at e; exact ht e.2.1)
theorem _root_.Go.Lib.OthersKept.smap {w w' : World} {b m n : Nat} {f : ByteArray → Option Value} (h : Lib.OthersKept 5 (some b) w w') (hm : Smap w m n f) (hg : m ≠ b) : Smap w' m n f := by
  obtain ⟨D, ⟨es, clock, hbm, F, hs, hD⟩, hr⟩ := hm
  exact ⟨D, ⟨es, clock, h m _ hbm (fun e => hg (Option.some.inj e)) (fun c fz e => by cases e), F, hs, hD⟩, hr⟩
end Go.Proofs.YtjlpdknomdhbhaaGreatDoor
namespace Go.Proofs.YtjlpdknomdhbhaaGreatDoor
set_option linter.unusedVariables false
set_option linter.unusedSimpArgs false
open Go Go.RowKit Go.Maps
namespace Nam
theorem mem_cuts : ∀ {l : List UInt8} {c : UInt8}, c ∈ l → c = 47 ∨ ∃ p ∈ cuts l, c ∈ p
  | [], _, h => by cases h
  | x :: l, c, h => by
    unfold cuts
    by_cases hx : x = 47
    · rw [if_pos hx]
      rcases List.mem_cons.1 h with e | h
      · exact .inl (e.trans hx)
      · rcases mem_cuts h with h | ⟨p, hp, hc⟩
        · exact .inl h
        · exact .inr ⟨p, List.mem_cons_of_mem _ hp, hc⟩
    · rw [if_neg hx]
      obtain ⟨y, r, hr⟩ : ∃ y r, cuts l = y :: r := by
        cases hq : cuts l with
        | nil => exact absurd hq (cuts_ne l)
        | cons y r => exact ⟨y, r, rfl⟩
      rw [hr]
      rcases List.mem_cons.1 h with e | h
      · exact .inr ⟨_, List.mem_cons_self, by rw [e]; exact List.mem_cons_self⟩
      · rcases mem_cuts h with h | ⟨p, hp, hc⟩
        · exact .inl h
        · rw [hr] at hp
          rcases List.mem_cons.1 hp with e | hp
          · exact .inr ⟨_, List.mem_cons_self, by rw [← e]; exact List.mem_cons_of_mem _ hc⟩
          · exact .inr ⟨p, List.mem_cons_of_mem _ hp, hc⟩
theorem good_ascii {c : UInt8} (h : goodB c = true) : c.toNat < 128 := by
  rcases Nat.lt_or_ge c.toNat 128 with h2 | h2
  · exact h2
  · have := good_hi h2
    unfold goodB at h
    rw [this] at h
    cases h
theorem ascii {l : List UInt8} (h : nameL l = true) : ∀ c ∈ l, c.toNat < 128 := by
  intro c hc
  unfold nameL at h
  rw [Bool.and_eq_true, List.all_eq_true] at h
  rcases mem_cuts hc with e | ⟨p, hp, hm⟩
  · rw [e]; decide
  · have := h.2 p hp
    cases p with
    | nil => cases hm
    | cons x p =>
      unfold partOK at this
      rw [Bool.and_eq_true, List.all_eq_true] at this
      exact good_ascii (this.2 c hm)
theorem nameL_len {l : List UInt8} (h : nameL l = true) : l.length ≤ 64 := by
  unfold nameL at h
  rw [Bool.and_eq_true, decide_eq_true_eq] at h
  exact h.1
theorem nameOK_L (s : ByteArray) : nameOK s = nameL s.data.toList := by
  unfold nameOK nameL
  rw [Array.length_toList]
  rfl
theorem under_any (pre : List (List UInt8)) (n : List UInt8) : (pre.any fun p => under p n) = true ↔ ∃ k, n[k]? = some 47 ∧ n.take k ∈ pre := by
  rw [List.any_eq_true]
  constructor
  · rintro ⟨p, hp, hu⟩
    obtain ⟨h1, h2⟩ := under_iff.1 hu
    exact ⟨p.length, h1, by rw [h2]; exact hp⟩
  · rintro ⟨k, h1, h2⟩
    refine ⟨_, h2, under_iff.2 ?_⟩
    have hl : k < n.length := (List.getElem?_eq_some_iff.1 h1).1
    rw [List.length_take, Nat.min_eq_left (by omega)]
    exact ⟨h1, rfl⟩
theorem namesOK_step (l : List (List UInt8)) (i : Nat) (h : i < l.length) : namesOK (l.take i) (l.drop i) = ((nameL l[i] && order (l.take i) l[i]) && (!((l.take i).any fun p => under p l[i]) && namesOK (l.take (i + 1)) (l.drop (i + 1)))) := by
  rw [List.drop_eq_getElem_cons h]
  conv => lhs; unfold namesOK
  rw [List.take_succ_eq_append_getElem h]
theorem order_zero (n : List UInt8) (l : List (List UInt8)) : order (l.take 0) n = true := rfl
theorem order_succ (l : List (List UInt8)) (i : Nat) (h : i < l.length) (n : List UInt8) : order (l.take (i + 1)) n = less l[i] n := by
  unfold order
  rw [List.take_succ_eq_append_getElem h, List.getLast?_concat]
end Nam
/-- The cells of files. -/
def fCells (l : List FileD) : List Value := l.flatMap fun x => [.string x.name, .string x.data]
theorem fCells_len (l : List FileD) : (fCells l).length = l.length * 2 := by
  induction l with
  | nil => rfl
  | cons x l ih => simp only [fCells, List.flatMap_cons, List.length_append, List.length_cons, List.length_nil] at ih ⊢; omega
theorem fCells_get (l : List FileD) (i : Nat) (h : i < l.length) : (fCells l)[i * 2]? = some (.string l[i].name) ∧ (fCells l)[i * 2 + 1]? = some (.string l[i].data) := by
  induction l generalizing i with
  | nil => cases h
  | cons x l ih =>
    match i with
    | 0 => exact ⟨rfl, rfl⟩
    | i + 1 =>
      have := ih i (by simpa using h)
      rw [show (i + 1) * 2 = i * 2 + 2 by omega]
      exact this
/-- A slice of files, as it is read. -/
def FilesC (w : World) (v : Value) (l : List FileD) : Prop :=
  ∃ a c, v = .slice a l.length c ∧ (l.length = 0 ∨ ∃ b o, a = some ⟨b, o, none⟩ ∧ b < w.heap.size ∧ ∀ j x, (fCells l)[j]? = some x → w.cell? ⟨b, o + j, none⟩ = some x)
theorem FilesC.below {w w' : World} {v : Value} {l : List FileD} (h : FilesC w v l) (hb : Below w.heap.size w w') : FilesC w' v l := by
  obtain ⟨a, c, he, h0 | ⟨b, o, ha, hl, hc⟩⟩ := h
  · exact ⟨a, c, he, .inl h0⟩
  · exact ⟨a, c, he, .inr ⟨b, o, ha, Nat.lt_of_lt_of_le hl hb.size, fun j x hx => (hb.cell (p := ⟨b, o + j, none⟩) hl).trans (hc j x hx)⟩⟩
theorem FilesC.len {w : World} {v : Value} {l : List FileD} (h : FilesC w v l) : ∃ a c, v = .slice a l.length c := by
  obtain ⟨a, c, h, _⟩ := h
  exact ⟨a, c, h⟩
theorem FilesC.own {w : World} {base : Nat} {v : Value} {l : List FileD} (h : w.ownsRow base 41 2 v l.length (fCells l)) : FilesC w v l := by
  by_cases h0 : 0 < l.length
  · obtain ⟨g, cap, rfl, hc⟩ := own_cell h h0
    exact ⟨_, _, rfl, .inr ⟨g, 0, rfl, (row_blk h).2, fun j x hx => by rw [Nat.zero_add]; exact hc j x hx⟩⟩
  · have hl : l = [] := List.eq_nil_of_length_eq_zero (by omega)
    subst hl
    obtain ⟨_, ⟨rfl, hn⟩ | ⟨g, cap, cur, rfl, _, hg, _⟩⟩ := h
    · exact ⟨none, 0, rfl, .inl rfl⟩
    · exact ⟨_, _, rfl, .inl rfl⟩
theorem FilesC.keep {w w' : World} {v : Value} {l : List FileD} (h : FilesC w v l) (hs : w.heap.size ≤ w'.heap.size) (hk : ∀ k, v.ownBlock = some k → k < w.heap.size → w'.heap[k]? = w.heap[k]?) : FilesC w' v l := by
  obtain ⟨a, c, rfl, h0 | ⟨b, o, rfl, hl, hc⟩⟩ := h
  · exact ⟨a, c, rfl, .inl h0⟩
  · exact ⟨_, c, rfl, .inr ⟨b, o, rfl, Nat.lt_of_lt_of_le hl hs, fun j x hx => by rw [cell_same (hk b rfl hl)]; exact hc j x hx⟩⟩
def names (l : List FileD) : List (List UInt8) := l.map FileD.nm
theorem names_len (l : List FileD) : (names l).length = l.length := List.length_map _
theorem names_at (l : List FileD) (i : Nat) (h : i < l.length) : (names l)[i]'(by rw [names_len]; exact h) = l[i].name.data.toList := by simp [names, FileD.nm]
/-- The bytes of an archive up to file i. -/
def bytesTo (l : List FileD) (i : Nat) : ByteArray := Cod.uns l.length ++ Cod.cat ((l.take i).map FileD.enc)
theorem catE_take : ∀ (l : List FileD) (k : Nat) (h : k < l.length), Cod.cat ((l.take (k + 1)).map FileD.enc) = Cod.cat ((l.take k).map FileD.enc) ++ FileD.enc l[k]
  | [], _, h => by cases h
  | x :: l, 0, h => by
    show FileD.enc x ++ Cod.cat [] = (⟨#[]⟩ : ByteArray) ++ FileD.enc x
    rw [nil_ba]
    exact ba_nil _
  | x :: l, k + 1, h => by
    have h2 : k < l.length := by simpa using h
    show FileD.enc x ++ Cod.cat ((l.take (k + 1)).map FileD.enc) = (FileD.enc x ++ Cod.cat ((l.take k).map FileD.enc)) ++ FileD.enc l[k]
    rw [catE_take l k h2, ByteArray.append_assoc]
theorem catE_mono : ∀ (l : List FileD) (k : Nat), (Cod.cat ((l.take k).map FileD.enc)).size ≤ (Cod.cat (l.map FileD.enc)).size
  | [], k => by simp
  | x :: l, 0 => Nat.zero_le _
  | x :: l, k + 1 => by
    show (FileD.enc x ++ Cod.cat ((l.take k).map FileD.enc)).size ≤ (FileD.enc x ++ Cod.cat (l.map FileD.enc)).size
    rw [Sha.app_size, Sha.app_size]
    have := catE_mono l k
    omega
theorem bytesTo_zero (l : List FileD) : bytesTo l 0 = Cod.uns l.length := ba_nil _
theorem bytesTo_all (l : List FileD) : bytesTo l l.length = encA l := by unfold bytesTo encA; rw [List.take_length]
theorem bytesTo_step (l : List FileD) (i : Nat) (h : i < l.length) : bytesTo l (i + 1) = bytesTo l i ++ (Cod.text l[i].name ++ Cod.text l[i].data) := by
  unfold bytesTo
  rw [catE_take l i h, ByteArray.append_assoc]
  rfl
theorem bytesTo_le (l : List FileD) (i : Nat) : (bytesTo l i).size ≤ (encA l).size := by
  unfold bytesTo encA
  rw [Sha.app_size, Sha.app_size]
  have := catE_mono l i
  omega
theorem text_le (l : List FileD) (i : Nat) (h : i < l.length) : l[i].name.size ≤ (encA l).size ∧ l[i].data.size ≤ (encA l).size := by
  have h1 := bytesTo_le l (i + 1)
  rw [bytesTo_step l i h, Sha.app_size, Sha.app_size] at h1
  have h2 : (Cod.text l[i].name).size = (Cod.uns l[i].name.size).size + l[i].name.size := by unfold Cod.text; rw [Sha.app_size]
  have h3 : (Cod.text l[i].data).size = (Cod.uns l[i].data.size).size + l[i].data.size := by unfold Cod.text; rw [Sha.app_size]
  omega
def archE (l : List FileD) : Int := if namesA l = true then (if sizeA l = true then 0 else 7) else 4
def archO (l : List FileD) : Obj := if namesA l = true ∧ sizeA l = true then ⟨0, [], encA l⟩ else Obj.none
end Go.Proofs.YtjlpdknomdhbhaaGreatDoor
namespace Go.Proofs.YtjlpdknomdhbhaaGreatDoor
set_option linter.unusedVariables false
set_option linter.unusedSimpArgs false
open Go Go.RowKit Go.Maps
theorem arc_done {tmps : Array Value} {w : World} {b : Nat} {v0 v1 v2 p3 : Value} {Q : Ending → World → Prop} (hp : tmps.getD 2 undef = .pointer (some ⟨b, 0, none⟩)) (h3 : tmps.getD 3 undef = p3) (hat : At w b 24 #[v0, v1, v2])
    (hq : Q (.returned (.tuple #[.agg #[v0, v1, v2], p3])) w) : bodyPost Tryz.prog Tryz.f19 Q Exit.ret { tmps := tmps, defers := [] } w := by
  refine bodyPost_ret (v := .tuple #[.agg #[v0, v1, v2], p3]) ?_ rfl hq
  rw [results_cell_tmp (p := 2) (u := 3) (ty := 24) rfl, hp, h3]
  simp [asAddr, run_loadVar_row w b 24 24 _ (0, 0) _ hat Tryz.underlying24 rfl info_Object]
theorem arch_bad {l : List FileD} (h : namesA l = false) : archO l = Obj.none ∧ archE l = 4 := by
  unfold archO archE
  rw [h]
  exact ⟨if_neg (fun e => by cases e.1), rfl⟩
theorem zeroB (w : World) : (zeroValue 4).run Tryz.prog w = .ok (.bool false) w := by kernel_rfl
/-- No part of nm before pos is a file that is laid. -/
def NoHit (l : List FileD) (k : Nat) (nm : ByteArray) (pos : Nat) : Prop := ∀ j, j < pos → nm.data.toList[j]? = some 47 → nm.data.toList.take j ∉ (names l).take k
/-- Archive is under way: i files are laid. -/
structure ArcI (w : World) (l : List FileD) (m i : Nat) (wr : World) : Prop where
  ob : At wr w.heap.size 24 #[.int .i64 0, .slice none 0 0, .string ⟨#[]⟩]
  bl : BldAt wr (w.heap.size + 1) (bytesTo l i)
  mp : ∃ f, Smap wr m i f ∧ ∀ k : ByteArray, f k = if k.data.toList ∈ (names l).take i then some (.bool true) else none
  mb : w.heap.size + 2 ≤ m
  below : Below w.heap.size w wr
  ok : namesA l = Nam.namesOK ((names l).take i) ((names l).drop i)
theorem ArcI.under {w wr wr' : World} {l : List FileD} {m i : Nat} (h : ArcI w l m i wr) (hb : Below wr.heap.size wr wr') : ArcI w l m i wr' := by
  obtain ⟨f, h1, h2⟩ := h.mp
  exact ⟨h.ob.below hb h.ob.lt, h.bl.below hb, ⟨f, h1.below hb h1.lt, h2⟩, h.mb, h.below.trans (hb.mono h.below.size), h.ok⟩
set_option maxRecDepth 100000 in
set_option maxHeartbeats 4000000 in
theorem archive_any (v : Value) (l : List FileD) (w : World) (h : FilesC w v l) (hM : MaxL w) (hr : (encA l).size ≤ 140737488340000) (hl : l.length ≤ 1000000) :
    Calls Tryz.prog 19 #[v] w fun e w' => e = .returned (.tuple #[objV (archO l) (.slice none 0 0), .int .i64 (archE l)]) ∧ Below w.heap.size w w' := by
  obtain ⟨a, c, rfl, hc⟩ := h
  obtain ⟨RO, hRO⟩ : ∃ R, R = objV (archO l) (.slice none 0 0) := ⟨_, rfl⟩
  obtain ⟨RE, hRE⟩ : ∃ R, R = archE l := ⟨_, rfl⟩
  rw [← hRO, ← hRE]
  have HRO := Lib.hid hRO; have HRE := Lib.hid hRE; have HC := Lib.hid hc; have HM := Lib.hid hM; have HSZ := Lib.hid hr; clear hRO hRE hc hM hr
  go_enter Tryz.func19, Tryz.ntmps19
  go_wp2_with fail
  refine (oNumber_any l.length _ (by omega)).mono ?_
  rintro e w1 ⟨rfl, hb1⟩
  have hob : At ((w.alloc (.cells #[.int .i64 0, .slice none 0 0, .string ⟨#[]⟩] 24)).alloc (.cells #[.pointer none, .slice none 0 0] 79)) w.heap.size 24 #[.int .i64 0, .slice none 0 0, .string ⟨#[]⟩] := (At.new w _ _).alloc _
  have hbl := BldAt.new (w.alloc (.cells #[.int .i64 0, .slice none 0 0, .string ⟨#[]⟩] 24))
  rw [World.size_alloc] at hbl
  have hbw : Below w.heap.size w ((w.alloc (.cells #[.int .i64 0, .slice none 0 0, .string ⟨#[]⟩] 24)).alloc (.cells #[.pointer none, .slice none 0 0] 79)) := ((Below.refl _ _).alloc (Nat.le_refl _) _).alloc (by simp) _
  have HOB := Lib.hid (hob.below hb1 hob.lt); have HBL := Lib.hid (hbl.below hb1); have HB := Lib.hid (hbw.trans (hb1.mono hbw.size)); clear hob hbl hbw hb1
  have hul := Cod.uns_le l.length
  obtain ⟨U, hU⟩ : ∃ U, U = Cod.uns l.length := ⟨_, rfl⟩
  rw [← hU] at hul ⊢
  have HU := Lib.hid hU; clear hU
  go_wp2_with fail
  refine (bldK (w.heap.size + 1) ⟨#[]⟩ U _ HBL.out (by show 0 + _ ≤ _; omega)).mono ?_
  rintro e w2 ⟨rfl, hbl2, hb2, hk2⟩
  have HBL2 := Lib.hid hbl2; have HB2 := Lib.hid (HB.out.trans (hb2.mono (Nat.le_succ _))); have HOB2 := Lib.hid (hk2.at HOB.out (by omega) (by decide)); clear hbl2 hb2 hk2
  have hmm := @run_makeMap Tryz.prog
  go_wp2_with fail
  have hai : ArcI w l w2.heap.size 0 (w2.alloc (.map #[] 0)) := by
    refine ⟨HOB2.out.alloc _, ?_, ⟨_, Smap.made w2, fun k => by simp⟩, ?_, HB2.out.alloc (by have := HB2.out.size; omega) _, rfl⟩
    · rw [bytesTo_zero, ← HU.out]
      have := HBL2.out.below ((Below.refl w2.heap.size w2).alloc (Nat.le_refl _) (.map #[] 0))
      rw [nil_ba] at this
      exact this
    · have := HBL2.out.lt
      omega
  have HAI := Lib.hid hai; clear hai hmm HOB HBL HB HBL2 HB2 HOB2
  obtain ⟨m, hm⟩ : ∃ m, m = w2.heap.size := ⟨_, rfl⟩
  rw [← hm] at HAI ⊢
  clear hm
  generalize w2.alloc (.map #[] 0) = w3 at *
  go_loopw [17] (fun i wr => ∃ k : Nat, k ≤ l.length ∧ i = .int .i64 k ∧ ArcI w l m k wr) (fun i _ => l.length - (intOf i).toNat)
  case atStart => exact ⟨0, by omega, rfl, HAI.out⟩
  case round =>
    obtain ⟨k, hk, rfl, hai⟩ := hrel
    have HA := Lib.hid hai; clear hai HAI
    by_cases hlt : k < l.length
    · have dk : decide ((k : Int) < l.length) = true := by simp; omega
      obtain ⟨b, o, rfl, hbl, hc⟩ := HC.out.resolve_left (by omega)
      have hg := fCells_get l k hlt
      have e0 := (HA.out.below.cell (p := ⟨b, o + k * 2, none⟩) hbl).trans (hc _ _ hg.1)
      have e1 := (HA.out.below.cell (p := ⟨b, o + (k * 2 + 1), none⟩) hbl).trans (hc _ _ hg.2)
      rw [← Nat.add_assoc] at e1
      obtain ⟨nm, hnm⟩ : ∃ nm, nm = l[k].name := ⟨_, rfl⟩
      obtain ⟨dt, hdt⟩ : ∃ dt, dt = l[k].data := ⟨_, rfl⟩
      rw [← hnm] at e0; rw [← hdt] at e1
      have HN := Lib.hid hnm; have HD := Lib.hid hdt; have HCC := Lib.hid hc; clear hnm hdt hc hg
      go_wp2_with fail
      have hai2 := HA.out.under ((Below.refl wr.heap.size wr).alloc (Nat.le_refl _) (.cells #[.string nm, .string dt] 41))
      have hbx : At (wr.alloc (.cells #[.string nm, .string dt] 41)) wr.heap.size 41 #[.string nm, .string dt] := At.new _ _ _
      have HA2 := Lib.hid hai2; have HBX := Lib.hid hbx; clear hai2 hbx e0 e1
      have hwl : w.heap.size + 2 ≤ wr.heap.size := by have := HA.out.bl.lt; omega
      obtain ⟨bx, hbxe⟩ : ∃ bx, bx = wr.heap.size := ⟨_, rfl⟩
      rw [← hbxe] at hwl HBX ⊢
      clear hbxe
      generalize wr.alloc (.cells #[.string nm, .string dt] 41) = ws at *
      have c0 := HBX.out.cell 0; have c1 := HBX.out.cell 1
      simp only [List.getElem?_toArray, List.getElem?_cons_zero, List.getElem?_cons_succ] at c0 c1
      have hMs : MaxL ws.drew := HM.out.below HA2.out.below.drew
      have hnl : k < (names l).length := by rw [names_len]; exact hlt
      have hstep := HA2.out.ok.trans (Nam.namesOK_step (names l) k hnl)
      rw [names_at l k hlt, ← HN.out] at hstep
      have HST := Lib.hid hstep; have HMS := Lib.hid hMs; clear hstep hMs
      by_cases k0 : k = 0
      · have dk0 : decide ((0 : Int) < (k : Int)) = false := by simp; omega
        have n0 : ¬ 0 < k := by omega
        have HK0 := Lib.hid k0; clear k0
        refine Lex.wp_region_lex (by kernel_rfl) (by kernel_rfl) ?_
        go_wp2_with fail
        refine (named_any nm _ HMS.out).mono ?_
        rintro e w4 ⟨rfl, hb4⟩
        replace hb4 : Below ws.heap.size ws w4 := (Below.refl ws.heap.size ws).drew.trans hb4
        have HA4 := Lib.hid (HA2.out.under hb4); have HBX4 := Lib.hid (HBX.out.below hb4 HBX.out.lt); clear hb4 c0 c1
        have c0 := HBX4.out.cell 0; have c1 := HBX4.out.cell 1
        simp only [List.getElem?_toArray, List.getElem?_cons_zero, List.getElem?_cons_succ] at c0 c1
        cases hok : Nam.nameOK nm with
        | false =>
          have hbad : namesA l = false := by rw [HST.out, ← Nam.nameOK_L, hok]; rfl
          have HBAD := Lib.hid hbad; clear hbad hok
          go_wp2_with fail
          refine Lex.Ends.intro (by kernel_rfl) ?_
          have hbd := arch_bad HBAD.out
          have z0 := HA4.out.ob.free 0; have z1 := HA4.out.ob.free 1; have z2 := HA4.out.ob.free 2
          have y0 := HA4.out.ob.cell 0; have y1 := HA4.out.ob.cell 1; have y2 := HA4.out.ob.cell 2
          simp only [List.getElem?_toArray, List.getElem?_cons_zero, List.getElem?_cons_succ] at y0 y1 y2
          go_wp2_with fail
          refine arc_done (p3 := .int .i64 4) rfl rfl (At.put3 HA4.out.ob _ _ _) ?_
          rw [HRO.out, HRE.out, hbd.1, hbd.2]
          exact ⟨rfl, below3 (b := w.heap.size) HA4.out.below (Nat.le_refl _) _ _ _⟩
        | true =>
          have hst := HST.out
          rw [← Nam.nameOK_L, hok, HK0.out, Nam.order_zero, Bool.true_and, Bool.true_and, ← HK0.out] at hst
          have HST2 := Lib.hid hst; have HOK := Lib.hid hok; clear hst hok
          go_wp2_with fail
          refine Lex.Ends.intro (by kernel_rfl) ?_
          go_wp2_with fail
          go_loopg [] nm.size (fun gf wx => ∃ pos : Nat, wx.heap[w4.heap.size]? = some (.stringIter nm pos) ∧ Below w4.heap.size w4 wx ∧ nm.size ≤ pos + gf ∧ NoHit l k nm pos)
          case atStart => exact ⟨0, World.iter_heap _ nm 0, (Below.refl _ _).alloc (Nat.le_refl _) _, by omega, fun j hj => by omega⟩
          case round =>
            obtain ⟨pos, hit, hbw, hfu, hno⟩ := hrel
            have HNO := Lib.hid hno; clear hno
            have HA5 := Lib.hid (HA4.out.under hbw)
            have HBX5 := Lib.hid (HBX4.out.below hbw HBX4.out.lt)
            have c0 := HBX5.out.cell 0; have c1 := HBX5.out.cell 1
            simp only [List.getElem?_toArray, List.getElem?_cons_zero, List.getElem?_cons_succ] at c0 c1
            by_cases hps : pos < nm.size
            · obtain ⟨g', rfl⟩ : ∃ g', gk = g' + 1 := ⟨gk - 1, by omega⟩
              have hgd := Nam.get_data nm pos hps
              have heq : nm.get! pos = nm[pos] := getElem!_pos nm.data pos hps
              have hasc : (nm[pos]'hps).toNat < 128 := by
                rw [← heq]
                exact Nam.ascii (Nam.nameOK_L nm ▸ HOK.out) _ (List.mem_of_getElem? hgd)
              have hnx : ∀ ty, (Instr.next (.pointer (some ⟨w4.heap.size, 0, none⟩)) true ty).run Tryz.prog wr = _ := fun ty => Lib.run_next_ascii_at wr w4.heap.size nm pos ty hit hps hasc
              have hit2 := Lib.iterAt_heap wr w4.heap.size nm pos (pos + 1) hit
              have hbw2 := Lib.below_iterAt hbw (k := w4.heap.size) (Nat.le_refl _) nm (pos + 1)
              have hc47 : nm.data.toList[pos]? = some 47 ↔ (nm[pos].toNat : Int) = 47 := by
                rw [hgd, heq, Option.some.injEq, ← UInt8.toNat_inj]
                show nm[pos].toNat = 47 ↔ _
                omega
              have HC47 := Lib.hid hc47
              obtain ⟨cb, hcb⟩ : ∃ cb : Nat, cb = nm[pos].toNat := ⟨_, rfl⟩
              rw [← hcb] at hnx HC47
              clear hasc hgd heq hc47 hcb c0 c1 HA5 HBX5
              generalize wr.iterAt w4.heap.size nm (pos + 1) = W at *
              have HA6 := Lib.hid (HA4.out.under hbw2)
              have HBX6 := Lib.hid (HBX4.out.below hbw2 HBX4.out.lt)
              have c0 := HBX6.out.cell 0; have c1 := HBX6.out.cell 1
              simp only [List.getElem?_toArray, List.getElem?_cons_zero, List.getElem?_cons_succ] at c0 c1
              by_cases h47 : (cb : Int) = 47
              · obtain ⟨f, hf, hfk⟩ := HA6.out.mp
                have hx := hfk (nm.extract 0 pos)
                rw [Sha.ex_list, List.drop_zero, Nat.sub_zero] at hx
                have hsx : (nm.extract 0 pos).size ≤ maxLen := by rw [ByteArray.size_extract]; unfold maxLen; have := Nam.nameL_len (Nam.nameOK_L nm ▸ HOK.out); rw [Array.length_toList] at this; have h64 : nm.size ≤ 64 := this; omega
                have hps2 : decide ((pos : Int) ≤ (nm.size : Int)) = true := by simp; omega
                have HF := Lib.hid hf; have HSX := Lib.hid hsx; clear hf hfk hsx
                by_cases hin : nm.data.toList.take pos ∈ (names l).take k
                · rw [if_pos hin] at hx
                  have hbad : namesA l = false := by
                    rw [HST2.out, (Nam.under_any _ _).2 ⟨pos, HC47.out.2 h47, hin⟩]
                    rfl
                  have HBAD := Lib.hid hbad; have HX := Lib.hid hx; clear hbad hx hin
                  have hlk := HF.out.run_look Tryz.underlying63 (.bool false) (zeroB _) (nm.extract 0 pos) HSX.out
                  rw [HX.out, Option.getD_some] at hlk
                  have hbd := arch_bad HBAD.out
                  have z0 := HA6.out.ob.free 0; have z1 := HA6.out.ob.free 1; have z2 := HA6.out.ob.free 2
                  have y0 := HA6.out.ob.cell 0; have y1 := HA6.out.ob.cell 1; have y2 := HA6.out.ob.cell 2
                  simp only [List.getElem?_toArray, List.getElem?_cons_zero, List.getElem?_cons_succ] at y0 y1 y2
                  go_wp2_with fail
                  refine arc_done (p3 := .int .i64 4) rfl rfl (At.put3 HA6.out.ob _ _ _) ?_
                  rw [HRO.out, HRE.out, hbd.1, hbd.2]
                  exact ⟨rfl, below3 (b := w.heap.size) HA6.out.below (Nat.le_refl _) _ _ _⟩
                · rw [if_neg hin] at hx
                  have hno2 : NoHit l k nm (pos + 1) := by
                    intro j hj h1
                    rcases Nat.lt_succ_iff_lt_or_eq.1 hj with h2 | h2
                    · exact HNO.out j h2 h1
                    · rw [h2]; exact hin
                  have HNO2 := Lib.hid hno2; have HX := Lib.hid hx; clear hno2 hx hin
                  have hlk := HF.out.run_look Tryz.underlying63 (.bool false) (zeroB _) (nm.extract 0 pos) HSX.out
                  rw [HX.out, Option.getD_none] at hlk
                  go_wp2_with fail
                  go_roundg g'
                  case measure => omega
                  case rel => exact ⟨pos + 1, hit2, hbw2, by omega, HNO2.out⟩
              · have hno2 : NoHit l k nm (pos + 1) := by
                  intro j hj h1
                  rcases Nat.lt_succ_iff_lt_or_eq.1 hj with h2 | h2
                  · exact HNO.out j h2 h1
                  · rw [h2] at h1; exact absurd (HC47.out.1 h1) h47
                have HNO2 := Lib.hid hno2; clear hno2
                go_wp2_with fail
                go_roundg g'
                case measure => omega
                case rel => exact ⟨pos + 1, hit2, hbw2, by omega, HNO2.out⟩
            · have hnx : ∀ ty, (Instr.next (.pointer (some ⟨w4.heap.size, 0, none⟩)) true ty).run Tryz.prog wr = _ := fun ty => Lib.run_next_end_at wr w4.heap.size nm pos ty hit hps
              have hfree : ((names l).take k).any (fun p => Nam.under p nm.data.toList) = false := by
                rw [Bool.eq_false_iff]
                intro ht
                obtain ⟨j, h1, h2⟩ := (Nam.under_any _ _).1 ht
                have hjl := (List.getElem?_eq_some_iff.1 h1).1
                rw [Array.length_toList] at hjl
                have hjl2 : j < nm.size := hjl
                exact HNO.out j (by omega) h1 h2
              have hst := HST2.out
              rw [hfree, Bool.not_false, Bool.true_and] at hst
              obtain ⟨f, hf, hfk⟩ := HA5.out.mp
              have h64 : nm.size ≤ 64 := by have := Nam.nameL_len (Nam.nameOK_L nm ▸ HOK.out); rw [Array.length_toList] at this; exact this
              have HF := Lib.hid hf; have HFK := Lib.hid hfk; have HST3 := Lib.hid hst; clear hf hfk hst hfree
              go_wp2_with (at_mapUpdate; go_must (refine wp_upd rfl _ _ _ 63 4 rfl Tryz.underlying63 HF.out (by unfold maxLen; omega) rfl nm (.bool true) rfl rfl (by unfold maxLen; omega) ?_); intro w7 hf7 hg7)
              have hne : bx ≠ m := HF.out.ne_at HBX5.out
              have hnm : w.heap.size ≠ m := HF.out.ne_at HA5.out.ob
              have hob7 := HA5.out.ob.grown hg7 (by intro e; exact hnm (by simpa using e))
              have hbx7 := HBX5.out.grown hg7 (by intro e; exact hne (by simpa using e))
              have hbl7 := HA5.out.bl.map HF.out hg7
              have hbe7 : Below w.heap.size w w7 := HA5.out.below.grown hg7 HA5.out.below.size (fun i hi => by cases hi; have := HA5.out.mb; omega)
              have HOB7 := Lib.hid hob7; have HBX7 := Lib.hid hbx7; have HBL7 := Lib.hid hbl7; have HBE7 := Lib.hid hbe7; have HF7 := Lib.hid hf7
              clear hob7 hbx7 hbl7 hbe7 hf7 hg7 c0 c1 hnx hit hbw
              have c0 := HBX7.out.cell 0; have c1 := HBX7.out.cell 1
              simp only [List.getElem?_toArray, List.getElem?_cons_zero, List.getElem?_cons_succ] at c0 c1
              have hdl := (text_le l k hlt).2
              rw [← HD.out] at hdl
              have hsz0 := HSZ.out
              have hbt := bytesTo_le l (k + 1)
              rw [bytesTo_step l k hlt, ← HN.out, ← HD.out] at hbt
              have HBT := Lib.hid hbt; clear hbt
              refine Lex.wp_region_lexN (fun i => i = bx) [4] 5 [3] (by kernel_rfl) (by kernel_rfl) (by kernel_rfl) ?_
              simp only [Lex.wpCuts, List.take_succ_cons, List.take_zero, List.drop_succ_cons, List.drop_zero]
              go_wp2_with fail
              refine (cText_any nm _ (by omega)).mono ?_
              rintro e w8 ⟨rfl, hb8⟩
              replace hb8 : Below w7.heap.size w7 w8 := (Below.refl w7.heap.size w7).drew.trans hb8
              have HB8 := Lib.hid hb8
              have HBX8 := Lib.hid (HBX7.out.below hb8 HBX7.out.lt)
              have d1 := HBX8.out.cell 1
              simp only [List.getElem?_toArray, List.getElem?_cons_zero, List.getElem?_cons_succ] at d1
              clear hb8 c0
              obtain ⟨TN, hTN⟩ : ∃ t, t = Cod.text nm := ⟨_, rfl⟩
              rw [← hTN] at HBT ⊢
              have HTN := Lib.hid hTN; clear hTN
              go_wp2_with fail
              refine Lex.Mid.intro (fun i hi hl => by subst hi; exact HB8.out.block _ hl) ?_
              go_wp2_with fail
              refine (cText_any dt _ (by omega)).mono ?_
              rintro e w9 ⟨rfl, hb9⟩
              have HB9 := Lib.hid (HB8.out.trans (hb9.mono HB8.out.size)); clear hb9
              obtain ⟨TD, hTD⟩ : ∃ t, t = Cod.text dt := ⟨_, rfl⟩
              rw [← hTD] at HBT ⊢
              have hbt := HBT.out
              rw [Sha.app_size, Sha.app_size] at hbt
              have HTD := Lib.hid hTD; clear hTD
              go_wp2_with fail
              have hap : (TN ++ TD).size = TN.size + TD.size := Sha.app_size _ _
              obtain ⟨TT, hTT⟩ : ∃ t, t = TN ++ TD := ⟨_, rfl⟩
              rw [← hTT] at hap ⊢
              have HTT := Lib.hid hTT; clear hTT
              refine (bldK (w.heap.size + 1) (bytesTo l k) TT _ (HBL7.out.below HB9.out) (by omega)).mono ?_
              rintro e w10 ⟨rfl, hbl10, hb10, hk10⟩
              have hmp10 : ArcI w l m (k + 1) w10 := by
                have hmb := HA5.out.mb
                refine ⟨hk10.at (HOB7.out.below HB9.out HOB7.out.lt) (by omega) (by decide), ?_, ⟨_, hk10.smap (HF7.out.below HB9.out HF7.out.lt) (by omega), fun q => ?_⟩, hmb, ?_, HST3.out⟩
                · rw [bytesTo_step l k hlt, ← HN.out, ← HD.out, ← HTN.out, ← HTD.out, ← HTT.out]
                  exact hbl10
                · unfold fput
                  rw [HFK.out q, List.take_succ_eq_append_getElem hnl, names_at l k hlt, ← HN.out]
                  by_cases hq : nm = q
                  · rw [if_pos hq, if_pos (by rw [hq]; simp)]
                  · rw [if_neg hq]
                    have hq2 : ¬ q.data.toList = nm.data.toList := fun e => hq (ba_data e).symm
                    by_cases hin : q.data.toList ∈ (names l).take k
                    · rw [if_pos hin, if_pos (by simp [hin])]
                    · rw [if_neg hin, if_neg (by simp [hin, hq2])]
                · exact (HBE7.out.trans (HB9.out.mono HBE7.out.size)).trans (hb10.mono (Nat.le_succ _))
              have HA10 := Lib.hid hmp10; clear hmp10 hbl10 hb10 hk10
              go_wp2_with fail
              refine Lex.EndsN.intro (by kernel_rfl) ⟨⟨rfl, by show (World.cell? _ ⟨bx, 1, none⟩).isSome = true; rw [HBX7.out.drew.cell 1]; rfl⟩, trivial⟩ ?_
              go_wp2_with fail
              exact ⟨⟨k + 1, by omega, by go_num, HA10.out⟩, by simp [intOf]; omega⟩
      · have dk0 : decide ((0 : Int) < (k : Int)) = true := by simp; omega
        have n0 : 0 < k := by omega
        have hjl : k - 1 < l.length := by omega
        have hgj := fCells_get l (k - 1) hjl
        have f0 := (HA2.out.below.cell (p := ⟨b, o + (k - 1) * 2, none⟩) hbl).trans (HCC.out _ _ hgj.1)
        obtain ⟨pm, hpm⟩ : ∃ pm, pm = l[k - 1].name := ⟨_, rfl⟩
        rw [← hpm] at f0
        have hj : k = (k - 1) + 1 := by omega
        have HPM := Lib.hid hpm; have HJ := Lib.hid hj; clear hpm hj hgj k0
        refine Lex.wp_region_lex (by kernel_rfl) (by kernel_rfl) ?_
        go_wp2_with fail
        refine (named_any nm _ HMS.out).mono ?_
        rintro e w4 ⟨rfl, hb4⟩
        replace hb4 : Below ws.heap.size ws w4 := (Below.refl ws.heap.size ws).drew.trans hb4
        have g0 := (hb4.cell (p := ⟨b, o + (k - 1) * 2, none⟩) (Nat.lt_of_lt_of_le hbl HA2.out.below.size)).trans f0
        have HA4 := Lib.hid (HA2.out.under hb4); have HBX4 := Lib.hid (HBX.out.below hb4 HBX.out.lt); clear hb4 c0 c1 f0
        have c0 := HBX4.out.cell 0; have c1 := HBX4.out.cell 1
        simp only [List.getElem?_toArray, List.getElem?_cons_zero, List.getElem?_cons_succ] at c0 c1
        cases hok : Nam.nameOK nm with
        | false =>
          have hbad : namesA l = false := by rw [HST.out, ← Nam.nameOK_L, hok]; rfl
          have HBAD := Lib.hid hbad; clear hbad hok
          go_wp2_with fail
          refine Lex.Ends.intro (by kernel_rfl) ?_
          have hbd := arch_bad HBAD.out
          have z0 := HA4.out.ob.free 0; have z1 := HA4.out.ob.free 1; have z2 := HA4.out.ob.free 2
          have y0 := HA4.out.ob.cell 0; have y1 := HA4.out.ob.cell 1; have y2 := HA4.out.ob.cell 2
          simp only [List.getElem?_toArray, List.getElem?_cons_zero, List.getElem?_cons_succ] at y0 y1 y2
          go_wp2_with fail
          refine arc_done (p3 := .int .i64 4) rfl rfl (At.put3 HA4.out.ob _ _ _) ?_
          rw [HRO.out, HRE.out, hbd.1, hbd.2]
          exact ⟨rfl, below3 (b := w.heap.size) HA4.out.below (Nat.le_refl _) _ _ _⟩
        | true =>
          have hord : Nam.order ((names l).take k) nm.data.toList = Op.bytesLess pm.toList nm.toList := by
            rw [show (names l).take k = (names l).take ((k - 1) + 1) from congrArg (fun q => (names l).take q) HJ.out, Nam.order_succ (names l) (k - 1) (by rw [names_len]; exact hjl), names_at l (k - 1) hjl, ← HPM.out, ByteArray.toList_eq, ByteArray.toList_eq]
          have hst := HST.out
          rw [← Nam.nameOK_L, hok, hord, Bool.true_and] at hst
          have HOK := Lib.hid hok; clear hok hord
          cases hls : Op.bytesLess pm.toList nm.toList with
          | false =>
            have hbad : namesA l = false := by rw [hst, hls]; rfl
            have HBAD := Lib.hid hbad; clear hbad hst
            go_wp2_with fail
            refine Lex.Ends.intro (by kernel_rfl) ?_
            have hbd := arch_bad HBAD.out
            have z0 := HA4.out.ob.free 0; have z1 := HA4.out.ob.free 1; have z2 := HA4.out.ob.free 2
            have y0 := HA4.out.ob.cell 0; have y1 := HA4.out.ob.cell 1; have y2 := HA4.out.ob.cell 2
            simp only [List.getElem?_toArray, List.getElem?_cons_zero, List.getElem?_cons_succ] at y0 y1 y2
            go_wp2_with fail
            refine arc_done (p3 := .int .i64 4) rfl rfl (At.put3 HA4.out.ob _ _ _) ?_
            rw [HRO.out, HRE.out, hbd.1, hbd.2]
            exact ⟨rfl, below3 (b := w.heap.size) HA4.out.below (Nat.le_refl _) _ _ _⟩
          | true =>
            rw [hls, Bool.true_and] at hst
            have HST2 := Lib.hid hst; clear hst
            go_wp2_with fail
            refine Lex.Ends.intro (by kernel_rfl) ?_
            go_wp2_with fail
            go_loopg [] nm.size (fun gf wx => ∃ pos : Nat, wx.heap[w4.heap.size]? = some (.stringIter nm pos) ∧ Below w4.heap.size w4 wx ∧ nm.size ≤ pos + gf ∧ NoHit l k nm pos)
            case atStart => exact ⟨0, World.iter_heap _ nm 0, (Below.refl _ _).alloc (Nat.le_refl _) _, by omega, fun j hj => by omega⟩
            case round =>
              obtain ⟨pos, hit, hbw, hfu, hno⟩ := hrel
              have HNO := Lib.hid hno; clear hno
              have HA5 := Lib.hid (HA4.out.under hbw)
              have HBX5 := Lib.hid (HBX4.out.below hbw HBX4.out.lt)
              have c0 := HBX5.out.cell 0; have c1 := HBX5.out.cell 1
              simp only [List.getElem?_toArray, List.getElem?_cons_zero, List.getElem?_cons_succ] at c0 c1
              by_cases hps : pos < nm.size
              · obtain ⟨g', rfl⟩ : ∃ g', gk = g' + 1 := ⟨gk - 1, by omega⟩
                have hgd := Nam.get_data nm pos hps
                have heq : nm.get! pos = nm[pos] := getElem!_pos nm.data pos hps
                have hasc : (nm[pos]'hps).toNat < 128 := by
                  rw [← heq]
                  exact Nam.ascii (Nam.nameOK_L nm ▸ HOK.out) _ (List.mem_of_getElem? hgd)
                have hnx : ∀ ty, (Instr.next (.pointer (some ⟨w4.heap.size, 0, none⟩)) true ty).run Tryz.prog wr = _ := fun ty => Lib.run_next_ascii_at wr w4.heap.size nm pos ty hit hps hasc
                have hit2 := Lib.iterAt_heap wr w4.heap.size nm pos (pos + 1) hit
                have hbw2 := Lib.below_iterAt hbw (k := w4.heap.size) (Nat.le_refl _) nm (pos + 1)
                have hc47 : nm.data.toList[pos]? = some 47 ↔ (nm[pos].toNat : Int) = 47 := by
                  rw [hgd, heq, Option.some.injEq, ← UInt8.toNat_inj]
                  show nm[pos].toNat = 47 ↔ _
                  omega
                have HC47 := Lib.hid hc47
                obtain ⟨cb, hcb⟩ : ∃ cb : Nat, cb = nm[pos].toNat := ⟨_, rfl⟩
                rw [← hcb] at hnx HC47
                clear hasc hgd heq hc47 hcb c0 c1 HA5 HBX5
                generalize wr.iterAt w4.heap.size nm (pos + 1) = W at *
                have HA6 := Lib.hid (HA4.out.under hbw2)
                have HBX6 := Lib.hid (HBX4.out.below hbw2 HBX4.out.lt)
                have c0 := HBX6.out.cell 0; have c1 := HBX6.out.cell 1
                simp only [List.getElem?_toArray, List.getElem?_cons_zero, List.getElem?_cons_succ] at c0 c1
                by_cases h47 : (cb : Int) = 47
                · obtain ⟨f, hf, hfk⟩ := HA6.out.mp
                  have hx := hfk (nm.extract 0 pos)
                  rw [Sha.ex_list, List.drop_zero, Nat.sub_zero] at hx
                  have hsx : (nm.extract 0 pos).size ≤ maxLen := by rw [ByteArray.size_extract]; unfold maxLen; have := Nam.nameL_len (Nam.nameOK_L nm ▸ HOK.out); rw [Array.length_toList] at this; have h64 : nm.size ≤ 64 := this; omega
                  have hps2 : decide ((pos : Int) ≤ (nm.size : Int)) = true := by simp; omega
                  have HF := Lib.hid hf; have HSX := Lib.hid hsx; clear hf hfk hsx
                  by_cases hin : nm.data.toList.take pos ∈ (names l).take k
                  · rw [if_pos hin] at hx
                    have hbad : namesA l = false := by
                      rw [HST2.out, (Nam.under_any _ _).2 ⟨pos, HC47.out.2 h47, hin⟩]
                      rfl
                    have HBAD := Lib.hid hbad; have HX := Lib.hid hx; clear hbad hx hin
                    have hlk := HF.out.run_look Tryz.underlying63 (.bool false) (zeroB _) (nm.extract 0 pos) HSX.out
                    rw [HX.out, Option.getD_some] at hlk
                    have hbd := arch_bad HBAD.out
                    have z0 := HA6.out.ob.free 0; have z1 := HA6.out.ob.free 1; have z2 := HA6.out.ob.free 2
                    have y0 := HA6.out.ob.cell 0; have y1 := HA6.out.ob.cell 1; have y2 := HA6.out.ob.cell 2
                    simp only [List.getElem?_toArray, List.getElem?_cons_zero, List.getElem?_cons_succ] at y0 y1 y2
                    go_wp2_with fail
                    refine arc_done (p3 := .int .i64 4) rfl rfl (At.put3 HA6.out.ob _ _ _) ?_
                    rw [HRO.out, HRE.out, hbd.1, hbd.2]
                    exact ⟨rfl, below3 (b := w.heap.size) HA6.out.below (Nat.le_refl _) _ _ _⟩
                  · rw [if_neg hin] at hx
                    have hno2 : NoHit l k nm (pos + 1) := by
                      intro j hj h1
                      rcases Nat.lt_succ_iff_lt_or_eq.1 hj with h2 | h2
                      · exact HNO.out j h2 h1
                      · rw [h2]; exact hin
                    have HNO2 := Lib.hid hno2; have HX := Lib.hid hx; clear hno2 hx hin
                    have hlk := HF.out.run_look Tryz.underlying63 (.bool false) (zeroB _) (nm.extract 0 pos) HSX.out
                    rw [HX.out, Option.getD_none] at hlk
                    go_wp2_with fail
                    go_roundg g'
                    case measure => omega
                    case rel => exact ⟨pos + 1, hit2, hbw2, by omega, HNO2.out⟩
                · have hno2 : NoHit l k nm (pos + 1) := by
                    intro j hj h1
                    rcases Nat.lt_succ_iff_lt_or_eq.1 hj with h2 | h2
                    · exact HNO.out j h2 h1
                    · rw [h2] at h1; exact absurd (HC47.out.1 h1) h47
                  have HNO2 := Lib.hid hno2; clear hno2
                  go_wp2_with fail
                  go_roundg g'
                  case measure => omega
                  case rel => exact ⟨pos + 1, hit2, hbw2, by omega, HNO2.out⟩
              · have hnx : ∀ ty, (Instr.next (.pointer (some ⟨w4.heap.size, 0, none⟩)) true ty).run Tryz.prog wr = _ := fun ty => Lib.run_next_end_at wr w4.heap.size nm pos ty hit hps
                have hfree : ((names l).take k).any (fun p => Nam.under p nm.data.toList) = false := by
                  rw [Bool.eq_false_iff]
                  intro ht
                  obtain ⟨j, h1, h2⟩ := (Nam.under_any _ _).1 ht
                  have hjl := (List.getElem?_eq_some_iff.1 h1).1
                  rw [Array.length_toList] at hjl
                  have hjl2 : j < nm.size := hjl
                  exact HNO.out j (by omega) h1 h2
                have hst := HST2.out
                rw [hfree, Bool.not_false, Bool.true_and] at hst
                obtain ⟨f, hf, hfk⟩ := HA5.out.mp
                have h64 : nm.size ≤ 64 := by have := Nam.nameL_len (Nam.nameOK_L nm ▸ HOK.out); rw [Array.length_toList] at this; exact this
                have HF := Lib.hid hf; have HFK := Lib.hid hfk; have HST3 := Lib.hid hst; clear hf hfk hst hfree
                go_wp2_with (at_mapUpdate; go_must (refine wp_upd rfl _ _ _ 63 4 rfl Tryz.underlying63 HF.out (by unfold maxLen; omega) rfl nm (.bool true) rfl rfl (by unfold maxLen; omega) ?_); intro w7 hf7 hg7)
                have hne : bx ≠ m := HF.out.ne_at HBX5.out
                have hnm : w.heap.size ≠ m := HF.out.ne_at HA5.out.ob
                have hob7 := HA5.out.ob.grown hg7 (by intro e; exact hnm (by simpa using e))
                have hbx7 := HBX5.out.grown hg7 (by intro e; exact hne (by simpa using e))
                have hbl7 := HA5.out.bl.map HF.out hg7
                have hbe7 : Below w.heap.size w w7 := HA5.out.below.grown hg7 HA5.out.below.size (fun i hi => by cases hi; have := HA5.out.mb; omega)
                have HOB7 := Lib.hid hob7; have HBX7 := Lib.hid hbx7; have HBL7 := Lib.hid hbl7; have HBE7 := Lib.hid hbe7; have HF7 := Lib.hid hf7
                clear hob7 hbx7 hbl7 hbe7 hf7 hg7 c0 c1 hnx hit hbw
                have c0 := HBX7.out.cell 0; have c1 := HBX7.out.cell 1
                simp only [List.getElem?_toArray, List.getElem?_cons_zero, List.getElem?_cons_succ] at c0 c1
                have hdl := (text_le l k hlt).2
                rw [← HD.out] at hdl
                have hsz0 := HSZ.out
                have hbt := bytesTo_le l (k + 1)
                rw [bytesTo_step l k hlt, ← HN.out, ← HD.out] at hbt
                have HBT := Lib.hid hbt; clear hbt
                refine Lex.wp_region_lexN (fun i => i = bx) [4] 5 [3] (by kernel_rfl) (by kernel_rfl) (by kernel_rfl) ?_
                simp only [Lex.wpCuts, List.take_succ_cons, List.take_zero, List.drop_succ_cons, List.drop_zero]
                go_wp2_with fail
                refine (cText_any nm _ (by omega)).mono ?_
                rintro e w8 ⟨rfl, hb8⟩
                replace hb8 : Below w7.heap.size w7 w8 := (Below.refl w7.heap.size w7).drew.trans hb8
                have HB8 := Lib.hid hb8
                have HBX8 := Lib.hid (HBX7.out.below hb8 HBX7.out.lt)
                have d1 := HBX8.out.cell 1
                simp only [List.getElem?_toArray, List.getElem?_cons_zero, List.getElem?_cons_succ] at d1
                clear hb8 c0
                obtain ⟨TN, hTN⟩ : ∃ t, t = Cod.text nm := ⟨_, rfl⟩
                rw [← hTN] at HBT ⊢
                have HTN := Lib.hid hTN; clear hTN
                go_wp2_with fail
                refine Lex.Mid.intro (fun i hi hl => by subst hi; exact HB8.out.block _ hl) ?_
                go_wp2_with fail
                refine (cText_any dt _ (by omega)).mono ?_
                rintro e w9 ⟨rfl, hb9⟩
                have HB9 := Lib.hid (HB8.out.trans (hb9.mono HB8.out.size)); clear hb9
                obtain ⟨TD, hTD⟩ : ∃ t, t = Cod.text dt := ⟨_, rfl⟩
                rw [← hTD] at HBT ⊢
                have hbt := HBT.out
                rw [Sha.app_size, Sha.app_size] at hbt
                have HTD := Lib.hid hTD; clear hTD
                go_wp2_with fail
                have hap : (TN ++ TD).size = TN.size + TD.size := Sha.app_size _ _
                obtain ⟨TT, hTT⟩ : ∃ t, t = TN ++ TD := ⟨_, rfl⟩
                rw [← hTT] at hap ⊢
                have HTT := Lib.hid hTT; clear hTT
                refine (bldK (w.heap.size + 1) (bytesTo l k) TT _ (HBL7.out.below HB9.out) (by omega)).mono ?_
                rintro e w10 ⟨rfl, hbl10, hb10, hk10⟩
                have hmp10 : ArcI w l m (k + 1) w10 := by
                  have hmb := HA5.out.mb
                  refine ⟨hk10.at (HOB7.out.below HB9.out HOB7.out.lt) (by omega) (by decide), ?_, ⟨_, hk10.smap (HF7.out.below HB9.out HF7.out.lt) (by omega), fun q => ?_⟩, hmb, ?_, HST3.out⟩
                  · rw [bytesTo_step l k hlt, ← HN.out, ← HD.out, ← HTN.out, ← HTD.out, ← HTT.out]
                    exact hbl10
                  · unfold fput
                    rw [HFK.out q, List.take_succ_eq_append_getElem hnl, names_at l k hlt, ← HN.out]
                    by_cases hq : nm = q
                    · rw [if_pos hq, if_pos (by rw [hq]; simp)]
                    · rw [if_neg hq]
                      have hq2 : ¬ q.data.toList = nm.data.toList := fun e => hq (ba_data e).symm
                      by_cases hin : q.data.toList ∈ (names l).take k
                      · rw [if_pos hin, if_pos (by simp [hin])]
                      · rw [if_neg hin, if_neg (by simp [hin, hq2])]
                  · exact (HBE7.out.trans (HB9.out.mono HBE7.out.size)).trans (hb10.mono (Nat.le_succ _))
                have HA10 := Lib.hid hmp10; clear hmp10 hbl10 hb10 hk10
                go_wp2_with fail
                refine Lex.EndsN.intro (by kernel_rfl) ⟨⟨rfl, by show (World.cell? _ ⟨bx, 1, none⟩).isSome = true; rw [HBX7.out.drew.cell 1]; rfl⟩, trivial⟩ ?_
                go_wp2_with fail
                exact ⟨⟨k + 1, by omega, by go_num, HA10.out⟩, by simp [intOf]; omega⟩
    · have hkl : k = l.length := by omega
      have dk : decide ((k : Int) < l.length) = false := by simp; omega
      have hai := HA.out
      rw [hkl] at hai
      have hok : namesA l = true := by
        have := hai.ok
        rw [List.drop_of_length_le (by rw [names_len]; exact Nat.le_refl _)] at this
        rw [this]
        rfl
      have hbl := hai.bl
      rw [bytesTo_all] at hbl
      have HOB := Lib.hid hai.ob; have HBL := Lib.hid hbl; have HB := Lib.hid hai.below; have HOK := Lib.hid hok; clear hai hbl hok hkl HA
      have z0 := HOB.out.free 0; have z1 := HOB.out.free 1; have z2 := HOB.out.free 2
      have y0 := HOB.out.cell 0; have y1 := HOB.out.cell 1; have y2 := HOB.out.cell 2
      simp only [List.getElem?_toArray, List.getElem?_cons_zero, List.getElem?_cons_succ] at y0 y1 y2
      by_cases h32 : l.length ≤ 32
      · have d32 : decide ((32 : Int) < (l.length : Int)) = false := by simp; omega
        obtain ⟨X, hX⟩ : ∃ X, X = encA l := ⟨_, rfl⟩
        rw [← hX] at HBL
        have HX := Lib.hid hX; clear hX
        by_cases h64 : X.size ≤ 65536
        · have d64 : decide ((65536 : Int) < (X.size : Int)) = false := by simp; omega
          have hsz : sizeA l = true := by unfold sizeA; rw [← HX.out, decide_eq_true h32, decide_eq_true h64]; rfl
          have ho : archO l = ⟨0, [], X⟩ := by unfold archO; rw [if_pos ⟨HOK.out, hsz⟩, ← HX.out]
          have he : archE l = 0 := by unfold archE; rw [if_pos HOK.out, if_pos hsz]
          have HO := Lib.hid ho; have HE := Lib.hid he; clear ho he hsz
          go_wp2_with fail
          refine (bldLen _ X _ HBL.out).mono ?_
          rintro e w5 ⟨rfl, rfl⟩
          go_wp2_with fail
          refine (bldS _ X _ HBL.out).mono ?_
          rintro e w6 ⟨rfl, hbl6, hb6⟩
          have HOB6 := Lib.hid (HOB.out.below hb6 (Nat.lt_succ_self _)); have HB6 := Lib.hid (HB.out.trans (hb6.mono (Nat.le_succ _)))
          clear z0 z1 z2 y0 y1 y2 hbl6 hb6
          have z0 := HOB6.out.free 0; have z1 := HOB6.out.free 1; have z2 := HOB6.out.free 2
          have y0 := HOB6.out.cell 0; have y1 := HOB6.out.cell 1; have y2 := HOB6.out.cell 2
          simp only [List.getElem?_toArray, List.getElem?_cons_zero, List.getElem?_cons_succ] at y0 y1 y2
          go_wp2_with fail
          refine arc_done (p3 := .int .i64 0) rfl rfl (At.put3 HOB6.out _ _ _) ?_
          rw [HRO.out, HRE.out, HO.out, HE.out]
          exact ⟨rfl, below3 (b := w.heap.size) HB6.out (Nat.le_refl _) _ _ _⟩
        · have d64 : decide ((65536 : Int) < (X.size : Int)) = true := by simp; omega
          have hsz : sizeA l = false := by unfold sizeA; rw [← HX.out, decide_eq_false h64]; simp
          have ho : archO l = Obj.none := by unfold archO; rw [if_neg (fun e => by rw [hsz] at e; cases e.2)]
          have he : archE l = 7 := by unfold archE; rw [if_pos HOK.out, if_neg (by rw [hsz]; decide)]
          have HO := Lib.hid ho; have HE := Lib.hid he; clear ho he hsz
          go_wp2_with fail
          refine (bldLen _ X _ HBL.out).mono ?_
          rintro e w5 ⟨rfl, rfl⟩
          go_wp2_with fail
          refine arc_done (p3 := .int .i64 7) rfl rfl (At.put3 HOB.out _ _ _) ?_
          rw [HRO.out, HRE.out, HO.out, HE.out]
          exact ⟨rfl, below3 (b := w.heap.size) HB.out (Nat.le_refl _) _ _ _⟩
      · have d32 : decide ((32 : Int) < (l.length : Int)) = true := by simp; omega
        have hsz : sizeA l = false := by unfold sizeA; rw [decide_eq_false h32]; simp
        have ho : archO l = Obj.none := by unfold archO; rw [if_neg (fun e => by rw [hsz] at e; cases e.2)]
        have he : archE l = 7 := by unfold archE; rw [if_pos HOK.out, if_neg (by rw [hsz]; decide)]
        have HO := Lib.hid ho; have HE := Lib.hid he; clear ho he hsz
        go_wp2_with fail
        refine arc_done (p3 := .int .i64 7) rfl rfl (At.put3 HOB.out _ _ _) ?_
        rw [HRO.out, HRE.out, HO.out, HE.out]
        exact ⟨rfl, below3 (b := w.heap.size) HB.out (Nat.le_refl _) _ _ _⟩
end Go.Proofs.YtjlpdknomdhbhaaGreatDoor
