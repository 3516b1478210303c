/- The files of an archive, plainly; a text of a reader in either state. Condition: the bytes are in reach. Files of the program. Conditions: the sizes are in reach; the world holds bytealg.MaxLen. -/
import Derived.Test.YtjlpdknomdhbhaaGreatDoorArcL
import Derived.Test.YtjlpdknomdhbhaaGreatDoorCodL
namespace Go.Proofs.YtjlpdknomdhbhaaGreatDoor
set_option linter.unusedVariables false
set_option linter.unusedSimpArgs false
open Go Go.RowKit Go.Maps
/-- A text is read; behind an error nothing is. -/
def tx (s : ByteArray) (a : Nat) (e : Int) : ByteArray × Nat × Int := if e = 0 then (match Cod.rdT s a with
  | some (x, b) => (x, b, 0)
  | none => (⟨#[]⟩, a, 9)) else (⟨#[]⟩, a, e)
theorem tx_ok (s : ByteArray) (a : Nat) (x : ByteArray) (b : Nat) (h : Cod.rdT s a = some (x, b)) : tx s a 0 = (x, b, 0) := by unfold tx; rw [if_pos rfl, h]
theorem tx_bad (s : ByteArray) (a : Nat) (h : Cod.rdT s a = none) : tx s a 0 = (⟨#[]⟩, a, 9) := by unfold tx; rw [if_pos rfl, h]
theorem tx_off (s : ByteArray) (a : Nat) (e : Int) (h : e ≠ 0) : tx s a e = (⟨#[]⟩, a, e) := by unfold tx; rw [if_neg h]
theorem tx_bd (s : ByteArray) (a : Nat) (e : Int) (ha : a ≤ s.size) : (tx s a e).2.1 ≤ s.size ∧ (tx s a e).1.size ≤ s.size := by
  by_cases he : e = 0
  · subst he
    cases h : Cod.rdT s a with
    | none => rw [tx_bad s a h]; exact ⟨ha, Nat.zero_le _⟩
    | some y =>
      obtain ⟨x, b⟩ := y
      rw [tx_ok s a x b h]
      obtain ⟨h1, h2, h3⟩ := Cod.rdT_some h
      refine ⟨h2, ?_⟩
      have h4 : (Cod.text x).size = (Cod.uns x.size).size + x.size := by unfold Cod.text; rw [Sha.app_size]
      have h5 := congrArg ByteArray.size h3
      rw [ByteArray.size_extract] at h5
      show x.size ≤ _
      omega
  · rw [tx_off s a e he]
    exact ⟨ha, Nat.zero_le _⟩
theorem rdTextX (rb : Nat) (s : ByteArray) (a : Nat) (e : Int) (w : World) (h : At w rb 117 (rdV s a e)) (ha : a ≤ s.size) (hs : s.size ≤ 140737488355328) :
    Calls Tryz.prog 51 #[.pointer (some ⟨rb, 0, none⟩)] w fun r w' => r = .returned (.string (tx s a e).1) ∧ RdStep rb w w' (rdV s (tx s a e).2.1 (tx s a e).2.2) := by
  by_cases he : e = 0
  · subst he
    refine (rdText_any rb s a w h ha hs).mono ?_
    intro r w' hp
    cases hr : Cod.rdT s a with
    | none =>
      rw [hr] at hp
      rw [tx_bad s a hr]
      exact hp
    | some y =>
      obtain ⟨x, b⟩ := y
      rw [hr] at hp
      rw [tx_ok s a x b hr]
      exact hp
  · refine (rdText_any_off rb s a e he w h).mono ?_
    rintro r w' ⟨rfl, rfl⟩
    rw [tx_off s a e he]
    exact ⟨rfl, RdStep.refl h⟩
/-- n files are read. -/
def rdFs (s : ByteArray) : Nat → Nat → Int → List FileD × Nat × Int
  | 0, a, e => ([], a, e)
  | n + 1, a, e => (⟨(tx s a e).1, (tx s (tx s a e).2.1 (tx s a e).2.2).1⟩ :: (rdFs s n (tx s (tx s a e).2.1 (tx s a e).2.2).2.1 (tx s (tx s a e).2.1 (tx s a e).2.2).2.2).1,
      (rdFs s n (tx s (tx s a e).2.1 (tx s a e).2.2).2.1 (tx s (tx s a e).2.1 (tx s a e).2.2).2.2).2)
theorem rdFs_bd (s : ByteArray) : ∀ (n a : Nat) (e : Int), a ≤ s.size → (rdFs s n a e).1.length = n ∧ (rdFs s n a e).2.1 ≤ s.size ∧ ∀ x ∈ (rdFs s n a e).1, x.name.size ≤ s.size ∧ x.data.size ≤ s.size
  | 0, a, e, ha => ⟨rfl, ha, fun x hx => by cases hx⟩
  | n + 1, a, e, ha => by
    have h1 := tx_bd s a e ha
    have h2 := tx_bd s (tx s a e).2.1 (tx s a e).2.2 h1.1
    have h3 := rdFs_bd s n _ (tx s (tx s a e).2.1 (tx s a e).2.2).2.2 h2.1
    refine ⟨by show (_ :: _).length = _; rw [List.length_cons, h3.1], h3.2.1, fun x hx => ?_⟩
    rcases List.mem_cons.1 hx with rfl | hx
    · exact ⟨h1.2, h2.2⟩
    · exact h3.2.2 x hx
theorem encA_le (B : Nat) (l : List FileD) (h : ∀ x ∈ l, x.name.size ≤ B ∧ x.data.size ≤ B) : (encA l).size ≤ 10 + l.length * (2 * B + 20) := by
  have h1 : ∀ l : List FileD, (∀ x ∈ l, x.name.size ≤ B ∧ x.data.size ≤ B) → (Cod.cat (l.map FileD.enc)).size ≤ l.length * (2 * B + 20) := by
    intro l
    induction l with
    | nil => intro _; exact Nat.zero_le _
    | cons x l ih =>
      intro h
      have h2 := ih (fun r hr => h r (List.mem_cons_of_mem _ hr))
      have h3 := h x List.mem_cons_self
      have h4 := Cod.uns_le x.name.size
      have h5 := Cod.uns_le x.data.size
      show (FileD.enc x ++ Cod.cat (l.map FileD.enc)).size ≤ _
      have h6 : (FileD.enc x).size = (Cod.uns x.name.size).size + x.name.size + ((Cod.uns x.data.size).size + x.data.size) := by unfold FileD.enc Cod.text; simp only [Sha.app_size]
      rw [Sha.app_size, h6, List.length_cons, Nat.succ_mul]
      omega
  have h2 := h1 l h
  have h3 := Cod.uns_le l.length
  unfold encA
  rw [Sha.app_size]
  omega
/-- What files some bytes hold. -/
def filesF (s : ByteArray) : Option (List FileD) := match rdC s 32 0 with
  | none => none
  | some (n, a) => if archE (rdFs s n a 0).1 = 0 ∧ (rdFs s n a 0).2.2 = 0 ∧ (rdFs s n a 0).2.1 = s.size then some (rdFs s n a 0).1 else none
/-- What Files returns. -/
def filesR (o : Obj) : List FileD × Int := if okO o = true ∧ o.kind = 0 then (match filesF o.data with
  | some l => if o.refs.length = 0 then (l, 0) else ([], 9)
  | none => ([], 9)) else ([], 1)
theorem filesR_arg {o : Obj} (h : ¬ (okO o = true ∧ o.kind = 0)) : filesR o = ([], 1) := by unfold filesR; rw [if_neg h]
theorem filesR_bad {o : Obj} (h : okO o = true ∧ o.kind = 0) (h2 : filesF o.data = none ∨ o.refs.length ≠ 0) : filesR o = ([], 9) := by
  unfold filesR
  rw [if_pos h]
  cases hf : filesF o.data with
  | none => rfl
  | some l =>
    have h3 : o.refs.length ≠ 0 := by
      rcases h2 with h2 | h2
      · rw [hf] at h2; cases h2
      · exact h2
    simp only
    rw [if_neg h3]
theorem filesR_ok {o : Obj} {l : List FileD} (h : okO o = true ∧ o.kind = 0) (h2 : filesF o.data = some l) (h3 : o.refs.length = 0) : filesR o = (l, 0) := by
  unfold filesR
  rw [if_pos h, h2]
  simp only
  rw [if_pos h3]
theorem fCells_app (l m : List FileD) : fCells (l ++ m) = fCells l ++ fCells m := by unfold fCells; rw [List.flatMap_append]
end Go.Proofs.YtjlpdknomdhbhaaGreatDoor
namespace Go.Proofs.YtjlpdknomdhbhaaGreatDoor
set_option linter.unusedVariables false
set_option linter.unusedSimpArgs false
open Go Go.RowKit Go.Maps
theorem info_File : (Tryz.prog.info? 41).map (fun i => (i.zero, i.size, i.bytes)) = some (some (.agg #[.string ⟨#[]⟩, .string ⟨#[]⟩]), 2, 32) := by kernel_rfl
/-- Files is under way: k files of n are read. -/
structure FilI (w : World) (o : Obj) (v : Value) (rb n a0 : Nat) (e0 : Int) (k a : Nat) (e : Int) (ov : Value) (xs : List FileD) (wr : World) : Prop where
  ob : At wr w.heap.size 24 #[.int .i64 o.kind, v, .string o.data]
  rd : At wr rb 117 (rdV o.data a e)
  rb_ : w.heap.size < rb
  ha : a ≤ o.data.size
  own : wr.ownsRow w.heap.size 41 2 ov k (fCells xs)
  len : xs.length = k
  below : Below w.heap.size w wr
  eq : rdFs o.data n a0 e0 = (xs ++ (rdFs o.data (n - k) a e).1, (rdFs o.data (n - k) a e).2)
section
variable {w wr wr' : World} {o : Obj} {v ov : Value} {rb n a0 k a : Nat} {e0 e : Int} {xs : List FileD}
theorem FilI.under (h : FilI w o v rb n a0 e0 k a e ov xs wr) (hb : Below wr.heap.size wr wr') : FilI w o v rb n a0 e0 k a e ov xs wr' :=
  ⟨h.ob.below hb h.ob.lt, h.rd.below hb h.rd.lt, h.rb_, h.ha, own_keep h.own (fun i hi => hb.block i (by obtain ⟨cur, hc⟩ := own_at h.own hi; exact hc.lt)), h.len, h.below.trans (hb.mono h.below.size), h.eq⟩
end
theorem rdFs_zero (s : ByteArray) (a : Nat) (e : Int) : rdFs s 0 a e = ([], a, e) := rfl
theorem rdFs_succ (s : ByteArray) (n a : Nat) (e : Int) : rdFs s (n + 1) a e = (⟨(tx s a e).1, (tx s (tx s a e).2.1 (tx s a e).2.2).1⟩ :: (rdFs s n (tx s (tx s a e).2.1 (tx s a e).2.2).2.1 (tx s (tx s a e).2.1 (tx s a e).2.2).2.2).1,
      (rdFs s n (tx s (tx s a e).2.1 (tx s a e).2.2).2.1 (tx s (tx s a e).2.1 (tx s a e).2.2).2.2).2) := rfl
/-- The number of files, read. -/
theorem count_post {rb : Nat} {s : ByteArray} {w w' : World} {e : Ending} (h : NumPost rb s 0 (rdC s 32 0) w e w') :
    ∃ (n a : Nat) (e0 : Int), e = .returned (.int .i64 n) ∧ RdStep rb w w' (rdV s a e0) ∧ n ≤ 32 ∧ a ≤ s.size ∧
      filesF s = if archE (rdFs s n a e0).1 = 0 ∧ (rdFs s n a e0).2.2 = 0 ∧ (rdFs s n a e0).2.1 = s.size then some (rdFs s n a e0).1 else none := by
  unfold filesF
  cases hr : rdC s 32 0 with
  | none =>
    rw [hr] at h
    refine ⟨0, 0, 9, h.1, h.2, by omega, Nat.zero_le _, ?_⟩
    simp only
    rw [if_neg (fun h => by have := h.2.1; cases this)]
  | some y =>
    obtain ⟨n, a⟩ := y
    rw [hr] at h
    have hn : n ≤ 32 ∧ a ≤ s.size := by
      unfold rdC at hr
      cases h2 : Cod.rdN s 0 with
      | none => rw [h2] at hr; cases hr
      | some z =>
        obtain ⟨v, b⟩ := z
        rw [h2] at hr
        simp only at hr
        by_cases hv : (v : Int) ≤ 32
        · rw [if_pos hv] at hr
          cases hr
          exact ⟨by omega, (Cod.rdN_some h2).2.1⟩
        · rw [if_neg hv] at hr
          cases hr
    exact ⟨n, a, 0, h.1, h.2, hn.1, hn.2, rfl⟩
/-- What Files returns, in a world. -/
def FilPost (w : World) (o : Obj) (e : Ending) (w' : World) : Prop := ∃ v, e = .returned (.tuple #[v, .int .i64 (filesR o).2]) ∧ FilesC w' v (filesR o).1 ∧ (∀ k, v.ownBlock = some k → w.heap.size ≤ k) ∧ Below w.heap.size w w'
set_option maxRecDepth 100000 in
set_option maxHeartbeats 4000000 in
theorem files_any (o : Obj) (v : Value) (w : World) (h : StrsC w v o.refs) (hr : Reach o) (hM : MaxL w) :
    Calls Tryz.prog 21 #[objV o v] w (FilPost w o) := by
  obtain ⟨va, vc, rfl⟩ := h.len
  obtain ⟨R, hR⟩ : ∃ R, R = FilPost w o := ⟨_, rfl⟩
  rw [← hR]
  have HR := Lib.hid hR; have H := Lib.hid h; have HRE := Lib.hid hr; have HM := Lib.hid hM; clear hR h hr hM
  unfold objV
  go_enter Tryz.func21, Tryz.ntmps21
  have hob : At (w.alloc (.cells #[.int .i64 o.kind, .slice va o.refs.length vc, .string o.data] 24)) w.heap.size 24 #[.int .i64 o.kind, .slice va o.refs.length vc, .string o.data] := At.new _ _ _
  have hb0 : Below w.heap.size w (w.alloc (.cells #[.int .i64 o.kind, .slice va o.refs.length vc, .string o.data] 24)) := (Below.refl _ _).alloc (Nat.le_refl _) _
  have HOB := Lib.hid hob; have HB0 := Lib.hid hb0; clear hob hb0
  have k0 := HOB.out.cell 0; have k1 := HOB.out.cell 1; have k2 := HOB.out.cell 2
  simp only [List.getElem?_toArray, List.getElem?_cons_zero, List.getElem?_cons_succ] at k0 k1 k2
  go_wp2_with fail
  refine (oValid_any o (.slice va o.refs.length vc) _ (H.out.below HB0.out) HRE.out).mono ?_
  rintro e w1 ⟨rfl, hb1⟩
  have HOB1 := Lib.hid (HOB.out.below hb1 HOB.out.lt); have HB1 := Lib.hid (HB0.out.trans (hb1.mono HB0.out.size)); clear hb1 k0 k1 k2
  have k0 := HOB1.out.cell 0; have k1 := HOB1.out.cell 1; have k2 := HOB1.out.cell 2
  simp only [List.getElem?_toArray, List.getElem?_cons_zero, List.getElem?_cons_succ] at k0 k1 k2
  cases hok : okO o with
  | false =>
    have hf := filesR_arg (o := o) (fun h => by rw [hok] at h; cases h.1)
    have HF := Lib.hid hf; clear hf hok
    go_wp2_with fail
    rw [HR.out]
    unfold FilPost
    rw [HF.out]
    exact ⟨.slice none 0 0, rfl, ⟨none, 0, rfl, .inl rfl⟩, (fun k hk => by cases hk), HB1.out⟩
  | true =>
    by_cases hk : o.kind = 0
    · have hkk := hk
      have hkb : (o.kind != 0) = false := by simpa using hk
      obtain ⟨p1, p2, p3, p4, p5⟩ := okO_parts hok
      have hcond : okO o = true ∧ o.kind = 0 := ⟨hok, hk⟩
      have HC := Lib.hid hcond; clear hcond hok hk hkk p1 p2 p3 p5
      go_wp2_with fail
      refine (cNew_any o.data _).mono ?_
      rintro e w2 ⟨rfl, rfl⟩
      have hrd : At (w1.alloc (.cells (rdV o.data 0 0) 117)) w1.heap.size 117 (rdV o.data 0 0) := At.new _ _ _
      have hob2 := HOB1.out.alloc (.cells (rdV o.data 0 0) 117)
      have hb2 := HB1.out.alloc (o := .cells (rdV o.data 0 0) 117) HB1.out.size
      have HRD := Lib.hid hrd; have HOB2 := Lib.hid hob2; have HB2 := Lib.hid hb2; clear hrd hob2 hb2 k0 k1 k2
      have hrbl := HOB1.out.lt
      obtain ⟨rb, hrb⟩ : ∃ rb, rb = w1.heap.size := ⟨_, rfl⟩
      rw [← hrb] at HRD hrbl ⊢
      clear hrb
      generalize w1.alloc (.cells (rdV o.data 0 0) 117) = w2 at *
      go_wp2_with fail
      refine (rdCount_any rb o.data 0 32 _ HRD.out (Nat.zero_le _) (by omega)).mono ?_
      intro e w3 hp
      obtain ⟨n, a0, e0, rfl, hst, hn, ha0, hff⟩ := count_post hp
      have hfi : FilI w o (.slice va o.refs.length vc) rb n a0 e0 0 a0 e0 (.slice none 0 0) [] w3 :=
        ⟨hst.fr.at HOB2.out (by omega), hst.at_, hrbl, ha0, ⟨rfl, .inl ⟨rfl, rfl⟩⟩, rfl, HB2.out.trans (hst.fr.below HB2.out.size (fun k hk => by omega)), rfl⟩
      have HFI := Lib.hid hfi; have HFF := Lib.hid hff; clear hfi hff hst hp
      obtain ⟨i0, hi, hz0, hz1, hz2⟩ := info_parts info_File
      go_wp2_with fail
      go_loopw [5, 22] (fun ov i wr => ∃ (k a : Nat) (e : Int) (xs : List FileD), k ≤ n ∧ i = .int .i64 k ∧ FilI w o (.slice va o.refs.length vc) rb n a0 e0 k a e ov xs wr) (fun _ i _ => n - (intOf i).toNat)
      case atStart => exact ⟨0, a0, e0, [], by omega, rfl, HFI.out⟩
      case round =>
        obtain ⟨k, a, e, xs, hk, rfl, hfi⟩ := hrel
        have HFI2 := Lib.hid hfi; clear hfi HFI
        by_cases hlt : k < n
        · have dk : decide ((k : Int) < (n : Int)) = true := by simp; omega
          have h1 := rdTextX rb o.data a e wr HFI2.out.rd HFI2.out.ha (by omega)
          have hbd1 := tx_bd o.data a e HFI2.out.ha
          have heq := HFI2.out.eq
          rw [show n - k = (n - (k + 1)) + 1 by omega] at heq
          rw [rdFs_succ] at heq
          obtain ⟨T1, hT1⟩ : ∃ T, T = tx o.data a e := ⟨_, rfl⟩
          rw [← hT1] at h1 hbd1 heq
          obtain ⟨x, a1, e1⟩ := T1
          simp only at h1 hbd1 heq
          have hbd2 := tx_bd o.data a1 e1 hbd1.1
          have HH1 := Lib.hid h1; have HEQ := Lib.hid heq; have HB1' := Lib.hid hbd1; have HB2' := Lib.hid hbd2; clear hT1 h1 heq hbd1 hbd2
          obtain ⟨oa, om, oc, rfl⟩ := own_slice HFI2.out.own
          go_wp2_with fail
          refine HH1.out.mono ?_
          rintro _ w4 ⟨rfl, hst4⟩
          have h2 := rdTextX rb o.data a1 e1 w4 hst4.at_ HB1'.out.1 (by omega)
          have heq := HEQ.out
          have hbd2 := HB2'.out
          obtain ⟨T2, hT2⟩ : ∃ T, T = tx o.data a1 e1 := ⟨_, rfl⟩
          rw [← hT2] at h2 heq hbd2
          obtain ⟨y, a2, e2⟩ := T2
          simp only at h2 heq hbd2
          have HH2 := Lib.hid h2; have HEQ2 := Lib.hid heq; have HB3' := Lib.hid hbd2; have HST4 := Lib.hid hst4; clear hT2 h2 heq hbd2 hst4 HEQ HH1 HB2'
          go_wp2_with fail
          refine HH2.out.mono ?_
          rintro _ w5 ⟨rfl, hst5⟩
          have hfr : Fr (fun k => k = rb) wr w5 := (RdStep.trans HST4.out hst5).fr
          have hown5 : w5.ownsRow w.heap.size 41 2 (.slice oa om oc) k (fCells xs) := own_keep HFI2.out.own (fun i hi => hfr.keep i (by obtain ⟨cur, hc⟩ := own_at HFI2.out.own hi; exact hc.lt) (fun e => HFI2.out.rd.own_ne HFI2.out.own (by decide) (by rw [hi, e])))
          have hob5 := hfr.at HFI2.out.ob (fun e => by have := HFI2.out.rb_; omega)
          have hbe5 : Below w.heap.size w w5 := HFI2.out.below.trans (hfr.below HFI2.out.below.size (fun k hk => by have := HFI2.out.rb_; omega))
          have HO5 := Lib.hid hown5; have HOB5 := Lib.hid hob5; have HBE5 := Lib.hid hbe5; have HRD5 := Lib.hid hst5.at_; clear hown5 hob5 hbe5 hst5 hfr
          go_wp2_with (at_builtin; go_must (refine wpList_append_own_at _ rfl _ _ 34 rfl w.heap.size 41 i0 _ 2 32 Tryz.underlying34 hi hz0 hz1 hz2 rfl (by omega) (.slice oa om oc) k (fCells xs) rfl (HO5.out.alloc _) ⟨w5.heap.size, 0, none⟩ 1 1 [.string x, .string y] rfl rfl ?c1 ?c2 ?c3 ?c4 ?c5 ?_))
          case c1 =>
            intro j u hj
            match j, hj with
            | 0, hj => simp at hj; subst hj; simp [Addr.add]
            | 1, hj => simp at hj; subst hj; simp [Addr.add]
          case c2 => intro u hu; simp at hu; rcases hu with rfl | rfl <;> rfl
          case c3 => unfold maxLen; omega
          case c4 => omega
          case c5 => have := HBE5.out.size; simp; omega
          intro v' w6 how' hg _ hb'
          have hwa : Below w.heap.size w (w5.alloc (.cells #[.string x, .string y] 41)) := HBE5.out.alloc HBE5.out.size _
          have hfi6 : FilI w o (.slice va o.refs.length vc) rb n a0 e0 (k + 1) a2 e2 v' (xs ++ [⟨x, y⟩]) w6 := by
            refine ⟨(HOB5.out.alloc _).grown hg (Ne.symm (HOB5.out.own_ne HO5.out (by decide))), (HRD5.out.alloc _).grown hg (Ne.symm (HRD5.out.own_ne HO5.out (by decide))), HFI2.out.rb_, HB3'.out.1, ?_, by rw [List.length_append, HFI2.out.len]; rfl, below_own hwa hwa.size HO5.out hg, ?_⟩
            · rw [fCells_app]
              exact how'
            · rw [HEQ2.out, List.append_assoc]
              rfl
          have HFI6 := Lib.hid hfi6; clear hfi6 hwa how' hg hb'
          go_wp2_with fail
          exact ⟨⟨k + 1, a2, e2, xs ++ [⟨x, y⟩], by omega, by go_num, HFI6.out⟩, by simp [intOf]; omega⟩
        · have hkn : k = n := by omega
          have dk : decide ((k : Int) < (n : Int)) = false := by simp; omega
          have heq := HFI2.out.eq
          rw [hkn, Nat.sub_self] at heq
          rw [rdFs_zero] at heq
          simp only [List.append_nil] at heq
          have hff := HFF.out
          rw [heq] at hff
          simp only at hff
          have hbd := (rdFs_bd o.data n a0 e0 ha0).2.2
          rw [heq] at hbd
          simp only at hbd
          have hl32 : xs.length ≤ 32 := by have := HFI2.out.len; omega
          have hsz := encA_le o.data.size xs hbd
          have hmul : xs.length * (2 * o.data.size + 20) ≤ 32 * (2 * o.data.size + 20) := Nat.mul_le_mul_right _ hl32
          have hown := HFI2.out.own
          rw [← HFI2.out.len] at hown
          have HFC := Lib.hid (FilesC.own hown); have HUP := Lib.hid (own_up hown); have HFF2 := Lib.hid hff
          obtain ⟨oa, om, oc, rfl⟩ := own_slice hown
          clear heq hff hbd hown hkn
          go_wp2_with fail
          refine (archive_any (.slice oa om oc) xs _ HFC.out (HM.out.below HFI2.out.below) (by omega) (by omega)).mono ?_
          rintro _ w7 ⟨rfl, hb7⟩
          have HFI7 := Lib.hid (HFI2.out.under hb7); have HFC7 := Lib.hid (HFC.out.below hb7); clear hb7 hsz hmul
          have hbox : Below w7.heap.size w7 (w7.alloc (.cells #[.int .i64 (archO xs).kind, .slice none 0 0, .string (archO xs).data] 24)) := (Below.refl _ _).alloc (Nat.le_refl _) _
          have HFI8 := Lib.hid (HFI7.out.under hbox); have HFC8 := Lib.hid (HFC7.out.below hbox); clear hbox
          have k1 := HFI8.out.ob.cell 1
          simp only [List.getElem?_toArray, List.getElem?_cons_zero, List.getElem?_cons_succ] at k1
          obtain ⟨AE, hAE⟩ : ∃ z, z = archE xs := ⟨_, rfl⟩
          rw [← hAE] at HFF2 ⊢
          clear hAE
          unfold objV
          by_cases hae : AE = 0
          · have haeb : (AE != 0) = false := by simpa using hae
            have HAE := Lib.hid hae; clear hae
            go_wp2_with fail
            refine (rdEnd_any rb o.data a e _ HFI8.out.rd).mono ?_
            rintro _ w9 ⟨rfl, rfl⟩
            by_cases hq : e = 0 ∧ a = o.data.size
            · have hend : endErr o.data a e = 0 := by unfold endErr; rw [if_neg (show ¬ (e = 0 ∧ a < o.data.size) from fun h => by omega)]; exact hq.1
              rw [hend]
              have hff := HFF2.out
              rw [if_pos ⟨HAE.out, hq.1, hq.2⟩] at hff
              have HFF3 := Lib.hid hff; clear hff hq hend
              by_cases hrl : o.refs.length = 0
              · have drl : decide ((0 : Int) < (o.refs.length : Int)) = false := decide_eq_false (by omega)
                have hf := filesR_ok HC.out HFF3.out hrl
                have HF := Lib.hid hf; clear hf
                go_wp2_with fail
                rw [HR.out]
                unfold FilPost
                rw [HF.out]
                exact ⟨.slice oa om oc, rfl, HFC8.out, HUP.out, HFI8.out.below.drew⟩
              · have drl : decide ((0 : Int) < (o.refs.length : Int)) = true := decide_eq_true (by omega)
                have hf := filesR_bad HC.out (.inr hrl)
                have HF := Lib.hid hf; clear hf
                go_wp2_with fail
                rw [HR.out]
                unfold FilPost
                rw [HF.out]
                exact ⟨.slice none 0 0, rfl, ⟨none, 0, rfl, .inl rfl⟩, (fun k hk => by cases hk), HFI8.out.below.drew⟩
            · have hend : endErr o.data a e ≠ 0 := by
                have ha := HFI8.out.ha
                unfold endErr
                by_cases h0 : e = 0
                · rw [if_pos ⟨h0, by omega⟩]
                  decide
                · rw [if_neg (fun h => h0 h.1)]
                  exact h0
              have hff := HFF2.out
              rw [if_neg (fun h => hq ⟨h.2.1, h.2.2⟩)] at hff
              have hf := filesR_bad HC.out (.inl hff)
              have HF := Lib.hid hf; clear hf hff hq
              obtain ⟨EE, hEE⟩ : ∃ z, z = endErr o.data a e := ⟨_, rfl⟩
              rw [← hEE] at hend ⊢
              have hendb : (EE != 0) = true := by simpa using hend
              clear hEE hend
              go_wp2_with fail
              rw [HR.out]
              unfold FilPost
              rw [HF.out]
              exact ⟨.slice none 0 0, rfl, ⟨none, 0, rfl, .inl rfl⟩, (fun k hk => by cases hk), HFI8.out.below.drew⟩
          · have haeb : (AE != 0) = true := by simpa using hae
            have hff := HFF2.out
            rw [if_neg (fun h => hae h.1)] at hff
            have hf := filesR_bad HC.out (.inl hff)
            have HF := Lib.hid hf; clear hf hff hae
            go_wp2_with fail
            rw [HR.out]
            unfold FilPost
            rw [HF.out]
            exact ⟨.slice none 0 0, rfl, ⟨none, 0, rfl, .inl rfl⟩, (fun k hk => by cases hk), HFI8.out.below⟩
    · have hf := filesR_arg (o := o) (fun h => hk h.2)
      have hk2 : (o.kind != 0) = true := by simpa using hk
      have HF := Lib.hid hf; clear hf hok
      go_wp2_with fail
      rw [HR.out]
      unfold FilPost
      rw [HF.out]
      exact ⟨.slice none 0 0, rfl, ⟨none, 0, rfl, .inl rfl⟩, (fun k hk => by cases hk), HB1.out⟩
end Go.Proofs.YtjlpdknomdhbhaaGreatDoor
