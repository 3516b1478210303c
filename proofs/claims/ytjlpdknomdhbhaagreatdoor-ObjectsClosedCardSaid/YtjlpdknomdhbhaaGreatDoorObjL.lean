/- Objects of the program: lists of strings as bytes; what is valid; bytes and digests. Conditions: the sizes are in reach. Objects of the program: lists of strings as bytes; an object's bytes and digest. Conditions: the sizes are in reach. Objects of the program: Digest, Decode. Conditions: the sizes are in reach. -/
import Derived.Test.YtjlpdknomdhbhaaGreatDoorCodL
import Derived.Test.YtjlpdknomdhbhaaGreatDoorObjP
import Derived.Test.YtjlpdknomdhbhaaGreatDoorBld
import Derived.Test.YtjlpdknomdhbhaaGreatDoorShaF
namespace Go.Proofs.YtjlpdknomdhbhaaGreatDoor
set_option linter.unusedVariables false
set_option linter.unusedSimpArgs false
open Go Go.RowKit Go.Maps
/-- A function value that answers for strings. -/
def Pred (fid : FuncId) (p : ByteArray → Bool) (n : Nat) : Prop := ∀ (x : ByteArray) (w : World), x.size ≤ n → Calls Tryz.prog fid #[.string x] w fun e w' => e = .returned (.bool (p x)) ∧ Below w.heap.size w w'
set_option maxRecDepth 100000 in
set_option maxHeartbeats 1000000 in
theorem idxFn_oValid1 (p : ByteArray → Bool) (n : Nat) (hp : Pred 72 p n) (v : Value) (xs : List ByteArray) (w : World) (h : StrsC w v xs) (hx : ∀ x ∈ xs, x.size ≤ n) (hl : xs.length ≤ 140737488355328) :
    Calls Tryz.prog 105 #[v, .func (.func 72) #[] #[]] w fun e w' => (∃ i : Int, e = .returned (.int .i64 i) ∧ (decide (0 ≤ i) = xs.any p)) ∧ Below w.heap.size w w' := by
  obtain ⟨a, c, rfl, hc⟩ := h
  have HP := Lib.hid hp; have HC := Lib.hid hc; have HX := Lib.hid hx; clear hp hc hx
  go_enter Tryz.func105, Tryz.ntmps105
  go_wp2_with fail
  go_loopw [8] (fun i wr => ∃ k : Nat, k ≤ xs.length ∧ i = .int .i64 k ∧ (xs.take k).any p = false ∧ Below w.heap.size w wr) (fun i _ => xs.length - (intOf i).toNat)
  case atStart => exact ⟨0, by omega, rfl, rfl, Below.refl _ _⟩
  case round =>
    obtain ⟨k, hk, rfl, hno, hb⟩ := hrel
    have HNO := Lib.hid hno; have HB := Lib.hid hb; clear hno hb
    by_cases hlt : k < xs.length
    · have dk : decide ((k : Int) < xs.length) = true := by simp; omega
      obtain ⟨b, o, rfl, hc⟩ := HC.out.resolve_left (by omega)
      have ce := hc k hlt
      have ce2 := (HB.out.cell (p := ⟨b, o + k, none⟩) (block_lt ce)).trans ce
      obtain ⟨s, hs⟩ : ∃ s, s = xs.getD k ⟨#[]⟩ := ⟨_, rfl⟩
      rw [← hs] at ce2
      have hsx : s = xs[k] := by rw [hs]; simp [List.getD_eq_getElem?_getD, hlt]
      have hsz : s.size ≤ n := HX.out s (by rw [hsx]; exact List.getElem_mem hlt)
      have htk : (xs.take (k + 1)).any p = p s := by
        rw [List.take_succ_eq_append_getElem hlt, List.any_append, HNO.out, ← hsx]
        simp
      have hany : p s = true → xs.any p = true := fun h => List.any_eq_true.2 ⟨s, by rw [hsx]; exact List.getElem_mem hlt, h⟩
      have HTK := Lib.hid htk; have HANY := Lib.hid hany; have HCC := Lib.hid hc; clear htk hany hs hsx ce hc
      go_wp2_with fail
      refine (HP.out s _ hsz).mono ?_
      rintro e w2 ⟨rfl, hb2⟩
      have HB2 := Lib.hid (HB.out.trans (hb2.mono HB.out.size)); clear hb2
      cases hps : p s with
      | true =>
        have ha := HANY.out hps
        have HA := Lib.hid ha; clear ha
        go_wp2_with fail
        go_ret
        exact ⟨⟨_, rfl, by rw [HA.out]; simp⟩, HB2.out⟩
      | false =>
        have ht := HTK.out
        rw [hps] at ht
        have HT := Lib.hid ht; clear ht
        go_wp2_with fail
        exact ⟨⟨k + 1, by omega, by go_num, HT.out, HB2.out⟩, by simp [intOf]; omega⟩
    · have dk : decide ((k : Int) < xs.length) = false := by simp; omega
      have hall : xs.any p = false := by
        have := HNO.out
        rw [List.take_of_length_le (by omega)] at this
        exact this
      have HA := Lib.hid hall; clear hall
      go_wp2_with fail
      go_ret
      exact ⟨⟨_, rfl, by rw [HA.out]; rfl⟩, HB.out⟩
set_option maxRecDepth 100000 in
theorem contFn_oValid1 (p : ByteArray → Bool) (n : Nat) (hp : Pred 72 p n) (v : Value) (xs : List ByteArray) (w : World) (h : StrsC w v xs) (hx : ∀ x ∈ xs, x.size ≤ n) (hl : xs.length ≤ 140737488355328) :
    Calls Tryz.prog 71 #[v, .func (.func 72) #[] #[]] w fun e w' => e = .returned (.bool (xs.any p)) ∧ Below w.heap.size w w' := by
  have HI := Lib.hid (idxFn_oValid1 p n hp v xs w h hx hl); clear hp h hx
  go_enter Tryz.func71, Tryz.ntmps71
  go_wp2_with fail
  refine HI.out.mono ?_
  rintro e w2 ⟨⟨i, rfl, hi⟩, hb⟩
  have HB := Lib.hid hb; have HJ := Lib.hid hi; clear hb hi
  go_wp2_with fail
  go_ret
  exact ⟨by rw [← HJ.out]; rfl, HB.out⟩
set_option maxRecDepth 100000 in
theorem oValid1_any : Pred 72 (fun x => !decide (x.size = 32)) 140737488355328 := by
  intro x w hx
  go_enter Tryz.func72, Tryz.ntmps72
  go_wp2_with fail
  go_ret
  refine ⟨?_, Below.refl _ _⟩
  show Ending.returned (.bool _) = Ending.returned (.bool _)
  congr 2
  rw [Bool.eq_iff_iff]
  simp
  omega
/-- The refs of an object, and its data, are of this machine's. -/
def Reach (o : Obj) : Prop := (∀ x ∈ o.refs, x.size ≤ 140737488350000) ∧ o.refs.length ≤ 140737488350000 ∧ o.data.size ≤ 140737488350000
/-- An object as a value. -/
def objV (o : Obj) (v : Value) : Value := .agg #[.int .i64 o.kind, v, .string o.data]
theorem okRefs_any (l : List ByteArray) : (l.any fun x => !decide (x.size = 32)) = !okRefs l := by
  unfold okRefs
  rw [List.not_all_eq_any_not]
set_option maxRecDepth 100000 in
set_option maxHeartbeats 2000000 in
theorem oValid_any (o : Obj) (v : Value) (w : World) (h : StrsC w v o.refs) (hr : Reach o) :
    Calls Tryz.prog 38 #[objV o v] w fun e w' => e = .returned (.bool (okO o)) ∧ Below w.heap.size w w' := by
  obtain ⟨a, c, rfl⟩ := h.len
  obtain ⟨k, l, x⟩ := o
  obtain ⟨hr1, hr2, hr3⟩ := hr
  unfold objV
  simp only at h hr1 hr2 hr3 ⊢
  obtain ⟨R, hR⟩ : ∃ R, R = okO ⟨k, l, x⟩ := ⟨_, rfl⟩
  rw [← hR]
  unfold okO at hR
  simp only at hR
  have HR := Lib.hid hR; clear hR
  have hb0 : Below w.heap.size w (w.alloc (.cells #[.int .i64 k, .slice a l.length c, .string x] 24)) := (Below.refl _ _).alloc (Nat.le_refl _) _
  have HB := Lib.hid hb0; have HS := Lib.hid (h.below hb0); have HX := Lib.hid hr1; clear hb0 h hr1
  go_enter Tryz.func38, Tryz.ntmps38
  by_cases h1 : 0 ≤ k
  · have d1 : decide (0 ≤ k) = true := by simpa using h1
    by_cases h2 : k ≤ 15
    · have d2 : decide (k ≤ 15) = true := by simpa using h2
      by_cases h3 : l.length ≤ 64
      · have d3 : decide ((l.length : Int) ≤ 64) = true := by simp; omega
        by_cases h4 : x.size ≤ 65536
        · have d4 : decide ((x.size : Int) ≤ 65536) = true := by simp; omega
          have e : R = okRefs l := by rw [HR.out, decide_eq_true h1, decide_eq_true h2, decide_eq_true h3, decide_eq_true h4]; simp
          have HE := Lib.hid e; clear e
          go_wp2_with fail
          refine (contFn_oValid1 _ _ oValid1_any _ l _ HS.out (fun z hz => by have := HX.out z hz; omega) (by omega)).mono ?_
          rintro e2 w2 ⟨rfl, hb2⟩
          rw [okRefs_any]
          have HB2 := Lib.hid (HB.out.trans (hb2.mono HB.out.size)); clear hb2
          go_wp2_with fail
          go_ret
          exact ⟨by rw [HE.out]; simp, HB2.out⟩
        · have d4 : decide ((x.size : Int) ≤ 65536) = false := by simp; omega
          have e : R = false := by rw [HR.out, decide_eq_false h4]; simp
          have HE := Lib.hid e; clear e
          go_wp2_with fail
          go_ret
          exact ⟨by rw [HE.out]; rfl, HB.out⟩
      · have d3 : decide ((l.length : Int) ≤ 64) = false := by simp; omega
        have e : R = false := by rw [HR.out, decide_eq_false h3]; simp
        have HE := Lib.hid e; clear e
        go_wp2_with fail
        go_ret
        exact ⟨by rw [HE.out]; rfl, HB.out⟩
    · have d2 : decide (k ≤ 15) = false := by simpa using h2
      have e : R = false := by rw [HR.out, decide_eq_false h2]; simp
      have HE := Lib.hid e; clear e
      go_wp2_with fail
      go_ret
      exact ⟨by rw [HE.out]; rfl, HB.out⟩
  · have d1 : decide (0 ≤ k) = false := by simpa using h1
    have e : R = false := by rw [HR.out, decide_eq_false h1]; simp
    have HE := Lib.hid e; clear e
    go_wp2_with fail
    go_ret
    exact ⟨by rw [HE.out]; rfl, HB.out⟩
end Go.Proofs.YtjlpdknomdhbhaaGreatDoor
namespace Go.Proofs.YtjlpdknomdhbhaaGreatDoor
set_option linter.unusedVariables false
set_option linter.unusedSimpArgs false
open Go Go.RowKit Go.Maps
/-- A builder of strings that lies at b and holds X. -/
def BldAt (w : World) (b : Nat) (X : ByteArray) : Prop := Lib.IsBuilderF 79 5 b b (Lib.strCells X) w
theorem strCells_app (X s : ByteArray) : Lib.strCells (X ++ s) = Lib.strCells X ++ Lib.strCells s := by
  unfold Lib.strCells
  rw [Sha.app_list, List.map_append]
theorem BldAt.below {w w' : World} {b : Nat} {X : ByteArray} (h : BldAt w b X) (hb : Below w.heap.size w w') : BldAt w' b X := isBuilderF_below h hb
theorem BldAt.new (w : World) : BldAt (w.alloc (.cells #[.pointer none, .slice none 0 0] 79)) w.heap.size ⟨#[]⟩ := bldNew w
theorem BldAt.lt {w : World} {b : Nat} {X : ByteArray} (h : BldAt w b X) : b < w.heap.size := by
  rcases h with h | h
  · exact h.lt
  · exact h.lt
theorem bldW (b : Nat) (X s : ByteArray) (w : World) (h : BldAt w b X) (hl : X.size + s.size ≤ 140737488355328) :
    Calls Tryz.prog 55 #[.pointer (some ⟨b, 0, none⟩), .string s] w fun e w' => e = .returned (.tuple #[.int .i64 s.size, .nilIface]) ∧ BldAt w' b (X ++ s) ∧ Below b w w' :=
  (bldWrite_any b b _ s w h (by rw [Lib.strCells_length]; exact hl) (Nat.le_of_lt h.lt)).mono fun _ _ ⟨h1, h2, h3⟩ => ⟨h1, by unfold BldAt; rw [strCells_app]; exact h2, h3⟩
theorem bldS (b : Nat) (X : ByteArray) (w : World) (h : BldAt w b X) :
    Calls Tryz.prog 58 #[.pointer (some ⟨b, 0, none⟩)] w fun e w' => e = .returned (.string X) ∧ BldAt w' b X ∧ Below b w w' :=
  (Tryz.Builder_String_any_f b b X.data.toList w h (Nat.le_of_lt h.lt)).mono fun _ _ ⟨h1, h2, h3⟩ => ⟨by rw [h1], h2, h3⟩
theorem cat_take (xs : List ByteArray) (k : Nat) (h : k < xs.length) : Cod.cat ((xs.take (k + 1)).map Cod.text) = Cod.cat ((xs.take k).map Cod.text) ++ Cod.text xs[k] := by
  induction xs generalizing k with
  | nil => cases h
  | cons x l ih =>
    match k with
    | 0 =>
      show Cod.text x ++ Cod.cat [] = (⟨#[]⟩ : ByteArray) ++ Cod.text x
      rw [nil_ba]
      exact ba_nil _
    | k + 1 =>
      have h2 : k < l.length := by simpa using h
      show Cod.text x ++ Cod.cat ((l.take (k + 1)).map Cod.text) = (Cod.text x ++ Cod.cat ((l.take k).map Cod.text)) ++ Cod.text l[k]
      rw [ih k h2, ByteArray.append_assoc]
theorem cat_mono (xs : List ByteArray) (k : Nat) : (Cod.cat ((xs.take k).map Cod.text)).size ≤ (Cod.cat (xs.map Cod.text)).size := by
  induction xs generalizing k with
  | nil => simp
  | cons x l ih =>
    match k with
    | 0 => exact Nat.zero_le _
    | k + 1 =>
      show (Cod.text x ++ Cod.cat ((l.take k).map Cod.text)).size ≤ (Cod.text x ++ Cod.cat (l.map Cod.text)).size
      rw [Sha.app_size, Sha.app_size]
      have := ih k
      omega
set_option maxRecDepth 100000 in
set_option maxHeartbeats 1000000 in
theorem cTexts1_any (b : Nat) (X s : ByteArray) (w : World) (h : BldAt w b X) (hl : X.size + s.size ≤ 140737488355328) :
    Calls Tryz.prog 76 #[.string s, .pointer (some ⟨b, 0, none⟩)] w fun e w' => e = .returned (.tuple #[]) ∧ BldAt w' b (X ++ s) ∧ Below b w w' := by
  have H := Lib.hid h; clear h
  go_enter Tryz.func76, Tryz.ntmps76
  go_wp2_with fail
  refine (bldW b X s _ H.out hl).mono ?_
  rintro e w1 ⟨rfl, h1, hb1⟩
  have H1 := Lib.hid h1; have HB1 := Lib.hid hb1; clear h1 hb1
  go_wp2_with fail
  go_end0
  exact ⟨rfl, H1.out, HB1.out⟩
set_option maxRecDepth 100000 in
set_option maxHeartbeats 1000000 in
theorem cEach_any (w0 : World) (b : Nat) (X : ByteArray) (v : Value) (xs : List ByteArray) (w : World) (h : BldAt w b X) (hb : Below b w0 w) (hw0 : b = w0.heap.size) (hv : StrsC w0 v xs) (hx : ∀ x ∈ xs, x.size ≤ 140737488350000) (hl : xs.length ≤ 140737488350000) (ht : X.size + (Cod.cat (xs.map Cod.text)).size ≤ 140737488355328) :
    Calls Tryz.prog 75 #[v, .func (.func 41) #[] #[], .func (.func 76) #[] #[.pointer (some ⟨b, 0, none⟩)]] w fun e w' => e = .returned (.tuple #[]) ∧ BldAt w' b (X ++ Cod.cat (xs.map Cod.text)) ∧ Below b w0 w' := by
  obtain ⟨a, c, rfl, hc⟩ := hv
  have H := Lib.hid h; have HB := Lib.hid hb; have HX := Lib.hid hx; have HC := Lib.hid hc; have HW0 := Lib.hid hw0; clear h hb hx hc hw0
  go_enter Tryz.func75, Tryz.ntmps75
  go_wp2_with fail
  go_loopw [10] (fun i wr => ∃ k : Nat, k ≤ xs.length ∧ i = .int .i64 k ∧ BldAt wr b (X ++ Cod.cat ((xs.take k).map Cod.text)) ∧ Below b w0 wr) (fun i _ => xs.length - (intOf i).toNat)
  case atStart => exact ⟨0, by omega, rfl, by rw [List.take_zero]; show BldAt _ _ (X ++ ⟨#[]⟩); rw [ba_nil]; exact H.out, HB.out⟩
  case round =>
    obtain ⟨k, hk, rfl, hbl, hbw⟩ := hrel
    have HBL := Lib.hid hbl; have HBW := Lib.hid hbw; clear hbl hbw
    by_cases hlt : k < xs.length
    · have dk : decide ((k : Int) < xs.length) = true := by simp; omega
      obtain ⟨g, o, rfl, hc⟩ := HC.out.resolve_left (by omega)
      have ce := hc k hlt
      have hgl := block_lt ce
      have ce2 := (HBW.out.cell (p := ⟨g, o + k, none⟩) (by rw [HW0.out]; exact hgl)).trans ce
      obtain ⟨s, hs⟩ : ∃ s, s = xs.getD k ⟨#[]⟩ := ⟨_, rfl⟩
      rw [← hs] at ce2
      have hsx : s = xs[k] := by rw [hs]; simp [List.getD_eq_getElem?_getD, hlt]
      have hsz : s.size ≤ 140737488350000 := HX.out s (by rw [hsx]; exact List.getElem_mem hlt)
      obtain ⟨Y, hY⟩ : ∃ Y, Y = X ++ Cod.cat ((xs.take k).map Cod.text) := ⟨_, rfl⟩
      have hY2 : Y ++ Cod.text s = X ++ Cod.cat ((xs.take (k + 1)).map Cod.text) := by rw [cat_take xs k hlt, hY, hsx, ByteArray.append_assoc]
      have hYs : Y.size + (Cod.text s).size ≤ 140737488355328 := by
        rw [← Sha.app_size, hY2, Sha.app_size]
        have := cat_mono xs (k + 1)
        omega
      have hbl := HBL.out
      rw [← hY] at hbl
      have HBY := Lib.hid hbl; have HY2 := Lib.hid hY2; have HYS := Lib.hid hYs; have HCC := Lib.hid hc; clear hbl hY hY2 hYs hs hsx ce hc
      go_wp2_with fail
      refine (cText_any s _ hsz).mono ?_
      rintro e w2 ⟨rfl, hb2⟩
      have HB2 := Lib.hid hb2; have HBY2 := Lib.hid (HBY.out.below hb2); clear hb2
      generalize Cod.text s = t at *
      go_wp2_with fail
      refine (cTexts1_any b Y t _ HBY2.out HYS.out).mono ?_
      rintro e w3 ⟨rfl, h3, hb3⟩
      have hfin : Below b w0 w3 := (HBW.out.trans (HB2.out.mono (Nat.le_of_lt HBY.out.lt))).trans hb3
      rw [HY2.out] at h3
      have HF := Lib.hid hfin; have H3 := Lib.hid h3; clear hfin h3 hb3
      go_wp2_with fail
      exact ⟨⟨k + 1, by omega, by go_num, H3.out, HF.out⟩, by simp [intOf]; omega⟩
    · have dk : decide ((k : Int) < xs.length) = false := by simp; omega
      have hbl := HBL.out
      rw [List.take_of_length_le (by omega)] at hbl
      have HBY := Lib.hid hbl; clear hbl
      go_wp2_with fail
      go_end0
      exact ⟨rfl, HBY.out, HBW.out⟩
set_option maxRecDepth 100000 in
set_option maxHeartbeats 1000000 in
theorem cTexts_any (v : Value) (xs : List ByteArray) (w : World) (hv : StrsC w v xs) (hx : ∀ x ∈ xs, x.size ≤ 140737488350000) (hl : xs.length ≤ 140737488350000) (ht : (Cod.texts xs).size ≤ 140737488355328) :
    Calls Tryz.prog 40 #[v] w fun e w' => e = .returned (.string (Cod.texts xs)) ∧ Below w.heap.size w w' := by
  obtain ⟨a, c, rfl⟩ := hv.len
  have HV := Lib.hid hv; have HX := Lib.hid hx; have HT := Lib.hid ht; clear hv hx ht
  have hts : Cod.texts xs = Cod.uns xs.length ++ Cod.cat (xs.map Cod.text) := rfl
  have HTS := Lib.hid hts; clear hts
  generalize Cod.texts xs = T at *
  go_enter Tryz.func40, Tryz.ntmps40
  go_wp2_with fail
  refine (cUns_any xs.length _ (by omega)).mono ?_
  rintro e w1 ⟨rfl, hb1⟩
  have hbl : BldAt w1 w.heap.size ⟨#[]⟩ := (BldAt.new w).below hb1
  have hbw : Below w.heap.size w w1 := ((Below.refl _ _).alloc (Nat.le_refl _) _).trans (hb1.mono (by simp))
  have hu := Cod.uns_le xs.length
  have HBL := Lib.hid hbl; have HBW := Lib.hid hbw; clear hbl hbw hb1
  obtain ⟨u, hu2⟩ : ∃ u, u = Cod.uns xs.length := ⟨_, rfl⟩
  rw [← hu2] at hu HTS ⊢
  clear hu2
  go_wp2_with fail
  refine (bldW w.heap.size ⟨#[]⟩ u _ HBL.out (by show 0 + u.size ≤ _; omega)).mono ?_
  rintro e w2 ⟨rfl, h2, hb2⟩
  rw [nil_ba] at h2
  have H2 := Lib.hid h2; have HBW2 := Lib.hid (HBW.out.trans hb2); clear h2 hb2
  go_wp2_with fail
  refine (cEach_any w w.heap.size u (.slice a xs.length c) xs w2 H2.out HBW2.out rfl HV.out HX.out hl (by have := HT.out; rw [HTS.out, Sha.app_size] at this; exact this)).mono ?_
  rintro e w3 ⟨rfl, h3, hb3⟩
  rw [← HTS.out] at h3
  have H3 := Lib.hid h3; have HB3 := Lib.hid hb3; clear h3 hb3
  go_wp2_with fail
  refine (bldS w.heap.size T _ H3.out).mono ?_
  rintro e w4 ⟨rfl, h4, hb4⟩
  have HB4 := Lib.hid (HB3.out.trans hb4); clear h4 hb4
  go_wp2_with fail
  go_ret
  exact ⟨rfl, HB4.out⟩
theorem cat_bound (l : List ByteArray) (n : Nat) (h : ∀ x ∈ l, x.size ≤ n) : (Cod.cat (l.map Cod.text)).size ≤ (n + 10) * l.length := by
  induction l with
  | nil => exact Nat.zero_le _
  | cons x l ih =>
    have h1 := ih (fun y hy => h y (List.mem_cons_of_mem _ hy))
    have h2 := h x List.mem_cons_self
    have h3 := Cod.uns_le x.size
    show (Cod.text x ++ Cod.cat (l.map Cod.text)).size ≤ _
    have h5 : (Cod.text x).size = (Cod.uns x.size).size + x.size := by unfold Cod.text; rw [Sha.app_size]
    rw [Sha.app_size, h5, List.length_cons, Nat.mul_succ]
    omega
theorem encO_size (o : Obj) (h : okO o = true) : (encO o).size ≤ 70000 ∧ (Cod.texts o.refs).size ≤ 70000 := by
  obtain ⟨h1, h2, h3, h4, h5⟩ := okO_parts h
  have t1 := texts_size o.refs h5
  have t2 := Cod.uns_le o.kind.toNat
  have t3 := Cod.uns_le o.data.size
  have h6 : (Cod.text o.data).size = (Cod.uns o.data.size).size + o.data.size := by unfold Cod.text; rw [Sha.app_size]
  refine ⟨?_, by omega⟩
  unfold encO
  rw [Sha.app_size, Sha.app_size, h6]
  omega
/-- What Encode returns. -/
def encR (o : Obj) : Value := if okO o = true then .tuple #[.string (encO o), .int .i64 0] else .tuple #[.string ⟨#[]⟩, .int .i64 1]
set_option maxRecDepth 100000 in
set_option maxHeartbeats 1000000 in
theorem oEncode_any (o : Obj) (v : Value) (w : World) (h : StrsC w v o.refs) (hr : Reach o) :
    Calls Tryz.prog 11 #[objV o v] w fun e w' => e = .returned (encR o) ∧ Below w.heap.size w w' := by
  obtain ⟨a, c, rfl⟩ := h.len
  obtain ⟨R, hR⟩ : ∃ R, R = encR o := ⟨_, rfl⟩
  rw [← hR]
  unfold encR at hR
  have hval := oValid_any o (.slice a o.refs.length c) (w.alloc (.cells #[.int .i64 o.kind, .slice a o.refs.length c, .string o.data] 24)) (h.below ((Below.refl _ _).alloc (Nat.le_refl _) _)) hr
  have HVAL := Lib.hid hval
  have hb0 : Below w.heap.size w (w.alloc (.cells #[.int .i64 o.kind, .slice a o.refs.length c, .string o.data] 24)) := (Below.refl _ _).alloc (Nat.le_refl _) _
  have HR := Lib.hid hR; have HB0 := Lib.hid hb0; have HS := Lib.hid h; have HRE := Lib.hid hr; clear hval hR hb0 h hr
  unfold objV
  go_enter Tryz.func11, Tryz.ntmps11
  go_wp2_with fail
  refine HVAL.out.mono ?_
  rintro e w1 ⟨rfl, hb1⟩
  cases hok : okO o with
  | false =>
    have hr2 := HR.out
    rw [if_neg (by rw [hok]; decide)] at hr2
    have HR2 := Lib.hid hr2; clear hr2 hok
    have hb := HB0.out.trans (hb1.mono HB0.out.size)
    have HBB := Lib.hid hb; clear hb hb1
    go_wp2_with fail
    go_ret2
    exact ⟨by rw [HR2.out]; rfl, HBB.out⟩
  | true =>
    have hr2 := HR.out
    rw [if_pos hok] at hr2
    obtain ⟨p1, p2, p3, p4, p5⟩ := okO_parts hok
    obtain ⟨z1, z2⟩ := encO_size o hok
    have henc : encO o = Cod.uns o.kind.toNat ++ Cod.texts o.refs ++ Cod.text o.data := by unfold encO; rw [ByteArray.append_assoc]
    rw [henc] at hr2
    have hu := Cod.uns_le o.kind.toNat
    have ht := Cod.uns_le o.data.size
    have hts : (Cod.text o.data).size ≤ 65546 := by unfold Cod.text; rw [Sha.app_size]; omega
    obtain ⟨kn, hkn⟩ : ∃ kn : Nat, o.kind = kn := ⟨o.kind.toNat, by omega⟩
    have hkl : kn ≤ 15 := by omega
    have hrs := HS.out
    have hpc : ∀ x ∈ o.refs, x.size ≤ 140737488350000 := fun x hx => by have := p5 x hx; omega
    have t0 : At w1 w.heap.size 24 #[.int .i64 o.kind, .slice a o.refs.length c, .string o.data] := (At.new w _ _).below hb1 (by simp)
    have k0 := t0.cell 0; have k1 := t0.cell 1; have k2 := t0.cell 2
    simp only [List.getElem?_toArray, List.getElem?_cons_zero, List.getElem?_cons_succ] at k0 k1 k2
    rw [hkn] at k0 hr2 hu
    rw [Int.toNat_natCast] at hr2 hu
    have hb := HB0.out.trans (hb1.mono HB0.out.size)
    have HR2 := Lib.hid hr2; have HB1 := Lib.hid hb; have T0 := Lib.hid t0; have HPC := Lib.hid hpc; clear hr2 hb hb1 t0 hpc henc hok p5 hkn p1 p2 z1 HR hrs
    have hw1l : w.heap.size < w1.heap.size := T0.out.lt
    go_wp2_with fail
    refine Lex.wp_region_lexN (fun i => i = w.heap.size) [4, 8] 10 [3, 3, 4] (by kernel_rfl) (by kernel_rfl) (by kernel_rfl) ?_
    simp only [Lex.wpCuts, List.take_succ_cons, List.take_zero, List.drop_succ_cons, List.drop_zero]
    go_wp2_with fail
    refine (oNumber_any kn _ (by omega)).mono ?_
    rintro e w2 ⟨rfl, hb2⟩
    have hb12 : Below w1.heap.size w1 w2 := (Below.refl w1.heap.size w1).drew.trans hb2
    have HB12 := Lib.hid hb12
    have HB2 := Lib.hid (HB1.out.trans (hb12.mono HB1.out.size)); have T2 := Lib.hid (T0.out.below hb12 T0.out.lt)
    have j1 := T2.out.cell 1
    simp only [List.getElem?_toArray, List.getElem?_cons_zero, List.getElem?_cons_succ] at j1
    clear hb2 hb12 k0 k1 k2
    generalize Cod.uns kn = U at *
    go_wp2_with fail
    refine Lex.Mid.intro (fun i hi hl => by subst hi; exact HB12.out.block _ hl) ?_
    go_wp2_with fail
    refine (cTexts_any (.slice a o.refs.length c) o.refs _ (HS.out.below HB2.out) HPC.out (by omega) (by omega)).mono ?_
    rintro e w3 ⟨rfl, hb3⟩
    have hb13 := HB12.out.trans (hb3.mono HB12.out.size)
    have HB13 := Lib.hid hb13
    have HB3 := Lib.hid (HB2.out.trans (hb3.mono HB2.out.size)); have T3 := Lib.hid (T2.out.below hb3 T2.out.lt)
    have i2 := T3.out.cell 2
    simp only [List.getElem?_toArray, List.getElem?_cons_zero, List.getElem?_cons_succ] at i2
    clear hb3 hb13 j1
    generalize Cod.texts o.refs = V at *
    go_wp2_with fail
    refine Lex.Mid.intro (fun i hi hl => by subst hi; exact HB13.out.block _ hl) ?_
    go_wp2_with fail
    refine (cText_any o.data _ (by omega)).mono ?_
    rintro e w4 ⟨rfl, hb4⟩
    have HB14 := Lib.hid (HB13.out.trans (hb4.mono HB13.out.size))
    have HB4 := Lib.hid (HB3.out.trans (hb4.mono HB3.out.size)); clear hb4 i2
    generalize Cod.text o.data = X at *
    go_wp2_with fail
    refine Lex.Mid.intro (fun i hi hl => by subst hi; exact HB14.out.block _ hl) ?_
    go_wp2_with fail
    refine Lex.EndsN.intro (by kernel_rfl) ⟨⟨rfl, by show (World.cell? _ ⟨w.heap.size, 1, none⟩).isSome = true; rw [T0.out.drew.cell 1]; rfl⟩, ⟨rfl, by show (World.cell? _ ⟨w.heap.size, 2, none⟩).isSome = true; rw [T0.out.drew.cell 2]; rfl⟩, trivial⟩ ?_
    go_wp2_with fail
    go_ret2
    exact ⟨by rw [HR2.out]; rfl, HB4.out⟩
end Go.Proofs.YtjlpdknomdhbhaaGreatDoor
namespace Go.Proofs.YtjlpdknomdhbhaaGreatDoor
set_option linter.unusedVariables false
set_option linter.unusedSimpArgs false
open Go Go.RowKit Go.Maps
/-- What Digest returns. -/
def digR (o : Obj) : Value := if okO o = true then .tuple #[.string (Sha.sha (⟨#[7]⟩ ++ encO o)), .int .i64 0] else .tuple #[.string ⟨#[]⟩, .int .i64 1]
set_option maxRecDepth 100000 in
set_option maxHeartbeats 1000000 in
theorem oDigest_any (o : Obj) (v : Value) (w : World) (h : StrsC w v o.refs) (hr : Reach o) :
    Calls Tryz.prog 13 #[objV o v] w fun e w' => e = .returned (digR o) ∧ Below w.heap.size w w' := by
  obtain ⟨a, c, rfl⟩ := h.len
  obtain ⟨R, hR⟩ : ∃ R, R = digR o := ⟨_, rfl⟩
  rw [← hR]
  unfold digR at hR
  have hb0 : Below w.heap.size w (w.alloc (.cells #[.int .i64 o.kind, .slice a o.refs.length c, .string o.data] 24)) := (Below.refl _ _).alloc (Nat.le_refl _) _
  have henc := oEncode_any o (.slice a o.refs.length c) (w.alloc (.cells #[.int .i64 o.kind, .slice a o.refs.length c, .string o.data] 24)) (h.below hb0) hr
  have HENC := Lib.hid henc; have HR := Lib.hid hR; have HB0 := Lib.hid hb0; clear henc hR hb0 h hr
  unfold objV
  go_enter Tryz.func13, Tryz.ntmps13
  go_wp2_with fail
  refine HENC.out.mono ?_
  rintro e w1 ⟨rfl, hb1⟩
  have HB1 := Lib.hid (HB0.out.trans (hb1.mono HB0.out.size)); clear hb1
  have hr2 := HR.out
  by_cases hok : okO o = true
  · rw [if_pos hok] at hr2
    have hz := (encO_size o hok).1
    have he : encR o = .tuple #[.string (encO o), .int .i64 0] := by unfold encR; rw [if_pos hok]
    rw [he]
    have HR2 := Lib.hid hr2; clear hr2 hok he HENC HR
    generalize encO o = S at *
    obtain ⟨T, hT⟩ : ∃ T : ByteArray, T = ⟨#[7]⟩ ++ S := ⟨_, rfl⟩
    have hTs : T.size ≤ 70001 := by rw [hT, Sha.app_size]; show 1 + S.size ≤ _; omega
    rw [← hT] at HR2
    have HT := Lib.hid hT; clear hT
    go_wp2_with fail
    rw [← HT.out]
    refine (sum_any T _ (by omega)).mono ?_
    rintro e w2 ⟨rfl, hb2⟩
    have HB2 := Lib.hid (HB1.out.trans (hb2.mono HB1.out.size)); clear hb2
    go_wp2_with fail
    go_ret2
    exact ⟨by rw [HR2.out]; rfl, HB2.out⟩
  · rw [if_neg hok] at hr2
    have he : encR o = .tuple #[.string ⟨#[]⟩, .int .i64 1] := by unfold encR; rw [if_neg hok]
    rw [he]
    have HR2 := Lib.hid hr2; clear hr2 hok he HENC HR
    go_wp2_with fail
    go_ret2
    exact ⟨by rw [HR2.out]; rfl, HB1.out⟩
theorem info_Object : (Tryz.prog.info? 24).map (·.size) = some 3 := by kernel_rfl
/-- A struct of three cells, stored cell by cell. -/
def put3 (w : World) (b : Nat) (v0 v1 v2 : Value) : World := ((w.setCell ⟨b, 0, none⟩ v0).setCell ⟨b, 1, none⟩ v1).setCell ⟨b, 2, none⟩ v2
theorem At.put3 {w : World} {b : Nat} {t : TypeId} {a0 a1 a2 : Value} (h : At w b t #[a0, a1, a2]) (v0 v1 v2 : Value) : At (put3 w b v0 v1 v2) b t #[v0, v1, v2] := ((h.set 0 v0).set 1 v1).set 2 v2
theorem below3 {B b : Nat} {w0 w : World} (h : Below B w0 w) (hb : B ≤ b) (v0 v1 v2 : Value) : Below B w0 (put3 w b v0 v1 v2) :=
  ((h.setCell (p := ⟨b, 0, none⟩) hb v0).setCell (p := ⟨b, 1, none⟩) hb v1).setCell (p := ⟨b, 2, none⟩) hb v2
theorem put3_far {w : World} {b k : Nat} (h : k ≠ b) (v0 v1 v2 : Value) : (put3 w b v0 v1 v2).heap[k]? = w.heap[k]? := by
  unfold put3
  rw [heap_setCell_other _ _ _ _ h, heap_setCell_other _ _ _ _ h, heap_setCell_other _ _ _ _ h]
theorem dec_done {tmps : Array Value} {w : World} {b : Nat} {v0 v1 v2 p3 : Value} {Q : Ending → World → Prop} (hp : tmps.getD 2 undef = .pointer (some ⟨b, 0, none⟩)) (h3 : tmps.getD 3 undef = p3) (hat : At w b 24 #[v0, v1, v2])
    (hq : Q (.returned (.tuple #[.agg #[v0, v1, v2], p3])) w) : bodyPost Tryz.prog Tryz.f15 Q Exit.ret { tmps := tmps, defers := [] } w := by
  refine bodyPost_ret (v := .tuple #[.agg #[v0, v1, v2], p3]) ?_ rfl hq
  rw [results_cell_tmp (p := 2) (u := 3) (ty := 24) rfl, hp, h3]
  simp [asAddr, run_loadVar_row w b 24 24 _ (0, 0) _ hat Tryz.underlying24 rfl info_Object]
/-- A reader beside a result. -/
structure DecI (w : World) (s : ByteArray) (a : Nat) (e : Int) (wr : World) : Prop where
  at0 : At wr w.heap.size 24 #[.int .i64 0, .slice none 0 0, .string ⟨#[]⟩]
  rd : At wr (w.heap.size + 1) 117 (rdV s a e)
  below : Below w.heap.size w wr
theorem DecI.step {w wr wr' : World} {s : ByteArray} {a a' : Nat} {e e' : Int} (h : DecI w s a e wr) (hs : RdStep (w.heap.size + 1) wr wr' (rdV s a' e')) : DecI w s a' e' wr' :=
  ⟨hs.fr.at h.at0 (by simp), hs.at_, h.below.trans (hs.fr.below h.below.size (fun k hk => by omega))⟩
theorem DecI.under {w wr wr' : World} {s : ByteArray} {a : Nat} {e : Int} (h : DecI w s a e wr) (hb : Below wr.heap.size wr wr') : DecI w s a e wr' :=
  ⟨h.at0.below hb h.at0.lt, h.rd.below hb h.rd.lt, h.below.trans (hb.mono h.below.size)⟩
theorem mem_cat {l : List ByteArray} {x : ByteArray} (h : x ∈ l) : x.size ≤ (Cod.cat (l.map Cod.text)).size := by
  induction l with
  | nil => cases h
  | cons y l ih =>
    show _ ≤ (Cod.text y ++ Cod.cat (l.map Cod.text)).size
    rw [Sha.app_size]
    rcases List.mem_cons.1 h with rfl | h2
    · have : (Cod.text x).size = (Cod.uns x.size).size + x.size := by unfold Cod.text; rw [Sha.app_size]
      omega
    · have := ih h2
      omega
theorem reach_read {s : ByteArray} {k a b m : Nat} {l : List ByteArray} {x : ByteArray} (h2 : Cod.rdTexts s a = some (l, b)) (h3 : Cod.rdT s b = some (x, m)) (hs : s.size ≤ 1000000) : Reach ⟨k, l, x⟩ := by
  obtain ⟨q1, q2, q3⟩ := Cod.rdTexts_some h2
  obtain ⟨t1, t2, t3⟩ := Cod.rdT_some h3
  have e1 := congrArg ByteArray.size q3
  have e2 := congrArg ByteArray.size t3
  rw [ByteArray.size_extract] at e1 e2
  unfold Cod.texts at e1
  unfold Cod.text at e2
  rw [Sha.app_size] at e1 e2
  have hc := Cod.cat_size l
  refine ⟨fun y hy => ?_, ?_, ?_⟩
  · have hy2 : y ∈ l := hy
    have := mem_cat hy2
    omega
  · show l.length ≤ _
    omega
  · show x.size ≤ _
    omega
/-- What Decode returns. -/
def DecPost (w : World) (r : Option Obj) (e : Ending) (w' : World) : Prop := match r with
  | some o => ∃ a c, e = .returned (.tuple #[objV o (.slice a o.refs.length c), .int .i64 0]) ∧ StrsC w' (.slice a o.refs.length c) o.refs ∧ (∀ k, (Value.slice a o.refs.length c).ownBlock = some k → w.heap.size ≤ k) ∧ Below w.heap.size w w'
  | none => e = .returned (.tuple #[objV Obj.none (.slice none 0 0), .int .i64 9]) ∧ Below w.heap.size w w'
set_option maxRecDepth 100000 in
set_option maxHeartbeats 4000000 in
theorem oDecode_any (s : ByteArray) (w : World) (hs : s.size ≤ 1000000) :
    Calls Tryz.prog 15 #[.string s] w (DecPost w (decO s)) := by
  obtain ⟨R, hR⟩ : ∃ R, R = DecPost w (decO s) := ⟨_, rfl⟩
  rw [← hR]
  have HR := Lib.hid hR; clear hR
  go_enter Tryz.func15, Tryz.ntmps15
  go_wp2_with fail
  refine (cNew_any s _).mono ?_
  rintro e w2 ⟨rfl, rfl⟩
  have hde : DecI w s 0 0 ((w.alloc (.cells #[.int .i64 0, .slice none 0 0, .string ⟨#[]⟩] 24)).alloc (.cells (rdV s 0 0) 117)) :=
    ⟨(At.new w _ _).alloc _, At.new1 w _ _ _, ((Below.refl _ _).alloc (Nat.le_refl _) _).alloc (by simp) _⟩
  have HDE := Lib.hid hde; clear hde
  go_wp2_with fail
  generalize (w.alloc (.cells #[.int .i64 0, .slice none 0 0, .string ⟨#[]⟩] 24)).alloc (.cells (rdV s 0 0) 117) = w2 at *
  refine (rdUint_any (w.heap.size + 1) s 0 _ HDE.out.rd (Nat.zero_le _) (by omega)).mono ?_
  intro e w3 hp
  cases h1 : Cod.rdN s 0 with
  | none =>
    rw [h1] at hp
    obtain ⟨rfl, hst⟩ := hp
    have HD3 := Lib.hid (HDE.out.step hst)
    have hdn : decO s = none := by unfold decO; rw [h1]
    have HDN := Lib.hid hdn; clear hst hdn h1
    go_wp2_with fail
    refine (rdTexts_off (w.heap.size + 1) s 0 9 (by decide) _ HD3.out.rd).mono ?_
    rintro e w4 ⟨rfl, hb4⟩
    have HD4 := Lib.hid (HD3.out.under hb4); clear hb4
    go_wp2_with fail
    refine (rdText_any_off (w.heap.size + 1) s 0 9 (by decide) _ HD4.out.rd).mono ?_
    rintro e w5 ⟨rfl, rfl⟩
    go_wp2_with fail
    have hda := HD4.out.under ((Below.refl w5.heap.size w5).alloc (Nat.le_refl _) (.cells #[.int .i64 0, .slice none 0 0, .string ⟨#[]⟩] 24))
    have HDA := Lib.hid hda; clear hda
    have hob : At (w5.alloc (.cells #[.int .i64 0, .slice none 0 0, .string ⟨#[]⟩] 24)) w5.heap.size 24 #[.int .i64 0, .slice none 0 0, .string ⟨#[]⟩] := At.new _ _ _
    have HOB := Lib.hid hob; clear hob
    generalize w5.alloc (.cells #[.int .i64 0, .slice none 0 0, .string ⟨#[]⟩] 24) = wA at *
    refine (rdEnd_any (w.heap.size + 1) s 0 9 _ HDA.out.rd).mono ?_
    rintro e w6 ⟨rfl, rfl⟩
    rw [show endErr s 0 9 = 9 from rfl]
    have y0 := HDA.out.at0.cell 0; have y1 := HDA.out.at0.cell 1; have y2 := HDA.out.at0.cell 2
    have z0 := HDA.out.at0.free 0; have z1 := HDA.out.at0.free 1; have z2 := HDA.out.at0.free 2
    simp only [List.getElem?_toArray, List.getElem?_cons_zero, List.getElem?_cons_succ] at y0 y1 y2
    go_wp2_with fail
    refine dec_done (p3 := .int .i64 9) rfl rfl (At.put3 HDA.out.at0.drew _ _ _) ?_
    rw [HR.out, HDN.out]
    exact ⟨rfl, below3 (b := w.heap.size) HDA.out.below.drew (Nat.le_refl _) _ _ _⟩
  | some y =>
    obtain ⟨k, a⟩ := y
    rw [h1] at hp
    obtain ⟨rfl, hst⟩ := hp
    have HD3 := Lib.hid (HDE.out.step hst)
    obtain ⟨g1, g2, _, g4⟩ := Cod.rdN_some h1
    have H1 := Lib.hid h1; clear hst h1
    go_wp2_with fail
    refine (rdTexts_any (w.heap.size + 1) s a _ HD3.out.rd g2 hs).mono ?_
    intro e w4 hp
    cases h2 : Cod.rdTexts s a with
    | none =>
      rw [h2] at hp
      obtain ⟨rfl, hst⟩ := hp
      have HD4 := Lib.hid (HD3.out.step hst)
      have hdn : decO s = none := by unfold decO; simp only [H1.out, h2]
      have HDN := Lib.hid hdn; clear hst hdn h2
      go_wp2_with fail
      refine (rdText_any_off (w.heap.size + 1) s a 9 (by decide) _ HD4.out.rd).mono ?_
      rintro e w5 ⟨rfl, rfl⟩
      go_wp2_with fail
      have hda := HD4.out.under ((Below.refl w5.heap.size w5).alloc (Nat.le_refl _) (.cells #[.int .i64 k, .slice none 0 0, .string ⟨#[]⟩] 24))
      have HDA := Lib.hid hda; clear hda
      have hob : At (w5.alloc (.cells #[.int .i64 k, .slice none 0 0, .string ⟨#[]⟩] 24)) w5.heap.size 24 #[.int .i64 k, .slice none 0 0, .string ⟨#[]⟩] := At.new _ _ _
      have HOB := Lib.hid hob; clear hob
      generalize w5.alloc (.cells #[.int .i64 k, .slice none 0 0, .string ⟨#[]⟩] 24) = wA at *
      refine (rdEnd_any (w.heap.size + 1) s a 9 _ HDA.out.rd).mono ?_
      rintro e w6 ⟨rfl, rfl⟩
      rw [show endErr s a 9 = 9 from rfl]
      have y0 := HDA.out.at0.cell 0; have y1 := HDA.out.at0.cell 1; have y2 := HDA.out.at0.cell 2
      have z0 := HDA.out.at0.free 0; have z1 := HDA.out.at0.free 1; have z2 := HDA.out.at0.free 2
      simp only [List.getElem?_toArray, List.getElem?_cons_zero, List.getElem?_cons_succ] at y0 y1 y2
      go_wp2_with fail
      refine dec_done (p3 := .int .i64 9) rfl rfl (At.put3 HDA.out.at0.drew _ _ _) ?_
      rw [HR.out, HDN.out]
      exact ⟨rfl, below3 (b := w.heap.size) HDA.out.below.drew (Nat.le_refl _) _ _ _⟩
    | some y =>
      obtain ⟨l, b⟩ := y
      rw [h2] at hp
      obtain ⟨c, d, rfl, hsl, hfr, hst⟩ := hp
      have HD4 := Lib.hid (HD3.out.step hst)
      have hsz3 := HD3.out.below.size
      have hrb3 := HD3.out.rd.lt
      have hfr2 : ∀ i, (Value.slice (some c) l.length d).ownBlock = some i → w.heap.size + 2 ≤ i := fun i hi => by have := hfr i hi; omega
      obtain ⟨q1, q2, _⟩ := Cod.rdTexts_some h2
      have H2 := Lib.hid h2; have HSL := Lib.hid hsl; have HFR := Lib.hid hfr2; clear hst h2 hsl hfr hfr2
      go_wp2_with fail
      refine (rdText_any (w.heap.size + 1) s b _ HD4.out.rd q2 (by omega)).mono ?_
      intro e w5 hp
      cases h3 : Cod.rdT s b with
      | none =>
        rw [h3] at hp
        obtain ⟨rfl, hst⟩ := hp
        have HD5 := Lib.hid (HD4.out.step hst)
        have hdn : decO s = none := by unfold decO; simp only [H1.out, H2.out, h3]
        have HDN := Lib.hid hdn; clear hst hdn h3
        go_wp2_with fail
        have hda := HD5.out.under ((Below.refl w5.heap.size w5).alloc (Nat.le_refl _) (.cells #[.int .i64 k, .slice (some c) l.length d, .string ⟨#[]⟩] 24))
        have HDA := Lib.hid hda; clear hda
        have hob : At (w5.alloc (.cells #[.int .i64 k, .slice (some c) l.length d, .string ⟨#[]⟩] 24)) w5.heap.size 24 #[.int .i64 k, .slice (some c) l.length d, .string ⟨#[]⟩] := At.new _ _ _
        have HOB := Lib.hid hob; clear hob
        generalize w5.alloc (.cells #[.int .i64 k, .slice (some c) l.length d, .string ⟨#[]⟩] 24) = wA at *
        refine (rdEnd_any (w.heap.size + 1) s b 9 _ HDA.out.rd).mono ?_
        rintro e w6 ⟨rfl, rfl⟩
        rw [show endErr s b 9 = 9 from rfl]
        have y0 := HDA.out.at0.cell 0; have y1 := HDA.out.at0.cell 1; have y2 := HDA.out.at0.cell 2
        have z0 := HDA.out.at0.free 0; have z1 := HDA.out.at0.free 1; have z2 := HDA.out.at0.free 2
        simp only [List.getElem?_toArray, List.getElem?_cons_zero, List.getElem?_cons_succ] at y0 y1 y2
        go_wp2_with fail
        refine dec_done (p3 := .int .i64 9) rfl rfl (At.put3 HDA.out.at0.drew _ _ _) ?_
        rw [HR.out, HDN.out]
        exact ⟨rfl, below3 (b := w.heap.size) HDA.out.below.drew (Nat.le_refl _) _ _ _⟩
      | some y =>
        obtain ⟨x, m⟩ := y
        rw [h3] at hp
        obtain ⟨rfl, hst⟩ := hp
        have HD5 := Lib.hid (HD4.out.step hst)
        have hsl5 : StrsC w5 (.slice (some c) l.length d) l := HSL.out.keep (fun i hi hl => hst.fr.keep i hl (by have := HFR.out i hi; omega))
        obtain ⟨t1, t2, _⟩ := Cod.rdT_some h3
        have hde2 : decO s = if m = s.size ∧ okO ⟨k, l, x⟩ = true then some ⟨k, l, x⟩ else none := by unfold decO; simp only [H1.out, H2.out, h3]
        have HDE2 := Lib.hid hde2; have HS5 := Lib.hid hsl5; have HRE := Lib.hid (reach_read (k := k) H2.out h3 hs); clear hst h3 hde2 hsl5
        by_cases hm : m < s.size
        · have hdn : decO s = none := by rw [HDE2.out, if_neg (by omega)]
          have HDN := Lib.hid hdn; clear hdn
          go_wp2_with fail
          have hda := HD5.out.under ((Below.refl w5.heap.size w5).alloc (Nat.le_refl _) (.cells #[.int .i64 k, .slice (some c) l.length d, .string x] 24))
          have HDA := Lib.hid hda; clear hda
          have hob : At (w5.alloc (.cells #[.int .i64 k, .slice (some c) l.length d, .string x] 24)) w5.heap.size 24 #[.int .i64 k, .slice (some c) l.length d, .string x] := At.new _ _ _
          have HOB := Lib.hid hob; clear hob
          generalize w5.alloc (.cells #[.int .i64 k, .slice (some c) l.length d, .string x] 24) = wA at *
          refine (rdEnd_any (w.heap.size + 1) s m 0 _ HDA.out.rd).mono ?_
          rintro e w6 ⟨rfl, rfl⟩
          rw [show endErr s m 0 = 9 from by unfold endErr; rw [if_pos ⟨rfl, hm⟩]]
          have y0 := HDA.out.at0.cell 0; have y1 := HDA.out.at0.cell 1; have y2 := HDA.out.at0.cell 2
          have z0 := HDA.out.at0.free 0; have z1 := HDA.out.at0.free 1; have z2 := HDA.out.at0.free 2
          simp only [List.getElem?_toArray, List.getElem?_cons_zero, List.getElem?_cons_succ] at y0 y1 y2
          go_wp2_with fail
          refine dec_done (p3 := .int .i64 9) rfl rfl (At.put3 HDA.out.at0.drew _ _ _) ?_
          rw [HR.out, HDN.out]
          exact ⟨rfl, below3 (b := w.heap.size) HDA.out.below.drew (Nat.le_refl _) _ _ _⟩
        · have hsa := HS5.out.below ((Below.refl w5.heap.size w5).alloc (Nat.le_refl _) (.cells #[.int .i64 k, .slice (some c) l.length d, .string x] 24))
          have HSA := Lib.hid hsa; clear hsa
          go_wp2_with fail
          have hda := HD5.out.under ((Below.refl w5.heap.size w5).alloc (Nat.le_refl _) (.cells #[.int .i64 k, .slice (some c) l.length d, .string x] 24))
          have HDA := Lib.hid hda; clear hda
          have hob : At (w5.alloc (.cells #[.int .i64 k, .slice (some c) l.length d, .string x] 24)) w5.heap.size 24 #[.int .i64 k, .slice (some c) l.length d, .string x] := At.new _ _ _
          have HOB := Lib.hid hob; clear hob
          generalize w5.alloc (.cells #[.int .i64 k, .slice (some c) l.length d, .string x] 24) = wA at *
          refine (rdEnd_any (w.heap.size + 1) s m 0 _ HDA.out.rd).mono ?_
          rintro e w6 ⟨rfl, rfl⟩
          rw [show endErr s m 0 = 0 from by unfold endErr; rw [if_neg (fun h => hm h.2)]]
          have m0 := HOB.out.cell 0; have m1 := HOB.out.cell 1; have m2 := HOB.out.cell 2
          have y0 := HDA.out.at0.cell 0; have y1 := HDA.out.at0.cell 1; have y2 := HDA.out.at0.cell 2
          have z0 := HDA.out.at0.free 0; have z1 := HDA.out.at0.free 1; have z2 := HDA.out.at0.free 2
          simp only [List.getElem?_toArray, List.getElem?_cons_zero, List.getElem?_cons_succ] at m0 m1 m2 y0 y1 y2
          go_wp2_with fail
          refine (oValid_any ⟨k, l, x⟩ (.slice (some c) l.length d) _ (HSA.out.drewN 1) HRE.out).mono ?_
          rintro e7 w7 ⟨rfl, hb7⟩
          clear y0 y1 y2 z0 z1 z2 m0 m1 m2
          have hb7' : Below wA.heap.size wA w7 := (Below.refl wA.heap.size wA).drew.trans hb7
          have HD7 := Lib.hid (HDA.out.under hb7')
          have HO7 := Lib.hid (HOB.out.below hb7' HOB.out.lt)
          have HS7 := Lib.hid (HSA.out.below hb7'); clear hb7 hb7'
          have m0 := HO7.out.cell 0; have m1 := HO7.out.cell 1; have m2 := HO7.out.cell 2
          have y0 := HD7.out.at0.cell 0; have y1 := HD7.out.at0.cell 1; have y2 := HD7.out.at0.cell 2
          have z0 := HD7.out.at0.free 0; have z1 := HD7.out.at0.free 1; have z2 := HD7.out.at0.free 2
          simp only [List.getElem?_toArray, List.getElem?_cons_zero, List.getElem?_cons_succ] at m0 m1 m2 y0 y1 y2
          cases hok : okO ⟨k, l, x⟩ with
          | false =>
            have hdn : decO s = none := by rw [HDE2.out, if_neg (fun h => by rw [hok] at h; cases h.2)]
            have HDN := Lib.hid hdn; clear hdn hok
            go_wp2_with fail
            refine dec_done (p3 := .int .i64 9) rfl rfl (At.put3 HD7.out.at0 _ _ _) ?_
            rw [HR.out, HDN.out]
            exact ⟨rfl, below3 (b := w.heap.size) HD7.out.below (Nat.le_refl _) _ _ _⟩
          | true =>
            have hdn : decO s = some ⟨k, l, x⟩ := by rw [HDE2.out, if_pos ⟨by omega, hok⟩]
            have HDN := Lib.hid hdn; clear hdn hok
            go_wp2_with fail
            refine dec_done (p3 := .int .i64 0) rfl rfl (At.put3 HD7.out.at0 _ _ _) ?_
            rw [HR.out, HDN.out]
            exact ⟨some c, d, rfl, HS7.out.keep (fun i hi _ => put3_far (by have := HFR.out i hi; omega) _ _ _), fun i hi => by have := HFR.out i hi; omega, below3 (b := w.heap.size) HD7.out.below (Nat.le_refl _) _ _ _⟩
end Go.Proofs.YtjlpdknomdhbhaaGreatDoor
