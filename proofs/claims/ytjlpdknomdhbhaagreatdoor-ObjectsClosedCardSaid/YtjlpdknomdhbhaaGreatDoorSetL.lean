/- A set of the program as a state; NewSet, copied, Put. Conditions: the sizes are in reach. Sets of the program: Put, Get, Drop. Conditions: the sizes are in reach. Sets of the program: Get, Drop. Condition: a key is in reach. Sets of the program: Clone. Condition: the set is in reach. -/
import Derived.Test.YtjlpdknomdhbhaaGreatDoorSetP
import Derived.Test.YtjlpdknomdhbhaaGreatDoorSmap
import Derived.Test.YtjlpdknomdhbhaaGreatDoorObjL
import Derived.Test.YtjlpdknomdhbhaaGreatDoorNamL
import Derived.Carry
namespace Go.Proofs.YtjlpdknomdhbhaaGreatDoor
set_option linter.unusedVariables false
set_option linter.unusedSimpArgs false
open Go Go.RowKit Go.Maps
/-- slices.Clone of strings. -/
theorem cloneStrs_any (v : Value) (xs : List ByteArray) (w : World) (h : StrsC w v xs) (hl : xs.length ≤ 4000000) :
    Calls Tryz.prog 36 #[v] w fun e w' => ∃ v', e = .returned v' ∧ StrsC w' v' xs ∧ (∀ k, v'.ownBlock = some k → w.heap.size ≤ k) ∧ w'.ownsRow w.heap.size 9 1 v' xs.length (xs.map Value.string) ∧ Below w.heap.size w w' := by
  obtain ⟨a, c, rfl, hc⟩ := h
  cases a with
  | none =>
    have h0 : xs.length = 0 := by
      rcases hc with h0 | ⟨b, o, e, _⟩
      · exact h0
      · cases e
    have hx : xs = [] := List.eq_nil_of_length_eq_zero h0
    subst hx
    refine (Tryz.slices_Clone_string_nil 0 c w).mono ?_
    rintro e w' ⟨rfl, rfl⟩
    exact ⟨_, rfl, ⟨none, 0, rfl, .inl rfl⟩, (fun k hk => by cases hk), ⟨rfl, .inl ⟨rfl, rfl⟩⟩, Below.refl _ _⟩
  | some p =>
    by_cases h0 : xs.length = 0
    · have hx : xs = [] := List.eq_nil_of_length_eq_zero h0
      subst hx
      refine (Tryz.slices_Clone_string_zero p c w).mono ?_
      rintro e w' ⟨v', rfl, hown, _, hb⟩
      exact ⟨v', rfl, StrsC.own (xs := []) hown, own_up hown, hown, hb⟩
    · obtain ⟨b, o, e, hcell⟩ := hc.resolve_left h0
      cases e
      refine (Tryz.slices_Clone_string b o xs.length c xs w (Nat.le_refl _) (by omega) hcell).mono ?_
      rintro e w' ⟨v', rfl, hown, _, hb⟩
      rw [List.take_length] at hown
      exact ⟨v', rfl, StrsC.own hown, own_up hown, hown, hb⟩
theorem copied_done {tmps : Array Value} {w : World} {b : Nat} {v0 v1 v2 : Value} {Q : Ending → World → Prop} (hp : tmps.getD 2 undef = .pointer (some ⟨b, 0, none⟩)) (hat : At w b 24 #[v0, v1, v2])
    (hq : Q (.returned (.agg #[v0, v1, v2])) w) : bodyPost Tryz.prog Tryz.f67 Q Exit.ret { tmps := tmps, defers := [] } w := by
  refine bodyPost_ret (v := .agg #[v0, v1, v2]) ?_ rfl hq
  have hl := run_loadVar_row w b 24 24 _ (0, 0) _ hat Tryz.underlying24 rfl info_Object
  unfold results
  have hr : Tryz.f67.results = #[.cell 2 24] := rfl
  have hp' : tmps[2]?.getD undef = .pointer (some ⟨b, 0, none⟩) := by simpa using hp
  simp [hr, hp', asAddr, hl, Result.andThen]
set_option maxRecDepth 100000 in
set_option maxHeartbeats 2000000 in
theorem copied_any (o : Obj) (v : Value) (w : World) (h : StrsC w v o.refs) (hl : o.refs.length ≤ 4000000) :
    Calls Tryz.prog 67 #[objV o v] w fun e w' => ∃ v', e = .returned (objV o v') ∧ StrsC w' v' o.refs ∧ (∀ k, v'.ownBlock = some k → w.heap.size ≤ k ∧ k < w'.heap.size) ∧ Below w.heap.size w w' := by
  obtain ⟨va, vc, rfl⟩ := h.len
  have H := Lib.hid h; clear h
  unfold objV
  go_enter Tryz.func67, Tryz.ntmps67
  have hb1 : Below w.heap.size w (w.alloc (.cells #[.int .i64 o.kind, .slice va o.refs.length vc, .string o.data] 24)) := (Below.refl _ _).alloc (Nat.le_refl _) _
  have hb2 : Below w.heap.size w ((w.alloc (.cells #[.int .i64 o.kind, .slice va o.refs.length vc, .string o.data] 24)).alloc (.cells #[.int .i64 0, .slice none 0 0, .string ⟨#[]⟩] 24)) := hb1.alloc (by simp) _
  have ha : At ((w.alloc (.cells #[.int .i64 o.kind, .slice va o.refs.length vc, .string o.data] 24)).alloc (.cells #[.int .i64 0, .slice none 0 0, .string ⟨#[]⟩] 24)) w.heap.size 24 #[.int .i64 o.kind, .slice va o.refs.length vc, .string o.data] := (At.new w _ _).alloc _
  have ha2 : At ((w.alloc (.cells #[.int .i64 o.kind, .slice va o.refs.length vc, .string o.data] 24)).alloc (.cells #[.int .i64 0, .slice none 0 0, .string ⟨#[]⟩] 24)) (w.heap.size + 1) 24 #[.int .i64 0, .slice none 0 0, .string ⟨#[]⟩] := At.new1 _ _ _ _
  have HB2 := Lib.hid hb2; have HA := Lib.hid ha; have HA2 := Lib.hid ha2; clear hb1 hb2 ha ha2
  have c0 := HA.out.cell 0; have c1 := HA.out.cell 1; have c2 := HA.out.cell 2
  simp only [List.getElem?_toArray, List.getElem?_cons_zero, List.getElem?_cons_succ] at c0 c1 c2
  go_wp2_with fail
  refine (cloneStrs_any (.slice va o.refs.length vc) o.refs _ (H.out.below HB2.out) hl).mono ?_
  rintro e w3 ⟨v', rfl, hs3, hu3, ho3, hb3⟩
  obtain ⟨na, nm, nc, rfl⟩ := own_slice ho3
  replace hu3 : ∀ k, (Value.slice na nm nc).ownBlock = some k → w.heap.size + 2 ≤ k ∧ k < w3.heap.size := fun k hk => ⟨by have := hu3 k hk; simp only [World.size_alloc] at this; omega, by obtain ⟨cur, hc⟩ := own_at ho3 hk; exact hc.lt⟩
  have HA3 := Lib.hid (HA.out.below hb3 HA.out.lt); have HA23 := Lib.hid (HA2.out.below hb3 HA2.out.lt); have HB3 := Lib.hid (HB2.out.trans (hb3.mono HB2.out.size))
  have HS3 := Lib.hid hs3; have HU3 := Lib.hid hu3; clear hs3 hu3 ho3 hb3 c0 c1 c2
  have c0 := HA3.out.cell 0; have c1 := HA3.out.cell 1; have c2 := HA3.out.cell 2; have z1 := HA3.out.free 1
  have y0 := HA23.out.cell 0; have y1 := HA23.out.cell 1; have y2 := HA23.out.cell 2
  have x0 := HA23.out.free 0; have x1 := HA23.out.free 1; have x2 := HA23.out.free 2
  simp only [List.getElem?_toArray, List.getElem?_cons_zero, List.getElem?_cons_succ] at c0 c1 c2 y0 y1 y2
  go_wp2_with fail
  refine copied_done rfl (At.put3 (HA23.out.far (p := ⟨w.heap.size, 1, none⟩) (by show w.heap.size + 1 ≠ w.heap.size; omega) _) _ _ _) ?_
  refine ⟨.slice na nm nc, rfl, HS3.out.keep (fun k hk _ => ?_), fun k hk => ⟨by have := HU3.out k hk; omega, by have := (HU3.out k hk).2; simpa [put3, World.setCell] using this⟩, below3 (b := w.heap.size + 1) (HB3.out.setCell (p := ⟨w.heap.size, 1, none⟩) (Nat.le_refl _) _) (by omega) _ _ _⟩
  have hk2 := HU3.out k hk
  exact (put3_far (by omega) _ _ _).trans (heap_setCell_other _ _ _ _ (by show k ≠ w.heap.size; omega))
theorem zeroO (w : World) : (zeroValue 24).run Tryz.prog w = .ok (.agg #[.int .i64 0, .slice none 0 0, .string ⟨#[]⟩]) w := by kernel_rfl
/-- The set lies at a, its map at mp; F: the blocks of its objects' slices. -/
structure SetAt (w : World) (a mp n : Nat) (F : Nat → Prop) (S : Store) : Prop where
  self : At w a 96 #[.map (some mp)]
  map_ : ∃ f, Smap w mp n f ∧ ∀ k, match S.get k with
    | none => f k = none
    | some o => ∃ sv, f k = some (objV o sv) ∧ StrsC w sv o.refs ∧ (∀ i, sv.ownBlock = some i → F i ∧ i < w.heap.size)
  good : ∀ k o, S.get k = some o → okO o = true
  many : S.length ≤ n
  apart : ∀ i, F i → i ≠ a ∧ i ≠ mp
def SFoot (a mp : Nat) (F : Nat → Prop) (k : Nat) : Prop := k = a ∨ k = mp ∨ F k
section
variable {w w' : World} {a mp n : Nat} {F G : Nat → Prop} {S : Store}
theorem SetAt.lt_a (h : SetAt w a mp n F S) : a < w.heap.size := h.self.lt
theorem SetAt.lt_mp (h : SetAt w a mp n F S) : mp < w.heap.size := by obtain ⟨f, h1, _⟩ := h.map_; exact h1.lt
theorem SetAt.ne (h : SetAt w a mp n F S) : a ≠ mp := by obtain ⟨f, h1, _⟩ := h.map_; exact h1.ne_at h.self
theorem SetAt.keep (h : SetAt w a mp n F S) (hs : w.heap.size ≤ w'.heap.size) (hk : ∀ k, k < w.heap.size → SFoot a mp F k → w'.heap[k]? = w.heap[k]?) : SetAt w' a mp n F S := by
  obtain ⟨f, h1, h2⟩ := h.map_
  refine ⟨h.self.keep (hk a h.lt_a (.inl rfl)), ⟨f, h1.keep (hk mp h.lt_mp (.inr (.inl rfl))), fun k => ?_⟩, h.good, h.many, h.apart⟩
  have := h2 k
  cases hg : S.get k with
  | none => rw [hg] at this; exact this
  | some o =>
    rw [hg] at this
    obtain ⟨sv, e1, e2, e3⟩ := this
    exact ⟨sv, e1, e2.keep (fun i hi hl => hk i hl (.inr (.inr (e3 i hi).1))), fun i hi => ⟨(e3 i hi).1, Nat.lt_of_lt_of_le (e3 i hi).2 hs⟩⟩
theorem SetAt.below (h : SetAt w a mp n F S) (hb : Below w.heap.size w w') : SetAt w' a mp n F S := h.keep hb.size fun k hl _ => hb.block k hl
theorem SetAt.mono (h : SetAt w a mp n F S) (hF : ∀ k, F k → G k) (hG : ∀ i, G i → i ≠ a ∧ i ≠ mp) : SetAt w a mp n G S := by
  obtain ⟨f, h1, h2⟩ := h.map_
  refine ⟨h.self, ⟨f, h1, fun k => ?_⟩, h.good, h.many, hG⟩
  have := h2 k
  cases hg : S.get k with
  | none => rw [hg] at this; exact this
  | some o =>
    rw [hg] at this
    obtain ⟨sv, e1, e2, e3⟩ := this
    exact ⟨sv, e1, e2, fun i hi => ⟨hF i (e3 i hi).1, (e3 i hi).2⟩⟩
/-- An object is put into the map. -/
theorem SetAt.put {w1 : World} {f : ByteArray → Option Value} {k : ByteArray} {o : Obj} {sv : Value} (h : SetAt w a mp n F S) (hg : w.grownBy w1 (some mp)) (hf : Smap w mp n f) (hff : ∀ k, match S.get k with
    | none => f k = none
    | some o => ∃ sv, f k = some (objV o sv) ∧ StrsC w sv o.refs ∧ (∀ i, sv.ownBlock = some i → F i ∧ i < w.heap.size)) (hm : Smap w1 mp (n + 1) (fput f k (objV o sv))) (ho : okO o = true) (hs : StrsC w sv o.refs) (hsv : ∀ i, sv.ownBlock = some i → F i ∧ i < w.heap.size) :
    SetAt w1 a mp (n + 1) F (S.put k o) := by
  have hk : ∀ {v : Value} {l : List ByteArray}, StrsC w v l → (∀ i, v.ownBlock = some i → F i ∧ i < w.heap.size) → StrsC w1 v l := fun hv hw => hv.keep (fun i hi hl => hg.block i hl (fun e => (h.apart i (hw i hi).1).2 (by simpa using e)))
  refine ⟨h.self.grown hg (fun e => h.ne (by simpa using e)), ⟨_, hm, fun j => ?_⟩, fun j o' hj => ?_, by have := Store.put_len S k o; have := h.many; omega, h.apart⟩
  · rw [Store.get_put]
    unfold fput
    by_cases e : k = j
    · rw [if_pos e, if_pos e]
      exact ⟨sv, rfl, hk hs hsv, fun i hi => ⟨(hsv i hi).1, Nat.lt_of_lt_of_le (hsv i hi).2 hg.size⟩⟩
    · rw [if_neg e, if_neg e]
      have := hff j
      cases hgj : S.get j with
      | none => rw [hgj] at this; exact this
      | some o' =>
        rw [hgj] at this
        obtain ⟨s', e1, e2, e3⟩ := this
        exact ⟨s', e1, hk e2 e3, fun i hi => ⟨(e3 i hi).1, Nat.lt_of_lt_of_le (e3 i hi).2 hg.size⟩⟩
  · rw [Store.get_put] at hj
    by_cases e : k = j
    · rw [if_pos e] at hj
      cases hj
      exact ho
    · rw [if_neg e] at hj
      exact h.good j o' hj
end
set_option maxRecDepth 100000 in
theorem newSet_any (w : World) : Calls Tryz.prog 30 #[] w fun e w' => ∃ a mp, e = .returned (.pointer (some ⟨a, 0, none⟩)) ∧ SetAt w' a mp 0 (fun _ => False) [] ∧ w.heap.size ≤ a ∧ w.heap.size ≤ mp ∧ Below w.heap.size w w' := by
  have hmm := @run_makeMap Tryz.prog
  go_enter Tryz.func30, Tryz.ntmps30
  go_wp2_with fail
  go_ret
  have hb : Below w.heap.size w ((w.alloc (.map #[] 0)).alloc (.cells #[.map (some w.heap.size)] 96)) := ((Below.refl _ _).alloc (Nat.le_refl _) _).alloc (by simp) _
  refine ⟨w.heap.size + 1, w.heap.size, rfl, ⟨At.new1 _ _ _ _, ⟨_, (Smap.made w).below ((Below.refl _ _).alloc (Nat.le_refl _) _) (by simp), fun k => rfl⟩, (fun k o h => by cases h), Nat.le_refl _, fun i hi => hi.elim⟩, by omega, Nat.le_refl _, hb⟩
end Go.Proofs.YtjlpdknomdhbhaaGreatDoor
namespace Go.Proofs.YtjlpdknomdhbhaaGreatDoor
set_option linter.unusedVariables false
set_option linter.unusedSimpArgs false
open Go Go.RowKit Go.Maps
def digO (o : Obj) : ByteArray := Sha.sha (⟨#[7]⟩ ++ encO o)
theorem digO_size (o : Obj) : (digO o).size = 32 := Sha.sha_size _
/-- The set behind Put. -/
def putS (S : Store) (o : Obj) : Store := if okO o = true then S.put (digO o) o else S
theorem digR_ok {o : Obj} (h : okO o = true) : digR o = .tuple #[.string (digO o), .int .i64 0] := by unfold digR; rw [if_pos h]; rfl
theorem digR_bad {o : Obj} (h : okO o = false) : digR o = .tuple #[.string ⟨#[]⟩, .int .i64 1] := by unfold digR; rw [if_neg (by rw [h]; decide)]
set_option maxRecDepth 100000 in
set_option maxHeartbeats 2000000 in
theorem put_any (a mp n : Nat) (F : Nat → Prop) (S : Store) (o : Obj) (v : Value) (w : World) (hset : SetAt w a mp n F S) (h : StrsC w v o.refs) (hr : Reach o) (hn : n ≤ 1000000) :
    Calls Tryz.prog 31 #[.pointer (some ⟨a, 0, none⟩), objV o v] w fun e w' => e = .returned (digR o) ∧ ∃ F', SetAt w' a mp (n + 1) F' (putS S o) ∧ (∀ i, F i → F' i) ∧ (∀ i, F' i → F i ∨ (w.heap.size ≤ i ∧ i < w'.heap.size)) ∧ Fr (fun k => k = mp) w w' := by
  obtain ⟨va, vc, rfl⟩ := h.len
  have H := Lib.hid h; have HS := Lib.hid hset; have HRE := Lib.hid hr; clear h hset hr
  unfold objV
  go_enter Tryz.func31, Tryz.ntmps31
  have hb1 : Below w.heap.size w (w.alloc (.cells #[.int .i64 o.kind, .slice va o.refs.length vc, .string o.data] 24)) := (Below.refl _ _).alloc (Nat.le_refl _) _
  have ha : At (w.alloc (.cells #[.int .i64 o.kind, .slice va o.refs.length vc, .string o.data] 24)) w.heap.size 24 #[.int .i64 o.kind, .slice va o.refs.length vc, .string o.data] := At.new w _ _
  have HB1 := Lib.hid hb1; have HA := Lib.hid ha; clear hb1 ha
  have c0 := HA.out.cell 0; have c1 := HA.out.cell 1; have c2 := HA.out.cell 2
  simp only [List.getElem?_toArray, List.getElem?_cons_zero, List.getElem?_cons_succ] at c0 c1 c2
  go_wp2_with fail
  refine (oDigest_any o (.slice va o.refs.length vc) _ (H.out.below HB1.out) HRE.out).mono ?_
  rintro e w1 ⟨rfl, hb⟩
  have HB2 := Lib.hid (HB1.out.trans (hb.mono HB1.out.size)); have HA2 := Lib.hid (HA.out.below hb HA.out.lt); clear hb c0 c1 c2
  have c0 := HA2.out.cell 0; have c1 := HA2.out.cell 1; have c2 := HA2.out.cell 2
  simp only [List.getElem?_toArray, List.getElem?_cons_zero, List.getElem?_cons_succ] at c0 c1 c2
  have HS1 := Lib.hid (HS.out.below HB2.out)
  cases hok : okO o with
  | false =>
    have hdg := digR_bad hok
    rw [hdg]
    have HDG := Lib.hid hdg; clear hdg
    have hp : putS S o = S := by unfold putS; rw [if_neg (by rw [hok]; decide)]
    have HP := Lib.hid hp; clear hp hok
    go_wp2_with fail
    go_ret2
    refine ⟨by rw [HDG.out]; rfl, F, ?_, fun i hi => hi, fun i hi => .inl hi, Fr.of_below HB2.out⟩
    rw [HP.out]
    obtain ⟨f, h1, h2⟩ := HS1.out.map_
    exact ⟨HS1.out.self, ⟨f, h1.mono (Nat.le_succ _), h2⟩, HS1.out.good, Nat.le_succ_of_le HS1.out.many, HS1.out.apart⟩
  | true =>
    have hdg := digR_ok hok
    rw [hdg]
    have hp : putS S o = S.put (digO o) o := by unfold putS; rw [if_pos hok]
    have hds := digO_size o
    have hrl := (okO_parts hok).2.2.1
    obtain ⟨d, hd⟩ : ∃ d, d = digO o := ⟨_, rfl⟩
    rw [← hd] at hp hds hdg ⊢
    have HDG := Lib.hid hdg; clear hdg
    have HP := Lib.hid hp; have HOK := Lib.hid hok; clear hp hok hd
    have s0 := HS1.out.self.cell 0
    simp only [List.getElem?_toArray, List.getElem?_cons_zero, List.getElem?_cons_succ] at s0
    have hrl2 : o.refs.length ≤ 4000000 := by omega
    go_wp2_with fail
    refine Lex.wp_region_lexN (fun i => i = a) [3] 7 [7] (by kernel_rfl) (by kernel_rfl) (by kernel_rfl) ?_
    simp only [Lex.wpCuts, List.take_succ_cons, List.take_zero, List.drop_succ_cons, List.drop_zero]
    go_wp2_with fail
    refine (copied_any o (.slice va o.refs.length vc) _ (H.out.below HB2.out.drew) hrl2).mono ?_
    rintro e w3 ⟨sv, rfl, hs3, hu3, hb3⟩
    replace hb3 : Below w1.heap.size w1 w3 := (Below.refl w1.heap.size w1).drew.trans hb3
    replace hu3 : ∀ i, sv.ownBlock = some i → w1.heap.size ≤ i ∧ i < w3.heap.size := hu3
    have HB3 := Lib.hid hb3; have HS3 := Lib.hid (HS1.out.below hb3); have HSV := Lib.hid hs3; have HU3 := Lib.hid hu3; clear hb3 hs3 hu3 c0 c1 c2
    unfold objV
    go_wp2_with fail
    refine Lex.Mid.intro (fun i hi hl => by subst hi; exact HB3.out.block _ hl) ?_
    obtain ⟨f, hf, hff⟩ := HS3.out.map_
    have HF := Lib.hid hf; have HFF := Lib.hid hff; clear hf hff
    go_wp2_with (at_mapUpdate; go_must (refine wp_upd rfl _ _ _ 94 24 rfl Tryz.underlying94 HF.out (by unfold maxLen; omega) rfl d (objV o sv) rfl rfl (by unfold maxLen; omega) ?_); intro w4 hm4 hg4)
    have hF' : ∀ i, (F i ∨ (w.heap.size ≤ i ∧ i < w3.heap.size)) → i ≠ a ∧ i ≠ mp := by
      intro i hi
      rcases hi with hi | hi
      · exact HS.out.apart i hi
      · have := HS.out.lt_a; have := HS.out.lt_mp; omega
    have hfin := (HS3.out.mono (G := fun i => F i ∨ (w.heap.size ≤ i ∧ i < w3.heap.size)) (fun i hi => .inl hi) hF').put (o := o) (sv := sv) (k := d) hg4 HF.out (fun k => by
      have := HFF.out k
      cases hgk : S.get k with
      | none => rw [hgk] at this; exact this
      | some o' =>
        rw [hgk] at this
        obtain ⟨sv', e1, e2, e3⟩ := this
        exact ⟨sv', e1, e2, fun i hi => ⟨.inl (e3 i hi).1, (e3 i hi).2⟩⟩) hm4 HOK.out HSV.out (fun i hi => by
      have h1 := HU3.out i hi
      have h2 := HB2.out.size
      exact ⟨.inr ⟨by omega, h1.2⟩, h1.2⟩)
    have HFIN := Lib.hid hfin; clear hfin
    have hfr : Fr (fun k => k = mp) w w4 := (Fr.of_below (HB2.out.trans (HB3.out.mono HB2.out.size)) : Fr (fun k => k = mp) w w3).grown hg4 (fun k hk => Or.inl (show k = mp from (Option.some.inj hk).symm))
    have hsz4 := hg4.size
    have HFR := Lib.hid hfr; clear hfr hm4 hg4
    go_wp2_with fail
    refine Lex.EndsN.intro (by kernel_rfl) ⟨⟨rfl, by show (World.cell? _ ⟨a, 0, none⟩).isSome = true; rw [HS1.out.self.drew.cell 0]; rfl⟩, trivial⟩ ?_
    go_wp2_with fail
    go_ret2
    refine ⟨by rw [HDG.out]; rfl, _, by rw [HP.out]; exact HFIN.out, fun i hi => Or.inl hi, fun i hi => ?_, HFR.out⟩
    rcases hi with hi | hi
    · exact .inl hi
    · exact .inr ⟨hi.1, by omega⟩
end Go.Proofs.YtjlpdknomdhbhaaGreatDoor
namespace Go.Proofs.YtjlpdknomdhbhaaGreatDoor
set_option linter.unusedVariables false
set_option linter.unusedSimpArgs false
open Go Go.RowKit Go.Maps
theorem get_done {tmps : Array Value} {w : World} {b : Nat} {v0 v1 v2 p3 : Value} {Q : Ending → World → Prop} (hp : tmps.getD 4 undef = .pointer (some ⟨b, 0, none⟩)) (h3 : tmps.getD 5 undef = p3) (hat : At w b 24 #[v0, v1, v2])
    (hq : Q (.returned (.tuple #[.agg #[v0, v1, v2], p3])) w) : bodyPost Tryz.prog Tryz.f37 Q Exit.ret { tmps := tmps, defers := [] } w := by
  refine bodyPost_ret (v := .tuple #[.agg #[v0, v1, v2], p3]) ?_ rfl hq
  rw [results_cell_tmp (p := 4) (u := 5) (ty := 24) rfl, hp, h3]
  simp [asAddr, run_loadVar_row w b 24 24 _ (0, 0) _ hat Tryz.underlying24 rfl info_Object]
/-- What Get returns. -/
def GetPost (w : World) (r : Option Obj) (e : Ending) (w' : World) : Prop := match r with
  | some o => ∃ sv, e = .returned (.tuple #[objV o sv, .int .i64 0]) ∧ StrsC w' sv o.refs ∧ (∀ k, sv.ownBlock = some k → w.heap.size ≤ k ∧ k < w'.heap.size) ∧ Below w.heap.size w w'
  | none => e = .returned (.tuple #[objV Obj.none (.slice none 0 0), .int .i64 6]) ∧ Below w.heap.size w w'
set_option maxRecDepth 100000 in
set_option maxHeartbeats 2000000 in
theorem get_any (a mp n : Nat) (F : Nat → Prop) (S : Store) (k : ByteArray) (w : World) (hset : SetAt w a mp n F S) (hk : k.size ≤ maxLen) :
    Calls Tryz.prog 37 #[.pointer (some ⟨a, 0, none⟩), .string k] w (GetPost w (S.get k)) := by
  obtain ⟨R, hR⟩ : ∃ R, R = GetPost w (S.get k) := ⟨_, rfl⟩
  rw [← hR]
  have HS := Lib.hid hset; have HR := Lib.hid hR; have HK := Lib.hid hk; clear hset hR hk
  go_enter Tryz.func37, Tryz.ntmps37
  have hb1 : Below w.heap.size w (w.alloc (.cells #[.int .i64 0, .slice none 0 0, .string ⟨#[]⟩] 24)) := (Below.refl _ _).alloc (Nat.le_refl _) _
  have ha : At (w.alloc (.cells #[.int .i64 0, .slice none 0 0, .string ⟨#[]⟩] 24)) w.heap.size 24 #[.int .i64 0, .slice none 0 0, .string ⟨#[]⟩] := At.new w _ _
  have hs1 := HS.out.below hb1
  have s0 := hs1.self.cell 0
  simp only [List.getElem?_toArray, List.getElem?_cons_zero, List.getElem?_cons_succ] at s0
  obtain ⟨f, hf, hff⟩ := hs1.map_
  have hfk := hff k
  have HB1 := Lib.hid hb1; have HA := Lib.hid ha; have HF := Lib.hid hf; clear hb1 ha hs1 hf hff
  cases hg : S.get k with
  | none =>
    rw [hg] at hfk
    have hr := HR.out
    rw [hg] at hr
    have HRR := Lib.hid hr; have HFK := Lib.hid hfk; clear hfk hg hr
    have ha2 := HA.out.alloc (.cells #[.int .i64 0, .slice none 0 0, .string ⟨#[]⟩] 24)
    have hb2 := HB1.out.alloc (o := .cells #[.int .i64 0, .slice none 0 0, .string ⟨#[]⟩] 24) HB1.out.size
    have HA2 := Lib.hid ha2; have HB2 := Lib.hid hb2; clear ha2 hb2
    have z0 := HA2.out.free 0; have z1 := HA2.out.free 1; have z2 := HA2.out.free 2
    have y0 := HA2.out.cell 0; have y1 := HA2.out.cell 1; have y2 := HA2.out.cell 2
    simp only [List.getElem?_toArray, List.getElem?_cons_zero, List.getElem?_cons_succ] at y0 y1 y2
    go_wp2_with (at_lookup; go_must (refine wp_look_ok rfl _ _ 94 24 rfl Tryz.underlying94 (.agg #[.int .i64 0, .slice none 0 0, .string ⟨#[]⟩]) (zeroO _) HF.out rfl k rfl HK.out ?_); rw [HFK.out, Option.getD_none, Option.isSome_none])
    refine get_done (p3 := .int .i64 6) rfl rfl HA2.out ?_
    rw [HRR.out]
    exact ⟨rfl, HB2.out⟩
  | some o =>
    rw [hg] at hfk
    obtain ⟨sv, hfk, hsv, hown⟩ := hfk
    obtain ⟨va, vc, rfl⟩ := hsv.len
    have hr := HR.out
    rw [hg] at hr
    have hrl := (okO_parts (HS.out.good k o hg)).2.2.1
    have HRR := Lib.hid hr; have HFK := Lib.hid hfk; have HSV := Lib.hid hsv; clear hfk hg hr hsv hown
    have ha2 := HA.out.alloc (.cells #[.int .i64 o.kind, .slice va o.refs.length vc, .string o.data] 24)
    have hb2 := HB1.out.alloc (o := .cells #[.int .i64 o.kind, .slice va o.refs.length vc, .string o.data] 24) HB1.out.size
    have hsa := HSV.out.below ((Below.refl _ _).alloc (Nat.le_refl _) (.cells #[.int .i64 o.kind, .slice va o.refs.length vc, .string o.data] 24))
    have HA2 := Lib.hid ha2; have HB2 := Lib.hid hb2; have HSA := Lib.hid hsa; clear ha2 hb2 hsa
    have hrl2 : o.refs.length ≤ 4000000 := by omega
    go_wp2_with (at_lookup; go_must (refine wp_look_ok rfl _ _ 94 24 rfl Tryz.underlying94 (.agg #[.int .i64 0, .slice none 0 0, .string ⟨#[]⟩]) (zeroO _) HF.out rfl k rfl HK.out ?_); rw [HFK.out, Option.getD_some, Option.isSome_some, objV])
    refine (copied_any o (.slice va o.refs.length vc) _ HSA.out hrl2).mono ?_
    rintro e w3 ⟨sv, rfl, hs3, hu3, hb3⟩
    have HA3 := Lib.hid (HA2.out.below hb3 HA2.out.lt); have HB3 := Lib.hid (HB2.out.trans (hb3.mono HB2.out.size)); have HS3 := Lib.hid hs3
    replace hu3 : ∀ i, sv.ownBlock = some i → w.heap.size + 1 ≤ i ∧ i < w3.heap.size := fun i hi => ⟨by have := (hu3 i hi).1; simp only [World.size_alloc] at this; omega, (hu3 i hi).2⟩
    have HU3 := Lib.hid hu3; clear hb3 hs3 hu3
    have z0 := HA3.out.free 0; have z1 := HA3.out.free 1; have z2 := HA3.out.free 2
    have y0 := HA3.out.cell 0; have y1 := HA3.out.cell 1; have y2 := HA3.out.cell 2
    simp only [List.getElem?_toArray, List.getElem?_cons_zero, List.getElem?_cons_succ] at y0 y1 y2
    obtain ⟨na, nc, rfl⟩ := HS3.out.len
    unfold objV
    go_wp2_with fail
    refine get_done (p3 := .int .i64 0) rfl rfl (At.put3 HA3.out _ _ _) ?_
    rw [HRR.out]
    exact ⟨.slice na o.refs.length nc, rfl, HS3.out.keep (fun i hi _ => put3_far (by have := (HU3.out i hi).1; omega) _ _ _), fun i hi => ⟨by have := (HU3.out i hi).1; omega, by have := (HU3.out i hi).2; simpa [put3, World.setCell] using this⟩, below3 (b := w.heap.size) HB3.out (Nat.le_refl _) _ _ _⟩
theorem SetAt.drop {w w1 : World} {a mp n : Nat} {F : Nat → Prop} {S : Store} {f : ByteArray → Option Value} {k : ByteArray} (h : SetAt w a mp n F S) (hg : w.grownBy w1 (some mp)) (hff : ∀ k, match S.get k with
    | none => f k = none
    | some o => ∃ sv, f k = some (objV o sv) ∧ StrsC w sv o.refs ∧ (∀ i, sv.ownBlock = some i → F i ∧ i < w.heap.size)) (hm : Smap w1 mp n (fdel f k)) : SetAt w1 a mp n F (S.drop k) := by
  refine ⟨h.self.grown hg (fun e => h.ne (by simpa using e)), ⟨_, hm, fun j => ?_⟩, fun j o' hj => ?_, Nat.le_trans (Store.drop_len S k) h.many, h.apart⟩
  · rw [Store.get_drop]
    unfold fdel
    by_cases e : k = j
    · rw [if_pos e, if_pos e]
    · rw [if_neg e, if_neg e]
      have := hff j
      cases hgj : S.get j with
      | none => rw [hgj] at this; exact this
      | some o' =>
        rw [hgj] at this
        obtain ⟨s', e1, e2, e3⟩ := this
        exact ⟨s', e1, e2.keep (fun i hi hl => hg.block i hl (fun e => (h.apart i (e3 i hi).1).2 (by simpa using e))), fun i hi => ⟨(e3 i hi).1, Nat.lt_of_lt_of_le (e3 i hi).2 hg.size⟩⟩
  · rw [Store.get_drop] at hj
    by_cases e : k = j
    · rw [if_pos e] at hj; cases hj
    · rw [if_neg e] at hj; exact h.good j o' hj
set_option maxRecDepth 100000 in
set_option maxHeartbeats 2000000 in
theorem drop_any (a mp n : Nat) (F : Nat → Prop) (S : Store) (k : ByteArray) (w : World) (hset : SetAt w a mp n F S) (hk : k.size ≤ maxLen) :
    Calls Tryz.prog 27 #[.pointer (some ⟨a, 0, none⟩), .string k] w fun e w' => e = .returned (.bool (S.get k).isSome) ∧ SetAt w' a mp n F (S.drop k) ∧ Fr (fun k => k = mp) w w' := by
  have HS := Lib.hid hset; have HK := Lib.hid hk; clear hset hk
  go_enter Tryz.func27, Tryz.ntmps27
  have s0 := HS.out.self.cell 0
  simp only [List.getElem?_toArray, List.getElem?_cons_zero, List.getElem?_cons_succ] at s0
  obtain ⟨f, hf, hff⟩ := HS.out.map_
  have HF := Lib.hid hf; have HFF := Lib.hid hff; clear hf hff
  obtain ⟨x0, p1, p2, p3, x2, hx, hxs⟩ : ∃ (x0 : Int) (p1 : Option Addr) (p2 p3 : Nat) (x2 : ByteArray), (f k).getD (.agg #[.int .i64 0, .slice none 0 0, .string ⟨#[]⟩]) = .agg #[.int .i64 x0, .slice p1 p2 p3, .string x2] ∧ (f k).isSome = (S.get k).isSome := by
    have := HFF.out k
    cases hg : S.get k with
    | none => rw [hg] at this; rw [this]; exact ⟨_, _, _, _, _, rfl, rfl⟩
    | some o =>
      rw [hg] at this
      obtain ⟨sv, e1, e2, _⟩ := this
      obtain ⟨sa, sc, rfl⟩ := e2.len
      rw [e1]
      exact ⟨_, _, _, _, _, rfl, rfl⟩
  have HX := Lib.hid hx; have HXS := Lib.hid hxs; clear hx hxs
  have hb2 : Below w.heap.size w (w.alloc (.cells #[.int .i64 x0, .slice p1 p2 p3, .string x2] 24)) := (Below.refl _ _).alloc (Nat.le_refl _) _
  have hs2 := HS.out.below hb2
  have HB2 := Lib.hid hb2; have HS2 := Lib.hid hs2; clear hb2 hs2
  have t0 := HS2.out.self.cell 0
  simp only [List.getElem?_toArray, List.getElem?_cons_zero, List.getElem?_cons_succ] at t0
  obtain ⟨w2, hrun, hm2, hg2⟩ := (HF.out.below HB2.out HF.out.lt).run_del Tryz.underlying94 k HK.out 0
  have HM2 := Lib.hid hm2; have HG2 := Lib.hid hg2; clear hm2 hg2
  go_wp2_with (at_lookup; go_must (refine wp_look_ok rfl _ _ 94 24 rfl Tryz.underlying94 (.agg #[.int .i64 0, .slice none 0 0, .string ⟨#[]⟩]) (zeroO _) HF.out rfl k rfl HK.out ?_); rw [HX.out, HXS.out])
  go_ret
  refine ⟨rfl, HS2.out.drop HG2.out (fun j => ?_) HM2.out, (Fr.of_below HB2.out : Fr (fun k => k = mp) w _).grown HG2.out (fun k hk => Or.inl (show k = mp from (Option.some.inj hk).symm))⟩
  have := HFF.out j
  cases hgj : S.get j with
  | none => rw [hgj] at this; exact this
  | some o =>
    rw [hgj] at this
    obtain ⟨sv, e1, e2, e3⟩ := this
    exact ⟨sv, e1, e2.below HB2.out, fun i hi => ⟨(e3 i hi).1, Nat.lt_of_lt_of_le (e3 i hi).2 HB2.out.size⟩⟩
end Go.Proofs.YtjlpdknomdhbhaaGreatDoor
namespace Go.Proofs.YtjlpdknomdhbhaaGreatDoor
set_option linter.unusedVariables false
set_option linter.unusedSimpArgs false
open Go Go.RowKit Go.Maps
/-- What a set's map holds. -/
def MapOf (w : World) (F : Nat → Prop) (S : Store) (f : ByteArray → Option Value) : Prop := ∀ k, match S.get k with
    | none => f k = none
    | some o => ∃ sv, f k = some (objV o sv) ∧ StrsC w sv o.refs ∧ (∀ i, sv.ownBlock = some i → F i ∧ i < w.heap.size)
theorem MapOf.hit {w : World} {F : Nat → Prop} {S : Store} {f : ByteArray → Option Value} (h : MapOf w F S f) {k : ByteArray} {v : Value} (hk : f k = some v) : ∃ o sv, S.get k = some o ∧ v = objV o sv ∧ StrsC w sv o.refs ∧ (∀ i, sv.ownBlock = some i → F i ∧ i < w.heap.size) := by
  have := h k
  cases hg : S.get k with
  | none => rw [hg] at this; rw [this] at hk; cases hk
  | some o =>
    rw [hg] at this
    obtain ⟨sv, e1, e2, e3⟩ := this
    rw [e1] at hk
    cases hk
    exact ⟨o, sv, rfl, rfl, e2, e3⟩
theorem MapOf.some_iff {w : World} {F : Nat → Prop} {S : Store} {f : ByteArray → Option Value} (h : MapOf w F S f) (k : ByteArray) : (f k).isSome = (S.get k).isSome := by
  have := h k
  cases hg : S.get k with
  | none => rw [hg] at this; rw [this]; rfl
  | some o =>
    rw [hg] at this
    obtain ⟨sv, e1, _⟩ := this
    rw [e1]
    rfl
/-- A new object is put into the map: its slice lies in new blocks. -/
theorem SetAt.putNew {w w1 : World} {a mp n lo : Nat} {F : Nat → Prop} {S : Store} {f : ByteArray → Option Value} {k : ByteArray} {o : Obj} {sv : Value} (h : SetAt w a mp n F S) (hla : a < lo) (hlm : mp < lo) (hg : w.grownBy w1 (some mp)) (hf : Smap w mp n f) (hff : MapOf w F S f) (hm : Smap w1 mp (n + 1) (fput f k (objV o sv))) (ho : okO o = true) (hs : StrsC w sv o.refs) (hsv : ∀ i, sv.ownBlock = some i → lo ≤ i ∧ i < w.heap.size) :
    SetAt w1 a mp (n + 1) (fun i => F i ∨ (lo ≤ i ∧ i < w.heap.size)) (S.put k o) := by
  have hF' : ∀ i, (F i ∨ (lo ≤ i ∧ i < w.heap.size)) → i ≠ a ∧ i ≠ mp := by
    intro i hi
    rcases hi with hi | hi
    · exact h.apart i hi
    · omega
  exact (h.mono (G := fun i => F i ∨ (lo ≤ i ∧ i < w.heap.size)) (fun i hi => .inl hi) hF').put (o := o) (sv := sv) (k := k) hg hf (fun j => by
      have := hff j
      cases hgk : S.get j with
      | none => rw [hgk] at this; exact this
      | some o' =>
        rw [hgk] at this
        obtain ⟨sv', e1, e2, e3⟩ := this
        exact ⟨sv', e1, e2, fun i hi => ⟨.inl (e3 i hi).1, (e3 i hi).2⟩⟩) hm ho hs (fun i hi => ⟨.inr (hsv i hi), (hsv i hi).2⟩)
/-- A clone is under way. -/
structure ClI (w : World) (mp n : Nat) (S : Store) (f : ByteArray → Option Value) (a2 mp2 r : Nat) (done : List ByteArray) (cnt : Nat) (wr : World) : Prop where
  bel : Below w.heap.size w wr
  rng : Srange wr mp r n f done cnt
  new : ∃ F2 S2, SetAt wr a2 mp2 done.length F2 S2 ∧ (∀ i, F2 i → w.heap.size ≤ i ∧ i ≠ r) ∧ (∀ k, k ∈ done → S2.get k = S.get k) ∧ (∀ k, k ∉ done → S2.get k = none)
  cn : done.length + cnt ≤ n
  ge : w.heap.size ≤ r ∧ w.heap.size ≤ a2 ∧ w.heap.size ≤ mp2 ∧ r ≠ a2 ∧ r ≠ mp2
set_option maxRecDepth 100000 in
set_option maxHeartbeats 2000000 in
theorem clone_any' (a mp n : Nat) (F : Nat → Prop) (S : Store) (w : World) (hset : SetAt w a mp n F S) (hn : n ≤ 1000000) :
    Calls Tryz.prog 33 #[.pointer (some ⟨a, 0, none⟩)] w fun e w' => ∃ a2 mp2 F2 S2, e = .returned (.pointer (some ⟨a2, 0, none⟩)) ∧ SetAt w' a2 mp2 n F2 S2 ∧ (∀ k, S2.get k = S.get k) ∧ (∀ i, F2 i → w.heap.size ≤ i) ∧ w.heap.size ≤ a2 ∧ w.heap.size ≤ mp2 ∧ Below w.heap.size w w' := by
  have HS := Lib.hid hset; clear hset
  go_enter Tryz.func33, Tryz.ntmps33
  go_wp2_with fail
  refine (newSet_any w).mono ?_
  rintro e w1 ⟨a2, mp2, rfl, hs2, hga, hgm, hb1⟩
  have HS1 := Lib.hid (HS.out.below hb1); have HN := Lib.hid hs2; have HB1 := Lib.hid hb1; clear hs2 hb1
  have s0 := HS1.out.self.cell 0
  simp only [List.getElem?_toArray, List.getElem?_cons_zero, List.getElem?_cons_succ] at s0
  obtain ⟨f, hf, hff⟩ := HS.out.map_
  have hmo : MapOf w F S f := hff
  have HF := Lib.hid hf; have HMO := Lib.hid hmo; clear hf hff hmo
  go_wp2_with (at_range; go_must (refine wp_range rfl _ _ 24 rfl Tryz.underlying94 (HF.out.below HB1.out HF.out.lt) rfl ?_); intro w2 cnt hrg hcn hg2 hsz2)
  have hb2 : Below w1.heap.size w1 w2 := ⟨hg2.os, hg2.tape, hg2.output, hg2.size, fun i hi => hg2.block i hi (by simp)⟩
  have hcli : ClI w mp n S f a2 mp2 w1.heap.size [] cnt w2 := by
    have h1 := HB1.out.size
    have h2 := HN.out.lt_a
    have h3 := HN.out.lt_mp
    exact ⟨HB1.out.trans (hb2.mono h1), hrg, ⟨fun _ => False, [], HN.out.below hb2, (fun i hi => hi.elim), (fun k hk => by cases hk), fun k _ => rfl⟩, by simpa using hcn, h1, hga, hgm, by omega, by omega⟩
  have HC := Lib.hid hcli; clear hcli hrg hcn hg2 hsz2 hb2 s0
  obtain ⟨r, hr⟩ : ∃ r, r = w1.heap.size := ⟨_, rfl⟩
  rw [← hr] at HC ⊢
  clear hr
  go_frame
  go_loopw [] (fun wr => ∃ done cnt, ClI w mp n S f a2 mp2 r done cnt wr) (fun wr => wr.rangeLeft mp r)
  case atStart => exact ⟨[], cnt, HC.out⟩
  case round =>
    obtain ⟨done, cn, hcl⟩ := hrel
    have HC2 := Lib.hid hcl; clear hcl HC
    go_wp2_with (at_next; go_must (refine wp_next rfl _ rfl rfl HC2.out.rng ?_ ?_))
    · intro hall
      obtain ⟨F2, S2, hs2, hF2, hin, hout⟩ := HC2.out.new
      have heq : ∀ k, S2.get k = S.get k := by
        intro k
        by_cases hk : k ∈ done
        · exact hin k hk
        · rw [hout k hk]
          have h1 := HMO.out.some_iff k
          have h2 : ¬ (f k).isSome = true := fun e => hk ((hall k).1 e)
          rw [h1] at h2
          cases hg : S.get k with
          | none => rfl
          | some o => rw [hg] at h2; exact absurd rfl h2
      have hfin : SetAt wr a2 mp2 n F2 S2 := by
        obtain ⟨f2, h1, h2⟩ := hs2.map_
        have := HC2.out.cn
        exact ⟨hs2.self, ⟨f2, h1.mono (by omega), h2⟩, hs2.good, by have := hs2.many; omega, hs2.apart⟩
      have HFIN := Lib.hid hfin; have HEQ := Lib.hid heq; have HF2 := Lib.hid hF2; clear hs2 hF2 hin hout heq hfin hall
      go_wp2_with fail
      go_ret
      exact ⟨a2, mp2, F2, S2, rfl, HFIN.out, HEQ.out, fun i hi => (HF2.out i hi).1, hga, hgm, HC2.out.bel⟩
    · intro k v w3 cnt' hks hfk hkd hrg hlt hg3 hsz3 hen
      obtain ⟨o, sv, hgk, rfl, hsv, hsvo⟩ := HMO.out.hit hfk
      obtain ⟨sa, sc, rfl⟩ := hsv.len
      obtain ⟨F2, S2, hs2, hF2, hin, hout⟩ := HC2.out.new
      obtain ⟨g1, g2, g3, g4, g5⟩ := HC2.out.ge
      have hrl := (okO_parts (HS.out.good k o hgk)).2.2.1
      have hok := HS.out.good k o hgk
      have hb3 : Below w.heap.size w w3 := HC2.out.bel.grown hg3 HC2.out.bel.size (fun i hi => by cases hi; exact g1)
      have hs3 : SetAt w3 a2 mp2 done.length F2 S2 := hs2.keep hg3.size (fun i hl hi => hg3.block i hl (fun e => by
        have e2 : i = r := by simpa using e
        rcases hi with hi | hi | hi
        · exact g4 (e2.symm.trans hi)
        · exact g5 (e2.symm.trans hi)
        · exact (hF2 i hi).2 e2))
      have hal : Below w3.heap.size w3 (w3.alloc (.cells #[.int .i64 o.kind, .slice sa o.refs.length sc, .string o.data] 24)) := (Below.refl _ _).alloc (Nat.le_refl _) _
      have hbx : At (w3.alloc (.cells #[.int .i64 o.kind, .slice sa o.refs.length sc, .string o.data] 24)) w3.heap.size 24 #[.int .i64 o.kind, .slice sa o.refs.length sc, .string o.data] := At.new _ _ _
      have HB5 := Lib.hid (hb3.trans (hal.mono hb3.size)); have HS5 := Lib.hid (hs3.below hal); have HBX := Lib.hid hbx
      have hrg5 : Srange (w3.alloc (.cells #[.int .i64 o.kind, .slice sa o.refs.length sc, .string o.data] 24)) mp r n f (done ++ [k]) cnt' := hrg.keep (hal.block mp hrg.map.lt) (hal.block r hrg.lt)
      have hbl := hb3.size
      have hrlt := hrg.lt
      have HRG5 := Lib.hid hrg5; have HSV := Lib.hid hsv; have HOK := Lib.hid hok; have HGK := Lib.hid hgk; have HF2 := Lib.hid hF2; have HIN := Lib.hid hin; have HOUT := Lib.hid hout; have HKD := Lib.hid hkd
      clear hsv hsvo hs2 hF2 hin hout hb3 hs3 hal hbx hrg hrg5 hok hgk hkd hg3 hfk
      have hdn := HC2.out.cn
      unfold objV at hen ⊢
      go_wp2_with fail
      rw [hsz3] at HBX hrlt hbl
      obtain ⟨bx, hbxe⟩ : ∃ bx, bx = wr.heap.size := ⟨_, rfl⟩
      rw [← hbxe] at HBX hrlt hbl ⊢
      clear hen hbxe hsz3
      generalize w3.alloc (.cells #[.int .i64 o.kind, .slice sa o.refs.length sc, .string o.data] 24) = w5 at *
      have c0 := HBX.out.cell 0; have c1 := HBX.out.cell 1; have c2 := HBX.out.cell 2
      have s0 := HS5.out.self.cell 0
      simp only [List.getElem?_toArray, List.getElem?_cons_zero, List.getElem?_cons_succ] at c0 c1 c2 s0
      have hla := HS5.out.lt_a
      have hlm := HS5.out.lt_mp
      have hlr := HRG5.out.lt
      have hw5 := HB5.out.size
      have hrl2 : o.refs.length ≤ 4000000 := by omega
      refine Lex.wp_region_lexN (fun i => i = a2) [3] 7 [7] (by kernel_rfl) (by kernel_rfl) (by kernel_rfl) ?_
      simp only [Lex.wpCuts, List.take_succ_cons, List.take_zero, List.drop_succ_cons, List.drop_zero]
      go_wp2_with fail
      refine (copied_any o (.slice sa o.refs.length sc) _ (HSV.out.below HB5.out.drew) hrl2).mono ?_
      rintro e w6 ⟨s6, rfl, hs6, hu6, hb6⟩
      replace hb6 : Below w5.heap.size w5 w6 := (Below.refl w5.heap.size w5).drew.trans hb6
      replace hu6 : ∀ i, s6.ownBlock = some i → w5.heap.size ≤ i ∧ i < w6.heap.size := hu6
      have HB6 := Lib.hid hb6; have HSV6 := Lib.hid hs6; have HU6 := Lib.hid hu6
      have HS6 := Lib.hid (HS5.out.below hb6); have HB06 := Lib.hid (HB5.out.trans (hb6.mono HB5.out.size))
      have HRG6 := Lib.hid (HRG5.out.keep (hb6.block mp HRG5.out.map.lt) (hb6.block r HRG5.out.lt))
      clear hb6 hs6 hu6 c0 c1 c2
      unfold objV
      go_wp2_with fail
      refine Lex.Mid.intro (fun i hi hl => by subst hi; exact HB6.out.block _ hl) ?_
      obtain ⟨f2, hf2, hff2⟩ := HS6.out.map_
      have hmo2 : MapOf w6 F2 S2 f2 := hff2
      have HFM := Lib.hid hf2; have HMO2 := Lib.hid hmo2; clear hf2 hff2 hmo2
      go_wp2_with (at_mapUpdate; go_must (refine wp_upd rfl _ _ _ 94 24 rfl Tryz.underlying94 HFM.out (by unfold maxLen; omega) rfl k (objV o s6) rfl rfl hks ?_); intro w7 hm7 hg7)
      have hfin := HS6.out.putNew (lo := w5.heap.size) hla hlm hg7 HFM.out HMO2.out hm7 HOK.out HSV6.out HU6.out
      have hcl7 : ClI w mp n S f a2 mp2 r (done ++ [k]) cnt' w7 := by
        refine ⟨HB06.out.grown hg7 HB06.out.size (fun i hi => by cases hi; exact g3), HRG6.out.keep (hg7.block mp HRG6.out.map.lt (fun e => ?_)) (hg7.block r HRG6.out.lt (fun e => g5 (by simpa using e))), ⟨fun i => F2 i ∨ (w5.heap.size ≤ i ∧ i < w6.heap.size), S2.put k o, ?_, fun i hi => ?_, fun j hj => ?_, fun j hj => ?_⟩, by rw [List.length_append, List.length_singleton]; omega, g1, g2, g3, g4, g5⟩
        · have h1 : mp = mp2 := by simpa using e
          have h2 := HS.out.lt_mp
          omega
        · rw [List.length_append, List.length_singleton]
          exact hfin
        · rcases hi with hi | hi
          · exact HF2.out i hi
          · omega
        · rw [Store.get_put]
          by_cases e : k = j
          · rw [if_pos e, ← e, HGK.out]
          · rw [if_neg e]
            rcases List.mem_append.1 hj with hj | hj
            · exact HIN.out j hj
            · rw [List.mem_singleton] at hj
              exact absurd hj.symm e
        · rw [Store.get_put, if_neg (fun e => hj (by simp [e]))]
          exact HOUT.out j (fun e => hj (by simp [e]))
      have HCL7 := Lib.hid hcl7; clear hcl7 hfin hm7 hg7
      go_wp2_with fail
      refine Lex.EndsN.intro (by kernel_rfl) ⟨⟨rfl, by show (World.cell? _ ⟨a2, 0, none⟩).isSome = true; rw [HS5.out.self.drew.cell 0]; rfl⟩, trivial⟩ ?_
      go_wp2_with fail
      exact ⟨⟨done ++ [k], cnt', HCL7.out⟩, by rw [HCL7.out.rng.left_eq, HC2.out.rng.left_eq]; omega⟩
end Go.Proofs.YtjlpdknomdhbhaaGreatDoor
