/- The reference's archives: Files. Conditions: the sizes are in reach. Files: few of them, equal ones. Conditions: the sizes are in reach. -/
import Derived.Test.YtjlpdknomdhbhaaGreatDoorRefN
import Derived.Deep.QuietTactic
import Derived.BigQuiet
namespace Go.Proofs.YtjlpdknomdhbhaaGreatDoor
set_option linter.unusedVariables false
set_option linter.unusedSimpArgs false
open Go Go.RowKit Go.Maps
/-- The reference's Files is under way: k files of n are read. -/
structure RfFI (w : World) (o : Obj) (v : Value) (n a0 k a : Nat) (ov : Value) (xs : List FileD) (wr : World) : Prop where
  ob : At wr w.heap.size 24 #[.int .i64 o.kind, v, .string o.data]
  ha : a ≤ o.data.size
  own : wr.ownsRow w.heap.size 41 2 ov k (fCells xs)
  len : xs.length = k
  below : Below w.heap.size w wr
  bd : ∀ x ∈ xs, x.name.size ≤ o.data.size ∧ x.data.size ≤ o.data.size
  eq : rfFs o.data n a0 = (rfFs o.data (n - k) a).map fun p => (xs ++ p.1, p.2)
theorem rdT_bd {s x : ByteArray} {a b : Nat} (h : Cod.rdT s a = some (x, b)) : b ≤ s.size ∧ x.size ≤ s.size := by
  obtain ⟨h1, h2, h3⟩ := Cod.rdT_some h
  refine ⟨h2, ?_⟩
  have h4 : (Cod.text x).size = (Cod.uns x.size).size + x.size := by unfold Cod.text; rw [Sha.app_size]
  have h5 := congrArg ByteArray.size h3
  rw [ByteArray.size_extract] at h5
  omega
theorem rfFs_succ (s : ByteArray) (n a : Nat) : rfFs s (n + 1) a = match Cod.rdT s a with
    | none => none
    | some (x, b) => match Cod.rdT s b with
      | none => none
      | some (y, c) => (rfFs s n c).map fun p => (⟨x, y⟩ :: p.1, p.2) := rfl
set_option maxRecDepth 100000 in
set_option maxHeartbeats 4000000 in
theorem r49Files_any (o : Obj) (v : Value) (w : World) (h : StrsC w v o.refs) (hr : Reach o) :
    Calls Tryz.prog 22 #[objV o v] w (FilPost w o) := by
  obtain ⟨va, vc, rfl⟩ := h.len
  obtain ⟨R, hR⟩ : ∃ R, R = FilPost w o := ⟨_, rfl⟩
  rw [← hR]
  have HR := Lib.hid hR; have H := Lib.hid h; have HRE := Lib.hid hr; clear hR h hr
  unfold objV
  go_enter Tryz.func22, Tryz.ntmps22
  have hob : At (w.alloc (.cells #[.int .i64 o.kind, .slice va o.refs.length vc, .string o.data] 24)) w.heap.size 24 #[.int .i64 o.kind, .slice va o.refs.length vc, .string o.data] := At.new _ _ _
  have hb0 : Below w.heap.size w (w.alloc (.cells #[.int .i64 o.kind, .slice va o.refs.length vc, .string o.data] 24)) := (Below.refl _ _).alloc (Nat.le_refl _) _
  have HOB := Lib.hid hob; have HB0 := Lib.hid hb0; clear hob hb0
  have k0 := HOB.out.cell 0; have k1 := HOB.out.cell 1; have k2 := HOB.out.cell 2
  simp only [List.getElem?_toArray, List.getElem?_cons_zero, List.getElem?_cons_succ] at k0 k1 k2
  go_wp2_with fail
  refine (r49Valid_any o (.slice va o.refs.length vc) _ (H.out.below HB0.out) HRE.out).mono ?_
  rintro e w1 ⟨rfl, hb1⟩
  have HOB1 := Lib.hid (HOB.out.below hb1 HOB.out.lt); have HB1 := Lib.hid (HB0.out.trans (hb1.mono HB0.out.size)); clear hb1 k0 k1 k2
  have k0 := HOB1.out.cell 0; have k1 := HOB1.out.cell 1; have k2 := HOB1.out.cell 2
  simp only [List.getElem?_toArray, List.getElem?_cons_zero, List.getElem?_cons_succ] at k0 k1 k2
  cases hok : okO o with
  | false =>
    have hf := filesR_arg (o := o) (fun h => by rw [hok] at h; cases h.1)
    have HF := Lib.hid hf; clear hf hok
    go_wp2_with fail
    rw [HR.out]
    unfold FilPost
    rw [HF.out]
    exact ⟨.slice none 0 0, rfl, ⟨none, 0, rfl, .inl rfl⟩, (fun k hk => by cases hk), HB1.out⟩
  | true =>
    by_cases hk : o.kind = 0
    · have hkb : (o.kind != 0) = false := by simpa using hk
      obtain ⟨p1, p2, p3, p4, p5⟩ := okO_parts hok
      have hcond : okO o = true ∧ o.kind = 0 := ⟨hok, hk⟩
      have HC := Lib.hid hcond; clear hcond hok hk p1 p2 p3 p5
      by_cases hrl : o.refs.length = 0
      · have drl : decide ((0 : Int) < (o.refs.length : Int)) = false := decide_eq_false (by omega)
        have nrl : ¬ 0 < o.refs.length := by omega
        have HRL := Lib.hid hrl; clear hrl
        go_wp2_with fail
        refine (r02ReadUint_any o.data 0 _ (Nat.zero_le _) (by omega)).mono ?_
        rintro e w2 ⟨hp, rfl⟩
        cases h1 : Cod.rdN o.data 0 with
        | none =>
          rw [h1] at hp
          obtain ⟨nn, bb, rfl⟩ := hp
          have hf := filesR_bad HC.out (.inl (filesF_none h1))
          have HF := Lib.hid hf; clear hf h1
          go_wp2_with fail
          rw [HR.out]
          unfold FilPost
          rw [HF.out]
          exact ⟨.slice none 0 0, rfl, ⟨none, 0, rfl, .inl rfl⟩, (fun k hk => by cases hk), HB1.out⟩
        | some y =>
          obtain ⟨n, a0⟩ := y
          rw [h1] at hp
          have hp' : e = .returned (.tuple #[.int .i64 n, .int .i64 a0, .bool true]) := hp
          subst hp'
          clear hp
          have ha0 := (Cod.rdN_some h1).2.1
          by_cases hn : n ≤ 32
          · have dn : decide ((32 : Int) < (n : Int)) = false := decide_eq_false (by omega)
            have hfi : RfFI w o (.slice va o.refs.length vc) n a0 0 a0 (.slice none 0 0) [] w2 :=
              ⟨HOB1.out, ha0, ⟨rfl, .inl ⟨rfl, rfl⟩⟩, rfl, HB1.out, (fun x hx => by cases hx), by rw [Nat.sub_zero]; simp⟩
            have HFI := Lib.hid hfi; have H1 := Lib.hid h1; clear hfi h1
            obtain ⟨i0, hi, hz0, hz1, hz2⟩ := info_parts info_File
            go_wp2_with fail
            clear k0 k1 k2
            go_loopw [5, 7, 8] (fun av ov i wr => ∃ (k a : Nat) (xs : List FileD), k ≤ n ∧ i = .int .i64 k ∧ av = .int .i64 a ∧ RfFI w o (.slice va o.refs.length vc) n a0 k a ov xs wr) (fun _ _ i _ => n - (intOf i).toNat)
            case atStart => exact ⟨0, a0, [], by omega, rfl, rfl, HFI.out⟩
            case round =>
              obtain ⟨k, a, xs, hk, rfl, rfl, hfi⟩ := hrel
              have HFI2 := Lib.hid hfi; clear hfi HFI
              have k0 := HFI2.out.ob.cell 0; have k1 := HFI2.out.ob.cell 1; have k2 := HFI2.out.ob.cell 2
              simp only [List.getElem?_toArray, List.getElem?_cons_zero, List.getElem?_cons_succ] at k0 k1 k2
              by_cases hlt : k < n
              · have dk : decide ((k : Int) < (n : Int)) = true := by simp; omega
                have heq := HFI2.out.eq
                rw [show n - k = (n - (k + 1)) + 1 by omega, rfFs_succ] at heq
                have HEQ := Lib.hid heq; clear heq
                obtain ⟨oa, om, oc, rfl⟩ := own_slice HFI2.out.own
                have hbe := HFI2.out.below
                have HBE := Lib.hid hbe; clear hbe
                go_wp2_with fail
                refine (r02ReadText_any o.data a _ HFI2.out.ha (by omega)).mono ?_
                rintro e w4 ⟨hp, rfl⟩
                cases h2 : Cod.rdT o.data a with
                | none =>
                  rw [h2] at hp
                  have hp' : e = .returned (.tuple #[.string ⟨#[]⟩, .int .i64 0, .bool false]) := hp
                  subst hp'
                  have heq := HEQ.out
                  rw [h2] at heq
                  have hf := filesR_bad HC.out (.inl (filesF_off H1.out hn heq))
                  have HF := Lib.hid hf; clear hf h2 heq hp
                  go_wp2_with fail
                  rw [HR.out]
                  unfold FilPost
                  rw [HF.out]
                  exact ⟨.slice none 0 0, rfl, ⟨none, 0, rfl, .inl rfl⟩, (fun k hk => by cases hk), HBE.out⟩
                | some y =>
                  obtain ⟨x, b⟩ := y
                  rw [h2] at hp
                  have hp' : e = .returned (.tuple #[.string x, .int .i64 b, .bool true]) := hp
                  subst hp'
                  have heq := HEQ.out
                  rw [h2] at heq
                  simp only at heq
                  have hbx := rdT_bd h2
                  have HEQ2 := Lib.hid heq; have HBX := Lib.hid hbx; clear heq h2 hp hbx HEQ
                  go_wp2_with fail
                  refine (r02ReadText_any o.data b _ HBX.out.1 (by omega)).mono ?_
                  rintro e w5 ⟨hp, rfl⟩
                  cases h3 : Cod.rdT o.data b with
                  | none =>
                    rw [h3] at hp
                    have hp' : e = .returned (.tuple #[.string ⟨#[]⟩, .int .i64 0, .bool false]) := hp
                    subst hp'
                    have heq := HEQ2.out
                    rw [h3] at heq
                    have hf := filesR_bad HC.out (.inl (filesF_off H1.out hn heq))
                    have HF := Lib.hid hf; clear hf h3 heq hp
                    go_wp2_with fail
                    rw [HR.out]
                    unfold FilPost
                    rw [HF.out]
                    exact ⟨.slice none 0 0, rfl, ⟨none, 0, rfl, .inl rfl⟩, (fun k hk => by cases hk), HBE.out⟩
                  | some z =>
                    obtain ⟨y, d⟩ := z
                    rw [h3] at hp
                    have hp' : e = .returned (.tuple #[.string y, .int .i64 d, .bool true]) := hp
                    subst hp'
                    have heq := HEQ2.out
                    rw [h3] at heq
                    simp only at heq
                    have hby := rdT_bd h3
                    have HEQ3 := Lib.hid heq; have HBY := Lib.hid hby; clear heq h3 hp hby HEQ2
                    have hbs := HBE.out.size
                    go_wp2_with (at_builtin; go_must (refine wpList_append_own_at _ rfl _ _ 34 rfl w.heap.size 41 i0 _ 2 32 Tryz.underlying34 hi hz0 hz1 hz2 rfl (by omega) (.slice oa om oc) k (fCells xs) rfl (HFI2.out.own.alloc _) ⟨w5.heap.size, 0, none⟩ 1 1 [.string x, .string y] rfl rfl ?c1 ?c2 ?c3 ?c4 ?c5 ?_))
                    case c1 =>
                      intro j u hj
                      match j, hj with
                      | 0, hj => simp at hj; subst hj; simp [Addr.add]
                      | 1, hj => simp at hj; subst hj; simp [Addr.add]
                    case c2 => intro u hu; simp at hu; rcases hu with rfl | rfl <;> rfl
                    case c3 => unfold maxLen; omega
                    case c4 => omega
                    case c5 => simp; omega
                    intro v' w6 how' hg _ hb'
                    have hwa : Below w.heap.size w (w5.alloc (.cells #[.string x, .string y] 41)) := HBE.out.alloc HBE.out.size _
                    have hfi6 : RfFI w o (.slice va o.refs.length vc) n a0 (k + 1) d v' (xs ++ [⟨x, y⟩]) w6 := by
                      refine ⟨(HFI2.out.ob.alloc _).grown hg (Ne.symm (HFI2.out.ob.own_ne HFI2.out.own (by decide))), HBY.out.1, ?_, by rw [List.length_append, HFI2.out.len]; rfl, below_own hwa hwa.size HFI2.out.own hg, fun q hq => ?_, ?_⟩
                      · rw [fCells_app]
                        exact how'
                      · rcases List.mem_append.1 hq with hq | hq
                        · exact HFI2.out.bd q hq
                        · rw [List.mem_singleton] at hq
                          rw [hq]
                          exact ⟨HBX.out.2, HBY.out.2⟩
                      · rw [HEQ3.out, Option.map_map]
                        congr 1
                        funext p
                        show (xs ++ ⟨x, y⟩ :: p.1, p.2) = (xs ++ [⟨x, y⟩] ++ p.1, p.2)
                        rw [List.append_assoc]
                        rfl
                    have HFI6 := Lib.hid hfi6; clear hfi6 hwa how' hg hb'
                    go_wp2_with fail
                    exact ⟨⟨k + 1, d, xs ++ [⟨x, y⟩], by omega, by go_num, rfl, HFI6.out⟩, by simp [intOf]; omega⟩
              · have hkn : k = n := by omega
                have dk : decide ((k : Int) < (n : Int)) = false := by simp; omega
                have heq := HFI2.out.eq
                rw [hkn, Nat.sub_self] at heq
                have heq2 : rfFs o.data n a0 = some (xs, a) := by rw [heq]; simp [rfFs]
                have hff := filesF_read H1.out hn heq2
                have hl32 : xs.length ≤ 32 := by have := HFI2.out.len; omega
                have hsz := encA_le o.data.size xs HFI2.out.bd
                have hmul : xs.length * (2 * o.data.size + 20) ≤ 32 * (2 * o.data.size + 20) := Nat.mul_le_mul_right _ hl32
                have hown := HFI2.out.own
                rw [← HFI2.out.len] at hown
                have HFC := Lib.hid (FilesC.own hown); have HUP := Lib.hid (own_up hown); have HFF2 := Lib.hid hff
                have HBE := Lib.hid HFI2.out.below
                obtain ⟨oa, om, oc, rfl⟩ := own_slice hown
                clear heq heq2 hff hown hkn
                by_cases has : a = o.data.size
                · have hasb : ((a : Int) != (o.data.size : Int)) = false := by rw [has]; simp
                  have HAS := Lib.hid has; clear has
                  go_wp2_with fail
                  refine (r49ValidFiles_any (.slice oa om oc) xs _ HFC.out (by omega) (by omega)).mono ?_
                  rintro _ w7 ⟨rfl, hb7⟩
                  have HFC7 := Lib.hid (HFC.out.below hb7); have HB7 := Lib.hid (HBE.out.trans (hb7.mono HBE.out.size)); clear hb7
                  obtain ⟨AE, hAE⟩ : ∃ z, z = archE xs := ⟨_, rfl⟩
                  rw [← hAE] at HFF2 ⊢
                  clear hAE
                  by_cases hae : AE = 0
                  · have haeb : (AE != 0) = false := by simpa using hae
                    have hff := HFF2.out
                    rw [if_pos ⟨hae, HAS.out⟩] at hff
                    have hf := filesR_ok HC.out hff HRL.out
                    have HF := Lib.hid hf; clear hf hff hae
                    go_wp2_with fail
                    rw [HR.out]
                    unfold FilPost
                    rw [HF.out]
                    exact ⟨.slice oa om oc, rfl, HFC7.out, HUP.out, HB7.out⟩
                  · have haeb : (AE != 0) = true := by simpa using hae
                    have hff := HFF2.out
                    rw [if_neg (fun h => hae h.1)] at hff
                    have hf := filesR_bad HC.out (.inl hff)
                    have HF := Lib.hid hf; clear hf hff hae
                    go_wp2_with fail
                    rw [HR.out]
                    unfold FilPost
                    rw [HF.out]
                    exact ⟨.slice none 0 0, rfl, ⟨none, 0, rfl, .inl rfl⟩, (fun k hk => by cases hk), HB7.out⟩
                · have hasb : ((a : Int) != (o.data.size : Int)) = true := by simp; omega
                  have hff := HFF2.out
                  rw [if_neg (fun h => has h.2)] at hff
                  have hf := filesR_bad HC.out (.inl hff)
                  have HF := Lib.hid hf; clear hf hff has
                  go_wp2_with fail
                  rw [HR.out]
                  unfold FilPost
                  rw [HF.out]
                  exact ⟨.slice none 0 0, rfl, ⟨none, 0, rfl, .inl rfl⟩, (fun k hk => by cases hk), HBE.out⟩
          · have dn : decide ((32 : Int) < (n : Int)) = true := decide_eq_true (by omega)
            have hf := filesR_bad HC.out (.inl (filesF_much h1 hn))
            have HF := Lib.hid hf; clear hf h1
            go_wp2_with fail
            rw [HR.out]
            unfold FilPost
            rw [HF.out]
            exact ⟨.slice none 0 0, rfl, ⟨none, 0, rfl, .inl rfl⟩, (fun k hk => by cases hk), HB1.out⟩
      · have drl : decide ((0 : Int) < (o.refs.length : Int)) = true := decide_eq_true (by omega)
        have nrl : 0 < o.refs.length := by omega
        have hf := filesR_bad HC.out (.inr hrl)
        have HF := Lib.hid hf; clear hf
        go_wp2_with fail
        rw [HR.out]
        unfold FilPost
        rw [HF.out]
        exact ⟨.slice none 0 0, rfl, ⟨none, 0, rfl, .inl rfl⟩, (fun k hk => by cases hk), HB1.out⟩
    · have hf := filesR_arg (o := o) (fun h => hk h.2)
      have hk2 : (o.kind != 0) = true := by simpa using hk
      have HF := Lib.hid hf; clear hf hok
      go_wp2_with fail
      rw [HR.out]
      unfold FilPost
      rw [HF.out]
      exact ⟨.slice none 0 0, rfl, ⟨none, 0, rfl, .inl rfl⟩, (fun k hk => by cases hk), HB1.out⟩
end Go.Proofs.YtjlpdknomdhbhaaGreatDoor
namespace Go.Proofs.YtjlpdknomdhbhaaGreatDoor
set_option linter.unusedVariables false
set_option linter.unusedSimpArgs false
open Go Go.RowKit Go.Maps
def totalA (l : List FileD) : Nat := (l.map fun x => x.name.size + x.data.size).sum
def fewA (l : List FileD) : Bool := decide (l.length ≤ 40) && decide (totalA l ≤ 5000)
theorem total_take (l : List FileD) (k : Nat) (h : k < l.length) : totalA (l.take (k + 1)) = totalA (l.take k) + (l[k].name.size + l[k].data.size) := by
  unfold totalA
  rw [List.take_succ_eq_append_getElem h, List.map_append, List.sum_append]
  simp
theorem total_le (B : Nat) : ∀ l : List FileD, (∀ x ∈ l, x.name.size ≤ B ∧ x.data.size ≤ B) → totalA l ≤ l.length * (2 * B)
  | [], _ => by simp [totalA]
  | x :: l, h => by
    have h1 := total_le B l (fun y hy => h y (List.mem_cons_of_mem _ hy))
    have h2 := h x List.mem_cons_self
    have e : totalA (x :: l) = x.name.size + x.data.size + totalA l := by simp [totalA]
    rw [e, List.length_cons, Nat.succ_mul]
    omega
theorem total_mem {l : List FileD} {x : FileD} (h : x ∈ l) : x.name.size + x.data.size ≤ totalA l := by
  induction l with
  | nil => cases h
  | cons y l ih =>
    have e : totalA (y :: l) = y.name.size + y.data.size + totalA l := by simp [totalA]
    rcases List.mem_cons.1 h with rfl | h
    · omega
    · have := ih h
      omega
set_option maxRecDepth 100000 in
set_option maxHeartbeats 2000000 in
theorem r49FewFiles_any (v : Value) (l : List FileD) (w : World) (h : FilesC w v l) (hb : ∀ x ∈ l, x.name.size ≤ 140737488355328 ∧ x.data.size ≤ 140737488355328) (hl : l.length ≤ 140737488355328) :
    Calls Tryz.prog 18 #[v] w fun e w' => e = .returned (.bool (fewA l)) ∧ Below w.heap.size w w' := by
  obtain ⟨a, c, rfl, hc⟩ := h
  obtain ⟨R, hR⟩ : ∃ R, R = fewA l := ⟨_, rfl⟩
  rw [← hR]
  have HR := Lib.hid hR; have HC := Lib.hid hc; have HBB := Lib.hid hb; clear hR hc hb
  go_enter Tryz.func18, Tryz.ntmps18
  by_cases h40 : l.length ≤ 40
  · have d40 : decide ((l.length : Int) ≤ 40) = true := by simp; omega
    go_wp2_with fail
    go_loopw [3, 4] (fun t i wr => ∃ k m : Nat, k ≤ l.length ∧ i = .int .i64 k ∧ t = .int .i64 m ∧ m = totalA (l.take k) ∧ Below w.heap.size w wr) (fun _ i _ => l.length - (intOf i).toNat)
    case atStart => exact ⟨0, 0, by omega, rfl, rfl, rfl, Below.refl _ _⟩
    case round =>
      obtain ⟨k, m, hk, rfl, rfl, hm, hb⟩ := hrel
      have HB := Lib.hid hb; have HMM := Lib.hid hm; clear hb
      by_cases hlt : k < l.length
      · have dk : decide ((k : Int) < l.length) = true := by simp; omega
        obtain ⟨b, o, rfl, hbl, hc⟩ := HC.out.resolve_left (by omega)
        have hg := fCells_get l k hlt
        have e0 := (HB.out.cell (p := ⟨b, o + k * 2, none⟩) hbl).trans (hc _ _ hg.1)
        have e1 := (HB.out.cell (p := ⟨b, o + (k * 2 + 1), none⟩) hbl).trans (hc _ _ hg.2)
        rw [← Nat.add_assoc] at e1
        have htt := total_take l k hlt
        have hbd := HBB.out l[k] (List.getElem_mem hlt)
        have htl := total_le 140737488355328 (l.take k) (fun x hx => HBB.out x (List.mem_of_mem_take hx))
        rw [← hm, List.length_take] at htl
        rw [← hm] at htt
        obtain ⟨nm, hnm⟩ : ∃ nm, nm = l[k].name := ⟨_, rfl⟩
        obtain ⟨dt, hdt⟩ : ∃ dt, dt = l[k].data := ⟨_, rfl⟩
        rw [← hnm, ← hdt] at htt hbd; rw [← hnm] at e0; rw [← hdt] at e1
        have hmb : m ≤ 40 * (2 * 140737488355328) := Nat.le_trans htl (Nat.mul_le_mul_right _ (by omega))
        have HTT := Lib.hid htt; clear htt hnm hdt hc hg hm htl
        go_wp2_with fail
        refine Lex.wp_region_lex (by kernel_rfl) (by kernel_rfl) ?_
        go_wp2_with fail
        refine Lex.Ends.intro (by kernel_rfl) ?_
        go_wp2_with fail
        exact ⟨⟨k + 1, m + (nm.size + dt.size), by omega, by go_num, by go_num, HTT.out.symm, HB.out.drew⟩, by simp [intOf]; omega⟩
      · have dk : decide ((k : Int) < l.length) = false := by simp; omega
        rw [List.take_of_length_le (by omega)] at hm
        have hr : R = decide ((m : Int) ≤ 5000) := by
          rw [HR.out, hm]
          unfold fewA
          rw [decide_eq_true h40, Bool.true_and]
          exact decide_eq_decide.2 (by omega)
        have HRR := Lib.hid hr; clear hr hm
        go_wp2_with fail
        go_ret
        exact ⟨by rw [HRR.out]; rfl, HB.out⟩
  · have d40 : decide ((l.length : Int) ≤ 40) = false := by simp; omega
    have hr : R = false := by rw [HR.out]; unfold fewA; rw [decide_eq_false h40]; rfl
    have HRR := Lib.hid hr; clear hr
    go_wp2_with fail
    go_loopw [3, 4] (fun t i wr => ∃ (k : Nat) (m : Int), k ≤ l.length ∧ i = .int .i64 k ∧ t = .int .i64 m ∧ Below w.heap.size w wr) (fun _ i _ => l.length - (intOf i).toNat)
    case atStart => exact ⟨0, 0, by omega, rfl, rfl, Below.refl _ _⟩
    case round =>
      obtain ⟨k, m, hk, rfl, rfl, hb⟩ := hrel
      have HB := Lib.hid hb; clear hb
      by_cases hlt : k < l.length
      · have dk : decide ((k : Int) < l.length) = true := by simp; omega
        obtain ⟨b, o, rfl, hbl, hc⟩ := HC.out.resolve_left (by omega)
        have hg := fCells_get l k hlt
        have e0 := (HB.out.cell (p := ⟨b, o + k * 2, none⟩) hbl).trans (hc _ _ hg.1)
        have e1 := (HB.out.cell (p := ⟨b, o + (k * 2 + 1), none⟩) hbl).trans (hc _ _ hg.2)
        rw [← Nat.add_assoc] at e1
        generalize l[k].name = nm at *
        generalize l[k].data = dt at *
        clear hc hg
        go_wp2_with fail
        refine Lex.wp_region_lex (by kernel_rfl) (by kernel_rfl) ?_
        go_wp2_with fail
        refine Lex.Ends.intro (by kernel_rfl) ?_
        go_wp2_with fail
        exact ⟨⟨k + 1, _, by omega, by go_num, rfl, HB.out.drew⟩, by simp [intOf]; omega⟩
      · have dk : decide ((k : Int) < l.length) = false := by simp; omega
        go_wp2_with fail
        go_ret
        exact ⟨by rw [HRR.out]; rfl, HB.out⟩
set_option maxRecDepth 100000 in
set_option maxHeartbeats 2000000 in
theorem eqFiles_same (v1 v2 : Value) (l : List FileD) (w : World) (h1 : FilesC w v1 l) (h2 : FilesC w v2 l) (hl : l.length ≤ 1000000) :
    Calls Tryz.prog 23 #[v1, v2] w fun e w' => e = .returned (.bool true) ∧ ∃ q, w' = w.drewN q := by
  obtain ⟨a1, c1, rfl, h1⟩ := h1
  obtain ⟨a2, c2, rfl, h2⟩ := h2
  have H1 := Lib.hid h1; have H2 := Lib.hid h2; clear h1 h2
  go_enter Tryz.func23, Tryz.ntmps23
  go_wp2_with fail
  go_loopw [13] (fun i wr => ∃ k q : Nat, k ≤ l.length ∧ i = .int .i64 k ∧ wr = w.drewN q) (fun i _ => l.length - (intOf i).toNat)
  case atStart => exact ⟨0, 0, by omega, rfl, rfl⟩
  case round =>
    obtain ⟨k, q, hk, rfl, rfl⟩ := hrel
    by_cases hlt : k < l.length
    · obtain ⟨b1, o1, rfl, hb1, hc1⟩ := H1.out.resolve_left (by omega)
      obtain ⟨b2, o2, rfl, hb2, hc2⟩ := H2.out.resolve_left (by omega)
      have dk : decide ((k : Int) < l.length) = true := by simp; omega
      have hg := fCells_get l k hlt
      have e0 := hc1 _ _ hg.1; have e1 := hc1 _ _ hg.2
      have f0 := hc2 _ _ hg.1; have f1 := hc2 _ _ hg.2
      rw [← Nat.add_assoc] at e1 f1
      generalize l[k].name = x0 at *
      generalize l[k].data = x1 at *
      have HC1 := Lib.hid hc1; have HC2 := Lib.hid hc2; clear hc1 hc2 hg
      go_wp2_with fail
      go_quiet (fail)
      go_wp2_with fail
      exact ⟨⟨k + 1, _, by omega, by go_num, rfl⟩, by simp [intOf]; omega⟩
    · have dk : decide ((k : Int) < l.length) = false := by simp; omega
      go_wp2_with fail
      go_ret
      exact ⟨rfl, q, rfl⟩
end Go.Proofs.YtjlpdknomdhbhaaGreatDoor
