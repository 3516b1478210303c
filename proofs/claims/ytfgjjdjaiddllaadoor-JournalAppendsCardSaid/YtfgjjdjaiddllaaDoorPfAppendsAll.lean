/- Blocks apart from a journal and its disk. No condition. A slice of strings that came in, as the laws read it. No condition. A value of type Pages, read and written as the statement's data. No condition. The laws' pages, and that the reference's rows lie apart from the disk. Condition: the count of pages. The laws' start: the journal and its reference agree. Conditions: the reference's disk is the disk. A disk and its reference take writes, apart from each other. Conditions: those of each law. The reference's page: the bytes of a page. Conditions: the sizes. The pages of a record, by their numbers. No condition. What an append records, as a list of operations; a slice of operations as it is read. No condition. The reference's Append: the operations of a record, and the journal afterwards. Conditions: the journal's numbers are small. JournalAppends: the walk. Condition: the arguments are of their types, the records as they are read. JournalAppends returns true for every input; the input reads as it did. Condition: the laid tables of package utf8, tied to the program's text (the card). -/
import Derived.Test.YtfgjjdjaiddllaaDoorLawA
import Derived.ProofKit
import Derived.SliceStrings
import Derived.Stop.Joined
import Derived.Test.YtfgjjdjaiddllaaDoorRefW
import Derived.Test.YtfgjjdjaiddllaaDoorJourS
import Derived.Test.YtfgjjdjaiddllaaDoorRefE
import Derived.Test.YtfgjjdjaiddllaaDoorJourK
import Derived.Test.YtfgjjdjaiddllaaDoorJourN
import Derived.Deep.QuietTactic
import Derived.BigQuiet
import Derived.Deep.DeepCutAuto
import Derived.Test.YtfgjjdjaiddllaaDoorRows
import Derived.Test.YtfgjjdjaiddllaaDoorCards
import Derived.Test.YtfgjjdjaiddllaaDoorTie
import Derived.OpenShut
import Derived.LaidMore
import Derived.Lay
import Derived.SevenTiedAt
namespace Go.Proofs.YtfgjjdjaiddllaaDoor
set_option linter.unusedVariables false
set_option linter.unusedSimpArgs false
open Go Go.RowKit Go.Maps
/-- A block of neither. -/
def Out (w : World) (j : Jour) (d : DiskP) (b : Nat) : Prop := b < w.heap.size ∧ ¬ j.foot b ∧ ¬ d.foot b
theorem JDStep.out {w w' : World} {j j' : Jour} {d d' : DiskP} {c' : DiskC} {b : Nat} (h : JDStep w w' j j' d d' c') (ho : Out w j d b) : Out w' j' d' b ∧ w'.heap[b]? = w.heap[b]? := by
  obtain ⟨h1, h2, h3⟩ := ho
  refine ⟨⟨Nat.lt_of_lt_of_le h1 h.fr.size, fun hj => ?_, fun hd => ?_⟩, h.fr.keep b h1 (fun hf => hf.elim h2 h3)⟩
  · rcases h.footj b hj with h4 | h4
    · exact h2 h4
    · omega
  · rcases h.footd b hd with h4 | h4
    · exact h3 h4
    · omega
theorem JDStep.above {w w' : World} {j j' : Jour} {d d' : DiskP} {c' : DiskC} {B : Nat} (h : JDStep w w' j j' d d' c') (hj : ∀ k, j.foot k → B ≤ k) (hd : ∀ k, d.foot k → B ≤ k) (hB : B ≤ w.heap.size) :
    (∀ k, j'.foot k → B ≤ k) ∧ (∀ k, d'.foot k → B ≤ k) ∧ Below B w w' := by
  refine ⟨fun k hk => ?_, fun k hk => ?_, h.fr.below hB (fun k hk => hk.elim (hj k) (hd k))⟩
  · rcases h.footj k hk with h1 | h1
    · exact hj k h1
    · omega
  · rcases h.footd k hk with h1 | h1
    · exact hd k h1
    · omega
theorem Live.fr {F : Nat → Prop} {w w' : World} {j : Jour} {d : DiskP} {c : DiskC} (h : Live w j d c) (hf : Fr F w w') (hF : ∀ k, F k → ¬ j.foot k ∧ ¬ d.foot k) : Live w' j d c :=
  ⟨⟨h.jd.jour.keep (fun k hk => hf.keep k (h.jd.jour.lt k hk) (fun hFk => (hF k hFk).1 hk)), h.jd.disk.fr hf (fun k hk => (hF k hk).2), h.jd.da, h.jd.apart, h.jd.inn⟩, h.holds, h.calm, h.sized, h.chain, h.epoch⟩
theorem size_le_total {xs : List ByteArray} {x : ByteArray} (h : x ∈ xs) : x.size ≤ total xs := by
  induction xs with
  | nil => cases h
  | cons y l ih =>
    unfold total at ih ⊢
    rw [List.map_cons, List.sum_cons]
    rcases List.mem_cons.1 h with rfl | h1
    · omega
    · have := ih h1; omega
/-- A journal, its disk, a slice of strings that grows, and a block beside them, all behind the world w0. -/
structure Keep (w0 : World) (want : Value) (acc : List ByteArray) (b : Nat) (t : TypeId) (cs : Array Value) (w : World) (j : Jour) (d : DiskP) (c : DiskC) : Prop where
  live : Live w j d c
  rows : w.ownsRow w0.heap.size 9 1 want acc.length (acc.map Value.string)
  wout : ∀ k, want.ownBlock = some k → Out w j d k
  cell : At w b t cs
  cout : Out w j d b
  cw : t ≠ 9
  jup : ∀ k, j.foot k → w0.heap.size ≤ k
  dup : ∀ k, d.foot k → w0.heap.size ≤ k
  below : Below w0.heap.size w0 w
section
variable {w0 w w1 w2 w' : World} {want v' : Value} {acc acc' : List ByteArray} {b : Nat} {t : TypeId} {cs : Array Value} {j j' : Jour} {d d' : DiskP} {c c' : DiskC}
theorem Keep.step (h : Keep w0 want acc b t cs w j d c) (hs : JDStep w w' j j' d d' c') (hl : Live w' j' d' c') : Keep w0 want acc b t cs w' j' d' c' := by
  obtain ⟨h1, h2, h3⟩ := hs.above h.jup h.dup h.below.size
  exact ⟨hl, own_keep h.rows (fun k hk => (hs.out (h.wout k hk)).2), fun k hk => (hs.out (h.wout k hk)).1, h.cell.keep (hs.out h.cout).2, (hs.out h.cout).1, h.cw, h1, h2, h.below.trans h3⟩
theorem Keep.under (h : Keep w0 want acc b t cs w j d c) (hb : Below w.heap.size w w') : Keep w0 want acc b t cs w' j d c := h.step (h.live.jd.below hb) (h.live.below hb)
theorem Keep.grow (h : Keep w0 want acc b t cs w j d c) (hb : Below w.heap.size w w1) (hg : w1.grownBy w2 want.ownBlock) (how : w2.ownsRow w0.heap.size 9 1 v' acc'.length (acc'.map Value.string))
    (hv : v'.ownBlock = want.ownBlock ∨ ∃ g, v'.ownBlock = some g ∧ w.heap.size ≤ g) : Keep w0 v' acc' b t cs w2 j d c := by
  have hf : Fr (fun k => want.ownBlock = some k) w w2 := (Fr.of_below hb).grown hg (fun k hk => .inl hk)
  have hne : want.ownBlock ≠ some b := by
    intro e
    obtain ⟨cur, hc⟩ := own_at h.rows e
    exact h.cw (by have := h.cell; unfold At at this hc; rw [this] at hc; simp only [Option.some.injEq, Obj.cells.injEq] at hc; exact hc.2.1)
  have hup : ∀ k, want.ownBlock = some k → w0.heap.size ≤ k := by
    intro k hk
    obtain ⟨_, ⟨rfl, _⟩ | ⟨g, cap, cur, rfl, hg, _⟩⟩ := h.rows
    · cases hk
    · have : g = k := by
        have hk' : some g = some k := hk
        simpa using hk'
      omega
  refine ⟨h.live.fr hf (fun k hk => (h.wout k hk).2), how, fun k hk => ?_, hf.at h.cell hne, ⟨Nat.lt_of_lt_of_le h.cout.1 hf.size, h.cout.2⟩, h.cw, h.jup, h.dup, h.below.trans (hf.below h.below.size hup)⟩
  have hlt : k < w2.heap.size := by obtain ⟨cur, hc⟩ := own_at how hk; exact hc.lt
  rcases hv with hv | ⟨g, hv, hgl⟩
  · exact ⟨hlt, (h.wout k (hv.symm.trans hk)).2⟩
  · have : g = k := by rw [hv] at hk; simpa using hk
    exact ⟨hlt, fun hj => by have := h.live.jd.jour.lt k hj; omega, fun hd => by have := h.live.jd.disk.lt k hd; omega⟩
end
end Go.Proofs.YtfgjjdjaiddllaaDoor
namespace Go.Proofs.YtfgjjdjaiddllaaDoor
set_option linter.unusedVariables false
set_option linter.unusedSimpArgs false
open Go Go.RowKit Go.Maps
theorem StrsC.opened {w : World} {a : Addr} {len cap : Nat} {ss : List ByteArray} (h : ∀ i, i < ss.length → w.cell? (a.add i) = some (.string (ss.getD i ByteArray.empty))) (hl : len ≤ ss.length) : StrsC w (.slice (some a) len cap) (ss.take len) := by
  have e : (ss.take len).length = len := by rw [List.length_take]; omega
  by_cases h0 : len = 0
  · exact ⟨_, _, by rw [e], .inl (by rw [e]; exact h0)⟩
  · obtain ⟨b, o, sp⟩ := a
    cases sp with
    | none =>
      refine ⟨_, _, by rw [e], .inr ⟨b, o, rfl, fun j hj => ?_⟩⟩
      rw [e] at hj
      have := h j (by omega)
      have e2 : (⟨b, o, none⟩ : Addr).add j = ⟨b, o + j, none⟩ := by unfold Addr.add; split <;> simp_all
      rw [e2] at this
      rw [this]
      have : (ss.take len).getD j ⟨#[]⟩ = ss.getD j ByteArray.empty := by simp [List.getD_eq_getElem?_getD, List.getElem?_take, hj]; rfl
      rw [this]
    | some p =>
      exfalso
      have := h 0 (by omega)
      unfold World.cell? Addr.add at this
      simp at this
      split at this <;> simp_all
open Go.ChangeShapes in
theorem weights_strs {H : Type} {P : Program} {e : TypeId} : ∀ (ss : List ByteArray), (DataW.weightsAll P e (strs (H := H) ss)).all (· ≤ reachBytes) = true → ∀ s ∈ ss, s.size ≤ reachBytes
  | [], _, _, h => by cases h
  | x :: l, h, s, hs => by
    have e1 : DataW.weightsAll P e (strs (H := H) (x :: l)) = [x.data.toList.length] ++ DataW.weightsAll P e (strs (H := H) l) := rfl
    rw [e1, List.all_append, Bool.and_eq_true] at h
    rcases List.mem_cons.1 hs with rfl | hs
    · have := h.1
      simp only [List.all_cons, List.all_nil, Bool.and_true, decide_eq_true_eq] at this
      rw [Array.length_toList] at this
      exact this
    · exact weights_strs l h.2 s hs
theorem bytes_string : Tryd.prog.bytesOf 9 = 16 := by kernel_rfl
open Go.ChangeShapes Go.WideShapes in
/-- **A slice of strings that came in, opened**: it reads as StrsC, its strings are within the reach. -/
theorem strs_in {H : Type} {enc : TypeId × Value → H} {W : World} {a : Option Addr} {len cap : Nat} {d : DataW H} {p : List MemPlace} (h : DataW.Trod enc Tryd.prog W 0 (fun _ => true) true 22 (.slice a len cap) d p)
    (hz : (d.weights Tryd.prog 22).all (· ≤ reachBytes) = true) : ∃ xs : List ByteArray, StrsC W (.slice a len cap) xs ∧ (∀ z ∈ xs, z.size ≤ 140737488355328) ∧ xs.length ≤ 140737488355328 := by
  obtain ⟨fuel, hf⟩ := h
  rcases open_strings Tryd.underlying22 Tryd.underlying9 (by kernel_rfl) hf with ⟨hcs, _⟩ | ⟨a', len', cap', ss, hcs, _, hl, hm, hn, hx2, hcell, _⟩
  · have e : Value.slice a len cap = .slice none 0 0 := by simpa [Value.cells] using hcs
    rw [e]
    exact ⟨[], ⟨none, 0, rfl, .inl rfl⟩, (fun z hz => by cases hz), Nat.zero_le _⟩
  · have e : Value.slice a len cap = .slice (some a') len' cap' := by simpa [Value.cells] using hcs
    rw [e]
    have hn' : ss.length = cap' := by simpa using hn
    have hd : d = .slice (strs (ss.take len')) (strs (ss.drop len')) := (Prod.mk.inj hx2).1
    rw [hd] at hz
    have hw : (DataW.slice (strs (H := H) (ss.take len')) (strs (ss.drop len'))).weights Tryd.prog 22 = ((strs (H := H) (ss.take len')).length + (strs (H := H) (ss.drop len')).length) * Tryd.prog.bytesOf 9 :: (DataW.weightsAll Tryd.prog 9 (strs (H := H) (ss.take len')) ++ DataW.weightsAll Tryd.prog 9 (strs (H := H) (ss.drop len'))) := by
      simp only [DataW.weights, Tryd.underlying22]
    rw [hw, List.all_cons, List.all_append, Bool.and_eq_true, Bool.and_eq_true, bytes_string] at hz
    obtain ⟨h1, h2, _⟩ := hz
    have e1 : (strs (H := H) (ss.take len')).length = len' := by unfold strs; rw [List.length_map, List.length_take]; omega
    rw [e1] at h1
    have h1' := of_decide_eq_true h1
    unfold reachBytes at h1'
    refine ⟨ss.take len', StrsC.opened hcell (by omega), fun z hz2 => ?_, ?_⟩
    · have := weights_strs _ h2 z hz2
      unfold reachBytes at this
      omega
    · rw [List.length_take]
      omega
end Go.Proofs.YtfgjjdjaiddllaaDoor
namespace Go.Proofs.YtfgjjdjaiddllaaDoor
set_option linter.unusedVariables false
set_option linter.unusedSimpArgs false
open Go Go.ChangeShapes Go.WideShapes Go.RowKit Go.Maps
def pagesD {H : Type} (a b : Int) : DataW H := .agg [.lit (.int .i64 a), .lit (.int .i64 b)]
section
variable {H : Type} {enc : TypeId × Value → H}
theorem cellsPages : Tryd.prog.cellsOf 24 = 2 := by kernel_rfl
theorem cellsInt : Tryd.prog.cellsOf 3 = 1 := by kernel_rfl
theorem wf_range {a : Int} (h : (Lit.int .i64 a).wf = true) : -9223372036854775808 ≤ a ∧ a < 9223372036854775808 := by
  simp [Lit.wf, IntKind.has] at h
  have h1 : IntKind.i64.min = -9223372036854775808 := by decide
  have h2 : IntKind.i64.max = 9223372036854775807 := by decide
  omega
theorem range_wf {a : Int} (h : -9223372036854775808 ≤ a ∧ a < 9223372036854775808) : (Lit.int .i64 a).wf = true := by
  simp [Lit.wf, IntKind.has]
  have h1 : IntKind.i64.min = -9223372036854775808 := by decide
  have h2 : IntKind.i64.max = 9223372036854775807 := by decide
  omega
set_option maxRecDepth 100000 in
theorem pages_in {W : World} {base : Nat} {sp : Nat → Bool} {v : Value} {d : DataW H} {ps : List MemPlace} (hval : Value.okWide Tryd.prog W .any base 24 v) (h : DataW.Trod enc Tryd.prog W 0 sp true 24 v d ps) :
    ∃ a b, v = .agg #[.int .i64 a, .int .i64 b] ∧ d = pagesD a b ∧ ps = [] ∧ (-9223372036854775808 ≤ a ∧ a < 9223372036854775808) ∧ (-9223372036854775808 ≤ b ∧ b < 9223372036854775808) := by
  obtain ⟨cs, rfl, hs⟩ := okWide_struct Tryd.underlying24 hval
  rw [cellsPages] at hs
  match cs, hs with
  | ⟨[c0, c1]⟩, _ =>
    obtain ⟨n, hy⟩ := h
    obtain ⟨y0, y1, m, he, _, u0, u1⟩ := trod_struct2 Tryd.underlying24 hy
    simp only [cellsInt, Value.cells, List.drop, List.take] at u0 u1
    obtain ⟨a, ha, rfl, wa⟩ := DataW.trod_int Tryd.underlying3 u0
    obtain ⟨b, hb, rfl, wb⟩ := DataW.trod_int Tryd.underlying3 u1
    simp only [List.cons.injEq, and_true] at ha hb
    subst ha; subst hb
    simp only [Prod.mk.injEq] at he
    exact ⟨a, b, rfl, he.1, he.2, wf_range wa, wf_range wb⟩
set_option maxRecDepth 100000 in
theorem shut_pages {W : World} {sp : Nat → Bool} {a b : Int} (ha : -9223372036854775808 ≤ a ∧ a < 9223372036854775808) (hb : -9223372036854775808 ≤ b ∧ b < 9223372036854775808) :
    DataW.Trod enc Tryd.prog W 0 sp true 24 (.agg #[.int .i64 a, .int .i64 b]) (pagesD a b) [] := by
  have h := trod_struct2_mk (enc := enc) (w := W) (base := 0) (spare := sp) (held := true) (n := 1) (cs := [.int .i64 a, .int .i64 b]) (y0 := (.lit (.int .i64 a), [])) (y1 := (.lit (.int .i64 b), [])) Tryd.underlying24 (by rw [cellsPages]; rfl)
    (by simpa [cellsInt] using (show DataW.trod enc Tryd.prog W 0 sp true 1 3 [.int .i64 a] = some (.lit (.int .i64 a), []) by simp [DataW.trod, Tryd.underlying3, range_wf ha]))
    (by simpa [cellsInt] using (show DataW.trod enc Tryd.prog W 0 sp true 1 3 [.int .i64 b] = some (.lit (.int .i64 b), []) by simp [DataW.trod, Tryd.underlying3, range_wf hb]))
  exact ⟨_, h⟩
end
end Go.Proofs.YtfgjjdjaiddllaaDoor
namespace Go.Proofs.YtfgjjdjaiddllaaDoor
set_option linter.unusedVariables false
set_option linter.unusedSimpArgs false
open Go Go.RowKit Go.Maps
set_option maxRecDepth 100000 in
set_option maxHeartbeats 1000000 in
theorem pages_far (n : Nat) (w : World) (h1 : 1 ≤ n) (h2 : n ≤ 4096) :
    Calls Tryd.prog 10 #[.int .i64 n] w fun e w' => ∃ (d : DiskP) (v : Value), e = .returned (.tuple #[.pointer (some ⟨d.a, 0, none⟩), rDiskV v (.slice none 0 0)]) ∧ DiskAt w' d (.blank n) ∧
      StrsC w' v (List.replicate n ⟨#[]⟩) ∧ Below w.heap.size w w' ∧ (∀ k, d.foot k → w.heap.size ≤ k) ∧ ∀ k, v.ownBlock = some k → w.heap.size ≤ k ∧ ¬ d.foot k := by
  go_enter Tryd.func10, Tryd.ntmps10
  go_wp2_with fail
  refine (dNew_any n _ h1 h2).mono ?_
  rintro e w1 ⟨d, rfl, hd, hb1, hfoot⟩
  have HD := Lib.hid hd; have HB := Lib.hid hb1; have HF := Lib.hid hfoot; clear hd hb1 hfoot
  go_wp2_with fail
  refine (rNew_any n _ h1 h2).mono ?_
  rintro e w2 ⟨v, rfl, ho, hb2⟩
  obtain ⟨g, cap, rfl, _⟩ := own_cell ho (by omega)
  have HO := Lib.hid ho; have HB2 := Lib.hid hb2; clear ho hb2
  have hat2 : At w2 w.heap.size 29 #[.slice none 0 0, .slice none 0 0] := ((At.new w 29 _).below HB.out (by simp)).below HB2.out (Nat.lt_of_lt_of_le (by simp) HB.out.size)
  have hlt2 := hat2.lt
  have z0 := (hat2.alloc (.cells #[.slice (some ⟨g, 0, none⟩) n cap, .slice none 0 0] 29)).free 0; have z1 := (hat2.alloc (.cells #[.slice (some ⟨g, 0, none⟩) n cap, .slice none 0 0] 29)).free 1
  have k0 := (hat2.alloc (.cells #[.slice (some ⟨g, 0, none⟩) n cap, .slice none 0 0] 29)).cell 0; have k1 := (hat2.alloc (.cells #[.slice (some ⟨g, 0, none⟩) n cap, .slice none 0 0] 29)).cell 1
  simp only [List.getElem?_toArray, List.getElem?_cons_zero, List.getElem?_cons_succ] at k0 k1
  have y0 := hat2.free 0; have y1 := hat2.free 1; have x0 := hat2.cell 0; have x1 := hat2.cell 1
  simp only [List.getElem?_toArray, List.getElem?_cons_zero, List.getElem?_cons_succ] at x0 x1
  have HA2 := Lib.hid hat2; clear hat2
  unfold rDiskV
  go_wp2_with fail
  refine Lex.wp_region_lex (by kernel_rfl) (by kernel_rfl) ?_
  go_wp2_with fail
  refine Lex.Ends.intro (by kernel_rfl) ?_
  go_wp2_with fail
  have hge : w1.heap.size ≤ g := by
    obtain ⟨_, ⟨h0, _⟩ | ⟨g', cap', cur, hgv, hle, _⟩⟩ := HO.out
    · cases h0
    · cases hgv; exact hle
  have hw01 : w.heap.size < w1.heap.size := Nat.lt_of_lt_of_le (by simp) HB.out.size
  have hne : ∀ i : Nat, (Value.slice (some ⟨g, 0, none⟩) n cap).ownBlock ≠ some (⟨w.heap.size, i, none⟩ : Addr).block := by
    intro i e
    have : g = w.heap.size := by simpa [Value.ownBlock] using e
    omega
  have hset := (((HA2.out.set 0 (.slice (some ⟨g, 0, none⟩) n cap)).set 1 (.slice none 0 0)).alloc (.cells #[.slice (some ⟨g, 0, none⟩) n cap, .slice none 0 0] 29))
  have hfr : Fr (fun k => k = w.heap.size) w2 (((w2.setCell ⟨w.heap.size, 0, none⟩ (.slice (some ⟨g, 0, none⟩) n cap)).setCell ⟨w.heap.size, 1, none⟩ (.slice none 0 0)).alloc (.cells #[.slice (some ⟨g, 0, none⟩) n cap, .slice none 0 0] 29)) :=
    (((Fr.refl (fun k => k = w.heap.size) w2).setCell (p := ⟨w.heap.size, 0, none⟩) (.inl rfl) _).setCell (p := ⟨w.heap.size, 1, none⟩) (.inl rfl) _).alloc _
  have hrows := ((ownsRow_setCell_other (ownsRow_setCell_other HO.out (a := ⟨w.heap.size, 0, none⟩) (hne 0) (.slice (some ⟨g, 0, none⟩) n cap)) (a := ⟨w.heap.size, 1, none⟩) (hne 1) (.slice none 0 0)).alloc (.cells #[.slice (some ⟨g, 0, none⟩) n cap, .slice none 0 0] 29))
  refine bodyPost_ret (v := .tuple #[.pointer (some ⟨d.a, 0, none⟩), .agg #[.slice (some ⟨g, 0, none⟩) n cap, .slice none 0 0]]) ?_ rfl ⟨d, _, rfl, ?_, ?_, ?_, ?_, ?_⟩
  · rw [results_tmp_cell (p := 3) (u := 2) (ty := 29) rfl]
    have hset' := hset.drew
    simp [asAddr, run_loadVar_row _ w.heap.size 29 29 _ (0, 0) _ hset' Tryd.underlying29 rfl info_rDisk]
  · refine (HD.out.below HB2.out (Nat.le_refl _)).fr hfr.drew ?_
    rintro k rfl hk
    have := HF.out _ hk
    simp at this
    omega
  · refine StrsC.own (base := w1.heap.size) ?_
    rw [List.length_replicate]
    exact hrows
  · have hb : Below w.heap.size w w2 := (((Below.refl w.heap.size w).alloc (Nat.le_refl _) _).trans (HB.out.mono (by simp))).trans (HB2.out.mono (by omega))
    exact (hb.trans (hfr.below hb.size (fun k hk => by omega))).drew
  · intro k hk
    have := HF.out _ hk
    simp at this
    omega
  · intro k hk
    have e : g = k := by simpa [Value.ownBlock] using hk
    subst e
    exact ⟨by omega, fun hf => by have := HD.out.lt _ hf; omega⟩
end Go.Proofs.YtfgjjdjaiddllaaDoor
namespace Go.Proofs.YtfgjjdjaiddllaaDoor
set_option linter.unusedVariables false
set_option linter.unusedSimpArgs false
open Go Go.RowKit Go.Maps
theorem start_done {tmps : Array Value} {w : World} {b : Nat} {v0 v1 v2 v3 v4 v5 p8 p10 : Value} {Q : Ending → World → Prop} (hp : tmps.getD 9 undef = .pointer (some ⟨b, 0, none⟩)) (h8 : tmps.getD 8 undef = p8) (h10 : tmps.getD 10 undef = p10) (hat : At w b 38 #[v0, v1, v2, v3, v4, v5])
    (hq : Q (.returned (.tuple #[p8, .agg #[v0, v1, v2, v3, v4, v5], p10])) w) : bodyPost Tryd.prog Tryd.f13 Q Exit.ret { tmps := tmps, defers := [] } w := by
  refine bodyPost_ret (v := .tuple #[p8, .agg #[v0, v1, v2, v3, v4, v5], p10]) ?_ rfl hq
  have hl := run_loadVar_row w b 38 38 _ (0, 0) _ hat Tryd.underlying38 rfl info_rJournal
  unfold results
  have hr : Tryd.f13.results = #[.tmp 8, .cell 9 38, .tmp 10] := rfl
  have hp' : tmps[9]?.getD undef = .pointer (some ⟨b, 0, none⟩) := by simpa using hp
  have h8' : tmps[8]?.getD undef = p8 := by simpa using h8
  have h10' : tmps[10]?.getD undef = p10 := by simpa using h10
  simp [hr, hp', h8', h10', asAddr, hl, Result.andThen]
theorem cell_same {w w' : World} {a : Addr} (h : w'.heap[a.block]? = w.heap[a.block]?) : w'.cell? a = w.cell? a := by unfold World.cell?; rw [h]
theorem StrsC.keep {w w' : World} {v : Value} {xs : List ByteArray} (h : StrsC w v xs) (hk : ∀ k, v.ownBlock = some k → k < w.heap.size → w'.heap[k]? = w.heap[k]?) : StrsC w' v xs := by
  obtain ⟨a, c, rfl, h0 | ⟨b, o, rfl, hc⟩⟩ := h
  · exact ⟨_, _, rfl, .inl h0⟩
  · refine ⟨_, _, rfl, .inr ⟨b, o, rfl, fun j hj => ?_⟩⟩
    have h1 := hc j hj
    rw [cell_same (hk b rfl (block_lt h1))]
    exact h1
theorem drew_heap (w : World) : w.drew.heap = w.heap := rfl
theorem put6_far_drew {w : World} {b k : Nat} (h : k ≠ b) (v0 v1 v2 v3 v4 v5 : Value) : (put6 w b v0 v1 v2 v3 v4 v5).drew.heap[k]? = w.heap[k]? := by
  rw [drew_heap]
  exact put6_far h v0 v1 v2 v3 v4 v5
/-- What start leaves where the region and the epoch are right. -/
structure Started (w w' : World) (d : DiskP) (F N E : Nat) (rd : Nat → ByteArray × Int) (j : Jour) (a : Option Addr) (cp : Nat) : Prop where
  jour : JourAt w' j
  da : j.da = d.a
  first : j.first = F
  count : j.count = N
  epoch : j.epoch = E
  recs : j.recs = (opened E N rd).recs
  next : j.next = (opened E N rd).next
  chain : j.chain = (opened E N rd).jch
  foot : ∀ k, j.foot k → w.heap.size ≤ k
  rows : StrsC w' (.slice a j.recs.length cp) j.recs
  rfoot : ∀ k, (Value.slice a j.recs.length cp).ownBlock = some k → w.heap.size ≤ k ∧ ¬ j.foot k
  below : Below w.heap.size w w'
set_option maxRecDepth 100000 in
set_option maxHeartbeats 8000000 in
theorem start_ok (d : DiskP) (c : DiskC) (rd : Nat → ByteArray × Int) (dv pv : Value) (F N E : Nat) (w : World) (h : DiskAt w d c) (hd : StrsC w dv c.durable) (hp : PendC w pv c.pending) (hps : ∀ x ∈ c.pending, x.2.size = 512) (hl : c.pending.length ≤ 1000) (hn : c.durable.length ≤ 1000)
    (hz : ∀ q, (c.read q).1.size ≤ 140737488340000) (hok : openOK c.durable.length F N E) (hrd : rd = fun k : Nat => c.read ((F : Int) + (k : Int))) :
    Calls Tryd.prog 13 #[.pointer (some ⟨d.a, 0, none⟩), .agg #[dv, pv], .agg #[.int .i64 F, .int .i64 N], .int .i64 E] w fun e w' => ∃ (j : Jour) (a : Option Addr) (cp : Nat), e = .returned (.tuple #[.pointer (some ⟨j.jb, 0, none⟩), .agg (rJourV F N E j.next j.chain (.slice a j.recs.length cp)), .bool true]) ∧ Started w w' d F N E rd j a cp := by
  obtain ⟨da, dc, rfl⟩ := hd.len
  obtain ⟨pa, pc, hpe, hpc⟩ := hp
  have hpp : PendC w pv c.pending := ⟨pa, pc, hpe, hpc⟩
  subst hpe
  obtain ⟨w1, hw1⟩ : ∃ x, x = ((w.alloc (.cells #[.slice da c.durable.length dc, .slice pa c.pending.length pc] 29)).alloc (.cells #[.int .i64 F, .int .i64 N] 24)).alloc (.cells #[.int .i64 0, .int .i64 0, .int .i64 0, .int .i64 0, .string ⟨#[]⟩, .slice none 0 0] 38) := ⟨_, rfl⟩
  have t0 : At w1 w.heap.size 29 #[.slice da c.durable.length dc, .slice pa c.pending.length pc] := by rw [hw1]; exact ((At.new w _ _).alloc _).alloc _
  have t1 : At w1 (w.heap.size + 1) 24 #[.int .i64 F, .int .i64 N] := by rw [hw1]; exact (At.new1 w _ _ _).alloc _
  have t2 : At w1 (w.heap.size + 1 + 1) 38 #[.int .i64 0, .int .i64 0, .int .i64 0, .int .i64 0, .string ⟨#[]⟩, .slice none 0 0] := by
    rw [hw1]
    have := At.new1 (w.alloc (.cells #[.slice da c.durable.length dc, .slice pa c.pending.length pc] 29)) (.cells #[.int .i64 F, .int .i64 N] 24) 38 #[.int .i64 0, .int .i64 0, .int .i64 0, .int .i64 0, .string ⟨#[]⟩, .slice none 0 0]
    rw [World.size_alloc] at this
    exact this
  have hbw : Below w.heap.size w w1 := by rw [hw1]; exact (((Below.refl _ _).alloc (Nat.le_refl _) _).alloc (by simp) _).alloc (by simp; omega) _
  have hsz : w1.heap.size = w.heap.size + 3 := by rw [hw1]; simp
  have HD1 := Lib.hid (h.below hbw (Nat.le_refl _)); have HS1 := Lib.hid (StrsC.below hd hbw); have HP1 := Lib.hid (PendC.below hpp hbw)
  have T0 := Lib.hid t0; have T1 := Lib.hid t1; have T2 := Lib.hid t2; have HBW := Lib.hid hbw; have HSZ := Lib.hid hsz; have HW1 := Lib.hid hw1; have HPS := Lib.hid hps; have HZ := Lib.hid hz
  clear t0 t1 t2 hbw hsz hw1 h hd hpp hpc hps hz
  have k0 := T1.out.cell 0; have k1 := T1.out.cell 1
  simp only [List.getElem?_toArray, List.getElem?_cons_zero, List.getElem?_cons_succ] at k0 k1
  go_enter Tryd.func13, Tryd.ntmps13
  go_upto_region 1 with fail
  rw [← HW1.out]
  go_wp2_with fail
  · have hok0 := hok
    obtain ⟨h1, h2, h3, h4, h5, h6⟩ := hok
    have hrd2 : ∀ k, rd k = c.read ((F : Int) + (k : Int)) := fun k => by rw [hrd]
    have hro := r51Open_any (.slice da c.durable.length dc) (.slice pa c.pending.length pc) c (F : Int) (N : Int) (E : Int)
    rw [Int.toNat_natCast, Int.toNat_natCast, ← hrd] at hro
    have HRO := Lib.hid hro; have HOK := Lib.hid hok0; clear hro hrd hok0
    refine (jOpen_ok d c rd F N E c.durable.length w1 rfl HD1.out (by omega) (by omega) (by omega) (by omega) (by omega) (fun q => Nat.le_trans (HZ.out q) (by omega)) hrd2).mono ?_
    rintro e2 w2 ⟨j, rfl, hj, eda, efi, e2', eep, e4, e5, ech, hjf, hb2⟩
    have T02 := T0.out.below hb2 T0.out.lt; have T12 := T1.out.below hb2 T1.out.lt
    have k2 := T02.cell 0; have k3 := T02.cell 1; have k4 := T12.cell 0; have k5 := T12.cell 1
    simp only [List.getElem?_toArray, List.getElem?_cons_zero, List.getElem?_cons_succ] at k2 k3 k4 k5
    have HB2 := Lib.hid hb2; have HJ := Lib.hid hj; have E2 := Lib.hid e2'; have E4 := Lib.hid e4; have E5 := Lib.hid e5; have EDA := Lib.hid eda; have EFI := Lib.hid efi; have EEP := Lib.hid eep; have ECH := Lib.hid ech; have HJF := Lib.hid hjf; clear hb2 hj hjf e2' e4 e5 eda efi eep ech T02 T12 k0 k1 hrd2
    go_wp2_with fail
    refine (HRO.out w2 (StrsC.below HS1.out HB2.out) (PendC.below HP1.out HB2.out) HPS.out (by omega) (by omega) HZ.out HOK.out).mono ?_
    rintro e3 w3 ⟨rv, rfl, hrs, hb3, hrvf⟩
    obtain ⟨ra, rc, rfl⟩ := hrs.len
    have HJ3 := Lib.hid (JourAt.below HJ.out hb3 (Nat.le_refl _)); have HRS := Lib.hid hrs
    have HB3 := Lib.hid (HB2.out.trans (hb3.mono HB2.out.size)); clear hb3 k2 k3 k4 k5 hrs
    unfold rJourV
    have hrs := HRS.out
    rw [← E4.out] at hrs hrvf
    rw [← E4.out, ← E5.out]
    have HRS' := Lib.hid hrs; have HRVF := Lib.hid hrvf; clear hrs HRS hrvf
    obtain ⟨jc, hjc⟩ : ∃ x, x = (opened E N rd).jch := ⟨_, rfl⟩
    rw [← hjc]
    have HJC := Lib.hid hjc; clear hjc
    have hfew := HJ3.out.few
    have hcnt := HJ3.out.count
    have hnxt := HJ3.out.next
    have hE2 := E2.out
    go_wp2_with fail
    refine Lex.wp_region_lexN (fun k => k = w3.heap.size) [17, 23] 24 [16, 3, 4] (by kernel_rfl) (by kernel_rfl) (by kernel_rfl) ?_
    simp only [Lex.wpCuts, List.take_succ_cons, List.take_zero, List.drop_succ_cons, List.drop_zero]
    go_wp2_with fail
    have hba : Below w3.heap.size w3 (w3.alloc (.cells #[.int .i64 F, .int .i64 N, .int .i64 E, .int .i64 j.next, .string jc, .slice ra j.recs.length rc] 38)).drew := ((Below.refl w3.heap.size w3).alloc (Nat.le_refl _) _).drew
    have hat : At (w3.alloc (.cells #[.int .i64 F, .int .i64 N, .int .i64 E, .int .i64 j.next, .string jc, .slice ra j.recs.length rc] 38)).drew w3.heap.size 38 #[.int .i64 F, .int .i64 N, .int .i64 E, .int .i64 j.next, .string jc, .slice ra j.recs.length rc] := (At.new w3 _ _).drew
    have HBA := Lib.hid hba; have HAT := Lib.hid hat; clear hba hat
    refine (records_live j _ (JourAt.below HJ3.out HBA.out (Nat.le_refl _))).mono ?_
    rintro e5 w5 ⟨v5, rfl, hs5, hb5⟩
    have hat5 := HAT.out.below hb5 HAT.out.lt
    have g5 := hat5.cell 5; have g0 := hat5.cell 0; have g1 := hat5.cell 1; have g2 := hat5.cell 2; have g3 := hat5.cell 3; have g4 := hat5.cell 4
    simp only [List.getElem?_toArray, List.getElem?_cons_zero, List.getElem?_cons_succ] at g0 g1 g2 g3 g4 g5
    have hb35 := HBA.out.trans (hb5.mono HBA.out.size)
    have HB5 := Lib.hid hb5; have HS5 := Lib.hid hs5; have HAT5 := Lib.hid hat5; have HB35 := Lib.hid hb35; clear hb5 hs5 hat5 hb35
    obtain ⟨a5, c5, rfl⟩ := HS5.out.len
    go_wp2_with fail
    refine Lex.Mid.intro (fun k hk hl => by subst hk; exact HB5.out.block _ hl) ?_
    go_wp2_with fail
    refine (eqStrs_any _ _ j.recs j.recs _ HS5.out (StrsC.below HRS'.out HB35.out) (by omega) (by omega)).mono ?_
    rintro e6 w6 ⟨rfl, n6, rfl⟩
    rw [show decide (j.recs = j.recs) = true by simp]
    go_wp2_with fail
    refine Lex.Mid.intro (fun k hk hl => by subst hk; exact HB5.out.block _ hl) ?_
    go_wp2_with fail
    refine (jFree_any j _ (JourAt.below HJ3.out (below_drewN HB35.out n6) (Nat.le_refl _))).mono ?_
    rintro e7 w7 ⟨rfl, rfl⟩
    rw [E2.out]
    go_wp2_with fail
    refine Lex.Mid.intro (fun k hk hl => by subst hk; exact HB5.out.block _ hl) ?_
    go_wp2_with fail
    refine (rFree_any F N E j.next jc _ _ (by omega) (by omega)).mono ?_
    rintro e8 w8 ⟨rfl, hb8⟩
    clear g0 g1 g2 g3 g4 g5
    have hb58 : Below w5.heap.size w5 w8 := (below_drewN (Below.refl _ _) (n6 + 1)).trans hb8
    have hat8 := HAT5.out.below hb58 HAT5.out.lt
    have g5 := hat8.cell 5; have g0 := hat8.cell 0; have g1 := hat8.cell 1; have g2 := hat8.cell 2; have g3 := hat8.cell 3; have g4 := hat8.cell 4
    simp only [List.getElem?_toArray, List.getElem?_cons_zero, List.getElem?_cons_succ] at g0 g1 g2 g3 g4 g5
    have HB38 := Lib.hid (HB35.out.trans (hb58.mono HB35.out.size)); clear hb58 hat8 hb8
    go_wp2_with fail
    refine Lex.EndsN.intro (by kernel_rfl) ⟨?_, ?_, trivial⟩ ?_
    · exact ⟨rfl, by show (World.cell? _ ⟨w3.heap.size, 5, none⟩).isSome = true; rw [HAT.out.cell 5]; rfl⟩
    · exact ⟨rfl, by show (World.cell? _ ⟨w3.heap.size, 0, none⟩).isSome = true; rw [HAT.out.cell 0]; rfl⟩
    have t23 := T2.out.below (HB3.out.trans (HB38.out.mono HB3.out.size)) T2.out.lt
    have yo : ∀ i, w8.cell? ⟨w.heap.size + 1 + 1, i, none⟩ = (#[.int .i64 0, .int .i64 0, .int .i64 0, .int .i64 0, .string ⟨#[]⟩, .slice none 0 0] : Array Value)[i]? := fun i => t23.cell i
    have y0 := yo 0; have y1 := yo 1; have y2 := yo 2; have y3 := yo 3; have y4 := yo 4; have y5 := yo 5
    have z0 : w8.frozen? ⟨w.heap.size + 1 + 1, 0, none⟩ = false := t23.free 0
    have z1 : w8.frozen? ⟨w.heap.size + 1 + 1, 1, none⟩ = false := t23.free 1
    have z2 : w8.frozen? ⟨w.heap.size + 1 + 1, 2, none⟩ = false := t23.free 2
    have z3 : w8.frozen? ⟨w.heap.size + 1 + 1, 3, none⟩ = false := t23.free 3
    have z4 : w8.frozen? ⟨w.heap.size + 1 + 1, 4, none⟩ = false := t23.free 4
    have z5 : w8.frozen? ⟨w.heap.size + 1 + 1, 5, none⟩ = false := t23.free 5
    simp only [List.getElem?_toArray, List.getElem?_cons_zero, List.getElem?_cons_succ] at y0 y1 y2 y3 y4 y5
    clear yo
    have T23 := Lib.hid t23; clear t23
    go_wp2_with fail
    refine Lex.wp_region_lex (by kernel_rfl) (by kernel_rfl) ?_
    go_wp2_with fail
    refine Lex.Ends.intro (by kernel_rfl) ?_
    go_wp2_with fail
    have hb8 := HBW.out.trans ((HB3.out.trans (HB38.out.mono HB3.out.size)).mono HBW.out.size)
    refine start_done (p8 := .pointer (some ⟨j.jb, 0, none⟩)) (p10 := .bool true) rfl rfl rfl (At.put6 T23.out _ _ _ _ _ _).drew ⟨j, ra, rc, ?_, ?_⟩
    · rw [ECH.out, ← HJC.out]
      rfl
    have hj8 := JourAt.below HJ3.out HB38.out (Nat.le_refl _)
    have hsz1 := HSZ.out
    have hs12 := HB2.out.size
    have hfar : ∀ k, w1.heap.size ≤ k → (put6 w8 (w.heap.size + 1 + 1) (.int .i64 F) (.int .i64 N) (.int .i64 E) (.int .i64 j.next) (.string jc) (.slice ra j.recs.length rc)).drew.heap[k]? = w8.heap[k]? := fun k hk => put6_far_drew (b := w.heap.size + 1 + 1) (by omega) _ _ _ _ _ _
    refine ⟨hj8.keep (fun k hk => hfar k (HJF.out k hk)), EDA.out, EFI.out, E2.out, EEP.out, E4.out, E5.out, ECH.out, fun k hk => ?_, ?_, fun k hk => ⟨?_, fun hf => ?_⟩, ?_⟩
    · have := HJF.out k hk
      omega
    · refine (StrsC.below HRS'.out HB38.out).keep (fun k hk hl => hfar k ?_)
      have := HRVF.out k hk
      omega
    · have := HRVF.out k hk
      omega
    · have h1 := HRVF.out k hk
      have h2 := HJ.out.lt k hf
      omega
    · exact (below6 (b := w.heap.size + 1 + 1) hb8 (by omega) _ _ _ _ _ _).drew
set_option maxRecDepth 100000 in
set_option maxHeartbeats 8000000 in
theorem start_bad (d : DiskP) (c : DiskC) (dv pv : Value) (f n ep : Int) (w : World) (h : DiskAt w d c) (hd : StrsC w dv c.durable) (hp : PendC w pv c.pending) (hn : c.durable.length ≤ 1000) (hok : ¬ openOK c.durable.length f n ep) :
    Calls Tryd.prog 13 #[.pointer (some ⟨d.a, 0, none⟩), .agg #[dv, pv], .agg #[.int .i64 f, .int .i64 n], .int .i64 ep] w fun e w' => e = .returned (.tuple #[.pointer none, .agg (rJourV 0 0 0 0 ⟨#[]⟩ (.slice none 0 0)), .bool true]) ∧ Below w.heap.size w w' := by
  obtain ⟨da, dc, rfl⟩ := hd.len
  obtain ⟨pa, pc, hpe, hpc⟩ := hp
  have hpp : PendC w pv c.pending := ⟨pa, pc, hpe, hpc⟩
  subst hpe
  obtain ⟨w1, hw1⟩ : ∃ x, x = ((w.alloc (.cells #[.slice da c.durable.length dc, .slice pa c.pending.length pc] 29)).alloc (.cells #[.int .i64 f, .int .i64 n] 24)).alloc (.cells #[.int .i64 0, .int .i64 0, .int .i64 0, .int .i64 0, .string ⟨#[]⟩, .slice none 0 0] 38) := ⟨_, rfl⟩
  have t0 : At w1 w.heap.size 29 #[.slice da c.durable.length dc, .slice pa c.pending.length pc] := by rw [hw1]; exact ((At.new w _ _).alloc _).alloc _
  have t1 : At w1 (w.heap.size + 1) 24 #[.int .i64 f, .int .i64 n] := by rw [hw1]; exact (At.new1 w _ _ _).alloc _
  have t2 : At w1 (w.heap.size + 1 + 1) 38 #[.int .i64 0, .int .i64 0, .int .i64 0, .int .i64 0, .string ⟨#[]⟩, .slice none 0 0] := by
    rw [hw1]
    have := At.new1 (w.alloc (.cells #[.slice da c.durable.length dc, .slice pa c.pending.length pc] 29)) (.cells #[.int .i64 f, .int .i64 n] 24) 38 #[.int .i64 0, .int .i64 0, .int .i64 0, .int .i64 0, .string ⟨#[]⟩, .slice none 0 0]
    rw [World.size_alloc] at this
    exact this
  have hbw : Below w.heap.size w w1 := by rw [hw1]; exact (((Below.refl _ _).alloc (Nat.le_refl _) _).alloc (by simp) _).alloc (by simp; omega) _
  have hsz : w1.heap.size = w.heap.size + 3 := by rw [hw1]; simp
  have HD1 := Lib.hid (h.below hbw (Nat.le_refl _)); have HS1 := Lib.hid (StrsC.below hd hbw); have HP1 := Lib.hid (PendC.below hpp hbw)
  have T0 := Lib.hid t0; have T1 := Lib.hid t1; have T2 := Lib.hid t2; have HBW := Lib.hid hbw; have HSZ := Lib.hid hsz; have HW1 := Lib.hid hw1
  clear t0 t1 t2 hbw hsz hw1 h hd hpp hpc
  have k0 := T1.out.cell 0; have k1 := T1.out.cell 1
  simp only [List.getElem?_toArray, List.getElem?_cons_zero, List.getElem?_cons_succ] at k0 k1
  go_enter Tryd.func13, Tryd.ntmps13
  go_upto_region 1 with fail
  rw [← HW1.out]
  go_wp2_with fail
  refine (jOpen_bad d c f n ep w1 HD1.out hok).mono ?_
  rintro e2 w2 ⟨rfl, hb2⟩
  have T02 := T0.out.below hb2 T0.out.lt; have T12 := T1.out.below hb2 T1.out.lt
  have k2 := T02.cell 0; have k3 := T02.cell 1; have k4 := T12.cell 0; have k5 := T12.cell 1
  simp only [List.getElem?_toArray, List.getElem?_cons_zero, List.getElem?_cons_succ] at k2 k3 k4 k5
  have HB2 := Lib.hid hb2; clear hb2 T02 T12 k0 k1
  go_wp2_with fail
  refine (r51Open_bad _ _ _ _ f n ep w2 (by omega) hok).mono ?_
  rintro e3 w3 ⟨rfl, hb3⟩
  have HB3 := Lib.hid (HB2.out.trans (hb3.mono HB2.out.size)); clear hb3 k2 k3 k4 k5
  have HOK := Lib.hid hok; clear hok
  unfold rJourV
  go_wp2_with fail
  refine Lex.wp_region_lexN (fun k => k = w3.heap.size) [17, 23] 24 [16, 3, 4] (by kernel_rfl) (by kernel_rfl) (by kernel_rfl) ?_
  simp only [Lex.wpCuts, List.take_succ_cons, List.take_zero, List.drop_succ_cons, List.drop_zero]
  go_wp2_with fail
  refine Lex.Mid.intro (fun k _ _ => rfl) ?_
  go_wp2_with fail
  refine Lex.Mid.intro (fun k _ _ => rfl) ?_
  go_wp2_with fail
  refine Lex.Mid.intro (fun k _ _ => rfl) ?_
  go_wp2_with fail
  refine Lex.EndsN.intro (by kernel_rfl) ⟨trivial, trivial, trivial⟩ ?_
  go_wp2_with fail
  have t23 := T2.out.below HB3.out T2.out.lt
  have yo : ∀ o i, (w3.alloc o).cell? ⟨w.heap.size + 1 + 1, i, none⟩ = (#[.int .i64 0, .int .i64 0, .int .i64 0, .int .i64 0, .string ⟨#[]⟩, .slice none 0 0] : Array Value)[i]? := fun o i => (t23.alloc o).cell i
  have y0 := fun o => yo o 0; have y1 := fun o => yo o 1; have y2 := fun o => yo o 2; have y3 := fun o => yo o 3; have y4 := fun o => yo o 4; have y5 := fun o => yo o 5
  have z0 : ∀ o, (w3.alloc o).frozen? ⟨w.heap.size + 1 + 1, 0, none⟩ = false := fun o => (t23.alloc o).free 0
  have z1 : ∀ o, (w3.alloc o).frozen? ⟨w.heap.size + 1 + 1, 1, none⟩ = false := fun o => (t23.alloc o).free 1
  have z2 : ∀ o, (w3.alloc o).frozen? ⟨w.heap.size + 1 + 1, 2, none⟩ = false := fun o => (t23.alloc o).free 2
  have z3 : ∀ o, (w3.alloc o).frozen? ⟨w.heap.size + 1 + 1, 3, none⟩ = false := fun o => (t23.alloc o).free 3
  have z4 : ∀ o, (w3.alloc o).frozen? ⟨w.heap.size + 1 + 1, 4, none⟩ = false := fun o => (t23.alloc o).free 4
  have z5 : ∀ o, (w3.alloc o).frozen? ⟨w.heap.size + 1 + 1, 5, none⟩ = false := fun o => (t23.alloc o).free 5
  simp only [List.getElem?_toArray, List.getElem?_cons_zero, List.getElem?_cons_succ] at y0 y1 y2 y3 y4 y5
  clear yo
  have T23 := Lib.hid t23; clear t23
  refine Lex.wp_region_lex (by kernel_rfl) (by kernel_rfl) ?_
  go_wp2_with fail
  refine Lex.Ends.intro (by kernel_rfl) ?_
  go_wp2_with fail
  have hb3 := HBW.out.trans (HB3.out.mono HBW.out.size)
  refine start_done rfl rfl rfl (At.put6 (T23.out.alloc _) _ _ _ _ _ _).drew.drew ⟨rfl, (below6 (b := w.heap.size + 1 + 1) (hb3.alloc hb3.size _) (by omega) _ _ _ _ _ _).drew.drew⟩
theorem start_any (d : DiskP) (c : DiskC) (dv pv : Value) (f n ep : Int) (w : World) (h : DiskAt w d c) (hd : StrsC w dv c.durable) (hp : PendC w pv c.pending) (hps : ∀ x ∈ c.pending, x.2.size = 512) (hl : c.pending.length ≤ 1000) (hn : c.durable.length ≤ 1000)
    (hz : ∀ q, (c.read q).1.size ≤ 140737488340000) :
    Calls Tryd.prog 13 #[.pointer (some ⟨d.a, 0, none⟩), .agg #[dv, pv], .agg #[.int .i64 f, .int .i64 n], .int .i64 ep] w fun e w' => (∃ (pt : Option Addr) (f' n' e' x : Int) (ch : ByteArray) (a : Option Addr) (m k : Nat), e = .returned (.tuple #[.pointer pt, .agg (rJourV f' n' e' x ch (.slice a m k)), .bool true])) ∧ Below w.heap.size w w' := by
  by_cases hok : openOK c.durable.length f n ep
  · have hok0 := hok
    obtain ⟨h1, h2, h3, h4, h5, h6⟩ := hok
    obtain ⟨F, rfl⟩ : ∃ F : Nat, f = F := ⟨f.toNat, by omega⟩
    obtain ⟨N, rfl⟩ : ∃ N : Nat, n = N := ⟨n.toNat, by omega⟩
    obtain ⟨E, rfl⟩ : ∃ E : Nat, ep = E := ⟨ep.toNat, by omega⟩
    exact (start_ok d c _ dv pv F N E w h hd hp hps hl hn hz hok0 rfl).mono fun e w' ⟨j, a, cp, he, hs⟩ => ⟨⟨_, _, _, _, _, _, _, _, _, he⟩, hs.below⟩
  · exact (start_bad d c dv pv f n ep w h hd hp hn hok).mono fun e w' ⟨he, hb⟩ => ⟨⟨_, _, _, _, _, _, _, _, _, he⟩, hb⟩
end Go.Proofs.YtfgjjdjaiddllaaDoor
namespace Go.Proofs.YtfgjjdjaiddllaaDoor
set_option linter.unusedVariables false
set_option linter.unusedSimpArgs false
open Go Go.RowKit Go.Maps
set_option maxRecDepth 100000 in
set_option maxHeartbeats 2000000 in
theorem dWrite_bad (d : DiskP) (c : DiskC) (p : Nat) (s : ByteArray) (w : World) (hin : p < c.durable.length) (hs : s.size ≠ 512) (hz : s.size ≤ 140737488355328) (h : DiskAt w d c) :
    Calls Tryd.prog 11 #[.pointer (some ⟨d.a, 0, none⟩), .int .i64 p, .string s] w fun e w' => e = .returned (.int .i64 1) ∧ w' = w := by
  have hpos := h.most
  have dd : decide (0 ≤ (p : Int) ∧ (p : Int) < c.durable.length) = true := decide_eq_true ⟨by omega, by omega⟩
  have H := Lib.hid h; clear h
  go_enter Tryd.func11, Tryd.ntmps11
  go_wp2_with fail
  refine (dHas_any d c p w H.out).mono ?_
  rintro e w' ⟨rfl, rfl⟩
  rw [dd]
  have d2 : (s.size == 512) = false := by simp; omega
  have d3 : ((s.size : Int) == 512) = false := by simp; omega
  have hs' : (s.size : Int) ≠ 512 := by omega
  go_wp2_with fail
  go_ret
  exact ⟨rfl, rfl⟩
theorem StrsC.blk {w : World} {v : Value} {xs : List ByteArray} (h : StrsC w v xs) (h0 : 0 < xs.length) : ∀ k, v.ownBlock = some k → k < w.heap.size := by
  intro k hk
  obtain ⟨a, c, rfl, h1 | ⟨b, o, rfl, hc⟩⟩ := h
  · omega
  · cases hk
    exact block_lt (hc 0 h0)
theorem PendC.keep {w w' : World} {v : Value} {l : List (Nat × ByteArray)} (h : PendC w v l) (hs : w.heap.size ≤ w'.heap.size) (hk : ∀ k, v.ownBlock = some k → k < w.heap.size → w'.heap[k]? = w.heap[k]?) : PendC w' v l := by
  obtain ⟨a, c, rfl, h0 | ⟨b, rfl, hl, hc⟩⟩ := h
  · exact ⟨a, c, rfl, .inl h0⟩
  · exact ⟨_, c, rfl, .inr ⟨b, rfl, Nat.lt_of_lt_of_le hl hs, fun j x hx => (cell_same (hk b rfl hl)).trans (hc j x hx)⟩⟩
theorem PendC.blk {w : World} {v : Value} {l : List (Nat × ByteArray)} (h : PendC w v l) : ∀ k, v.ownBlock = some k → k < w.heap.size := by
  intro k hk
  obtain ⟨a, c, rfl, ⟨_, rfl, _⟩ | ⟨b, rfl, hl, hc⟩⟩ := h
  · cases hk
  · cases hk; exact hl
theorem PendC.len {w : World} {v : Value} {l : List (Nat × ByteArray)} (h : PendC w v l) : ∃ a c, v = .slice a l.length c := by
  obtain ⟨a, c, h, _⟩ := h
  exact ⟨a, c, h⟩
/-- A disk, and its reference in a box beside it. -/
structure Wr (w0 : World) (n A bx : Nat) (dv pv : Value) (l : List (Nat × ByteArray)) (w : World) (d : DiskP) (c : DiskC) : Prop where
  disk : DiskAt w d c
  a : d.a = A
  dup : ∀ k, d.foot k → w0.heap.size ≤ k
  below : Below w0.heap.size w0 w
  box : At w bx 29 #[dv, pv]
  bxf : ¬ d.foot bx ∧ w0.heap.size ≤ bx
  dur : c.durable = List.replicate n ⟨#[]⟩
  off : c.recording = false ∧ c.recorded = []
  strs : StrsC w dv c.durable
  dvf : ∀ k, dv.ownBlock = some k → k < w.heap.size ∧ k ≠ bx ∧ ¬ d.foot k
  pend : PendC w pv l
  pvf : ∀ k, pv.ownBlock = some k → k < w.heap.size ∧ k ≠ bx ∧ ¬ d.foot k
  sz : ∀ x ∈ c.pending, x.2.size = 512
section
variable {w0 w w' : World} {n A bx : Nat} {dv pv v : Value} {l l' : List (Nat × ByteArray)} {d d' : DiskP} {c c' : DiskC}
theorem Wr.disked (h : Wr w0 n A bx dv pv l w d c) (hs : DStep w w' d d' c') (e1 : c'.durable = c.durable) (e2 : c'.recording = c.recording ∧ c'.recorded = c.recorded) (e3 : ∀ x ∈ c'.pending, x.2.size = 512) : Wr w0 n A bx dv pv l w' d' c' := by
  have far : ∀ k, k < w.heap.size → ¬ d.foot k → ¬ d'.foot k := fun k hk hn hf => by
    rcases hs.foot k hf with h1 | h1
    · exact hn h1
    · omega
  refine ⟨hs.at_, hs.a.trans h.a, fun k hk => ?_, h.below.trans (hs.fr.below h.below.size h.dup), h.box.keep (hs.fr.keep bx h.box.lt h.bxf.1), ⟨far bx h.box.lt h.bxf.1, h.bxf.2⟩, e1.trans h.dur, ⟨e2.1.trans h.off.1, e2.2.trans h.off.2⟩,
    e1 ▸ h.strs.keep (fun k hk hl => hs.fr.keep k hl (h.dvf k hk).2.2), fun k hk => ⟨Nat.lt_of_lt_of_le (h.dvf k hk).1 hs.fr.size, (h.dvf k hk).2.1, far k (h.dvf k hk).1 (h.dvf k hk).2.2⟩,
    h.pend.keep hs.fr.size (fun k hk hl => hs.fr.keep k hl (h.pvf k hk).2.2), fun k hk => ⟨Nat.lt_of_lt_of_le (h.pvf k hk).1 hs.fr.size, (h.pvf k hk).2.1, far k (h.pvf k hk).1 (h.pvf k hk).2.2⟩, e3⟩
  rcases hs.foot k hk with h1 | h1
  · exact h.dup k h1
  · exact Nat.le_trans h.below.size h1
theorem Wr.under (h : Wr w0 n A bx dv pv l w d c) (hb : Below w.heap.size w w') : Wr w0 n A bx dv pv l w' d c :=
  h.disked ⟨h.disk.below hb (Nat.le_refl _), rfl, rfl, rfl, fun _ hk => .inl hk, Fr.of_below hb⟩ rfl ⟨rfl, rfl⟩ h.sz
theorem Wr.reads (h : Wr w0 n A bx dv pv l w d c) (q : Int) : (c.read q).1.size ≤ 512 := by
  unfold DiskC.read
  split
  · split
    · rename_i i hi
      have hil := lastIdx_lt _ _ _ hi
      have := h.sz (c.pending.getD i (0, ⟨#[]⟩)) (by simp [List.getD_eq_getElem?_getD, hil])
      exact Nat.le_of_eq this
    · split
      · decide
      · rw [h.dur]
        simp [List.getD_eq_getElem?_getD, List.getElem?_replicate]
        split <;> decide
  · decide
/-- The reference's disk is stored. -/
theorem Wr.store (h : Wr w0 n A bx dv pv l w d c) (hp : PendC w v l') (hv : ∀ k, v.ownBlock = some k → k ≠ bx ∧ ¬ d.foot k) : Wr w0 n A bx dv v l' ((w.setCell ⟨bx, 0, none⟩ dv).setCell ⟨bx, 1, none⟩ v) d c := by
  have ho : ∀ k, k ≠ bx → ((w.setCell ⟨bx, 0, none⟩ dv).setCell ⟨bx, 1, none⟩ v).heap[k]? = w.heap[k]? := fun k hk => by
    rw [heap_setCell_other _ _ _ _ hk, heap_setCell_other _ _ _ _ hk]
  have hsz : ((w.setCell ⟨bx, 0, none⟩ dv).setCell ⟨bx, 1, none⟩ v).heap.size = w.heap.size := by simp
  exact ⟨h.disk.keep fun k hk => ho k (fun e => h.bxf.1 (e ▸ hk)), h.a, h.dup, (h.below.setCell (p := ⟨bx, 0, none⟩) h.bxf.2 _).setCell (p := ⟨bx, 1, none⟩) h.bxf.2 _, (h.box.set 0 _).set 1 _, h.bxf, h.dur, h.off,
    h.strs.keep (fun k hk _ => ho k (h.dvf k hk).2.1), fun k hk => ⟨by rw [hsz]; exact (h.dvf k hk).1, (h.dvf k hk).2⟩, hp.keep (by omega) (fun k hk _ => ho k (hv k hk).1), fun k hk => ⟨by rw [hsz]; exact hp.blk k hk, hv k hk⟩, h.sz⟩
end
end Go.Proofs.YtfgjjdjaiddllaaDoor
namespace Go.Proofs.YtfgjjdjaiddllaaDoor
set_option linter.unusedVariables false
set_option linter.unusedSimpArgs false
open Go Go.RowKit Go.Maps
/-- What the check of a page is over. -/
def pageText (epoch : Nat) (last : Bool) (dg x : ByteArray) : ByteArray :=
  big epoch 8 ++ ⟨#[if last then 1 else 0]⟩ ++ big x.size 2 ++ dg ++ x ++ zeros (437 - x.size)
theorem zeros_snoc (k : Nat) : zeros k ++ ⟨#[0]⟩ = zeros (k + 1) := by
  apply ByteArray.ext
  have e : ∀ k, Lib.repeatL [(0 : UInt8)] k = List.replicate k 0 := by
    intro k
    induction k with
    | zero => rfl
    | succ k ih => rw [List.replicate_succ, ← ih]; rfl
  rw [ByteArray.data_append]
  show (Lib.repeatL [(0 : UInt8)] k).toArray ++ #[0] = (Lib.repeatL [(0 : UInt8)] (k + 1)).toArray
  rw [e, e, List.replicate_succ', List.append_toArray]
def strSize : Value → Nat
  | .string s => s.size
  | _ => 0
theorem zeros_zero (P : ByteArray) : P ++ zeros 0 = P := by
  apply ByteArray.ext
  rw [ByteArray.data_append]
  show P.data ++ #[] = P.data
  simp
set_option maxRecDepth 100000 in
set_option maxHeartbeats 2000000 in
theorem rPageT_any (ch dg x : ByteArray) (n : Nat) (last : Bool) (w : World) (hn : n < 9223372036854775808) (hc : ch.size ≤ 1000) (hd : dg.size = 32) (hx : x.size ≤ 437) :
    Calls Tryd.prog 44 #[.string ch, .int .i64 n, .bool last, .string dg, .string x] w fun e w' =>
      e = .returned (.string (Sha.sha (⟨#[8]⟩ ++ ch ++ pageText n last dg x) ++ pageText n last dg x)) ∧ Below w.heap.size w w' := by
  obtain ⟨fl, hfl⟩ : ∃ fl : ByteArray, fl = ⟨#[if last then 1 else 0]⟩ := ⟨_, rfl⟩
  have hf1 : fl.size = 1 := by rw [hfl]; rfl
  have h8 := big_size n 8
  have h2 := big_size x.size 2
  obtain ⟨P, hP⟩ : ∃ P, P = big n 8 ++ fl ++ big x.size 2 ++ dg ++ x := ⟨_, rfl⟩
  have hPs : P.size = 43 + x.size := by rw [hP]; simp only [Sha.app_size, h8, h2, hf1, hd]
  have hT : pageText n last dg x = P ++ zeros (437 - x.size) := by rw [hP, hfl]; rfl
  have HFL := Lib.hid hfl; have HP := Lib.hid hP; have HT := Lib.hid hT; clear hfl hP hT
  rw [HT.out]
  generalize pageText n last dg x = T at HT
  go_enter Tryd.func44, Tryd.ntmps44
  cases last with
  | false =>
    have e0 : (⟨#[0]⟩ : ByteArray) = fl := by rw [HFL.out]; rfl
    have E0 := Lib.hid e0; clear e0
    go_wp2_with fail
    rw [E0.out]
    refine (rBig_any n 8 _ hn (by omega) (by omega)).mono ?_
    rintro e1 w1 ⟨rfl, hb1⟩
    have HB1 := Lib.hid hb1; clear hb1
    generalize big n 8 = B1 at *
    go_wp2_with fail
    refine (rBig_any x.size 2 _ (by omega) (by omega) (by omega)).mono ?_
    rintro e2 w2 ⟨rfl, hb2⟩
    have HB2 := Lib.hid (HB1.out.trans (hb2.mono HB1.out.size)); clear hb2
    generalize big x.size 2 = B2 at *
    go_wp2_with fail
    rw [← HP.out]
    go_loopw [12] (fun v wr => ∃ k : Nat, k ≤ 437 - x.size ∧ v = .string (P ++ zeros k) ∧ Below w.heap.size w wr) (fun v _ => 480 - strSize v)
    case atStart => exact ⟨0, by omega, by rw [zeros_zero], HB2.out⟩
    case round =>
      obtain ⟨k, hk, rfl, hbl⟩ := hrel
      obtain ⟨Z, hZ⟩ : ∃ Z, Z = P ++ zeros k := ⟨_, rfl⟩
      have hzs : Z.size = 43 + x.size + k := by rw [hZ, Sha.app_size, hPs, zeros_size]
      rw [← hZ]
      have HZ := Lib.hid hZ; have HBL := Lib.hid hbl; clear hZ hbl
      by_cases hlt : k < 437 - x.size
      · have dk : decide ((Z.size : Int) < 480) = true := by rw [hzs]; simp; omega
        obtain ⟨Z2, hZ2⟩ : ∃ Z2, Z2 = Z ++ ⟨#[0]⟩ := ⟨_, rfl⟩
        have hz2 : Z2.size = Z.size + 1 := by rw [hZ2, Sha.app_size]; rfl
        have hz3 : Z2 = P ++ zeros (k + 1) := by rw [hZ2, HZ.out, ← zeros_snoc, ByteArray.append_assoc]
        have HZ2 := Lib.hid hZ2; have HZ3 := Lib.hid hz3; clear hZ2 hz3
        go_wp2_with fail
        rw [← HZ2.out]
        exact ⟨⟨k + 1, by omega, by rw [HZ3.out], HBL.out⟩, by simp [strSize]; omega⟩
      · have hk' : k = 437 - x.size := by omega
        have dk : decide ((Z.size : Int) < 480) = false := by rw [hzs]; simp; omega
        have hzT : Z = T := by rw [HZ.out, HT.out, hk']
        have HZT := Lib.hid hzT; clear hzT
        obtain ⟨C1, hC1⟩ : ∃ C1 : ByteArray, C1 = ⟨#[8]⟩ ++ ch := ⟨_, rfl⟩
        have hc1 : C1.size = 1 + ch.size := by rw [hC1, Sha.app_size]; rfl
        have HC1 := Lib.hid hC1; clear hC1
        go_wp2_with fail
        refine (rSum_any _ _ (by rw [← HC1.out, Sha.app_size, hc1, hzs]; omega)).mono ?_
        rintro e3 w3 ⟨rfl, hb3⟩
        have HB3 := Lib.hid (HBL.out.trans (hb3.mono HBL.out.size)); clear hb3
        generalize hS : Sha.sha _ = S
        have HS := Lib.hid hS; clear hS
        have hss : S.size = 32 := by rw [← HS.out]; exact Sha.sha_size _
        go_wp2_with fail
        go_ret
        refine ⟨?_, HB3.out⟩
        rw [← HT.out, ← HZT.out, HS.out]
        rfl
  | true =>
    have e0 : (⟨#[1]⟩ : ByteArray) = fl := by rw [HFL.out]; rfl
    have E0 := Lib.hid e0; clear e0
    go_wp2_with fail
    rw [E0.out]
    refine (rBig_any n 8 _ hn (by omega) (by omega)).mono ?_
    rintro e1 w1 ⟨rfl, hb1⟩
    have HB1 := Lib.hid hb1; clear hb1
    generalize big n 8 = B1 at *
    go_wp2_with fail
    refine (rBig_any x.size 2 _ (by omega) (by omega) (by omega)).mono ?_
    rintro e2 w2 ⟨rfl, hb2⟩
    have HB2 := Lib.hid (HB1.out.trans (hb2.mono HB1.out.size)); clear hb2
    generalize big x.size 2 = B2 at *
    go_wp2_with fail
    rw [← HP.out]
    go_loopw [12] (fun v wr => ∃ k : Nat, k ≤ 437 - x.size ∧ v = .string (P ++ zeros k) ∧ Below w.heap.size w wr) (fun v _ => 480 - strSize v)
    case atStart => exact ⟨0, by omega, by rw [zeros_zero], HB2.out⟩
    case round =>
      obtain ⟨k, hk, rfl, hbl⟩ := hrel
      obtain ⟨Z, hZ⟩ : ∃ Z, Z = P ++ zeros k := ⟨_, rfl⟩
      have hzs : Z.size = 43 + x.size + k := by rw [hZ, Sha.app_size, hPs, zeros_size]
      rw [← hZ]
      have HZ := Lib.hid hZ; have HBL := Lib.hid hbl; clear hZ hbl
      by_cases hlt : k < 437 - x.size
      · have dk : decide ((Z.size : Int) < 480) = true := by rw [hzs]; simp; omega
        obtain ⟨Z2, hZ2⟩ : ∃ Z2, Z2 = Z ++ ⟨#[0]⟩ := ⟨_, rfl⟩
        have hz2 : Z2.size = Z.size + 1 := by rw [hZ2, Sha.app_size]; rfl
        have hz3 : Z2 = P ++ zeros (k + 1) := by rw [hZ2, HZ.out, ← zeros_snoc, ByteArray.append_assoc]
        have HZ2 := Lib.hid hZ2; have HZ3 := Lib.hid hz3; clear hZ2 hz3
        go_wp2_with fail
        rw [← HZ2.out]
        exact ⟨⟨k + 1, by omega, by rw [HZ3.out], HBL.out⟩, by simp [strSize]; omega⟩
      · have hk' : k = 437 - x.size := by omega
        have dk : decide ((Z.size : Int) < 480) = false := by rw [hzs]; simp; omega
        have hzT : Z = T := by rw [HZ.out, HT.out, hk']
        have HZT := Lib.hid hzT; clear hzT
        obtain ⟨C1, hC1⟩ : ∃ C1 : ByteArray, C1 = ⟨#[8]⟩ ++ ch := ⟨_, rfl⟩
        have hc1 : C1.size = 1 + ch.size := by rw [hC1, Sha.app_size]; rfl
        have HC1 := Lib.hid hC1; clear hC1
        go_wp2_with fail
        refine (rSum_any _ _ (by rw [← HC1.out, Sha.app_size, hc1, hzs]; omega)).mono ?_
        rintro e3 w3 ⟨rfl, hb3⟩
        have HB3 := Lib.hid (HBL.out.trans (hb3.mono HBL.out.size)); clear hb3
        generalize hS : Sha.sha _ = S
        have HS := Lib.hid hS; clear hS
        have hss : S.size = 32 := by rw [← HS.out]; exact Sha.sha_size _
        go_wp2_with fail
        go_ret
        refine ⟨?_, HB3.out⟩
        rw [← HT.out, ← HZT.out, HS.out]
        rfl
end Go.Proofs.YtfgjjdjaiddllaaDoor
namespace Go.Proofs.YtfgjjdjaiddllaaDoor
set_option linter.unusedVariables false
set_option linter.unusedSimpArgs false
open Go Go.RowKit Go.Maps
theorem pageText_body (E : Nat) (dg r : ByteArray) : pageText E (decide (r.size ≤ 437)) dg (r.extract 0 (min r.size 437)) = pageBody E dg r := by
  have hs : (r.extract 0 (min r.size 437)).size = min r.size 437 := by rw [ByteArray.size_extract]; omega
  unfold pageText pageBody
  rw [hs]
  have e : (⟨#[if decide (r.size ≤ 437) = true then 1 else 0]⟩ : ByteArray) = ⟨#[(lastOf r).toUInt8]⟩ := by
    unfold lastOf
    by_cases h : r.size ≤ 437
    · rw [if_pos (by simpa using h), if_pos (by omega)]; rfl
    · rw [if_neg (by simpa using h), if_neg (by omega)]; rfl
  rw [e]
/-- What lies before the i-th page of a record. -/
def chainAt (E : Nat) (dg r ch : ByteArray) : Nat → ByteArray
  | 0 => ch
  | i + 1 => pageCheck E dg (r.extract (437 * i) r.size) (chainAt E dg r ch i)
/-- The i-th page's operation. -/
def opAt (E f : Nat) (dg r ch : ByteArray) (i : Nat) : POp :=
  ⟨(f + i : Nat), pageCheck E dg (r.extract (437 * i) r.size) (chainAt E dg r ch i) ++ pageBody E dg (r.extract (437 * i) r.size), false⟩
set_option maxRecDepth 10000 in
theorem ext_all (r : ByteArray) : r.extract 0 r.size = r := by
  apply ByteArray.ext
  rw [ByteArray.data_extract]
  exact Array.extract_size
set_option maxRecDepth 10000 in
theorem ext_ext (r : ByteArray) (i : Nat) : (r.extract 437 r.size).extract (437 * i) (r.extract 437 r.size).size = r.extract (437 * (i + 1)) r.size := by
  apply ByteArray.ext
  rw [ByteArray.size_extract, ByteArray.data_extract, ByteArray.data_extract, ByteArray.data_extract, Array.extract_extract]
  rw [show 437 + 437 * i = 437 * (i + 1) by omega]
  exact congrArg (fun q => Array.extract r.data (437 * (i + 1)) q) (by omega)
set_option maxRecDepth 10000 in
theorem chainAt_shift (E : Nat) (dg r ch : ByteArray) : ∀ i, chainAt E dg r ch (i + 1) = chainAt E dg (r.extract 437 r.size) (pageCheck E dg r ch) i
  | 0 => by show pageCheck E dg (r.extract (437 * 0) r.size) ch = _; rw [Nat.mul_zero, ext_all]; rfl
  | i + 1 => by
    show pageCheck E dg (r.extract (437 * (i + 1)) r.size) (chainAt E dg r ch (i + 1)) = pageCheck E dg ((r.extract 437 r.size).extract (437 * i) (r.extract 437 r.size).size) (chainAt E dg (r.extract 437 r.size) (pageCheck E dg r ch) i)
    rw [chainAt_shift E dg r ch i, ext_ext]
theorem opAt_shift (E f : Nat) (dg r ch : ByteArray) (i : Nat) : opAt E f dg r ch (i + 1) = opAt E (f + 1) dg (r.extract 437 r.size) (pageCheck E dg r ch) i := by
  unfold opAt
  rw [chainAt_shift, ext_ext, show f + (i + 1) = f + 1 + i by omega]
theorem opAt_zero (E f : Nat) (dg r ch : ByteArray) : opAt E f dg r ch 0 = ⟨(f : Nat), pageCheck E dg r ch ++ pageBody E dg r, false⟩ := by
  unfold opAt
  rw [Nat.mul_zero, ext_all]
  rfl
def pagesN (n : Nat) : Nat := if n = 0 then 1 else (n + 436) / 437
theorem put_recd (s : PSt) (E f : Nat) (dg r : ByteArray) (h : s.c.recording = true) : (s.put E f dg r).c.recorded = s.c.recorded ++ [opAt E (f + s.next) dg r s.chain 0] ∧ (s.put E f dg r).c.recording = true := by
  rw [opAt_zero]
  show ((s.c.wrote _ _).note _).recorded = _ ∧ ((s.c.wrote _ _).note _).recording = true
  unfold DiskC.note
  rw [if_pos (show (s.c.wrote _ _).recording = true from h)]
  exact ⟨rfl, h⟩
theorem putPages_recd (E f : Nat) (dg : ByteArray) : ∀ (n : Nat) (r : ByteArray) (s : PSt), r.size < n → s.c.recording = true →
    (putPages E f dg n r s).c.recorded = s.c.recorded ++ (List.range (pagesN r.size)).map (opAt E (f + s.next) dg r s.chain) ∧ (putPages E f dg n r s).c.recording = true
  | 0, _, _, h, _ => by omega
  | n + 1, r, s, h, hr => by
    obtain ⟨h1, h2⟩ := put_recd s E f dg r hr
    unfold putPages
    by_cases hs : min r.size 437 = r.size
    · rw [if_pos hs, h1]
      have e : pagesN r.size = 1 := by unfold pagesN; split <;> omega
      rw [e]
      exact ⟨rfl, h2⟩
    · rw [if_neg hs]
      have hz : (r.extract 437 r.size).size = r.size - 437 := by rw [ByteArray.size_extract]; omega
      obtain ⟨h3, h4⟩ := putPages_recd E f dg n (r.extract 437 r.size) (s.put E f dg r) (by rw [hz]; omega) h2
      refine ⟨?_, h4⟩
      have e : pagesN r.size = pagesN (r.size - 437) + 1 := by unfold pagesN; rw [if_neg (by omega), if_neg (by omega)]; omega
      rw [h3, h1, hz, e, List.range_succ_eq_map, List.map_cons, List.map_map, List.append_assoc]
      have hm : (List.range (pagesN (r.size - 437))).map (opAt E (f + (s.put E f dg r).next) dg (r.extract 437 r.size) (s.put E f dg r).chain) = (List.range (pagesN (r.size - 437))).map (opAt E (f + s.next) dg r s.chain ∘ Nat.succ) :=
        List.map_congr_left fun i _ => (opAt_shift E (f + s.next) dg r s.chain i).symm
      rw [hm]
      rfl
theorem putPages_end (E f : Nat) (dg : ByteArray) : ∀ (n : Nat) (r : ByteArray) (s : PSt), r.size < n →
    (putPages E f dg n r s).chain = chainAt E dg r s.chain (pagesN r.size) ∧ (putPages E f dg n r s).next = s.next + pagesN r.size
  | 0, _, _, h => by omega
  | n + 1, r, s, h => by
    unfold putPages
    by_cases hs : min r.size 437 = r.size
    · rw [if_pos hs]
      have e : pagesN r.size = 1 := by unfold pagesN; split <;> omega
      rw [e]
      refine ⟨?_, rfl⟩
      show pageCheck E dg r s.chain = pageCheck E dg (r.extract (437 * 0) r.size) s.chain
      rw [Nat.mul_zero, ext_all]
    · rw [if_neg hs]
      have hz : (r.extract 437 r.size).size = r.size - 437 := by rw [ByteArray.size_extract]; omega
      obtain ⟨h3, h4⟩ := putPages_end E f dg n (r.extract 437 r.size) (s.put E f dg r) (by rw [hz]; omega)
      have e : pagesN r.size = pagesN (r.size - 437) + 1 := by unfold pagesN; rw [if_neg (by omega), if_neg (by omega)]; omega
      rw [h3, h4, hz, e, chainAt_shift]
      refine ⟨rfl, ?_⟩
      show s.next + 1 + _ = _
      omega
theorem pagesN_of (n : Nat) (h : n ≤ 65536) : pagesOf n = pagesN n := by
  unfold pagesOf pagesN
  rw [if_neg (by omega)]
  by_cases h0 : n = 0
  · rw [if_pos (by omega), if_pos h0]; rfl
  · rw [if_neg (by omega), if_neg h0]; omega
end Go.Proofs.YtfgjjdjaiddllaaDoor
namespace Go.Proofs.YtfgjjdjaiddllaaDoor
set_option linter.unusedVariables false
set_option linter.unusedSimpArgs false
open Go Go.RowKit Go.Maps
def syncOp : POp := ⟨0, ⟨#[]⟩, true⟩
/-- The operations that append a record. -/
def wantOps (E f : Nat) (r ch : ByteArray) : List POp := (List.range (pagesN r.size)).map (opAt E f (Sha.sha r) r ch) ++ [syncOp]
theorem wantOps_len (E f : Nat) (r ch : ByteArray) : (wantOps E f r ch).length = pagesN r.size + 1 := by simp [wantOps]
theorem pagesN_pos (n : Nat) : 1 ≤ pagesN n := by unfold pagesN; split <;> omega
theorem pagesN_le (n : Nat) (h : n ≤ 65536) : pagesN n ≤ 150 := by unfold pagesN; split <;> omega
theorem after_recd (E f : Nat) (s ch : ByteArray) (nx : Nat) (c : DiskC) (h : c.recording = true) (h0 : c.recorded = []) :
    ((allPages E f s ⟨nx, ch, c⟩).c.synced.note syncOp).recorded = wantOps E (f + nx) s ch := by
  obtain ⟨h1, h2⟩ := putPages_recd E f (Sha.sha s) (s.size + 1) s ⟨nx, ch, c⟩ (by omega) h
  have h3 : (allPages E f s ⟨nx, ch, c⟩).c.recording = true := h2
  have h4 : (allPages E f s ⟨nx, ch, c⟩).c.recorded = c.recorded ++ (List.range (pagesN s.size)).map (opAt E (f + nx) (Sha.sha s) s ch) := h1
  unfold DiskC.note
  rw [if_pos (show (allPages E f s ⟨nx, ch, c⟩).c.synced.recording = true from h3)]
  show (allPages E f s ⟨nx, ch, c⟩).c.recorded ++ [syncOp] = _
  rw [h4, h0, List.nil_append]
  rfl
theorem after_end (E f : Nat) (s ch : ByteArray) (nx : Nat) (c : DiskC) :
    (allPages E f s ⟨nx, ch, c⟩).chain = chainAt E (Sha.sha s) s ch (pagesN s.size) ∧ (allPages E f s ⟨nx, ch, c⟩).next = nx + pagesN s.size :=
  putPages_end E f (Sha.sha s) (s.size + 1) s ⟨nx, ch, c⟩ (by omega)
/-- The reference's arguments of a page give the page's body. -/
theorem pageText_at (E i : Nat) (dg r : ByteArray) (hi : i < pagesN r.size) :
    pageText E (decide (i + 1 = pagesN r.size)) dg (r.extract (437 * i) (min (437 * (i + 1)) r.size)) = pageBody E dg (r.extract (437 * i) r.size) := by
  have hz : (r.extract (437 * i) r.size).size = r.size - 437 * i := by rw [ByteArray.size_extract]; omega
  have hd : decide (i + 1 = pagesN r.size) = decide ((r.extract (437 * i) r.size).size ≤ 437) := by
    rw [hz]
    apply decide_eq_decide.2
    unfold pagesN at *
    split at hi
    · rw [if_pos (by assumption)]; omega
    · rw [if_neg (by assumption)]; omega
  have hx : r.extract (437 * i) (min (437 * (i + 1)) r.size) = (r.extract (437 * i) r.size).extract 0 (min (r.extract (437 * i) r.size).size 437) := by
    rw [hz]
    apply ByteArray.ext
    rw [ByteArray.data_extract, ByteArray.data_extract, ByteArray.data_extract, Array.extract_extract]
    exact (congrArg (fun p => Array.extract r.data p _) (by omega)).trans (congrArg (fun q => Array.extract r.data _ q) (by omega))
  rw [hd, hx]
  exact pageText_body E dg _
theorem page_take (a b : ByteArray) (h : a.size = 32) : (a ++ b).extract 0 32 = a := by
  apply ByteArray.ext
  rw [ByteArray.data_extract, ByteArray.data_append]
  have hs : a.data.size = 32 := h
  rw [Array.extract_append, hs]
  simp [← hs]
theorem chainAt_size (E : Nat) (dg r ch : ByteArray) (h : ch.size = 32) : ∀ i, (chainAt E dg r ch i).size = 32
  | 0 => h
  | _ + 1 => Sha.sha_size _
/-- A slice of operations, as it is read. -/
def OpsC (w : World) (v : Value) (l : List POp) : Prop :=
  ∃ a c, v = .slice a l.length c ∧ (l.length = 0 ∨ ∃ b, a = some ⟨b, 0, none⟩ ∧ b < w.heap.size ∧ ∀ j x, (oCells l)[j]? = some x → w.cell? ⟨b, j, none⟩ = some x)
theorem OpsC.below {w w' : World} {v : Value} {l : List POp} (h : OpsC w v l) (hb : Below w.heap.size w w') : OpsC w' v l := by
  obtain ⟨a, c, he, h0 | ⟨b, ha, hl, hc⟩⟩ := h
  · exact ⟨a, c, he, .inl h0⟩
  · exact ⟨a, c, he, .inr ⟨b, ha, Nat.lt_of_lt_of_le hl hb.size, fun j x hx => (hb.cell (p := ⟨b, j, none⟩) hl).trans (hc j x hx)⟩⟩
theorem OpsC.own {w : World} {base : Nat} {v : Value} {l : List POp} (h : w.ownsRow base 64 3 v l.length (oCells l)) : OpsC w v l := by
  by_cases h0 : 0 < l.length
  · obtain ⟨g, cap, rfl, hc⟩ := own_cell h h0
    exact ⟨_, _, rfl, .inr ⟨g, rfl, (row_blk h).2, hc⟩⟩
  · have hl : l = [] := List.eq_nil_of_length_eq_zero (by omega)
    subst hl
    obtain ⟨_, ⟨rfl, hn⟩ | ⟨g, cap, cur, rfl, _, hg, _⟩⟩ := h
    · exact ⟨none, 0, rfl, .inl rfl⟩
    · exact ⟨_, _, rfl, .inl rfl⟩
theorem OpsC.len {w : World} {v : Value} {l : List POp} (h : OpsC w v l) : ∃ a c, v = .slice a l.length c := by
  obtain ⟨a, c, h, _⟩ := h
  exact ⟨a, c, h⟩
theorem oCells_len (l : List POp) : (oCells l).length = l.length * 3 := by
  induction l with
  | nil => rfl
  | cons x l ih => simp only [oCells, List.flatMap_cons, List.length_append, List.length_cons, List.length_nil] at ih ⊢; omega
theorem oCells_get (l : List POp) (i : Nat) (h : i < l.length) : (oCells l)[i * 3]? = some (.int .i64 l[i].page) ∧ (oCells l)[i * 3 + 1]? = some (.string l[i].data) ∧ (oCells l)[i * 3 + 2]? = some (.bool l[i].sync) := by
  induction l generalizing i with
  | nil => cases h
  | cons x l ih =>
    match i with
    | 0 => exact ⟨rfl, rfl, rfl⟩
    | i + 1 =>
      have := ih i (by simpa using h)
      rw [show (i + 1) * 3 = i * 3 + 3 by omega]
      exact this
set_option maxRecDepth 100000 in
set_option maxHeartbeats 2000000 in
theorem eqOps_same (v1 v2 : Value) (l : List POp) (w : World) (h1 : OpsC w v1 l) (h2 : OpsC w v2 l) (hl : l.length ≤ 1000000) :
    Calls Tryd.prog 27 #[v1, v2] w fun e w' => e = .returned (.bool true) ∧ ∃ q, w' = w.drewN q := by
  obtain ⟨a1, c1, rfl, h1⟩ := h1
  obtain ⟨a2, c2, rfl, h2⟩ := h2
  have H1 := Lib.hid h1; have H2 := Lib.hid h2; clear h1 h2
  go_enter Tryd.func27, Tryd.ntmps27
  go_wp2_with fail
  go_loopw [13] (fun i wr => ∃ k q : Nat, k ≤ l.length ∧ i = .int .i64 k ∧ wr = w.drewN q) (fun i _ => l.length - (intOf i).toNat)
  case atStart => exact ⟨0, 0, by omega, rfl, rfl⟩
  case round =>
    obtain ⟨k, q, hk, rfl, rfl⟩ := hrel
    by_cases hlt : k < l.length
    · obtain ⟨b1, rfl, hb1, hc1⟩ := H1.out.resolve_left (by omega)
      obtain ⟨b2, rfl, hb2, hc2⟩ := H2.out.resolve_left (by omega)
      have dk : decide ((k : Int) < l.length) = true := by simp; omega
      have hg := oCells_get l k hlt
      have e0 := hc1 _ _ hg.1; have e1 := hc1 _ _ hg.2.1; have e2 := hc1 _ _ hg.2.2
      have f0 := hc2 _ _ hg.1; have f1 := hc2 _ _ hg.2.1; have f2 := hc2 _ _ hg.2.2
      generalize l[k].page = x0 at *
      generalize l[k].data = x1 at *
      generalize l[k].sync = x2 at *
      have HC1 := Lib.hid hc1; have HC2 := Lib.hid hc2; clear hc1 hc2 hg
      go_wp2_with fail
      go_quiet (fail)
      go_wp2_with fail
      exact ⟨⟨k + 1, _, by omega, by go_num, rfl⟩, by simp [intOf]; omega⟩
    · have dk : decide ((k : Int) < l.length) = false := by simp; omega
      go_wp2_with fail
      go_ret
      exact ⟨rfl, q, rfl⟩
end Go.Proofs.YtfgjjdjaiddllaaDoor
namespace Go.Proofs.YtfgjjdjaiddllaaDoor
set_option linter.unusedVariables false
set_option linter.unusedSimpArgs false
open Go Go.RowKit Go.Maps
theorem run_append_none {P : Program} {w : World} (base : Nat) (t ty e : TypeId) (i : TypeInfo) (size : Nat) (ht : P.underlying t = some (.slice e)) (hi : P.info? e = some i) (v : Value) (n c : Nat) (xs : List Value) (hown : w.ownsRow base e size v n xs) :
    (Builtin.append_ #[t, t] ty #[v, .slice none 0 c]).run P w = .ok v w := by
  rcases hown.2 with ⟨rfl, rfl⟩ | ⟨g, cap, cur, rfl, _, _, hnc, _⟩
  · simp [Builtin.append_, run_underlying ht, sizeOf, typeInfo, hi, Builtin.lenOf, Builtin.firstCells]
  · simp [Builtin.append_, run_underlying ht, sizeOf, typeInfo, hi, Builtin.lenOf, Builtin.firstCells, hnc, storeCells]
/-- A slice of strings that came from elsewhere, appended to one's own. -/
theorem wp_append_strs {w : World} {ops : Array Oper} {rest : List Oper} {o : Oper} {a : Act} {Q : Exit → Act → World → Prop} (hgd : o.guard = none) (s x : Operand) (ho : o.op = .call { callee := .builtin .append, args := #[s, x], argTypes := #[22, 22] })
    (base n : Nat) (v : Value) (xs : List Value) (hs : a.eval s = v) (hown : w.ownsRow base 9 1 v n xs) (y : Value) (ys : List ByteArray) (hx : a.eval x = y) (hy : StrsC w y ys) (hn : n + ys.length ≤ 4000000) (hb : base ≤ w.heap.size)
    (h : ∀ v' w', w'.ownsRow base 9 1 v' (n + ys.length) (xs ++ ys.map Value.string) → w.grownBy w' v.ownBlock → wpList Tryd.prog ops Q rest (a.put o.dst v') w') : wpList Tryd.prog ops Q (o :: rest) a w := by
  obtain ⟨i1, hi, hz0, hz1, hz2⟩ := info_parts info_string
  obtain ⟨ya, yc, rfl, hc⟩ := hy
  cases ya with
  | none =>
    have h0 : ys.length = 0 := by
      rcases hc with h0 | ⟨b, o, e, _⟩
      · exact h0
      · cases e
    have hys : ys = [] := List.eq_nil_of_length_eq_zero h0
    subst hys
    refine wpList_plain hgd fun K hK => ?_
    have hrun := run_append_none (P := Tryd.prog) (w := w) base 22 o.type 9 i1 1 Tryd.underlying22 hi v n yc xs hown
    unfold Oper.wp
    have hx' : a.eval x = .slice none 0 yc := hx
    simp [execOp, ho, resolve, invoke, builtin, hs, hx', hrun, Result.andThen]
    exact hK _ _ (h v w (by simpa using hown) ⟨rfl, rfl, rfl, Nat.le_refl _, fun _ _ _ => rfl⟩)
  | some p =>
    refine wpList_append_own w hgd s x 22 ho base 9 i1 (.string ⟨#[]⟩) 1 16 Tryd.underlying22 hi hz0 hz1 hz2 rfl (by omega) v n xs hs hown p ys.length yc (ys.map Value.string) hx (by simp) (fun j u hj => ?_) (fun u hu => by obtain ⟨z, _, rfl⟩ := List.mem_map.1 hu; rfl) (by unfold maxLen; omega) (by omega) hb (fun v' w' h1 h2 _ => h v' w' h1 h2)
    have hjl : j < ys.length := by
      have := (List.getElem?_eq_some_iff.1 hj).1
      simpa using this
    rcases hc with h0 | ⟨b, o', e, hcell⟩
    · omega
    · cases e
      have hadd : (⟨b, o', none⟩ : Addr).add j = ⟨b, o' + j, none⟩ := by unfold Addr.add; split <;> simp_all
      rw [hadd, hcell j hjl]
      simp [List.getElem?_map, hjl] at hj
      rw [← hj]
      simp [List.getD_eq_getElem?_getD, hjl]
theorem results_cell_tmp2 {fn : Func} {p u v : Tmp} {ty : TypeId} (h : fn.results = #[.cell p ty, .tmp u, .tmp v]) (tmps : Array Value) (P : Program) (w : World) :
    (results fn tmps).run P w =
      ((asAddr (tmps.getD p undef)).run P w).andThen fun a w₁ => ((loadVar ty a).run P w₁).andThen fun x w₂ => .ok (.tuple #[x, tmps.getD u undef, tmps.getD v undef]) w₂ := by
  simp only [results, h]
  simp [Sem.run_bind, Result.andThen]
theorem rapp_done {tmps : Array Value} {w : World} {b : Nat} {v0 v1 v2 v3 v4 v5 p5 p6 : Value} {Q : Ending → World → Prop} (hp : tmps.getD 4 undef = .pointer (some ⟨b, 0, none⟩)) (h5 : tmps.getD 5 undef = p5) (h6 : tmps.getD 6 undef = p6) (hat : At w b 38 #[v0, v1, v2, v3, v4, v5])
    (hq : Q (.returned (.tuple #[.agg #[v0, v1, v2, v3, v4, v5], p5, p6])) w) : bodyPost Tryd.prog Tryd.f26 Q Exit.ret { tmps := tmps, defers := [] } w := by
  refine bodyPost_ret (v := .tuple #[.agg #[v0, v1, v2, v3, v4, v5], p5, p6]) ?_ rfl hq
  rw [results_cell_tmp2 (p := 4) (u := 5) (v := 6) (ty := 38) rfl, hp, h5, h6]
  simp [asAddr, run_loadVar_row w b 38 38 _ (0, 0) _ hat Tryd.underlying38 rfl info_rJournal]
/-- The reference's journal, its result and its working copy, in its boxes. -/
structure RpI (w0 : World) (b8 F N E nx : Nat) (ch : ByteArray) (rv : Value) (s : ByteArray) (k : Nat) (lv : Value) (wr : World) : Prop where
  at2 : At wr w0.heap.size 38 (rJourV F N E nx ch rv)
  at4 : At wr (w0.heap.size + 1) 38 #[.int .i64 0, .int .i64 0, .int .i64 0, .int .i64 0, .string ⟨#[]⟩, .slice none 0 0]
  at8 : At wr b8 38 (rJourV F N E nx (chainAt E (Sha.sha s) s ch k) rv)
  ops : wr.ownsRow (b8 + 1) 64 3 lv k (oCells ((List.range k).map (opAt E (F + nx) (Sha.sha s) s ch)))
  below : Below w0.heap.size w0 wr
theorem RpI.under {w0 wr wr' : World} {b8 F N E nx k : Nat} {ch s : ByteArray} {rv lv : Value} (h : RpI w0 b8 F N E nx ch rv s k lv wr) (hb : Below wr.heap.size wr wr') : RpI w0 b8 F N E nx ch rv s k lv wr' :=
  ⟨h.at2.below hb h.at2.lt, h.at4.below hb h.at4.lt, h.at8.below hb h.at8.lt, own_keep h.ops (fun k hk => hb.block k (by obtain ⟨cur, hc⟩ := own_at h.ops hk; exact hc.lt)), h.below.trans (hb.mono h.below.size)⟩
theorem RpI.pushed {w0 wr wa wb : World} {b8 F N E nx k : Nat} {ch s : ByteArray} {rv lv lv2 : Value} (h : RpI w0 b8 F N E nx ch rv s k lv wr) (hb : Below wr.heap.size wr wa) (hg : wa.grownBy wb lv.ownBlock)
    (how : wb.ownsRow (b8 + 1) 64 3 lv2 (k + 1) (oCells ((List.range k).map (opAt E (F + nx) (Sha.sha s) s ch)) ++ [.int .i64 (opAt E (F + nx) (Sha.sha s) s ch k).page, .string (opAt E (F + nx) (Sha.sha s) s ch k).data, .bool false])) (h8 : w0.heap.size + 2 ≤ b8) :
    RpI w0 b8 F N E nx ch rv s (k + 1) lv2 (wb.setCell ⟨b8, 4, none⟩ (.string (chainAt E (Sha.sha s) s ch (k + 1)))) := by
  have hup := own_up h.ops
  have hf : Fr (fun i => lv.ownBlock = some i) wr wb := (Fr.of_below hb).grown hg (fun i hi => .inl hi)
  have hk : ∀ {b : Nat} {t : TypeId} {cs : Array Value}, At wr b t cs → b ≤ b8 → At wb b t cs := fun hat hlt => hf.at hat (fun e => by have := hup _ e; omega)
  refine ⟨(hk h.at2 (by omega)).far (p := ⟨b8, 4, none⟩) (by show _ ≠ b8; omega) _, (hk h.at4 (by omega)).far (p := ⟨b8, 4, none⟩) (by show _ ≠ b8; omega) _, (hk h.at8 (by omega)).set 4 _, ?_, ?_⟩
  · rw [List.range_succ, List.map_append, List.map_singleton, oCells_snoc]
    exact own_keep how (fun i hi => heap_setCell_other _ _ _ _ (by have := own_up how i hi; show i ≠ b8; omega))
  · exact (h.below.trans (hf.below h.below.size (fun i hi => by have := hup i hi; omega))).setCell (p := ⟨b8, 4, none⟩) (by show _ ≤ b8; omega) _
set_option maxRecDepth 100000 in
set_option maxHeartbeats 2000000 in
theorem rAppend_large (F N E nx : Nat) (ch s : ByteArray) (ra : Option Addr) (rl rc : Nat) (w : World) (hs : 65536 < s.size) (hs2 : s.size ≤ 140737488355328) :
    Calls Tryd.prog 26 #[.agg (rJourV F N E nx ch (.slice ra rl rc)), .string s] w fun e w' => e = .returned (.tuple #[.agg (rJourV F N E nx ch (.slice ra rl rc)), .slice none 0 0, .int .i64 7]) ∧ Below w.heap.size w w' := by
  obtain ⟨w1, hw1⟩ : ∃ x, x = (w.alloc (.cells #[.int .i64 F, .int .i64 N, .int .i64 E, .int .i64 nx, .string ch, .slice ra rl rc] 38)).alloc (.cells #[.int .i64 0, .int .i64 0, .int .i64 0, .int .i64 0, .string ⟨#[]⟩, .slice none 0 0] 38) := ⟨_, rfl⟩
  have t2 : At w1 w.heap.size 38 #[.int .i64 F, .int .i64 N, .int .i64 E, .int .i64 nx, .string ch, .slice ra rl rc] := by rw [hw1]; exact (At.new w _ _).alloc _
  have t4 : At w1 (w.heap.size + 1) 38 #[.int .i64 0, .int .i64 0, .int .i64 0, .int .i64 0, .string ⟨#[]⟩, .slice none 0 0] := by rw [hw1]; exact At.new1 w _ _ _
  have hbw : Below w.heap.size w w1 := by rw [hw1]; exact ((Below.refl _ _).alloc (Nat.le_refl _) _).alloc (by simp) _
  have g0 := t2.cell 0; have g1 := t2.cell 1; have g2 := t2.cell 2; have g3 := t2.cell 3; have g4 := t2.cell 4; have g5 := t2.cell 5
  have y0 := t4.cell 0; have y1 := t4.cell 1; have y2 := t4.cell 2; have y3 := t4.cell 3; have y4 := t4.cell 4; have y5 := t4.cell 5
  have z0 := t4.free 0; have z1 := t4.free 1; have z2 := t4.free 2; have z3 := t4.free 3; have z4 := t4.free 4; have z5 := t4.free 5
  simp only [List.getElem?_toArray, List.getElem?_cons_zero, List.getElem?_cons_succ] at g0 g1 g2 g3 g4 g5 y0 y1 y2 y3 y4 y5
  have T4 := Lib.hid t4; have HBW := Lib.hid hbw; have HW1 := Lib.hid hw1; clear t2 t4 hbw hw1
  unfold rJourV
  go_enter Tryd.func26, Tryd.ntmps26
  go_upto_region 1 with fail
  rw [← HW1.out]
  go_wp2_with fail
  exact rapp_done rfl rfl rfl (At.put6 T4.out _ _ _ _ _ _) ⟨rfl, below6 (b := w.heap.size + 1) HBW.out (by omega) _ _ _ _ _ _⟩

set_option maxRecDepth 100000 in
set_option maxHeartbeats 2000000 in
theorem rAppend_full (F N E nx : Nat) (ch s : ByteArray) (ra : Option Addr) (rl rc : Nat) (w : World) (hs : s.size ≤ 65536) (hN : N ≤ 1000000) (hX : nx ≤ 1000000) (hf : (N : Int) - nx < (pagesN s.size : Nat)) :
    Calls Tryd.prog 26 #[.agg (rJourV F N E nx ch (.slice ra rl rc)), .string s] w fun e w' => e = .returned (.tuple #[.agg (rJourV F N E nx ch (.slice ra rl rc)), .slice none 0 0, .int .i64 22]) ∧ Below w.heap.size w w' := by
  obtain ⟨w1, hw1⟩ : ∃ x, x = (w.alloc (.cells #[.int .i64 F, .int .i64 N, .int .i64 E, .int .i64 nx, .string ch, .slice ra rl rc] 38)).alloc (.cells #[.int .i64 0, .int .i64 0, .int .i64 0, .int .i64 0, .string ⟨#[]⟩, .slice none 0 0] 38) := ⟨_, rfl⟩
  have t2 : At w1 w.heap.size 38 #[.int .i64 F, .int .i64 N, .int .i64 E, .int .i64 nx, .string ch, .slice ra rl rc] := by rw [hw1]; exact (At.new w _ _).alloc _
  have t4 : At w1 (w.heap.size + 1) 38 #[.int .i64 0, .int .i64 0, .int .i64 0, .int .i64 0, .string ⟨#[]⟩, .slice none 0 0] := by rw [hw1]; exact At.new1 w _ _ _
  have hbw : Below w.heap.size w w1 := by rw [hw1]; exact ((Below.refl _ _).alloc (Nat.le_refl _) _).alloc (by simp) _
  have hsz : w1.heap.size = w.heap.size + 2 := by rw [hw1]; simp
  have g0 := t2.cell 0; have g1 := t2.cell 1; have g2 := t2.cell 2; have g3 := t2.cell 3; have g4 := t2.cell 4; have g5 := t2.cell 5
  simp only [List.getElem?_toArray, List.getElem?_cons_zero, List.getElem?_cons_succ] at g0 g1 g2 g3 g4 g5
  have T2 := Lib.hid t2; have T4 := Lib.hid t4; have HBW := Lib.hid hbw; have HW1 := Lib.hid hw1; have HSZ := Lib.hid hsz; clear t2 t4 hbw hw1 hsz
  unfold rJourV
  go_enter Tryd.func26, Tryd.ntmps26
  go_upto_region 1 with fail
  rw [← HW1.out]
  go_wp2_with fail
  refine (rNeed_any _ _).mono ?_
  rintro e w1 ⟨rfl, rfl⟩
  rw [pagesN_of _ hs]
  obtain ⟨n, hn⟩ : ∃ n, n = pagesN s.size := ⟨_, rfl⟩
  rw [← hn] at hf ⊢
  have HN := Lib.hid hn; clear hn
  go_wp2_with fail
  refine (rFree_any F N E nx ch _ _ (by omega) (by omega)).mono ?_
  rintro e w3 ⟨rfl, hb3⟩
  clear g0 g1 g2 g3 g4 g5
  have t3 := T2.out.below hb3 T2.out.lt
  have g0 := t3.cell 0; have g1 := t3.cell 1; have g2 := t3.cell 2; have g3 := t3.cell 3; have g4 := t3.cell 4; have g5 := t3.cell 5
  simp only [List.getElem?_toArray, List.getElem?_cons_zero, List.getElem?_cons_succ] at g0 g1 g2 g3 g4 g5
  have T23 := Lib.hid t3; have T43 := Lib.hid (T4.out.below hb3 T4.out.lt); have HBW3 := Lib.hid (HBW.out.trans (hb3.mono HBW.out.size)); have hs3 := hb3.size; have HSZ1 := HSZ.out; rw [HSZ1] at hs3; clear t3 hb3 T2 T4 HBW HW1 HSZ HSZ1
  have y0 := T43.out.cell 0; have y1 := T43.out.cell 1; have y2 := T43.out.cell 2; have y3 := T43.out.cell 3; have y4 := T43.out.cell 4; have y5 := T43.out.cell 5
  have z0 := T43.out.free 0; have z1 := T43.out.free 1; have z2 := T43.out.free 2; have z3 := T43.out.free 3; have z4 := T43.out.free 4; have z5 := T43.out.free 5
  simp only [List.getElem?_toArray, List.getElem?_cons_zero, List.getElem?_cons_succ] at y0 y1 y2 y3 y4 y5
  have d1 : decide ((N : Int) - nx < n) = true := by simp; omega
  go_wp2_with fail
  exact rapp_done rfl rfl rfl (At.put6 T43.out _ _ _ _ _ _) ⟨rfl, below6 (b := w.heap.size + 1) HBW3.out (by omega) _ _ _ _ _ _⟩
set_option maxRecDepth 100000 in
set_option maxHeartbeats 8000000 in
theorem rAppend_ok (F N E nx : Nat) (ch s : ByteArray) (ra : Option Addr) (rc : Nat) (recs : List ByteArray) (w : World) (hrv : StrsC w (.slice ra recs.length rc) recs) (hs : s.size ≤ 65536) (hF : F ≤ 1000000) (hN : N ≤ 1000000) (hX : nx ≤ 1000000) (hE : E < 9223372036854775808) (hch : ch.size = 32) (hl : recs.length ≤ 1000000) (hf : nx + pagesN s.size ≤ N) :
    Calls Tryd.prog 26 #[.agg (rJourV F N E nx ch (.slice ra recs.length rc)), .string s] w fun e w' => ∃ rv' v, e = .returned (.tuple #[.agg (rJourV F N E (nx + pagesN s.size : Nat) (chainAt E (Sha.sha s) s ch (pagesN s.size)) rv'), v, .int .i64 0]) ∧
      StrsC w' rv' (recs ++ [s]) ∧ OpsC w' v (wantOps E (F + nx) s ch) ∧ Below w.heap.size w w' ∧ ∀ k, rv'.ownBlock = some k → w.heap.size ≤ k := by
  have HRV := Lib.hid hrv; have HCH := Lib.hid hch; clear hrv hch
  have hnp := pagesN_le _ hs
  obtain ⟨w1, hw1⟩ : ∃ x, x = (w.alloc (.cells #[.int .i64 F, .int .i64 N, .int .i64 E, .int .i64 nx, .string ch, .slice ra recs.length rc] 38)).alloc (.cells #[.int .i64 0, .int .i64 0, .int .i64 0, .int .i64 0, .string ⟨#[]⟩, .slice none 0 0] 38) := ⟨_, rfl⟩
  have t2 : At w1 w.heap.size 38 #[.int .i64 F, .int .i64 N, .int .i64 E, .int .i64 nx, .string ch, .slice ra recs.length rc] := by rw [hw1]; exact (At.new w _ _).alloc _
  have t4 : At w1 (w.heap.size + 1) 38 #[.int .i64 0, .int .i64 0, .int .i64 0, .int .i64 0, .string ⟨#[]⟩, .slice none 0 0] := by rw [hw1]; exact At.new1 w _ _ _
  have hbw : Below w.heap.size w w1 := by rw [hw1]; exact ((Below.refl _ _).alloc (Nat.le_refl _) _).alloc (by simp) _
  have hsz : w1.heap.size = w.heap.size + 2 := by rw [hw1]; simp
  have g0 := t2.cell 0; have g1 := t2.cell 1; have g2 := t2.cell 2; have g3 := t2.cell 3; have g4 := t2.cell 4; have g5 := t2.cell 5
  simp only [List.getElem?_toArray, List.getElem?_cons_zero, List.getElem?_cons_succ] at g0 g1 g2 g3 g4 g5
  have T2 := Lib.hid t2; have T4 := Lib.hid t4; have HBW := Lib.hid hbw; have HW1 := Lib.hid hw1; have HSZ := Lib.hid hsz; clear t2 t4 hbw hw1 hsz
  unfold rJourV
  go_enter Tryd.func26, Tryd.ntmps26
  go_upto_region 1 with fail
  rw [← HW1.out]
  go_wp2_with fail
  refine (rNeed_any _ _).mono ?_
  rintro e w1 ⟨rfl, rfl⟩
  rw [pagesN_of _ hs]
  obtain ⟨n, hn⟩ : ∃ n, n = pagesN s.size := ⟨_, rfl⟩
  rw [← hn] at hf ⊢
  have HN := Lib.hid hn; clear hn
  go_wp2_with fail
  refine (rFree_any F N E nx ch _ _ (by omega) (by omega)).mono ?_
  rintro e w3 ⟨rfl, hb3⟩
  clear g0 g1 g2 g3 g4 g5
  have t3 := T2.out.below hb3 T2.out.lt
  have g0 := t3.cell 0; have g1 := t3.cell 1; have g2 := t3.cell 2; have g3 := t3.cell 3; have g4 := t3.cell 4; have g5 := t3.cell 5
  simp only [List.getElem?_toArray, List.getElem?_cons_zero, List.getElem?_cons_succ] at g0 g1 g2 g3 g4 g5
  have T23 := Lib.hid t3; have T43 := Lib.hid (T4.out.below hb3 T4.out.lt); have HBW3 := Lib.hid (HBW.out.trans (hb3.mono HBW.out.size)); have hs3 := hb3.size; have HSZ1 := HSZ.out; rw [HSZ1] at hs3; clear t3 hb3 T2 T4 HBW HW1 HSZ HSZ1
  have d1 : decide ((N : Int) - nx < n) = false := by simp; omega
  have hn150 : n ≤ 150 := by have := HN.out; omega
  clear hnp
  obtain ⟨i0, hi, hz0, hz1, hz2⟩ := info_parts info_PageOp
  go_wp2_with fail
  have hst : RpI w w3.heap.size F N E nx ch (.slice ra recs.length rc) s 0 (.slice none 0 0) (w3.alloc (.cells #[.int .i64 F, .int .i64 N, .int .i64 E, .int .i64 nx, .string ch, .slice ra recs.length rc] 38)) :=
    ⟨T23.out.alloc _, T43.out.alloc _, At.new w3 _ _, ⟨rfl, .inl ⟨rfl, rfl⟩⟩, HBW3.out.alloc HBW3.out.size _⟩
  have HST := Lib.hid hst; clear hst g0 g1 g2 g3 g4 g5
  go_loopw [9, 10] (fun lv iv wr => ∃ k : Nat, k ≤ n ∧ iv = .int .i64 k ∧ RpI w w3.heap.size F N E nx ch (.slice ra recs.length rc) s k lv wr) (fun _ iv _ => n - (intOf iv).toNat)
  case atStart => exact ⟨0, Nat.zero_le _, rfl, HST.out⟩
  case round =>
    obtain ⟨k, hk, rfl, hr⟩ := hrel
    obtain ⟨la, lm, lc, rfl⟩ := own_slice hr.ops
    have HRP := Lib.hid hr; clear hr
    by_cases hlt : k < n
    · have dk : decide ((k : Int) < n) = true := by simp; omega
      have hkb : 437 * k ≤ s.size := by
        have := HN.out
        unfold pagesN at this
        split at this <;> omega
      obtain ⟨M, hM⟩ : ∃ M, M = min (437 * (k + 1)) s.size := ⟨_, rfl⟩
      have hmin : min (((k : Int) + 1) * 437) (s.size : Int) = (M : Int) := by omega
      have hM1 : k * 437 ≤ M := by omega
      have hM2 : M ≤ s.size := by omega
      have hM3 : M ≤ k * 437 + 437 := by omega
      have HM := Lib.hid hM; clear hM
      obtain ⟨C, hC⟩ : ∃ C, C = chainAt E (Sha.sha s) s ch k := ⟨_, rfl⟩
      have hcs : C.size = 32 := by rw [hC]; exact chainAt_size _ _ _ _ HCH.out k
      have HC := Lib.hid hC; clear hC
      have q1 : wr.cell? ⟨w.heap.size, 2, none⟩ = some (.int .i64 E) := HRP.out.at2.cell 2
      have q2 : wr.cell? ⟨w3.heap.size, 4, none⟩ = some (.string C) := by rw [HC.out]; exact HRP.out.at8.cell 4
      have l1 := HRP.out.at2.lt; have l2 := HRP.out.at8.lt
      go_upto_region 11 with fail
      go_cut [11] (fun sv wx => ∃ (x : ByteArray) (b : Bool), x = s.extract (k * 437) M ∧ b = decide (k + 1 = n) ∧ sv = .string (Sha.sha (⟨#[8]⟩ ++ C ++ pageText E b (Sha.sha s) x) ++ pageText E b (Sha.sha s) x) ∧ Below wr.heap.size wr wx)
      case first =>
        refine Lex.wp_region_treeV [1, 3, 9, 18, 20] [0, 1, 0, 4, 0, 0, 32, 112, 0, 256, 0, 0, 2048, 0, 8192, 24576, 0, 65536, 253952, 523264, 1048575, 2097151] [0, 2, 4, 5, 6, 7, 8, 10, 11, 12, 13, 14, 15, 16, 17] (.alt 1 [] (.alt 3 [] (.alt 9 [] (.alt 18 [19] (.alt 20 [21] .nil .nil) .nil) (.alt 18 [19] (.alt 9 [] (.alt 20 [21] .nil .nil) .nil) .nil)) (.alt 9 [] (.alt 3 [] (.alt 18 [19] (.alt 20 [21] .nil .nil) .nil) (.alt 18 [19] (.alt 3 [] (.alt 20 [21] .nil .nil) .nil) .nil)) (.alt 18 [19] (.alt 3 [] (.alt 9 [] (.alt 20 [21] .nil .nil) .nil) (.alt 9 [] (.alt 3 [] (.alt 20 [21] .nil .nil) .nil) .nil)) .nil))) (.alt 3 [] (.alt 1 [] (.alt 9 [] (.alt 18 [19] (.alt 20 [21] .nil .nil) .nil) (.alt 18 [19] (.alt 9 [] (.alt 20 [21] .nil .nil) .nil) .nil)) (.alt 9 [] (.alt 1 [] (.alt 18 [19] (.alt 20 [21] .nil .nil) .nil) (.alt 18 [19] (.alt 1 [] (.alt 20 [21] .nil .nil) .nil) .nil)) (.alt 18 [19] (.alt 1 [] (.alt 9 [] (.alt 20 [21] .nil .nil) .nil) (.alt 9 [] (.alt 1 [] (.alt 20 [21] .nil .nil) .nil) .nil)) .nil))) (.alt 9 [] (.alt 1 [] (.alt 3 [] (.alt 18 [19] (.alt 20 [21] .nil .nil) .nil) (.alt 18 [19] (.alt 3 [] (.alt 20 [21] .nil .nil) .nil) .nil)) (.alt 3 [] (.alt 1 [] (.alt 18 [19] (.alt 20 [21] .nil .nil) .nil) (.alt 18 [19] (.alt 1 [] (.alt 20 [21] .nil .nil) .nil) .nil)) (.alt 18 [19] (.alt 1 [] (.alt 3 [] (.alt 20 [21] .nil .nil) .nil) (.alt 3 [] (.alt 1 [] (.alt 20 [21] .nil .nil) .nil) .nil)) .nil))) (.alt 18 [19] (.alt 1 [] (.alt 3 [] (.alt 9 [] (.alt 20 [21] .nil .nil) .nil) (.alt 9 [] (.alt 3 [] (.alt 20 [21] .nil .nil) .nil) .nil)) (.alt 3 [] (.alt 1 [] (.alt 9 [] (.alt 20 [21] .nil .nil) .nil) (.alt 9 [] (.alt 1 [] (.alt 20 [21] .nil .nil) .nil) .nil)) (.alt 9 [] (.alt 1 [] (.alt 3 [] (.alt 20 [21] .nil .nil) .nil) (.alt 3 [] (.alt 1 [] (.alt 20 [21] .nil .nil) .nil) .nil)) .nil))) .nil))))
          (by kernel_rfl) (by kernel_rfl) (by kernel_rfl) ?_
        intro ops Ee hE
        have HE := Lib.hid hE; clear hE
        simp only [Lex.pick, List.filterMap_cons, List.filterMap_nil, List.getElem?_cons_succ, List.getElem?_cons_zero]
        go_wp2_with fail
        have hxs : (s.extract (k * 437) M).size ≤ 437 := by rw [ByteArray.size_extract]; omega
        have hbd : ((k : Int) == (n : Int) - 1) = decide (k + 1 = n) := by
          rw [Bool.eq_iff_iff, beq_iff_eq, decide_eq_true_eq]
          omega
        have HXS := Lib.hid hxs; have HBD := Lib.hid hbd; clear hxs hbd
        iterate 24 (try any_goals (first
          | exact Lex.runV_done
          | (refine Lex.runV_alt ?_ ?_)
          | (refine Lex.runV_end (HE.out _ _ (by kernel_rfl) ?_); go_wp2_with fail; go_meet; exact ⟨_, _, rfl, HBD.out, rfl, HB5.out⟩)
          | (refine Lex.Mid.intro trivial ?_)
          | (simp only [Lex.pick, List.filterMap_cons, List.filterMap_nil, List.getElem?_cons_succ, List.getElem?_cons_zero]
             go_wp2_with (first
              | (go_at_call 45; refine (rSum_any s _ (by omega)).mono ?_; rintro e w4 ⟨rfl, hb4⟩; have hbx : Below wr.heap.size wr w4 := (Below.refl wr.heap.size wr).drew.trans hb4; have p1 := (hbx.cell (p := ⟨w.heap.size, 2, none⟩) l1).trans q1; have p2 := (hbx.cell (p := ⟨w3.heap.size, 4, none⟩) l2).trans q2; have HB4 := Lib.hid hbx; clear hb4 hbx)
              | (go_at_call 44; refine (rPageT_any C _ _ E _ _ hE (by omega) (Sha.sha_size _) HXS.out).mono ?_; rintro e w5 ⟨rfl, hb5⟩; have HB5 := Lib.hid (HB4.out.trans (hb5.mono HB4.out.size)); clear hb5)))))
      case rest =>
        obtain ⟨x, b, hx, hb, rfl, hbl⟩ := hcut
        have hpt := pageText_at E k (Sha.sha s) s (by have := HN.out; omega)
        rw [← HN.out, ← hb, ← HM.out, show 437 * k = k * 437 by omega, ← hx] at hpt
        rw [hpt]
        obtain ⟨D, hD⟩ : ∃ D, D = Sha.sha (⟨#[8]⟩ ++ C ++ pageBody E (Sha.sha s) (s.extract (k * 437) s.size)) ++ pageBody E (Sha.sha s) (s.extract (k * 437) s.size) := ⟨_, rfl⟩
        rw [← hD]
        have hDs : D.size = 512 := by rw [hD, Sha.app_size, Sha.sha_size, pageBody_size _ _ _ (Sha.sha_size _)]
        have hD1 : D = (opAt E (F + nx) (Sha.sha s) s ch k).data := by
          rw [hD, HC.out, show k * 437 = 437 * k by omega]
          rfl
        have hD2 : D.extract 0 32 = chainAt E (Sha.sha s) s ch (k + 1) := by
          rw [hD, page_take _ _ (Sha.sha_size _), HC.out, show k * 437 = 437 * k by omega]
          rfl
        have hru := HRP.out.under hbl
        have q0 := hru.at2.cell 0; have q3 := hru.at2.cell 3
        simp only [rJourV, List.getElem?_toArray, List.getElem?_cons_zero, List.getElem?_cons_succ] at q0 q3
        have HR5 := Lib.hid hru; have HD := Lib.hid hD1; have HD2 := Lib.hid hD2; clear hru hpt hD hD1 hD2 hx hb hbl
        have hh := HR5.out.below.size
        go_wp2_with (at_builtin; go_must (refine wpList_append_own_at _ rfl _ _ 58 rfl (w3.heap.size + 1) 64 i0 _ 3 32 Tryd.underlying58 hi hz0 hz1 hz2 rfl (by omega) (.slice la lm lc) k (oCells ((List.range k).map (opAt E (F + nx) (Sha.sha s) s ch))) rfl (HR5.out.ops.alloc _) ⟨wc.heap.size, 0, none⟩ 1 1 [.int .i64 ((F : Int) + nx + k), .string D, .bool false] rfl rfl ?c1 ?c2 ?c3 ?c4 ?c5 ?_))
        case c1 =>
          intro j u hj
          match j, hj with
          | 0, hj => simp at hj; subst hj; simp [Addr.add]
          | 1, hj => simp at hj; subst hj; simp [Addr.add]
          | 2, hj => simp at hj; subst hj; simp [Addr.add]
        case c2 => intro u hu; simp at hu; rcases hu with rfl | rfl | rfl <;> rfl
        case c3 => unfold maxLen; omega
        case c4 => omega
        case c5 => have h1 := HR5.out.at8.lt; simp; omega
        intro v2 w6 how hg _ hb'
        have hbel : Below wc.heap.size wc (wc.alloc (.cells #[.int .i64 ((F : Int) + nx + k), .string D, .bool false] 64)) := (Below.refl _ _).alloc (Nat.le_refl _) _
        have hup := own_up HR5.out.ops
        have hne : some w3.heap.size ≠ (Value.slice la lm lc).ownBlock := fun e => by have := hup _ e.symm; omega
        have how2 : w6.ownsRow (w3.heap.size + 1) 64 3 v2 (k + 1) (oCells ((List.range k).map (opAt E (F + nx) (Sha.sha s) s ch)) ++ [.int .i64 (opAt E (F + nx) (Sha.sha s) s ch k).page, .string (opAt E (F + nx) (Sha.sha s) s ch k).data, .bool false]) := by
          rw [← HD.out]
          have e : (opAt E (F + nx) (Sha.sha s) s ch k).page = (F : Int) + nx + k := by
            show ((F + nx + k : Nat) : Int) = _
            omega
          rw [e]
          exact how
        have hps := HR5.out.pushed hbel hg how2 (by omega)
        have a6 := At.grown (HR5.out.at8.alloc (.cells #[.int .i64 ((F : Int) + nx + k), .string D, .bool false] 64)) hg hne
        have k4 := a6.cell 4; have z4 := a6.free 4
        simp only [rJourV, List.getElem?_toArray, List.getElem?_cons_zero, List.getElem?_cons_succ] at k4
        obtain ⟨g2, cap2, rfl, _⟩ := own_cell how2 (by omega)
        have HPS := Lib.hid hps; clear how how2 hg hb' hbel hps a6 hup hne q0 q3
        go_wp2_with fail
        rw [HD2.out]
        exact ⟨⟨k + 1, by omega, by go_num, HPS.out⟩, by simp [intOf]; omega⟩
    · have dk : decide ((k : Int) < n) = false := by simp; omega
      have hk' : k = n := by omega
      have q3 := HRP.out.at2.cell 3
      have z3 := HRP.out.at8.free 3
      have k3 := HRP.out.at8.cell 3
      simp only [rJourV, List.getElem?_toArray, List.getElem?_cons_zero, List.getElem?_cons_succ] at q3 k3
      go_upto_region 15 with fail
      obtain ⟨w4, hw4⟩ : ∃ x, x = wr.setCell ⟨w3.heap.size, 3, none⟩ (.int .i64 ((nx : Int) + n)) := ⟨_, rfl⟩
      rw [← hw4]
      have hup := own_up HRP.out.ops
      have a2 : At w4 w.heap.size 38 (rJourV F N E nx ch (.slice ra recs.length rc)) := by rw [hw4]; exact HRP.out.at2.far (p := ⟨w3.heap.size, 3, none⟩) (by show _ ≠ w3.heap.size; omega) _
      have a4 : At w4 (w.heap.size + 1) 38 #[.int .i64 0, .int .i64 0, .int .i64 0, .int .i64 0, .string ⟨#[]⟩, .slice none 0 0] := by rw [hw4]; exact HRP.out.at4.far (p := ⟨w3.heap.size, 3, none⟩) (by show _ ≠ w3.heap.size; omega) _
      have a8 : At w4 w3.heap.size 38 (rJourV F N E ((nx : Int) + n) (chainAt E (Sha.sha s) s ch k) (.slice ra recs.length rc)) := by rw [hw4]; exact HRP.out.at8.set 3 _
      have o4 : w4.ownsRow (w3.heap.size + 1) 64 3 (.slice la lm lc) k (oCells ((List.range k).map (opAt E (F + nx) (Sha.sha s) s ch))) := by
        rw [hw4]
        exact own_keep HRP.out.ops (fun i hi => heap_setCell_other _ _ _ _ (by have := hup i hi; show i ≠ w3.heap.size; omega))
      have b4 : Below w.heap.size w w4 := by rw [hw4]; exact HRP.out.below.setCell (p := ⟨w3.heap.size, 3, none⟩) (by show _ ≤ w3.heap.size; omega) _
      have hrv4 := HRV.out.below b4
      have l8 := a8.lt; have l2 := a2.lt
      have q5 := a2.cell 5
      simp only [rJourV, List.getElem?_toArray, List.getElem?_cons_zero, List.getElem?_cons_succ] at q5
      have A4 := Lib.hid a4; have A8 := Lib.hid a8; have O4 := Lib.hid o4; have B4 := Lib.hid b4; have HRV4 := Lib.hid hrv4; have HK := Lib.hid hk'; clear a2 a4 a8 o4 b4 hrv4 hw4 q3 z3 k3 hup
      obtain ⟨ck, hck⟩ : ∃ x, x = chainAt E (Sha.sha s) s ch k := ⟨_, rfl⟩
      rw [← hck] at A8
      have CK := Lib.hid hck; clear hck
      have hown0 : (w4.alloc (.cells #[] 9)).ownsRow w4.heap.size 9 1 (.slice (some ⟨w4.heap.size, 0, none⟩) 0 0) 0 [] := ⟨rfl, .inr ⟨w4.heap.size, 0, #[], rfl, Nat.le_refl _, At.new w4 _ _, Nat.le_refl _, by decide, rfl, rfl⟩⟩
      have HOWN0 := Lib.hid hown0; clear hown0
      go_wp2_with (at_builtin; go_must (refine wp_append_strs rfl _ _ rfl w4.heap.size 0 (.slice (some ⟨w4.heap.size, 0, none⟩) 0 0) [] rfl HOWN0.out _ recs rfl (HRV4.out.below ((Below.refl _ _).alloc (Nat.le_refl _) _)) ?c1 ?c2 ?_))
      case c1 => omega
      case c2 => simp
      intro v5 w5 how5 hg5
      obtain ⟨pa, pm, pc, rfl⟩ := own_slice how5
      have hb5 : Below w4.heap.size w4 w5 := ((Below.refl w4.heap.size w4).alloc (Nat.le_refl _) _).grown hg5 (by simp) (fun i hi => by simp [Value.ownBlock] at hi; omega)
      obtain ⟨i1, hi1, hy0, hy1, hy2⟩ := info_parts info_string
      have HOW5 := Lib.hid how5; have HB5 := Lib.hid hb5; clear how5 hg5 hb5 q5
      go_wp2_with (at_builtin; go_must (refine wpList_append_own_at _ rfl _ _ 22 rfl w4.heap.size 9 i1 _ 1 16 Tryd.underlying22 hi1 hy0 hy1 hy2 rfl (by omega) (.slice pa pm pc) recs.length (recs.map Value.string) rfl (HOW5.out.alloc _) ⟨w5.heap.size, 0, none⟩ 1 1 [.string s] rfl rfl ?d1 ?d2 ?d3 ?d4 ?d5 ?_))
      case d1 =>
        intro j u hj
        match j, hj with
        | 0, hj => simp at hj; subst hj; simp [Addr.add]
      case d2 => intro u hu; simp at hu; subst hu; rfl
      case d3 => unfold maxLen; omega
      case d4 => omega
      case d5 => have := HB5.out.size; simp; omega
      intro v6 w6 how6 hg6 _ _
      have hb6 : Below w4.heap.size w4 w6 := (HB5.out.alloc HB5.out.size _).grown hg6 (by have := HB5.out.size; simp; omega) (fun i hi => own_up HOW5.out i hi)
      obtain ⟨g6, cap6, rfl, _⟩ := own_cell how6 (by omega)
      have a86 := A8.out.below hb6 l8
      have k5 := a86.cell 5; have z5 := a86.free 5
      simp only [rJourV, List.getElem?_toArray, List.getElem?_cons_zero, List.getElem?_cons_succ] at k5
      have A86 := Lib.hid a86; have HOW6 := Lib.hid how6; have HB6 := Lib.hid hb6; clear a86 how6 hg6 hb6
      go_upto_region 16 with fail
      obtain ⟨w7, hw7⟩ : ∃ x, x = w6.setCell ⟨w3.heap.size, 5, none⟩ (.slice (some ⟨g6, 0, none⟩) (recs.length + 1) cap6) := ⟨_, rfl⟩
      rw [← hw7]
      have hup6 := own_up HOW6.out
      have a8 : At w7 w3.heap.size 38 (rJourV F N E ((nx : Int) + n) ck (.slice (some ⟨g6, 0, none⟩) (recs.length + 1) cap6)) := by rw [hw7]; exact A86.out.set 5 _
      have far7 : ∀ i, i ≠ w3.heap.size → w7.heap[i]? = w6.heap[i]? := fun i hi => by rw [hw7]; exact heap_setCell_other _ _ _ _ hi
      have a4 : At w7 (w.heap.size + 1) 38 #[.int .i64 0, .int .i64 0, .int .i64 0, .int .i64 0, .string ⟨#[]⟩, .slice none 0 0] := (A4.out.below HB6.out A4.out.lt).keep (far7 _ (by omega))
      have hupo := own_up O4.out
      have o7 : w7.ownsRow (w3.heap.size + 1) 64 3 (.slice la lm lc) k (oCells ((List.range k).map (opAt E (F + nx) (Sha.sha s) s ch))) :=
        own_keep O4.out (fun i hi => (far7 i (by have := hupo i hi; omega)).trans (HB6.out.block i (by obtain ⟨cur, hc⟩ := own_at O4.out hi; exact hc.lt)))
      have r7 : w7.ownsRow w4.heap.size 9 1 (.slice (some ⟨g6, 0, none⟩) (recs.length + 1) cap6) (recs.length + 1) (recs.map Value.string ++ [.string s]) :=
        own_keep HOW6.out (fun i hi => far7 i (by have := hup6 i hi; omega))
      have b7 : Below w.heap.size w w7 := by rw [hw7]; exact (B4.out.trans (HB6.out.mono B4.out.size)).setCell (p := ⟨w3.heap.size, 5, none⟩) (by show _ ≤ w3.heap.size; omega) _
      have h7 : w3.heap.size < w7.heap.size := a8.lt
      have k0 := a8.cell 0; have k1 := a8.cell 1; have k2 := a8.cell 2; have k3 := a8.cell 3; have k4 := a8.cell 4; have k5 := a8.cell 5
      simp only [rJourV, List.getElem?_toArray, List.getElem?_cons_zero, List.getElem?_cons_succ] at k0 k1 k2 k3 k4 k5
      have A87 := Lib.hid a8; have A47 := Lib.hid a4; have O7 := Lib.hid o7; have R7 := Lib.hid r7; have B7 := Lib.hid b7; have UP6 := Lib.hid hup6; have UPO := Lib.hid hupo; clear a8 a4 o7 r7 b7 z5 hw7 far7 hup6 hupo
      refine Lex.wp_region_lexN (fun i => i = w3.heap.size) [0] 5 [5] (by kernel_rfl) (by kernel_rfl) (by kernel_rfl) ?_
      simp only [Lex.wpCuts, List.take_succ_cons, List.take_zero, List.drop_succ_cons, List.drop_zero]
      go_wp2_with (at_builtin; go_must (refine wpList_append_own_at _ rfl _ _ 58 rfl (w3.heap.size + 1) 64 i0 _ 3 32 Tryd.underlying58 hi hz0 hz1 hz2 rfl (by omega) (.slice la lm lc) k (oCells ((List.range k).map (opAt E (F + nx) (Sha.sha s) s ch))) rfl (O7.out.drew.alloc _) ⟨w7.heap.size, 0, none⟩ 1 1 [.int .i64 0, .string ⟨#[]⟩, .bool true] rfl rfl ?e1 ?e2 ?e3 ?e4 ?e5 ?_))
      case e1 =>
        intro j u hj
        match j, hj with
        | 0, hj => simp at hj; subst hj; simp [Addr.add]
        | 1, hj => simp at hj; subst hj; simp [Addr.add]
        | 2, hj => simp at hj; subst hj; simp [Addr.add]
      case e2 => intro u hu; simp at hu; rcases hu with rfl | rfl | rfl <;> rfl
      case e3 => unfold maxLen; omega
      case e4 => omega
      case e5 => simp; omega
      intro v8 w8 how8 hg8 _ _
      have hf8 : Fr (fun i => (Value.slice la lm lc).ownBlock = some i) w7 w8 := ((Fr.refl (fun i => (Value.slice la lm lc).ownBlock = some i) w7).drew.alloc (.cells #[.int .i64 0, .string ⟨#[]⟩, .bool true] 64)).grown hg8 (fun i hi => .inl hi)
      have a48 := hf8.at A47.out (fun e => by have := UPO.out _ e; omega)
      have a88 := hf8.at A87.out (fun e => by have := UPO.out _ e; omega)
      have r8 : w8.ownsRow w4.heap.size 9 1 (.slice (some ⟨g6, 0, none⟩) (recs.length + 1) cap6) (recs.length + 1) (recs.map Value.string ++ [.string s]) := by
        refine own_keep R7.out (fun i hi => hf8.keep i (by obtain ⟨cur, hc⟩ := own_at R7.out hi; exact hc.lt) (fun e => ?_))
        have h1 := UP6.out i hi
        obtain ⟨cur, hc⟩ := own_at O4.out e
        have := hc.lt
        omega
      have b8 : Below w.heap.size w w8 := B7.out.trans (hf8.below B7.out.size (fun i hi => by have := UPO.out i hi; omega))
      obtain ⟨g8, cap8, rfl, _⟩ := own_cell how8 (by omega)
      have hup8 := own_up how8
      have y0 := a48.cell 0; have y1 := a48.cell 1; have y2 := a48.cell 2; have y3 := a48.cell 3; have y4 := a48.cell 4; have y5 := a48.cell 5
      have z0 := a48.free 0; have z1 := a48.free 1; have z2 := a48.free 2; have z3 := a48.free 3; have z4 := a48.free 4; have z5 := a48.free 5
      simp only [List.getElem?_toArray, List.getElem?_cons_zero, List.getElem?_cons_succ] at y0 y1 y2 y3 y4 y5
      have hb88 : w8.heap[w3.heap.size]? = w7.heap[w3.heap.size]? := hf8.keep _ h7 (fun e => by have := UPO.out _ e; omega)
      have A48 := Lib.hid a48; have A88 := Lib.hid a88; have HOW8 := Lib.hid how8; have R8 := Lib.hid r8; have B8 := Lib.hid b8; have UP8 := Lib.hid hup8; have HB88 := Lib.hid hb88; have l48 := a48.lt; clear a48 a88 how8 hg8 hf8 r8 b8 hup8 hb88 k0 k1 k2 k3 k4 k5
      go_wp2_with fail
      refine Lex.Mid.intro (fun i hi hl => by subst hi; exact HB88.out) ?_
      go_wp2_with fail
      refine Lex.EndsN.intro (by kernel_rfl) ⟨⟨rfl, by show (World.cell? _ ⟨w3.heap.size, 0, none⟩).isSome = true; rw [A87.out.drew.cell 0]; rfl⟩, trivial⟩ ?_
      go_wp2_with fail
      refine rapp_done (p5 := .slice (some ⟨g8, 0, none⟩) (n + 1) cap8) (p6 := .int .i64 0) rfl rfl rfl (At.put6 A48.out _ _ _ _ _ _) ⟨.slice (some ⟨g6, 0, none⟩) (recs.length + 1) cap6, .slice (some ⟨g8, 0, none⟩) (n + 1) cap8, ?_, ?_, ?_, ?_, ?_⟩
      · have e1 : ((nx : Int) + n) = ((nx + n : Nat) : Int) := by omega
        have e2 : ck = chainAt E (Sha.sha s) s ch n := by rw [CK.out, HK.out]
        rw [e1, e2, HN.out]
      · refine StrsC.own (base := w4.heap.size) ?_
        rw [List.length_append, List.map_append]
        refine own_keep R8.out (fun i hi => put6_far ?_ _ _ _ _ _ _)
        have := UP6.out i hi
        have := B4.out.size
        omega
      · refine OpsC.own (base := w3.heap.size + 1) ?_
        have e : wantOps E (F + nx) s ch = (List.range n).map (opAt E (F + nx) (Sha.sha s) s ch) ++ [syncOp] := by unfold wantOps; rw [← HN.out]
        rw [e, List.length_append, List.length_map, List.length_range, oCells_snoc]
        exact own_keep HOW8.out (fun i hi => put6_far (by have := UP8.out i hi; omega) _ _ _ _ _ _)
      · exact below6 (b := w.heap.size + 1) B8.out (by omega) _ _ _ _ _ _
      · intro i hi
        have := UP6.out i hi
        have := B4.out.size
        omega
end Go.Proofs.YtfgjjdjaiddllaaDoor
namespace Go.Proofs.YtfgjjdjaiddllaaDoor
set_option linter.unusedVariables false
set_option linter.unusedSimpArgs false
open Go Go.RowKit Go.Maps
/-- The reference's journal in a box beside a journal and its disk. -/
structure ApB (w0 : World) (bx F N E nx : Nat) (ch : ByteArray) (recs : List ByteArray) (ra : Option Addr) (rc : Nat) (w : World) (j : Jour) (d : DiskP) : Prop where
  box : At w bx 38 (rJourV F N E nx ch (.slice ra recs.length rc))
  bout : Out w j d bx
  rows : StrsC w (.slice ra recs.length rc) recs
  rout : recs.length = 0 ∨ ∀ k, (Value.slice ra recs.length rc).ownBlock = some k → Out w j d k ∧ k ≠ bx
  bup : w0.heap.size ≤ bx
  jup : ∀ k, j.foot k → w0.heap.size ≤ k
  dup : ∀ k, d.foot k → w0.heap.size ≤ k
  below : Below w0.heap.size w0 w
section
variable {w0 w w' : World} {bx F N E nx : Nat} {ch : ByteArray} {recs : List ByteArray} {ra : Option Addr} {rc : Nat} {j j' : Jour} {d d' : DiskP} {c c' : DiskC}
theorem StrsC.empty {w : World} {v : Value} {xs : List ByteArray} (h : StrsC w v xs) (h0 : xs.length = 0) (w' : World) : StrsC w' v xs := by
  obtain ⟨a, c, rfl, _⟩ := h
  exact ⟨_, _, rfl, .inl h0⟩
theorem ApB.step (h : ApB w0 bx F N E nx ch recs ra rc w j d) (hs : JDStep w w' j j' d d' c') : ApB w0 bx F N E nx ch recs ra rc w' j' d' := by
  obtain ⟨h1, h2, h3⟩ := hs.above h.jup h.dup h.below.size
  refine ⟨h.box.keep (hs.out h.bout).2, (hs.out h.bout).1, ?_, ?_, h.bup, h1, h2, h.below.trans h3⟩
  · rcases h.rout with h0 | h0
    · exact h.rows.empty h0 _
    · exact h.rows.keep (fun k hk _ => (hs.out (h0 k hk).1).2)
  · rcases h.rout with h0 | h0
    · exact .inl h0
    · exact .inr fun k hk => ⟨(hs.out (h0 k hk).1).1, (h0 k hk).2⟩
theorem ApB.under (h : ApB w0 bx F N E nx ch recs ra rc w j d) (hj : JD w j d c) (hb : Below w.heap.size w w') : ApB w0 bx F N E nx ch recs ra rc w' j d := h.step (hj.below hb)
/-- The box takes another journal. -/
theorem ApB.store {nx2 rl2 : Nat} {ch2 : ByteArray} {recs2 : List ByteArray} {ra2 : Option Addr} {rc2 : Nat} (h : ApB w0 bx F N E nx ch recs ra rc w j d) (hj : JD w j d c) (hr : StrsC w (.slice ra2 recs2.length rc2) recs2) (hl : rl2 = recs2.length)
    (hv : recs2.length = 0 ∨ ∀ k, (Value.slice ra2 recs2.length rc2).ownBlock = some k → k ≠ bx ∧ ¬ j.foot k ∧ ¬ d.foot k) :
    JD (put6 w bx (.int .i64 F) (.int .i64 N) (.int .i64 E) (.int .i64 nx2) (.string ch2) (.slice ra2 rl2 rc2)) j d c ∧ ApB w0 bx F N E nx2 ch2 recs2 ra2 rc2 (put6 w bx (.int .i64 F) (.int .i64 N) (.int .i64 E) (.int .i64 nx2) (.string ch2) (.slice ra2 rl2 rc2)) j d := by
  subst hl
  have hf : Fr (fun k => k = bx) w (put6 w bx (.int .i64 F) (.int .i64 N) (.int .i64 E) (.int .i64 nx2) (.string ch2) (.slice ra2 recs2.length rc2)) :=
    ((((((Fr.refl (fun k => k = bx) w).setCell (p := ⟨bx, 0, none⟩) (.inl rfl) _).setCell (p := ⟨bx, 1, none⟩) (.inl rfl) _).setCell (p := ⟨bx, 2, none⟩) (.inl rfl) _).setCell (p := ⟨bx, 3, none⟩) (.inl rfl) _).setCell (p := ⟨bx, 4, none⟩) (.inl rfl) _).setCell (p := ⟨bx, 5, none⟩) (.inl rfl) _
  have hsz := hf.size
  refine ⟨⟨hj.jour.keep (fun k hk => put6_far (by rintro rfl; exact h.bout.2.1 hk) _ _ _ _ _ _), hj.disk.keep (fun k hk => put6_far (by rintro rfl; exact h.bout.2.2 hk) _ _ _ _ _ _), hj.da, hj.apart, hj.inn⟩,
    At.put6 h.box _ _ _ _ _ _, ⟨Nat.lt_of_lt_of_le h.bout.1 hsz, h.bout.2⟩, ?_, ?_, h.bup, h.jup, h.dup, h.below.trans (hf.below h.below.size (fun k hk => by have := h.bup; omega))⟩
  · rcases hv with h0 | h0
    · exact hr.empty h0 _
    · exact hr.keep (fun k hk _ => put6_far (h0 k hk).1 _ _ _ _ _ _)
  · by_cases h0 : recs2.length = 0
    · exact .inl h0
    · refine .inr fun k hk => ?_
      have h1 := (hv.resolve_left h0) k hk
      have h2 := hr.blk (by omega) k hk
      exact ⟨⟨by omega, h1.2⟩, h1.1⟩
end
set_option maxRecDepth 100000 in
set_option maxHeartbeats 1000000 in
/-- Record hands over what was recorded. -/
theorem dRecord_ops (d : DiskP) (c : DiskC) (b : Bool) (w : World) (h : DiskAt w d c) :
    Calls Tryd.prog 25 #[.pointer (some ⟨d.a, 0, none⟩), .bool b] w fun e w' => e = .returned d.rv ∧ DStep w w' d { d with rv := .slice none 0 0 } { c with recording := b, recorded := [] } ∧ OpsC w' d.rv c.recorded := by
  have h3 := h.self.cell 3; have h4 := h.self.cell 4
  simp only [List.getElem?_toArray, List.getElem?_cons_zero, List.getElem?_cons_succ] at h3 h4
  have f3 : w.frozen? ⟨d.a, 3, none⟩ = false := h.self.free 3
  have f4 : w.frozen? ⟨d.a, 4, none⟩ = false := h.self.free 4
  have hpv : ∃ b len cap, d.rv = .slice b len cap := by
    obtain ⟨_, ⟨h0, h1⟩ | ⟨g, cap, cur, h0, _⟩⟩ := h.recd
    · exact ⟨none, 0, 0, h0⟩
    · exact ⟨_, _, _, h0⟩
  have hk : ((w.setCell ⟨d.a, 3, none⟩ (.bool b)).setCell ⟨d.a, 4, none⟩ (.slice none 0 0)).ownsRow 0 64 3 d.rv c.recorded.length (oCells c.recorded) :=
    own_keep h.recd (fun k hk => by
      have hne : k ≠ d.a := by rintro rfl; exact h.a_rv hk
      exact (heap_setCell_other _ ⟨d.a, 4, none⟩ k _ hne).trans (heap_setCell_other _ ⟨d.a, 3, none⟩ k _ hne))
  have HK := Lib.hid (OpsC.own hk); clear hk
  obtain ⟨pb, pl, pc, hrv⟩ := hpv
  rw [hrv] at h4
  have HR := Lib.hid hrv; clear hrv
  have hst := h.setRec b
  have H := Lib.hid hst; clear h hst
  go_enter Tryd.func25, Tryd.ntmps25
  go_wp2_with fail
  go_ret
  exact ⟨by rw [HR.out]; rfl, H.out, HK.out⟩

theorem few_parts {xs : List ByteArray} (hf : few xs = true) : xs.length ≤ 16 ∧ ∀ k, k < xs.length → (xs.getD k ⟨#[]⟩).size ≤ 6000 := by
  have hf16 : xs.length ≤ 16 := by unfold few at hf; simp at hf; exact hf.1
  have hft : total xs ≤ 6000 := by unfold few at hf; simp at hf; exact hf.2
  refine ⟨hf16, fun k hk => ?_⟩
  have := size_le_total (xs := xs) (x := xs.getD k ⟨#[]⟩) (by simp [List.getD_eq_getElem?_getD, hk])
  omega
/-- A journal opened on a blank disk. -/
theorem Started.blank {w w' : World} {d : DiskP} {F N E m : Nat} {j : Jour} {a : Option Addr} {cp : Nat} (h : Started w w' d F N E (fun k : Nat => (DiskC.blank m).read ((F : Int) + (k : Int))) j a cp) : j.recs = [] ∧ j.next = 0 ∧ j.chain = chain0 E := by
  have e : opened E N (fun k : Nat => (DiskC.blank m).read ((F : Int) + (k : Int))) = OSt.zero E := (blank_clean E m F N).opened
  refine ⟨?_, ?_, ?_⟩
  · rw [h.recs, e]; rfl
  · rw [h.next, e]; rfl
  · rw [h.chain, e]; rfl
/-- What holds between two records. -/
def ApR (w0 : World) (A JB bx F N E : Nat) (k : Nat) (w : World) : Prop :=
  ∃ (j : Jour) (d : DiskP) (c : DiskC) (ra : Option Addr) (rc : Nat), JD w j d c ∧ ApB w0 bx F N E j.next j.chain j.recs ra rc w j d ∧ d.a = A ∧ j.jb = JB ∧ j.first = F ∧ j.count = N ∧ j.epoch = E ∧ c.pending = [] ∧ c.recorded = [] ∧ j.chain.size = 32 ∧ j.recs.length ≤ k
set_option maxRecDepth 100000 in
set_option maxHeartbeats 8000000 in
theorem appends_any (x0 f n ep : Int) (v : Value) (xs : List ByteArray) (w : World) (hx0 : 0 ≤ x0 ∧ x0 < 256) (hf : -9223372036854775808 ≤ f ∧ f < 9223372036854775808) (hn : -9223372036854775808 ≤ n ∧ n < 9223372036854775808) (he : -9223372036854775808 ≤ ep ∧ ep < 9223372036854775808)
    (hv : StrsC w v xs) (hb : ∀ x ∈ xs, x.size ≤ 140737488355328) (hl : xs.length ≤ 140737488355328) :
    Calls Tryd.prog 8 #[.int .u8 x0, .agg #[.int .i64 f, .int .i64 n], .int .i64 ep, v] w fun e w' => e = .returned (.bool true) ∧ Below w.heap.size w w' := by
  obtain ⟨a1, cp1, rfl⟩ := hv.len
  obtain ⟨w1, hw1⟩ : ∃ x, x = w.alloc (.cells #[.int .i64 f, .int .i64 n] 24) := ⟨_, rfl⟩
  have t0 : At w1 w.heap.size 24 #[.int .i64 f, .int .i64 n] := by rw [hw1]; exact At.new w _ _
  have hbw : Below w.heap.size w w1 := by rw [hw1]; exact (Below.refl _ _).alloc (Nat.le_refl _) _
  have T0 := Lib.hid t0; have HBW := Lib.hid hbw; have HW1 := Lib.hid hw1; have HV := Lib.hid (hv.below hbw); have HS := Lib.hid hb; clear t0 hbw hw1 hv hb
  go_enter Tryd.func8, Tryd.ntmps8
  go_wp2_with fail
  rw [← HW1.out]
  refine (awake_any _).mono ?_
  rintro e2 w2 ⟨rfl, hb2⟩
  have HB2 := Lib.hid hb2; have HV2 := Lib.hid (HV.out.below hb2); clear hb2
  go_upto_region 3 with fail
  go_cut [37] (fun c wx => ∃ bb : Bool, c = .bool bb ∧ wx = w2 ∧ (bb = false → xs.length ≤ 16))
  case first =>
    go_wp2_with fail
    refine (few_any _ _ _ HV2.out HS.out hl).mono ?_
    rintro e3 w3 ⟨rfl, rfl⟩
    have hcase : few xs = true ∨ few xs = false ∧ xs.length ≠ 1 ∨ few xs = false ∧ xs.length = 1 := by
      cases few xs <;> simp
      omega
    rcases hcase with hfew | ⟨hfew, hn1⟩ | ⟨hfew, hn1⟩
    · have h16 := (few_parts hfew).1
      rw [hfew]
      go_wp2_with fail
      go_meet
      exact ⟨false, rfl, rfl, fun _ => h16⟩
    · rw [hfew]
      have d1 : ((xs.length : Int) == 1) = false := by simp; omega
      have d2 : ((xs.length : Int) != 1) = true := by simp; omega
      go_wp2_with fail
      go_meet
      exact ⟨true, rfl, rfl, fun h => by cases h⟩
    · rw [hfew]
      have d1 : ((xs.length : Int) == 1) = true := by simp; omega
      have d2 : ((xs.length : Int) != 1) = false := by simp; omega
      have d3 : (0 : Int) < xs.length := by omega
      obtain ⟨b1, o1, rfl⟩ := HV2.out.addrOf (k := 0) (by omega)
      have ce := HV2.out.cellAt (k := 0) (by omega)
      have hxz : (xs.getD 0 ⟨#[]⟩).size ≤ 140737488355328 := HS.out _ (by simp [List.getD_eq_getElem?_getD, show 0 < xs.length by omega])
      rw [Nat.add_zero] at ce
      generalize xs.getD 0 ⟨#[]⟩ = s0 at ce hxz
      have h16 : xs.length ≤ 16 := by omega
      have H16 := Lib.hid h16; clear h16 hn1
      go_wp2_with fail
      all_goals
        go_meet
        exact ⟨_, rfl, rfl, fun _ => H16.out⟩
  case rest =>
    obtain ⟨bb, rfl, rfl, h16⟩ := hcut
    cases bb with
    | true =>
      go_wp2_with fail
      go_ret
      exact ⟨rfl, HBW.out.trans (HB2.out.mono HBW.out.size)⟩
    | false =>
      replace h16 := h16 rfl
      obtain ⟨m, hm⟩ : ∃ m : Nat, 1 + x0 % 12 = m := ⟨(1 + x0 % 12).toNat, by omega⟩
      have hm1 : 1 ≤ m ∧ m ≤ 12 := by omega
      have HM := Lib.hid hm; clear hm
      go_wp2_with fail
      rw [HM.out]
      refine (pages_any m _ hm1.1 (by omega)).mono ?_
      rintro e4 w4 ⟨d, rv, rfl, hd, hrv, hb4, hdf⟩
      obtain ⟨ra, rc, rfl⟩ := hrv.len
      rw [List.length_replicate] at *
      have hb14 := HB2.out.trans (hb4.mono HB2.out.size)
      have hb5 : Below w4.heap.size w4 (w4.alloc (.cells #[.slice ra m rc, .slice none 0 0] 29)) := (Below.refl _ _).alloc (Nat.le_refl _) _
      have t05 := T0.out.below (hb14.trans (hb5.mono hb14.size)) T0.out.lt
      have k0 := t05.cell 0; have k1 := t05.cell 1
      simp only [List.getElem?_toArray, List.getElem?_cons_zero, List.getElem?_cons_succ] at k0 k1
      have HD := Lib.hid (hd.below hb5 (Nat.le_refl _)); have HRV := Lib.hid (hrv.below hb5); have HB5 := Lib.hid (hb14.trans (hb5.mono hb14.size)); have HDF := Lib.hid hdf; have HSZ := Lib.hid hb4.size; clear hd hrv hb14 hb5 t05 hb4 hdf
      unfold rDiskV
      go_wp2_with fail
      have hs24 : wc.heap.size ≤ w4.heap.size := HSZ.out
      generalize w4.alloc (.cells #[.slice ra m rc, .slice none 0 0] 29) = w5 at *
      have hdl : (DiskC.blank m).durable.length = m := by simp [DiskC.blank]
      by_cases hok : openOK m f n ep
      · have hok0 : openOK (DiskC.blank m).durable.length f n ep := by rw [hdl]; exact hok
        obtain ⟨h1, h2, h3, h4, h5, h6⟩ := hok
        obtain ⟨F, rfl⟩ : ∃ F : Nat, f = F := ⟨f.toNat, by omega⟩
        obtain ⟨N, rfl⟩ : ∃ N : Nat, n = N := ⟨n.toNat, by omega⟩
        obtain ⟨E, rfl⟩ : ∃ E : Nat, ep = E := ⟨ep.toNat, by omega⟩
        refine (start_ok d (.blank m) _ _ _ F N E _ HD.out (by simpa [DiskC.blank] using HRV.out) ⟨none, 0, rfl, .inl ⟨rfl, rfl, rfl⟩⟩ (fun x hx => by cases hx) (by simp [DiskC.blank]) (by simp [DiskC.blank]; omega) (fun q => by rw [blank_read]; decide) hok0 rfl).mono ?_
        rintro e7 w7 ⟨j, a, cp, rfl, hst⟩
        obtain ⟨hr0, hn0, hc0⟩ := hst.blank
        have hjd : JD w7 j d (.blank m) := ⟨hst.jour, HD.out.below hst.below (Nat.le_refl _), hst.da.symm, fun k hk hd => by have := hst.foot k hk; have := HD.out.lt k hd; omega, by rw [hst.first, hst.count, hdl]; omega⟩
        have hb7 : Below w7.heap.size w7 (w7.alloc (.cells #[.int .i64 F, .int .i64 N, .int .i64 E, .int .i64 j.next, .string j.chain, .slice a j.recs.length cp] 38)) := (Below.refl _ _).alloc (Nat.le_refl _) _
        have hb17 := HB5.out.trans (hst.below.mono HB5.out.size)
        have hap : ApB w1 w7.heap.size F N E j.next j.chain j.recs a cp (w7.alloc (.cells #[.int .i64 F, .int .i64 N, .int .i64 E, .int .i64 j.next, .string j.chain, .slice a j.recs.length cp] 38)) j d :=
          ⟨At.new w7 _ _, ⟨by simp, fun hf => by have := hst.jour.lt _ hf; omega, fun hf => by have := HD.out.lt _ hf; have := hst.below.size; omega⟩, hst.rows.below hb7, .inl (by rw [hr0]; rfl), hb17.size, fun k hk => Nat.le_trans HB5.out.size (hst.foot k hk), fun k hk => Nat.le_trans HB2.out.size (HDF.out k hk), hb17.trans (hb7.mono hb17.size)⟩
        have hap0 : ApR w1 d.a j.jb w7.heap.size F N E 0 (w7.alloc (.cells #[.int .i64 F, .int .i64 N, .int .i64 E, .int .i64 j.next, .string j.chain, .slice a j.recs.length cp] 38)) :=
          ⟨j, d, .blank m, a, cp, (hjd.below hb7).at_, hap, rfl, rfl, hst.first, hst.count, hst.epoch, rfl, rfl, by rw [hc0]; exact Sha.sha_size _, by rw [hr0]; exact Nat.zero_le _⟩
        have HAP0 := Lib.hid hap0; clear hap0 hap hjd hb7 hb17 hst hr0 hn0 hc0 k0 k1 hok0 hdl
        unfold rJourV
        go_wp2_with fail
        go_loopw [66] (fun i wr => ∃ k : Nat, k ≤ xs.length ∧ i = .int .i64 k ∧ ApR w1 d.a j.jb w7.heap.size F N E k wr) (fun i _ => xs.length - (intOf i).toNat)
        case atStart => exact ⟨0, by omega, rfl, HAP0.out⟩
        case round =>
          obtain ⟨k, hk, rfl, j1, d1, c1, ra1, rc1, hjd, hap, ea, ej, ef, ec, ee, hp0, hr0, hch, hrl⟩ := hrel
          obtain ⟨wo, rfl⟩ : ∃ wo : World, wo = wr := ⟨_, rfl⟩
          have HJ := Lib.hid hjd; have HAP := Lib.hid hap; have EA := Lib.hid ea; have EJ := Lib.hid ej; have EF := Lib.hid ef; have EC := Lib.hid ec; have EE := Lib.hid ee; have HP0 := Lib.hid hp0; have HR0 := Lib.hid hr0; have HCH := Lib.hid hch; clear hjd hap ea ej ef ec ee hp0 hr0 hch
          by_cases hlt : k < xs.length
          · have dk : decide ((k : Int) < xs.length) = true := by simp; omega
            obtain ⟨b1, o1, rfl⟩ := HV.out.addrOf hlt
            have ce := (HV.out.below HAP.out.below).cellAt hlt
            obtain ⟨s, hs⟩ : ∃ s, s = xs.getD k ⟨#[]⟩ := ⟨_, rfl⟩
            rw [← hs] at ce
            have hss : s.size ≤ 140737488355328 := HS.out s (by rw [hs]; simp [List.getD_eq_getElem?_getD, hlt])
            clear hs
            go_wp2_with fail
            rw [← EA.out]
            refine (dRecord_any d1 c1 true _ HJ.out.disk).mono ?_
            rintro e2 w2 ⟨rfl, hd2⟩
            have hj2 := HJ.out.disked hd2 rfl
            have HJ2 := Lib.hid hj2.at_; have HA2 := Lib.hid (HAP.out.step hj2)
            have e12 : ({ d1 with rv := .slice none 0 0 } : DiskP).a = d1.a := rfl
            have E12 := Lib.hid e12; clear hj2 hd2 e12
            generalize ({ d1 with rv := .slice none 0 0 } : DiskP) = d2 at *
            have h2r : ({ c1 with recording := true, recorded := [] } : DiskC).recording = true ∧ ({ c1 with recording := true, recorded := [] } : DiskC).recorded = [] ∧ ({ c1 with recording := true, recorded := [] } : DiskC).pending = [] := ⟨rfl, rfl, HP0.out⟩
            have H2R := Lib.hid h2r; clear h2r
            generalize ({ c1 with recording := true, recorded := [] } : DiskC) = c2 at *
            go_wp2_with fail
            rw [← EJ.out]
            by_cases hbig : 65536 < s.size
            · refine (jAppend_large j1 s _ hbig).mono ?_
              rintro e3 w3 ⟨rfl, rfl⟩
              rw [EJ.out]
              have EJX := EJ
              have HPC : Hid (c2.pending = []) := Lib.hid H2R.out.2.2
              have HRC : Hid (c2.recorded = []) := Lib.hid H2R.out.2.1
              go_wp2_with fail
              rw [← E12.out]
              refine (dRecord_ops d2 c2 false _ HJ2.out.disk).mono ?_
              rintro e4 w8 ⟨rfl, hd4, ho4⟩
              have hj4 := HJ2.out.disked hd4 rfl
              have HJ4 := Lib.hid hj4.at_; have HA4 := Lib.hid (HA2.out.step hj4); have HO4 := Lib.hid ho4
              have e34 : ({ d2 with rv := .slice none 0 0 } : DiskP).a = d2.a := rfl
              have E34 := Lib.hid e34; clear hj4 hd4 ho4 e34
              generalize ({ d2 with rv := .slice none 0 0 } : DiskP) = d4 at *
              have h4r : ({ c2 with recording := false, recorded := [] } : DiskC).recorded = [] ∧ ({ c2 with recording := false, recorded := [] } : DiskC).pending = [] := ⟨rfl, HPC.out⟩
              have H4R := Lib.hid h4r; clear h4r
              generalize ({ c2 with recording := false, recorded := [] } : DiskC) = c4 at *
              rw [E12.out, EA.out]
              have x0 := HA4.out.box.cell 0; have x1 := HA4.out.box.cell 1; have x2 := HA4.out.box.cell 2; have x3 := HA4.out.box.cell 3; have x4 := HA4.out.box.cell 4; have x5 := HA4.out.box.cell 5
              simp only [rJourV, List.getElem?_toArray, List.getElem?_cons_zero, List.getElem?_cons_succ] at x0 x1 x2 x3 x4 x5
              go_wp2_with fail
              clear x0 x1 x2 x3 x4 x5
              refine (rAppend_large F N E j1.next j1.chain s ra1 j1.recs.length rc1 _ hbig hss).mono ?_
              rintro e5 w9 ⟨rfl, hb5⟩
              have hw5 : OpsC w9 (.slice none 0 0) [] := ⟨none, 0, rfl, .inl rfl⟩
              have hr5 := HA4.out.rows.below hb5
              have hjn : j1.next = j1.next := rfl
              have HJC := EC
              have hol : ([] : List POp).length ≤ 1000000 := by decide
              have hnx : j1.next ≤ 1000000 := by have h1 := HJ4.out.jour.next; have h2 := EC.out; omega
              have hjh : j1.chain = j1.chain := rfl
              have hv5 : j1.recs.length = 0 ∨ ∀ k, (Value.slice ra1 j1.recs.length rc1).ownBlock = some k → k ≠ w7.heap.size ∧ ¬ j1.foot k ∧ ¬ d4.foot k := HA4.out.rout.imp id (fun h k hk => ⟨(h k hk).2, (h k hk).1.2⟩)
              have hkk : j1.recs.length ≤ k + 1 := by omega
              rw [HRC.out] at HO4
              unfold rJourV
              have HO5 := Lib.hid (HO4.out.below hb5); have HW5 := Lib.hid hw5; have HR5 := Lib.hid hr5; have HV5 := Lib.hid hv5; have HJN := Lib.hid hjn; have HJH := Lib.hid hjh
              have hj5 := HJ4.out.below hb5
              have HJ5 := Lib.hid hj5.at_; have HA5 := Lib.hid (HA4.out.step hj5); clear hb5 hw5 hr5 hv5 hjn hjh hj5
              go_wp2_with fail
              refine Lex.wp_region_lexN (fun i => i = w9.heap.size) [12, 20] 21 [7, 5, 2, 5] (by kernel_rfl) (by kernel_rfl) (by kernel_rfl) ?_
              simp only [Lex.wpCuts, List.take_succ_cons, List.take_zero, List.drop_succ_cons, List.drop_zero]
              have hba : Below w9.heap.size w9 (w9.alloc (.cells #[.int .i64 F, .int .i64 N, .int .i64 E, .int .i64 j1.next, .string j1.chain, .slice ra1 j1.recs.length rc1] 38)).drew := ((Below.refl w9.heap.size w9).alloc (Nat.le_refl _) _).drew
              have hat : At (w9.alloc (.cells #[.int .i64 F, .int .i64 N, .int .i64 E, .int .i64 j1.next, .string j1.chain, .slice ra1 j1.recs.length rc1] 38)).drew w9.heap.size 38 #[.int .i64 F, .int .i64 N, .int .i64 E, .int .i64 j1.next, .string j1.chain, .slice ra1 j1.recs.length rc1] := (At.new w9 _ _).drew
              have HBA := Lib.hid hba; have HAT := Lib.hid hat; clear hba hat
              generalize (w9.alloc (.cells #[.int .i64 F, .int .i64 N, .int .i64 E, .int .i64 j1.next, .string j1.chain, .slice ra1 j1.recs.length rc1] 38)).drew = wA at *
              go_wp2_with fail
              refine (eqOps_same _ _ [] _ (HO5.out.below HBA.out) (HW5.out.below HBA.out) hol).mono ?_
              rintro e6 w10 ⟨rfl, q10, rfl⟩
              go_wp2_with fail
              refine Lex.Mid.intro (fun i _ _ => rfl) ?_
              go_wp2_with fail
              have hb10 := below_drewN HBA.out q10
              have g0 := HAT.out.cell 0; have g1 := HAT.out.cell 1; have g2 := HAT.out.cell 2; have g3 := HAT.out.cell 3; have g4 := HAT.out.cell 4; have g5 := HAT.out.cell 5
              simp only [List.getElem?_toArray, List.getElem?_cons_zero, List.getElem?_cons_succ] at g0 g1 g2 g3 g4 g5
              rw [← EJX.out]
              refine (jFree_any j1 _ (HJ5.out.jour.below hb10 (Nat.le_refl _))).mono ?_
              rintro e7 w11 ⟨rfl, rfl⟩
              rw [HJC.out]
              (try rw [HJN.out])
              go_wp2_with fail
              refine Lex.Mid.intro (fun i _ _ => rfl) ?_
              go_wp2_with fail
              refine (rFree_any F N E j1.next j1.chain _ _ (by omega) (by omega)).mono ?_
              rintro e8 w12 ⟨rfl, hb12⟩
              have hb12' := (below_drewN HBA.out (q10 + 1)).trans (hb12.mono (below_drewN HBA.out (q10 + 1)).size)
              have HB12 := Lib.hid hb12; have HB912 := Lib.hid hb12'; clear hb10 hb12 hb12' g0 g1 g2 g3 g4 g5
              go_wp2_with fail
              refine Lex.Mid.intro (fun i hi hl => by subst hi; exact HB12.out.block _ hl) ?_
              go_wp2_with fail
              have hj12 := HJ5.out.jour.below HB912.out (Nat.le_refl _)
              refine (records_live j1 _ hj12).mono ?_
              rintro e13 w13 ⟨v13, rfl, hs13, hb13⟩
              obtain ⟨a13, c13, rfl⟩ := hs13.len
              have hb913 := HB912.out.trans (hb13.mono HB912.out.size)
              have hA13 : Below wA.heap.size wA w13 := ((below_drewN (Below.refl _ _) (q10 + 1)).trans HB12.out).trans (hb13.mono (HB12.out.size))
              have hat13 := HAT.out.below hA13 HAT.out.lt
              have g5 := hat13.cell 5
              simp only [List.getElem?_toArray, List.getElem?_cons_zero, List.getElem?_cons_succ] at g5
              have HS13 := Lib.hid hs13; have HB913 := Lib.hid hb913; have HA13 := Lib.hid hA13; have HAT13 := Lib.hid hat13; clear hj12 hs13 hb13 hb913 hA13 hat13
              go_wp2_with fail
              refine Lex.Mid.intro (fun i hi hl => by subst hi; exact HA13.out.block _ hl) ?_
              go_wp2_with fail
              refine (eqStrs_any _ _ j1.recs j1.recs _ HS13.out (HR5.out.below HB913.out) (by omega) (by omega)).mono ?_
              rintro e14 w14 ⟨rfl, q14, rfl⟩
              have hjr : j1.recs = j1.recs := by first | rfl | exact HJR.out
              rw [show decide (j1.recs = j1.recs) = true from decide_eq_true hjr]
              clear g5 hjr
              go_wp2_with fail
              refine Lex.EndsN.intro (by kernel_rfl) ⟨?_, ?_, trivial⟩ ?_
              · exact ⟨rfl, by show (World.cell? _ ⟨w9.heap.size, 0, none⟩).isSome = true; rw [HAT.out.cell 0]; rfl⟩
              · exact ⟨rfl, by show (World.cell? _ ⟨w9.heap.size, 5, none⟩).isSome = true; rw [HAT.out.cell 5]; rfl⟩
              have hb914 := below_drewN HB913.out q14
              have hj14 := (HJ5.out.below hb914).at_
              have hp14 := (HA5.out.under HJ5.out hb914).store hj14 (HR5.out.below hb914) (rfl : j1.recs.length = _) HV5.out (nx2 := j1.next) (ch2 := j1.chain)
              have hat14 : At (w13.drewN q14) w9.heap.size 38 _ := HAT13.out.drewN q14
              have hbx := (HA5.out.under HJ5.out hb914).box
              have g0 := hat14.cell 0; have g1 := hat14.cell 1; have g2 := hat14.cell 2; have g3 := hat14.cell 3; have g4 := hat14.cell 4; have g5 := hat14.cell 5
              have y0 := hbx.cell 0; have y1 := hbx.cell 1; have y2 := hbx.cell 2; have y3 := hbx.cell 3; have y4 := hbx.cell 4; have y5 := hbx.cell 5
              have z0 := hbx.free 0; have z1 := hbx.free 1; have z2 := hbx.free 2; have z3 := hbx.free 3; have z4 := hbx.free 4; have z5 := hbx.free 5
              simp only [rJourV, List.getElem?_toArray, List.getElem?_cons_zero, List.getElem?_cons_succ] at g0 g1 g2 g3 g4 g5 y0 y1 y2 y3 y4 y5
              have HP14 := Lib.hid hp14; clear hb914 hj14 hp14 hat14 hbx
              generalize w13.drewN q14 = w14 at *
              rw [EJX.out]
              go_wp2_with fail
              exact ⟨⟨k + 1, by omega, by go_num, j1, d4, c4, ra1, rc1, HP14.out.1, HP14.out.2, E34.out.trans (E12.out.trans EA.out), EJ.out, EF.out, EC.out, EE.out, H4R.out.2, H4R.out.1, HCH.out, hkk⟩, by simp [intOf]; omega⟩
            · have hs6 : s.size ≤ 65536 := by omega
              have hpn := pagesN_of s.size hs6
              have hnc := HJ2.out.jour.next
              rw [EC.out] at hnc
              by_cases hfit : j1.next + pagesN s.size ≤ N
              · have hC2 : j1.chain.size ≤ 1000 := by have := HCH.out; omega
                refine (jAppend_ok j1 d2 c2 s _ HJ2.out hs6 (by rw [hpn, EC.out]; omega) (by rw [EE.out]; omega) hC2 (by rw [H2R.out.2.2]; exact Nat.zero_le _) (by rw [H2R.out.2.1]; exact Nat.zero_le _) (by omega)).mono ?_
                rintro e3 w3 ⟨rfl, j3, d3, hst, er3, en3, ec3⟩
                rw [EJ.out]
                have hpl := pagesN_le s.size hs6
                obtain ⟨hch3, hnx3⟩ := after_end j1.epoch j1.first s j1.chain j1.next c2
                have hrd := after_recd j1.epoch j1.first s j1.chain j1.next c2 H2R.out.1 H2R.out.2.1
                rw [hch3, EE.out] at ec3
                rw [hnx3] at en3
                rw [EE.out, EF.out] at hrd hst
                have hpc : ((allPages E F s ⟨j1.next, j1.chain, c2⟩).c.synced.note syncOp).pending = [] := by rw [note_pending]; rfl
                obtain ⟨nx5, hnx5⟩ : ∃ x, x = j1.next + pagesN s.size := ⟨_, rfl⟩
                obtain ⟨ch5, hch5⟩ : ∃ x, x = chainAt E (Sha.sha s) s j1.chain (pagesN s.size) := ⟨_, rfl⟩
                obtain ⟨R5, hR5⟩ : ∃ x, x = j1.recs ++ [s] := ⟨_, rfl⟩
                obtain ⟨O5, hO5⟩ : ∃ x, x = wantOps E (F + j1.next) s j1.chain := ⟨_, rfl⟩
                have hol : O5.length ≤ 1000000 := by rw [hO5, wantOps_len]; omega
                have hnx : nx5 ≤ 1000000 := by omega
                have hfit5 : nx5 ≤ N := by omega
                have hrl5 : R5.length ≤ k + 1 := by rw [hR5, List.length_append]; exact Nat.succ_le_succ hrl
                have hra := rAppend_ok F N E j1.next j1.chain s ra1 rc1 j1.recs
                rw [← hnx5, ← hch5, ← hR5, ← hO5] at hra
                rw [← hR5] at er3
                rw [← hnx5] at en3
                rw [← hch5] at ec3
                rw [← hO5] at hrd
                have hcs5 : ch5.size = 32 := by rw [hch5]; exact chainAt_size _ _ _ _ HCH.out _
                have hkk : j3.recs.length ≤ k + 1 := by rw [er3]; exact hrl5
                have hst2 : JDStep w2 w3 j1 j3 d2 d3 ((allPages E F s ⟨j1.next, j1.chain, c2⟩).c.synced.note syncOp) := hst
                have HJ3 := Lib.hid hst2.at_; have HA3 := Lib.hid (HA2.out.step hst2); have EDX := Lib.hid (hst2.a.trans E12.out); have EJX := Lib.hid (hst2.jb.trans EJ.out); have HJC := Lib.hid (hst2.count.trans EC.out)
                have EF3 := Lib.hid (hst2.first.trans EF.out); have EE3 := Lib.hid (hst2.epoch.trans EE.out)
                have HPC := Lib.hid hpc; have HRC := Lib.hid hrd; have HRA := Lib.hid hra; have HJR := Lib.hid er3; have HJN0 := Lib.hid en3; have HJH0 := Lib.hid ec3; have HCS5 := Lib.hid hcs5
                clear hst hst2 hpc hrd hra er3 en3 ec3 hch3 hnx3 hnx5 hch5 hR5 hO5 hcs5 hpn
                generalize (allPages E F s ⟨j1.next, j1.chain, c2⟩).c.synced.note syncOp = c3 at *
                go_wp2_with fail
                rw [← EDX.out]
                refine (dRecord_ops d3 c3 false _ HJ3.out.disk).mono ?_
                rintro e4 w8 ⟨rfl, hd4, ho4⟩
                have hj4 := HJ3.out.disked hd4 rfl
                have HJ4 := Lib.hid hj4.at_; have HA4 := Lib.hid (HA3.out.step hj4); have HO4 := Lib.hid ho4
                have e34 : ({ d3 with rv := .slice none 0 0 } : DiskP).a = d3.a := rfl
                have E34 := Lib.hid e34; clear hj4 hd4 ho4 e34
                generalize ({ d3 with rv := .slice none 0 0 } : DiskP) = d4 at *
                have h4r : ({ c3 with recording := false, recorded := [] } : DiskC).recorded = [] ∧ ({ c3 with recording := false, recorded := [] } : DiskC).pending = [] := ⟨rfl, HPC.out⟩
                have H4R := Lib.hid h4r; clear h4r
                generalize ({ c3 with recording := false, recorded := [] } : DiskC) = c4 at *
                rw [EDX.out, EA.out]
                have x0 := HA4.out.box.cell 0; have x1 := HA4.out.box.cell 1; have x2 := HA4.out.box.cell 2; have x3 := HA4.out.box.cell 3; have x4 := HA4.out.box.cell 4; have x5 := HA4.out.box.cell 5
                simp only [rJourV, List.getElem?_toArray, List.getElem?_cons_zero, List.getElem?_cons_succ] at x0 x1 x2 x3 x4 x5
                go_wp2_with fail
                clear x0 x1 x2 x3 x4 x5
                refine (HRA.out _ HA4.out.rows hs6 (by omega) (by omega) (by omega) (by omega) HCH.out (by omega) hfit5).mono ?_
                rintro e5 w9 ⟨rv5, wv5, rfl, hr5, hw5, hb5, hf5⟩
                obtain ⟨ra5, rc5, rfl⟩ := hr5.len
                obtain ⟨wa5, wc5, rfl⟩ := hw5.len
                have hjn := HJN0.out
                have hjh := HJH0.out
                have hv5 : R5.length = 0 ∨ ∀ k, (Value.slice ra5 R5.length rc5).ownBlock = some k → k ≠ w7.heap.size ∧ ¬ j3.foot k ∧ ¬ d4.foot k := .inr fun i hi => by
                  have h1 := hf5 i hi
                  exact ⟨fun e => by have := HA4.out.bout.1; omega, fun e => by have := HJ4.out.jour.lt i e; omega, fun e => by have := HJ4.out.disk.lt i e; omega⟩
                clear hf5
                rw [HRC.out] at HO4
                unfold rJourV
                have HO5 := Lib.hid (HO4.out.below hb5); have HW5 := Lib.hid hw5; have HR5 := Lib.hid hr5; have HV5 := Lib.hid hv5; have HJN := Lib.hid hjn; have HJH := Lib.hid hjh
                have hj5 := HJ4.out.below hb5
                have HJ5 := Lib.hid hj5.at_; have HA5 := Lib.hid (HA4.out.step hj5); clear hb5 hw5 hr5 hv5 hjn hjh hj5
                go_wp2_with fail
                refine Lex.wp_region_lexN (fun i => i = w9.heap.size) [12, 20] 21 [7, 5, 2, 5] (by kernel_rfl) (by kernel_rfl) (by kernel_rfl) ?_
                simp only [Lex.wpCuts, List.take_succ_cons, List.take_zero, List.drop_succ_cons, List.drop_zero]
                have hba : Below w9.heap.size w9 (w9.alloc (.cells #[.int .i64 F, .int .i64 N, .int .i64 E, .int .i64 nx5, .string ch5, .slice ra5 R5.length rc5] 38)).drew := ((Below.refl w9.heap.size w9).alloc (Nat.le_refl _) _).drew
                have hat : At (w9.alloc (.cells #[.int .i64 F, .int .i64 N, .int .i64 E, .int .i64 nx5, .string ch5, .slice ra5 R5.length rc5] 38)).drew w9.heap.size 38 #[.int .i64 F, .int .i64 N, .int .i64 E, .int .i64 nx5, .string ch5, .slice ra5 R5.length rc5] := (At.new w9 _ _).drew
                have HBA := Lib.hid hba; have HAT := Lib.hid hat; clear hba hat
                generalize (w9.alloc (.cells #[.int .i64 F, .int .i64 N, .int .i64 E, .int .i64 nx5, .string ch5, .slice ra5 R5.length rc5] 38)).drew = wA at *
                go_wp2_with fail
                refine (eqOps_same _ _ O5 _ (HO5.out.below HBA.out) (HW5.out.below HBA.out) hol).mono ?_
                rintro e6 w10 ⟨rfl, q10, rfl⟩
                go_wp2_with fail
                refine Lex.Mid.intro (fun i _ _ => rfl) ?_
                go_wp2_with fail
                have hb10 := below_drewN HBA.out q10
                have g0 := HAT.out.cell 0; have g1 := HAT.out.cell 1; have g2 := HAT.out.cell 2; have g3 := HAT.out.cell 3; have g4 := HAT.out.cell 4; have g5 := HAT.out.cell 5
                simp only [List.getElem?_toArray, List.getElem?_cons_zero, List.getElem?_cons_succ] at g0 g1 g2 g3 g4 g5
                rw [← EJX.out]
                refine (jFree_any j3 _ (HJ5.out.jour.below hb10 (Nat.le_refl _))).mono ?_
                rintro e7 w11 ⟨rfl, rfl⟩
                rw [HJC.out]
                (try rw [HJN.out])
                go_wp2_with fail
                refine Lex.Mid.intro (fun i _ _ => rfl) ?_
                go_wp2_with fail
                refine (rFree_any F N E nx5 ch5 _ _ (by omega) (by omega)).mono ?_
                rintro e8 w12 ⟨rfl, hb12⟩
                have hb12' := (below_drewN HBA.out (q10 + 1)).trans (hb12.mono (below_drewN HBA.out (q10 + 1)).size)
                have HB12 := Lib.hid hb12; have HB912 := Lib.hid hb12'; clear hb10 hb12 hb12' g0 g1 g2 g3 g4 g5
                go_wp2_with fail
                refine Lex.Mid.intro (fun i hi hl => by subst hi; exact HB12.out.block _ hl) ?_
                go_wp2_with fail
                have hj12 := HJ5.out.jour.below HB912.out (Nat.le_refl _)
                refine (records_live j3 _ hj12).mono ?_
                rintro e13 w13 ⟨v13, rfl, hs13, hb13⟩
                obtain ⟨a13, c13, rfl⟩ := hs13.len
                have hb913 := HB912.out.trans (hb13.mono HB912.out.size)
                have hA13 : Below wA.heap.size wA w13 := ((below_drewN (Below.refl _ _) (q10 + 1)).trans HB12.out).trans (hb13.mono (HB12.out.size))
                have hat13 := HAT.out.below hA13 HAT.out.lt
                have g5 := hat13.cell 5
                simp only [List.getElem?_toArray, List.getElem?_cons_zero, List.getElem?_cons_succ] at g5
                have HS13 := Lib.hid hs13; have HB913 := Lib.hid hb913; have HA13 := Lib.hid hA13; have HAT13 := Lib.hid hat13; clear hj12 hs13 hb13 hb913 hA13 hat13
                go_wp2_with fail
                refine Lex.Mid.intro (fun i hi hl => by subst hi; exact HA13.out.block _ hl) ?_
                go_wp2_with fail
                refine (eqStrs_any _ _ j3.recs R5 _ HS13.out (HR5.out.below HB913.out) (by omega) (by omega)).mono ?_
                rintro e14 w14 ⟨rfl, q14, rfl⟩
                have hjr : j3.recs = R5 := by first | rfl | exact HJR.out
                rw [show decide (j3.recs = R5) = true from decide_eq_true hjr]
                clear g5 hjr
                go_wp2_with fail
                refine Lex.EndsN.intro (by kernel_rfl) ⟨?_, ?_, trivial⟩ ?_
                · exact ⟨rfl, by show (World.cell? _ ⟨w9.heap.size, 0, none⟩).isSome = true; rw [HAT.out.cell 0]; rfl⟩
                · exact ⟨rfl, by show (World.cell? _ ⟨w9.heap.size, 5, none⟩).isSome = true; rw [HAT.out.cell 5]; rfl⟩
                have hb914 := below_drewN HB913.out q14
                have hj14 := (HJ5.out.below hb914).at_
                have hp14 := (HA5.out.under HJ5.out hb914).store hj14 (HR5.out.below hb914) (rfl : R5.length = _) HV5.out (nx2 := nx5) (ch2 := ch5)
                have hat14 : At (w13.drewN q14) w9.heap.size 38 _ := HAT13.out.drewN q14
                have hbx := (HA5.out.under HJ5.out hb914).box
                have g0 := hat14.cell 0; have g1 := hat14.cell 1; have g2 := hat14.cell 2; have g3 := hat14.cell 3; have g4 := hat14.cell 4; have g5 := hat14.cell 5
                have y0 := hbx.cell 0; have y1 := hbx.cell 1; have y2 := hbx.cell 2; have y3 := hbx.cell 3; have y4 := hbx.cell 4; have y5 := hbx.cell 5
                have z0 := hbx.free 0; have z1 := hbx.free 1; have z2 := hbx.free 2; have z3 := hbx.free 3; have z4 := hbx.free 4; have z5 := hbx.free 5
                simp only [rJourV, List.getElem?_toArray, List.getElem?_cons_zero, List.getElem?_cons_succ] at g0 g1 g2 g3 g4 g5 y0 y1 y2 y3 y4 y5
                have HP14 := Lib.hid hp14; clear hb914 hj14 hp14 hat14 hbx
                generalize w13.drewN q14 = w14 at *
                rw [EJX.out]
                go_wp2_with fail
                exact ⟨⟨k + 1, by omega, by go_num, j3, d4, c4, ra5, rc5, HP14.out.1, by rw [HJN.out, HJH.out, HJR.out]; exact HP14.out.2, E34.out.trans (EDX.out.trans EA.out), EJX.out, EF3.out, HJC.out, EE3.out, H4R.out.2, H4R.out.1, by rw [HJH.out]; exact HCS5.out, hkk⟩, by simp [intOf]; omega⟩
              · have hful : (N : Int) - j1.next < ((pagesN s.size : Nat) : Int) := by omega
                refine (jAppend_full j1 s _ HJ2.out.jour hs6 (by rw [hpn, EC.out]; exact hful)).mono ?_
                rintro e3 w3 ⟨rfl, rfl⟩
                rw [EJ.out]
                have EJX := EJ
                have HPC : Hid (c2.pending = []) := Lib.hid H2R.out.2.2
                have HRC : Hid (c2.recorded = []) := Lib.hid H2R.out.2.1
                have hjd3 := HJ2.out.below ((Below.refl w2.heap.size w2).drew)
                have HJ3 := Lib.hid hjd3.at_; have HA3 := Lib.hid (HA2.out.step hjd3); clear hjd3 hpn hfit
                go_wp2_with fail
                rw [← E12.out]
                refine (dRecord_ops d2 c2 false _ HJ3.out.disk).mono ?_
                rintro e4 w8 ⟨rfl, hd4, ho4⟩
                have hj4 := HJ3.out.disked hd4 rfl
                have HJ4 := Lib.hid hj4.at_; have HA4 := Lib.hid (HA3.out.step hj4); have HO4 := Lib.hid ho4
                have e34 : ({ d2 with rv := .slice none 0 0 } : DiskP).a = d2.a := rfl
                have E34 := Lib.hid e34; clear hj4 hd4 ho4 e34
                generalize ({ d2 with rv := .slice none 0 0 } : DiskP) = d4 at *
                have h4r : ({ c2 with recording := false, recorded := [] } : DiskC).recorded = [] ∧ ({ c2 with recording := false, recorded := [] } : DiskC).pending = [] := ⟨rfl, HPC.out⟩
                have H4R := Lib.hid h4r; clear h4r
                generalize ({ c2 with recording := false, recorded := [] } : DiskC) = c4 at *
                rw [E12.out, EA.out]
                have x0 := HA4.out.box.cell 0; have x1 := HA4.out.box.cell 1; have x2 := HA4.out.box.cell 2; have x3 := HA4.out.box.cell 3; have x4 := HA4.out.box.cell 4; have x5 := HA4.out.box.cell 5
                simp only [rJourV, List.getElem?_toArray, List.getElem?_cons_zero, List.getElem?_cons_succ] at x0 x1 x2 x3 x4 x5
                go_wp2_with fail
                clear x0 x1 x2 x3 x4 x5
                refine (rAppend_full F N E j1.next j1.chain s ra1 j1.recs.length rc1 _ hs6 (by omega) (by omega) hful).mono ?_
                rintro e5 w9 ⟨rfl, hb5⟩
                have hw5 : OpsC w9 (.slice none 0 0) [] := ⟨none, 0, rfl, .inl rfl⟩
                have hr5 := HA4.out.rows.below hb5
                have hjn : j1.next = j1.next := rfl
                have HJC := EC
                have hol : ([] : List POp).length ≤ 1000000 := by decide
                have hnx : j1.next ≤ 1000000 := by omega
                have hjh : j1.chain = j1.chain := rfl
                have hv5 : j1.recs.length = 0 ∨ ∀ k, (Value.slice ra1 j1.recs.length rc1).ownBlock = some k → k ≠ w7.heap.size ∧ ¬ j1.foot k ∧ ¬ d4.foot k := HA4.out.rout.imp id (fun h k hk => ⟨(h k hk).2, (h k hk).1.2⟩)
                have hkk : j1.recs.length ≤ k + 1 := by omega
                rw [HRC.out] at HO4
                unfold rJourV
                have HO5 := Lib.hid (HO4.out.below hb5); have HW5 := Lib.hid hw5; have HR5 := Lib.hid hr5; have HV5 := Lib.hid hv5; have HJN := Lib.hid hjn; have HJH := Lib.hid hjh
                have hj5 := HJ4.out.below hb5
                have HJ5 := Lib.hid hj5.at_; have HA5 := Lib.hid (HA4.out.step hj5); clear hb5 hw5 hr5 hv5 hjn hjh hj5
                go_wp2_with fail
                refine Lex.wp_region_lexN (fun i => i = w9.heap.size) [12, 20] 21 [7, 5, 2, 5] (by kernel_rfl) (by kernel_rfl) (by kernel_rfl) ?_
                simp only [Lex.wpCuts, List.take_succ_cons, List.take_zero, List.drop_succ_cons, List.drop_zero]
                have hba : Below w9.heap.size w9 (w9.alloc (.cells #[.int .i64 F, .int .i64 N, .int .i64 E, .int .i64 j1.next, .string j1.chain, .slice ra1 j1.recs.length rc1] 38)).drew := ((Below.refl w9.heap.size w9).alloc (Nat.le_refl _) _).drew
                have hat : At (w9.alloc (.cells #[.int .i64 F, .int .i64 N, .int .i64 E, .int .i64 j1.next, .string j1.chain, .slice ra1 j1.recs.length rc1] 38)).drew w9.heap.size 38 #[.int .i64 F, .int .i64 N, .int .i64 E, .int .i64 j1.next, .string j1.chain, .slice ra1 j1.recs.length rc1] := (At.new w9 _ _).drew
                have HBA := Lib.hid hba; have HAT := Lib.hid hat; clear hba hat
                generalize (w9.alloc (.cells #[.int .i64 F, .int .i64 N, .int .i64 E, .int .i64 j1.next, .string j1.chain, .slice ra1 j1.recs.length rc1] 38)).drew = wA at *
                go_wp2_with fail
                refine (eqOps_same _ _ [] _ (HO5.out.below HBA.out) (HW5.out.below HBA.out) hol).mono ?_
                rintro e6 w10 ⟨rfl, q10, rfl⟩
                go_wp2_with fail
                refine Lex.Mid.intro (fun i _ _ => rfl) ?_
                go_wp2_with fail
                have hb10 := below_drewN HBA.out q10
                have g0 := HAT.out.cell 0; have g1 := HAT.out.cell 1; have g2 := HAT.out.cell 2; have g3 := HAT.out.cell 3; have g4 := HAT.out.cell 4; have g5 := HAT.out.cell 5
                simp only [List.getElem?_toArray, List.getElem?_cons_zero, List.getElem?_cons_succ] at g0 g1 g2 g3 g4 g5
                rw [← EJX.out]
                refine (jFree_any j1 _ (HJ5.out.jour.below hb10 (Nat.le_refl _))).mono ?_
                rintro e7 w11 ⟨rfl, rfl⟩
                rw [HJC.out]
                (try rw [HJN.out])
                go_wp2_with fail
                refine Lex.Mid.intro (fun i _ _ => rfl) ?_
                go_wp2_with fail
                refine (rFree_any F N E j1.next j1.chain _ _ (by omega) (by omega)).mono ?_
                rintro e8 w12 ⟨rfl, hb12⟩
                have hb12' := (below_drewN HBA.out (q10 + 1)).trans (hb12.mono (below_drewN HBA.out (q10 + 1)).size)
                have HB12 := Lib.hid hb12; have HB912 := Lib.hid hb12'; clear hb10 hb12 hb12' g0 g1 g2 g3 g4 g5
                go_wp2_with fail
                refine Lex.Mid.intro (fun i hi hl => by subst hi; exact HB12.out.block _ hl) ?_
                go_wp2_with fail
                have hj12 := HJ5.out.jour.below HB912.out (Nat.le_refl _)
                refine (records_live j1 _ hj12).mono ?_
                rintro e13 w13 ⟨v13, rfl, hs13, hb13⟩
                obtain ⟨a13, c13, rfl⟩ := hs13.len
                have hb913 := HB912.out.trans (hb13.mono HB912.out.size)
                have hA13 : Below wA.heap.size wA w13 := ((below_drewN (Below.refl _ _) (q10 + 1)).trans HB12.out).trans (hb13.mono (HB12.out.size))
                have hat13 := HAT.out.below hA13 HAT.out.lt
                have g5 := hat13.cell 5
                simp only [List.getElem?_toArray, List.getElem?_cons_zero, List.getElem?_cons_succ] at g5
                have HS13 := Lib.hid hs13; have HB913 := Lib.hid hb913; have HA13 := Lib.hid hA13; have HAT13 := Lib.hid hat13; clear hj12 hs13 hb13 hb913 hA13 hat13
                go_wp2_with fail
                refine Lex.Mid.intro (fun i hi hl => by subst hi; exact HA13.out.block _ hl) ?_
                go_wp2_with fail
                refine (eqStrs_any _ _ j1.recs j1.recs _ HS13.out (HR5.out.below HB913.out) (by omega) (by omega)).mono ?_
                rintro e14 w14 ⟨rfl, q14, rfl⟩
                have hjr : j1.recs = j1.recs := by first | rfl | exact HJR.out
                rw [show decide (j1.recs = j1.recs) = true from decide_eq_true hjr]
                clear g5 hjr
                go_wp2_with fail
                refine Lex.EndsN.intro (by kernel_rfl) ⟨?_, ?_, trivial⟩ ?_
                · exact ⟨rfl, by show (World.cell? _ ⟨w9.heap.size, 0, none⟩).isSome = true; rw [HAT.out.cell 0]; rfl⟩
                · exact ⟨rfl, by show (World.cell? _ ⟨w9.heap.size, 5, none⟩).isSome = true; rw [HAT.out.cell 5]; rfl⟩
                have hb914 := below_drewN HB913.out q14
                have hj14 := (HJ5.out.below hb914).at_
                have hp14 := (HA5.out.under HJ5.out hb914).store hj14 (HR5.out.below hb914) (rfl : j1.recs.length = _) HV5.out (nx2 := j1.next) (ch2 := j1.chain)
                have hat14 : At (w13.drewN q14) w9.heap.size 38 _ := HAT13.out.drewN q14
                have hbx := (HA5.out.under HJ5.out hb914).box
                have g0 := hat14.cell 0; have g1 := hat14.cell 1; have g2 := hat14.cell 2; have g3 := hat14.cell 3; have g4 := hat14.cell 4; have g5 := hat14.cell 5
                have y0 := hbx.cell 0; have y1 := hbx.cell 1; have y2 := hbx.cell 2; have y3 := hbx.cell 3; have y4 := hbx.cell 4; have y5 := hbx.cell 5
                have z0 := hbx.free 0; have z1 := hbx.free 1; have z2 := hbx.free 2; have z3 := hbx.free 3; have z4 := hbx.free 4; have z5 := hbx.free 5
                simp only [rJourV, List.getElem?_toArray, List.getElem?_cons_zero, List.getElem?_cons_succ] at g0 g1 g2 g3 g4 g5 y0 y1 y2 y3 y4 y5
                have HP14 := Lib.hid hp14; clear hb914 hj14 hp14 hat14 hbx
                generalize w13.drewN q14 = w14 at *
                rw [EJX.out]
                go_wp2_with fail
                exact ⟨⟨k + 1, by omega, by go_num, j1, d4, c4, ra1, rc1, HP14.out.1, HP14.out.2, E34.out.trans (E12.out.trans EA.out), EJ.out, EF.out, EC.out, EE.out, H4R.out.2, H4R.out.1, HCH.out, hkk⟩, by simp [intOf]; omega⟩
          · have dk : decide ((k : Int) < xs.length) = false := by simp; omega
            go_wp2_with fail
            go_ret
            exact ⟨rfl, HBW.out.trans (HAP.out.below.mono HBW.out.size)⟩
      · have hok0 : ¬ openOK (DiskC.blank m).durable.length f n ep := by rw [hdl]; exact hok
        clear hok hdl
        refine (start_bad d (.blank m) _ _ f n ep _ HD.out (by simpa [DiskC.blank] using HRV.out) ⟨none, 0, rfl, .inl ⟨rfl, rfl, rfl⟩⟩ (by simp [DiskC.blank]; omega) hok0).mono ?_
        rintro e7 w7 ⟨rfl, hb7⟩
        have HB7 := Lib.hid hb7; clear hb7 k0 k1 hok0
        unfold rJourV
        go_wp2_with fail
        go_ret
        have hb := HB5.out.trans (HB7.out.mono HB5.out.size)
        exact ⟨rfl, HBW.out.trans ((hb.alloc hb.size _).mono HBW.out.size)⟩
end Go.Proofs.YtfgjjdjaiddllaaDoor
namespace Go.Proofs.YtfgjjdjaiddllaaDoor
set_option linter.unusedVariables false
set_option linter.unusedSimpArgs false
open Go Go.ChangeShapes Go.WideShapes Go.ChangeAt Go.RowKit
theorem ownKnobNone : ownKnob Tryd.prog.godebug = none := by kernel_rfl
theorem laidOutProg : laidOutB Tryd.prog = true := by kernel_rfl
set_option maxRecDepth 100000 in
theorem appends_lifted (os : Os) (started : os.Started) (H : Type) (enc : TypeId × Value → H) :
    ReturnsInHanded {} Tryd.checked os 8 .any (fun w args => (Rows.journalAppendsSpec.pre enc Tryd.prog Tryd.f8 Rows.journalAppendsRow.domain false w args ∧ laidMetH Tryd.prog Rows.journalAppendsRow.laid w) ∧ sizedMet enc Tryd.prog Tryd.f8 (OpenSpec.ofChange Rows.journalAppendsSpec) false w args)
      (Rows.journalAppendsSpec.post enc Tryd.prog Tryd.f8 false true false false) := by
  refine returnsInHanded_of_change_and (C := Tryd.checked) (X := fun w _ => laidMetH Tryd.prog Rows.journalAppendsRow.laid w) (fun _ _ _ hh h => h.of_heap hh) ownKnobNone started (by kernel_rfl) Tryd.func8
    (ChangeSpec.witness_shaped (enc := enc) (C := Tryd.checked) (os := os) (X := fun w _ => laidMetH Tryd.prog Rows.journalAppendsRow.laid w) false (World.laidAll Tryd.prog os Rows.journalAppendsRow.laid) #[.int .u8 0, .agg #[.int .i64 0, .int .i64 0], .int .i64 0, .slice none 0 0] 8 (World.laidAll_os _ _ _)
      (World.shaped_of_ZipB (by kernel_rfl) (by kernel_rfl)) (by kernel_rfl) (by kernel_rfl) (by kernel_rfl)
      (by rw [MakeChecks.laidMetH_plain _ _ _ (by kernel_rfl)]; exact laidMet_laidAll _ (by kernel_rfl) (by kernel_rfl))) ?_
  intro W base args ds gs before hval0 hW _ hz0 _ _
  have hval : ∀ (j : Nat) t v, Tryd.f8.params[j]? = some t → args[j]? = some v → Value.okWide Tryd.prog W .any base t v := hval0
  have hW' := hW
  obtain ⟨p, q, hA0, hV, rfl, _, _⟩ := hW
  have hA : DataW.TrodAll enc Tryd.prog W 0 (fun _ => true) true Tryd.f8.params.toList args.toList ds p := hA0
  rw [Tryd.params8] at hA hval
  obtain ⟨v0, v1, v2, v3, d0, d1, d2, d3, p0, p1, p2, p3, rfl, rfl, rfl, h0, h1, h2, h3⟩ := trodAll_four hA
  obtain ⟨rfl, rfl⟩ := trodVars_none hV
  obtain ⟨x0, rfl, rfl, rfl, wx0⟩ := open_int Tryd.underlying5 (hval 0 5 v0 rfl rfl) h0
  have hx0 : 0 ≤ x0 ∧ x0 < 256 := by
    have := wx0
    simp [Lit.wf, IntKind.has] at this
    have h1 : IntKind.u8.min = 0 := by decide
    have h2 : IntKind.u8.max = 255 := by decide
    omega
  obtain ⟨x1a, x1b, rfl, rfl, rfl, hx1a, hx1b⟩ := pages_in (hval 1 24 v1 rfl rfl) h1
  obtain ⟨x2, rfl, rfl, rfl, wx2⟩ := open_int Tryd.underlying3 (hval 2 3 v2 rfl rfl) h2
  have hx2 : -9223372036854775808 ≤ x2 ∧ x2 < 9223372036854775808 := by
    have := wx2
    simp [Lit.wf, IntKind.has] at this
    have h1 : IntKind.i64.min = -9223372036854775808 := by decide
    have h2 : IntKind.i64.max = 9223372036854775807 := by decide
    omega
  obtain ⟨a3, len3, cap3, rfl⟩ := okWide_slice Tryd.underlying22 (hval 3 22 v3 rfl rfl)
  have e0 : DataW.weightsEach Tryd.prog (Tryd.f8.params.toList ++ Rows.journalAppendsSpec.plain.varTypes Tryd.prog) ([DataW.lit (.int .u8 x0), pagesD x1a x1b, DataW.lit (.int .i64 x2), d3] ++ []) = d3.weights Tryd.prog 22 ++ [] := by
    rw [Tryd.params8]
    rfl
  have hz0 := e0 ▸ hz0
  simp only [List.all_append, List.all_nil, Bool.and_true, Bool.and_eq_true] at hz0
  obtain ⟨xs3, hxs3, hxb3, hxl3⟩ := strs_in h3 hz0
  have e1 : Rows.journalAppendsSpec.fn H ([.lit (.int .u8 x0), pagesD x1a x1b, .lit (.int .i64 x2), d3] ++ []) = { results := [.lit (.bool true)], args := [.lit (.int .u8 x0), pagesD x1a x1b, .lit (.int .i64 x2), d3] } := by simp [Rows.journalAppendsSpec]
  refine (appends_any x0 x1a x1b x2 _ xs3 W hx0 hx1a hx1b hx2 hxs3 hxb3 hxl3).mono fun e W' ⟨he, hb⟩ => ?_
  subst he
  refine ⟨_, rfl, _, _, _, [], [] ++ ([] ++ ([] ++ (p3 ++ []))), [], by simpa using hW', ?_, ?_, ?_, hb.frame _, fun h => by cases h⟩
  · rw [e1]; exact trodAll_mk1 (shut_bool Tryd.underlying4 true)
  · rw [e1]; exact (trodAll_cons_mk (shut_int Tryd.underlying5 wx0) (trodAll_cons_mk (shut_pages hx1a hx1b) (trodAll_cons_mk (shut_int Tryd.underlying3 wx2) (trodAll_cons_mk (Below.trod laidOutProg (by kernel_rfl) (of_decide_eq_true (by kernel_rfl)) h3 hb (fun z hz => hW'.lt z (by simp [hz]))) trodAll_mk0))))
  · rw [e1]; rfl
theorem appends_holds : Rows.JournalAppendsSaid :=
  OpenClaim.holds_of_wide 8 Tryd.f8 rfl rfl rfl rfl rfl rfl rfl ⟨rfl, rfl, rfl, rfl, rfl⟩ rfl rfl rfl rfl rfl (by kernel_rfl) Tryd.func8 (by kernel_rfl)
    (of_decide_eq_true (by kernel_rfl)) (by unfold Func.isWrapper; first | (rw [if_pos (by decide +kernel)]; kernel_rfl) | (rw [if_neg (by decide +kernel)]; exact ⟨rfl, rfl⟩))
    (fun os started H enc _ => appends_lifted os started H enc)
theorem appends_card : Rows.JournalAppendsCardSaid :=
  Claim7.holds_tied_plain_at .later [] [.data, .pinned] true Rows.journalAppendsCard.stood.harness false appends_holds (fun _ h => by cases h) (by kernel_rfl) (fun _ h => by cases h) journalAppends_row_tie rfl ⟨rfl, rfl⟩ (by kernel_rfl) rfl
    (fun f fn hf hfn => by
      obtain rfl : f = 8 := Option.some.inj ((show Tryd.prog.funcNamed "modcert/modcertlaw51.JournalAppends" = some 8 by kernel_rfl).symm.trans hf) |>.symm
      obtain rfl : fn = Tryd.f8 := (Option.some.inj (Tryd.func8.symm.trans hfn)).symm
      exact ⟨by kernel_rfl, fun j t ht => by
        rw [Tryd.params8] at ht
        have hm : t ∈ [5, 24, 3, 22] := by simpa using Array.mem_of_getElem? ht
        have hall : ([5, 24, 3, 22].all fun u => !Tryd.prog.wantsStandIn u) = true := by kernel_rfl
        exact (show Tryd.prog.wantsStandIn t = false by simpa using List.all_eq_true.1 hall t hm)⟩)
    (by kernel_rfl)
#print axioms appends_card
end Go.Proofs.YtfgjjdjaiddllaaDoor
