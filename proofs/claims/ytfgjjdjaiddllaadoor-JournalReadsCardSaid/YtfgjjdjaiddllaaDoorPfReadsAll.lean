/- Blocks apart from a journal and its disk. No condition. A slice of strings that came in, as the laws read it. No condition. A value of type Pages, read and written as the statement's data. No condition. The laws' start: the journal and its reference agree. Conditions: the reference's disk is the disk. The laws' pages, and that the reference's rows lie apart from the disk. Condition: the count of pages. A disk and its reference take writes, apart from each other. Conditions: those of each law. JournalReads: the walk. Condition: the arguments are of their types, the contents as they are read. JournalReads returns true for every input; the input reads as it did. Condition: the laid tables of package utf8, tied to the program's text (the card). -/
import Derived.Test.YtfgjjdjaiddllaaDoorLawA
import Derived.ProofKit
import Derived.SliceStrings
import Derived.Stop.Joined
import Derived.Test.YtfgjjdjaiddllaaDoorRefW
import Derived.Test.YtfgjjdjaiddllaaDoorJourS
import Derived.Deep.DeepCutAuto
import Derived.Test.YtfgjjdjaiddllaaDoorRows
import Derived.Test.YtfgjjdjaiddllaaDoorCards
import Derived.Test.YtfgjjdjaiddllaaDoorTie
import Derived.OpenShut
import Derived.LaidMore
import Derived.Lay
import Derived.SevenTiedAt
namespace Go.Proofs.YtfgjjdjaiddllaaDoor
set_option linter.unusedVariables false
set_option linter.unusedSimpArgs false
open Go Go.RowKit Go.Maps
/-- A block of neither. -/
def Out (w : World) (j : Jour) (d : DiskP) (b : Nat) : Prop := b < w.heap.size ∧ ¬ j.foot b ∧ ¬ d.foot b
theorem JDStep.out {w w' : World} {j j' : Jour} {d d' : DiskP} {c' : DiskC} {b : Nat} (h : JDStep w w' j j' d d' c') (ho : Out w j d b) : Out w' j' d' b ∧ w'.heap[b]? = w.heap[b]? := by
  obtain ⟨h1, h2, h3⟩ := ho
  refine ⟨⟨Nat.lt_of_lt_of_le h1 h.fr.size, fun hj => ?_, fun hd => ?_⟩, h.fr.keep b h1 (fun hf => hf.elim h2 h3)⟩
  · rcases h.footj b hj with h4 | h4
    · exact h2 h4
    · omega
  · rcases h.footd b hd with h4 | h4
    · exact h3 h4
    · omega
theorem JDStep.above {w w' : World} {j j' : Jour} {d d' : DiskP} {c' : DiskC} {B : Nat} (h : JDStep w w' j j' d d' c') (hj : ∀ k, j.foot k → B ≤ k) (hd : ∀ k, d.foot k → B ≤ k) (hB : B ≤ w.heap.size) :
    (∀ k, j'.foot k → B ≤ k) ∧ (∀ k, d'.foot k → B ≤ k) ∧ Below B w w' := by
  refine ⟨fun k hk => ?_, fun k hk => ?_, h.fr.below hB (fun k hk => hk.elim (hj k) (hd k))⟩
  · rcases h.footj k hk with h1 | h1
    · exact hj k h1
    · omega
  · rcases h.footd k hk with h1 | h1
    · exact hd k h1
    · omega
theorem Live.fr {F : Nat → Prop} {w w' : World} {j : Jour} {d : DiskP} {c : DiskC} (h : Live w j d c) (hf : Fr F w w') (hF : ∀ k, F k → ¬ j.foot k ∧ ¬ d.foot k) : Live w' j d c :=
  ⟨⟨h.jd.jour.keep (fun k hk => hf.keep k (h.jd.jour.lt k hk) (fun hFk => (hF k hFk).1 hk)), h.jd.disk.fr hf (fun k hk => (hF k hk).2), h.jd.da, h.jd.apart, h.jd.inn⟩, h.holds, h.calm, h.sized, h.chain, h.epoch⟩
theorem size_le_total {xs : List ByteArray} {x : ByteArray} (h : x ∈ xs) : x.size ≤ total xs := by
  induction xs with
  | nil => cases h
  | cons y l ih =>
    unfold total at ih ⊢
    rw [List.map_cons, List.sum_cons]
    rcases List.mem_cons.1 h with rfl | h1
    · omega
    · have := ih h1; omega
/-- A journal, its disk, a slice of strings that grows, and a block beside them, all behind the world w0. -/
structure Keep (w0 : World) (want : Value) (acc : List ByteArray) (b : Nat) (t : TypeId) (cs : Array Value) (w : World) (j : Jour) (d : DiskP) (c : DiskC) : Prop where
  live : Live w j d c
  rows : w.ownsRow w0.heap.size 9 1 want acc.length (acc.map Value.string)
  wout : ∀ k, want.ownBlock = some k → Out w j d k
  cell : At w b t cs
  cout : Out w j d b
  cw : t ≠ 9
  jup : ∀ k, j.foot k → w0.heap.size ≤ k
  dup : ∀ k, d.foot k → w0.heap.size ≤ k
  below : Below w0.heap.size w0 w
section
variable {w0 w w1 w2 w' : World} {want v' : Value} {acc acc' : List ByteArray} {b : Nat} {t : TypeId} {cs : Array Value} {j j' : Jour} {d d' : DiskP} {c c' : DiskC}
theorem Keep.step (h : Keep w0 want acc b t cs w j d c) (hs : JDStep w w' j j' d d' c') (hl : Live w' j' d' c') : Keep w0 want acc b t cs w' j' d' c' := by
  obtain ⟨h1, h2, h3⟩ := hs.above h.jup h.dup h.below.size
  exact ⟨hl, own_keep h.rows (fun k hk => (hs.out (h.wout k hk)).2), fun k hk => (hs.out (h.wout k hk)).1, h.cell.keep (hs.out h.cout).2, (hs.out h.cout).1, h.cw, h1, h2, h.below.trans h3⟩
theorem Keep.under (h : Keep w0 want acc b t cs w j d c) (hb : Below w.heap.size w w') : Keep w0 want acc b t cs w' j d c := h.step (h.live.jd.below hb) (h.live.below hb)
theorem Keep.grow (h : Keep w0 want acc b t cs w j d c) (hb : Below w.heap.size w w1) (hg : w1.grownBy w2 want.ownBlock) (how : w2.ownsRow w0.heap.size 9 1 v' acc'.length (acc'.map Value.string))
    (hv : v'.ownBlock = want.ownBlock ∨ ∃ g, v'.ownBlock = some g ∧ w.heap.size ≤ g) : Keep w0 v' acc' b t cs w2 j d c := by
  have hf : Fr (fun k => want.ownBlock = some k) w w2 := (Fr.of_below hb).grown hg (fun k hk => .inl hk)
  have hne : want.ownBlock ≠ some b := by
    intro e
    obtain ⟨cur, hc⟩ := own_at h.rows e
    exact h.cw (by have := h.cell; unfold At at this hc; rw [this] at hc; simp only [Option.some.injEq, Obj.cells.injEq] at hc; exact hc.2.1)
  have hup : ∀ k, want.ownBlock = some k → w0.heap.size ≤ k := by
    intro k hk
    obtain ⟨_, ⟨rfl, _⟩ | ⟨g, cap, cur, rfl, hg, _⟩⟩ := h.rows
    · cases hk
    · have : g = k := by
        have hk' : some g = some k := hk
        simpa using hk'
      omega
  refine ⟨h.live.fr hf (fun k hk => (h.wout k hk).2), how, fun k hk => ?_, hf.at h.cell hne, ⟨Nat.lt_of_lt_of_le h.cout.1 hf.size, h.cout.2⟩, h.cw, h.jup, h.dup, h.below.trans (hf.below h.below.size hup)⟩
  have hlt : k < w2.heap.size := by obtain ⟨cur, hc⟩ := own_at how hk; exact hc.lt
  rcases hv with hv | ⟨g, hv, hgl⟩
  · exact ⟨hlt, (h.wout k (hv.symm.trans hk)).2⟩
  · have : g = k := by rw [hv] at hk; simpa using hk
    exact ⟨hlt, fun hj => by have := h.live.jd.jour.lt k hj; omega, fun hd => by have := h.live.jd.disk.lt k hd; omega⟩
end
end Go.Proofs.YtfgjjdjaiddllaaDoor
namespace Go.Proofs.YtfgjjdjaiddllaaDoor
set_option linter.unusedVariables false
set_option linter.unusedSimpArgs false
open Go Go.RowKit Go.Maps
theorem StrsC.opened {w : World} {a : Addr} {len cap : Nat} {ss : List ByteArray} (h : ∀ i, i < ss.length → w.cell? (a.add i) = some (.string (ss.getD i ByteArray.empty))) (hl : len ≤ ss.length) : StrsC w (.slice (some a) len cap) (ss.take len) := by
  have e : (ss.take len).length = len := by rw [List.length_take]; omega
  by_cases h0 : len = 0
  · exact ⟨_, _, by rw [e], .inl (by rw [e]; exact h0)⟩
  · obtain ⟨b, o, sp⟩ := a
    cases sp with
    | none =>
      refine ⟨_, _, by rw [e], .inr ⟨b, o, rfl, fun j hj => ?_⟩⟩
      rw [e] at hj
      have := h j (by omega)
      have e2 : (⟨b, o, none⟩ : Addr).add j = ⟨b, o + j, none⟩ := by unfold Addr.add; split <;> simp_all
      rw [e2] at this
      rw [this]
      have : (ss.take len).getD j ⟨#[]⟩ = ss.getD j ByteArray.empty := by simp [List.getD_eq_getElem?_getD, List.getElem?_take, hj]; rfl
      rw [this]
    | some p =>
      exfalso
      have := h 0 (by omega)
      unfold World.cell? Addr.add at this
      simp at this
      split at this <;> simp_all
open Go.ChangeShapes in
theorem weights_strs {H : Type} {P : Program} {e : TypeId} : ∀ (ss : List ByteArray), (DataW.weightsAll P e (strs (H := H) ss)).all (· ≤ reachBytes) = true → ∀ s ∈ ss, s.size ≤ reachBytes
  | [], _, _, h => by cases h
  | x :: l, h, s, hs => by
    have e1 : DataW.weightsAll P e (strs (H := H) (x :: l)) = [x.data.toList.length] ++ DataW.weightsAll P e (strs (H := H) l) := rfl
    rw [e1, List.all_append, Bool.and_eq_true] at h
    rcases List.mem_cons.1 hs with rfl | hs
    · have := h.1
      simp only [List.all_cons, List.all_nil, Bool.and_true, decide_eq_true_eq] at this
      rw [Array.length_toList] at this
      exact this
    · exact weights_strs l h.2 s hs
theorem bytes_string : Tryd.prog.bytesOf 9 = 16 := by kernel_rfl
open Go.ChangeShapes Go.WideShapes in
/-- **A slice of strings that came in, opened**: it reads as StrsC, its strings are within the reach. -/
theorem strs_in {H : Type} {enc : TypeId × Value → H} {W : World} {a : Option Addr} {len cap : Nat} {d : DataW H} {p : List MemPlace} (h : DataW.Trod enc Tryd.prog W 0 (fun _ => true) true 22 (.slice a len cap) d p)
    (hz : (d.weights Tryd.prog 22).all (· ≤ reachBytes) = true) : ∃ xs : List ByteArray, StrsC W (.slice a len cap) xs ∧ (∀ z ∈ xs, z.size ≤ 140737488355328) ∧ xs.length ≤ 140737488355328 := by
  obtain ⟨fuel, hf⟩ := h
  rcases open_strings Tryd.underlying22 Tryd.underlying9 (by kernel_rfl) hf with ⟨hcs, _⟩ | ⟨a', len', cap', ss, hcs, _, hl, hm, hn, hx2, hcell, _⟩
  · have e : Value.slice a len cap = .slice none 0 0 := by simpa [Value.cells] using hcs
    rw [e]
    exact ⟨[], ⟨none, 0, rfl, .inl rfl⟩, (fun z hz => by cases hz), Nat.zero_le _⟩
  · have e : Value.slice a len cap = .slice (some a') len' cap' := by simpa [Value.cells] using hcs
    rw [e]
    have hn' : ss.length = cap' := by simpa using hn
    have hd : d = .slice (strs (ss.take len')) (strs (ss.drop len')) := (Prod.mk.inj hx2).1
    rw [hd] at hz
    have hw : (DataW.slice (strs (H := H) (ss.take len')) (strs (ss.drop len'))).weights Tryd.prog 22 = ((strs (H := H) (ss.take len')).length + (strs (H := H) (ss.drop len')).length) * Tryd.prog.bytesOf 9 :: (DataW.weightsAll Tryd.prog 9 (strs (H := H) (ss.take len')) ++ DataW.weightsAll Tryd.prog 9 (strs (H := H) (ss.drop len'))) := by
      simp only [DataW.weights, Tryd.underlying22]
    rw [hw, List.all_cons, List.all_append, Bool.and_eq_true, Bool.and_eq_true, bytes_string] at hz
    obtain ⟨h1, h2, _⟩ := hz
    have e1 : (strs (H := H) (ss.take len')).length = len' := by unfold strs; rw [List.length_map, List.length_take]; omega
    rw [e1] at h1
    have h1' := of_decide_eq_true h1
    unfold reachBytes at h1'
    refine ⟨ss.take len', StrsC.opened hcell (by omega), fun z hz2 => ?_, ?_⟩
    · have := weights_strs _ h2 z hz2
      unfold reachBytes at this
      omega
    · rw [List.length_take]
      omega
end Go.Proofs.YtfgjjdjaiddllaaDoor
namespace Go.Proofs.YtfgjjdjaiddllaaDoor
set_option linter.unusedVariables false
set_option linter.unusedSimpArgs false
open Go Go.ChangeShapes Go.WideShapes Go.RowKit Go.Maps
def pagesD {H : Type} (a b : Int) : DataW H := .agg [.lit (.int .i64 a), .lit (.int .i64 b)]
section
variable {H : Type} {enc : TypeId × Value → H}
theorem cellsPages : Tryd.prog.cellsOf 24 = 2 := by kernel_rfl
theorem cellsInt : Tryd.prog.cellsOf 3 = 1 := by kernel_rfl
theorem wf_range {a : Int} (h : (Lit.int .i64 a).wf = true) : -9223372036854775808 ≤ a ∧ a < 9223372036854775808 := by
  simp [Lit.wf, IntKind.has] at h
  have h1 : IntKind.i64.min = -9223372036854775808 := by decide
  have h2 : IntKind.i64.max = 9223372036854775807 := by decide
  omega
theorem range_wf {a : Int} (h : -9223372036854775808 ≤ a ∧ a < 9223372036854775808) : (Lit.int .i64 a).wf = true := by
  simp [Lit.wf, IntKind.has]
  have h1 : IntKind.i64.min = -9223372036854775808 := by decide
  have h2 : IntKind.i64.max = 9223372036854775807 := by decide
  omega
set_option maxRecDepth 100000 in
theorem pages_in {W : World} {base : Nat} {sp : Nat → Bool} {v : Value} {d : DataW H} {ps : List MemPlace} (hval : Value.okWide Tryd.prog W .any base 24 v) (h : DataW.Trod enc Tryd.prog W 0 sp true 24 v d ps) :
    ∃ a b, v = .agg #[.int .i64 a, .int .i64 b] ∧ d = pagesD a b ∧ ps = [] ∧ (-9223372036854775808 ≤ a ∧ a < 9223372036854775808) ∧ (-9223372036854775808 ≤ b ∧ b < 9223372036854775808) := by
  obtain ⟨cs, rfl, hs⟩ := okWide_struct Tryd.underlying24 hval
  rw [cellsPages] at hs
  match cs, hs with
  | ⟨[c0, c1]⟩, _ =>
    obtain ⟨n, hy⟩ := h
    obtain ⟨y0, y1, m, he, _, u0, u1⟩ := trod_struct2 Tryd.underlying24 hy
    simp only [cellsInt, Value.cells, List.drop, List.take] at u0 u1
    obtain ⟨a, ha, rfl, wa⟩ := DataW.trod_int Tryd.underlying3 u0
    obtain ⟨b, hb, rfl, wb⟩ := DataW.trod_int Tryd.underlying3 u1
    simp only [List.cons.injEq, and_true] at ha hb
    subst ha; subst hb
    simp only [Prod.mk.injEq] at he
    exact ⟨a, b, rfl, he.1, he.2, wf_range wa, wf_range wb⟩
set_option maxRecDepth 100000 in
theorem shut_pages {W : World} {sp : Nat → Bool} {a b : Int} (ha : -9223372036854775808 ≤ a ∧ a < 9223372036854775808) (hb : -9223372036854775808 ≤ b ∧ b < 9223372036854775808) :
    DataW.Trod enc Tryd.prog W 0 sp true 24 (.agg #[.int .i64 a, .int .i64 b]) (pagesD a b) [] := by
  have h := trod_struct2_mk (enc := enc) (w := W) (base := 0) (spare := sp) (held := true) (n := 1) (cs := [.int .i64 a, .int .i64 b]) (y0 := (.lit (.int .i64 a), [])) (y1 := (.lit (.int .i64 b), [])) Tryd.underlying24 (by rw [cellsPages]; rfl)
    (by simpa [cellsInt] using (show DataW.trod enc Tryd.prog W 0 sp true 1 3 [.int .i64 a] = some (.lit (.int .i64 a), []) by simp [DataW.trod, Tryd.underlying3, range_wf ha]))
    (by simpa [cellsInt] using (show DataW.trod enc Tryd.prog W 0 sp true 1 3 [.int .i64 b] = some (.lit (.int .i64 b), []) by simp [DataW.trod, Tryd.underlying3, range_wf hb]))
  exact ⟨_, h⟩
end
end Go.Proofs.YtfgjjdjaiddllaaDoor
namespace Go.Proofs.YtfgjjdjaiddllaaDoor
set_option linter.unusedVariables false
set_option linter.unusedSimpArgs false
open Go Go.RowKit Go.Maps
theorem start_done {tmps : Array Value} {w : World} {b : Nat} {v0 v1 v2 v3 v4 v5 p8 p10 : Value} {Q : Ending → World → Prop} (hp : tmps.getD 9 undef = .pointer (some ⟨b, 0, none⟩)) (h8 : tmps.getD 8 undef = p8) (h10 : tmps.getD 10 undef = p10) (hat : At w b 38 #[v0, v1, v2, v3, v4, v5])
    (hq : Q (.returned (.tuple #[p8, .agg #[v0, v1, v2, v3, v4, v5], p10])) w) : bodyPost Tryd.prog Tryd.f13 Q Exit.ret { tmps := tmps, defers := [] } w := by
  refine bodyPost_ret (v := .tuple #[p8, .agg #[v0, v1, v2, v3, v4, v5], p10]) ?_ rfl hq
  have hl := run_loadVar_row w b 38 38 _ (0, 0) _ hat Tryd.underlying38 rfl info_rJournal
  unfold results
  have hr : Tryd.f13.results = #[.tmp 8, .cell 9 38, .tmp 10] := rfl
  have hp' : tmps[9]?.getD undef = .pointer (some ⟨b, 0, none⟩) := by simpa using hp
  have h8' : tmps[8]?.getD undef = p8 := by simpa using h8
  have h10' : tmps[10]?.getD undef = p10 := by simpa using h10
  simp [hr, hp', h8', h10', asAddr, hl, Result.andThen]
set_option maxRecDepth 100000 in
set_option maxHeartbeats 8000000 in
theorem start_any (d : DiskP) (c : DiskC) (dv pv : Value) (f n ep : Int) (w : World) (h : DiskAt w d c) (hd : StrsC w dv c.durable) (hp : PendC w pv c.pending) (hps : ∀ x ∈ c.pending, x.2.size = 512) (hl : c.pending.length ≤ 1000) (hn : c.durable.length ≤ 1000)
    (hz : ∀ q, (c.read q).1.size ≤ 140737488340000) :
    Calls Tryd.prog 13 #[.pointer (some ⟨d.a, 0, none⟩), .agg #[dv, pv], .agg #[.int .i64 f, .int .i64 n], .int .i64 ep] w fun e w' => (∃ (pt : Option Addr) (f' n' e' x : Int) (ch : ByteArray) (a : Option Addr) (m k : Nat), e = .returned (.tuple #[.pointer pt, .agg (rJourV f' n' e' x ch (.slice a m k)), .bool true])) ∧ Below w.heap.size w w' := by
  obtain ⟨da, dc, rfl⟩ := hd.len
  obtain ⟨pa, pc, hpe, hpc⟩ := hp
  have hpp : PendC w pv c.pending := ⟨pa, pc, hpe, hpc⟩
  subst hpe
  obtain ⟨w1, hw1⟩ : ∃ x, x = ((w.alloc (.cells #[.slice da c.durable.length dc, .slice pa c.pending.length pc] 29)).alloc (.cells #[.int .i64 f, .int .i64 n] 24)).alloc (.cells #[.int .i64 0, .int .i64 0, .int .i64 0, .int .i64 0, .string ⟨#[]⟩, .slice none 0 0] 38) := ⟨_, rfl⟩
  have t0 : At w1 w.heap.size 29 #[.slice da c.durable.length dc, .slice pa c.pending.length pc] := by rw [hw1]; exact ((At.new w _ _).alloc _).alloc _
  have t1 : At w1 (w.heap.size + 1) 24 #[.int .i64 f, .int .i64 n] := by rw [hw1]; exact (At.new1 w _ _ _).alloc _
  have t2 : At w1 (w.heap.size + 1 + 1) 38 #[.int .i64 0, .int .i64 0, .int .i64 0, .int .i64 0, .string ⟨#[]⟩, .slice none 0 0] := by
    rw [hw1]
    have := At.new1 (w.alloc (.cells #[.slice da c.durable.length dc, .slice pa c.pending.length pc] 29)) (.cells #[.int .i64 f, .int .i64 n] 24) 38 #[.int .i64 0, .int .i64 0, .int .i64 0, .int .i64 0, .string ⟨#[]⟩, .slice none 0 0]
    rw [World.size_alloc] at this
    exact this
  have hbw : Below w.heap.size w w1 := by rw [hw1]; exact (((Below.refl _ _).alloc (Nat.le_refl _) _).alloc (by simp) _).alloc (by simp; omega) _
  have hsz : w1.heap.size = w.heap.size + 3 := by rw [hw1]; simp
  have HD1 := Lib.hid (h.below hbw (Nat.le_refl _)); have HS1 := Lib.hid (StrsC.below hd hbw); have HP1 := Lib.hid (PendC.below hpp hbw)
  have T0 := Lib.hid t0; have T1 := Lib.hid t1; have T2 := Lib.hid t2; have HBW := Lib.hid hbw; have HSZ := Lib.hid hsz; have HW1 := Lib.hid hw1; have HPS := Lib.hid hps; have HZ := Lib.hid hz
  clear t0 t1 t2 hbw hsz hw1 h hd hpp hpc hps hz
  have k0 := T1.out.cell 0; have k1 := T1.out.cell 1
  simp only [List.getElem?_toArray, List.getElem?_cons_zero, List.getElem?_cons_succ] at k0 k1
  go_enter Tryd.func13, Tryd.ntmps13
  go_upto_region 1 with fail
  rw [← HW1.out]
  go_wp2_with fail
  by_cases hok : openOK c.durable.length f n ep
  · have hok0 := hok
    obtain ⟨h1, h2, h3, h4, h5, h6⟩ := hok
    obtain ⟨F, rfl⟩ : ∃ F : Nat, f = F := ⟨f.toNat, by omega⟩
    obtain ⟨N, rfl⟩ : ∃ N : Nat, n = N := ⟨n.toNat, by omega⟩
    obtain ⟨E, rfl⟩ : ∃ E : Nat, ep = E := ⟨ep.toNat, by omega⟩
    obtain ⟨rd, hrd⟩ : ∃ rd : Nat → ByteArray × Int, rd = fun k : Nat => c.read ((F : Int) + (k : Int)) := ⟨_, rfl⟩
    have hrd2 : ∀ k, rd k = c.read ((F : Int) + (k : Int)) := fun k => by rw [hrd]
    have hro := r51Open_any (.slice da c.durable.length dc) (.slice pa c.pending.length pc) c (F : Int) (N : Int) (E : Int)
    rw [Int.toNat_natCast, Int.toNat_natCast, ← hrd] at hro
    have HRO := Lib.hid hro; have HOK := Lib.hid hok0; clear hro hrd hok0
    refine (jOpen_ok d c rd F N E c.durable.length w1 rfl HD1.out (by omega) (by omega) (by omega) (by omega) (by omega) (fun q => Nat.le_trans (HZ.out q) (by omega)) hrd2).mono ?_
    rintro e2 w2 ⟨j, rfl, hj, -, -, e2', -, e4, e5, -, hjf, hb2⟩
    have T02 := T0.out.below hb2 T0.out.lt; have T12 := T1.out.below hb2 T1.out.lt
    have k2 := T02.cell 0; have k3 := T02.cell 1; have k4 := T12.cell 0; have k5 := T12.cell 1
    simp only [List.getElem?_toArray, List.getElem?_cons_zero, List.getElem?_cons_succ] at k2 k3 k4 k5
    have HB2 := Lib.hid hb2; have HJ := Lib.hid hj; have E2 := Lib.hid e2'; have E4 := Lib.hid e4; have E5 := Lib.hid e5; clear hb2 hj hjf e2' e4 e5 T02 T12 k0 k1 hrd2
    go_wp2_with fail
    refine (HRO.out w2 (StrsC.below HS1.out HB2.out) (PendC.below HP1.out HB2.out) HPS.out (by omega) (by omega) HZ.out HOK.out).mono ?_
    rintro e3 w3 ⟨rv, rfl, hrs, hb3⟩
    obtain ⟨ra, rc, rfl⟩ := hrs.len
    have HJ3 := Lib.hid (JourAt.below HJ.out hb3 (Nat.le_refl _)); have HRS := Lib.hid hrs
    have HB3 := Lib.hid (HB2.out.trans (hb3.mono HB2.out.size)); clear hb3 k2 k3 k4 k5 hrs
    unfold rJourV
    have hrs := HRS.out
    rw [← E4.out] at hrs
    rw [← E4.out, ← E5.out]
    have HRS' := Lib.hid hrs; clear hrs HRS
    generalize (opened E N rd).jch = jc
    have hfew := HJ3.out.few
    have hcnt := HJ3.out.count
    have hnxt := HJ3.out.next
    have hE2 := E2.out
    go_wp2_with fail
    refine Lex.wp_region_lexN (fun k => k = w3.heap.size) [17, 23] 24 [16, 3, 4] (by kernel_rfl) (by kernel_rfl) (by kernel_rfl) ?_
    simp only [Lex.wpCuts, List.take_succ_cons, List.take_zero, List.drop_succ_cons, List.drop_zero]
    go_wp2_with fail
    have hba : Below w3.heap.size w3 (w3.alloc (.cells #[.int .i64 F, .int .i64 N, .int .i64 E, .int .i64 j.next, .string jc, .slice ra j.recs.length rc] 38)).drew := ((Below.refl w3.heap.size w3).alloc (Nat.le_refl _) _).drew
    have hat : At (w3.alloc (.cells #[.int .i64 F, .int .i64 N, .int .i64 E, .int .i64 j.next, .string jc, .slice ra j.recs.length rc] 38)).drew w3.heap.size 38 #[.int .i64 F, .int .i64 N, .int .i64 E, .int .i64 j.next, .string jc, .slice ra j.recs.length rc] := (At.new w3 _ _).drew
    have HBA := Lib.hid hba; have HAT := Lib.hid hat; clear hba hat
    refine (records_live j _ (JourAt.below HJ3.out HBA.out (Nat.le_refl _))).mono ?_
    rintro e5 w5 ⟨v5, rfl, hs5, hb5⟩
    have hat5 := HAT.out.below hb5 HAT.out.lt
    have g5 := hat5.cell 5; have g0 := hat5.cell 0; have g1 := hat5.cell 1; have g2 := hat5.cell 2; have g3 := hat5.cell 3; have g4 := hat5.cell 4
    simp only [List.getElem?_toArray, List.getElem?_cons_zero, List.getElem?_cons_succ] at g0 g1 g2 g3 g4 g5
    have hb35 := HBA.out.trans (hb5.mono HBA.out.size)
    have HB5 := Lib.hid hb5; have HS5 := Lib.hid hs5; have HAT5 := Lib.hid hat5; have HB35 := Lib.hid hb35; clear hb5 hs5 hat5 hb35
    obtain ⟨a5, c5, rfl⟩ := HS5.out.len
    go_wp2_with fail
    refine Lex.Mid.intro (fun k hk hl => by subst hk; exact HB5.out.block _ hl) ?_
    go_wp2_with fail
    refine (eqStrs_any _ _ j.recs j.recs _ HS5.out (StrsC.below HRS'.out HB35.out) (by omega) (by omega)).mono ?_
    rintro e6 w6 ⟨rfl, n6, rfl⟩
    rw [show decide (j.recs = j.recs) = true by simp]
    go_wp2_with fail
    refine Lex.Mid.intro (fun k hk hl => by subst hk; exact HB5.out.block _ hl) ?_
    go_wp2_with fail
    refine (jFree_any j _ (JourAt.below HJ3.out (below_drewN HB35.out n6) (Nat.le_refl _))).mono ?_
    rintro e7 w7 ⟨rfl, rfl⟩
    rw [E2.out]
    go_wp2_with fail
    refine Lex.Mid.intro (fun k hk hl => by subst hk; exact HB5.out.block _ hl) ?_
    go_wp2_with fail
    refine (rFree_any F N E j.next jc _ _ (by omega) (by omega)).mono ?_
    rintro e8 w8 ⟨rfl, hb8⟩
    clear g0 g1 g2 g3 g4 g5
    have hb58 : Below w5.heap.size w5 w8 := (below_drewN (Below.refl _ _) (n6 + 1)).trans hb8
    have hat8 := HAT5.out.below hb58 HAT5.out.lt
    have g5 := hat8.cell 5; have g0 := hat8.cell 0; have g1 := hat8.cell 1; have g2 := hat8.cell 2; have g3 := hat8.cell 3; have g4 := hat8.cell 4
    simp only [List.getElem?_toArray, List.getElem?_cons_zero, List.getElem?_cons_succ] at g0 g1 g2 g3 g4 g5
    have HB38 := Lib.hid (HB35.out.trans (hb58.mono HB35.out.size)); clear hb58 hat8 hb8
    go_wp2_with fail
    refine Lex.EndsN.intro (by kernel_rfl) ⟨?_, ?_, trivial⟩ ?_
    · exact ⟨rfl, by show (World.cell? _ ⟨w3.heap.size, 5, none⟩).isSome = true; rw [HAT.out.cell 5]; rfl⟩
    · exact ⟨rfl, by show (World.cell? _ ⟨w3.heap.size, 0, none⟩).isSome = true; rw [HAT.out.cell 0]; rfl⟩
    have t23 := T2.out.below (HB3.out.trans (HB38.out.mono HB3.out.size)) T2.out.lt
    have yo : ∀ i, w8.cell? ⟨w.heap.size + 1 + 1, i, none⟩ = (#[.int .i64 0, .int .i64 0, .int .i64 0, .int .i64 0, .string ⟨#[]⟩, .slice none 0 0] : Array Value)[i]? := fun i => t23.cell i
    have y0 := yo 0; have y1 := yo 1; have y2 := yo 2; have y3 := yo 3; have y4 := yo 4; have y5 := yo 5
    have z0 : w8.frozen? ⟨w.heap.size + 1 + 1, 0, none⟩ = false := t23.free 0
    have z1 : w8.frozen? ⟨w.heap.size + 1 + 1, 1, none⟩ = false := t23.free 1
    have z2 : w8.frozen? ⟨w.heap.size + 1 + 1, 2, none⟩ = false := t23.free 2
    have z3 : w8.frozen? ⟨w.heap.size + 1 + 1, 3, none⟩ = false := t23.free 3
    have z4 : w8.frozen? ⟨w.heap.size + 1 + 1, 4, none⟩ = false := t23.free 4
    have z5 : w8.frozen? ⟨w.heap.size + 1 + 1, 5, none⟩ = false := t23.free 5
    simp only [List.getElem?_toArray, List.getElem?_cons_zero, List.getElem?_cons_succ] at y0 y1 y2 y3 y4 y5
    clear yo
    have T23 := Lib.hid t23; clear t23
    go_wp2_with fail
    refine Lex.wp_region_lex (by kernel_rfl) (by kernel_rfl) ?_
    go_wp2_with fail
    refine Lex.Ends.intro (by kernel_rfl) ?_
    go_wp2_with fail
    have hb8 := HBW.out.trans ((HB3.out.trans (HB38.out.mono HB3.out.size)).mono HBW.out.size)
    refine start_done rfl rfl rfl (At.put6 T23.out _ _ _ _ _ _).drew ⟨⟨some ⟨j.jb, 0, none⟩, F, N, E, j.next, jc, ra, j.recs.length, rc, rfl⟩, (below6 (b := w.heap.size + 1 + 1) hb8 (by omega) _ _ _ _ _ _).drew⟩
  · refine (jOpen_bad d c f n ep w1 HD1.out hok).mono ?_
    rintro e2 w2 ⟨rfl, hb2⟩
    have T02 := T0.out.below hb2 T0.out.lt; have T12 := T1.out.below hb2 T1.out.lt
    have k2 := T02.cell 0; have k3 := T02.cell 1; have k4 := T12.cell 0; have k5 := T12.cell 1
    simp only [List.getElem?_toArray, List.getElem?_cons_zero, List.getElem?_cons_succ] at k2 k3 k4 k5
    have HB2 := Lib.hid hb2; clear hb2 T02 T12 k0 k1
    go_wp2_with fail
    refine (r51Open_bad _ _ _ _ f n ep w2 (by omega) hok).mono ?_
    rintro e3 w3 ⟨rfl, hb3⟩
    have HB3 := Lib.hid (HB2.out.trans (hb3.mono HB2.out.size)); clear hb3 k2 k3 k4 k5
    have HOK := Lib.hid hok; clear hok
    unfold rJourV
    go_wp2_with fail
    refine Lex.wp_region_lexN (fun k => k = w3.heap.size) [17, 23] 24 [16, 3, 4] (by kernel_rfl) (by kernel_rfl) (by kernel_rfl) ?_
    simp only [Lex.wpCuts, List.take_succ_cons, List.take_zero, List.drop_succ_cons, List.drop_zero]
    go_wp2_with fail
    refine Lex.Mid.intro (fun k _ _ => rfl) ?_
    go_wp2_with fail
    refine Lex.Mid.intro (fun k _ _ => rfl) ?_
    go_wp2_with fail
    refine Lex.Mid.intro (fun k _ _ => rfl) ?_
    go_wp2_with fail
    refine Lex.EndsN.intro (by kernel_rfl) ⟨trivial, trivial, trivial⟩ ?_
    go_wp2_with fail
    have t23 := T2.out.below HB3.out T2.out.lt
    have yo : ∀ o i, (w3.alloc o).cell? ⟨w.heap.size + 1 + 1, i, none⟩ = (#[.int .i64 0, .int .i64 0, .int .i64 0, .int .i64 0, .string ⟨#[]⟩, .slice none 0 0] : Array Value)[i]? := fun o i => (t23.alloc o).cell i
    have y0 := fun o => yo o 0; have y1 := fun o => yo o 1; have y2 := fun o => yo o 2; have y3 := fun o => yo o 3; have y4 := fun o => yo o 4; have y5 := fun o => yo o 5
    have z0 : ∀ o, (w3.alloc o).frozen? ⟨w.heap.size + 1 + 1, 0, none⟩ = false := fun o => (t23.alloc o).free 0
    have z1 : ∀ o, (w3.alloc o).frozen? ⟨w.heap.size + 1 + 1, 1, none⟩ = false := fun o => (t23.alloc o).free 1
    have z2 : ∀ o, (w3.alloc o).frozen? ⟨w.heap.size + 1 + 1, 2, none⟩ = false := fun o => (t23.alloc o).free 2
    have z3 : ∀ o, (w3.alloc o).frozen? ⟨w.heap.size + 1 + 1, 3, none⟩ = false := fun o => (t23.alloc o).free 3
    have z4 : ∀ o, (w3.alloc o).frozen? ⟨w.heap.size + 1 + 1, 4, none⟩ = false := fun o => (t23.alloc o).free 4
    have z5 : ∀ o, (w3.alloc o).frozen? ⟨w.heap.size + 1 + 1, 5, none⟩ = false := fun o => (t23.alloc o).free 5
    simp only [List.getElem?_toArray, List.getElem?_cons_zero, List.getElem?_cons_succ] at y0 y1 y2 y3 y4 y5
    clear yo
    have T23 := Lib.hid t23; clear t23
    refine Lex.wp_region_lex (by kernel_rfl) (by kernel_rfl) ?_
    go_wp2_with fail
    refine Lex.Ends.intro (by kernel_rfl) ?_
    go_wp2_with fail
    have hb3 := HBW.out.trans (HB3.out.mono HBW.out.size)
    refine start_done rfl rfl rfl (At.put6 (T23.out.alloc _) _ _ _ _ _ _).drew.drew ⟨⟨none, 0, 0, 0, 0, ⟨#[]⟩, none, 0, 0, rfl⟩, (below6 (b := w.heap.size + 1 + 1) (hb3.alloc hb3.size _) (by omega) _ _ _ _ _ _).drew.drew⟩
end Go.Proofs.YtfgjjdjaiddllaaDoor
namespace Go.Proofs.YtfgjjdjaiddllaaDoor
set_option linter.unusedVariables false
set_option linter.unusedSimpArgs false
open Go Go.RowKit Go.Maps
set_option maxRecDepth 100000 in
set_option maxHeartbeats 1000000 in
theorem pages_far (n : Nat) (w : World) (h1 : 1 ≤ n) (h2 : n ≤ 4096) :
    Calls Tryd.prog 10 #[.int .i64 n] w fun e w' => ∃ (d : DiskP) (v : Value), e = .returned (.tuple #[.pointer (some ⟨d.a, 0, none⟩), rDiskV v (.slice none 0 0)]) ∧ DiskAt w' d (.blank n) ∧
      StrsC w' v (List.replicate n ⟨#[]⟩) ∧ Below w.heap.size w w' ∧ (∀ k, d.foot k → w.heap.size ≤ k) ∧ ∀ k, v.ownBlock = some k → w.heap.size ≤ k ∧ ¬ d.foot k := by
  go_enter Tryd.func10, Tryd.ntmps10
  go_wp2_with fail
  refine (dNew_any n _ h1 h2).mono ?_
  rintro e w1 ⟨d, rfl, hd, hb1, hfoot⟩
  have HD := Lib.hid hd; have HB := Lib.hid hb1; have HF := Lib.hid hfoot; clear hd hb1 hfoot
  go_wp2_with fail
  refine (rNew_any n _ h1 h2).mono ?_
  rintro e w2 ⟨v, rfl, ho, hb2⟩
  obtain ⟨g, cap, rfl, _⟩ := own_cell ho (by omega)
  have HO := Lib.hid ho; have HB2 := Lib.hid hb2; clear ho hb2
  have hat2 : At w2 w.heap.size 29 #[.slice none 0 0, .slice none 0 0] := ((At.new w 29 _).below HB.out (by simp)).below HB2.out (Nat.lt_of_lt_of_le (by simp) HB.out.size)
  have hlt2 := hat2.lt
  have z0 := (hat2.alloc (.cells #[.slice (some ⟨g, 0, none⟩) n cap, .slice none 0 0] 29)).free 0; have z1 := (hat2.alloc (.cells #[.slice (some ⟨g, 0, none⟩) n cap, .slice none 0 0] 29)).free 1
  have k0 := (hat2.alloc (.cells #[.slice (some ⟨g, 0, none⟩) n cap, .slice none 0 0] 29)).cell 0; have k1 := (hat2.alloc (.cells #[.slice (some ⟨g, 0, none⟩) n cap, .slice none 0 0] 29)).cell 1
  simp only [List.getElem?_toArray, List.getElem?_cons_zero, List.getElem?_cons_succ] at k0 k1
  have y0 := hat2.free 0; have y1 := hat2.free 1; have x0 := hat2.cell 0; have x1 := hat2.cell 1
  simp only [List.getElem?_toArray, List.getElem?_cons_zero, List.getElem?_cons_succ] at x0 x1
  have HA2 := Lib.hid hat2; clear hat2
  unfold rDiskV
  go_wp2_with fail
  refine Lex.wp_region_lex (by kernel_rfl) (by kernel_rfl) ?_
  go_wp2_with fail
  refine Lex.Ends.intro (by kernel_rfl) ?_
  go_wp2_with fail
  have hge : w1.heap.size ≤ g := by
    obtain ⟨_, ⟨h0, _⟩ | ⟨g', cap', cur, hgv, hle, _⟩⟩ := HO.out
    · cases h0
    · cases hgv; exact hle
  have hw01 : w.heap.size < w1.heap.size := Nat.lt_of_lt_of_le (by simp) HB.out.size
  have hne : ∀ i : Nat, (Value.slice (some ⟨g, 0, none⟩) n cap).ownBlock ≠ some (⟨w.heap.size, i, none⟩ : Addr).block := by
    intro i e
    have : g = w.heap.size := by simpa [Value.ownBlock] using e
    omega
  have hset := (((HA2.out.set 0 (.slice (some ⟨g, 0, none⟩) n cap)).set 1 (.slice none 0 0)).alloc (.cells #[.slice (some ⟨g, 0, none⟩) n cap, .slice none 0 0] 29))
  have hfr : Fr (fun k => k = w.heap.size) w2 (((w2.setCell ⟨w.heap.size, 0, none⟩ (.slice (some ⟨g, 0, none⟩) n cap)).setCell ⟨w.heap.size, 1, none⟩ (.slice none 0 0)).alloc (.cells #[.slice (some ⟨g, 0, none⟩) n cap, .slice none 0 0] 29)) :=
    (((Fr.refl (fun k => k = w.heap.size) w2).setCell (p := ⟨w.heap.size, 0, none⟩) (.inl rfl) _).setCell (p := ⟨w.heap.size, 1, none⟩) (.inl rfl) _).alloc _
  have hrows := ((ownsRow_setCell_other (ownsRow_setCell_other HO.out (a := ⟨w.heap.size, 0, none⟩) (hne 0) (.slice (some ⟨g, 0, none⟩) n cap)) (a := ⟨w.heap.size, 1, none⟩) (hne 1) (.slice none 0 0)).alloc (.cells #[.slice (some ⟨g, 0, none⟩) n cap, .slice none 0 0] 29))
  refine bodyPost_ret (v := .tuple #[.pointer (some ⟨d.a, 0, none⟩), .agg #[.slice (some ⟨g, 0, none⟩) n cap, .slice none 0 0]]) ?_ rfl ⟨d, _, rfl, ?_, ?_, ?_, ?_, ?_⟩
  · rw [results_tmp_cell (p := 3) (u := 2) (ty := 29) rfl]
    have hset' := hset.drew
    simp [asAddr, run_loadVar_row _ w.heap.size 29 29 _ (0, 0) _ hset' Tryd.underlying29 rfl info_rDisk]
  · refine (HD.out.below HB2.out (Nat.le_refl _)).fr hfr.drew ?_
    rintro k rfl hk
    have := HF.out _ hk
    simp at this
    omega
  · refine StrsC.own (base := w1.heap.size) ?_
    rw [List.length_replicate]
    exact hrows
  · have hb : Below w.heap.size w w2 := (((Below.refl w.heap.size w).alloc (Nat.le_refl _) _).trans (HB.out.mono (by simp))).trans (HB2.out.mono (by omega))
    exact (hb.trans (hfr.below hb.size (fun k hk => by omega))).drew
  · intro k hk
    have := HF.out _ hk
    simp at this
    omega
  · intro k hk
    have e : g = k := by simpa [Value.ownBlock] using hk
    subst e
    exact ⟨by omega, fun hf => by have := HD.out.lt _ hf; omega⟩
end Go.Proofs.YtfgjjdjaiddllaaDoor
namespace Go.Proofs.YtfgjjdjaiddllaaDoor
set_option linter.unusedVariables false
set_option linter.unusedSimpArgs false
open Go Go.RowKit Go.Maps
set_option maxRecDepth 100000 in
set_option maxHeartbeats 2000000 in
theorem dWrite_bad (d : DiskP) (c : DiskC) (p : Nat) (s : ByteArray) (w : World) (hin : p < c.durable.length) (hs : s.size ≠ 512) (hz : s.size ≤ 140737488355328) (h : DiskAt w d c) :
    Calls Tryd.prog 11 #[.pointer (some ⟨d.a, 0, none⟩), .int .i64 p, .string s] w fun e w' => e = .returned (.int .i64 1) ∧ w' = w := by
  have hpos := h.most
  have dd : decide (0 ≤ (p : Int) ∧ (p : Int) < c.durable.length) = true := decide_eq_true ⟨by omega, by omega⟩
  have H := Lib.hid h; clear h
  go_enter Tryd.func11, Tryd.ntmps11
  go_wp2_with fail
  refine (dHas_any d c p w H.out).mono ?_
  rintro e w' ⟨rfl, rfl⟩
  rw [dd]
  have d2 : (s.size == 512) = false := by simp; omega
  have d3 : ((s.size : Int) == 512) = false := by simp; omega
  have hs' : (s.size : Int) ≠ 512 := by omega
  go_wp2_with fail
  go_ret
  exact ⟨rfl, rfl⟩
theorem cell_same {w w' : World} {a : Addr} (h : w'.heap[a.block]? = w.heap[a.block]?) : w'.cell? a = w.cell? a := by unfold World.cell?; rw [h]
theorem StrsC.keep {w w' : World} {v : Value} {xs : List ByteArray} (h : StrsC w v xs) (hk : ∀ k, v.ownBlock = some k → k < w.heap.size → w'.heap[k]? = w.heap[k]?) : StrsC w' v xs := by
  obtain ⟨a, c, rfl, h0 | ⟨b, o, rfl, hc⟩⟩ := h
  · exact ⟨_, _, rfl, .inl h0⟩
  · refine ⟨_, _, rfl, .inr ⟨b, o, rfl, fun j hj => ?_⟩⟩
    have h1 := hc j hj
    rw [cell_same (hk b rfl (block_lt h1))]
    exact h1
theorem StrsC.blk {w : World} {v : Value} {xs : List ByteArray} (h : StrsC w v xs) (h0 : 0 < xs.length) : ∀ k, v.ownBlock = some k → k < w.heap.size := by
  intro k hk
  obtain ⟨a, c, rfl, h1 | ⟨b, o, rfl, hc⟩⟩ := h
  · omega
  · cases hk
    exact block_lt (hc 0 h0)
theorem PendC.keep {w w' : World} {v : Value} {l : List (Nat × ByteArray)} (h : PendC w v l) (hs : w.heap.size ≤ w'.heap.size) (hk : ∀ k, v.ownBlock = some k → k < w.heap.size → w'.heap[k]? = w.heap[k]?) : PendC w' v l := by
  obtain ⟨a, c, rfl, h0 | ⟨b, rfl, hl, hc⟩⟩ := h
  · exact ⟨a, c, rfl, .inl h0⟩
  · exact ⟨_, c, rfl, .inr ⟨b, rfl, Nat.lt_of_lt_of_le hl hs, fun j x hx => (cell_same (hk b rfl hl)).trans (hc j x hx)⟩⟩
theorem PendC.blk {w : World} {v : Value} {l : List (Nat × ByteArray)} (h : PendC w v l) : ∀ k, v.ownBlock = some k → k < w.heap.size := by
  intro k hk
  obtain ⟨a, c, rfl, ⟨_, rfl, _⟩ | ⟨b, rfl, hl, hc⟩⟩ := h
  · cases hk
  · cases hk; exact hl
theorem PendC.len {w : World} {v : Value} {l : List (Nat × ByteArray)} (h : PendC w v l) : ∃ a c, v = .slice a l.length c := by
  obtain ⟨a, c, h, _⟩ := h
  exact ⟨a, c, h⟩
/-- A disk, and its reference in a box beside it. -/
structure Wr (w0 : World) (n A bx : Nat) (dv pv : Value) (l : List (Nat × ByteArray)) (w : World) (d : DiskP) (c : DiskC) : Prop where
  disk : DiskAt w d c
  a : d.a = A
  dup : ∀ k, d.foot k → w0.heap.size ≤ k
  below : Below w0.heap.size w0 w
  box : At w bx 29 #[dv, pv]
  bxf : ¬ d.foot bx ∧ w0.heap.size ≤ bx
  dur : c.durable = List.replicate n ⟨#[]⟩
  off : c.recording = false ∧ c.recorded = []
  strs : StrsC w dv c.durable
  dvf : ∀ k, dv.ownBlock = some k → k < w.heap.size ∧ k ≠ bx ∧ ¬ d.foot k
  pend : PendC w pv l
  pvf : ∀ k, pv.ownBlock = some k → k < w.heap.size ∧ k ≠ bx ∧ ¬ d.foot k
  sz : ∀ x ∈ c.pending, x.2.size = 512
section
variable {w0 w w' : World} {n A bx : Nat} {dv pv v : Value} {l l' : List (Nat × ByteArray)} {d d' : DiskP} {c c' : DiskC}
theorem Wr.disked (h : Wr w0 n A bx dv pv l w d c) (hs : DStep w w' d d' c') (e1 : c'.durable = c.durable) (e2 : c'.recording = c.recording ∧ c'.recorded = c.recorded) (e3 : ∀ x ∈ c'.pending, x.2.size = 512) : Wr w0 n A bx dv pv l w' d' c' := by
  have far : ∀ k, k < w.heap.size → ¬ d.foot k → ¬ d'.foot k := fun k hk hn hf => by
    rcases hs.foot k hf with h1 | h1
    · exact hn h1
    · omega
  refine ⟨hs.at_, hs.a.trans h.a, fun k hk => ?_, h.below.trans (hs.fr.below h.below.size h.dup), h.box.keep (hs.fr.keep bx h.box.lt h.bxf.1), ⟨far bx h.box.lt h.bxf.1, h.bxf.2⟩, e1.trans h.dur, ⟨e2.1.trans h.off.1, e2.2.trans h.off.2⟩,
    e1 ▸ h.strs.keep (fun k hk hl => hs.fr.keep k hl (h.dvf k hk).2.2), fun k hk => ⟨Nat.lt_of_lt_of_le (h.dvf k hk).1 hs.fr.size, (h.dvf k hk).2.1, far k (h.dvf k hk).1 (h.dvf k hk).2.2⟩,
    h.pend.keep hs.fr.size (fun k hk hl => hs.fr.keep k hl (h.pvf k hk).2.2), fun k hk => ⟨Nat.lt_of_lt_of_le (h.pvf k hk).1 hs.fr.size, (h.pvf k hk).2.1, far k (h.pvf k hk).1 (h.pvf k hk).2.2⟩, e3⟩
  rcases hs.foot k hk with h1 | h1
  · exact h.dup k h1
  · exact Nat.le_trans h.below.size h1
theorem Wr.under (h : Wr w0 n A bx dv pv l w d c) (hb : Below w.heap.size w w') : Wr w0 n A bx dv pv l w' d c :=
  h.disked ⟨h.disk.below hb (Nat.le_refl _), rfl, rfl, rfl, fun _ hk => .inl hk, Fr.of_below hb⟩ rfl ⟨rfl, rfl⟩ h.sz
theorem Wr.reads (h : Wr w0 n A bx dv pv l w d c) (q : Int) : (c.read q).1.size ≤ 512 := by
  unfold DiskC.read
  split
  · split
    · rename_i i hi
      have hil := lastIdx_lt _ _ _ hi
      have := h.sz (c.pending.getD i (0, ⟨#[]⟩)) (by simp [List.getD_eq_getElem?_getD, hil])
      exact Nat.le_of_eq this
    · split
      · decide
      · rw [h.dur]
        simp [List.getD_eq_getElem?_getD, List.getElem?_replicate]
        split <;> decide
  · decide
/-- The reference's disk is stored. -/
theorem Wr.store (h : Wr w0 n A bx dv pv l w d c) (hp : PendC w v l') (hv : ∀ k, v.ownBlock = some k → k ≠ bx ∧ ¬ d.foot k) : Wr w0 n A bx dv v l' ((w.setCell ⟨bx, 0, none⟩ dv).setCell ⟨bx, 1, none⟩ v) d c := by
  have ho : ∀ k, k ≠ bx → ((w.setCell ⟨bx, 0, none⟩ dv).setCell ⟨bx, 1, none⟩ v).heap[k]? = w.heap[k]? := fun k hk => by
    rw [heap_setCell_other _ _ _ _ hk, heap_setCell_other _ _ _ _ hk]
  have hsz : ((w.setCell ⟨bx, 0, none⟩ dv).setCell ⟨bx, 1, none⟩ v).heap.size = w.heap.size := by simp
  exact ⟨h.disk.keep fun k hk => ho k (fun e => h.bxf.1 (e ▸ hk)), h.a, h.dup, (h.below.setCell (p := ⟨bx, 0, none⟩) h.bxf.2 _).setCell (p := ⟨bx, 1, none⟩) h.bxf.2 _, (h.box.set 0 _).set 1 _, h.bxf, h.dur, h.off,
    h.strs.keep (fun k hk _ => ho k (h.dvf k hk).2.1), fun k hk => ⟨by rw [hsz]; exact (h.dvf k hk).1, (h.dvf k hk).2⟩, hp.keep (by omega) (fun k hk _ => ho k (hv k hk).1), fun k hk => ⟨by rw [hsz]; exact hp.blk k hk, hv k hk⟩, h.sz⟩
end
end Go.Proofs.YtfgjjdjaiddllaaDoor
namespace Go.Proofs.YtfgjjdjaiddllaaDoor
set_option linter.unusedVariables false
set_option linter.unusedSimpArgs false
open Go Go.RowKit Go.Maps
set_option maxRecDepth 100000 in
set_option maxHeartbeats 8000000 in
theorem reads_any (v : Value) (f n ep m : Int) (xs : List ByteArray) (w : World) (hf : -9223372036854775808 ≤ f ∧ f < 9223372036854775808) (hn : -9223372036854775808 ≤ n ∧ n < 9223372036854775808) (he : -9223372036854775808 ≤ ep ∧ ep < 9223372036854775808) (hm : -9223372036854775808 ≤ m ∧ m < 9223372036854775808)
    (hv : StrsC w v xs) (hb : ∀ x ∈ xs, x.size ≤ 140737488355328) (hl : xs.length ≤ 140737488355328) :
    Calls Tryd.prog 3 #[v, .agg #[.int .i64 f, .int .i64 n], .int .i64 ep, .int .i64 m] w fun e w' => e = .returned (.bool true) ∧ Below w.heap.size w w' := by
  obtain ⟨a1, cp1, rfl⟩ := hv.len
  obtain ⟨w1, hw1⟩ : ∃ x, x = w.alloc (.cells #[.int .i64 f, .int .i64 n] 24) := ⟨_, rfl⟩
  have t0 : At w1 w.heap.size 24 #[.int .i64 f, .int .i64 n] := by rw [hw1]; exact At.new w _ _
  have hbw : Below w.heap.size w w1 := by rw [hw1]; exact (Below.refl _ _).alloc (Nat.le_refl _) _
  have T0 := Lib.hid t0; have HBW := Lib.hid hbw; have HW1 := Lib.hid hw1; have HV := Lib.hid (hv.below hbw); have HS := Lib.hid hb; clear t0 hbw hw1 hv hb
  go_enter Tryd.func3, Tryd.ntmps3
  go_wp2_with fail
  rw [← HW1.out]
  refine (awake_any _).mono ?_
  rintro e2 w2 ⟨rfl, hb2⟩
  have HB2 := Lib.hid hb2; clear hb2
  by_cases hsz : 1 ≤ xs.length ∧ xs.length ≤ 12
  · have d1 : decide ((xs.length : Int) < 1) = false := by simp; omega
    have d2 : decide ((12 : Int) < xs.length) = false := by simp; omega
    go_wp2_with fail
    refine (pages_far xs.length _ hsz.1 (by omega)).mono ?_
    rintro e4 w4 ⟨d, rv, rfl, hd, hrv, hb4, hdf, hrf⟩
    obtain ⟨ra, rc, rfl⟩ := hrv.len
    rw [List.length_replicate] at *
    have hb14 := HB2.out.trans (hb4.mono HB2.out.size)
    have hwr : Wr w1 xs.length d.a w4.heap.size (.slice ra xs.length rc) (.slice none 0 0) [] (w4.alloc (.cells #[.slice ra xs.length rc, .slice none 0 0] 29)) d (.blank xs.length) :=
      ⟨hd.below ((Below.refl _ _).alloc (Nat.le_refl _) _) (Nat.le_refl _), rfl, fun k hk => Nat.le_trans HB2.out.size (hdf k hk), hb14.alloc hb14.size _, At.new w4 _ _, ⟨fun hf => Nat.lt_irrefl _ (hd.lt _ hf), hb14.size⟩, rfl, ⟨rfl, rfl⟩,
        hrv.below ((Below.refl _ _).alloc (Nat.le_refl _) _), fun k hk => ⟨by have := hrv.blk (by simp; omega) k hk; simp; omega, by have := hrv.blk (by simp; omega) k hk; omega, (hrf k hk).2⟩,
        ⟨none, 0, rfl, .inl ⟨rfl, rfl, rfl⟩⟩, (fun k hk => by cases hk), fun x hx => by cases hx⟩
    have HWR := Lib.hid hwr; clear hd hrv hb4 hdf hrf hb14 hwr
    unfold rDiskV
    go_wp2_with fail
    obtain ⟨bx, hbx⟩ : ∃ bx, bx = w4.heap.size := ⟨_, rfl⟩
    have HWR' := HWR.out
    rw [← hbx] at HWR'
    have HWR2 := Lib.hid HWR'; have HBX := Lib.hid hbx; clear HWR' HWR hbx
    rw [← HBX.out]
    generalize w4.alloc (.cells #[.slice ra xs.length rc, .slice none 0 0] 29) = w5 at *
    go_loopw [36] (fun i wr => ∃ (k : Nat) (d' : DiskP) (c' : DiskC) (pv : Value), k ≤ xs.length ∧ i = .int .i64 k ∧ Wr w1 xs.length d.a bx (.slice ra xs.length rc) pv c'.pending wr d' c' ∧ c'.pending.length ≤ k) (fun i _ => xs.length - (intOf i).toNat)
    case atStart => exact ⟨0, d, .blank xs.length, _, by omega, rfl, HWR2.out, Nat.le_refl _⟩
    case round =>
      obtain ⟨k, d', c', pv, hk, rfl, hwr, hpl⟩ := hrel
      obtain ⟨wo, rfl⟩ : ∃ wo : World, wo = wr := ⟨_, rfl⟩
      obtain ⟨pa, pc, rfl⟩ := hwr.pend.len
      have eA := hwr.a
      have hdl : c'.durable.length = xs.length := by rw [hwr.dur]; simp
      have HPL := Lib.hid hpl; have EA := Lib.hid eA; have HDL := Lib.hid hdl; have HW := Lib.hid hwr; clear hpl eA hdl hwr
      by_cases hlt : k < xs.length
      · have dk : decide ((k : Int) < xs.length) = true := by simp; omega
        obtain ⟨b1, o1, rfl⟩ := HV.out.addrOf hlt
        have ce := (HV.out.below HW.out.below).cellAt hlt
        obtain ⟨s, hs⟩ : ∃ s, s = xs.getD k ⟨#[]⟩ := ⟨_, rfl⟩
        rw [← hs] at ce
        have hss : s.size ≤ 140737488355328 := HS.out s (by rw [hs]; simp [List.getD_eq_getElem?_getD, hlt])
        clear hs
        go_wp2_with fail
        rw [← EA.out]
        by_cases h5 : s.size = 512
        · refine (dWrite_any d' c' k s _ (by have := HDL.out; omega) h5 (by have := HPL.out; omega) (by rw [HW.out.off.2]; simp) HW.out.disk).mono ?_
          rintro e6 w6 ⟨rfl, d6, hd6⟩
          have en : (c'.wrote k s).note ⟨k, s, false⟩ = c'.wrote k s := by
            unfold DiskC.note
            rw [if_neg]
            show ¬ c'.recording = true
            rw [HW.out.off.1]
            simp
          rw [en] at hd6
          have hw6 : Wr w1 xs.length d.a bx (.slice ra xs.length rc) (.slice pa c'.pending.length pc) c'.pending w6 d6 (c'.wrote k s) := HW.out.disked hd6 rfl ⟨rfl, rfl⟩ (fun y hy => by
            rcases List.mem_append.1 hy with h1 | h1
            · exact HW.out.sz y h1
            · obtain rfl : y = (k, s) := by simpa using h1
              exact h5)
          have y0 := hw6.box.cell 0; have y1 := hw6.box.cell 1
          simp only [List.getElem?_toArray, List.getElem?_cons_zero, List.getElem?_cons_succ] at y0 y1
          have HW6 := Lib.hid hw6; clear hw6 hd6 en
          rw [EA.out]
          go_wp2_with fail
          refine (r50Write_ok _ _ c' k s w6 HW6.out.strs HW6.out.pend (by have := HPL.out; omega) (by have := HDL.out; omega) (by have := HDL.out; omega) h5).mono ?_
          rintro e7 w7 ⟨v7, rfl, hp7, hb7, hn7⟩
          obtain ⟨a7, c7, rfl⟩ := hp7.len
          have hw7 := HW6.out.under hb7
          have x0 := hw7.box.cell 0; have x1 := hw7.box.cell 1; have z0 := hw7.box.free 0; have z1 := hw7.box.free 1
          simp only [List.getElem?_toArray, List.getElem?_cons_zero, List.getElem?_cons_succ] at x0 x1
          have hw8 := hw7.store hp7 (fun i hi => ⟨by have := HW6.out.box.lt; have := hn7 i hi; omega, fun hf => by have := HW6.out.disk.lt i hf; have := hn7 i hi; omega⟩)
          rw [show (c'.pending ++ [(k, s)]).length = c'.pending.length + 1 by simp] at hw8
          have HW8 := Lib.hid hw8; clear hw7 hw8 hp7 hb7 hn7 y0 y1
          go_wp2_with fail
          exact ⟨⟨k + 1, d6, c'.wrote k s, _, by omega, by go_num, HW8.out, by unfold DiskC.wrote; rw [List.length_append]; have := HPL.out; exact Nat.succ_le_succ this⟩, by simp [intOf]; omega⟩
        · refine (dWrite_bad d' c' k s _ (by have := HDL.out; omega) h5 hss HW.out.disk).mono ?_
          rintro e6 w6 ⟨rfl, rfl⟩
          rw [EA.out]
          go_wp2_with fail
          exact ⟨⟨k + 1, d', c', _, by omega, by go_num, HW.out, by have := HPL.out; omega⟩, by simp [intOf]; omega⟩
      · have dk : decide ((k : Int) < xs.length) = false := by simp; omega
        have y0 := HW.out.box.cell 0; have y1 := HW.out.box.cell 1
        have T0' := T0.out.below HW.out.below T0.out.lt
        have x0 := T0'.cell 0; have x1 := T0'.cell 1
        simp only [List.getElem?_toArray, List.getElem?_cons_zero, List.getElem?_cons_succ] at y0 y1 x0 x1
        clear T0'
        go_wp2_with fail
        rw [← EA.out]
        refine (start_any d' c' _ _ f n ep _ HW.out.disk HW.out.strs HW.out.pend HW.out.sz (by have := HPL.out; omega) (by have := HDL.out; omega) (fun q => Nat.le_trans (HW.out.reads q) (by omega))).mono ?_
        rintro e7 w7 ⟨⟨pt, f', n', e', x, ch, a, mm, kk, rfl⟩, hb7⟩
        rw [EA.out]
        have HB7 := Lib.hid hb7; clear hb7 y0 y1 x0 x1
        unfold rJourV
        go_wp2_with fail
        refine (need_any _ _).mono ?_
        rintro e8 w8 ⟨rfl, rfl⟩
        go_wp2_with fail
        refine (rNeed_any _ _).mono ?_
        rintro e9 w9 ⟨rfl, rfl⟩
        go_wp2_with fail
        go_ret
        have hb := HW.out.below.trans (HB7.out.mono HW.out.below.size)
        exact ⟨rfl, HBW.out.trans ((hb.alloc hb.size _).mono HBW.out.size)⟩
  · have h2 : xs.length < 1 ∨ 1 ≤ xs.length ∧ 12 < xs.length := by omega
    rcases h2 with h2 | h2
    · have d1 : decide ((xs.length : Int) < 1) = true := by simp; omega
      have d2 : decide ((12 : Int) < xs.length) = false := by simp; omega
      go_wp2_with fail
      go_ret
      exact ⟨rfl, HBW.out.trans (HB2.out.mono HBW.out.size)⟩
    · have d1 : decide ((xs.length : Int) < 1) = false := by simp; omega
      have d2 : decide ((12 : Int) < xs.length) = true := by simp; omega
      go_wp2_with fail
      go_ret
      exact ⟨rfl, HBW.out.trans (HB2.out.mono HBW.out.size)⟩
end Go.Proofs.YtfgjjdjaiddllaaDoor
namespace Go.Proofs.YtfgjjdjaiddllaaDoor
set_option linter.unusedVariables false
set_option linter.unusedSimpArgs false
open Go Go.ChangeShapes Go.WideShapes Go.ChangeAt Go.RowKit
theorem ownKnobNone : ownKnob Tryd.prog.godebug = none := by kernel_rfl
theorem laidOutProg : laidOutB Tryd.prog = true := by kernel_rfl
set_option maxRecDepth 100000 in
theorem reads_lifted (os : Os) (started : os.Started) (H : Type) (enc : TypeId × Value → H) :
    ReturnsInHanded {} Tryd.checked os 3 .any (fun w args => (Rows.journalReadsSpec.pre enc Tryd.prog Tryd.f3 Rows.journalReadsRow.domain false w args ∧ laidMetH Tryd.prog Rows.journalReadsRow.laid w) ∧ sizedMet enc Tryd.prog Tryd.f3 (OpenSpec.ofChange Rows.journalReadsSpec) false w args)
      (Rows.journalReadsSpec.post enc Tryd.prog Tryd.f3 false true false false) := by
  refine returnsInHanded_of_change_and (C := Tryd.checked) (X := fun w _ => laidMetH Tryd.prog Rows.journalReadsRow.laid w) (fun _ _ _ hh h => h.of_heap hh) ownKnobNone started (by kernel_rfl) Tryd.func3
    (ChangeSpec.witness_shaped (enc := enc) (C := Tryd.checked) (os := os) (X := fun w _ => laidMetH Tryd.prog Rows.journalReadsRow.laid w) false (World.laidAll Tryd.prog os Rows.journalReadsRow.laid) #[.slice none 0 0, .agg #[.int .i64 0, .int .i64 0], .int .i64 0, .int .i64 0] 8 (World.laidAll_os _ _ _)
      (World.shaped_of_ZipB (by kernel_rfl) (by kernel_rfl)) (by kernel_rfl) (by kernel_rfl) (by kernel_rfl)
      (by rw [MakeChecks.laidMetH_plain _ _ _ (by kernel_rfl)]; exact laidMet_laidAll _ (by kernel_rfl) (by kernel_rfl))) ?_
  intro W base args ds gs before hval0 hW _ hz0 _ _
  have hval : ∀ (j : Nat) t v, Tryd.f3.params[j]? = some t → args[j]? = some v → Value.okWide Tryd.prog W .any base t v := hval0
  have hW' := hW
  obtain ⟨p, q, hA0, hV, rfl, _, _⟩ := hW
  have hA : DataW.TrodAll enc Tryd.prog W 0 (fun _ => true) true Tryd.f3.params.toList args.toList ds p := hA0
  rw [Tryd.params3] at hA hval
  obtain ⟨v0, v1, v2, v3, d0, d1, d2, d3, p0, p1, p2, p3, rfl, rfl, rfl, h0, h1, h2, h3⟩ := trodAll_four hA
  obtain ⟨rfl, rfl⟩ := trodVars_none hV
  obtain ⟨a0, len0, cap0, rfl⟩ := okWide_slice Tryd.underlying22 (hval 0 22 v0 rfl rfl)
  obtain ⟨x1a, x1b, rfl, rfl, rfl, hx1a, hx1b⟩ := pages_in (hval 1 24 v1 rfl rfl) h1
  obtain ⟨x2, rfl, rfl, rfl, wx2⟩ := open_int Tryd.underlying3 (hval 2 3 v2 rfl rfl) h2
  have hx2 : -9223372036854775808 ≤ x2 ∧ x2 < 9223372036854775808 := by
    have := wx2
    simp [Lit.wf, IntKind.has] at this
    have h1 : IntKind.i64.min = -9223372036854775808 := by decide
    have h2 : IntKind.i64.max = 9223372036854775807 := by decide
    omega
  obtain ⟨x3, rfl, rfl, rfl, wx3⟩ := open_int Tryd.underlying3 (hval 3 3 v3 rfl rfl) h3
  have hx3 : -9223372036854775808 ≤ x3 ∧ x3 < 9223372036854775808 := by
    have := wx3
    simp [Lit.wf, IntKind.has] at this
    have h1 : IntKind.i64.min = -9223372036854775808 := by decide
    have h2 : IntKind.i64.max = 9223372036854775807 := by decide
    omega
  have e0 : DataW.weightsEach Tryd.prog (Tryd.f3.params.toList ++ Rows.journalReadsSpec.plain.varTypes Tryd.prog) ([d0, pagesD x1a x1b, DataW.lit (.int .i64 x2), DataW.lit (.int .i64 x3)] ++ []) = d0.weights Tryd.prog 22 ++ [] := by
    rw [Tryd.params3]
    rfl
  have hz0 := e0 ▸ hz0
  simp only [List.all_append, List.all_nil, Bool.and_true, Bool.and_eq_true] at hz0
  obtain ⟨xs0, hxs0, hxb0, hxl0⟩ := strs_in h0 hz0
  have e1 : Rows.journalReadsSpec.fn H ([d0, pagesD x1a x1b, .lit (.int .i64 x2), .lit (.int .i64 x3)] ++ []) = { results := [.lit (.bool true)], args := [d0, pagesD x1a x1b, .lit (.int .i64 x2), .lit (.int .i64 x3)] } := by simp [Rows.journalReadsSpec]
  refine (reads_any _ x1a x1b x2 x3 xs0 W hx1a hx1b hx2 hx3 hxs0 hxb0 hxl0).mono fun e W' ⟨he, hb⟩ => ?_
  subst he
  refine ⟨_, rfl, _, _, _, [], p0 ++ ([] ++ ([] ++ ([] ++ []))), [], by simpa using hW', ?_, ?_, ?_, hb.frame _, fun h => by cases h⟩
  · rw [e1]; exact trodAll_mk1 (shut_bool Tryd.underlying4 true)
  · rw [e1]; exact (trodAll_cons_mk (Below.trod laidOutProg (by kernel_rfl) (of_decide_eq_true (by kernel_rfl)) h0 hb (fun z hz => hW'.lt z (by simp [hz]))) (trodAll_cons_mk (shut_pages hx1a hx1b) (trodAll_cons_mk (shut_int Tryd.underlying3 wx2) (trodAll_cons_mk (shut_int Tryd.underlying3 wx3) trodAll_mk0))))
  · rw [e1]; rfl
theorem reads_holds : Rows.JournalReadsSaid :=
  OpenClaim.holds_of_wide 3 Tryd.f3 rfl rfl rfl rfl rfl rfl rfl ⟨rfl, rfl, rfl, rfl, rfl⟩ rfl rfl rfl rfl rfl (by kernel_rfl) Tryd.func3 (by kernel_rfl)
    (of_decide_eq_true (by kernel_rfl)) (by unfold Func.isWrapper; first | (rw [if_pos (by decide +kernel)]; kernel_rfl) | (rw [if_neg (by decide +kernel)]; exact ⟨rfl, rfl⟩))
    (fun os started H enc _ => reads_lifted os started H enc)
theorem reads_card : Rows.JournalReadsCardSaid :=
  Claim7.holds_tied_plain_at .later [] [.data, .pinned] true Rows.journalReadsCard.stood.harness false reads_holds (fun _ h => by cases h) (by kernel_rfl) (fun _ h => by cases h) journalReads_row_tie rfl ⟨rfl, rfl⟩ (by kernel_rfl) rfl
    (fun f fn hf hfn => by
      obtain rfl : f = 3 := Option.some.inj ((show Tryd.prog.funcNamed "modcert/modcertlaw51.JournalReads" = some 3 by kernel_rfl).symm.trans hf) |>.symm
      obtain rfl : fn = Tryd.f3 := (Option.some.inj (Tryd.func3.symm.trans hfn)).symm
      exact ⟨by kernel_rfl, fun j t ht => by
        rw [Tryd.params3] at ht
        have hm : t ∈ [22, 24, 3, 3] := by simpa using Array.mem_of_getElem? ht
        have hall : ([22, 24, 3, 3].all fun u => !Tryd.prog.wantsStandIn u) = true := by kernel_rfl
        exact (show Tryd.prog.wantsStandIn t = false by simpa using List.all_eq_true.1 hall t hm)⟩)
    (by kernel_rfl)
#print axioms reads_card
end Go.Proofs.YtfgjjdjaiddllaaDoor
