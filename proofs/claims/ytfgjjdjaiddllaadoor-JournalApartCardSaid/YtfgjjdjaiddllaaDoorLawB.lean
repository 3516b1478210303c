/- Blocks apart from a journal and its disk. No condition. -/
import Derived.Test.YtfgjjdjaiddllaaDoorLawA
namespace Go.Proofs.YtfgjjdjaiddllaaDoor
set_option linter.unusedVariables false
set_option linter.unusedSimpArgs false
open Go Go.RowKit Go.Maps
/-- A block of neither. -/
def Out (w : World) (j : Jour) (d : DiskP) (b : Nat) : Prop := b < w.heap.size ∧ ¬ j.foot b ∧ ¬ d.foot b
theorem JDStep.out {w w' : World} {j j' : Jour} {d d' : DiskP} {c' : DiskC} {b : Nat} (h : JDStep w w' j j' d d' c') (ho : Out w j d b) : Out w' j' d' b ∧ w'.heap[b]? = w.heap[b]? := by
  obtain ⟨h1, h2, h3⟩ := ho
  refine ⟨⟨Nat.lt_of_lt_of_le h1 h.fr.size, fun hj => ?_, fun hd => ?_⟩, h.fr.keep b h1 (fun hf => hf.elim h2 h3)⟩
  · rcases h.footj b hj with h4 | h4
    · exact h2 h4
    · omega
  · rcases h.footd b hd with h4 | h4
    · exact h3 h4
    · omega
theorem JDStep.above {w w' : World} {j j' : Jour} {d d' : DiskP} {c' : DiskC} {B : Nat} (h : JDStep w w' j j' d d' c') (hj : ∀ k, j.foot k → B ≤ k) (hd : ∀ k, d.foot k → B ≤ k) (hB : B ≤ w.heap.size) :
    (∀ k, j'.foot k → B ≤ k) ∧ (∀ k, d'.foot k → B ≤ k) ∧ Below B w w' := by
  refine ⟨fun k hk => ?_, fun k hk => ?_, h.fr.below hB (fun k hk => hk.elim (hj k) (hd k))⟩
  · rcases h.footj k hk with h1 | h1
    · exact hj k h1
    · omega
  · rcases h.footd k hk with h1 | h1
    · exact hd k h1
    · omega
theorem Live.fr {F : Nat → Prop} {w w' : World} {j : Jour} {d : DiskP} {c : DiskC} (h : Live w j d c) (hf : Fr F w w') (hF : ∀ k, F k → ¬ j.foot k ∧ ¬ d.foot k) : Live w' j d c :=
  ⟨⟨h.jd.jour.keep (fun k hk => hf.keep k (h.jd.jour.lt k hk) (fun hFk => (hF k hFk).1 hk)), h.jd.disk.fr hf (fun k hk => (hF k hk).2), h.jd.da, h.jd.apart, h.jd.inn⟩, h.holds, h.calm, h.sized, h.chain, h.epoch⟩
theorem size_le_total {xs : List ByteArray} {x : ByteArray} (h : x ∈ xs) : x.size ≤ total xs := by
  induction xs with
  | nil => cases h
  | cons y l ih =>
    unfold total at ih ⊢
    rw [List.map_cons, List.sum_cons]
    rcases List.mem_cons.1 h with rfl | h1
    · omega
    · have := ih h1; omega
/-- A journal, its disk, a slice of strings that grows, and a block beside them, all behind the world w0. -/
structure Keep (w0 : World) (want : Value) (acc : List ByteArray) (b : Nat) (t : TypeId) (cs : Array Value) (w : World) (j : Jour) (d : DiskP) (c : DiskC) : Prop where
  live : Live w j d c
  rows : w.ownsRow w0.heap.size 9 1 want acc.length (acc.map Value.string)
  wout : ∀ k, want.ownBlock = some k → Out w j d k
  cell : At w b t cs
  cout : Out w j d b
  cw : t ≠ 9
  jup : ∀ k, j.foot k → w0.heap.size ≤ k
  dup : ∀ k, d.foot k → w0.heap.size ≤ k
  below : Below w0.heap.size w0 w
section
variable {w0 w w1 w2 w' : World} {want v' : Value} {acc acc' : List ByteArray} {b : Nat} {t : TypeId} {cs : Array Value} {j j' : Jour} {d d' : DiskP} {c c' : DiskC}
theorem Keep.step (h : Keep w0 want acc b t cs w j d c) (hs : JDStep w w' j j' d d' c') (hl : Live w' j' d' c') : Keep w0 want acc b t cs w' j' d' c' := by
  obtain ⟨h1, h2, h3⟩ := hs.above h.jup h.dup h.below.size
  exact ⟨hl, own_keep h.rows (fun k hk => (hs.out (h.wout k hk)).2), fun k hk => (hs.out (h.wout k hk)).1, h.cell.keep (hs.out h.cout).2, (hs.out h.cout).1, h.cw, h1, h2, h.below.trans h3⟩
theorem Keep.under (h : Keep w0 want acc b t cs w j d c) (hb : Below w.heap.size w w') : Keep w0 want acc b t cs w' j d c := h.step (h.live.jd.below hb) (h.live.below hb)
theorem Keep.grow (h : Keep w0 want acc b t cs w j d c) (hb : Below w.heap.size w w1) (hg : w1.grownBy w2 want.ownBlock) (how : w2.ownsRow w0.heap.size 9 1 v' acc'.length (acc'.map Value.string))
    (hv : v'.ownBlock = want.ownBlock ∨ ∃ g, v'.ownBlock = some g ∧ w.heap.size ≤ g) : Keep w0 v' acc' b t cs w2 j d c := by
  have hf : Fr (fun k => want.ownBlock = some k) w w2 := (Fr.of_below hb).grown hg (fun k hk => .inl hk)
  have hne : want.ownBlock ≠ some b := by
    intro e
    obtain ⟨cur, hc⟩ := own_at h.rows e
    exact h.cw (by have := h.cell; unfold At at this hc; rw [this] at hc; simp only [Option.some.injEq, Obj.cells.injEq] at hc; exact hc.2.1)
  have hup : ∀ k, want.ownBlock = some k → w0.heap.size ≤ k := by
    intro k hk
    obtain ⟨_, ⟨rfl, _⟩ | ⟨g, cap, cur, rfl, hg, _⟩⟩ := h.rows
    · cases hk
    · have : g = k := by
        have hk' : some g = some k := hk
        simpa using hk'
      omega
  refine ⟨h.live.fr hf (fun k hk => (h.wout k hk).2), how, fun k hk => ?_, hf.at h.cell hne, ⟨Nat.lt_of_lt_of_le h.cout.1 hf.size, h.cout.2⟩, h.cw, h.jup, h.dup, h.below.trans (hf.below h.below.size hup)⟩
  have hlt : k < w2.heap.size := by obtain ⟨cur, hc⟩ := own_at how hk; exact hc.lt
  rcases hv with hv | ⟨g, hv, hgl⟩
  · exact ⟨hlt, (h.wout k (hv.symm.trans hk)).2⟩
  · have : g = k := by rw [hv] at hk; simpa using hk
    exact ⟨hlt, fun hj => by have := h.live.jd.jour.lt k hj; omega, fun hd => by have := h.live.jd.disk.lt k hd; omega⟩
end
end Go.Proofs.YtfgjjdjaiddllaaDoor
