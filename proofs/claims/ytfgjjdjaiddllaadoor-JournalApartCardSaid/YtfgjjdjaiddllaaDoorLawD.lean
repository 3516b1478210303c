/- A journal, its disk, a growing slice of strings and some blocks beside them; a disk and some blocks beside it. No condition. -/
import Derived.Test.YtfgjjdjaiddllaaDoorLawC
namespace Go.Proofs.YtfgjjdjaiddllaaDoor
set_option linter.unusedVariables false
set_option linter.unusedSimpArgs false
open Go Go.RowKit Go.Maps
/-- Blocks with their types and cells. -/
abbrev Blocks := List (Nat × TypeId × Array Value)
/-- As Keep, with a list of blocks. -/
structure Kp (w0 : World) (want : Value) (acc : List ByteArray) (L : Blocks) (w : World) (j : Jour) (d : DiskP) (c : DiskC) : Prop where
  live : Live w j d c
  rows : w.ownsRow w0.heap.size 9 1 want acc.length (acc.map Value.string)
  wout : ∀ k, want.ownBlock = some k → Out w j d k
  cells : ∀ x ∈ L, At w x.1 x.2.1 x.2.2 ∧ Out w j d x.1 ∧ x.2.1 ≠ 9
  jup : ∀ k, j.foot k → w0.heap.size ≤ k
  dup : ∀ k, d.foot k → w0.heap.size ≤ k
  below : Below w0.heap.size w0 w
section
variable {w0 w w1 w2 w' : World} {want v' : Value} {acc acc' : List ByteArray} {L : Blocks} {j j' : Jour} {d d' : DiskP} {c c' : DiskC}
theorem Kp.step (h : Kp w0 want acc L w j d c) (hs : JDStep w w' j j' d d' c') (hl : Live w' j' d' c') : Kp w0 want acc L w' j' d' c' := by
  obtain ⟨h1, h2, h3⟩ := hs.above h.jup h.dup h.below.size
  exact ⟨hl, own_keep h.rows (fun k hk => (hs.out (h.wout k hk)).2), fun k hk => (hs.out (h.wout k hk)).1, fun x hx => ⟨(h.cells x hx).1.keep (hs.out (h.cells x hx).2.1).2, (hs.out (h.cells x hx).2.1).1, (h.cells x hx).2.2⟩, h1, h2, h.below.trans h3⟩
theorem Kp.under (h : Kp w0 want acc L w j d c) (hb : Below w.heap.size w w') : Kp w0 want acc L w' j d c := h.step (h.live.jd.below hb) (h.live.below hb)
theorem Kp.grow (h : Kp w0 want acc L w j d c) (hb : Below w.heap.size w w1) (hg : w1.grownBy w2 want.ownBlock) (how : w2.ownsRow w0.heap.size 9 1 v' acc'.length (acc'.map Value.string))
    (hv : v'.ownBlock = want.ownBlock ∨ ∃ g, v'.ownBlock = some g ∧ w.heap.size ≤ g) : Kp w0 v' acc' L w2 j d c := by
  have hf : Fr (fun k => want.ownBlock = some k) w w2 := (Fr.of_below hb).grown hg (fun k hk => .inl hk)
  have hne : ∀ x ∈ L, want.ownBlock ≠ some x.1 := by
    intro x hx e
    obtain ⟨cur, hc⟩ := own_at h.rows e
    obtain ⟨h1, _, h3⟩ := h.cells x hx
    exact h3 (by unfold At at h1 hc; rw [h1] at hc; simp only [Option.some.injEq, Obj.cells.injEq] at hc; exact hc.2.1)
  have hup : ∀ k, want.ownBlock = some k → w0.heap.size ≤ k := by
    intro k hk
    obtain ⟨_, ⟨rfl, _⟩ | ⟨g, cap, cur, rfl, hg, _⟩⟩ := h.rows
    · cases hk
    · have : g = k := by
        have hk' : some g = some k := hk
        simpa using hk'
      omega
  refine ⟨h.live.fr hf (fun k hk => (h.wout k hk).2), how, fun k hk => ?_, fun x hx => ⟨hf.at (h.cells x hx).1 (hne x hx), ⟨Nat.lt_of_lt_of_le (h.cells x hx).2.1.1 hf.size, (h.cells x hx).2.1.2⟩, (h.cells x hx).2.2⟩, h.jup, h.dup, h.below.trans (hf.below h.below.size hup)⟩
  have hlt : k < w2.heap.size := by obtain ⟨cur, hc⟩ := own_at how hk; exact hc.lt
  rcases hv with hv | ⟨g, hv, hgl⟩
  · exact ⟨hlt, (h.wout k (hv.symm.trans hk)).2⟩
  · have : g = k := by rw [hv] at hk; simpa using hk
    exact ⟨hlt, fun hj => by have := h.live.jd.jour.lt k hj; omega, fun hd => by have := h.live.jd.disk.lt k hd; omega⟩
end
/-- A disk with blocks beside it. -/
structure Dk (w0 : World) (L : Blocks) (w : World) (d : DiskP) (c : DiskC) : Prop where
  disk : DiskAt w d c
  calm : Calm c
  sized : Sized c
  cells : ∀ x ∈ L, At w x.1 x.2.1 x.2.2 ∧ ¬ d.foot x.1 ∧ x.2.1 ≠ 9
  dup : ∀ k, d.foot k → w0.heap.size ≤ k
  below : Below w0.heap.size w0 w
section
variable {w0 w w' : World} {want : Value} {acc : List ByteArray} {L : Blocks} {j : Jour} {d : DiskP} {c : DiskC}
theorem Kp.dk (h : Kp w0 want acc L w j d c) : Dk w0 L w d c := ⟨h.live.jd.disk, h.live.calm, h.live.sized, fun x hx => ⟨(h.cells x hx).1, (h.cells x hx).2.1.2.2, (h.cells x hx).2.2⟩, h.dup, h.below⟩
theorem Dk.under (h : Dk w0 L w d c) (hb : Below w.heap.size w w') : Dk w0 L w' d c :=
  ⟨h.disk.below hb (Nat.le_refl _), h.calm, h.sized, fun x hx => ⟨(h.cells x hx).1.below hb (h.cells x hx).1.lt, (h.cells x hx).2⟩, h.dup, h.below.trans (hb.mono h.below.size)⟩
/-- A block is laid beside. -/
theorem Dk.alloc (h : Dk w0 L w d c) (t : TypeId) (cs : Array Value) (ht : t ≠ 9) : Dk w0 ((w.heap.size, t, cs) :: L) (w.alloc (.cells cs t)) d c := by
  have hb : Below w.heap.size w (w.alloc (.cells cs t)) := (Below.refl _ _).alloc (Nat.le_refl _) _
  have h2 := h.under hb
  refine ⟨h2.disk, h2.calm, h2.sized, fun x hx => ?_, h2.dup, h2.below⟩
  rcases List.mem_cons.1 hx with rfl | hx
  · exact ⟨At.new w t cs, fun hd => by have := h.disk.lt _ hd; exact absurd this (Nat.lt_irrefl _), ht⟩
  · exact h2.cells x hx
/-- A journal has been opened. -/
theorem Dk.opened {j0 : Jour} {e : Ending} (h : Dk w0 L w d c) (hp : LivePost w j0 d c e w') : ∃ j, e = .returned (.tuple #[.pointer (some ⟨j.jb, 0, none⟩), .int .i64 0]) ∧ j.first = j0.first ∧ j.count = j0.count ∧ j.epoch = j0.epoch ∧ j.recs = j0.recs ∧ j.next = j0.next ∧
    Kp w0 (.slice none 0 0) [] L w' j d c := by
  obtain ⟨j, rfl, hl, e1, e2, e3, e4, e5, hjf, hb⟩ := hp
  have h2 := h.under hb
  refine ⟨j, rfl, e1, e2, e3, e4, e5, ⟨hl, ⟨rfl, .inl ⟨rfl, rfl⟩⟩, (fun k hk => by cases hk), fun x hx => ⟨(h2.cells x hx).1, ⟨(h2.cells x hx).1.lt, fun hj => ?_, (h2.cells x hx).2.1⟩, (h2.cells x hx).2.2⟩, fun k hk => Nat.le_trans h.below.size (hjf k hk), h2.dup, h2.below⟩⟩
  have := hjf _ hj
  have := (h.cells x hx).1.lt
  omega
end
end Go.Proofs.YtfgjjdjaiddllaaDoor
