/- Small laws on memory: rows of one's own, blocks, results. No condition. -/
import Derived.Test.YtjlpdknomdhbhaaGreatDoorBase
import Derived.Maps.OwnSet
import Derived.Lib.Bytes
import Derived.Laws.BytesArg
import Derived.Maps.AppendAt
namespace Go.Proofs.YtjlpdknomdhbhaaGreatDoor
set_option linter.unusedVariables false
set_option linter.unusedSimpArgs false
open Go Go.RowKit Go.Maps
theorem below_drewN {B : Nat} {a w : World} (h : Below B a w) (n : Nat) : Below B a (w.drewN n) := ⟨h.os, h.tape, h.output, h.size, h.block⟩
theorem At.ne {w : World} {b b' : Nat} {t t' : TypeId} {cs cs' : Array Value} (h : At w b t cs) (h' : At w b' t' cs') (ht : t ≠ t') : b ≠ b' := by
  rintro rfl
  unfold At at h h'
  rw [h] at h'
  simp only [Option.some.injEq, Obj.cells.injEq] at h'
  exact ht h'.2.1
theorem own_at {w : World} {base g n size : Nat} {e : TypeId} {v : Value} {xs : List Value} (h : w.ownsRow base e size v n xs) (hg : v.ownBlock = some g) : ∃ cur, At w g e cur := by
  obtain ⟨_, ⟨rfl, _⟩ | ⟨g', cap, cur, rfl, _, hc, _⟩⟩ := h
  · cases hg
  · cases hg; exact ⟨cur, hc⟩
theorem own_keep {w w' : World} {base n size : Nat} {e : TypeId} {v : Value} {xs : List Value} (h : w.ownsRow base e size v n xs) (hk : ∀ k, v.ownBlock = some k → w'.heap[k]? = w.heap[k]?) : w'.ownsRow base e size v n xs := by
  obtain ⟨hl, hn | ⟨g, cap, cur, rfl, hb, hc, hr⟩⟩ := h
  · exact ⟨hl, .inl hn⟩
  · exact ⟨hl, .inr ⟨g, cap, cur, rfl, hb, by rw [hk g rfl]; exact hc, hr⟩⟩
theorem own_cell {w : World} {base n size : Nat} {e : TypeId} {v : Value} {xs : List Value} (h : w.ownsRow base e size v n xs) (hn : 0 < n) : ∃ g cap, v = .slice (some ⟨g, 0, none⟩) n cap ∧ ∀ i x, xs[i]? = some x → w.cell? ⟨g, i, none⟩ = some x := by
  obtain ⟨hl, ⟨_, h0⟩ | ⟨g, cap, cur, rfl, _, hc, _, _, hcs, ht⟩⟩ := h
  · omega
  · refine ⟨g, cap, rfl, fun i x hx => ?_⟩
    rw [At.cell hc i, ← Array.getElem?_toList]
    rw [← ht, List.getElem?_take] at hx
    split at hx
    · exact hx
    · cases hx
theorem own_full {w : World} {base g n : Nat} {e : TypeId} {xs : List Value} (h : w.ownsRow base e 1 (.slice (some ⟨g, 0, none⟩) n n) n xs) : At w g e xs.toArray := by
  obtain ⟨hl, ⟨h0, _⟩ | ⟨g', cap, cur, hv, _, hc, _, _, hcs, ht⟩⟩ := h
  · cases h0
  · simp only [Value.slice.injEq, Option.some.injEq, Addr.mk.injEq] at hv
    obtain ⟨⟨rfl, _⟩, _, rfl⟩ := hv
    have : cur = xs.toArray := by
      rw [← ht, List.take_of_length_le (by rw [Array.length_toList]; omega)]
    rw [← this]
    exact hc
theorem own_slice {w : World} {base n size : Nat} {e : TypeId} {v : Value} {xs : List Value} (h : w.ownsRow base e size v n xs) : ∃ a m c, v = .slice a m c := by
  obtain ⟨_, ⟨rfl, _⟩ | ⟨g, cap, cur, rfl, _⟩⟩ := h
  · exact ⟨_, _, _, rfl⟩
  · exact ⟨_, _, _, rfl⟩
theorem own_up {w : World} {base n size : Nat} {e : TypeId} {v : Value} {xs : List Value} (h : w.ownsRow base e size v n xs) : ∀ k, v.ownBlock = some k → base ≤ k := by
  intro k hk
  obtain ⟨_, ⟨rfl, _⟩ | ⟨g, cap, cur, rfl, hg, _⟩⟩ := h
  · cases hk
  · have : g = k := by
      have hk' : some g = some k := hk
      simpa using hk'
    omega
theorem row_blk {w : World} {base g n' cap n size : Nat} {e : TypeId} {xs : List Value} (h : w.ownsRow base e size (.slice (some ⟨g, 0, none⟩) n' cap) n xs) : base ≤ g ∧ g < w.heap.size := by
  obtain ⟨_, ⟨h0, _⟩ | ⟨g', cap', cur, hgv, hle, hc, _⟩⟩ := h
  · cases h0
  · cases hgv
    exact ⟨hle, lt_of_block hc⟩
theorem map_keep {P : Program} {k : TypeId} {R : Value → Option (DataW Unit × List MemPlace)} {w w' : World} {b n : Nat} {D : DataW Unit} (h : w.ownsMap P k R b n D) (hk : w'.heap[b]? = w.heap[b]?) : w'.ownsMap P k R b n D := by
  obtain ⟨es, clock, hb, F, hs, hD⟩ := h
  exact ⟨es, clock, by rw [hk]; exact hb, F, hs, hD⟩
theorem At.ne_map {P : Program} {k : TypeId} {R : Value → Option (DataW Unit × List MemPlace)} {w : World} {b g n : Nat} {D : DataW Unit} {t : TypeId} {cs : Array Value} (h : At w b t cs) (hm : w.ownsMap P k R g n D) : b ≠ g := by
  rintro rfl
  obtain ⟨es, clock, hb, _⟩ := hm
  unfold At at h
  rw [h] at hb
  cases hb
theorem At.own_ne {w : World} {b base n size : Nat} {t e : TypeId} {cs : Array Value} {v : Value} {xs : List Value} (h : At w b t cs) (ho : w.ownsRow base e size v n xs) (ht : t ≠ e) : v.ownBlock ≠ some b := by
  intro hb
  obtain ⟨cur, hc⟩ := own_at ho hb
  exact h.ne hc ht rfl
theorem cell_lt {w : World} {b i : Nat} {v : Value} (h : w.cell? ⟨b, i, none⟩ = some v) : b < w.heap.size := by
  by_cases hb : b < w.heap.size
  · exact hb
  · have e : w.heap[b]? = none := Array.getElem?_eq_none (by omega)
    simp [World.cell?, e] at h
theorem cell_same {w w' : World} {a : Addr} (h : w'.heap[a.block]? = w.heap[a.block]?) : w'.cell? a = w.cell? a := by unfold World.cell?; rw [h]
theorem drew_heap (w : World) : w.drew.heap = w.heap := rfl
theorem block_lt {w : World} {a : Addr} {v : Value} (h : w.cell? a = some v) : a.block < w.heap.size := by
  apply Classical.byContradiction
  intro hn
  have : w.heap[a.block]? = none := Array.getElem?_eq_none (by omega)
  unfold World.cell? at h
  rw [this] at h
  cases h
theorem At.new1 (w : World) (o : Obj) (t : TypeId) (cs : Array Value) : At ((w.alloc o).alloc (.cells cs t)) (w.heap.size + 1) t cs := by
  have := At.new (w.alloc o) t cs
  rw [World.size_alloc] at this
  exact this
theorem cell_new (w : World) (x : Value) (t : TypeId) : (w.alloc (.cells #[x] t)).cell? ⟨w.heap.size, 0, none⟩ = some x := (At.new w t #[x]).cell 0
theorem toArray_toList (b : ByteArray) : b.toList.length = b.size := by rw [ByteArray.toList_eq]; exact Array.length_toList
theorem results_tmp_cell {fn : Func} {p u : Tmp} {ty : TypeId} (h : fn.results = #[.tmp u, .cell p ty]) (tmps : Array Value) (P : Program) (w : World) :
    (results fn tmps).run P w =
      ((asAddr (tmps.getD p undef)).run P w).andThen fun a w₁ => ((loadVar ty a).run P w₁).andThen fun v w₂ => .ok (.tuple #[tmps.getD u undef, v]) w₂ := by
  simp only [results, h]
  simp [Sem.run_bind, Result.andThen]
theorem results_cell_tmp2 {fn : Func} {p u v : Tmp} {ty : TypeId} (h : fn.results = #[.cell p ty, .tmp u, .tmp v]) (tmps : Array Value) (P : Program) (w : World) :
    (results fn tmps).run P w =
      ((asAddr (tmps.getD p undef)).run P w).andThen fun a w₁ => ((loadVar ty a).run P w₁).andThen fun x w₂ => .ok (.tuple #[x, tmps.getD u undef, tmps.getD v undef]) w₂ := by
  simp only [results, h]
  simp [Sem.run_bind, Result.andThen]
theorem below_own {base : Nat} {e : TypeId} {size n : Nat} {xs : List Value} {v : Value} {a w1 w w' : World} (h : Below base a w) (hB : base ≤ w.heap.size) (hv : w1.ownsRow base e size v n xs) (hg : w.grownBy w' v.ownBlock) : Below base a w' := by
  refine h.grown hg hB fun k hk => ?_
  obtain ⟨_, ⟨rfl, _⟩ | ⟨g, cap, cur, rfl, hb, _⟩⟩ := hv
  · cases hk
  · cases hk; exact hb
theorem run_append_none {P : Program} {w : World} (base : Nat) (t ty e : TypeId) (i : TypeInfo) (size : Nat) (ht : P.underlying t = some (.slice e)) (hi : P.info? e = some i) (v : Value) (n c : Nat) (xs : List Value) (hown : w.ownsRow base e size v n xs) :
    (Builtin.append_ #[t, t] ty #[v, .slice none 0 c]).run P w = .ok v w := by
  rcases hown.2 with ⟨rfl, rfl⟩ | ⟨g, cap, cur, rfl, _, _, hnc, _⟩
  · simp [Builtin.append_, run_underlying ht, sizeOf, typeInfo, hi, Builtin.lenOf, Builtin.firstCells]
  · simp [Builtin.append_, run_underlying ht, sizeOf, typeInfo, hi, Builtin.lenOf, Builtin.firstCells, hnc, storeCells]
theorem run_convert_own {P : Program} (w : World) (src e dst : TypeId) (hs : P.underlying src = some (.slice e)) (he : P.underlying e = some (.int .u8)) (hd : P.underlying dst = some .string) {base n : Nat} {v : Value} (xs : List Int)
    (h : w.ownsRow base e 1 v n (xs.map (Value.int .u8))) : (convert src dst v).run P w = .ok (.string (strOfNums xs)) w := by
  obtain ⟨hl, ⟨rfl, hn⟩ | ⟨g, cap, cur, rfl, hb, hg, hc, hm, hcs, ht⟩⟩ := h
  · have : xs = [] := by
      rw [List.length_map, hn] at hl
      exact List.eq_nil_of_length_eq_zero (by omega)
    subst this
    exact run_convert_bytes_nil w src e hs he 0 0 dst hd
  · have hl' : xs.length = n := by rw [List.length_map] at hl; omega
    refine run_convert_bytes_arg w src e hs he g 0 n cap xs hl' (fun i hi => ?_) dst hd
    rw [Nat.zero_add, At.cell hg i]
    have h1 : cur.toList[i]? = ((xs.map (Value.int .u8)))[i]? := by
      rw [← ht, List.getElem?_take_of_lt (by omega)]
    rw [← Array.getElem?_toList, h1, List.getElem?_map, List.getD_eq_getElem?_getD, List.getElem?_eq_getElem (by omega)]
    rfl
end Go.Proofs.YtjlpdknomdhbhaaGreatDoor
