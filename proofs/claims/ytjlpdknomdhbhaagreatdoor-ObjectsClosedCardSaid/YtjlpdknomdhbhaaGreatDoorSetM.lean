/- The digests of a set: maps.Keys gathered and sorted. Condition: the set is in reach. Rows of strings of one's own: one more, those of another slice, the first ones. No condition. The keys of a set's map, gathered. Condition: the set is in reach. Strings sorted; the digests of a set. Condition: the set is in reach. What is reached in a set. Conditions: the set and the roots are in reach. -/
import Derived.Test.YtjlpdknomdhbhaaGreatDoorSetL
import Derived.Test.YtjlpdknomdhbhaaGreatDoorRangeM
import Derived.OwnWalkIn
import Derived.TacticsInMore
import Derived.LoopNIn
import Derived.LoopIn
import Derived.Test.YtjlpdknomdhbhaaGreatDoorStrs
import Derived.Test.YtjlpdknomdhbhaaGreatDoorShelf
import Derived.Sort.OwnSorted
namespace Go.Proofs.YtjlpdknomdhbhaaGreatDoor
set_option linter.unusedVariables false
set_option linter.unusedSimpArgs false
open Go Go.RowKit Go.Maps
attribute [local go_sem] Oper.semAt_some
def keyStep (N : Nat) (f : ByteArray → Option Value) (s : List ByteArray) (k : ByteArray) (s' : List ByteArray) : Prop := (f k).isSome = true ∧ k ∉ s ∧ s.length < N ∧ s' = s ++ [k]
def keyDone (f : ByteArray → Option Value) (s : List ByteArray) : Prop := ∀ k, (f k).isSome = true ↔ k ∈ s
theorem Srange.iter {w : World} {b r n cnt : Nat} {f : ByteArray → Option Value} {done : List ByteArray} (h : Srange w b r n f done cnt) : ∃ a x y z, w.heap[r]? = some (.mapIter a x y z) := by
  obtain ⟨D, left, h, _⟩ := h
  obtain ⟨es, clock, since, seen, c0, hb, F, hs, hD, hr, _⟩ := h
  exact ⟨_, _, _, _, hr⟩
theorem Srange.maps2 {w w' : World} {b r n cnt : Nat} {f : ByteArray → Option Value} {done : List ByteArray} (h : Srange w b r n f done cnt) (hm : Maps2 w w') : Srange w' b r n f done cnt := by
  have h0 := h
  obtain ⟨D, left, h, _⟩ := h
  obtain ⟨es, clock, since, seen, c0, hb, F, hs, hD, hr, _⟩ := h
  exact h0.keep ((hm b _ hb (.inr ⟨_, _, rfl⟩)).trans hb.symm) ((hm r _ hr (.inl ⟨_, _, _, _, rfl⟩)).trans hr.symm)
theorem Smap.maps2 {w w' : World} {b n : Nat} {f : ByteArray → Option Value} (h : Smap w b n f) (hm : Maps2 w w') : Smap w' b n f := by
  have h0 := h
  obtain ⟨D, ⟨es, clock, hb, _⟩, _⟩ := h
  exact h0.keep ((hm b _ hb (.inr ⟨_, _, rfl⟩)).trans hb.symm)
set_option maxRecDepth 100000 in
set_option maxHeartbeats 4000000 in
theorem keys_iter (B kb mp N n : Nat) (f : ByteArray → Option Value) (J : List ByteArray → World → Prop) (hJ : ∀ s W, J s W → W.cell? ⟨kb, 0, none⟩ = some (.map (some mp)) ∧ Smap W mp N f) :
    IterM B (Lex.W none) n Tryz.prog 103 (fun l => #[] ++ (#[.func (.yield l) #[] #[]] ++ #[.pointer (some ⟨kb, 0, none⟩)])) (fun k : ByteArray => #[.string k]) J (keyStep N f) (keyDone f) [] := by
  intro l J' Jx' W hB hJJ hJb hY h0
  have hrr : (Lex.W none).round = none := rfl
  refine callsIn_of_wp Tryz.func103 rfl trivial ?_ rfl
  simp only [Tryz.ntmps103, List.size_toArray, List.length_cons, List.length_nil, Nat.reduceAdd, Nat.reduceSub, Array.replicate_succ, Array.replicate_zero, List.push_toArray, List.append_toArray, List.nil_append, List.cons_append]
  obtain ⟨hc, hm⟩ := hJ _ _ (hJJ _ _ h0)
  have HM := Lib.hid hm; have H0 := Lib.hid h0; have HJb := Lib.hid hJb; have HY := Lib.hid hY
  clear hJJ hJ hJb hY hm h0
  obtain ⟨w1, cnt, hrun, hrg, hcn, hg1, hs1⟩ := HM.out.run_range Tryz.underlying94
  have hq : Quiet B W w1 := Quiet.below ⟨hg1.os, hg1.tape, hg1.output, hg1.size, fun k hk => hg1.block k hk (by simp)⟩
  have H1 := Lib.hid (HJb.out _ _ _ H0.out hq); have HR := Lib.hid hrg; clear hq hrg hg1 hs1
  gi_wp2
  obtain ⟨r, hr⟩ : ∃ r, r = W.heap.size := ⟨_, rfl⟩
  rw [← hr] at HR hB ⊢
  clear hr
  gi_loopw [] (fun wr => ∃ done cn, J' done wr ∧ Srange wr mp r N f done cn ∧ done.length + cn ≤ N) (fun wr => wr.rangeLeft mp r)
  case atStart => exact ⟨[], cnt, H1.out, HR.out, by simpa using hcn⟩
  case round =>
    obtain ⟨done, cn, hj, hsr, hcd⟩ := hrel
    have HJ1 := Lib.hid hj; have HSR := Lib.hid hsr; clear hj hsr H1 HR
    rcases HSR.out.run_next with ⟨hall, hnx⟩ | ⟨k, v, w3, cn', hks, hfk, hkd, hrg3, hlt, hg3, hs3, hen, hnx⟩
    · have HALL := Lib.hid hall; clear hall
      gi_wp2
      refine bodyPost_end (results_none rfl _ _ _) rfl ⟨⟨_, rfl⟩, .inl ⟨done, HALL.out, HJ1.out⟩⟩
    · obtain ⟨ia, ib, ic, id_, hit⟩ := HSR.out.iter
      have hj3 := HJb.out _ _ _ HJ1.out (Quiet.grown hg3 hit hB)
      have hst : keyStep N f done k (done ++ [k]) := ⟨by rw [hfk]; rfl, hkd, by omega, rfl⟩
      obtain ⟨fn, tmps, assign, body, hy, hR⟩ := HY.out done k (done ++ [k]) w3 hj3 hst
      have HRG3 := Lib.hid hrg3; clear hit hg3 hs3 hj3 hst hfk hkd hrg3
      gi_wp2
      refine ⟨fun h => (by cases h), hR.mono ?_⟩
      rintro e W3 (⟨rfl, hJ3, hk3⟩ | ⟨rfl, hJx3⟩)
      · have HJ3 := Lib.hid hJ3; have HS3 := Lib.hid (HRG3.out.maps2 hk3); clear hJ3 hk3
        gi_wp2
        go_roundw
        case rel => exact ⟨done ++ [k], cn', HJ3.out, HS3.out, by rw [List.length_append, List.length_singleton]; omega⟩
        case measure => rw [HS3.out.left_eq, HSR.out.left_eq]; omega
      · gi_wp2
        refine bodyPost_ret (results_none rfl _ _ _) rfl ?_
        exact ⟨⟨_, rfl⟩, .inr hJx3⟩
end Go.Proofs.YtjlpdknomdhbhaaGreatDoor
namespace Go.Proofs.YtjlpdknomdhbhaaGreatDoor
set_option linter.unusedVariables false
set_option linter.unusedSimpArgs false
open Go Go.RowKit Go.Maps
theorem own_base {w : World} {base base' n size : Nat} {e : TypeId} {v : Value} {xs : List Value} (h : w.ownsRow base e size v n xs) (hb : base' ≤ base) : w.ownsRow base' e size v n xs := by
  obtain ⟨hl, hn | ⟨g, cap, cur, rfl, hg, rest⟩⟩ := h
  · exact ⟨hl, .inl hn⟩
  · exact ⟨hl, .inr ⟨g, cap, cur, rfl, Nat.le_trans hb hg, rest⟩⟩
section
variable {w : World} {ops : Array Oper} {rest : List Oper} {o : Oper} {a : Act} {Q : Exit → Act → World → Prop}
/-- append(v, s) of one string that lies in a cell. -/
theorem wp_push_str (hgd : o.guard = none) (s x : Operand) (ho : o.op = .call { callee := .builtin .append, args := #[s, x], argTypes := #[22, 22] })
    (base n : Nat) (v : Value) (xs : List Value) (hs : a.eval s = v) (hown : w.ownsRow base 9 1 v n xs) (g c : Nat) (y : ByteArray) (hx : a.eval x = .slice (some ⟨g, 0, none⟩) 1 c) (hy : w.cell? ⟨g, 0, none⟩ = some (.string y)) (hn : n + 1 ≤ 4000000) (hb : base ≤ w.heap.size)
    (h : ∀ v' w', w'.ownsRow base 9 1 v' (n + 1) (xs ++ [.string y]) → w.grownBy w' v.ownBlock → (v'.ownBlock = v.ownBlock ∨ v'.ownBlock = some w.heap.size) → wpList Tryz.prog ops Q rest (a.put o.dst v') w') : wpList Tryz.prog ops Q (o :: rest) a w := by
  obtain ⟨i1, hi, hz0, hz1, hz2⟩ := info_parts info_string
  refine wpList_append_own_at w hgd s x 22 ho base 9 i1 (.string ⟨#[]⟩) 1 16 Tryz.underlying22 hi hz0 hz1 hz2 rfl (by omega) v n xs hs hown ⟨g, 0, none⟩ 1 c [.string y] hx rfl (fun j u hj => ?_) (fun u hu => by simp at hu; subst hu; rfl) (by unfold maxLen; omega) (by omega) hb (fun v' w' h1 h2 _ h4 => h v' w' h1 h2 h4)
  match j, hj with
  | 0, hj => simp at hj; subst hj; simpa [Addr.add] using hy
/-- A slice of strings that came from elsewhere, appended to one's own: the block told. -/
theorem wp_append_strs_at (hgd : o.guard = none) (s x : Operand) (ho : o.op = .call { callee := .builtin .append, args := #[s, x], argTypes := #[22, 22] })
    (base n : Nat) (v : Value) (xs : List Value) (hs : a.eval s = v) (hown : w.ownsRow base 9 1 v n xs) (y : Value) (ys : List ByteArray) (hx : a.eval x = y) (hy : StrsC w y ys) (hn : n + ys.length ≤ 4000000) (hb : base ≤ w.heap.size)
    (h : ∀ v' w', w'.ownsRow base 9 1 v' (n + ys.length) (xs ++ ys.map Value.string) → w.grownBy w' v.ownBlock → (v'.ownBlock = v.ownBlock ∨ v'.ownBlock = some w.heap.size) → wpList Tryz.prog ops Q rest (a.put o.dst v') w') : wpList Tryz.prog ops Q (o :: rest) a w := by
  obtain ⟨i1, hi, hz0, hz1, hz2⟩ := info_parts info_string
  obtain ⟨ya, yc, rfl, hc⟩ := hy
  cases ya with
  | none =>
    have h0 : ys.length = 0 := by
      rcases hc with h0 | ⟨b, o, e, _⟩
      · exact h0
      · cases e
    have hys : ys = [] := List.eq_nil_of_length_eq_zero h0
    subst hys
    refine wpList_plain hgd fun K hK => ?_
    have hrun := run_append_none (P := Tryz.prog) (w := w) base 22 o.type 9 i1 1 Tryz.underlying22 hi v n yc xs hown
    unfold Oper.wp
    have hx' : a.eval x = .slice none 0 yc := hx
    simp [execOp, ho, resolve, invoke, builtin, hs, hx', hrun, Result.andThen]
    exact hK _ _ (h v w (by simpa using hown) ⟨rfl, rfl, rfl, Nat.le_refl _, fun _ _ _ => rfl⟩ (.inl rfl))
  | some p =>
    refine wpList_append_own_at w hgd s x 22 ho base 9 i1 (.string ⟨#[]⟩) 1 16 Tryz.underlying22 hi hz0 hz1 hz2 rfl (by omega) v n xs hs hown p ys.length yc (ys.map Value.string) hx (by simp) (fun j u hj => ?_) (fun u hu => by obtain ⟨z, _, rfl⟩ := List.mem_map.1 hu; rfl) (by unfold maxLen; omega) (by omega) hb (fun v' w' h1 h2 _ h4 => h v' w' h1 h2 h4)
    have hjl : j < ys.length := by
      have := (List.getElem?_eq_some_iff.1 hj).1
      simpa using this
    rcases hc with h0 | ⟨b, o', e, hcell⟩
    · omega
    · cases e
      have hadd : (⟨b, o', none⟩ : Addr).add j = ⟨b, o' + j, none⟩ := by unfold Addr.add; split <;> simp_all
      rw [hadd, hcell j hjl]
      simp [List.getElem?_map, hjl] at hj
      rw [← hj]
      simp [List.getD_eq_getElem?_getD, hjl]
end
/-- The first m of a row. -/
theorem own_first {w : World} {base g n cap m : Nat} {e : TypeId} {xs : List Value} (h : w.ownsRow base e 1 (.slice (some ⟨g, 0, none⟩) n cap) n xs) (hm : m ≤ n) : w.ownsRow base e 1 (.slice (some ⟨g, 0, none⟩) m cap) m (xs.take m) := by
  obtain ⟨hl, ⟨h0, _⟩ | ⟨g', cap', cur, hv, hg, hc, h1, h2, h3, h4⟩⟩ := h
  · cases h0
  · simp only [Value.slice.injEq, Option.some.injEq, Addr.mk.injEq] at hv
    obtain ⟨⟨rfl, _⟩, _, rfl⟩ := hv
    refine ⟨by rw [List.length_take]; omega, .inr ⟨g, cap, cur, rfl, hg, hc, by omega, h2, h3, ?_⟩⟩
    rw [Nat.mul_one] at h4 ⊢
    rw [← h4, List.take_take]
    congr 1
    omega
/-- Rows in different blocks. -/
def Dis (v u : Value) : Prop := ∀ k, v.ownBlock = some k → u.ownBlock ≠ some k
theorem Dis.symm {v u : Value} (h : Dis v u) : Dis u v := fun k hk hv => h k hv hk
theorem Dis.keep {w w' : World} {base n size : Nat} {e : TypeId} {v u : Value} {xs : List Value} (h : Dis v u) (ho : w.ownsRow base e size u n xs) (hg : w.grownBy w' v.ownBlock) : w'.ownsRow base e size u n xs :=
  own_keep ho (fun k hk => hg.block k (by obtain ⟨cur, hc⟩ := own_at ho hk; exact hc.lt) (fun e => h k e.symm hk))
theorem Dis.next {w : World} {base n size : Nat} {e : TypeId} {v v' u : Value} {xs : List Value} (h : Dis v u) (ho : w.ownsRow base e size u n xs) (hb : v'.ownBlock = v.ownBlock ∨ v'.ownBlock = some w.heap.size) : Dis v' u := by
  intro k hk hu
  rcases hb with hb | hb
  · exact h k (hb ▸ hk) hu
  · rw [hb] at hk
    cases hk
    obtain ⟨cur, hc⟩ := own_at ho hu
    have := hc.lt
    omega
end Go.Proofs.YtjlpdknomdhbhaaGreatDoor
namespace Go.Proofs.YtjlpdknomdhbhaaGreatDoor
set_option linter.unusedVariables false
set_option linter.unusedSimpArgs false
open Go Go.RowKit Go.Maps
theorem W_round' (r : Option Nat) : (Lex.W r).round = r := rfl
attribute [local go_sem] Oper.semAt_some W_round'
/-- Keys are being gathered: the row lies in the box b. -/
structure GatJ (w : World) (b : Nat) (done : List ByteArray) (W : World) : Prop where
  box : ∃ v, At W b 22 #[v] ∧ W.ownsRow (b + 3) 9 1 v done.length (done.map Value.string)
  bel : Below w.heap.size w W
  lt : b + 2 < W.heap.size ∨ done = []
  nd : done.Nodup
theorem GatJ.quiet {w W W' : World} {b : Nat} {done : List ByteArray} (h : GatJ w b done W) (hq : Quiet w.heap.size W W') : GatJ w b done W' := by
  obtain ⟨v, h1, h2⟩ := h.box
  exact ⟨⟨v, hq.at h1, hq.own h2⟩, hq.under h.bel (Nat.le_refl _), h.lt.imp (fun h => Nat.lt_of_lt_of_le h hq.size) id, h.nd⟩
theorem GatJ.fr {w W W' : World} {b : Nat} {done : List ByteArray} (h : GatJ w b done W) (hb : b = w.heap.size) (hf : Fr (fun k => k = b + 2) W W') : GatJ w b done W' := by
  obtain ⟨v, h1, h2⟩ := h.box
  refine ⟨⟨v, hf.at h1 (by show b ≠ b + 2; omega), own_keep h2 (fun k hk => hf.keep k (by obtain ⟨cur, hc⟩ := own_at h2 hk; exact hc.lt) (fun e => by have := own_up h2 k hk; have e2 : k = b + 2 := e; omega))⟩, h.bel.trans (hf.below h.bel.size (fun k hk => by have e2 : k = b + 2 := hk; omega)), h.lt.imp (fun h => Nat.lt_of_lt_of_le h hf.size) id, h.nd⟩
theorem maps2_grown {W W' : World} {base n size : Nat} {e : TypeId} {v : Value} {xs : List Value} (hg : W.grownBy W' v.ownBlock) (ho : W.ownsRow base e size v n xs) : Maps2 W W' := fun k o hk hm => (hg.block k (Array.getElem?_eq_some_iff.1 hk).1 (fun e => by
  obtain ⟨cur, hc⟩ := own_at ho e.symm
  unfold At at hc
  rw [hc] at hk
  cases hk
  rcases hm with ⟨_, _, _, _, hm⟩ | ⟨_, _, hm⟩ <;> cases hm)).trans hk
theorem maps2_cell {W : World} {b i : Nat} {t : TypeId} {cs : Array Value} (h : At W b t cs) (u : Value) : Maps2 W (W.setCell ⟨b, i, none⟩ u) := fun k o hk hm => (heap_setCell_other _ _ _ _ (fun e => by
  have e2 : k = b := e
  unfold At at h
  rw [e2, h] at hk
  cases hk
  rcases hm with ⟨_, _, _, _, hm⟩ | ⟨_, _, hm⟩ <;> cases hm)).trans hk
set_option maxRecDepth 100000 in
set_option maxHeartbeats 4000000 in
theorem gather_any (kb mp N : Nat) (f : ByteArray → Option Value) (w : World) (hk : w.cell? ⟨kb, 0, none⟩ = some (.map (some mp))) (hm : Smap w mp N f) (hN : N ≤ 1000000) :
    Calls Tryz.prog 134 #[.slice none 0 0, .func (.func 103) #[] #[.pointer (some ⟨kb, 0, none⟩)]] w fun e w' => ∃ (v : Value) (l : List ByteArray), e = .returned v ∧ w'.ownsRow w.heap.size 9 1 v l.length (l.map Value.string) ∧ l.Nodup ∧ (∀ k, (f k).isSome = true ↔ k ∈ l) ∧ Below w.heap.size w w' := by
  refine (callsIn_wide (n := 9)).1 ?_
  have hrr : Fence.wide.round = none := rfl
  have HK := Lib.hid hk; have HM := Lib.hid hm; clear hk hm
  refine callsIn_of_wp_marks Tryz.func134 rfl trivial ?_ rfl
  simp only [Tryz.ntmps134, List.size_toArray, List.length_cons, List.length_nil, Nat.reduceAdd, Nat.reduceSub, Array.replicate_succ, Array.replicate_zero, List.push_toArray, List.append_toArray, List.nil_append, List.cons_append]
  gi_wp2
  obtain ⟨b, hb⟩ : ∃ b, b = w.heap.size := ⟨_, rfl⟩
  have h7 : GatJ w b [] (w.alloc (.cells #[.slice none 0 0] 22)) := by
    rw [hb]
    exact ⟨⟨_, At.new _ _ _, ⟨rfl, .inl ⟨rfl, rfl⟩⟩⟩, (Below.refl _ _).alloc (Nat.le_refl _) _, .inr rfl, List.nodup_nil⟩
  have hs7 : (w.alloc (.cells #[.slice none 0 0] 22)).heap.size = b + 1 := by rw [World.size_alloc, hb]
  have H7 := Lib.hid h7; have HS7 := Lib.hid hs7; have HBB := Lib.hid hb; clear h7 hs7
  rw [← hb]
  clear hb
  generalize w.alloc (.cells #[.slice none 0 0] 22) = w7 at *
  have hs7 := HS7.out
  refine wpIn_rangeFunc_iterM (r := none) rfl rfl (enters_of Tryz.func103 (by kernel_rfl) rfl) (fun k : ByteArray => #[.string k]) (fun _ => rfl)
    (GatJ w b) (fun _ _ => False) (keyStep N f) (keyDone f) [] w.heap.size (by rw [hs7, HBB.out]; omega) ?hJb ?hJl ?hJxl ?h0 ?hiter ?hround ?hdone ?hstop
  case hJb => exact fun s W W' h hq => h.quiet hq
  case hJl =>
    intro s W W' h hf
    rw [hs7] at hf
    exact h.fr HBB.out hf
  case hJxl => exact fun c W W' h _ => h
  case h0 => exact H7.out
  case hiter =>
    refine keys_iter _ kb mp N _ f _ ?_
    rintro s W h
    exact ⟨(h.bel.cell (p := ⟨kb, 0, none⟩) (block_lt HK.out)).trans HK.out, HM.out.below h.bel HM.out.lt⟩
  case hround =>
    rintro s x s' W hsz hW ⟨hq1, hq2, hq3, rfl⟩
    have HW := Lib.hid hW; have HQ2 := Lib.hid hq2; clear hW hq1 hq2
    rw [hs7] at hsz
    gi_wp2
    refine ⟨trivial, ?_⟩
    intro W2 hf
    rw [hs7] at hf
    have hsz2 := hf.size
    have hW2 := HW.out.fr HBB.out hf
    obtain ⟨v, hat, hown⟩ := hW2.box
    obtain ⟨va, vm, vc, rfl⟩ := own_slice hown
    have c0 := hat.cell 0
    simp only [List.getElem?_toArray, List.getElem?_cons_zero, List.getElem?_cons_succ] at c0
    have HW2 := Lib.hid hW2; have HAT := Lib.hid hat; have HOWN := Lib.hid hown; clear hat hown hW2
    obtain ⟨i0, hi, hz0, hz1, hz2⟩ := info_parts info_string
    gi_step
    refine wpIn_block ?_
    refine Lex.wpIn_region_plain (by kernel_rfl) ?_
    go_wp2_with (at_builtin; go_must (refine wpList_append_own_at _ rfl _ _ 22 rfl (b + 3) 9 i0 _ 1 16 Tryz.underlying22 hi hz0 hz1 hz2 rfl (by omega) (.slice va vm vc) s.length (s.map Value.string) rfl (HOWN.out.alloc _) ⟨W2.heap.size, 0, none⟩ 1 1 [.string x] rfl rfl ?c1 ?c2 ?c3 ?c4 ?c5 ?_))
    case c1 =>
      intro j u hj
      match j, hj with
      | 0, hj => simp at hj; subst hj; simp [Addr.add]
    case c2 => intro u hu; simp at hu; subst hu; rfl
    case c3 => unfold maxLen; omega
    case c4 => omega
    case c5 => simp; omega
    intro v' w' how' hg _ hb'
    obtain ⟨ua, um, uc, rfl⟩ := own_slice how'
    have hne : some b ≠ (Value.slice va vm vc).ownBlock := fun e => by have := own_up HOWN.out b e.symm; omega
    have hat' : At w' b 22 #[.slice va vm vc] := (HAT.out.alloc (.cells #[.string x] 9)).grown hg hne
    have q0 := hat'.free 0
    have k0 := hat'.cell 0
    simp only [List.getElem?_toArray, List.getElem?_cons_zero, List.getElem?_cons_succ] at k0
    have hb3 : Below W2.heap.size W2 (W2.alloc (.cells #[.string x] 9)) := (Below.refl _ _).alloc (Nat.le_refl _) _
    have hm3 : Maps2 W2 (w'.setCell ⟨b, 0, none⟩ (.slice ua um uc)) := (Maps2.below hb3).trans ((maps2_grown hg (HOWN.out.alloc (.cells #[.string x] 9))).trans (maps2_cell hat' _))
    have hown' : (w'.setCell ⟨b, 0, none⟩ (.slice ua um uc)).ownsRow (b + 3) 9 1 (.slice ua um uc) (s ++ [x]).length ((s ++ [x]).map Value.string) := by
      rw [List.length_append, List.length_singleton, List.map_append]
      exact own_keep how' (fun k hk => heap_setCell_other _ _ _ _ (by have := own_up how' k hk; show k ≠ b; omega))
    have hbel : Below w.heap.size w (w'.setCell ⟨b, 0, none⟩ (.slice ua um uc)) := by
      have h1 := HW2.out.bel.trans (hb3.mono HW2.out.bel.size)
      have h2 : Below w.heap.size w w' := h1.grown hg h1.size (fun i hi => by have := own_up HOWN.out i hi; have := HBB.out; omega)
      exact h2.setCell (p := ⟨b, 0, none⟩) (by show w.heap.size ≤ b; have := HBB.out; omega) _
    have hsz3 : b + 2 < (w'.setCell ⟨b, 0, none⟩ (.slice ua um uc)).heap.size := by
      have := hg.size
      simp only [World.size_alloc] at this
      simp only [World.setCell, Array.size_modify]
      omega
    have hkeep : ∀ k, k = b + 1 ∨ k = b + 2 → (w'.setCell ⟨b, 0, none⟩ (.slice ua um uc)).heap[k]? = W2.heap[k]? := by
      intro k hk
      rw [heap_setCell_other _ _ _ _ (by show k ≠ b; omega), hg.block k (by simp only [World.size_alloc]; omega) (fun e => by have := own_up HOWN.out k e.symm; omega), hb3.block k (by omega)]
    have HG := Lib.hid (GatJ.mk (w := w) (b := b) (done := s ++ [x]) ⟨_, hat'.set 0 _, hown'⟩ hbel (.inl hsz3) (Store.nodup_add HW.out.nd HQ2.out))
    have HM3 := Lib.hid hm3; have HKP := Lib.hid hkeep
    clear hm3 hown' hbel hsz3 hkeep hb3 how' hg hb' hat' hne
    go_wp2_with fail
    refine Lex.Only.intro ?_
    gi_wp2
    rw [hs7]
    exact ⟨⟨HKP.out _ (.inl rfl), HKP.out _ (.inr rfl)⟩, HM3.out, .inl ⟨rfl, HG.out⟩⟩
  case hdone =>
    intro s W hD hJ hdf
    obtain ⟨v, hat, hown⟩ := hJ.box
    obtain ⟨va, vm, vc, rfl⟩ := own_slice hown
    have k0 := hat.cell 0
    simp only [List.getElem?_toArray, List.getElem?_cons_zero, List.getElem?_cons_succ] at k0
    have HJ := Lib.hid hJ; have HDF := Lib.hid hdf; have HD := Lib.hid hD; have HOWN := Lib.hid hown; clear hJ hdf hD hat hown
    gi_wp2
    simp only [hs7] at HDF ⊢
    refine ⟨by simp, .inl ⟨_, _, rfl, run_takeDeferred HDF.out, ?_⟩⟩
    refine ⟨.slice va vm vc, (results_tmp (fn := Tryz.f134) (t := 4) rfl _ _ _).trans rfl, ?_⟩
    refine ⟨.slice va vm vc, s, rfl, own_base (own_keep HOWN.out (fun k hk => World.putObj_heap_other (by have := own_up HOWN.out k hk; omega))) (by have := HBB.out; omega), HJ.out.nd, HD.out, HJ.out.bel.trans ⟨rfl, rfl, rfl, by simp [World.putObj], fun k hk => World.putObj_heap_other (by have := HBB.out; omega)⟩⟩
  case hstop => exact fun c W h => h.elim
set_option maxRecDepth 100000 in
theorem collect_any (kb mp N : Nat) (f : ByteArray → Option Value) (w : World) (hk : w.cell? ⟨kb, 0, none⟩ = some (.map (some mp))) (hm : Smap w mp N f) (hN : N ≤ 1000000) :
    Calls Tryz.prog 102 #[.func (.func 103) #[] #[.pointer (some ⟨kb, 0, none⟩)]] w fun e w' => ∃ (v : Value) (l : List ByteArray), e = .returned v ∧ w'.ownsRow w.heap.size 9 1 v l.length (l.map Value.string) ∧ l.Nodup ∧ (∀ k, (f k).isSome = true ↔ k ∈ l) ∧ Below w.heap.size w w' := by
  have HK := Lib.hid hk; have HM := Lib.hid hm; clear hk hm
  go_enter Tryz.func102, Tryz.ntmps102
  go_wp2_with fail
  refine (gather_any kb mp N f _ HK.out HM.out hN).mono ?_
  rintro e w2 ⟨v, l, rfl, h1, h2, h3, h4⟩
  have H1 := Lib.hid h1; have H2 := Lib.hid h2; have H3 := Lib.hid h3; have H4 := Lib.hid h4; clear h1 h2 h3 h4
  go_wp2_with fail
  go_ret
  exact ⟨v, l, rfl, H1.out, H2.out, H3.out, H4.out⟩
end Go.Proofs.YtjlpdknomdhbhaaGreatDoor
namespace Go.Proofs.YtjlpdknomdhbhaaGreatDoor
set_option linter.unusedVariables false
set_option linter.unusedSimpArgs false
open Go Go.RowKit Go.Maps
theorem less_lt : ∀ x y : List UInt8, Nam.less x y = decide (x < y)
  | [], [] => by simp [Nam.less, Op.bytesLess]
  | _ :: _, [] => by simp [Nam.less, Op.bytesLess]
  | [], _ :: _ => by simp [Nam.less, Op.bytesLess]
  | a :: x, b :: y => by
    have ih := less_lt x y
    unfold Nam.less at ih ⊢
    rw [Op.bytesLess, ih]
    simp only [List.cons_lt_cons_iff]
    by_cases h1 : a < b <;> by_cases h2 : a = b <;> by_cases h3 : x < y <;> simp [h1, h2, h3]
def dl (l : List ByteArray) : List (List UInt8) := l.map fun x => x.data.toList
def bl (l : List (List UInt8)) : List ByteArray := l.map fun x => ⟨x.toArray⟩
theorem bl_dl (l : List ByteArray) : bl (dl l) = l := by
  unfold bl dl
  rw [List.map_map]
  conv => rhs; rw [← List.map_id l]
  refine List.map_congr_left fun x _ => ?_
  rfl
theorem enc_dl (l : List ByteArray) : (dl l).map encStr = l.map Value.string := by
  unfold dl
  rw [List.map_map]
  refine List.map_congr_left fun x _ => ?_
  rfl
theorem enc_bl (l : List (List UInt8)) : l.map encStr = (bl l).map Value.string := by
  unfold bl
  rw [List.map_map]
  rfl
/-- Strings in order. -/
noncomputable def sortB (l : List ByteArray) : List ByteArray := bl ((dl l).mergeSort fun x y => decide (x ≤ y))
theorem sortB_len (l : List ByteArray) : (sortB l).length = l.length := by
  unfold sortB bl dl
  rw [List.length_map, List.length_mergeSort, List.length_map]
theorem sortB_mem (l : List ByteArray) (x : ByteArray) : x ∈ sortB l ↔ x ∈ l := by
  unfold sortB bl
  rw [List.mem_map]
  constructor
  · rintro ⟨y, hy, rfl⟩
    rw [List.mem_mergeSort] at hy
    unfold dl at hy
    obtain ⟨z, hz, rfl⟩ := List.mem_map.1 hy
    exact hz
  · intro h
    exact ⟨x.data.toList, by rw [List.mem_mergeSort]; exact List.mem_map.2 ⟨x, h, rfl⟩, rfl⟩
theorem sortB_incr {l : List ByteArray} (h : l.Nodup) : Incr (sortB l) := by
  have tr : ∀ a b c : List UInt8, decide (a ≤ b) = true → decide (b ≤ c) = true → decide (a ≤ c) = true := fun a b c h1 h2 => by simp only [decide_eq_true_eq] at *; exact List.le_trans h1 h2
  have tot : ∀ a b : List UInt8, (decide (a ≤ b) || decide (b ≤ a)) = true := fun a b => by simp only [Bool.or_eq_true, decide_eq_true_eq]; exact List.le_total a b
  have h1 := List.pairwise_mergeSort tr tot (dl l)
  have h2 : (dl l).Nodup := by
    unfold dl
    exact List.pairwise_map.2 (h.imp fun {a b} hne e => hne (ba_data e))
  have h3 : ((dl l).mergeSort fun x y => decide (x ≤ y)).Nodup := (List.mergeSort_perm (dl l) _).nodup_iff.2 h2
  unfold Incr sortB bl
  rw [List.pairwise_map]
  refine (h1.and h3).imp fun {a b} hab => ?_
  show Nam.less a b = true
  rw [less_lt, decide_eq_true_eq]
  have hle := hab.1
  simp only [decide_eq_true_eq] at hle
  by_cases hlt : a < b
  · exact hlt
  · exact absurd (List.le_antisymm hle (List.not_lt.1 hlt)) hab.2
theorem sort_any (base : Nat) (v : Value) (l : List ByteArray) (w : World) (h : w.ownsRow base 9 1 v l.length (l.map Value.string)) (hl : l.length ≤ 4000000) :
    Calls Tryz.prog 65 #[v] w fun e w' => e = .returned (.tuple #[]) ∧ w'.ownsRow base 9 1 v (sortB l).length ((sortB l).map Value.string) ∧ w.grownBy w' v.ownBlock := by
  rcases h.2 with ⟨rfl, hn⟩ | ⟨g, cap, cur, rfl, hbase, hb, h1, h2, h3, h4⟩
  · have hx : l = [] := List.eq_nil_of_length_eq_zero hn
    subst hx
    refine (Tryz.slices_Sort_string_none none 0 w).mono ?_
    rintro e w' ⟨rfl, rfl⟩
    refine ⟨rfl, ?_, ⟨rfl, rfl, rfl, Nat.le_refl _, fun _ _ _ => rfl⟩⟩
    have : sortB [] = [] := List.eq_nil_of_length_eq_zero (sortB_len [])
    rw [this]
    exact h
  · have hd : (dl l).length = l.length := List.length_map _
    have hH : Sort.Holds encStr w g 0 (dl l).toArray := holds_of_block hb (by rw [hd, enc_dl]; simpa using h4)
    have hc := Tryz.slices_Sort_string g 0 cap (dl l) w hH (Array.getElem?_eq_some_iff.1 hb).1 (by omega)
    rw [hd] at hc
    refine hc.mono ?_
    rintro e w' ⟨rfl, n, os, rfl⟩
    have hlen : ((dl l).mergeSort fun x y => decide (x ≤ y)).length = (dl l).length := List.length_mergeSort _
    have ho := ownsRow_sorted (os := os) (n := n) (ss := dl l) hlen hbase hb (by rw [hd]; exact h1) h2 h3
    refine ⟨rfl, ?_, grownBy_sorted _⟩
    rw [sortB_len]
    rw [hd, enc_bl] at ho
    exact ho
set_option maxRecDepth 100000 in
theorem sorted_any (kb mp N : Nat) (f : ByteArray → Option Value) (w : World) (hk : w.cell? ⟨kb, 0, none⟩ = some (.map (some mp))) (hm : Smap w mp N f) (hN : N ≤ 1000000) (hlen : ∀ l : List ByteArray, l.Nodup → (∀ k, (f k).isSome = true ↔ k ∈ l) → l.length ≤ 4000000) :
    Calls Tryz.prog 68 #[.func (.func 103) #[] #[.pointer (some ⟨kb, 0, none⟩)]] w fun e w' => ∃ (v : Value) (l : List ByteArray), e = .returned v ∧ w'.ownsRow w.heap.size 9 1 v l.length (l.map Value.string) ∧ Incr l ∧ (∀ k, (f k).isSome = true ↔ k ∈ l) ∧ Below w.heap.size w w' := by
  have HK := Lib.hid hk; have HM := Lib.hid hm; have HL := Lib.hid hlen; clear hk hm hlen
  go_enter Tryz.func68, Tryz.ntmps68
  go_wp2_with fail
  refine (collect_any kb mp N f _ HK.out HM.out hN).mono ?_
  rintro e w2 ⟨v, l, rfl, h1, h2, h3, h4⟩
  have hl := HL.out l h2 h3
  have H1 := Lib.hid h1; have H2 := Lib.hid h2; have H3 := Lib.hid h3; have H4 := Lib.hid h4; clear h1 h2 h3 h4
  go_wp2_with fail
  refine (sort_any _ v l _ H1.out hl).mono ?_
  rintro e w3 ⟨rfl, h5, h6⟩
  have h7 := below_own H4.out H4.out.size H1.out h6
  have H5 := Lib.hid h5; have H7 := Lib.hid h7; clear h5 h6 h7
  go_wp2_with fail
  go_ret
  exact ⟨v, sortB l, rfl, H5.out, sortB_incr H2.out, fun k => by rw [sortB_mem]; exact H3.out k, H7.out⟩
theorem filter_ne_len (a : ByteArray) : ∀ l : List ByteArray, l.Nodup → l.length ≤ (l.filter fun x => decide (x ≠ a)).length + 1
  | [], _ => Nat.zero_le _
  | x :: l, h => by
    obtain ⟨h1, h2⟩ := List.nodup_cons.1 h
    by_cases hx : x = a
    · have : l.filter (fun x => decide (x ≠ a)) = l := List.filter_eq_self.2 fun y hy => by
        simp only [decide_eq_true_eq]
        exact fun e => h1 (by rw [hx, ← e]; exact hy)
      rw [List.filter_cons_of_neg (by simp [hx]), this, List.length_cons]
      omega
    · have := filter_ne_len a l h2
      rw [List.filter_cons_of_pos (by simp [hx]), List.length_cons, List.length_cons]
      omega
theorem keys_le : ∀ (S : Store) (l : List ByteArray), l.Nodup → (∀ k ∈ l, (S.get k).isSome = true) → l.length ≤ S.length
  | [], l, _, h => by
    cases l with
    | nil => exact Nat.le_refl _
    | cons x l => have := h x List.mem_cons_self; cases this
  | x :: S, l, hn, h => by
    have h1 := filter_ne_len x.1 l hn
    have h2 := keys_le S (l.filter fun y => decide (y ≠ x.1)) (hn.sublist List.filter_sublist) (fun k hk => by
      obtain ⟨hk1, hk2⟩ := List.mem_filter.1 hk
      have := h k hk1
      unfold Store.get at this
      rw [if_neg (fun e => by simp only [decide_eq_true_eq] at hk2; exact hk2 e.symm)] at this
      exact this)
    rw [List.length_cons]
    omega
set_option maxRecDepth 100000 in
theorem mapKeys_any (mp : Nat) (w : World) : Calls Tryz.prog 69 #[.map (some mp)] w fun e w' => e = .returned (.func (.func 103) #[] #[.pointer (some ⟨w.heap.size, 0, none⟩)]) ∧ w' = w.alloc (.cells #[.map (some mp)] 94) := by
  go_enter Tryz.func69, Tryz.ntmps69
  go_wp2_with fail
  go_ret
  exact ⟨rfl, rfl⟩
set_option maxRecDepth 100000 in
theorem digests_any (a mp n : Nat) (F : Nat → Prop) (S : Store) (w : World) (hset : SetAt w a mp n F S) (hn : n ≤ 1000000) :
    Calls Tryz.prog 32 #[.pointer (some ⟨a, 0, none⟩)] w fun e w' => ∃ (v : Value) (l : List ByteArray), e = .returned v ∧ w'.ownsRow w.heap.size 9 1 v l.length (l.map Value.string) ∧ Incr l ∧ (∀ k, (S.get k).isSome = true ↔ k ∈ l) ∧ Below w.heap.size w w' := by
  have HS := Lib.hid hset; clear hset
  have s0 := HS.out.self.cell 0
  simp only [List.getElem?_toArray, List.getElem?_cons_zero, List.getElem?_cons_succ] at s0
  obtain ⟨f, hf, hff⟩ := HS.out.map_
  have hmo : MapOf w F S f := hff
  have HF := Lib.hid hf; have HMO := Lib.hid hmo; clear hf hff hmo
  go_enter Tryz.func32, Tryz.ntmps32
  go_wp2_with fail
  refine (mapKeys_any mp _).mono ?_
  rintro e w1 ⟨rfl, rfl⟩
  have hb1 : Below w.heap.size w (w.alloc (.cells #[.map (some mp)] 94)) := (Below.refl _ _).alloc (Nat.le_refl _) _
  have HB1 := Lib.hid hb1; clear hb1
  go_wp2_with fail
  refine (sorted_any w.heap.size mp n f _ (cell_new _ _ _) (HF.out.below HB1.out HF.out.lt) hn (fun l h1 h2 => ?_)).mono ?_
  · have := keys_le S l h1 (fun k hk => by rw [← HMO.out.some_iff k]; exact (h2 k).2 hk)
    have := HS.out.many
    omega
  rintro e w2 ⟨v, l, rfl, h1, h2, h3, h4⟩
  have h5 : ∀ k, (S.get k).isSome = true ↔ k ∈ l := fun k => by rw [← HMO.out.some_iff k]; exact h3 k
  have h6 := own_base h1 HB1.out.size
  have h7 := HB1.out.trans (h4.mono HB1.out.size)
  have H2 := Lib.hid h2; have H5 := Lib.hid h5; have H6 := Lib.hid h6; have H7 := Lib.hid h7; clear h1 h2 h3 h4 h5 h6 h7
  go_wp2_with fail
  go_ret
  exact ⟨v, l, rfl, H6.out, H2.out, H5.out, H7.out⟩
end Go.Proofs.YtjlpdknomdhbhaaGreatDoor
namespace Go.Proofs.YtjlpdknomdhbhaaGreatDoor
set_option linter.unusedVariables false
set_option linter.unusedSimpArgs false
open Go Go.RowKit Go.Maps
theorem zeroB' (w : World) : (zeroValue 4).run Tryz.prog w = .ok (.bool false) w := by kernel_rfl
theorem SetAt.look_none {w : World} {a mp n : Nat} {F : Nat → Prop} {S : Store} {d : ByteArray} (h : SetAt w a mp n F S) (hg : S.get d = none) (hd : d.size ≤ maxLen) :
    (Instr.lookup 94 (.map (some mp)) (.string d) true).run Tryz.prog w = .ok (.tuple #[.agg #[.int .i64 0, .slice none 0 0, .string ⟨#[]⟩], .bool false]) w := by
  obtain ⟨f, hf, hm⟩ := h.map_
  have := hm d
  rw [hg] at this
  have h2 := hf.run_look_ok Tryz.underlying94 _ (zeroO _) d hd
  rw [this] at h2
  exact h2
theorem SetAt.look_some {w : World} {a mp n : Nat} {F : Nat → Prop} {S : Store} {d : ByteArray} {o : Obj} (h : SetAt w a mp n F S) (hg : S.get d = some o) (hd : d.size ≤ maxLen) :
    ∃ sa sc, (Instr.lookup 94 (.map (some mp)) (.string d) true).run Tryz.prog w = .ok (.tuple #[.agg #[.int .i64 o.kind, .slice sa o.refs.length sc, .string o.data], .bool true]) w ∧ StrsC w (.slice sa o.refs.length sc) o.refs := by
  obtain ⟨f, hf, hm⟩ := h.map_
  have := hm d
  rw [hg] at this
  obtain ⟨sv, e1, e2, _⟩ := this
  obtain ⟨sa, sc, rfl⟩ := e2.len
  have h2 := hf.run_look_ok Tryz.underlying94 _ (zeroO _) d hd
  rw [e1] at h2
  exact ⟨sa, sc, h2, e2⟩
/-- Three rows of strings in different blocks. -/
structure Rows3 (w : World) (vw : Value) (work : List ByteArray) (vf : Value) (found : List ByteArray) (vm : Value) (missing : List ByteArray) (wr : World) : Prop where
  bel : Below w.heap.size w wr
  ow : wr.ownsRow w.heap.size 9 1 vw work.length (work.map Value.string)
  of_ : wr.ownsRow w.heap.size 9 1 vf found.length (found.map Value.string)
  om : wr.ownsRow w.heap.size 9 1 vm missing.length (missing.map Value.string)
  d1 : Dis vw vf
  d2 : Dis vw vm
  d3 : Dis vf vm
/-- A search is under way. -/
structure CloI (w : World) (S : Store) (roots : List ByteArray) (m : Nat) (found missing work : List ByteArray) (vw vf vm : Value) (wr : World) : Prop where
  r3 : Rows3 w vw work vf found vm missing wr
  srch : Store.Search S roots found missing work
  mp : ∃ f, Smap wr m (found.length + missing.length) f ∧ (∀ k, (k ∈ found ∨ k ∈ missing) → f k = some (.bool true)) ∧ (∀ k, ¬ (k ∈ found ∨ k ∈ missing) → f k = none)
  mge : w.heap.size ≤ m
  sz : ∀ k ∈ work, k.size ≤ maxLen
theorem own_len {w : World} {base m n size c : Nat} {a : Option Addr} {e : TypeId} {xs : List Value} (h : w.ownsRow base e size (.slice a m c) n xs) : m = n := by
  obtain ⟨_, ⟨h0, hn⟩ | ⟨g, cap, cur, h0, _⟩⟩ := h
  · cases h0; exact hn.symm
  · cases h0; rfl
theorem own_cap {w : World} {base m n size c : Nat} {p : Addr} {e : TypeId} {xs : List Value} (h : w.ownsRow base e size (.slice (some p) m c) n xs) : n ≤ c ∧ c ≤ maxLen := by
  obtain ⟨_, ⟨h0, hn⟩ | ⟨g, cap, cur, h0, _, _, h1, h2, _⟩⟩ := h
  · cases h0
  · cases h0; exact ⟨h1, h2⟩
theorem work_split (l : List ByteArray) (h : 0 < l.length) : l = l.take (l.length - 1) ++ [l.getD (l.length - 1) ⟨#[]⟩] := by
  have h2 : l.length - 1 < l.length := by omega
  conv => lhs; rw [← List.take_length (l := l), show l.length = (l.length - 1) + 1 by omega, List.take_succ_eq_append_getElem h2]
  simp [List.getD_eq_getElem?_getD, h2]
theorem own_map {w w' : World} {base n size m k : Nat} {e : TypeId} {v : Value} {xs : List Value} {f : ByteArray → Option Value} (h : w.ownsRow base e size v n xs) (hm : Smap w m k f) (hg : w.grownBy w' (some m)) : w'.ownsRow base e size v n xs :=
  own_keep h (fun i hi => hg.block i (by obtain ⟨cur, hc⟩ := own_at h hi; exact hc.lt) (fun e => by
    obtain ⟨cur, hc⟩ := own_at h hi
    have e2 : i = m := by simpa using e
    subst e2
    exact hm.ne_at hc rfl))
theorem Smap.row {w w' : World} {base n size m k : Nat} {e : TypeId} {v : Value} {xs : List Value} {f : ByteArray → Option Value} (hm : Smap w m k f) (h : w.ownsRow base e size v n xs) (hg : w.grownBy w' v.ownBlock) : Smap w' m k f :=
  hm.keep (hg.block m hm.lt (fun e => by
    obtain ⟨cur, hc⟩ := own_at h e.symm
    exact hm.ne_at hc rfl))
section
variable {w wr wr' : World} {vw vf vm v' : Value} {work found missing ys : List ByteArray} {d : ByteArray}
theorem Rows3.under (h : Rows3 w vw work vf found vm missing wr) (hb : Below wr.heap.size wr wr') : Rows3 w vw work vf found vm missing wr' := by
  have key : ∀ {v : Value} {n : Nat} {xs : List Value}, wr.ownsRow w.heap.size 9 1 v n xs → wr'.ownsRow w.heap.size 9 1 v n xs := fun ho => own_keep ho (fun k hk => hb.block k (by obtain ⟨cur, hc⟩ := own_at ho hk; exact hc.lt))
  exact ⟨h.bel.trans (hb.mono h.bel.size), key h.ow, key h.of_, key h.om, h.d1, h.d2, h.d3⟩
theorem Rows3.map {m k : Nat} {f : ByteArray → Option Value} (h : Rows3 w vw work vf found vm missing wr) (hm : Smap wr m k f) (hw : w.heap.size ≤ m) (hg : wr.grownBy wr' (some m)) : Rows3 w vw work vf found vm missing wr' :=
  ⟨h.bel.grown hg h.bel.size (fun i hi => by cases hi; exact hw), own_map h.ow hm hg, own_map h.of_ hm hg, own_map h.om hm hg, h.d1, h.d2, h.d3⟩
theorem Rows3.toM (h : Rows3 w vw work vf found vm missing wr) (hg : wr.grownBy wr' vm.ownBlock) (ho : wr'.ownsRow w.heap.size 9 1 v' (missing.length + 1) (missing.map Value.string ++ [.string d])) (hb : v'.ownBlock = vm.ownBlock ∨ v'.ownBlock = some wr.heap.size) : Rows3 w vw work vf found v' (missing ++ [d]) wr' :=
  ⟨below_own h.bel h.bel.size h.om hg, h.d2.symm.keep h.ow hg, h.d3.symm.keep h.of_ hg, by rw [List.length_append, List.length_singleton, List.map_append]; exact ho, h.d1, (h.d2.symm.next h.ow hb).symm, (h.d3.symm.next h.of_ hb).symm⟩
theorem Rows3.toF (h : Rows3 w vw work vf found vm missing wr) (hg : wr.grownBy wr' vf.ownBlock) (ho : wr'.ownsRow w.heap.size 9 1 v' (found.length + 1) (found.map Value.string ++ [.string d])) (hb : v'.ownBlock = vf.ownBlock ∨ v'.ownBlock = some wr.heap.size) : Rows3 w vw work v' (found ++ [d]) vm missing wr' :=
  ⟨below_own h.bel h.bel.size h.of_ hg, h.d1.symm.keep h.ow hg, by rw [List.length_append, List.length_singleton, List.map_append]; exact ho, h.d3.keep h.om hg, (h.d1.symm.next h.ow hb).symm, h.d2, h.d3.next h.om hb⟩
theorem Rows3.toW (h : Rows3 w vw work vf found vm missing wr) (hg : wr.grownBy wr' vw.ownBlock) (ho : wr'.ownsRow w.heap.size 9 1 v' (work.length + ys.length) (work.map Value.string ++ ys.map Value.string)) (hb : v'.ownBlock = vw.ownBlock ∨ v'.ownBlock = some wr.heap.size) : Rows3 w v' (work ++ ys) vf found vm missing wr' :=
  ⟨below_own h.bel h.bel.size h.ow hg, by rw [List.length_append, List.map_append]; exact ho, h.d1.keep h.of_ hg, h.d2.keep h.om hg, h.d1.next h.of_ hb, h.d2.next h.om hb, h.d3⟩
end
set_option maxRecDepth 100000 in
set_option maxHeartbeats 4000000 in
theorem closure_any (a mp n : Nat) (F : Nat → Prop) (S : Store) (v : Value) (roots : List ByteArray) (w : World) (hset : SetAt w a mp n F S) (hn : n ≤ 20000) (hv : StrsC w v roots) (hr : roots.length ≤ 100000) (hz : ∀ k ∈ roots, k.size ≤ maxLen) :
    Calls Tryz.prog 26 #[.pointer (some ⟨a, 0, none⟩), v] w fun e w' => ∃ (v1 v2 : Value) (l1 l2 : List ByteArray), e = .returned (.tuple #[v1, v2]) ∧
      w'.ownsRow w.heap.size 9 1 v1 l1.length (l1.map Value.string) ∧ w'.ownsRow w.heap.size 9 1 v2 l2.length (l2.map Value.string) ∧ Dis v1 v2 ∧ Incr l1 ∧ Incr l2 ∧
      (∀ k, k ∈ l1 ↔ Store.Reach S roots k ∧ (S.get k).isSome = true) ∧ (∀ k, k ∈ l2 ↔ Store.Reach S roots k ∧ (S.get k).isSome = false) ∧ Below w.heap.size w w' := by
  obtain ⟨ra, rc, rfl⟩ := hv.len
  have HS := Lib.hid hset; have HV := Lib.hid hv; have HZ := Lib.hid hz; clear hset hv hz
  have hmany := HS.out.many
  have hmm := @run_makeMap Tryz.prog
  go_enter Tryz.func26, Tryz.ntmps26
  have hb1 : Below w.heap.size w (w.alloc (.map #[] 0)) := (Below.refl _ _).alloc (Nat.le_refl _) _
  have HB1 := Lib.hid hb1; have HM1 := Lib.hid (Smap.made w); clear hb1
  go_wp2_with fail
  refine (cloneStrs_any (.slice ra roots.length rc) roots _ (HV.out.below HB1.out) (by omega)).mono ?_
  rintro e w2 ⟨vw, rfl, _, _, how, hb2⟩
  have hci : CloI w S roots w.heap.size [] [] roots vw (.slice none 0 0) (.slice none 0 0) w2 :=
    ⟨⟨HB1.out.trans (hb2.mono HB1.out.size), own_base how HB1.out.size, ⟨rfl, .inl ⟨rfl, rfl⟩⟩, ⟨rfl, .inl ⟨rfl, rfl⟩⟩, (fun k _ hk => by cases hk), (fun k _ hk => by cases hk), (fun k hk => by cases hk)⟩, Store.Search.start S roots, ⟨_, HM1.out.below hb2 HM1.out.lt, (fun k hk => by rcases hk with hk | hk <;> cases hk), fun k _ => rfl⟩, Nat.le_refl _, HZ.out⟩
  have HCI := Lib.hid hci; clear hci hmm how hb2
  obtain ⟨wa, wm, wc, rfl⟩ := own_slice HCI.out.r3.ow
  obtain ⟨m, hm⟩ : ∃ m, m = w.heap.size := ⟨_, rfl⟩
  have hci2 : CloI w S roots m [] [] roots (.slice wa wm wc) (.slice none 0 0) (.slice none 0 0) w2 := by rw [hm]; exact HCI.out
  clear HCI
  have HCI := Lib.hid hci2; clear hci2
  rw [← hm]
  clear hm HM1
  go_wp2_with fail
  go_loopg [7, 8, 9] (roots.length + 65 * S.length + 1) (fun gf vw vf vm wr => ∃ found missing work, CloI w S roots m found missing work vw vf vm wr ∧ work.length + 65 * Store.open_ S found < gf)
  case atStart => exact ⟨[], [], roots, HCI.out, by have := Store.open_le S []; omega⟩
  case round =>
    obtain ⟨found, missing, work, hci, hgf⟩ := hrel
    have HC := Lib.hid hci; clear hci HCI
    obtain ⟨ua, um, uc, rfl⟩ := own_slice HC.out.r3.ow
    have hul := own_len HC.out.r3.ow
    obtain ⟨fa, fm, fc, rfl⟩ := own_slice HC.out.r3.of_
    obtain ⟨ma, mm, mc, rfl⟩ := own_slice HC.out.r3.om
    by_cases h0 : 0 < work.length
    · obtain ⟨g, cap, hv, hcell⟩ := own_cell HC.out.r3.ow h0
      cases hv
      have hw := work_split work h0
      obtain ⟨d, hd⟩ : ∃ d, d = work.getD (work.length - 1) ⟨#[]⟩ := ⟨_, rfl⟩
      rw [← hd] at hw
      obtain ⟨l, hl⟩ : ∃ l, l = work.take (work.length - 1) := ⟨_, rfl⟩
      rw [← hl] at hw
      obtain ⟨N, hN⟩ : ∃ N, N = work.length := ⟨_, rfl⟩
      have hlN : l.length + 1 = N := by rw [hN, hw, List.length_append]; rfl
      have hlt : work.length - 1 < work.length := by omega
      have ce : wr.cell? ⟨g, N - 1, none⟩ = some (.string d) := by
        refine hcell (N - 1) _ ?_
        rw [hN, List.getElem?_map, List.getElem?_eq_getElem hlt, hd]
        simp [List.getD_eq_getElem?_getD, hlt]
      have hcap := own_cap HC.out.r3.ow
      rw [← hN] at hcap
      have hcap1 := hcap.1
      have hfirst := own_first HC.out.r3.ow (m := N - 1) (by omega)
      have hft : (work.map Value.string).take (N - 1) = l.map Value.string := by rw [hl, hN, List.map_take]
      rw [hft] at hfirst
      have hl1 : N - 1 = l.length := by omega
      have hsrch := HC.out.srch
      rw [hw] at hsrch
      have hdz : d.size ≤ maxLen := HC.out.sz d (by rw [hw]; simp)
      have hsz : ∀ k ∈ l, k.size ≤ maxLen := fun k hk => HC.out.sz k (by rw [hw]; simp [hk])
      have hNb : N ≤ 1500000 := by have := HC.out.srch.b; omega
      have hfm : found.length + missing.length + N ≤ 1500000 := by have := HC.out.srch.b; omega
      rw [← hN] at hgf h0 ⊢
      have HFI := Lib.hid hfirst; have HSR := Lib.hid hsrch; have HDZ := Lib.hid hdz; have HSZ := Lib.hid hsz; have HL1 := Lib.hid hl1
      obtain ⟨f, hf, hf1, hf2⟩ := HC.out.mp
      have hlk := hf.run_look Tryz.underlying63 (.bool false) (zeroB' _) d hdz
      have HF := Lib.hid hf; have HF1 := Lib.hid hf1; have HF2 := Lib.hid hf2
      have hbel := HC.out.r3.bel
      have HB := Lib.hid hbel; have hbs := hbel.size
      have h0d : decide ((0 : Int) < (N : Int)) = true := by simp; omega
      clear hw hl hN hlt hcap hcell hfirst hft hl1 hsrch hdz hsz hf hf1 hf2 hd hbel hul
      have hr3 : Rows3 w (.slice (some ⟨g, 0, none⟩) (N - 1) uc) l (.slice fa fm fc) found (.slice ma mm mc) missing wr :=
        ⟨HB.out, by rw [← HL1.out]; exact HFI.out, HC.out.r3.of_, HC.out.r3.om, HC.out.r3.d1, HC.out.r3.d2, HC.out.r3.d3⟩
      have HR3 := Lib.hid hr3; clear hr3
      have hNl : N - 1 + 1 = N := by omega
      by_cases hseen : d ∈ found ∨ d ∈ missing
      · rw [HF1.out d hseen, Option.getD_some] at hlk
        have hsk := HSR.out.skip hseen
        have HSK := Lib.hid hsk; clear hsk hseen
        go_wp2_with fail
        go_roundg (gk - 1)
        case measure => omega
        case rel => exact ⟨found, missing, l, ⟨HR3.out, HSK.out, ⟨f, HF.out, HF1.out, HF2.out⟩, HC.out.mge, HSZ.out⟩, by omega⟩
      · rw [HF2.out d hseen, Option.getD_none] at hlk
        have HSEEN := Lib.hid hseen; clear hseen
        cases hgd : S.get d with
        | none =>
          have hsr := HSR.out.miss (fun e => HSEEN.out (.inr e)) hgd
          have HSR2 := Lib.hid hsr; have HGD := Lib.hid hgd; clear hsr hgd
          go_wp2_with (first
            | (at_mapUpdate; go_must (refine wp_upd rfl _ _ _ 63 4 rfl Tryz.underlying63 HF.out (by unfold maxLen; omega) rfl d (.bool true) rfl rfl HDZ.out ?_); intro w4 hm4 hg4
               have hr4 := HR3.out.map HF.out HC.out.mge hg4
               have hs4 := HS.out.below hr4.bel
               have s0 := hs4.self.cell 0
               simp only [List.getElem?_toArray, List.getElem?_cons_zero, List.getElem?_cons_succ] at s0
               have hl2 := hs4.look_none HGD.out HDZ.out
               have hb6 : Below w4.heap.size w4 ((w4.alloc (.cells #[.int .i64 0, .slice none 0 0, .string ⟨#[]⟩] 24)).alloc (.cells #[.string d] 9)) := ((Below.refl _ _).alloc (Nat.le_refl _) _).alloc (by simp) _
               have HR6 := Lib.hid (hr4.under hb6)
               have HM6 := Lib.hid (hm4.below hb6 hm4.lt)
               have c6 : ((w4.alloc (.cells #[.int .i64 0, .slice none 0 0, .string ⟨#[]⟩] 24)).alloc (.cells #[.string d] 9)).cell? ⟨w4.heap.size + 1, 0, none⟩ = some (.string d) := (At.new1 w4 _ 9 #[.string d]).cell 0
               have C6 := Lib.hid c6
               have HS6 := Lib.hid (hr4.under hb6).bel.size
               clear hm4 hg4 hr4 hs4 hlk hb6 c6)
            | (at_builtin; refine wp_push_str rfl _ _ rfl w.heap.size missing.length (.slice ma mm mc) (missing.map Value.string) rfl HR6.out.om (w4.heap.size + 1) 1 d rfl C6.out (by omega) HS6.out ?_; intro v7 w7 ho7 hg7 hb7
               have HR7 := Lib.hid (HR6.out.toM hg7 ho7 hb7)
               have HM7 := Lib.hid (HM6.out.row HR6.out.om hg7)
               clear ho7 hg7 hb7))
          go_roundg (gk - 1)
          case measure => omega
          case rel =>
            refine ⟨found, missing ++ [d], l, ⟨HR7.out, HSR2.out, ⟨_, by rw [List.length_append, List.length_singleton]; exact HM7.out, fun k hk => ?_, fun k hk => ?_⟩, HC.out.mge, HSZ.out⟩, by omega⟩
            · unfold fput
              by_cases e : d = k
              · rw [if_pos e]
              · rw [if_neg e]
                refine HF1.out k (hk.imp id fun h => ?_)
                rcases List.mem_append.1 h with h | h
                · exact h
                · rw [List.mem_singleton] at h; exact absurd h.symm e
            · unfold fput
              rw [if_neg (fun e => hk (.inr (by simp [e])))]
              exact HF2.out k (fun h => hk (h.imp id fun h => by simp [h]))
        | some o =>
          have hrl := (okO_parts (HS.out.good d o hgd)).2.2.1
          have hrz := (okO_parts (HS.out.good d o hgd)).2.2.2.2
          have hsr := HSR.out.hit (fun e => HSEEN.out (.inl e)) hgd hrl
          have hop := Store.open_add hgd (fun e => HSEEN.out (.inl e))
          obtain ⟨fs, hfs, hfsm⟩ := HS.out.map_
          have hfd := hfsm d
          rw [hgd] at hfd
          obtain ⟨sv, e1, e2, _⟩ := hfd
          obtain ⟨sa, sc, rfl⟩ := e2.len
          have HSR2 := Lib.hid hsr; have HFS := Lib.hid hfs; have HE1 := Lib.hid e1; have HE2 := Lib.hid e2; have HRZ := Lib.hid hrz; clear hsr hgd hfs hfsm e1 e2 hrz
          go_wp2_with (first
            | (at_mapUpdate; go_must (refine wp_upd rfl _ _ _ 63 4 rfl Tryz.underlying63 HF.out (by unfold maxLen; omega) rfl d (.bool true) rfl rfl HDZ.out ?_); intro w4 hm4 hg4
               have hr4 := HR3.out.map HF.out HC.out.mge hg4
               have hs4 := HS.out.below hr4.bel
               have s0 := hs4.self.cell 0
               simp only [List.getElem?_toArray, List.getElem?_cons_zero, List.getElem?_cons_succ] at s0
               have hl2 := (HFS.out.below hr4.bel HFS.out.lt).run_look_ok Tryz.underlying94 _ (zeroO _) d HDZ.out
               rw [HE1.out] at hl2
               simp only [Option.getD_some, Option.isSome_some, objV] at hl2
               have hb6 : Below w4.heap.size w4 ((w4.alloc (.cells #[.int .i64 o.kind, .slice sa o.refs.length sc, .string o.data] 24)).alloc (.cells #[.string d] 9)) := ((Below.refl _ _).alloc (Nat.le_refl _) _).alloc (by simp) _
               have HR6 := Lib.hid (hr4.under hb6)
               have HM6 := Lib.hid (hm4.below hb6 hm4.lt)
               have HBX6 := Lib.hid ((At.new w4 24 #[.int .i64 o.kind, .slice sa o.refs.length sc, .string o.data]).alloc (.cells #[.string d] 9))
               have c6 : ((w4.alloc (.cells #[.int .i64 o.kind, .slice sa o.refs.length sc, .string o.data] 24)).alloc (.cells #[.string d] 9)).cell? ⟨w4.heap.size + 1, 0, none⟩ = some (.string d) := (At.new1 w4 _ 9 #[.string d]).cell 0
               have C6 := Lib.hid c6
               have HS6 := Lib.hid (hr4.under hb6).bel.size
               clear hm4 hg4 hr4 hs4 hlk hb6 c6)
            | (at_builtin; refine wp_push_str rfl _ _ rfl w.heap.size found.length (.slice fa fm fc) (found.map Value.string) rfl HR6.out.of_ (w4.heap.size + 1) 1 d rfl C6.out (by omega) HS6.out ?_; intro v7 w7 ho7 hg7 hb7
               have HR7 := Lib.hid (HR6.out.toF hg7 ho7 hb7)
               have HM7 := Lib.hid (HM6.out.row HR6.out.of_ hg7)
               have hbx7 := HBX6.out.grown hg7 (Ne.symm (HBX6.out.own_ne HR6.out.of_ (by decide)))
               have b1 := hbx7.cell 1
               simp only [List.getElem?_toArray, List.getElem?_cons_zero, List.getElem?_cons_succ] at b1
               clear ho7 hg7 hb7 hbx7)
            | (at_builtin; refine wp_append_strs_at rfl _ _ rfl w.heap.size l.length (.slice (some ⟨g, 0, none⟩) (N - 1) uc) (l.map Value.string) rfl HR7.out.ow (.slice sa o.refs.length sc) o.refs rfl (HE2.out.below HR7.out.bel) (by omega) HR7.out.bel.size ?_; intro v8 w8 ho8 hg8 hb8
               have HR8 := Lib.hid (HR7.out.toW hg8 ho8 hb8)
               have HM8 := Lib.hid (HM7.out.row HR7.out.ow hg8)
               clear ho8 hg8 hb8))
          go_roundg (gk - 1)
          case measure => omega
          case rel =>
            refine ⟨found ++ [d], missing, l ++ o.refs, ⟨HR8.out, HSR2.out, ⟨_, by rw [List.length_append, List.length_singleton, show found.length + 1 + missing.length = found.length + missing.length + 1 by omega]; exact HM8.out, fun k hk => ?_, fun k hk => ?_⟩, HC.out.mge, fun k hk => ?_⟩, by rw [List.length_append]; omega⟩
            · unfold fput
              by_cases e : d = k
              · rw [if_pos e]
              · rw [if_neg e]
                refine HF1.out k (hk.imp (fun h => ?_) id)
                rcases List.mem_append.1 h with h | h
                · exact h
                · rw [List.mem_singleton] at h; exact absurd h.symm e
            · unfold fput
              rw [if_neg (fun e => hk (.inl (by simp [e])))]
              exact HF2.out k (fun h => hk (h.imp (fun h => by simp [h]) id))
            · rcases List.mem_append.1 hk with hk | hk
              · exact HSZ.out k hk
              · have := HRZ.out k hk
                unfold maxLen
                omega
    · have hw0 : work = [] := List.eq_nil_of_length_eq_zero (by omega)
      have hum : um = 0 := by omega
      have hsr := HC.out.srch
      rw [hw0] at hsr
      have hfin := hsr.fin
      have HSR := Lib.hid hsr; have HFIN := Lib.hid hfin
      have hfl : found.length + missing.length ≤ 1500000 := by have := hsr.b; omega
      have h0d : decide ((0 : Int) < (um : Int)) = false := by simp; omega
      have n0 : ¬ 0 < um := by omega
      clear hw0 hum hsr hfin h0
      go_wp2_with fail
      refine (sort_any w.heap.size (.slice fa fm fc) found _ HC.out.r3.of_ (by omega)).mono ?_
      rintro e w3 ⟨rfl, ho3, hg3⟩
      have hom3 := HC.out.r3.d3.keep HC.out.r3.om hg3
      have hbe3 := below_own HC.out.r3.bel HC.out.r3.bel.size HC.out.r3.of_ hg3
      have HO3 := Lib.hid ho3; have HOM3 := Lib.hid hom3; have HBE3 := Lib.hid hbe3; clear ho3 hg3 hom3 hbe3
      go_wp2_with fail
      refine (sort_any w.heap.size (.slice ma mm mc) missing _ HOM3.out (by omega)).mono ?_
      rintro e w4 ⟨rfl, ho4, hg4⟩
      have hof4 := HC.out.r3.d3.symm.keep HO3.out hg4
      have hbe4 := below_own HBE3.out HBE3.out.size HOM3.out hg4
      have HO4 := Lib.hid ho4; have HOF4 := Lib.hid hof4; have HBE4 := Lib.hid hbe4; clear ho4 hg4 hof4 hbe4
      go_wp2_with fail
      go_ret2
      refine ⟨_, _, sortB found, sortB missing, rfl, HOF4.out, HO4.out, HC.out.r3.d3, sortB_incr HSR.out.nf, sortB_incr HSR.out.nm, fun k => ?_, fun k => ?_, HBE4.out⟩
      · rw [sortB_mem]
        constructor
        · intro hk
          obtain ⟨⟨o, ho⟩, hr⟩ := HSR.out.f k hk
          exact ⟨hr, by rw [ho]; rfl⟩
        · rintro ⟨hr, hs⟩
          rcases (HFIN.out k).1 hr with h | h
          · exact h
          · rw [(HSR.out.m k h).1] at hs; cases hs
      · rw [sortB_mem]
        constructor
        · intro hk
          obtain ⟨ho, hr⟩ := HSR.out.m k hk
          exact ⟨hr, by rw [ho]; rfl⟩
        · rintro ⟨hr, hs⟩
          rcases (HFIN.out k).1 hr with h | h
          · obtain ⟨⟨o, ho⟩, _⟩ := HSR.out.f k h
            rw [ho] at hs; cases hs
          · exact h
end Go.Proofs.YtjlpdknomdhbhaaGreatDoor
