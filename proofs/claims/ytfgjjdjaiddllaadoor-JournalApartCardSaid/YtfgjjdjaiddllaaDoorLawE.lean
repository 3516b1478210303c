/- Two journals on one disk, each with a growing slice of strings; what is read of all pages. No condition. -/
import Derived.Test.YtfgjjdjaiddllaaDoorLawD
namespace Go.Proofs.YtfgjjdjaiddllaaDoor
set_option linter.unusedVariables false
set_option linter.unusedSimpArgs false
open Go Go.RowKit Go.Maps
theorem StrsC.cell_at {w : World} {b o n c k : Nat} {xs : List ByteArray} (h : StrsC w (.slice (some ⟨b, o, none⟩) n c) xs) (hk : k < xs.length) : w.cell? ⟨b, o + k, none⟩ = some (.string (xs.getD k ⟨#[]⟩)) := by
  obtain ⟨a', c', he', h0 | ⟨b', o', e', hc'⟩⟩ := h
  · omega
  · cases he'
    cases e'
    exact hc' k hk
theorem StrsC.addr {w : World} {a : Option Addr} {n c k : Nat} {xs : List ByteArray} (h : StrsC w (.slice a n c) xs) (hk : k < xs.length) : ∃ b o, a = some ⟨b, o, none⟩ := by
  obtain ⟨a', c', he', h0 | ⟨b', o', e', hc'⟩⟩ := h
  · omega
  · cases he'
    exact ⟨b', o', e'⟩
/-- A journal on a disk and a growing slice of strings beside it. -/
structure Side (w0 : World) (V : Value) (xs : List ByteArray) (w : World) (j : Jour) (d : DiskP) (c : DiskC) : Prop where
  live : Live w j d c
  rows : w.ownsRow w0.heap.size 9 1 V xs.length (xs.map Value.string)
  out : ∀ k, V.ownBlock = some k → Out w j d k
  jup : ∀ k, j.foot k → w0.heap.size ≤ k
/-- Two such, apart. -/
structure Tw (w0 : World) (P Q : Value) (xs ys : List ByteArray) (w : World) (x y : Jour) (d : DiskP) (c : DiskC) : Prop where
  sx : Side w0 P xs w x d c
  sy : Side w0 Q ys w y d c
  apart : ∀ k, x.foot k → ¬ y.foot k
  px : ∀ k, P.ownBlock = some k → ¬ y.foot k ∧ Q.ownBlock ≠ some k
  qx : ∀ k, Q.ownBlock = some k → ¬ x.foot k
  dup : ∀ k, d.foot k → w0.heap.size ≤ k
  below : Below w0.heap.size w0 w
section
variable {w0 w w1 w2 w' : World} {P Q v' : Value} {xs ys xs' : List ByteArray} {x y x' : Jour} {d d' : DiskP} {c c' : DiskC}
theorem Tw.swap (h : Tw w0 P Q xs ys w x y d c) : Tw w0 Q P ys xs w y x d c :=
  ⟨h.sy, h.sx, fun k hk hx => h.apart k hx hk, fun k hk => ⟨h.qx k hk, fun hp => (h.px k hp).2 hk⟩, fun k hk => (h.px k hk).1, h.dup, h.below⟩
/-- The first journal takes a step. -/
theorem Tw.step (h : Tw w0 P Q xs ys w x y d c) (hs : JDStep w w' x x' d d' c') (hl : Live w' x' d' c') (hy : Holds y c') (hq : Calm c') (hz : Sized c') (hin : y.first + y.count ≤ c'.durable.length) : Tw w0 P Q xs ys w' x' y d' c' := by
  obtain ⟨h1, h2, h3⟩ := hs.above h.sx.jup h.dup h.below.size
  have hyk : ∀ k, y.foot k → w'.heap[k]? = w.heap[k]? := fun k hk => hs.fr.keep k (h.sy.live.jd.jour.lt k hk) (fun hf => hf.elim (fun hx => h.apart k hx hk) (fun hd => h.sy.live.jd.apart k hk hd))
  have hyd : ∀ k, y.foot k → ¬ d'.foot k := fun k hk hd => by
    rcases hs.footd k hd with h4 | h4
    · exact h.sy.live.jd.apart k hk h4
    · have := h.sy.live.jd.jour.lt k hk; omega
  have hyx : ∀ k, x'.foot k → ¬ y.foot k := fun k hk hy => by
    rcases hs.footj k hk with h4 | h4
    · exact h.apart k h4 hy
    · have := h.sy.live.jd.jour.lt k hy; omega
  have hqo : ∀ k, Q.ownBlock = some k → Out w x d k := fun k hk => ⟨(h.sy.out k hk).1, h.qx k hk, (h.sy.out k hk).2.2⟩
  refine ⟨⟨hl, own_keep h.sx.rows (fun k hk => (hs.out (h.sx.out k hk)).2), fun k hk => (hs.out (h.sx.out k hk)).1, h1⟩, ⟨⟨⟨h.sy.live.jd.jour.keep hyk, hl.jd.disk, ?_, hyd, hin⟩, hy, hq, hz, h.sy.live.chain, h.sy.live.epoch⟩, own_keep h.sy.rows (fun k hk => (hs.out (hqo k hk)).2), fun k hk => ?_, h.sy.jup⟩, hyx, h.px, fun k hk => (hs.out (hqo k hk)).1.2.1, h2, h.below.trans h3⟩
  · rw [hs.a]; exact h.sy.live.jd.da
  · exact ⟨(hs.out (hqo k hk)).1.1, (h.sy.out k hk).2.1, (hs.out (hqo k hk)).1.2.2⟩
theorem Tw.under (h : Tw w0 P Q xs ys w x y d c) (hb : Below w.heap.size w w') : Tw w0 P Q xs ys w' x y d c :=
  h.step (h.sx.live.jd.below hb) (h.sx.live.below hb) h.sy.live.holds h.sy.live.calm h.sy.live.sized h.sy.live.jd.inn
/-- The disk alone takes a step. -/
theorem Tw.disked (h : Tw w0 P Q xs ys w x y d c) (hs : DStep w w' d d' c) : Tw w0 P Q xs ys w' x y d' c :=
  h.step (h.sx.live.disked hs).2 (h.sx.live.disked hs).1 h.sy.live.holds h.sy.live.calm h.sy.live.sized h.sy.live.jd.inn
/-- The first slice grows. -/
theorem Tw.grow (h : Tw w0 P Q xs ys w x y d c) (hb : Below w.heap.size w w1) (hg : w1.grownBy w2 P.ownBlock) (how : w2.ownsRow w0.heap.size 9 1 v' xs'.length (xs'.map Value.string))
    (hv : v'.ownBlock = P.ownBlock ∨ ∃ g, v'.ownBlock = some g ∧ w.heap.size ≤ g) : Tw w0 v' Q xs' ys w2 x y d c := by
  have hf : Fr (fun k => P.ownBlock = some k) w w2 := (Fr.of_below hb).grown hg (fun k hk => .inl hk)
  have hup : ∀ k, P.ownBlock = some k → w0.heap.size ≤ k := by
    intro k hk
    obtain ⟨_, ⟨rfl, _⟩ | ⟨g, cap, cur, rfl, hg, _⟩⟩ := h.sx.rows
    · cases hk
    · have : g = k := by
        have hk' : some g = some k := hk
        simpa using hk'
      omega
  have hlt : ∀ k, v'.ownBlock = some k → k < w2.heap.size := fun k hk => by obtain ⟨cur, hc⟩ := own_at how hk; exact hc.lt
  have hnew : ∀ k, v'.ownBlock = some k → P.ownBlock = some k ∨ w.heap.size ≤ k := by
    intro k hk
    rcases hv with hv | ⟨g, hv, hgl⟩
    · exact .inl (hv.symm.trans hk)
    · have : g = k := by rw [hv] at hk; simpa using hk
      exact .inr (by omega)
  have hql : ∀ k, Q.ownBlock = some k → k < w.heap.size := fun k hk => (h.sy.out k hk).1
  refine ⟨⟨h.sx.live.fr hf (fun k hk => (h.sx.out k hk).2), how, fun k hk => ⟨hlt k hk, ?_⟩, h.sx.jup⟩, ⟨h.sy.live.fr hf (fun k hk => ⟨(h.px k hk).1, (h.sx.out k hk).2.2⟩), own_keep h.sy.rows (fun k hk => hf.keep k (hql k hk) (fun hp => (h.px k hp).2 hk)), fun k hk => ⟨Nat.lt_of_lt_of_le (hql k hk) hf.size, (h.sy.out k hk).2⟩, h.sy.jup⟩, h.apart, fun k hk => ?_, h.qx, h.dup, h.below.trans (hf.below h.below.size hup)⟩
  · rcases hnew k hk with h1 | h1
    · exact (h.sx.out k h1).2
    · exact ⟨fun hj => by have := h.sx.live.jd.jour.lt k hj; omega, fun hd => by have := h.sx.live.jd.disk.lt k hd; omega⟩
  · rcases hnew k hk with h1 | h1
    · exact h.px k h1
    · exact ⟨fun hj => by have := h.sy.live.jd.jour.lt k hj; omega, fun hq => by have := hql k hq; omega⟩
end
/-- Two journals have been opened on a disk. -/
theorem Tw.make {w0 w w1 w2 : World} {L : Blocks} {x y : Jour} {d : DiskP} {c : DiskC} (h : Dk w0 L w d c) (hx : Live w1 x d c) (hb1 : Below w.heap.size w w1) (hxf : ∀ k, x.foot k → w.heap.size ≤ k) (hy : Live w2 y d c) (hb2 : Below w1.heap.size w1 w2) (hyf : ∀ k, y.foot k → w1.heap.size ≤ k) :
    Tw w0 (.slice none 0 0) (.slice none 0 0) [] [] w2 x y d c :=
  ⟨⟨hx.below hb2, ⟨rfl, .inl ⟨rfl, rfl⟩⟩, (fun k hk => by cases hk), fun k hk => Nat.le_trans h.below.size (hxf k hk)⟩, ⟨hy, ⟨rfl, .inl ⟨rfl, rfl⟩⟩, (fun k hk => by cases hk), fun k hk => Nat.le_trans h.below.size (Nat.le_trans hb1.size (hyf k hk))⟩,
    (fun k hk hk2 => by have := hx.jd.jour.lt k hk; have := hyf k hk2; omega), (fun k hk => by cases hk), (fun k hk => by cases hk), h.dup, h.below.trans ((hb1.trans (hb2.mono hb1.size)).mono h.below.size)⟩
/-- Two regions that do not overlap, and two pages in neither. -/
structure Geo (f1 n1 f2 n2 N z1 z2 : Nat) : Prop where
  part : f1 + n1 ≤ f2 ∨ f2 + n2 ≤ f1
  in1 : f1 + n1 ≤ N
  in2 : f2 + n2 ≤ N
  z1n : z1 < N
  z2n : z2 < N
  z11 : z1 < f1 ∨ f1 + n1 ≤ z1
  z12 : z1 < f2 ∨ f2 + n2 ≤ z1
  z21 : z2 < f1 ∨ f1 + n1 ≤ z2
  z22 : z2 < f2 ∨ f2 + n2 ≤ z2
theorem Geo.swap {f1 n1 f2 n2 N z1 z2 : Nat} (g : Geo f1 n1 f2 n2 N z1 z2) : Geo f2 n2 f1 n1 N z1 z2 := ⟨g.part.symm, g.in2, g.in1, g.z1n, g.z2n, g.z12, g.z11, g.z22, g.z21⟩
/-- The two journals in their regions; two pages are blank. -/
structure Ap (w0 : World) (f1 n1 f2 n2 N z1 z2 X Y D : Nat) (P Q : Value) (xs ys : List ByteArray) (w : World) (x y : Jour) (d : DiskP) (c : DiskC) : Prop where
  tw : Tw w0 P Q xs ys w x y d c
  xj : x.jb = X
  yj : y.jb = Y
  da : d.a = D
  xf : x.first = f1
  xn : x.count = n1
  xe : x.epoch = 1
  yf : y.first = f2
  yn : y.count = n2
  ye : y.epoch = 1
  len : c.durable.length = N
  b1 : c.read z1 = (⟨#[]⟩, 0)
  b2 : c.read z2 = (⟨#[]⟩, 0)
section
variable {w0 w w1 w2 w' : World} {f1 n1 f2 n2 N z1 z2 X Y D : Nat} {P Q v' : Value} {xs ys xs' : List ByteArray} {x y x' : Jour} {d d' : DiskP} {c c' : DiskC} {s : ByteArray}
theorem Ap.swap (h : Ap w0 f1 n1 f2 n2 N z1 z2 X Y D P Q xs ys w x y d c) : Ap w0 f2 n2 f1 n1 N z1 z2 Y X D Q P ys xs w y x d c :=
  ⟨h.tw.swap, h.yj, h.xj, h.da, h.yf, h.yn, h.ye, h.xf, h.xn, h.xe, h.len, h.b1, h.b2⟩
theorem Ap.under (h : Ap w0 f1 n1 f2 n2 N z1 z2 X Y D P Q xs ys w x y d c) (hb : Below w.heap.size w w') : Ap w0 f1 n1 f2 n2 N z1 z2 X Y D P Q xs ys w' x y d c :=
  ⟨h.tw.under hb, h.xj, h.yj, h.da, h.xf, h.xn, h.xe, h.yf, h.yn, h.ye, h.len, h.b1, h.b2⟩
theorem Ap.stepped (h : Ap w0 f1 n1 f2 n2 N z1 z2 X Y D P Q xs ys w x y d c) (hs : JDStep w w' x x' d d' c') (hl : Live w' x' d' c') (hy : Holds y c') (hlen : c'.durable.length = N) (h1 : c'.read z1 = c.read z1) (h2 : c'.read z2 = c.read z2) (g : Geo f1 n1 f2 n2 N z1 z2) :
    Ap w0 f1 n1 f2 n2 N z1 z2 X Y D P Q xs ys w' x' y d' c' :=
  ⟨h.tw.step hs hl hy hl.calm hl.sized (by rw [hlen, h.yf, h.yn]; exact g.in2), hs.jb.trans h.xj, h.yj, hs.a.trans h.da, hs.first.trans h.xf, hs.count.trans h.xn, hs.epoch.trans h.xe, h.yf, h.yn, h.ye, hlen, h1.trans h.b1, h2.trans h.b2⟩
/-- The first journal's record has been written. -/
theorem Ap.wrote (h : Ap w0 f1 n1 f2 n2 N z1 z2 X Y D P Q xs ys w x y d c) (g : Geo f1 n1 f2 n2 N z1 z2) (hs : JDStep w w' x x' d d' (after x s c)) (hl : Live w' x' d' (after x s c)) (hsz : s.size ≤ 65536) (hfit : pagesOf s.size ≤ (x.count : Int) - x.next) :
    Ap w0 f1 n1 f2 n2 N z1 z2 X Y D P Q xs ys w' x' y d' (after x s c) := by
  have hp := h.tw.sx.live.calm.pend
  have hlen : (after x s c).durable.length = N := by rw [after_durable]; exact h.len
  have hother : ∀ q : Nat, q < N → (q < f1 ∨ f1 + n1 ≤ q) → (after x s c).read q = c.read q := fun q hq ho =>
    after_other hp hsz q (by rw [h.len]; exact hq) (by have e1 := h.xf; have e2 := h.xn; omega)
  refine h.stepped hs hl (h.tw.sy.live.holds.read h.tw.sy.live.jd.jour.next (fun i hi => ?_)) hlen (hother z1 g.z1n g.z11) (hother z2 g.z2n g.z21) g
  have e1 := h.yf; have e2 := h.yn; have := g.in2; have := g.part
  exact hother (y.first + i) (by omega) (by omega)
theorem Ap.full (h : Ap w0 f1 n1 f2 n2 N z1 z2 X Y D P Q xs ys w x y d c) (g : Geo f1 n1 f2 n2 N z1 z2) (hs : JDStep w w' x x' d d' c) (hl : Live w' x' d' c) : Ap w0 f1 n1 f2 n2 N z1 z2 X Y D P Q xs ys w' x' y d' c :=
  h.stepped hs hl h.tw.sy.live.holds h.len rfl rfl g
theorem Ap.grow (h : Ap w0 f1 n1 f2 n2 N z1 z2 X Y D P Q xs ys w x y d c) (hb : Below w.heap.size w w1) (hg : w1.grownBy w2 P.ownBlock) (how : w2.ownsRow w0.heap.size 9 1 v' xs'.length (xs'.map Value.string))
    (hv : v'.ownBlock = P.ownBlock ∨ ∃ g, v'.ownBlock = some g ∧ w.heap.size ≤ g) : Ap w0 f1 n1 f2 n2 N z1 z2 X Y D v' Q xs' ys w2 x y d c :=
  ⟨h.tw.grow hb hg how hv, h.xj, h.yj, h.da, h.xf, h.xn, h.xe, h.yf, h.yn, h.ye, h.len, h.b1, h.b2⟩
end
theorem blank_read0 (n p : Nat) (h : p < n) : (DiskC.blank n).read p = (⟨#[]⟩, 0) := by
  have h1 := blank_read n p
  have h2 : ((DiskC.blank n).read p).2 = 0 := by
    unfold DiskC.read DiskC.blank
    simp [h, lastIdx, torn]
  exact Prod.ext h1 h2
theorem own_up {w : World} {base n size : Nat} {e : TypeId} {v : Value} {xs : List Value} (h : w.ownsRow base e size v n xs) : ∀ k, v.ownBlock = some k → base ≤ k := by
  intro k hk
  obtain ⟨_, ⟨rfl, _⟩ | ⟨g, cap, cur, rfl, hg, _⟩⟩ := h
  · cases hk
  · have : g = k := by
      have hk' : some g = some k := hk
      simpa using hk'
    omega
/-- What image makes of a page. -/
def seen (c : DiskC) (i : Nat) : ByteArray := if (c.read i).2 = 0 then (c.read i).1 else ⟨#[33]⟩
set_option maxRecDepth 100000 in
set_option maxHeartbeats 2000000 in
theorem image_any (d : DiskP) (c : DiskC) (w : World) (hp : c.pending.length ≤ 1000000) (hn : c.durable.length ≤ 1000000) (h : DiskAt w d c) :
    Calls Tryd.prog 24 #[.pointer (some ⟨d.a, 0, none⟩)] w fun e w' => ∃ v, e = .returned v ∧ StrsC w' v ((List.range c.durable.length).map (seen c)) ∧ Below w.heap.size w w' := by
  obtain ⟨N, hN⟩ : ∃ N, N = c.durable.length := ⟨_, rfl⟩
  rw [← hN] at hn ⊢
  have HN := Lib.hid hN; have HD := Lib.hid h; clear h hN
  go_enter Tryd.func24, Tryd.ntmps24
  go_wp2_with fail
  refine (dPages_any d _ _ HD.out).mono ?_
  rintro e1 w1 ⟨rfl, rfl⟩
  rw [← HN.out]
  go_wp2_with fail
  go_loopw [3, 9] (fun out i wr => ∃ k : Nat, k ≤ N ∧ i = .int .i64 k ∧ wr.ownsRow w1.heap.size 9 1 out k (((List.range k).map (seen c)).map Value.string) ∧ Below w1.heap.size w1 wr) (fun _ i _ => N - (intOf i).toNat)
  case atStart => exact ⟨0, by omega, rfl, ⟨rfl, .inl ⟨rfl, rfl⟩⟩, Below.refl _ _⟩
  case round =>
    obtain ⟨k, hk, rfl, hrows, hb⟩ := hrel
    by_cases hlt : k < N
    · have dk : decide ((k : Int) < N) = true := by simp; omega
      have HROWS := Lib.hid hrows; have HB := Lib.hid hb
      have HDD := Lib.hid (HD.out.below hb (Nat.le_refl _)); clear hrows hb
      go_wp2_with fail
      refine (dRead_any d c k _ hp HDD.out).mono ?_
      rintro e2 w2 ⟨rfl, rfl⟩
      by_cases hz : (c.read k).2 = 0
      · have dz : ((c.read k).2 == 0) = true := by simp [hz]
        have dz2 : decide ((c.read k).2 = 0) = true := by simp [hz]
        obtain ⟨i1, hi, hz0, hz1, hz2⟩ := info_parts info_str
        go_wp2_with (at_builtin; go_must (refine wpList_append_own_at _ rfl _ _ 22 rfl w1.heap.size 9 i1 _ 1 16 Tryd.underlying22 hi hz0 hz1 hz2 rfl (by omega) _ k (((List.range k).map (seen c)).map Value.string) rfl (HROWS.out.alloc _) ⟨w2.heap.size, 0, none⟩ 1 1 [.string (c.read k).1] rfl rfl ?c1 ?c2 ?c3 ?c4 ?c5 ?_))
        case c1 =>
          intro j u hj
          match j, hj with
          | 0, hj => simp at hj; subst hj; simp [Addr.add]
        case c2 => intro u hu; simp at hu; subst hu; rfl
        case c3 => unfold maxLen; omega
        case c4 => omega
        case c5 => have := HB.out.size; simp; omega
        intro v2 w15 how hg _ hb'
        have hb15 : Below w1.heap.size w1 w15 := (HB.out.alloc HB.out.size _).grown hg (HB.out.alloc HB.out.size _).size (own_up HROWS.out)
        obtain ⟨g2, cap2, rfl, _⟩ := own_cell how (by omega)
        have HB15 := Lib.hid hb15; have HOW := Lib.hid how; clear how hg hb' hb15
        go_wp2_with fail
        refine ⟨⟨k + 1, by omega, by go_num, ?_, HB15.out⟩, by simp [intOf]; omega⟩
        rw [List.range_succ, List.map_append, List.map_append]
        have e : seen c k = (c.read k).1 := by unfold seen; simp [hz]
        simp only [List.map_cons, List.map_nil, e, List.map_map]
        exact HOW.out
      · have dz : ((c.read k).2 == 0) = false := by simp [hz]
        have dz2 : decide ((c.read k).2 = 0) = false := by simp [hz]
        obtain ⟨i1, hi, hz0, hz1, hz2⟩ := info_parts info_str
        go_wp2_with (at_builtin; go_must (refine wpList_append_own_at _ rfl _ _ 22 rfl w1.heap.size 9 i1 _ 1 16 Tryd.underlying22 hi hz0 hz1 hz2 rfl (by omega) _ k (((List.range k).map (seen c)).map Value.string) rfl (HROWS.out.alloc _) ⟨w2.heap.size, 0, none⟩ 1 1 [.string (⟨#[33]⟩ : ByteArray)] rfl rfl ?c1 ?c2 ?c3 ?c4 ?c5 ?_))
        case c1 =>
          intro j u hj
          match j, hj with
          | 0, hj => simp at hj; subst hj; simp [Addr.add]
        case c2 => intro u hu; simp at hu; subst hu; rfl
        case c3 => unfold maxLen; omega
        case c4 => omega
        case c5 => have := HB.out.size; simp; omega
        intro v2 w15 how hg _ hb'
        have hb15 : Below w1.heap.size w1 w15 := (HB.out.alloc HB.out.size _).grown hg (HB.out.alloc HB.out.size _).size (own_up HROWS.out)
        obtain ⟨g2, cap2, rfl, _⟩ := own_cell how (by omega)
        have HB15 := Lib.hid hb15; have HOW := Lib.hid how; clear how hg hb' hb15
        go_wp2_with fail
        refine ⟨⟨k + 1, by omega, by go_num, ?_, HB15.out⟩, by simp [intOf]; omega⟩
        rw [List.range_succ, List.map_append, List.map_append]
        have e : seen c k = (⟨#[33]⟩ : ByteArray) := by unfold seen; simp [hz]
        simp only [List.map_cons, List.map_nil, e, List.map_map]
        exact HOW.out
    · have dk : decide ((k : Int) < N) = false := by simp; omega
      have hk' : k = N := by omega
      subst hk'
      have HROWS := Lib.hid hrows; have HB := Lib.hid hb; clear hrows hb
      go_wp2_with fail
      go_ret
      exact ⟨_, rfl, StrsC.own (by rw [List.length_map, List.length_range]; exact HROWS.out), HB.out⟩
end Go.Proofs.YtfgjjdjaiddllaaDoor
