/- The program's journal, what Open reads: the plain law's side and the loop's invariant. Condition: those of the invariant. -/
import Derived.Test.YtfgjjdjaiddllaaDoorJourE
import Derived.Test.YtfgjjdjaiddllaaDoorBld
namespace Go.Proofs.YtfgjjdjaiddllaaDoor
set_option linter.unusedVariables false
set_option linter.unusedSimpArgs false
open Go Go.RowKit Go.Maps
/-- What Open has gathered. -/
structure OSt where
  open_ : List Pg
  recs : List ByteArray
  next : Nat
  jch : ByteArray
def catL (l : List Pg) : List UInt8 := l.flatMap fun p => p.data.data.toList
def catPg (l : List Pg) : ByteArray := ⟨(catL l).toArray⟩
theorem catL_take (l : List Pg) (m : Nat) (h : m < l.length) : catL (l.take (m + 1)) = catL (l.take m) ++ l[m].data.data.toList := by
  unfold catL
  rw [List.take_succ_eq_append_getElem h, List.flatMap_append]
  simp
theorem catL_len (l : List Pg) (h : ∀ q ∈ l, q.data.size ≤ 437) : (catL l).length ≤ 437 * l.length := by
  induction l with
  | nil => exact Nat.zero_le _
  | cons q l ih =>
    have h1 := ih (fun x hx => h x (List.mem_cons_of_mem _ hx))
    have h2 := h q List.mem_cons_self
    have e : catL (q :: l) = q.data.data.toList ++ catL l := rfl
    have h3 : q.data.data.toList.length = q.data.size := Array.length_toList
    rw [e, List.length_append, List.length_cons, h3]
    omega
theorem isBuilderF_alloc {T e : TypeId} {B b : Nat} {bs : List Value} {w : World} (h : Lib.IsBuilderF T e B b bs w) (o : Obj) : Lib.IsBuilderF T e B b bs (w.alloc o) := h.imp (fun h => h.alloc o) (fun h => h.alloc o)
theorem isBuilderF_drew {T e : TypeId} {B b : Nat} {bs : List Value} {w : World} (h : Lib.IsBuilderF T e B b bs w) : Lib.IsBuilderF T e B b bs w.drew := h
theorem grown_of_below {w w' : World} (h : Below w.heap.size w w') : w.grownBy w' none := ⟨h.os, h.tape, h.output, h.size, fun k hk _ => h.block k hk⟩
theorem builderAtF_below {T e : TypeId} {B b : Nat} {p : Value} {bs : List Value} {w w' : World} (h : Lib.BuilderAtF T e B b p bs w) (hb : Below w.heap.size w w') : Lib.BuilderAtF T e B b p bs w' := by
  have hlt := h.lt
  obtain ⟨hB, v, hbk, hown, hne⟩ := h
  exact ⟨hB, v, (hb.block _ hlt).trans hbk, hown.kept (grown_of_below hb) (by cases hv : v.ownBlock <;> simp), hne⟩
theorem isBuilderF_below {T e : TypeId} {B b : Nat} {bs : List Value} {w w' : World} (h : Lib.IsBuilderF T e B b bs w) (hb : Below w.heap.size w w') : Lib.IsBuilderF T e B b bs w' := h.imp (fun h => builderAtF_below h hb) (fun h => builderAtF_below h hb)
theorem byteCells_app (l m : List UInt8) : Lib.byteCells l ++ Lib.byteCells m = Lib.byteCells (l ++ m) := by simp [Lib.byteCells]
theorem bldString_cat (b : Nat) (l : List Pg) (w : World) (h : Lib.IsBuilderF 94 5 b b (Lib.byteCells (catL l)) w) (hBw : b ≤ w.heap.size) :
    Calls Tryd.prog 39 #[.pointer (some ⟨b, 0, none⟩)] w fun e w' => e = .returned (.string (catPg l)) ∧ (Lib.IsBuilderF 94 5 b b (Lib.byteCells (catL l)) w' ∧ Below b w w') := Tryd.Builder_String_any_f b b (catL l) w h hBw
def offDigest (s : OSt) (p : Pg) : Bool := match s.open_ with
  | [] => false
  | q :: _ => q.digest.toList != p.digest.toList
def OSt.step (s : OSt) (p : Pg) : Option OSt :=
  if offDigest s p then none
  else if p.last then (if (Sha.sha (catPg (s.open_ ++ [p]))).toList == p.digest.toList then some ⟨[], s.recs ++ [catPg (s.open_ ++ [p])], s.next + (s.open_ ++ [p]).length, p.check⟩ else none)
  else some { s with open_ := s.open_ ++ [p] }
/-- What Open gathers from page k on, n pages at most; rd reads a page. -/
def opens (epoch : Nat) (rd : Nat → ByteArray × Int) : Nat → Nat → ByteArray → OSt → OSt
  | 0, _, _, s => s
  | n + 1, k, ch, s => if (rd k).2 = 0 then (match parsed epoch (rd k).1 ch with
      | none => s
      | some p => match s.step p with
        | none => s
        | some s' => opens epoch rd n (k + 1) p.check s') else s
def chain0 (epoch : Nat) : ByteArray := Sha.sha (⟨#[9]⟩ ++ big epoch 8)
def OSt.zero (epoch : Nat) : OSt := ⟨[], [], 0, chain0 epoch⟩
def opened (epoch count : Nat) (rd : Nat → ByteArray × Int) : OSt := opens epoch rd count 0 (chain0 epoch) (OSt.zero epoch)
def pgCells (l : List Pg) : List Value := l.flatMap fun p => [.string p.check, .string p.digest, .string p.data, .bool p.last]
theorem pgCells_snoc (l : List Pg) (p : Pg) : pgCells (l ++ [p]) = pgCells l ++ [.string p.check, .string p.digest, .string p.data, .bool p.last] := by simp [pgCells]
theorem pgCells_len (l : List Pg) : (pgCells l).length = l.length * 4 := by
  induction l with
  | nil => rfl
  | cons x l ih => simp only [pgCells, List.flatMap_cons, List.length_append, List.length_cons, List.length_nil] at ih ⊢; omega
theorem pgCells_get (l : List Pg) (i : Nat) (h : i < l.length) : (pgCells l)[i * 4]? = some (.string l[i].check) ∧ (pgCells l)[i * 4 + 1]? = some (.string l[i].digest) ∧ (pgCells l)[i * 4 + 2]? = some (.string l[i].data) ∧ (pgCells l)[i * 4 + 3]? = some (.bool l[i].last) := by
  induction l generalizing i with
  | nil => cases h
  | cons x l ih =>
    match i with
    | 0 => exact ⟨rfl, rfl, rfl, rfl⟩
    | i + 1 =>
      have := ih i (by simpa using h)
      rw [show (i + 1) * 4 = i * 4 + 4 by omega]
      exact this
/-- The worlds between two rounds of Open: b8 and b9 are the boxes of j and of open; d is the loop's first block. -/
structure OpenW (w0 : World) (dp : DiskP) (first count epoch jb b8 b9 d : Nat) (s : OSt) (ov rv : Value) (W : World) : Prop where
  jbox : At W b8 36 #[.pointer (some ⟨jb, 0, none⟩)]
  obox : At W b9 87 #[ov]
  rows : W.ownsRow 0 90 4 ov s.open_.length (pgCells s.open_)
  jour : JourAt W ⟨jb, dp.a, first, count, epoch, rv, s.recs, s.next, s.jch⟩
  hov : ∀ k, ov.ownBlock = some k → d + 1 < k
  hrv : ∀ k, rv.ownBlock = some k → d + 1 < k
  old : Below w0.heap.size w0 W
section
variable {w0 W W' : World} {dp : DiskP} {first count epoch jb b8 b9 d : Nat} {s : OSt} {ov rv : Value}
theorem OpenW.keep (h : OpenW w0 dp first count epoch jb b8 b9 d s ov rv W) (hk : ∀ k, k = jb ∨ k = b8 ∨ k = b9 ∨ ov.ownBlock = some k ∨ rv.ownBlock = some k → W'.heap[k]? = W.heap[k]?) (ho : Below w0.heap.size w0 W') :
    OpenW w0 dp first count epoch jb b8 b9 d s ov rv W' :=
  ⟨h.jbox.keep (hk _ (by simp)), h.obox.keep (hk _ (by simp)), own_keep h.rows (fun k hb => hk k (by simp [hb])), h.jour.keep (fun k hb => hk k (by rcases hb with rfl | hb; simp; simp [show rv.ownBlock = some k from hb])), h.hov, h.hrv, ho⟩
theorem OpenW.lt (h : OpenW w0 dp first count epoch jb b8 b9 d s ov rv W) : ∀ k, k = jb ∨ k = b8 ∨ k = b9 ∨ ov.ownBlock = some k ∨ rv.ownBlock = some k → k < W.heap.size := by
  rintro k (rfl | rfl | rfl | hk | hk)
  · exact h.jour.self.lt
  · exact h.jbox.lt
  · exact h.obox.lt
  · obtain ⟨cur, hc⟩ := own_at h.rows hk; exact hc.lt
  · exact h.jour.lt k (.inr hk)
theorem OpenW.below (h : OpenW w0 dp first count epoch jb b8 b9 d s ov rv W) (hb : Below W.heap.size W W') : OpenW w0 dp first count epoch jb b8 b9 d s ov rv W' :=
  h.keep (fun k hk => hb.block k (h.lt k hk)) (h.old.trans (hb.mono h.old.size))
theorem OpenW.fr (h : OpenW w0 dp first count epoch jb b8 b9 d s ov rv W) (hd : w0.heap.size ≤ d) (hjb : jb ≤ d) (h8 : b8 ≤ d) (h9 : b9 ≤ d) (hb : Fr (fun k => k = d + 1) W W') : OpenW w0 dp first count epoch jb b8 b9 d s ov rv W' :=
  h.keep (fun k hk => hb.keep k (h.lt k hk) (by
    rcases hk with rfl | rfl | rfl | hk | hk
    · omega
    · omega
    · omega
    · have := h.hov k hk; omega
    · have := h.hrv k hk; omega)) ⟨hb.os.trans h.old.os, hb.tape.trans h.old.tape, hb.output.trans h.old.output, Nat.le_trans h.old.size hb.size, fun k hk => (hb.keep k (Nat.lt_of_lt_of_le hk h.old.size) (by omega)).trans (h.old.block k hk)⟩
end
section
variable {w0 W W1 W2 : World} {dp : DiskP} {first count epoch jb b8 b9 d : Nat} {s : OSt} {ov rv v' : Value}
/-- The blocks that a round of Open writes. -/
def openF (jb b9 : Nat) (ov rv : Value) (k : Nat) : Prop := k = jb ∨ k = b9 ∨ ov.ownBlock = some k ∨ rv.ownBlock = some k
theorem openF_far (h : OpenW w0 dp first count epoch jb b8 b9 d s ov rv W) (hjb : jb < d) (h9 : b9 < d) : ¬ openF jb b9 ov rv d ∧ ¬ openF jb b9 ov rv (d + 1) := by
  constructor
  · rintro (e | e | e | e)
    · omega
    · omega
    · have := h.hov _ e; omega
    · have := h.hrv _ e; omega
  · rintro (e | e | e | e)
    · omega
    · omega
    · have := h.hov _ e; omega
    · have := h.hrv _ e; omega
theorem openF_lt (h : OpenW w0 dp first count epoch jb b8 b9 d s ov rv W) {k : Nat} (hk : openF jb b9 ov rv k) : k < W.heap.size :=
  h.lt k (by rcases hk with e | e | e | e <;> simp [e])
theorem OpenW.pushed {p : Pg} (h : OpenW w0 dp first count epoch jb b8 b9 d s ov rv W) (hd : w0.heap.size ≤ d) (h9 : w0.heap.size ≤ b9) (hb : Below W.heap.size W W1) (hg : W1.grownBy W2 ov.ownBlock)
    (how : W2.ownsRow 0 90 4 v' (s.open_ ++ [p]).length (pgCells (s.open_ ++ [p]))) (hv : v'.ownBlock = ov.ownBlock ∨ ∃ g, v'.ownBlock = some g ∧ d + 1 < g) :
    OpenW w0 dp first count epoch jb b8 b9 d { s with open_ := s.open_ ++ [p] } v' rv (W2.setCell ⟨b9, 0, none⟩ v') ∧ Fr (openF jb b9 ov rv) W (W2.setCell ⟨b9, 0, none⟩ v') := by
  have h1 := h.below hb
  have hj := At.grown h1.jour.self hg (by intro e; exact (h1.jour.self.own_ne h1.rows (by decide)) e.symm)
  have h8 := At.grown h1.jbox hg (by intro e; exact (h1.jbox.own_ne h1.rows (by decide)) e.symm)
  have h9' := At.grown h1.obox hg (by intro e; exact (h1.obox.own_ne h1.rows (by decide)) e.symm)
  have hr := own_keep (w' := W2) h1.jour.recs (fun k hk => hg.block k (by obtain ⟨cur, hc⟩ := own_at h1.jour.recs hk; exact hc.lt) (by
    intro e
    obtain ⟨cur, hc⟩ := own_at h1.jour.recs hk
    obtain ⟨cur', hc'⟩ := own_at h1.rows e.symm
    exact hc.ne hc' (by decide) rfl))
  have hov : ∀ k, v'.ownBlock = some k → d + 1 < k := by
    intro k hk
    rcases hv with hv | ⟨g, hv, hgd⟩
    · exact h.hov k (hv.symm.trans hk)
    · have : g = k := by rw [hv] at hk; simpa using hk
      omega
  have n9j : b9 ≠ jb := h9'.ne hj (by decide)
  have n98 : b9 ≠ b8 := h9'.ne h8 (by decide)
  have hf : Fr (openF jb b9 ov rv) W (W2.setCell ⟨b9, 0, none⟩ v') :=
    ((Fr.of_below hb).grown hg (fun k hk => .inl (.inr (.inr (.inl hk))))).setCell (.inl (.inr (.inl rfl))) _
  refine ⟨⟨h8.far (Ne.symm n98) _, h9'.set 0 v', ownsRow_setCell_other how (by
    intro e
    exact (h9'.own_ne how (by decide)) e) _, ⟨hj.far (Ne.symm n9j) _, ownsRow_setCell_other hr (by
    intro e
    exact (h9'.own_ne hr (by decide)) e) _, h.jour.few, h.jour.count, h.jour.next⟩, hov, h.hrv, ?_⟩, hf⟩
  have hb2 : Below w0.heap.size w0 W2 := (h1.old).grown hg (Nat.le_trans (Nat.le_refl _) h1.old.size) (fun k hk => by have := h.hov k hk; omega)
  exact hb2.setCell h9 _
theorem OpenW.done {rs : List ByteArray} {nx : Nat} {chk : ByteArray} (h : OpenW w0 dp first count epoch jb b8 b9 d s ov rv W) (hd : w0.heap.size ≤ d) (h9 : w0.heap.size ≤ b9) (hjb : w0.heap.size ≤ jb) (hb : Below W.heap.size W W1) (hg : W1.grownBy W2 rv.ownBlock)
    (how : W2.ownsRow 0 9 1 v' rs.length (rs.map Value.string)) (hv : v'.ownBlock = rv.ownBlock ∨ ∃ g, v'.ownBlock = some g ∧ d + 1 < g) (hfew : rs.length ≤ 1000000) (hnx : nx ≤ count) :
    OpenW w0 dp first count epoch jb b8 b9 d ⟨[], rs, nx, chk⟩ (.slice none 0 0) v' ((((W2.setCell ⟨jb, 4, none⟩ v').setCell ⟨jb, 5, none⟩ (.int .i64 nx)).setCell ⟨jb, 6, none⟩ (.string chk)).setCell ⟨b9, 0, none⟩ (.slice none 0 0)) ∧
      Fr (openF jb b9 (.slice none 0 0) rv) W ((((W2.setCell ⟨jb, 4, none⟩ v').setCell ⟨jb, 5, none⟩ (.int .i64 nx)).setCell ⟨jb, 6, none⟩ (.string chk)).setCell ⟨b9, 0, none⟩ (.slice none 0 0)) := by
  have h1 := h.below hb
  have hj := At.grown h1.jour.self hg (by intro e; exact (h1.jour.self.own_ne h1.jour.recs (by show 84 ≠ 9; decide)) e.symm)
  have h8 := At.grown h1.jbox hg (by intro e; exact (h1.jbox.own_ne h1.jour.recs (by decide)) e.symm)
  have h9' := At.grown h1.obox hg (by intro e; exact (h1.obox.own_ne h1.jour.recs (by decide)) e.symm)
  have n9j : b9 ≠ jb := h9'.ne hj (by decide)
  have n98 : b9 ≠ b8 := h9'.ne h8 (by decide)
  have n8j : b8 ≠ jb := h8.ne hj (by decide)
  have hvj : v'.ownBlock ≠ some jb := hj.own_ne how (by decide)
  have hv9 : v'.ownBlock ≠ some b9 := h9'.own_ne how (by decide)
  have hrv : ∀ k, v'.ownBlock = some k → d + 1 < k := by
    intro k hk
    rcases hv with hv | ⟨g, hv, hgd⟩
    · exact h.hrv k (hv.symm.trans hk)
    · have : g = k := by rw [hv] at hk; simpa using hk
      omega
  have hf : Fr (openF jb b9 (.slice none 0 0) rv) W ((((W2.setCell ⟨jb, 4, none⟩ v').setCell ⟨jb, 5, none⟩ (.int .i64 nx)).setCell ⟨jb, 6, none⟩ (.string chk)).setCell ⟨b9, 0, none⟩ (.slice none 0 0)) :=
    (((((Fr.of_below hb).grown hg (fun k hk => .inl (.inr (.inr (.inr hk))))).setCell (.inl (.inl rfl)) _).setCell (.inl (.inl rfl)) _).setCell (.inl (.inl rfl)) _).setCell (.inl (.inr (.inl rfl))) _
  have hown := ownsRow_setCell_other (ownsRow_setCell_other (ownsRow_setCell_other (ownsRow_setCell_other how (a := ⟨jb, 4, none⟩) (fun e => hvj e) v') (a := ⟨jb, 5, none⟩) (fun e => hvj e) (.int .i64 nx)) (a := ⟨jb, 6, none⟩) (fun e => hvj e) (.string chk)) (a := ⟨b9, 0, none⟩) (fun e => hv9 e) (.slice none 0 0)
  refine ⟨⟨(((h8.far (p := ⟨jb, 4, none⟩) n8j _).far (p := ⟨jb, 5, none⟩) n8j _).far (p := ⟨jb, 6, none⟩) n8j _).far (p := ⟨b9, 0, none⟩) (Ne.symm n98) _,
    (((h9'.far (p := ⟨jb, 4, none⟩) n9j _).far (p := ⟨jb, 5, none⟩) n9j _).far (p := ⟨jb, 6, none⟩) n9j _).set 0 _, ⟨rfl, .inl ⟨rfl, rfl⟩⟩,
    ⟨(((hj.set 4 v').set 5 (.int .i64 nx)).set 6 (.string chk)).far (p := ⟨b9, 0, none⟩) (Ne.symm n9j) _, hown, hfew, h.jour.count, hnx⟩, fun k hk => (by cases hk), hrv, ?_⟩, hf⟩
  have hb2 : Below w0.heap.size w0 W2 := (h1.old).grown hg h1.old.size (fun k hk => by have := h.hrv k hk; omega)
  exact (((hb2.setCell (p := ⟨jb, 4, none⟩) hjb _).setCell (p := ⟨jb, 5, none⟩) hjb _).setCell (p := ⟨jb, 6, none⟩) hjb _).setCell (p := ⟨b9, 0, none⟩) h9 _
end
theorem opens_step {epoch : Nat} {rd : Nat → ByteArray × Int} {count k : Nat} {ch : ByteArray} {t t' : OSt} {p : Pg} (hk : k < count) (hr : (rd k).2 = 0) (hp : parsed epoch (rd k).1 ch = some p) (hs : t.step p = some t') :
    opens epoch rd (count - k) k ch t = opens epoch rd (count - (k + 1)) (k + 1) p.check t' := by
  obtain ⟨n, hn⟩ : ∃ n, count - k = n + 1 := ⟨count - k - 1, by omega⟩
  have hn' : count - (k + 1) = n := by omega
  rw [hn, hn']
  show (if (rd k).2 = 0 then _ else _) = _
  rw [if_pos hr, hp]
  simp only [hs]
theorem opens_stop {epoch : Nat} {rd : Nat → ByteArray × Int} {count k : Nat} {ch : ByteArray} {t : OSt} {p : Pg} (hk : k < count) (hr : (rd k).2 = 0) (hp : parsed epoch (rd k).1 ch = some p) (hs : t.step p = none) :
    opens epoch rd (count - k) k ch t = t := by
  obtain ⟨n, hn⟩ : ∃ n, count - k = n + 1 := ⟨count - k - 1, by omega⟩
  rw [hn]
  show (if (rd k).2 = 0 then _ else _) = _
  rw [if_pos hr, hp]
  simp only [hs]
theorem opens_end {epoch : Nat} {rd : Nat → ByteArray × Int} {count k : Nat} {ch : ByteArray} {t : OSt} (h : k = count ∨ k < count ∧ ((rd k).2 ≠ 0 ∨ parsed epoch (rd k).1 ch = none)) :
    opens epoch rd (count - k) k ch t = t := by
  rcases h with rfl | ⟨hk, h⟩
  · rw [Nat.sub_self]; rfl
  · obtain ⟨n, hn⟩ : ∃ n, count - k = n + 1 := ⟨count - k - 1, by omega⟩
    rw [hn]
    show (if (rd k).2 = 0 then _ else _) = _
    by_cases hr : (rd k).2 = 0
    · rw [if_pos hr]
      rcases h with h | h
      · exact absurd hr h
      · rw [h]
    · rw [if_neg hr]
/-- What holds between two rounds, at page k with chain ch. -/
def OpenJ (w0 : World) (dp : DiskP) (rd : Nat → ByteArray × Int) (first count epoch jb b8 b9 d : Nat) (t : Nat × ByteArray) (W : World) : Prop :=
  ∃ s ov rv, (t.1 = 0 → s = OSt.zero epoch) ∧ t.1 ≤ count ∧ s.next + s.open_.length = t.1 ∧ s.recs.length ≤ t.1 ∧ (∀ q ∈ s.open_, q.data.size ≤ 437) ∧ t.2.size ≤ 1000 ∧
    opens epoch rd (count - t.1) t.1 t.2 s = opened epoch count rd ∧ OpenW w0 dp first count epoch jb b8 b9 d s ov rv W
/-- What holds where the loop has been left. -/
def OpenX (w0 : World) (dp : DiskP) (rd : Nat → ByteArray × Int) (first count epoch jb b8 b9 d : Nat) (c : Code) (W : World) : Prop :=
  c = .exit 0 ∧ ∃ s ov rv, (opened epoch count rd).recs = s.recs ∧ (opened epoch count rd).next = s.next ∧ (opened epoch count rd).jch = s.jch ∧ OpenW w0 dp first count epoch jb b8 b9 d s ov rv W
theorem parsed_data {e : Nat} {s ch : ByteArray} {p : Pg} (h : parsed e s ch = some p) : p.data.size ≤ 437 := by
  unfold parsed at h
  split at h
  · rename_i hh
    cases h
    have hl : pageLen s ≤ 437 := by
      simp only [bodyOK, Bool.and_eq_true, decide_eq_true_eq] at hh
      omega
    rw [ByteArray.size_extract]
    omega
  · cases h
end Go.Proofs.YtfgjjdjaiddllaaDoor
