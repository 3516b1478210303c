/- Pages of other epochs, and of a new disk. Conditions: epochs under 2^62. -/
import Derived.Test.YtfgjjdjaiddllaaDoorJourO
namespace Go.Proofs.YtfgjjdjaiddllaaDoor
set_option linter.unusedVariables false
set_option linter.unusedSimpArgs false
open Go Go.RowKit Go.Maps
theorem big8_get (n k : Nat) (h : k < 8) : (big n 8).data.toList.getD k 0 = (n / 2 ^ (8 * (8 - 1 - k)) % 256).toUInt8 := by
  simp [big, List.getD_eq_getElem?_getD, h]
theorem big8_inj {n m : Nat} (hn : n < 2 ^ 64) (hm : m < 2 ^ 64) (h : big n 8 = big m 8) : n = m := by
  have hk : ∀ k, k < 8 → n / 2 ^ (8 * (8 - 1 - k)) % 256 = m / 2 ^ (8 * (8 - 1 - k)) % 256 := by
    intro k hk
    have h1 := big8_get n k hk
    rw [h, big8_get m k hk] at h1
    have h2 := congrArg UInt8.toNat h1
    rw [show (m / 2 ^ (8 * (8 - 1 - k)) % 256).toUInt8 = UInt8.ofNat (m / 2 ^ (8 * (8 - 1 - k)) % 256) from rfl, show (n / 2 ^ (8 * (8 - 1 - k)) % 256).toUInt8 = UInt8.ofNat (n / 2 ^ (8 * (8 - 1 - k)) % 256) from rfl, UInt8.toNat_ofNat', UInt8.toNat_ofNat'] at h2
    omega
  have h0 := hk 0 (by omega); have h1 := hk 1 (by omega); have h2 := hk 2 (by omega); have h3 := hk 3 (by omega)
  have h4 := hk 4 (by omega); have h5 := hk 5 (by omega); have h6 := hk 6 (by omega); have h7 := hk 7 (by omega)
  simp only [Nat.reduceSub, Nat.reduceMul, Nat.reducePow, Nat.sub_self, Nat.mul_zero, Nat.pow_zero, Nat.div_one] at h0 h1 h2 h3 h4 h5 h6 h7 hn hm
  omega
theorem foreign_size {e : Nat} {x : ByteArray × Int} (h : x.1.size ≠ 512) : Foreign e x := by
  refine .inr fun ch => ?_
  unfold parsed headOK
  have : (x.1.size == 512) = false := by simp; exact h
  rw [this]
  rfl
theorem foreign_page {e e' : Nat} (dg r ch : ByteArray) (h1 : e < 2 ^ 64) (h2 : e' < 2 ^ 64) (hne : e ≠ e') (k : Int) : Foreign e' (pageCheck e dg r ch ++ pageBody e dg r, k) := by
  refine .inr fun ch' => ?_
  have e3 : (pageCheck e dg r ch ++ pageBody e dg r).extract 32 40 = big e 8 := by
    rw [page_parts]
    have h1 : (pageCheck e dg r ch).size = 32 := Sha.sha_size _
    exact extract_mid _ _ _ _ _ h1.symm (by rw [h1, big_size])
  unfold parsed headOK
  simp only [e3]
  have : ((big e 8).toList == (big e' 8).toList) = false := by
    rw [beq_toList]
    simp only [decide_eq_false_iff_not]
    intro he
    exact hne (big8_inj h1 h2 he)
  rw [this]
  simp
/-- In these pages nothing is of the epoch. -/
def Clean (e : Nat) (c : DiskC) (first count : Nat) : Prop := ∀ i, i < count → Foreign e (rdOf c first i)
theorem putPages_clean (e e' f : Nat) (dg : ByteArray) (h1 : e < 2 ^ 64) (h2 : e' < 2 ^ 64) (hne : e ≠ e') (q : Nat) : ∀ (n : Nat) (r : ByteArray) (st : PSt), q < st.c.durable.length → Foreign e' (st.c.read q) → Foreign e' ((putPages e f dg n r st).c.read q)
  | 0, _, _, _, h => h
  | n + 1, r, st, hq, h => by
    have hp : Foreign e' ((st.put e f dg r).c.read q) := by
      rw [put_other _ _ _ _ _ _ hq]
      split
      · exact foreign_page dg r st.chain h1 h2 hne 0
      · exact h
    unfold putPages
    split
    · exact hp
    · exact putPages_clean e e' f dg h1 h2 hne q n _ _ (by rw [put_durable]; exact hq) hp
theorem Clean.after {j : Jour} {s : ByteArray} {c : DiskC} {e' first count : Nat} (h : Clean e' c first count) (hp : c.pending = []) (hin : first + count ≤ c.durable.length) (h1 : j.epoch < 2 ^ 64) (h2 : e' < 2 ^ 64) (hne : j.epoch ≠ e') : Clean e' (after j s c) first count := by
  intro i hi
  have hq : first + i < c.durable.length := by omega
  have := h i hi
  unfold rdOf at this ⊢
  rw [show ((first : Int) + (i : Nat)) = ((first + i : Nat) : Int) by omega] at this ⊢
  rw [after_read hp]
  exact putPages_clean j.epoch e' j.first (Sha.sha s) h1 h2 hne _ _ _ ⟨j.next, j.chain, c⟩ hq this
theorem blank_read (n : Nat) (p : Int) : ((DiskC.blank n).read p).1 = ⟨#[]⟩ := by
  unfold DiskC.read
  split
  · show (if ((List.replicate n (⟨#[]⟩ : ByteArray)).getD p.toNat ⟨#[]⟩).toList == torn.toList then ((⟨#[]⟩ : ByteArray), (21 : Int)) else ((List.replicate n (⟨#[]⟩ : ByteArray)).getD p.toNat ⟨#[]⟩, 0)).1 = _
    split
    · rfl
    · simp [List.getD_eq_getElem?_getD, List.getElem?_replicate]
      split <;> rfl
  · rfl
theorem blank_clean (e n first count : Nat) : Clean e (.blank n) first count := by
  intro i _
  refine foreign_size ?_
  unfold rdOf
  rw [blank_read]
  decide
theorem blank_calm (n : Nat) : Calm (.blank n) := ⟨rfl, rfl, rfl⟩
/-- A region in which nothing is of an epoch holds an empty journal. -/
theorem Clean.holds {j : Jour} {c : DiskC} (h : Clean j.epoch c j.first j.count) (e4 : j.recs = []) (e5 : j.next = 0) (e6 : j.chain = chain0 j.epoch) : Holds j c := by
  refine ⟨?_, fun i _ hi => h i hi⟩
  rw [e4, e5, e6]
  exact .refl _ _ _
theorem Clean.opened {e first count : Nat} {c : DiskC} (h : Clean e c first count) : opened e count (rdOf c first) = OSt.zero e := by
  have h2 : Holds ⟨0, 0, first, count, e, .slice none 0 0, [], 0, chain0 e⟩ c := Clean.holds h rfl rfl rfl
  exact h2.opened (Nat.zero_le _)
end Go.Proofs.YtfgjjdjaiddllaaDoor
