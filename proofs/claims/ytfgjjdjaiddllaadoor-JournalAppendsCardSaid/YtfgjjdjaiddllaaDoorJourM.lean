/- What Append writes Open reads: plain laws on the journal's pages, with no program in sight. Conditions: those of each law. -/
import Derived.Test.YtfgjjdjaiddllaaDoorJourI
namespace Go.Proofs.YtfgjjdjaiddllaaDoor
set_option linter.unusedVariables false
set_option linter.unusedSimpArgs false
open Go Go.RowKit Go.Maps
theorem beq_toList {a b : ByteArray} : (a.toList == b.toList) = decide (a = b) := by
  rw [ByteArray.toList_eq, ByteArray.toList_eq]
  by_cases h : a = b
  · subst h; simp
  · have h2 : a.data.toList ≠ b.data.toList := fun e => h (Sha.ba_ext e)
    simp only [h, decide_false]
    exact beq_eq_false_iff_ne.2 h2
theorem size_list (b : ByteArray) : b.size = b.data.toList.length := (Sha.len_list b).symm
theorem extract_app_left (a b : ByteArray) (n : Nat) (h : n = a.size) : (a ++ b).extract 0 n = a := by
  apply Sha.ba_ext
  rw [Sha.ex_list, Sha.app_list, h, size_list]
  simp
theorem extract_app_right (a b : ByteArray) (n m : Nat) (h : n = a.size) (hm : m = a.size + b.size) : (a ++ b).extract n m = b := by
  apply Sha.ba_ext
  rw [Sha.ex_list, Sha.app_list, h, hm, size_list, size_list, List.drop_left, Nat.add_sub_cancel_left, List.take_length]
/-- A piece of what stands between. -/
theorem extract_mid (a b c : ByteArray) (n m : Nat) (h : n = a.size) (hm : m = a.size + b.size) : (a ++ (b ++ c)).extract n m = b := by
  apply Sha.ba_ext
  rw [Sha.ex_list, Sha.app_list, Sha.app_list, h, hm, size_list, size_list, List.drop_left, Nat.add_sub_cancel_left, List.take_left]
theorem byteAt_app (a b : ByteArray) (i : Nat) (h : i < b.size) : byteAt (a ++ b) (a.size + i) = byteAt b i := by
  unfold byteAt
  rw [Sha.app_list, size_list]
  simp only [List.getD_eq_getElem?_getD]
  rw [List.getElem?_append_right (by omega), Nat.add_sub_cancel_left]
theorem byteAt_left (a b : ByteArray) (i : Nat) (h : i < a.size) : byteAt (a ++ b) i = byteAt a i := by
  unfold byteAt
  rw [Sha.app_list]
  rw [size_list] at h
  simp only [List.getD_eq_getElem?_getD]
  rw [List.getElem?_append_left h]
theorem big2_at (n : Nat) (h : n < 65536) : byteAt (big n 2) 0 * 256 + byteAt (big n 2) 1 = n := by
  have h0 : byteAt (big n 2) 0 = n / 256 % 256 := by
    show (UInt8.ofNat (n / 2 ^ (8 * (2 - 1 - 0)) % 256)).toNat = _
    rw [UInt8.toNat_ofNat']
    show n / 256 % 256 % 256 = n / 256 % 256
    omega
  have h1 : byteAt (big n 2) 1 = n % 256 := by
    show (UInt8.ofNat (n / 2 ^ (8 * (2 - 1 - 1)) % 256)).toNat = _
    rw [UInt8.toNat_ofNat']
    show n / 1 % 256 % 256 = n % 256
    omega
  rw [h0, h1]
  omega
theorem repeat_list (n : Nat) : Lib.repeatL [0] n = List.replicate n (0 : UInt8) := by
  induction n with
  | zero => rfl
  | succ n ih => simp [Lib.repeatL, List.replicate_succ] at ih ⊢; exact ih
theorem trim_zeros (n : Nat) : Lib.trimB (List.replicate n (0 : UInt8)) 0 = [] := by
  have h : Lib.trimRightB (List.replicate n (0 : UInt8)) 0 = [] := by
    unfold Lib.trimRightB
    rw [List.reverse_replicate, List.dropWhile_replicate]
    simp
  unfold Lib.trimB
  rw [h]
  rfl
theorem lastOf_le (r : ByteArray) : lastOf r ≤ 1 := by unfold lastOf; split <;> omega
/-- A page, its parts named. -/
theorem page_parts (ep : Nat) (dg r ch : ByteArray) : pageCheck ep dg r ch ++ pageBody ep dg r =
    pageCheck ep dg r ch ++ (big ep 8 ++ (⟨#[(lastOf r).toUInt8]⟩ ++ (big (min r.size 437) 2 ++ (dg ++ (r.extract 0 (min r.size 437) ++ zeros (437 - min r.size 437)))))) := by
  unfold pageBody
  simp only [ByteArray.append_assoc]
theorem headOK_page (ep : Nat) (dg r ch : ByteArray) (hd : dg.size = 32) : headOK ep (pageCheck ep dg r ch ++ pageBody ep dg r) ch = true := by
  have h1 : (pageCheck ep dg r ch).size = 32 := Sha.sha_size _
  have h2 := pageBody_size ep dg r hd
  have e1 : (pageCheck ep dg r ch ++ pageBody ep dg r).extract 32 512 = pageBody ep dg r := extract_app_right _ _ _ _ h1.symm (by omega)
  have e2 : (pageCheck ep dg r ch ++ pageBody ep dg r).extract 0 32 = pageCheck ep dg r ch := extract_app_left _ _ _ h1.symm
  have e3 : (pageCheck ep dg r ch ++ pageBody ep dg r).extract 32 40 = big ep 8 := by
    rw [page_parts]
    exact extract_mid _ _ _ _ _ h1.symm (by rw [h1, big_size])
  unfold headOK
  rw [e1, e2, e3, Sha.app_size, h1, h2]
  simp [pageCheck]
theorem parsed_page (ep : Nat) (dg r ch : ByteArray) (hd : dg.size = 32) :
    parsed ep (pageCheck ep dg r ch ++ pageBody ep dg r) ch = some ⟨pageCheck ep dg r ch, dg, r.extract 0 (min r.size 437), lastOf r == 1⟩ := by
  have h1 : (pageCheck ep dg r ch).size = 32 := Sha.sha_size _
  have h8 : (big ep 8).size = 8 := big_size _ _
  have hx : (⟨#[(lastOf r).toUInt8]⟩ : ByteArray).size = 1 := rfl
  have h2 : (big (min r.size 437) 2).size = 2 := big_size _ _
  have hr : (r.extract 0 (min r.size 437)).size = min r.size 437 := by rw [ByteArray.size_extract]; omega
  have hz : (zeros (437 - min r.size 437)).size = 437 - min r.size 437 := zeros_size _
  have hh := headOK_page ep dg r ch hd
  have e2 : (pageCheck ep dg r ch ++ pageBody ep dg r).extract 0 32 = pageCheck ep dg r ch := extract_app_left _ _ _ h1.symm
  obtain ⟨n, hn⟩ : ∃ n, n = min r.size 437 := ⟨_, rfl⟩
  have hp := page_parts ep dg r ch
  rw [← hn] at hp h2 hr hz ⊢
  have p40 : byteAt (pageCheck ep dg r ch ++ pageBody ep dg r) 40 = lastOf r := by
    rw [hp, ← ByteArray.append_assoc]
    have h : (pageCheck ep dg r ch ++ big ep 8).size = 40 := by rw [Sha.app_size, h1, h8]
    have := byteAt_app (pageCheck ep dg r ch ++ big ep 8) (⟨#[(lastOf r).toUInt8]⟩ ++ (big n 2 ++ (dg ++ (r.extract 0 n ++ zeros (437 - n))))) 0 (by rw [Sha.app_size, hx]; omega)
    rw [h] at this
    rw [this, byteAt_left _ _ _ (by rw [hx]; omega)]
    show (UInt8.ofNat (lastOf r)).toNat = _
    rw [UInt8.toNat_ofNat']
    have := lastOf_le r
    omega
  have hlen : pageLen (pageCheck ep dg r ch ++ pageBody ep dg r) = n := by
    unfold pageLen
    rw [hp, ← ByteArray.append_assoc, ← ByteArray.append_assoc]
    have h : (pageCheck ep dg r ch ++ big ep 8 ++ ⟨#[(lastOf r).toUInt8]⟩).size = 41 := by rw [Sha.app_size, Sha.app_size, h1, h8, hx]
    have a0 := byteAt_app (pageCheck ep dg r ch ++ big ep 8 ++ ⟨#[(lastOf r).toUInt8]⟩) (big n 2 ++ (dg ++ (r.extract 0 n ++ zeros (437 - n)))) 0 (by rw [Sha.app_size, h2]; omega)
    have a1 := byteAt_app (pageCheck ep dg r ch ++ big ep 8 ++ ⟨#[(lastOf r).toUInt8]⟩) (big n 2 ++ (dg ++ (r.extract 0 n ++ zeros (437 - n)))) 1 (by rw [Sha.app_size, h2]; omega)
    rw [h] at a0 a1
    rw [a0, a1, byteAt_left _ _ _ (by rw [h2]; omega), byteAt_left _ _ _ (by rw [h2]; omega)]
    exact big2_at n (by omega)
  have e43 : (pageCheck ep dg r ch ++ pageBody ep dg r).extract 43 75 = dg := by
    rw [hp, ← ByteArray.append_assoc, ← ByteArray.append_assoc, ← ByteArray.append_assoc]
    have h : (pageCheck ep dg r ch ++ big ep 8 ++ ⟨#[(lastOf r).toUInt8]⟩ ++ big n 2).size = 43 := by rw [Sha.app_size, Sha.app_size, Sha.app_size, h1, h8, hx, h2]
    exact extract_mid _ _ _ _ _ h.symm (by rw [h, hd])
  have e75 : (pageCheck ep dg r ch ++ pageBody ep dg r).extract 75 (75 + n) = r.extract 0 n := by
    rw [hp, ← ByteArray.append_assoc, ← ByteArray.append_assoc, ← ByteArray.append_assoc, ← ByteArray.append_assoc]
    have h : (pageCheck ep dg r ch ++ big ep 8 ++ ⟨#[(lastOf r).toUInt8]⟩ ++ big n 2 ++ dg).size = 75 := by rw [Sha.app_size, Sha.app_size, Sha.app_size, Sha.app_size, h1, h8, hx, h2, hd]
    exact extract_mid _ _ _ _ _ h.symm (by rw [h, hr])
  have ez : (pageCheck ep dg r ch ++ pageBody ep dg r).extract (75 + n) 512 = zeros (437 - n) := by
    rw [hp, ← ByteArray.append_assoc, ← ByteArray.append_assoc, ← ByteArray.append_assoc, ← ByteArray.append_assoc, ← ByteArray.append_assoc]
    have h : (pageCheck ep dg r ch ++ big ep 8 ++ ⟨#[(lastOf r).toUInt8]⟩ ++ big n 2 ++ dg ++ r.extract 0 n).size = 75 + n := by rw [Sha.app_size, Sha.app_size, Sha.app_size, Sha.app_size, Sha.app_size, h1, h8, hx, h2, hd, hr]
    exact extract_app_right _ _ _ _ h.symm (by rw [h, hz]; omega)
  have hb : bodyOK (pageCheck ep dg r ch ++ pageBody ep dg r) = true := by
    unfold bodyOK
    rw [p40, hlen, ez]
    have ht : (Lib.trimB (zeros (437 - n)).data.toList 0) = [] := by
      show Lib.trimB (Lib.repeatL [0] (437 - n)).toArray.toList 0 = []
      rw [repeat_list]
      exact trim_zeros _
    rw [ht]
    have hl : lastOf r = 0 → n = 437 := by
      intro h0
      unfold lastOf at h0
      rw [← hn] at h0
      split at h0
      · cases h0
      · omega
    have := lastOf_le r
    have h437 : n ≤ 437 := by omega
    simp only [h437, this, decide_true, Bool.true_and]
    by_cases h0 : lastOf r = 0
    · simp [h0, hl h0]
    · simp [h0]
  unfold parsed
  rw [hh, hb, e2, e43, hlen, e75, p40]
  rfl
end Go.Proofs.YtfgjjdjaiddllaaDoor
