/- The program's journal, what Append writes: the plain side; and its two errors. Condition: none but those of the journal's state. -/
import Derived.Test.YtfgjjdjaiddllaaDoorJourH
import Derived.Test.YtfgjjdjaiddllaaDoorLexT
namespace Go.Proofs.YtfgjjdjaiddllaaDoor
set_option linter.unusedVariables false
set_option linter.unusedSimpArgs false
open Go Go.RowKit Go.Maps
def zeros (n : Nat) : ByteArray := ⟨(Lib.repeatL [0] n).toArray⟩
def lastOf (r : ByteArray) : Nat := if min r.size 437 = r.size then 1 else 0
def pageBody (epoch : Nat) (dg r : ByteArray) : ByteArray :=
  big epoch 8 ++ ⟨#[(lastOf r).toUInt8]⟩ ++ big (min r.size 437) 2 ++ dg ++ r.extract 0 (min r.size 437) ++ zeros (437 - min r.size 437)
def pageCheck (epoch : Nat) (dg r chain : ByteArray) : ByteArray := Sha.sha (⟨#[8]⟩ ++ chain ++ pageBody epoch dg r)
/-- What an append has done. -/
structure PSt where
  next : Nat
  chain : ByteArray
  c : DiskC
def PSt.put (s : PSt) (epoch first : Nat) (dg r : ByteArray) : PSt :=
  ⟨s.next + 1, pageCheck epoch dg r s.chain, (s.c.wrote (first + s.next) (pageCheck epoch dg r s.chain ++ pageBody epoch dg r)).note ⟨(first + s.next : Nat), pageCheck epoch dg r s.chain ++ pageBody epoch dg r, false⟩⟩
def putPages (epoch first : Nat) (dg : ByteArray) : Nat → ByteArray → PSt → PSt
  | 0, _, s => s
  | f + 1, r, s => if min r.size 437 = r.size then s.put epoch first dg r else putPages epoch first dg f (r.extract 437 r.size) (s.put epoch first dg r)
theorem putPages_fuel (epoch first : Nat) (dg : ByteArray) : ∀ (f g : Nat) (r : ByteArray) (s : PSt), r.size < f → r.size < g → putPages epoch first dg f r s = putPages epoch first dg g r s
  | 0, _, _, _, h, _ => by omega
  | _, 0, _, _, _, h => by omega
  | f + 1, g + 1, r, s, h1, h2 => by
    unfold putPages
    split
    · rfl
    · rename_i hn
      have hs : (r.extract 437 r.size).size = r.size - 437 := by rw [ByteArray.size_extract]; omega
      exact putPages_fuel epoch first dg f g _ _ (by rw [hs]; omega) (by rw [hs]; omega)
/-- All that Append writes. -/
def allPages (epoch first : Nat) (data : ByteArray) (s : PSt) : PSt := putPages epoch first (Sha.sha data) (data.size + 1) data s
theorem toArray_toList (b : ByteArray) : b.toList.length = b.size := by rw [ByteArray.toList_eq]; exact Array.length_toList
theorem zeros_size (n : Nat) : (zeros n).size = n := by
  show (Lib.repeatL [0] n).toArray.size = n
  simp [Lib.repeatL_length]
theorem pageBody_size (epoch : Nat) (dg r : ByteArray) (h : dg.size = 32) : (pageBody epoch dg r).size = 480 := by
  unfold pageBody
  simp only [Sha.app_size, big_size, zeros_size, ByteArray.size_extract, h]
  show 8 + 1 + 2 + 32 + _ + _ = 480
  omega
set_option maxRecDepth 100000 in
set_option maxHeartbeats 1000000 in
theorem jAppend_large (j : Jour) (s : ByteArray) (w : World) (hs : 65536 < s.size) :
    Calls Tryd.prog 19 #[.pointer (some ⟨j.jb, 0, none⟩), .string s] w fun e w' => e = .returned (.int .i64 7) ∧ w' = w := by
  go_enter Tryd.func19, Tryd.ntmps19
  go_wp2_with fail
  go_ret
  exact ⟨rfl, rfl⟩
set_option maxRecDepth 100000 in
set_option maxHeartbeats 1000000 in
theorem jAppend_full (j : Jour) (s : ByteArray) (w : World) (h : JourAt w j) (hs : s.size ≤ 65536) (hf : (j.count : Int) - j.next < pagesOf s.size) :
    Calls Tryd.prog 19 #[.pointer (some ⟨j.jb, 0, none⟩), .string s] w fun e w' => e = .returned (.int .i64 22) ∧ w' = w.drew := by
  obtain ⟨N, hN⟩ : ∃ N, N = pagesOf s.size := ⟨_, rfl⟩
  rw [← hN] at hf
  have HN := Lib.hid hN; clear hN
  have H := Lib.hid h; clear h
  go_enter Tryd.func19, Tryd.ntmps19
  go_wp2_with fail
  refine (need_any _ _).mono ?_
  rintro e w1 ⟨rfl, rfl⟩
  rw [← HN.out]
  go_wp2_with fail
  refine (jFree_any j _ H.out).mono ?_
  rintro e w1 ⟨rfl, rfl⟩
  go_wp2_with fail
  go_ret
  exact ⟨rfl, rfl⟩
end Go.Proofs.YtfgjjdjaiddllaaDoor
