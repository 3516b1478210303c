/- JournalReturns returns true for every input; the input reads as it did. Condition: the two laid tables of package utf8, tied to the program's text (the card). -/
import Derived.Test.YtfgjjdjaiddllaaDoorLawReturns
import Derived.Test.YtfgjjdjaiddllaaDoorLawC
import Derived.Test.YtfgjjdjaiddllaaDoorRows
import Derived.Test.YtfgjjdjaiddllaaDoorCards
import Derived.Test.YtfgjjdjaiddllaaDoorTie
import Derived.ProofKit
import Derived.OpenShut
import Derived.LaidMore
import Derived.Lay
import Derived.SevenTiedAt
import Derived.Stop.Joined
namespace Go.Proofs.YtfgjjdjaiddllaaDoor
set_option linter.unusedVariables false
set_option linter.unusedSimpArgs false
open Go Go.ChangeShapes Go.WideShapes Go.ChangeAt Go.RowKit
theorem ownKnobNone : ownKnob Tryd.prog.godebug = none := by kernel_rfl
theorem laidOutProg : laidOutB Tryd.prog = true := by kernel_rfl
set_option maxRecDepth 100000 in
theorem returns_lifted (os : Os) (started : os.Started) (H : Type) (enc : TypeId × Value → H) :
    ReturnsInHanded {} Tryd.checked os 4 .any (fun w args => (Rows.journalReturnsSpec.pre enc Tryd.prog Tryd.f4 Rows.journalReturnsRow.domain false w args ∧ laidMetH Tryd.prog Rows.journalReturnsRow.laid w) ∧ sizedMet enc Tryd.prog Tryd.f4 (OpenSpec.ofChange Rows.journalReturnsSpec) false w args)
      (Rows.journalReturnsSpec.post enc Tryd.prog Tryd.f4 false true false false) := by
  refine returnsInHanded_of_change_and (C := Tryd.checked) (X := fun w _ => laidMetH Tryd.prog Rows.journalReturnsRow.laid w) (fun _ _ _ hh h => h.of_heap hh) ownKnobNone started (by kernel_rfl) Tryd.func4
    (ChangeSpec.witness_shaped (enc := enc) (C := Tryd.checked) (os := os) (X := fun w _ => laidMetH Tryd.prog Rows.journalReturnsRow.laid w) false (World.laidAll Tryd.prog os Rows.journalReturnsRow.laid) #[.int .u8 0, .int .u16 0, .slice none 0 0] 8 (World.laidAll_os _ _ _)
      (World.shaped_of_ZipB (by kernel_rfl) (by kernel_rfl)) (by kernel_rfl) (by kernel_rfl) (by kernel_rfl)
      (by rw [MakeChecks.laidMetH_plain _ _ _ (by kernel_rfl)]; exact laidMet_laidAll _ (by kernel_rfl) (by kernel_rfl))) ?_
  intro W base args ds gs before hval0 hW _ hz0 _ _
  have hval : ∀ (j : Nat) t v, Tryd.f4.params[j]? = some t → args[j]? = some v → Value.okWide Tryd.prog W .any base t v := hval0
  have hW' := hW
  obtain ⟨p, q, hA0, hV, rfl, _, _⟩ := hW
  have hA : DataW.TrodAll enc Tryd.prog W 0 (fun _ => true) true Tryd.f4.params.toList args.toList ds p := hA0
  rw [Tryd.params4] at hA hval
  obtain ⟨v0, v1, v2, d0, d1, d2, p0, p1, p2, rfl, rfl, rfl, h0, h1, h2⟩ := trodAll_three hA
  obtain ⟨rfl, rfl⟩ := trodVars_none hV
  obtain ⟨x, rfl, rfl, rfl, wx⟩ := open_int Tryd.underlying5 (hval 0 5 v0 rfl rfl) h0
  obtain ⟨y, rfl, rfl, rfl, wy⟩ := open_int Tryd.underlying43 (hval 1 43 v1 rfl rfl) h1
  have hx : 0 ≤ x ∧ x < 256 := by
    have := wx
    simp [Lit.wf, IntKind.has] at this
    have h1 : IntKind.u8.min = 0 := by decide
    have h2 : IntKind.u8.max = 255 := by decide
    omega
  have hy : 0 ≤ y ∧ y < 65536 := by
    have := wy
    simp [Lit.wf, IntKind.has] at this
    have h1 : IntKind.u16.min = 0 := by decide
    have h2 : IntKind.u16.max = 65535 := by decide
    omega
  obtain ⟨a0, len, cap, rfl⟩ := okWide_slice Tryd.underlying22 (hval 2 22 v2 rfl rfl)
  have hlt : ∀ z ∈ p2, z.block < W.heap.size := fun z hz => hW'.lt z (by simpa using hz)
  have hz2 : (d2.weights Tryd.prog 22).all (· ≤ reachBytes) = true := by
    have e : DataW.weightsEach Tryd.prog (Tryd.f4.params.toList ++ Rows.journalReturnsSpec.plain.varTypes Tryd.prog) ([DataW.lit (.int .u8 x), DataW.lit (.int .u16 y), d2] ++ []) = d2.weights Tryd.prog 22 ++ [] := by
      rw [Tryd.params4]
      rfl
    have := e ▸ hz0
    simpa using this
  obtain ⟨xs, hxs, hxb, hxl⟩ := strs_in h2 hz2
  have e1 : Rows.journalReturnsSpec.fn H ([.lit (.int .u8 x), .lit (.int .u16 y), d2] ++ []) = { results := [.lit (.bool true)], args := [.lit (.int .u8 x), .lit (.int .u16 y), d2] } := by simp [Rows.journalReturnsSpec]
  refine (returns_any x y _ xs W hx hy hxs hxb hxl).mono fun e W' ⟨he, hb⟩ => ?_
  subst he
  refine ⟨_, rfl, _, _, _, [], [] ++ ([] ++ (p2 ++ [])), [], by simpa using hW', ?_, ?_, ?_, hb.frame _, fun h => by cases h⟩
  · rw [e1]; exact trodAll_mk1 (shut_bool Tryd.underlying4 true)
  · rw [e1]
    have h2' := Below.trod laidOutProg (by kernel_rfl) (of_decide_eq_true (by kernel_rfl)) h2 hb hlt
    exact trodAll_cons_mk (shut_int Tryd.underlying5 wx) (trodAll_cons_mk (shut_int Tryd.underlying43 wy) (trodAll_cons_mk h2' trodAll_mk0))
  · rw [e1]; rfl
theorem returns_holds : Rows.JournalReturnsSaid :=
  OpenClaim.holds_of_wide 4 Tryd.f4 rfl rfl rfl rfl rfl rfl rfl ⟨rfl, rfl, rfl, rfl, rfl⟩ rfl rfl rfl rfl rfl (by kernel_rfl) Tryd.func4 (by kernel_rfl)
    (of_decide_eq_true (by kernel_rfl)) (by unfold Func.isWrapper; first | (rw [if_pos (by decide +kernel)]; kernel_rfl) | (rw [if_neg (by decide +kernel)]; exact ⟨rfl, rfl⟩))
    (fun os started H enc _ => returns_lifted os started H enc)
theorem returns_card : Rows.JournalReturnsCardSaid :=
  Claim7.holds_tied_plain_at .later [] [.data, .pinned] true Rows.journalReturnsCard.stood.harness false returns_holds (fun _ h => by cases h) (by kernel_rfl) (fun _ h => by cases h) journalReturns_row_tie rfl ⟨rfl, rfl⟩ (by kernel_rfl) rfl
    (fun f fn hf hfn => by
      obtain rfl : f = 4 := Option.some.inj ((show Tryd.prog.funcNamed "modcert/modcertlaw51.JournalReturns" = some 4 by kernel_rfl).symm.trans hf) |>.symm
      obtain rfl : fn = Tryd.f4 := (Option.some.inj (Tryd.func4.symm.trans hfn)).symm
      exact ⟨by kernel_rfl, fun j t ht => by
        rw [Tryd.params4] at ht
        have hm : t ∈ [5, 43, 22] := by simpa using Array.mem_of_getElem? ht
        have hall : ([5, 43, 22].all fun u => !Tryd.prog.wantsStandIn u) = true := by kernel_rfl
        exact (show Tryd.prog.wantsStandIn t = false by simpa using List.all_eq_true.1 hall t hm)⟩)
    (by kernel_rfl)
#print axioms returns_card
end Go.Proofs.YtfgjjdjaiddllaaDoor
