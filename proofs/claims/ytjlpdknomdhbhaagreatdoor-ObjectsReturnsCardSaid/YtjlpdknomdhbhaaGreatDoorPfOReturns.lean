/- ObjectsReturns returns true for every input; the input reads as it did. Condition: the laid tables of package utf8, tied to the program's text (the card). -/
import Derived.Test.YtjlpdknomdhbhaaGreatDoorLawOReturns
import Derived.Test.YtjlpdknomdhbhaaGreatDoorObjIn
import Derived.Test.YtjlpdknomdhbhaaGreatDoorRows
import Derived.Test.YtjlpdknomdhbhaaGreatDoorCards
import Derived.Test.YtjlpdknomdhbhaaGreatDoorTie
import Derived.ProofKit
import Derived.OpenShut
import Derived.LaidMore
import Derived.Lay
import Derived.SevenTiedAt
import Derived.Stop.Joined
namespace Go.Proofs.YtjlpdknomdhbhaaGreatDoor
set_option linter.unusedVariables false
set_option linter.unusedSimpArgs false
open Go Go.ChangeShapes Go.WideShapes Go.ChangeAt Go.RowKit
theorem ownKnobNone : ownKnob Tryz.prog.godebug = none := by kernel_rfl
theorem laidOutProg : laidOutB Tryz.prog = true := by kernel_rfl
set_option maxRecDepth 100000 in
theorem oreturns_lifted (os : Os) (started : os.Started) (H : Type) (enc : TypeId × Value → H) :
    ReturnsInHanded {} Tryz.checked os 5 .any (fun w args => (Rows.objectsReturnsSpec.pre enc Tryz.prog Tryz.f5 Rows.objectsReturnsRow.domain false w args ∧ laidMetH Tryz.prog Rows.objectsReturnsRow.laid w) ∧ sizedMet enc Tryz.prog Tryz.f5 (OpenSpec.ofChange Rows.objectsReturnsSpec) false w args)
      (Rows.objectsReturnsSpec.post enc Tryz.prog Tryz.f5 false true false false) := by
  refine returnsInHanded_and_shaped (C := Tryz.checked) (X := fun w _ => laidMetH Tryz.prog Rows.objectsReturnsRow.laid w) (fun _ _ _ hh h => h.of_heap hh) ownKnobNone started (by kernel_rfl) Tryz.func5
    (ChangeSpec.witness_shaped (enc := enc) (C := Tryz.checked) (os := os) (X := fun w _ => laidMetH Tryz.prog Rows.objectsReturnsRow.laid w) false (World.laidAll Tryz.prog os Rows.objectsReturnsRow.laid) #[.agg #[.int .i64 0, .slice none 0 0, .string ⟨#[]⟩], .slice none 0 0] 8 (World.laidAll_os _ _ _)
      (World.shaped_of_ZipB (by kernel_rfl) (by kernel_rfl)) (by kernel_rfl) (by kernel_rfl) (by kernel_rfl)
      (by rw [MakeChecks.laidMetH_plain _ _ _ (by kernel_rfl)]; exact laidMet_laidAll _ (by kernel_rfl) (by kernel_rfl))) ?_
  intro W base args ds gs before hval0 hW _ hz0 _ hsh _
  have hM := maxL_of hsh
  have hval : ∀ (j : Nat) t v, Tryz.f5.params[j]? = some t → args[j]? = some v → Value.okWide Tryz.prog W .any base t v := hval0
  have hW' := hW
  obtain ⟨p, q, hA0, hV, rfl, _, _⟩ := hW
  have hA : DataW.TrodAll enc Tryz.prog W 0 (fun _ => true) true Tryz.f5.params.toList args.toList ds p := hA0
  rw [Tryz.params5] at hA hval
  obtain ⟨v0, v1, d0, d1, p0, p1, rfl, rfl, rfl, h0, h1⟩ := trodAll_two hA
  obtain ⟨rfl, rfl⟩ := trodVars_none hV
  have e0 : DataW.weightsEach Tryz.prog (Tryz.f5.params.toList ++ Rows.objectsReturnsSpec.plain.varTypes Tryz.prog) ([d0, d1] ++ []) = d0.weights Tryz.prog 24 ++ (d1.weights Tryz.prog 34 ++ []) := by
    rw [Tryz.params5]
    rfl
  have hz0 := e0 ▸ hz0
  simp only [List.all_append, List.all_nil, Bool.and_true, Bool.and_eq_true] at hz0
  have g0 := h0
  obtain ⟨o0, u0, rfl, hxs0, hxb0, hxl0, hxd0⟩ := obj_in (hval 0 24 v0 rfl rfl) h0 hz0.1
  obtain ⟨l1, hfs1, hfb1, hfl1⟩ := files_in h1 (okWide_slice Tryz.underlying34 (hval 1 34 v1 rfl rfl)) hz0.2
  have e1 : Rows.objectsReturnsSpec.fn H ([d0, d1] ++ []) = { results := [.lit (.bool true)], args := [d0, d1] } := by simp [Rows.objectsReturnsSpec]
  refine (oreturns_any o0 _ _ l1 W hM hfs1 hfb1 hfl1 hxs0 hxb0 hxl0 hxd0).mono fun e W' ⟨he, hb⟩ => ?_
  subst he
  refine ⟨_, rfl, _, _, _, [], p0 ++ (p1 ++ []), [], by simpa using hW', ?_, ?_, ?_, hb.frame _, fun h => by cases h⟩
  · rw [e1]; exact trodAll_mk1 (shut_bool Tryz.underlying4 true)
  · rw [e1]; exact (trodAll_cons_mk (Below.trod laidOutProg (by kernel_rfl) (of_decide_eq_true (by kernel_rfl)) h0 hb (fun z hz => hW'.lt z (by simp [hz]))) (trodAll_cons_mk (Below.trod laidOutProg (by kernel_rfl) (of_decide_eq_true (by kernel_rfl)) h1 hb (fun z hz => hW'.lt z (by simp [hz]))) trodAll_mk0))
  · rw [e1]; rfl
theorem oreturns_holds : Rows.ObjectsReturnsSaid :=
  OpenClaim.holds_of_wide 5 Tryz.f5 rfl rfl rfl rfl rfl rfl rfl ⟨rfl, rfl, rfl, rfl, rfl⟩ rfl rfl rfl rfl rfl (by kernel_rfl) Tryz.func5 (by kernel_rfl)
    (of_decide_eq_true (by kernel_rfl)) (by unfold Func.isWrapper; first | (rw [if_pos (by decide +kernel)]; kernel_rfl) | (rw [if_neg (by decide +kernel)]; exact ⟨rfl, rfl⟩))
    (fun os started H enc _ => oreturns_lifted os started H enc)
theorem oreturns_card : Rows.ObjectsReturnsCardSaid :=
  Claim7.holds_tied_plain_at .later [] [.data, .pinned] true Rows.objectsReturnsCard.stood.harness false oreturns_holds (fun _ h => by cases h) (by kernel_rfl) (fun _ h => by cases h) objectsReturns_row_tie rfl ⟨rfl, rfl⟩ (by kernel_rfl) rfl
    (fun f fn hf hfn => by
      obtain rfl : f = 5 := Option.some.inj ((show Tryz.prog.funcNamed "modcert/modcertlaw49.ObjectsReturns" = some 5 by kernel_rfl).symm.trans hf) |>.symm
      obtain rfl : fn = Tryz.f5 := (Option.some.inj (Tryz.func5.symm.trans hfn)).symm
      exact ⟨by kernel_rfl, fun j t ht => by
        rw [Tryz.params5] at ht
        have hm : t ∈ [24, 34] := by simpa using Array.mem_of_getElem? ht
        have hall : ([24, 34].all fun u => !Tryz.prog.wantsStandIn u) = true := by kernel_rfl
        exact (show Tryz.prog.wantsStandIn t = false by simpa using List.all_eq_true.1 hall t hm)⟩)
    (by kernel_rfl)
#print axioms oreturns_card
end Go.Proofs.YtjlpdknomdhbhaaGreatDoor
