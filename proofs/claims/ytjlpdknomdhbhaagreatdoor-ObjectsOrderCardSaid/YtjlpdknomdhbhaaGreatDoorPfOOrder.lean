/- ObjectsOrder returns true for every input; the input reads as it did. Condition: the laid tables of package utf8, tied to the program's text (the card). -/
import Derived.Test.YtjlpdknomdhbhaaGreatDoorLawOOrder
import Derived.Test.YtjlpdknomdhbhaaGreatDoorObjsIn
import Derived.Test.YtjlpdknomdhbhaaGreatDoorObjIn
import Derived.Test.YtjlpdknomdhbhaaGreatDoorRows
import Derived.Test.YtjlpdknomdhbhaaGreatDoorCards
import Derived.Test.YtjlpdknomdhbhaaGreatDoorTie
import Derived.ProofKit
import Derived.OpenShut
import Derived.LaidMore
import Derived.Lay
import Derived.SevenTiedAt
import Derived.Stop.Joined
namespace Go.Proofs.YtjlpdknomdhbhaaGreatDoor
set_option linter.unusedVariables false
set_option linter.unusedSimpArgs false
open Go Go.ChangeShapes Go.WideShapes Go.ChangeAt Go.RowKit
theorem ownKnobNone : ownKnob Tryz.prog.godebug = none := by kernel_rfl
theorem laidOutProg : laidOutB Tryz.prog = true := by kernel_rfl
set_option maxRecDepth 100000 in
theorem oorder_lifted (os : Os) (started : os.Started) (H : Type) (enc : TypeId × Value → H) :
    ReturnsInHanded {} Tryz.checked os 7 .any (fun w args => (Rows.objectsOrderSpec.pre enc Tryz.prog Tryz.f7 Rows.objectsOrderRow.domain false w args ∧ laidMetH Tryz.prog Rows.objectsOrderRow.laid w) ∧ sizedMet enc Tryz.prog Tryz.f7 (OpenSpec.ofChange Rows.objectsOrderSpec) false w args)
      (Rows.objectsOrderSpec.post enc Tryz.prog Tryz.f7 false true false false) := by
  refine returnsInHanded_and_shaped (C := Tryz.checked) (X := fun w _ => laidMetH Tryz.prog Rows.objectsOrderRow.laid w) (fun _ _ _ hh h => h.of_heap hh) ownKnobNone started (by kernel_rfl) Tryz.func7
    (ChangeSpec.witness_shaped (enc := enc) (C := Tryz.checked) (os := os) (X := fun w _ => laidMetH Tryz.prog Rows.objectsOrderRow.laid w) false (World.laidAll Tryz.prog os Rows.objectsOrderRow.laid) #[.slice none 0 0, .int .u8 0] 8 (World.laidAll_os _ _ _)
      (World.shaped_of_ZipB (by kernel_rfl) (by kernel_rfl)) (by kernel_rfl) (by kernel_rfl) (by kernel_rfl)
      (by rw [MakeChecks.laidMetH_plain _ _ _ (by kernel_rfl)]; exact laidMet_laidAll _ (by kernel_rfl) (by kernel_rfl))) ?_
  intro W base args ds gs before hval0 hW _ hz0 _ hsh _
  have hM := maxL_of hsh
  have hval : ∀ (j : Nat) t v, Tryz.f7.params[j]? = some t → args[j]? = some v → Value.okWide Tryz.prog W .any base t v := hval0
  have hW' := hW
  obtain ⟨p, q, hA0, hV, rfl, _, _⟩ := hW
  have hA : DataW.TrodAll enc Tryz.prog W 0 (fun _ => true) true Tryz.f7.params.toList args.toList ds p := hA0
  rw [Tryz.params7] at hA hval
  obtain ⟨v0, v1, d0, d1, p0, p1, rfl, rfl, rfl, h0, h1⟩ := trodAll_two hA
  obtain ⟨rfl, rfl⟩ := trodVars_none hV
  obtain ⟨x1, rfl, rfl, rfl, wx1⟩ := open_int Tryz.underlying5 (hval 1 5 v1 rfl rfl) h1
  have hx1 : 0 ≤ x1 ∧ x1 < 256 := by
    have := wx1
    simp [Lit.wf, IntKind.has] at this
    have h1 : IntKind.u8.min = 0 := by decide
    have h2 : IntKind.u8.max = 255 := by decide
    omega
  have e0 : DataW.weightsEach Tryz.prog (Tryz.f7.params.toList ++ Rows.objectsOrderSpec.plain.varTypes Tryz.prog) ([d0, DataW.lit (.int .u8 x1)] ++ []) = d0.weights Tryz.prog 44 ++ [] := by
    rw [Tryz.params7]
    rfl
  have hz0 := e0 ▸ hz0
  simp only [List.all_append, List.all_nil, Bool.and_true, Bool.and_eq_true] at hz0
  obtain ⟨l0, hos0, hor0⟩ := objs_in h0 (okWide_slice Tryz.underlying44 (hval 0 44 v0 rfl rfl)) hz0
  have e1 : Rows.objectsOrderSpec.fn H ([d0, .lit (.int .u8 x1)] ++ []) = { results := [.lit (.bool true)], args := [d0, .lit (.int .u8 x1)] } := by simp [Rows.objectsOrderSpec]
  refine (oorder_any _ l0 x1 W hM hx1 hos0 hor0).mono fun e W' ⟨he, hb⟩ => ?_
  subst he
  refine ⟨_, rfl, _, _, _, [], p0 ++ ([] ++ []), [], by simpa using hW', ?_, ?_, ?_, hb.frame _, fun h => by cases h⟩
  · rw [e1]; exact trodAll_mk1 (shut_bool Tryz.underlying4 true)
  · rw [e1]; exact (trodAll_cons_mk (Below.trod laidOutProg (by kernel_rfl) (of_decide_eq_true (by kernel_rfl)) h0 hb (fun z hz => hW'.lt z (by simp [hz]))) (trodAll_cons_mk (shut_int Tryz.underlying5 wx1) trodAll_mk0))
  · rw [e1]; rfl
theorem oorder_holds : Rows.ObjectsOrderSaid :=
  OpenClaim.holds_of_wide 7 Tryz.f7 rfl rfl rfl rfl rfl rfl rfl ⟨rfl, rfl, rfl, rfl, rfl⟩ rfl rfl rfl rfl rfl (by kernel_rfl) Tryz.func7 (by kernel_rfl)
    (of_decide_eq_true (by kernel_rfl)) (by unfold Func.isWrapper; first | (rw [if_pos (by decide +kernel)]; kernel_rfl) | (rw [if_neg (by decide +kernel)]; exact ⟨rfl, rfl⟩))
    (fun os started H enc _ => oorder_lifted os started H enc)
theorem oorder_card : Rows.ObjectsOrderCardSaid :=
  Claim7.holds_tied_plain_at .later [] [.data, .pinned] true Rows.objectsOrderCard.stood.harness false oorder_holds (fun _ h => by cases h) (by kernel_rfl) (fun _ h => by cases h) objectsOrder_row_tie rfl ⟨rfl, rfl⟩ (by kernel_rfl) rfl
    (fun f fn hf hfn => by
      obtain rfl : f = 7 := Option.some.inj ((show Tryz.prog.funcNamed "modcert/modcertlaw49.ObjectsOrder" = some 7 by kernel_rfl).symm.trans hf) |>.symm
      obtain rfl : fn = Tryz.f7 := (Option.some.inj (Tryz.func7.symm.trans hfn)).symm
      exact ⟨by kernel_rfl, fun j t ht => by
        rw [Tryz.params7] at ht
        have hm : t ∈ [44, 5] := by simpa using Array.mem_of_getElem? ht
        have hall : ([44, 5].all fun u => !Tryz.prog.wantsStandIn u) = true := by kernel_rfl
        exact (show Tryz.prog.wantsStandIn t = false by simpa using List.all_eq_true.1 hall t hm)⟩)
    (by kernel_rfl)
#print axioms oorder_card
end Go.Proofs.YtjlpdknomdhbhaaGreatDoor
