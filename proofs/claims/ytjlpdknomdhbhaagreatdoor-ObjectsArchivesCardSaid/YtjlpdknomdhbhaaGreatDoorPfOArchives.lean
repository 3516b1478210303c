/- ObjectsArchives returns true for every input; the input reads as it did. Condition: the laid tables of package utf8, tied to the program's text (the card). -/
import Derived.Test.YtjlpdknomdhbhaaGreatDoorLawOArchives
import Derived.Test.YtjlpdknomdhbhaaGreatDoorObjIn
import Derived.Test.YtjlpdknomdhbhaaGreatDoorRows
import Derived.Test.YtjlpdknomdhbhaaGreatDoorCards
import Derived.Test.YtjlpdknomdhbhaaGreatDoorTie
import Derived.ProofKit
import Derived.OpenShut
import Derived.LaidMore
import Derived.Lay
import Derived.SevenTiedAt
import Derived.Stop.Joined
namespace Go.Proofs.YtjlpdknomdhbhaaGreatDoor
set_option linter.unusedVariables false
set_option linter.unusedSimpArgs false
open Go Go.ChangeShapes Go.WideShapes Go.ChangeAt Go.RowKit
theorem ownKnobNone : ownKnob Tryz.prog.godebug = none := by kernel_rfl
theorem laidOutProg : laidOutB Tryz.prog = true := by kernel_rfl
set_option maxRecDepth 100000 in
theorem oarchives_lifted (os : Os) (started : os.Started) (H : Type) (enc : TypeId × Value → H) :
    ReturnsInHanded {} Tryz.checked os 4 .any (fun w args => (Rows.objectsArchivesSpec.pre enc Tryz.prog Tryz.f4 Rows.objectsArchivesRow.domain false w args ∧ laidMetH Tryz.prog Rows.objectsArchivesRow.laid w) ∧ sizedMet enc Tryz.prog Tryz.f4 (OpenSpec.ofChange Rows.objectsArchivesSpec) false w args)
      (Rows.objectsArchivesSpec.post enc Tryz.prog Tryz.f4 false true false false) := by
  refine returnsInHanded_and_shaped (C := Tryz.checked) (X := fun w _ => laidMetH Tryz.prog Rows.objectsArchivesRow.laid w) (fun _ _ _ hh h => h.of_heap hh) ownKnobNone started (by kernel_rfl) Tryz.func4
    (ChangeSpec.witness_shaped (enc := enc) (C := Tryz.checked) (os := os) (X := fun w _ => laidMetH Tryz.prog Rows.objectsArchivesRow.laid w) false (World.laidAll Tryz.prog os Rows.objectsArchivesRow.laid) #[.slice none 0 0, .agg #[.int .i64 0, .slice none 0 0, .string ⟨#[]⟩]] 8 (World.laidAll_os _ _ _)
      (World.shaped_of_ZipB (by kernel_rfl) (by kernel_rfl)) (by kernel_rfl) (by kernel_rfl) (by kernel_rfl)
      (by rw [MakeChecks.laidMetH_plain _ _ _ (by kernel_rfl)]; exact laidMet_laidAll _ (by kernel_rfl) (by kernel_rfl))) ?_
  intro W base args ds gs before hval0 hW _ hz0 _ hsh _
  have hM := maxL_of hsh
  have hval : ∀ (j : Nat) t v, Tryz.f4.params[j]? = some t → args[j]? = some v → Value.okWide Tryz.prog W .any base t v := hval0
  have hW' := hW
  obtain ⟨p, q, hA0, hV, rfl, _, _⟩ := hW
  have hA : DataW.TrodAll enc Tryz.prog W 0 (fun _ => true) true Tryz.f4.params.toList args.toList ds p := hA0
  rw [Tryz.params4] at hA hval
  obtain ⟨v0, v1, d0, d1, p0, p1, rfl, rfl, rfl, h0, h1⟩ := trodAll_two hA
  obtain ⟨rfl, rfl⟩ := trodVars_none hV
  have e0 : DataW.weightsEach Tryz.prog (Tryz.f4.params.toList ++ Rows.objectsArchivesSpec.plain.varTypes Tryz.prog) ([d0, d1] ++ []) = d0.weights Tryz.prog 34 ++ (d1.weights Tryz.prog 24 ++ []) := by
    rw [Tryz.params4]
    rfl
  have hz0 := e0 ▸ hz0
  simp only [List.all_append, List.all_nil, Bool.and_true, Bool.and_eq_true] at hz0
  obtain ⟨l0, hfs0, hfb0, hfl0⟩ := files_in h0 (okWide_slice Tryz.underlying34 (hval 0 34 v0 rfl rfl)) hz0.1
  have g1 := h1
  obtain ⟨o1, u1, rfl, hxs1, hxb1, hxl1, hxd1⟩ := obj_in (hval 1 24 v1 rfl rfl) h1 hz0.2
  have e1 : Rows.objectsArchivesSpec.fn H ([d0, d1] ++ []) = { results := [.lit (.bool true)], args := [d0, d1] } := by simp [Rows.objectsArchivesSpec]
  refine (oarchives_any _ l0 o1 _ W hM hfs0 hfb0 hfl0 hxs1 hxb1 hxl1 hxd1).mono fun e W' ⟨he, hb⟩ => ?_
  subst he
  refine ⟨_, rfl, _, _, _, [], p0 ++ (p1 ++ []), [], by simpa using hW', ?_, ?_, ?_, hb.frame _, fun h => by cases h⟩
  · rw [e1]; exact trodAll_mk1 (shut_bool Tryz.underlying4 true)
  · rw [e1]; exact (trodAll_cons_mk (Below.trod laidOutProg (by kernel_rfl) (of_decide_eq_true (by kernel_rfl)) h0 hb (fun z hz => hW'.lt z (by simp [hz]))) (trodAll_cons_mk (Below.trod laidOutProg (by kernel_rfl) (of_decide_eq_true (by kernel_rfl)) h1 hb (fun z hz => hW'.lt z (by simp [hz]))) trodAll_mk0))
  · rw [e1]; rfl
theorem oarchives_holds : Rows.ObjectsArchivesSaid :=
  OpenClaim.holds_of_wide 4 Tryz.f4 rfl rfl rfl rfl rfl rfl rfl ⟨rfl, rfl, rfl, rfl, rfl⟩ rfl rfl rfl rfl rfl (by kernel_rfl) Tryz.func4 (by kernel_rfl)
    (of_decide_eq_true (by kernel_rfl)) (by unfold Func.isWrapper; first | (rw [if_pos (by decide +kernel)]; kernel_rfl) | (rw [if_neg (by decide +kernel)]; exact ⟨rfl, rfl⟩))
    (fun os started H enc _ => oarchives_lifted os started H enc)
theorem oarchives_card : Rows.ObjectsArchivesCardSaid :=
  Claim7.holds_tied_plain_at .later [] [.data, .pinned] true Rows.objectsArchivesCard.stood.harness false oarchives_holds (fun _ h => by cases h) (by kernel_rfl) (fun _ h => by cases h) objectsArchives_row_tie rfl ⟨rfl, rfl⟩ (by kernel_rfl) rfl
    (fun f fn hf hfn => by
      obtain rfl : f = 4 := Option.some.inj ((show Tryz.prog.funcNamed "modcert/modcertlaw49.ObjectsArchives" = some 4 by kernel_rfl).symm.trans hf) |>.symm
      obtain rfl : fn = Tryz.f4 := (Option.some.inj (Tryz.func4.symm.trans hfn)).symm
      exact ⟨by kernel_rfl, fun j t ht => by
        rw [Tryz.params4] at ht
        have hm : t ∈ [34, 24] := by simpa using Array.mem_of_getElem? ht
        have hall : ([34, 24].all fun u => !Tryz.prog.wantsStandIn u) = true := by kernel_rfl
        exact (show Tryz.prog.wantsStandIn t = false by simpa using List.all_eq_true.1 hall t hm)⟩)
    (by kernel_rfl)
#print axioms oarchives_card
end Go.Proofs.YtjlpdknomdhbhaaGreatDoor
