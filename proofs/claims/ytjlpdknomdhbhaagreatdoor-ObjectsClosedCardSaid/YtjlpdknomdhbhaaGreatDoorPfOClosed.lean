/- ObjectsClosed returns true for every input; the input reads as it did. Condition: the laid tables of package utf8, tied to the program's text (the card). -/
import Derived.Test.YtjlpdknomdhbhaaGreatDoorLawOClosed
import Derived.Test.YtjlpdknomdhbhaaGreatDoorObjsIn
import Derived.Test.YtjlpdknomdhbhaaGreatDoorBytIn
import Derived.Test.YtjlpdknomdhbhaaGreatDoorObjIn
import Derived.Test.YtjlpdknomdhbhaaGreatDoorRows
import Derived.Test.YtjlpdknomdhbhaaGreatDoorCards
import Derived.Test.YtjlpdknomdhbhaaGreatDoorTie
import Derived.ProofKit
import Derived.OpenShut
import Derived.LaidMore
import Derived.Lay
import Derived.SevenTiedAt
import Derived.Stop.Joined
namespace Go.Proofs.YtjlpdknomdhbhaaGreatDoor
set_option linter.unusedVariables false
set_option linter.unusedSimpArgs false
open Go Go.ChangeShapes Go.WideShapes Go.ChangeAt Go.RowKit
theorem ownKnobNone : ownKnob Tryz.prog.godebug = none := by kernel_rfl
theorem laidOutProg : laidOutB Tryz.prog = true := by kernel_rfl
set_option maxRecDepth 100000 in
theorem oclosed_lifted (os : Os) (started : os.Started) (H : Type) (enc : TypeId × Value → H) :
    ReturnsInHanded {} Tryz.checked os 8 .any (fun w args => (Rows.objectsClosedSpec.pre enc Tryz.prog Tryz.f8 Rows.objectsClosedRow.domain false w args ∧ laidMetH Tryz.prog Rows.objectsClosedRow.laid w) ∧ sizedMet enc Tryz.prog Tryz.f8 (OpenSpec.ofChange Rows.objectsClosedSpec) false w args)
      (Rows.objectsClosedSpec.post enc Tryz.prog Tryz.f8 false true false false) := by
  refine returnsInHanded_and_shaped (C := Tryz.checked) (X := fun w _ => laidMetH Tryz.prog Rows.objectsClosedRow.laid w) (fun _ _ _ hh h => h.of_heap hh) ownKnobNone started (by kernel_rfl) Tryz.func8
    (ChangeSpec.witness_shaped (enc := enc) (C := Tryz.checked) (os := os) (X := fun w _ => laidMetH Tryz.prog Rows.objectsClosedRow.laid w) false (World.laidAll Tryz.prog os Rows.objectsClosedRow.laid) #[.slice none 0 0, .slice none 0 0, .slice none 0 0, .slice none 0 0] 8 (World.laidAll_os _ _ _)
      (World.shaped_of_ZipB (by kernel_rfl) (by kernel_rfl)) (by kernel_rfl) (by kernel_rfl) (by kernel_rfl)
      (by rw [MakeChecks.laidMetH_plain _ _ _ (by kernel_rfl)]; exact laidMet_laidAll _ (by kernel_rfl) (by kernel_rfl))) ?_
  intro W base args ds gs before hval0 hW _ hz0 _ hsh _
  have hM := maxL_of hsh
  have hval : ∀ (j : Nat) t v, Tryz.f8.params[j]? = some t → args[j]? = some v → Value.okWide Tryz.prog W .any base t v := hval0
  have hW' := hW
  obtain ⟨p, q, hA0, hV, rfl, _, _⟩ := hW
  have hA : DataW.TrodAll enc Tryz.prog W 0 (fun _ => true) true Tryz.f8.params.toList args.toList ds p := hA0
  rw [Tryz.params8] at hA hval
  obtain ⟨v0, v1, v2, v3, d0, d1, d2, d3, p0, p1, p2, p3, rfl, rfl, rfl, h0, h1, h2, h3⟩ := trodAll_four hA
  obtain ⟨rfl, rfl⟩ := trodVars_none hV
  obtain ⟨a3, len3, cap3, rfl⟩ := okWide_slice Tryz.underlying22 (hval 3 22 v3 rfl rfl)
  have e0 : DataW.weightsEach Tryz.prog (Tryz.f8.params.toList ++ Rows.objectsClosedSpec.plain.varTypes Tryz.prog) ([d0, d1, d2, d3] ++ []) = d0.weights Tryz.prog 44 ++ (d1.weights Tryz.prog 45 ++ (d2.weights Tryz.prog 45 ++ (d3.weights Tryz.prog 22 ++ []))) := by
    rw [Tryz.params8]
    rfl
  have hz0 := e0 ▸ hz0
  simp only [List.all_append, List.all_nil, Bool.and_true, Bool.and_eq_true] at hz0
  obtain ⟨l0, hos0, hor0⟩ := objs_in h0 (okWide_slice Tryz.underlying44 (hval 0 44 v0 rfl rfl)) hz0.1
  obtain ⟨a1, len1, cap1, rfl⟩ := okWide_slice Tryz.underlying45 (hval 1 45 v1 rfl rfl)
  obtain ⟨bs1, hby1⟩ := byts_in h1
  obtain ⟨a2, len2, cap2, rfl⟩ := okWide_slice Tryz.underlying45 (hval 2 45 v2 rfl rfl)
  obtain ⟨bs2, hby2⟩ := byts_in h2
  obtain ⟨xs3, hxs3, hxb3, hxl3⟩ := strs_in h3 hz0.2.2.2
  have e1 : Rows.objectsClosedSpec.fn H ([d0, d1, d2, d3] ++ []) = { results := [.lit (.bool true)], args := [d0, d1, d2, d3] } := by simp [Rows.objectsClosedSpec]
  refine (oclosed_any _ _ _ _ l0 bs1 bs2 xs3 W hM hos0 hor0 hby1 hby2 hxs3 hxb3 hxl3).mono fun e W' ⟨he, hb⟩ => ?_
  subst he
  refine ⟨_, rfl, _, _, _, [], p0 ++ (p1 ++ (p2 ++ (p3 ++ []))), [], by simpa using hW', ?_, ?_, ?_, hb.frame _, fun h => by cases h⟩
  · rw [e1]; exact trodAll_mk1 (shut_bool Tryz.underlying4 true)
  · rw [e1]; exact (trodAll_cons_mk (Below.trod laidOutProg (by kernel_rfl) (of_decide_eq_true (by kernel_rfl)) h0 hb (fun z hz => hW'.lt z (by simp [hz]))) (trodAll_cons_mk (Below.trod laidOutProg (by kernel_rfl) (of_decide_eq_true (by kernel_rfl)) h1 hb (fun z hz => hW'.lt z (by simp [hz]))) (trodAll_cons_mk (Below.trod laidOutProg (by kernel_rfl) (of_decide_eq_true (by kernel_rfl)) h2 hb (fun z hz => hW'.lt z (by simp [hz]))) (trodAll_cons_mk (Below.trod laidOutProg (by kernel_rfl) (of_decide_eq_true (by kernel_rfl)) h3 hb (fun z hz => hW'.lt z (by simp [hz]))) trodAll_mk0))))
  · rw [e1]; rfl
theorem oclosed_holds : Rows.ObjectsClosedSaid :=
  OpenClaim.holds_of_wide 8 Tryz.f8 rfl rfl rfl rfl rfl rfl rfl ⟨rfl, rfl, rfl, rfl, rfl⟩ rfl rfl rfl rfl rfl (by kernel_rfl) Tryz.func8 (by kernel_rfl)
    (of_decide_eq_true (by kernel_rfl)) (by unfold Func.isWrapper; first | (rw [if_pos (by decide +kernel)]; kernel_rfl) | (rw [if_neg (by decide +kernel)]; exact ⟨rfl, rfl⟩))
    (fun os started H enc _ => oclosed_lifted os started H enc)
theorem oclosed_card : Rows.ObjectsClosedCardSaid :=
  Claim7.holds_tied_plain_at .later [] [.data, .pinned] true Rows.objectsClosedCard.stood.harness false oclosed_holds (fun _ h => by cases h) (by kernel_rfl) (fun _ h => by cases h) objectsClosed_row_tie rfl ⟨rfl, rfl⟩ (by kernel_rfl) rfl
    (fun f fn hf hfn => by
      obtain rfl : f = 8 := Option.some.inj ((show Tryz.prog.funcNamed "modcert/modcertlaw49.ObjectsClosed" = some 8 by kernel_rfl).symm.trans hf) |>.symm
      obtain rfl : fn = Tryz.f8 := (Option.some.inj (Tryz.func8.symm.trans hfn)).symm
      exact ⟨by kernel_rfl, fun j t ht => by
        rw [Tryz.params8] at ht
        have hm : t ∈ [44, 45, 45, 22] := by simpa using Array.mem_of_getElem? ht
        have hall : ([44, 45, 45, 22].all fun u => !Tryz.prog.wantsStandIn u) = true := by kernel_rfl
        exact (show Tryz.prog.wantsStandIn t = false by simpa using List.all_eq_true.1 hall t hm)⟩)
    (by kernel_rfl)
#print axioms oclosed_card
end Go.Proofs.YtjlpdknomdhbhaaGreatDoor
