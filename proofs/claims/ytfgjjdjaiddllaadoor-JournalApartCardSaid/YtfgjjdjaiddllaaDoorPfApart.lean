/- JournalApart returns true for every input; the input reads as it did. Condition: the laid tables of package utf8, tied to the program's text (the card). -/
import Derived.Test.YtfgjjdjaiddllaaDoorLawApart
import Derived.Test.YtfgjjdjaiddllaaDoorLawC
import Derived.Test.YtfgjjdjaiddllaaDoorRows
import Derived.Test.YtfgjjdjaiddllaaDoorCards
import Derived.Test.YtfgjjdjaiddllaaDoorTie
import Derived.ProofKit
import Derived.OpenShut
import Derived.LaidMore
import Derived.Lay
import Derived.SevenTiedAt
import Derived.Stop.Joined
namespace Go.Proofs.YtfgjjdjaiddllaaDoor
set_option linter.unusedVariables false
set_option linter.unusedSimpArgs false
open Go Go.ChangeShapes Go.WideShapes Go.ChangeAt Go.RowKit
theorem ownKnobNone : ownKnob Tryd.prog.godebug = none := by kernel_rfl
theorem laidOutProg : laidOutB Tryd.prog = true := by kernel_rfl
set_option maxRecDepth 100000 in
theorem apart_lifted (os : Os) (started : os.Started) (H : Type) (enc : TypeId × Value → H) :
    ReturnsInHanded {} Tryd.checked os 6 .any (fun w args => (Rows.journalApartSpec.pre enc Tryd.prog Tryd.f6 Rows.journalApartRow.domain false w args ∧ laidMetH Tryd.prog Rows.journalApartRow.laid w) ∧ sizedMet enc Tryd.prog Tryd.f6 (OpenSpec.ofChange Rows.journalApartSpec) false w args)
      (Rows.journalApartSpec.post enc Tryd.prog Tryd.f6 false true false false) := by
  refine returnsInHanded_of_change_and (C := Tryd.checked) (X := fun w _ => laidMetH Tryd.prog Rows.journalApartRow.laid w) (fun _ _ _ hh h => h.of_heap hh) ownKnobNone started (by kernel_rfl) Tryd.func6
    (ChangeSpec.witness_shaped (enc := enc) (C := Tryd.checked) (os := os) (X := fun w _ => laidMetH Tryd.prog Rows.journalApartRow.laid w) false (World.laidAll Tryd.prog os Rows.journalApartRow.laid) #[.int .u8 0, .int .u8 0, .slice none 0 0, .slice none 0 0] 8 (World.laidAll_os _ _ _)
      (World.shaped_of_ZipB (by kernel_rfl) (by kernel_rfl)) (by kernel_rfl) (by kernel_rfl) (by kernel_rfl)
      (by rw [MakeChecks.laidMetH_plain _ _ _ (by kernel_rfl)]; exact laidMet_laidAll _ (by kernel_rfl) (by kernel_rfl))) ?_
  intro W base args ds gs before hval0 hW _ hz0 _ _
  have hval : ∀ (j : Nat) t v, Tryd.f6.params[j]? = some t → args[j]? = some v → Value.okWide Tryd.prog W .any base t v := hval0
  have hW' := hW
  obtain ⟨p, q, hA0, hV, rfl, _, _⟩ := hW
  have hA : DataW.TrodAll enc Tryd.prog W 0 (fun _ => true) true Tryd.f6.params.toList args.toList ds p := hA0
  rw [Tryd.params6] at hA hval
  obtain ⟨v0, v1, v2, v3, d0, d1, d2, d3, p0, p1, p2, p3, rfl, rfl, rfl, h0, h1, h2, h3⟩ := trodAll_four hA
  obtain ⟨rfl, rfl⟩ := trodVars_none hV
  obtain ⟨x0, rfl, rfl, rfl, wx0⟩ := open_int Tryd.underlying5 (hval 0 5 v0 rfl rfl) h0
  have hx0 : 0 ≤ x0 ∧ x0 < 256 := by
    have := wx0
    simp [Lit.wf, IntKind.has] at this
    have h1 : IntKind.u8.min = 0 := by decide
    have h2 : IntKind.u8.max = 255 := by decide
    omega
  obtain ⟨x1, rfl, rfl, rfl, wx1⟩ := open_int Tryd.underlying5 (hval 1 5 v1 rfl rfl) h1
  have hx1 : 0 ≤ x1 ∧ x1 < 256 := by
    have := wx1
    simp [Lit.wf, IntKind.has] at this
    have h1 : IntKind.u8.min = 0 := by decide
    have h2 : IntKind.u8.max = 255 := by decide
    omega
  obtain ⟨a2, len2, cap2, rfl⟩ := okWide_slice Tryd.underlying22 (hval 2 22 v2 rfl rfl)
  obtain ⟨a3, len3, cap3, rfl⟩ := okWide_slice Tryd.underlying22 (hval 3 22 v3 rfl rfl)
  have e0 : DataW.weightsEach Tryd.prog (Tryd.f6.params.toList ++ Rows.journalApartSpec.plain.varTypes Tryd.prog) ([DataW.lit (.int .u8 x0), DataW.lit (.int .u8 x1), d2, d3] ++ []) = d2.weights Tryd.prog 22 ++ (d3.weights Tryd.prog 22 ++ []) := by
    rw [Tryd.params6]
    rfl
  have hz0 := e0 ▸ hz0
  simp only [List.all_append, List.all_nil, Bool.and_true, Bool.and_eq_true] at hz0
  obtain ⟨xs2, hxs2, hxb2, hxl2⟩ := strs_in h2 hz0.1
  obtain ⟨xs3, hxs3, hxb3, hxl3⟩ := strs_in h3 hz0.2
  have e1 : Rows.journalApartSpec.fn H ([.lit (.int .u8 x0), .lit (.int .u8 x1), d2, d3] ++ []) = { results := [.lit (.bool true)], args := [.lit (.int .u8 x0), .lit (.int .u8 x1), d2, d3] } := by simp [Rows.journalApartSpec]
  refine (apart_any x0 x1 _ _ xs2 xs3 W hx0 hx1 hxs2 hxs3 hxb2 hxl2 hxb3 hxl3).mono fun e W' ⟨he, hb⟩ => ?_
  subst he
  refine ⟨_, rfl, _, _, _, [], [] ++ ([] ++ (p2 ++ (p3 ++ []))), [], by simpa using hW', ?_, ?_, ?_, hb.frame _, fun h => by cases h⟩
  · rw [e1]; exact trodAll_mk1 (shut_bool Tryd.underlying4 true)
  · rw [e1]; exact (trodAll_cons_mk (shut_int Tryd.underlying5 wx0) (trodAll_cons_mk (shut_int Tryd.underlying5 wx1) (trodAll_cons_mk (Below.trod laidOutProg (by kernel_rfl) (of_decide_eq_true (by kernel_rfl)) h2 hb (fun z hz => hW'.lt z (by simp [hz]))) (trodAll_cons_mk (Below.trod laidOutProg (by kernel_rfl) (of_decide_eq_true (by kernel_rfl)) h3 hb (fun z hz => hW'.lt z (by simp [hz]))) trodAll_mk0))))
  · rw [e1]; rfl
theorem apart_holds : Rows.JournalApartSaid :=
  OpenClaim.holds_of_wide 6 Tryd.f6 rfl rfl rfl rfl rfl rfl rfl ⟨rfl, rfl, rfl, rfl, rfl⟩ rfl rfl rfl rfl rfl (by kernel_rfl) Tryd.func6 (by kernel_rfl)
    (of_decide_eq_true (by kernel_rfl)) (by unfold Func.isWrapper; first | (rw [if_pos (by decide +kernel)]; kernel_rfl) | (rw [if_neg (by decide +kernel)]; exact ⟨rfl, rfl⟩))
    (fun os started H enc _ => apart_lifted os started H enc)
theorem apart_card : Rows.JournalApartCardSaid :=
  Claim7.holds_tied_plain_at .later [] [.data, .pinned] true Rows.journalApartCard.stood.harness false apart_holds (fun _ h => by cases h) (by kernel_rfl) (fun _ h => by cases h) journalApart_row_tie rfl ⟨rfl, rfl⟩ (by kernel_rfl) rfl
    (fun f fn hf hfn => by
      obtain rfl : f = 6 := Option.some.inj ((show Tryd.prog.funcNamed "modcert/modcertlaw51.JournalApart" = some 6 by kernel_rfl).symm.trans hf) |>.symm
      obtain rfl : fn = Tryd.f6 := (Option.some.inj (Tryd.func6.symm.trans hfn)).symm
      exact ⟨by kernel_rfl, fun j t ht => by
        rw [Tryd.params6] at ht
        have hm : t ∈ [5, 5, 22, 22] := by simpa using Array.mem_of_getElem? ht
        have hall : ([5, 5, 22, 22].all fun u => !Tryd.prog.wantsStandIn u) = true := by kernel_rfl
        exact (show Tryd.prog.wantsStandIn t = false by simpa using List.all_eq_true.1 hall t hm)⟩)
    (by kernel_rfl)
#print axioms apart_card
end Go.Proofs.YtfgjjdjaiddllaaDoor
