/- ReviewDecides returns true for every input; the input reads as it did. -/
import Derived.Test.YtnijhlphcjjpbaaGreatDoorRows
import Derived.Test.YtnijhlphcjjpbaaGreatDoorCards
import Derived.Test.YtnijhlphcjjpbaaGreatDoorTie
import Derived.ProofKit
import Derived.OpenShut
import Derived.LaidMore
import Derived.Lay
import Derived.SevenTiedAt
import Derived.Stop.Joined
import Derived.Test.YtnijhlphcjjpbaaGreatDoorShkDe7
set_option linter.unusedVariables false
set_option linter.unusedSimpArgs false
set_option maxRecDepth 100000
namespace Go.Proofs.YtnijhlphcjjpbaaGreatDoor
section
open Go Go.ChangeShapes Go.WideShapes Go.ChangeAt Go.RowKit
theorem ownKnobNone:ownKnob Tryz.prog.godebug=none:=by kernel_rfl
theorem laidOutProg:laidOutB Tryz.prog=true:=by kernel_rfl
theorem rdecides_lifted (os:Os) (started:os.Started) (H:Type) (enc:TypeId × Value->H):
 ReturnsInHanded {} Tryz.checked os 6 .any (fun w args=>(Rows.reviewDecidesSpec.pre enc Tryz.prog Tryz.f6 Rows.reviewDecidesRow.domain false w args/\laidMetH Tryz.prog Rows.reviewDecidesRow.laid w)/\sizedMet enc Tryz.prog Tryz.f6 (OpenSpec.ofChange Rows.reviewDecidesSpec) false w args)
  (Rows.reviewDecidesSpec.post enc Tryz.prog Tryz.f6 false true false false):=by
 refine returnsInHanded_and_shaped (C:=Tryz.checked) (X:=fun w _=>laidMetH Tryz.prog Rows.reviewDecidesRow.laid w) (fun _ _ _ hh h=>h.of_heap hh) ownKnobNone started (by kernel_rfl) Tryz.func6
  (ChangeSpec.witness_shaped (enc :=enc) (C :=Tryz.checked) (os :=os) (X :=fun w _ => laidMetH Tryz.prog Rows.reviewDecidesRow.laid w) false (World.laidAll Tryz.prog os Rows.reviewDecidesRow.laid) #[.int .u8 0,.int .u8 0,.slice none 0 0] 8 (World.laidAll_os _ _ _)
    (World.shaped_of_ZipB (by kernel_rfl) (by kernel_rfl)) (by kernel_rfl) (by kernel_rfl) (by kernel_rfl)
    (by rw[MakeChecks.laidMetH_plain _ _ _ (by kernel_rfl)];exact laidMet_laidAll _ (by kernel_rfl) (by kernel_rfl))) ?_
 intro W base args ds gs before hval0 hW _ hz0 _ hsh _
 have hM:=maxL_of hsh
 have hval:∀ (j:Nat) t v,Tryz.f6.params[j]? = some t->args[j]? = some v->Value.okWide Tryz.prog W .any base t v:=hval0
 have hW' :=hW
 obtain⟨p,q,hA0,hV,rfl,_,_⟩:=hW
 have hA:DataW.TrodAll enc Tryz.prog W 0 (fun _=>true) true Tryz.f6.params.toList args.toList ds p:=hA0
 rw[Tryz.params6] at hA hval
 obtain⟨v0,v1,v2,d0,d1,d2,p0,p1,p2,rfl,rfl,rfl,h0,h1,h2⟩:=trodAll_three hA
 obtain⟨rfl,rfl⟩:=trodVars_none hV
 obtain⟨x0,rfl,rfl,rfl,wx0⟩:=open_int Tryz.underlying5 (hval 0 5 v0 rfl rfl) h0
 have hx0:0<=x0/\x0<256:=by
  have:=wx0
  simp[Lit.wf,IntKind.has] at this
  have h1:IntKind.u8.min=0:=by decide
  have h2:IntKind.u8.max=255:=by decide
  omega
 obtain⟨x1,rfl,rfl,rfl,wx1⟩:=open_int Tryz.underlying5 (hval 1 5 v1 rfl rfl) h1
 have hx1:0<=x1/\x1<256:=by
  have:=wx1
  simp[Lit.wf,IntKind.has] at this
  have h1:IntKind.u8.min=0:=by decide
  have h2:IntKind.u8.max=255:=by decide
  omega
 have e0:DataW.weightsEach Tryz.prog (Tryz.f6.params.toList++Rows.reviewDecidesSpec.plain.varTypes Tryz.prog) ([DataW.lit (.int .u8 x0),DataW.lit (.int .u8 x1),d2]++[])=d2.weights Tryz.prog 60++[]:=by
  rw[Tryz.params6]
  rfl
 have hz0:=e0 ▸ hz0
 simp only[List.all_append,List.all_nil,Bool.and_true,Bool.and_eq_true] at hz0
 obtain⟨a2,len2,cap2,rfl⟩:=okWide_slice Tryz.underlying60 (hval 2 60 v2 rfl rfl)
 obtain⟨bs2,hby2⟩:=byts_in h2
 have e1:Rows.reviewDecidesSpec.fn H ([.lit (.int .u8 x0),.lit (.int .u8 x1),d2]++[]) = { results:=[.lit (.bool true)],args:=[.lit (.int .u8 x0),.lit (.int .u8 x1),d2] } :=by simp[Rows.reviewDecidesSpec]
 refine(rdecides_any x0 x1 _ bs2 W hM hx0 hx1 hby2).mono fun e W' ⟨he,hb⟩=>?_
 subst he
 refine⟨_,rfl,_,_,_,[],[]++([]++(p2++[])),[],by simpa using hW',?_,?_,?_,hb.frame _,fun h=>by cases h⟩
 ·rw[e1];exact trodAll_mk1 (shut_bool Tryz.underlying4 true)
 ·rw[e1];exact(trodAll_cons_mk (shut_int Tryz.underlying5 wx0) (trodAll_cons_mk (shut_int Tryz.underlying5 wx1) (trodAll_cons_mk (Below.trod laidOutProg (by kernel_rfl) (of_decide_eq_true (by kernel_rfl)) h2 hb (fun z hz=>hW'.lt z (by simp[hz]))) trodAll_mk0)))
 ·rw[e1];rfl
theorem rdecides_holds:Rows.ReviewDecidesSaid:=
 OpenClaim.holds_of_wide 6 Tryz.f6 rfl rfl rfl rfl rfl rfl rfl ⟨rfl,rfl,rfl,rfl,rfl⟩ rfl rfl rfl rfl rfl (by kernel_rfl) Tryz.func6 (by kernel_rfl)
  (of_decide_eq_true (by kernel_rfl)) (by unfold Func.isWrapper;first | (rw[if_pos (by decide +kernel)];kernel_rfl) | (rw[if_neg (by decide +kernel)];exact⟨rfl,rfl⟩))
  (fun os started H enc _=>rdecides_lifted os started H enc)
theorem rdecides_card:Rows.ReviewDecidesCardSaid:=
 Claim7.holds_tied_plain_at .later [] [.data,.pinned] true Rows.reviewDecidesCard.stood.harness false rdecides_holds (fun _ h=>by cases h) (by kernel_rfl) (fun _ h=>by cases h) reviewDecides_row_tie rfl ⟨rfl,rfl⟩ (by kernel_rfl) rfl
  (fun f fn hf hfn => by
    obtain rfl : f = 6 := Option.some.inj ((show Tryz.prog.funcNamed "modcert/modcertlaw54.ReviewDecides" = some 6 by kernel_rfl).symm.trans hf) |>.symm
    obtain rfl:fn=Tryz.f6:=(Option.some.inj (Tryz.func6.symm.trans hfn)).symm
    exact⟨by kernel_rfl,fun j t ht=>by
     rw[Tryz.params6] at ht
     have hm:t∈[5,5,60]:=by simpa using Array.mem_of_getElem? ht
     have hall:([5,5,60].all fun u => !Tryz.prog.wantsStandIn u)=true:=by kernel_rfl
     exact(show Tryz.prog.wantsStandIn t=false by simpa using List.all_eq_true.1 hall t hm)⟩)
  (by kernel_rfl)
end
end Go.Proofs.YtnijhlphcjjpbaaGreatDoor
