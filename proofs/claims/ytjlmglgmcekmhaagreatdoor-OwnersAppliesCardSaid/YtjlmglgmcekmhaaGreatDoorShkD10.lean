/- The reference's Apply. -/
import Derived.SliceStrings
import Derived.HandedShaped
import Derived.Deep.Strs
import Derived.Deep.SlicePairs
import Derived.ChangeMaps5
import Derived.Test.YtjlmglgmcekmhaaGreatDoorShkD1
import Derived.Test.YtjlmglgmcekmhaaGreatDoorShkD9
set_option linter.unusedVariables false
set_option linter.unusedSimpArgs false
set_option maxRecDepth 100000
set_option maxHeartbeats 1000000
namespace Go.Proofs.YtjlmglgmcekmhaaGreatDoor
section
open Go Go.RowKit Go.Maps
namespace Own
def zee (w:World)(R:Ao × Int)(e:Ending)(w' : World):Prop:=
 (∃ sv kv,e=.returned (.tuple #[.agg #[.int .i64 R.1.count,sv,kv],.int .i64 R.2])/\BF w' sv R.1.spaces/\Du w' kv R.1.keys)/\Below w.heap.size w w'
def auS (a:Option Space):Space:=a.getD ⟨⟨#[]⟩,[],0⟩
theorem YA.zef {w w' : World}{r:Option Space}{e:Ending}(h:YA w r e w'):(∃ v',e=.returned (.tuple #[.agg #[.string (auS r).pre,v',.int .i64 (auS r).threshold],.bool r.isSome])/\Af w' v' (auS r).members)/\Below w.heap.size w w':=by
 obtain⟨h,hb⟩:=h
 refine⟨?_,hb⟩
 cases r with
 | none=>exact⟨_,h,Aq.nil _ _⟩
 | some s =>
   obtain⟨v',h1,h2⟩:=h
   exact⟨v',h1,Af.of (Bc.own h2) rfl⟩
end Own
theorem zcu (o:Own.Ao)(op:Own.Op)(sv kv mv av:Value)(w:World)(hS:Own.BF w sv o.spaces)(hK:Own.Du w kv o.keys)(hm:Own.Af w mv op.members)(hA:Own.Hq w av op.Aa)
 (hcap:Eb sv) (hls:o.spaces.length<=1000) (hlk:o.keys.length+op.Aa.length<=900000) (hlm:∀ s∈o.spaces,s.members.length<=1000/\s.pre.size<=1000) (hml:op.members.length<=1000) (hps:op.pre.size<=1000)
 (hal:∀ a∈op.Aa,a.sig.chains.length<=140737488355328/\a.sig.path.length<=140737488355328):
 Calls Tryz.prog 15 #[.agg #[.int .i64 o.count,sv,kv],Own.opV op mv av] w (Own.zee w (Own.Cg o op)):=by
 obtain⟨R,hR⟩:∃ R,R=Own.Cg o op:=⟨_,rfl⟩
 obtain⟨Q,hQ⟩:∃ Q,Q=Own.zee w R:=⟨_,rfl⟩
 rw[<- hR,<- hQ]
 rw[Own.zcZ] at hR
 have haa:∃ a c,av=.slice a op.Aa.length c:=by obtain⟨a,c,h,_⟩:=id hA;exact⟨a,c,h⟩
 have hvl:=fun W (hW:Below w.heap.size w W)=>Rb o sv kv W (hS.below hW) (hK.below hW) (by omega) (by omega) (fun s hs=>by have:=hlm s hs;omega)
 have hwf:=fun W (hW:Below w.heap.size w W)=>NP op mv av W (hm.below hW) haa (by omega) (by omega)
 have hix:=fun W (hW:Below w.heap.size w W)=>zcs o.count sv kv o.spaces op.pre W (hS.below hW) (by omega)
 have hau:=fun W (hW:Below w.heap.size w W)=>(Qh o op.pre sv kv W (hS.below hW) (hK.below hW) (by omega) (by omega) (fun s hs=>by have:=hlm s hs;omega) (by omega)).mono (fun e w' h=>Own.YA.zef h)
 have hms:=fun W (hW:Below w.heap.size w W)=>VI o op sv kv mv av W (by obtain⟨a,c,h⟩:=hS.len;exact⟨a,_,c,h⟩) (by obtain⟨a,c,h⟩:=hK.len;exact⟨a,_,c,h⟩) (hm.below hW) haa (by omega) (by omega)
 have hmz:=Own.Sy o op
 have hS2:=fun W (hW:Below w.heap.size w W)=>((hS.mono (G:=fun k=>k<w.heap.size) (fun k _ hk=>hk)).below hW).mono (G:=fun k=>¬ (w.heap.size<=k/\k<w.heap.size+3)) (fun k hk _ h=>by have hk:k<w.heap.size:=hk;omega)
 have hK2:=fun W (hW:Below w.heap.size w W)=>((hK.mono (G:=fun k=>k<w.heap.size) (fun k _ hk=>hk)).below hW).mono (G:=fun k=>¬ (w.heap.size<=k/\k<w.heap.size+3)) (fun k hk _ h=>by have hk:k<w.heap.size:=hk;omega)
 have haf:=fun(h1:Own.Bv o=true) (s:Own.Space) (v:Value) W (hW:Below w.heap.size w W) (h3:w.heap.size+3<=W.heap.size) (hv:Own.Af W v s.members) (hl:s.members.length<=1000)=>vB (fun k=>w.heap.size<=k/\k<w.heap.size+3) o s (Own.AZ o op).1 op.Aa sv kv v av W (fun k hk=>Nat.lt_of_lt_of_le hk.2 h3) (hS2 W hW) (hK2 W hW) hv (hA.below hW) (Own.Rt.iff.1 h1).sD hlk (by omega) (by omega) hal
 have hpu:=fun(h1:Own.Bv o=true) (X:Nat->Prop) (s:Own.Space) (v:Value) W (hW:Below w.heap.size w W) (hX:∀ k,X k->w.heap.size<=k/\k<W.heap.size) (hv:Own.Af W v s.members) (hl:s.members.length<=1000)=>zda X sv v o.spaces s W (fun k hk=>(hX k hk).2) (((hS.mono (G:=fun k=>k<w.heap.size) (fun k _ hk=>hk)).below hW).mono (G:=fun k=>¬ X k) (fun k hk _ h=>by have hk:k<w.heap.size:=hk;have:=(hX k h).1;omega)) hv (Own.Rt.iff.1 h1).iG (by omega) (by omega)
 have HWO:=zh (fun(h1:Own.Bv o=true) (h2:Own.Eh op=true) s l' => Own.sG (s:=s) (l':=l') h2 (Own.Rt.iff.1 h1).sp (Own.Rt.iff.1 h1).len (Own.Rt.iff.1 h1).iG)
 have HAB:=zh (fun(h1:Own.Bv o=true) (h2:Own.Eh op=true)=>Own.zdm h1 (Own.zcf h2).1)
 have HKD:=zh (fun(h2:Own.Eh op=true)=>(Own.zcf h2).2)
 have HAS:=zh (fun(h1:Own.Bv o=true) (s:Own.Space) (hm:Own.KO s.members)=>Own.zca (Own.Rt.iff.1 h1) hm (Own.AZ o op).1 op.Aa)
 have HSR:=zh (fun(h1:Own.Bv o=true)=>(Own.Rt.iff.1 h1).iG)
 have HCB:=zh (fun(h1:Own.Bv o=true)=>And.intro (Own.Rt.iff.1 h1).c0 (Own.Rt.iff.1 h1).c1)
 have HO1:=zh (fun(h1:Own.Bv o=true)=>(Own.Rt.iff.1 h1).sp)
 obtain⟨msg,JF⟩:∃ m,m=Own.AZ o op:=⟨_,rfl⟩
 obtain⟨A,hA'⟩:∃ A,A=Own.authority o op.pre:=⟨_,rfl⟩
 obtain⟨OKo,zex⟩:∃ b,b=Own.Bv o:=⟨_,rfl⟩
 obtain⟨OKp,zey⟩:∃ b,b=Own.Eh op:=⟨_,rfl⟩
 obtain⟨WHO,zdG⟩:∃ b,b=Own.Fh o.spaces op:=⟨_,rfl⟩
 simp only[<- JF,<- hA',<- zex,<- zey,<- zdG] at hR hvl hwf hix hau hms haf hpu HWO HAB HKD HAS HO1 HCB HSR
 unfold Own.Fh Own.AQ Own.Wn at zdG
 unfold Own.opV at*
 obtain⟨kd,pre,ms,th,nm,pb,aps⟩:=op
 obtain⟨cnt,S,K0⟩:=o
 obtain⟨zeg,zeY⟩:=msg
 dsimp only at*
 obtain⟨sa,sc,rfl⟩:=hS.len
 obtain⟨ka,kc,rfl⟩:=hK.len
 obtain⟨ma,mc,rfl⟩:=hm.len
 obtain⟨aa,ac,rfl⟩:=haa
 have hsc:S.length<=sc:=by obtain⟨_,_,_,e,h⟩:=hcap;cases e;exact h
 clear hcap
 have HQ:=zh hQ;have HR:=zh hR;have HVL:=zh hvl;have HWF:=zh hwf;have HIX:=zh hix;have HAU:=zh hau;have HMS:=zh hms;have HAF:=zh haf;have HPU:=zh hpu;have HWH:=zh zdG;have HLM:=zh hlm
 have HSS:=zh (hS.mono (G:=fun k=>k<w.heap.size) (fun k _ hk=>hk));have HKK:=zh hK;have HMM:=zh (hm.mono (G:=fun k=>k<w.heap.size) (fun k _ hk=>hk))
 clear hQ hR hvl hwf hix hau hms haf hpu hS2 hK2 zdG hlm hS hK hm hA hal hmz JF hA' zex zey
 have F1:=zh (show Au w _ [(25,#[.int .i64 cnt,.slice sa S.length sc,.slice ka K0.length kc]),(29,#[.int .i64 kd,.string pre,.slice ma ms.length mc,.int .i64 th,.string nm,.string pb,.slice aa aps.length ac]),(25,#[.int .i64 0,.slice none 0 0,.slice none 0 0])] from((((CY.nil w).push 25 #[.int .i64 cnt,.slice sa S.length sc,.slice ka K0.length kc]).push 29 #[.int .i64 kd,.string pre,.slice ma ms.length mc,.int .i64 th,.string nm,.string pb,.slice aa aps.length ac]).push 25 #[.int .i64 0,.slice none 0 0,.slice none 0 0]).boxes)
 go_enter Tryz.func15,Tryz.ntmps15
 go_upto_region 1 with fail
 generalize (((w.alloc (.cells #[.int .i64 cnt,.slice sa S.length sc,.slice ka K0.length kc] 25)).alloc (.cells #[.int .i64 kd,.string pre,.slice ma ms.length mc,.int .i64 th,.string nm,.string pb,.slice aa aps.length ac] 29)).alloc (.cells #[.int .i64 0,.slice none 0 0,.slice none 0 0] 25))=w1 at*
 obtain⟨x00,x01,x02⟩:=F1.out.Fw rfl
 go_wp2_with fail
 refine(HVL.out w1 F1.out.under).mono ?_
 rintro e w2 ⟨rfl,hb⟩
 have F2:=zh (F1.out.step hb)
 clear hb F1 HVL
 (try clear x00);(try clear x01);(try clear x02)
 cases OKo with
 | false =>
   have HE:=zh (show R=(.none,1) by rw[HR.out];rfl)
   obtain⟨x20,x21,x22,FK,FL,FM⟩:=F2.out.Oh rfl
   go_wp2
   have G2:=(((F2.out.put 2 0 (.int .i64 0) rfl).put 2 1 (.slice none 0 0) rfl).put 2 2 (.slice none 0 0) rfl)
   refine BJ rfl rfl rfl (AJ (G2.at1 2 rfl) Tryz.underlying25 rfl Bt) ?_
   rw[HQ.out,HE.out]
   exact⟨⟨_,_,rfl,Aq.nil _ _,Aq.nil _ _⟩,G2.under⟩
 | true=>
 obtain⟨x00,x01,x02⟩:=F2.out.Fw rfl
 obtain⟨x10,x11,x12,x13,x14,x15,x16⟩:=F2.out.KE rfl
 go_wp2_with fail
 refine(HWF.out w2 F2.out.under).mono ?_
 rintro e w3 ⟨rfl,hb⟩
 have F3:=zh (F2.out.step hb)
 clear hb F2 HWF
 (try clear x00);(try clear x01);(try clear x02);(try clear x10 x11 x12 x13 x14 x15 x16);(try clear x20 x21 x22 FK FL FM)
 cases OKp with
 | false =>
   have HE:=zh (show R=(.none,1) by rw[HR.out];rfl)
   obtain⟨x20,x21,x22,FK,FL,FM⟩:=F3.out.Oh rfl
   go_wp2
   have G2:=(((F3.out.put 2 0 (.int .i64 0) rfl).put 2 1 (.slice none 0 0) rfl).put 2 2 (.slice none 0 0) rfl)
   refine BJ rfl rfl rfl (AJ (G2.at1 2 rfl) Tryz.underlying25 rfl Bt) ?_
   rw[HQ.out,HE.out]
   exact⟨⟨_,_,rfl,Aq.nil _ _,Aq.nil _ _⟩,G2.under⟩
 | true=>
 by_cases Vn:cnt=Own.late
 ·have HE:=zh (show R=(.none,7) by rw[HR.out,if_neg (by decide),if_pos Vn])
  have dl:(cnt==1099511627776)=true:=by rw[beq_iff_eq];exact Vn
  clear Vn
  obtain⟨y00,y01,y02⟩:=F3.out.Fw rfl
  obtain⟨x20,x21,x22,FK,FL,FM⟩:=F3.out.Oh rfl
  go_wp2
  have G2:=(((F3.out.put 2 0 (.int .i64 0) rfl).put 2 1 (.slice none 0 0) rfl).put 2 2 (.slice none 0 0) rfl)
  refine BJ rfl rfl rfl (AJ (G2.at1 2 rfl) Tryz.underlying25 rfl Bt) ?_
  rw[HQ.out,HE.out]
  exact⟨⟨_,_,rfl,Aq.nil _ _,Aq.nil _ _⟩,G2.under⟩
 have HR1:=zh (show R=Own.zdD ⟨cnt,S,K0⟩ zeg aps WHO by rw[HR.out,if_neg (by decide),if_neg Vn])
 have dl:(cnt==1099511627776)=false:=by rw[beq_eq_false_iff_ne];exact Vn
 clear Vn HR
 obtain⟨x00,x01,x02⟩:=F3.out.Fw rfl
 obtain⟨x10,x11,x12,x13,x14,x15,x16⟩:=F3.out.KE rfl
 go_upto_region 6 with fail
 have hb:=(Below.refl w3.heap.size w3).alloc (Nat.le_refl _) (.cells #[.string pre,.slice ma ms.length mc,.int .i64 th] 39)
 have A6:=zh (At.new w3 39 #[.string pre,.slice ma ms.length mc,.int .i64 th])
 have F4:=zh (F3.out.step hb)
 generalize w3.alloc (.cells #[.string pre,.slice ma ms.length mc,.int .i64 th] 39)=w4 at*
 obtain⟨g6,hg⟩:∃ g,g=w3.heap.size:=⟨_,rfl⟩
 have HG6:=zh (show w.heap.size+3<=g6 by have:=F3.out.size;rw[hg];exact this)
 rw[<- hg] at A6 ⊢
 clear hb hg F3
 (try clear x00);(try clear x01);(try clear x02);(try clear x10 x11 x12 x13 x14 x15 x16);(try clear x20 x21 x22 FK FL FM)
 obtain⟨x00,x01,x02⟩:=F4.out.Fw rfl
 obtain⟨x10,x11,x12,x13,x14,x15,x16⟩:=F4.out.KE rfl
 go_wp2_with fail
 refine(HIX.out w4 F4.out.under).mono ?_
 rintro e w5 ⟨⟨ix,rfl,hix⟩,hb⟩
 have F5:=zh (F4.out.step hb);have A65:=zh (A6.out.below hb A6.out.lt);have IX:=zh hix
 clear hb F4 A6 hix HIX
 (try clear x00);(try clear x01);(try clear x02);(try clear x10 x11 x12 x13 x14 x15 x16);(try clear x20 x21 x22 FK FL FM)
 obtain⟨x00,x01,x02⟩:=F5.out.Fw rfl
 obtain⟨x10,x11,x12,x13,x14,x15,x16⟩:=F5.out.KE rfl
 go_wp2_with fail
 refine(HAU.out w5 F5.out.under).mono ?_
 rintro e w6 ⟨⟨v8,rfl,hm8⟩,hb⟩
 have F6:=zh (F5.out.step hb);have A66:=zh (A65.out.below hb A65.out.lt)
 obtain⟨ba,bc,rfl⟩:=hm8.len
 clear hb F5 A65 HAU
 (try clear x00);(try clear x01);(try clear x02);(try clear x10 x11 x12 x13 x14 x15 x16);(try clear x20 x21 x22 FK FL FM)
 go_upto_region 8 with fail
 obtain⟨AS,hAS⟩:∃ a,a=Own.auS A:=⟨_,rfl⟩
 rw[<- hAS] at hm8 ⊢
 have hb:=(Below.refl w6.heap.size w6).alloc (Nat.le_refl _) (.cells #[.string AS.pre,.slice ba AS.members.length bc,.int .i64 AS.threshold] 39)
 have A8:=zh (At.new w6 39 #[.string AS.pre,.slice ba AS.members.length bc,.int .i64 AS.threshold])
 have F7:=zh (F6.out.step hb);have A67:=zh (A66.out.below hb A66.out.lt);have M8:=zh (hm8.below hb)
 have HG8:=zh (show g6<w6.heap.size from A66.out.lt)
 generalize w6.alloc (.cells #[.string AS.pre,.slice ba AS.members.length bc,.int .i64 AS.threshold] 39)=w7 at*
 obtain⟨g8,hg⟩:∃ g,g=w6.heap.size:=⟨_,rfl⟩
 rw[<- hg] at A8 HG8 ⊢
 have zdH:=zh hAS
 clear hb hg F6 A66 hm8 hAS
 obtain⟨x00,x01,x02⟩:=F7.out.Fw rfl
 obtain⟨x10,x11,x12,x13,x14,x15,x16⟩:=F7.out.KE rfl
 go_upto_block 0 with fail
 go_cut [10] (fun v10 wx=>∃ (s:Own.Space) (l' : List Own.Space) (mv' : Value),WHO=.ok (s,l')/\Aq 3 Own.EI (fun k=>¬ (w.heap.size<=k/\k<w.heap.size+3)) wx v10 l' /\ At wx g8 39 #[.string s.pre,mv',.int .i64 s.threshold]/\Own.Af wx mv' s.members/\Au w wx [(25,#[.int .i64 cnt,.slice sa S.length sc,.slice ka K0.length kc]),(29,#[.int .i64 kd,.string pre,.slice ma ms.length mc,.int .i64 th,.string nm,.string pb,.slice aa aps.length ac]),(25,#[.int .i64 0,.slice none 0 0,.slice none 0 0])])
 case first=>
  obtain⟨hk0,hk4⟩:=HKD.out (by trivial)
  have zdI:=zh (HAB.out (by trivial) (by trivial))
  have hG6:=HG6.out;have hG8:=HG8.out
  rcases(show kd=0\/kd=1\/kd=2\/kd=3\/kd=4 by omega) with rfl|rfl|rfl|rfl|rfl
  ·-- a claim
   have hwh:=HWH.out
   rw[if_pos rfl,<- zdI.out] at hwh
   cases A with
   | some sp =>
     have HE:=zh (show R=(.none,5) by rw[HR1.out,hwh];rfl)
     clear hwh
     obtain⟨x20,x21,x22,FK,FL,FM⟩:=F7.out.Oh rfl
     go_wp2
     have G2:=(((F7.out.put 2 0 (.int .i64 0) rfl).put 2 1 (.slice none 0 0) rfl).put 2 2 (.slice none 0 0) rfl)
     refine BJ rfl rfl rfl (AJ (G2.at1 2 rfl) Tryz.underlying25 rfl Bt) ?_
     rw[HQ.out,HE.out]
     exact⟨⟨_,_,rfl,Aq.nil _ _,Aq.nil _ _⟩,G2.under⟩
   | none=>
   by_cases hl:S.length=64
   ·have HE:=zh (show R=(.none,7) by rw[HR1.out,hwh];dsimp only;rw[if_pos hl];rfl)
    have dl:((S.length:Int)==64)=true:=by rw[beq_iff_eq];omega
    clear hwh hl
    obtain⟨x20,x21,x22,FK,FL,FM⟩:=F7.out.Oh rfl
    go_wp2
    have G2:=(((F7.out.put 2 0 (.int .i64 0) rfl).put 2 1 (.slice none 0 0) rfl).put 2 2 (.slice none 0 0) rfl)
    refine BJ rfl rfl rfl (AJ (G2.at1 2 rfl) Tryz.underlying25 rfl Bt) ?_
    rw[HQ.out,HE.out]
    exact⟨⟨_,_,rfl,Aq.nil _ _,Aq.nil _ _⟩,G2.under⟩
   have dl:((S.length:Int)==64)=false:=by rw[beq_eq_false_iff_ne];omega
   dsimp only at hwh
   rw[if_neg hl] at hwh
   have HWE:=zh hwh
   clear hwh hl
   obtain⟨z0,z1,z2⟩:=A67.out.c3
   have a0f:=A8.out.free 0;have a1f:=A8.out.free 1;have a2f:=A8.out.free 2
   obtain⟨y0,y1,y2⟩:=A8.out.c3
   clear a0f a1f a2f y0 y1 y2
   have FD:=zh F7.out.drew
   have Y6:=zh (zi z0)
   have hl6:g6<w7.heap.size:=A67.out.lt
   have hl8:g8<w7.heap.size:=A8.out.lt
   go_upto_region 27 with fail
   refine Lex.zn (fun k=>k=g6) [0] 4 [4] ?_
   simp only[Lex.Bp,zd]
   go_wp2_with fail
   refine(HPU.out (by trivial) (fun k=>w.heap.size<=k/\k<w7.heap.size) ⟨pre,ms,th⟩ (.slice ma ms.length mc) _ FD.out.under (fun k hk=>hk) ((HMM.out.below FD.out.under).mono (fun _ _ _=>trivial)) hml).mono ?_
   rintro e w20 ⟨v',rfl,hsp,hb⟩
   have hbd:Below w7.heap.size w7 w20:=((Below.refl w7.heap.size w7).drew).trans hb
   have F20:=zh (F7.out.step hbd);have A20:=zh (A8.out.below hbd A8.out.lt)
   have zeK:=zh (hbd.block g6 hl6);have M20:=zh (HMM.out.below F20.out.under)
   obtain⟨ra,rc,rfl⟩:=hsp.len
   have SP:=zh hsp
   clear hb hbd z0 z1 z2 hsp
   obtain⟨y0,y1,y2⟩:=A20.out.c3
   have a0f:=A20.out.free 0;have a1f:=A20.out.free 1;have a2f:=A20.out.free 2
   go_wp2
   refine Lex.Mid.intro (fun k hk _=>by rw[hk];exact zeK.out) ?_
   go_wp2
   refine Lex.zk ⟨⟨rfl,Y6.out⟩,trivial⟩ ?_
   go_wp2
   go_meet
   have hA:=((A20.out.set 0 (.string pre)).set 1 (.slice ma ms.length mc)).set 2 (.int .i64 th)
   simp only[List.setIfInBounds_toArray,List.set_cons_zero,List.set_cons_succ] at hA
   have hg3:w.heap.size+3<=g8:=by omega
   have Ip:∀ k,k≠g8->(((w20.setCell ⟨g8,0,none⟩ (.string pre)).setCell ⟨g8,1,none⟩ (.slice ma ms.length mc)).setCell ⟨g8,2,none⟩ (.int .i64 th)).heap[k]? = w20.heap[k]? :=fun k hne=>by
    rw[zo hne,zo hne,zo hne]
   exact⟨⟨pre,ms,th⟩,_,_,HWE.out,(SP.out.keep (by simp[World.setCell]) (fun k hk _=>Ip k (fun e=>hk (by omega)))).mono (fun k hk _ h=>hk (by omega)),hA,(M20.out.keep (by simp[World.setCell]) (fun k hk _=>Ip k (by have hk:k<w.heap.size:=hk;omega))).mono (fun _ _ _=>trivial),((F20.out.QZ hg3 0 _).QZ hg3 1 _).QZ hg3 2 _⟩
  ·-- a change
   have hwh:=HWH.out
   rw[if_neg (by decide),if_pos rfl] at hwh
   rcases IX.out with ⟨rfl,hno,_⟩|⟨j,hj,rfl,hfi,_,_⟩
   ·rw[show Own.GA S pre=none from hno] at hwh
    have HE:=zh (show R=(.none,6) by rw[HR1.out,hwh];rfl)
    clear hwh hno
    obtain⟨x20,x21,x22,FK,FL,FM⟩:=F7.out.Oh rfl
    go_wp2
    have G2:=(((F7.out.put 2 0 (.int .i64 0) rfl).put 2 1 (.slice none 0 0) rfl).put 2 2 (.slice none 0 0) rfl)
    refine BJ rfl rfl rfl (AJ (G2.at1 2 rfl) Tryz.underlying25 rfl Bt) ?_
    rw[HQ.out,HE.out]
    exact⟨⟨_,_,rfl,Aq.nil _ _,Aq.nil _ _⟩,G2.under⟩
   have hex:Own.GA S pre=some S[j]:=hfi
   rw[hex] at hwh
   have has:AS=S[j]:=by rw[zdH.out,zdI.out,Own.Rf S none (fun y hy=>by cases hy) hex];rfl
   rw[<- has] at hwh
   have HWE:=zh hwh
   have dj:decide ((j:Int)<0)=false:=zf
   clear hwh hfi hex has
   obtain⟨z0,z1,z2⟩:=A67.out.c3
   go_wp2_with fail
   refine(HPU.out (by trivial) (fun k=>w.heap.size<=k/\k<w7.heap.size) ⟨pre,ms,th⟩ (.slice ma ms.length mc) w7 F7.out.under (fun k hk=>hk) ((HMM.out.below F7.out.under).mono (fun _ _ _=>trivial)) hml).mono ?_
   rintro e w20 ⟨v',rfl,hsp,hb⟩
   have F20:=zh (F7.out.step hb);have A20:=zh (A8.out.below hb A8.out.lt);have M20:=zh (M8.out.below hb)
   obtain⟨ra,rc,rfl⟩:=hsp.len
   have hz7:=F7.out.size
   have SP:=zh (hsp.mono (G:=fun k=>¬ (w.heap.size<=k/\k<w.heap.size+3)) (fun k hk _ h=>hk ⟨h.1,Nat.lt_of_lt_of_le h.2 hz7⟩))
   clear hb z0 z1 z2 hsp hz7
   go_wp2
   go_meet
   exact⟨AS,_,_,HWE.out,SP.out,A20.out,M20.out,F20.out⟩
  ·-- a zeh
   have hwh:=HWH.out
   rw[if_neg (by decide),if_neg (by decide),if_pos rfl] at hwh
   rcases IX.out with ⟨rfl,hno,_⟩|⟨j,hj,rfl,hfi,_,_⟩
   case inr=>
    rw[show Own.GA S pre=some S[j] from hfi] at hwh
    have HE:=zh (show R=(.none,5) by rw[HR1.out,hwh];rfl)
    have dj:decide ((0:Int)<=j)=true:=zt
    clear hwh hfi
    obtain⟨x20,x21,x22,FK,FL,FM⟩:=F7.out.Oh rfl
    go_wp2
    have G2:=(((F7.out.put 2 0 (.int .i64 0) rfl).put 2 1 (.slice none 0 0) rfl).put 2 2 (.slice none 0 0) rfl)
    refine BJ rfl rfl rfl (AJ (G2.at1 2 rfl) Tryz.underlying25 rfl Bt) ?_
    rw[HQ.out,HE.out]
    exact⟨⟨_,_,rfl,Aq.nil _ _,Aq.nil _ _⟩,G2.under⟩
   rw[show Own.GA S pre=none from hno,<- zdI.out] at hwh
   cases A with
   | none =>
     have HE:=zh (show R=(.none,6) by rw[HR1.out,hwh];rfl)
     clear hwh hno
     obtain⟨x20,x21,x22,FK,FL,FM⟩:=F7.out.Oh rfl
     go_wp2
     have G2:=(((F7.out.put 2 0 (.int .i64 0) rfl).put 2 1 (.slice none 0 0) rfl).put 2 2 (.slice none 0 0) rfl)
     refine BJ rfl rfl rfl (AJ (G2.at1 2 rfl) Tryz.underlying25 rfl Bt) ?_
     rw[HQ.out,HE.out]
     exact⟨⟨_,_,rfl,Aq.nil _ _,Aq.nil _ _⟩,G2.under⟩
   | some sp=>
   by_cases hl:S.length=64
   ·have HE:=zh (show R=(.none,7) by rw[HR1.out,hwh];dsimp only;rw[if_pos hl];rfl)
    have dl:((S.length:Int)==64)=true:=by rw[beq_iff_eq];omega
    clear hwh hl hno
    obtain⟨x20,x21,x22,FK,FL,FM⟩:=F7.out.Oh rfl
    go_wp2
    have G2:=(((F7.out.put 2 0 (.int .i64 0) rfl).put 2 1 (.slice none 0 0) rfl).put 2 2 (.slice none 0 0) rfl)
    refine BJ rfl rfl rfl (AJ (G2.at1 2 rfl) Tryz.underlying25 rfl Bt) ?_
    rw[HQ.out,HE.out]
    exact⟨⟨_,_,rfl,Aq.nil _ _,Aq.nil _ _⟩,G2.under⟩
   have dl:((S.length:Int)==64)=false:=by rw[beq_eq_false_iff_ne];omega
   dsimp only at hwh
   rw[if_neg hl,show sp=AS from zdH.out.symm] at hwh
   have HWE:=zh hwh
   clear hwh hl hno
   obtain⟨z0,z1,z2⟩:=A67.out.c3
   go_wp2_with fail
   refine(HPU.out (by trivial) (fun k=>w.heap.size<=k/\k<w7.heap.size) ⟨pre,ms,th⟩ (.slice ma ms.length mc) w7 F7.out.under (fun k hk=>hk) ((HMM.out.below F7.out.under).mono (fun _ _ _=>trivial)) hml).mono ?_
   rintro e w20 ⟨v',rfl,hsp,hb⟩
   have F20:=zh (F7.out.step hb);have A20:=zh (A8.out.below hb A8.out.lt);have M20:=zh (M8.out.below hb)
   obtain⟨ra,rc,rfl⟩:=hsp.len
   have hz7:=F7.out.size
   have SP:=zh (hsp.mono (G:=fun k=>¬ (w.heap.size<=k/\k<w.heap.size+3)) (fun k hk _ h=>hk ⟨h.1,Nat.lt_of_lt_of_le h.2 hz7⟩))
   clear hb z0 z1 z2 hsp hz7
   go_wp2
   go_meet
   exact⟨AS,_,_,HWE.out,SP.out,A20.out,M20.out,F20.out⟩
  ·-- a release
   have hwh:=HWH.out
   rw[if_neg (by decide),if_neg (by decide),if_neg (by decide),if_pos rfl] at hwh
   rcases IX.out with ⟨rfl,hno,_⟩|⟨j,hj,rfl,hfi,_,_⟩
   ·rw[show Own.GA S pre=none from hno] at hwh
    have HE:=zh (show R=(.none,6) by rw[HR1.out,hwh];rfl)
    clear hwh hno
    obtain⟨x20,x21,x22,FK,FL,FM⟩:=F7.out.Oh rfl
    go_wp2
    have G2:=(((F7.out.put 2 0 (.int .i64 0) rfl).put 2 1 (.slice none 0 0) rfl).put 2 2 (.slice none 0 0) rfl)
    refine BJ rfl rfl rfl (AJ (G2.at1 2 rfl) Tryz.underlying25 rfl Bt) ?_
    rw[HQ.out,HE.out]
    exact⟨⟨_,_,rfl,Aq.nil _ _,Aq.nil _ _⟩,G2.under⟩
   have hex:Own.GA S pre=some S[j]:=hfi
   have hdr:Own.Na S pre=S.take j++S.drop (j+1):=by
    have h:=Own.drop_at (HSR.out (by trivial)) hj
    rwa [(Own.JH hex).2] at h
   have has:AS=S[j]:=by rw[zdH.out,zdI.out,Own.Rf S none (fun y hy=>by cases hy) hex];rfl
   rw[hex] at hwh
   dsimp only at hwh
   rw[hdr,<- has] at hwh
   have HWE:=zh hwh
   have dj:decide ((j:Int)<0)=false:=zf
   obtain⟨b,o,ha,_⟩:=(HSS.out.below F7.out.under).at_ hj
   subst ha
   obtain⟨css,hcl,hce,hcr⟩:=(HSS.out.below F7.out.under).cells
   clear hwh hfi hex has hdr
   have hb0:Below w7.heap.size w7 (w7.drew.alloc (.cells #[] 39)):=(Below.refl w7.heap.size w7).drew.alloc (Nat.le_refl _) _
   have HO0:=zh (Mr w7.drew 39 3 w7.heap.size (Nat.le_refl _))
   have HCR:=zh hcr;have HCE:=zh hce;have HCL:=zh hcl;have HB0:=zh hb0
   have zez:=zh (show ∀ c',Bc (w7.drew.alloc (.cells #[] 39)) (.slice (some ⟨b,o,none⟩) j c') 3 j (css.flatten.take (j*3)) from fun c' => (hcr.below hb0).first (by omega))
   have zdJ:=zh (show ∀ u∈css.flatten,u.oneCell' = true from fun u hu=>by
    obtain⟨cs,h1,h2⟩:=List.mem_flatten.1 hu
    obtain⟨i,hi,rfl⟩:=List.getElem_of_mem h1
    obtain⟨_,mv',h3,h4⟩:=hce i (by omega) hi
    rw[h3] at h2
    obtain⟨_,_,rfl⟩:=h4.len
    simp at h2
    rcases h2 with rfl|rfl|rfl<;>rfl)
   clear hcr hce hcl hb0
   go_upto_region 43 with fail
   refine Lex.zl ?_
   by_cases hsc1:sc=j+1
   ·subst hsc1
    have HRR:=zh (show ∀ W c',Below w7.heap.size w7 W->Bc W (.slice (some ⟨b,o,none⟩) 0 c') 3 0 (css.flatten.drop ((j+1)*3)) from fun W c' _=>by
     rw[List.drop_eq_nil_of_le (by have:=HCR.out.1;omega)]
     exact Bc.zero rfl _ _)
    go_wp2_with (at_builtin;(first|(refine Ah DW rfl _ _ rfl w7.heap.size 0 _ [] rfl HO0.out _ j _ rfl (zez.out _) (fun u hu=>zdJ.out u (List.mem_of_mem_take hu)) (by omega) (by omega) HB0.out.size ?_;intro v5 w5 ho5 hg5 _;rw[Nat.zero_add,List.nil_append] at ho5;obtain⟨va,vm,vc,rfl⟩:=Ac ho5;have hlen:=Ba ho5;subst vm;have HO5:=zh ho5;have HB5:=zh (Bh HB0.out HB0.out.size HO0.out hg5);have zei:=zh (fun c' => HRR.out w5 c' HB5.out);clear ho5 hg5)|(refine Ah DW rfl _ _ rfl w7.heap.size j (.slice va j vc) _ rfl HO5.out _ 0 _ rfl (zei.out _) (fun u hu=>zdJ.out u (List.mem_of_mem_drop hu)) (by omega) (by omega) HB5.out.size ?_;intro v6 w6 ho6 hg6 _;have hb6:=Bh HB5.out HB5.out.size HO5.out hg6;have HB6:=zh hb6;obtain⟨ta,tm,tc,rfl⟩:=Ac ho6;have hlen:=Ba ho6;subst tm;have HO6:=zh ho6;clear ho6 hg6 hb6)))
    refine Lex.ze ?_
    go_wp2
    go_meet
    have hz7:=F7.out.size
    refine⟨AS,_,_,HWE.out,zbd HCL.out HCE.out hj (by first|exact Bc.own HO6.out|(rw[show S.length-(j+1)=0 by omega];exact Bc.own HO6.out)) (fun cs x h=>Dc.mono (Dc.keep h HB6.out.size (fun k _ hl=>HB6.out.block k hl)) (fun k hk _ h2=>by have hk:k<w.heap.size:=hk;omega)) (fun k hk h2=>by have h3:=Ak HO6.out k hk;have h4:w.heap.size+3<=w7.heap.size:=hz7;omega),A8.out.below HB6.out A8.out.lt,M8.out.below HB6.out,F7.out.step HB6.out⟩
   ·have HRR:=zh (show ∀ W c',Below w7.heap.size w7 W->Bc W (.slice (some ⟨b,o+(j+1)*3,none⟩) (S.length-(j+1)) c') 3 (S.length-(j+1)) (css.flatten.drop ((j+1)*3)) from fun W c' hb=>(HCR.out.below hb).rest (by omega))
    go_wp2_with (at_builtin;(first|(refine Ah DW rfl _ _ rfl w7.heap.size 0 _ [] rfl HO0.out _ j _ rfl (zez.out _) (fun u hu=>zdJ.out u (List.mem_of_mem_take hu)) (by omega) (by omega) HB0.out.size ?_;intro v5 w5 ho5 hg5 _;rw[Nat.zero_add,List.nil_append] at ho5;obtain⟨va,vm,vc,rfl⟩:=Ac ho5;have hlen:=Ba ho5;subst vm;have HO5:=zh ho5;have HB5:=zh (Bh HB0.out HB0.out.size HO0.out hg5);have zei:=zh (fun c' => HRR.out w5 c' HB5.out);clear ho5 hg5)|(refine Ah DW rfl _ _ rfl w7.heap.size j (.slice va j vc) _ rfl HO5.out _ (S.length-(j+1)) _ rfl (zei.out _) (fun u hu=>zdJ.out u (List.mem_of_mem_drop hu)) (by omega) (by omega) HB5.out.size ?_;intro v6 w6 ho6 hg6 _;have hb6:=Bh HB5.out HB5.out.size HO5.out hg6;have HB6:=zh hb6;obtain⟨ta,tm,tc,rfl⟩:=Ac ho6;have hlen:=Ba ho6;subst tm;have HO6:=zh ho6;clear ho6 hg6 hb6)))
    refine Lex.ze ?_
    go_wp2
    go_meet
    have hz7:=F7.out.size
    refine⟨AS,_,_,HWE.out,zbd HCL.out HCE.out hj (by first|exact Bc.own HO6.out|(rw[show S.length-(j+1)=0 by omega];exact Bc.own HO6.out)) (fun cs x h=>Dc.mono (Dc.keep h HB6.out.size (fun k _ hl=>HB6.out.block k hl)) (fun k hk _ h2=>by have hk:k<w.heap.size:=hk;omega)) (fun k hk h2=>by have h3:=Ak HO6.out k hk;have h4:w.heap.size+3<=w7.heap.size:=hz7;omega),A8.out.below HB6.out A8.out.lt,M8.out.below HB6.out,F7.out.step HB6.out⟩
  ·-- a rotation
   have hwh:=HWH.out
   rw[if_neg (by decide),if_neg (by decide),if_neg (by decide),if_neg (by decide)] at hwh
   rcases IX.out with ⟨rfl,hno,_⟩|⟨j,hj,rfl,hfi,_,_⟩
   ·rw[show Own.GA S pre=none from hno] at hwh
    have HE:=zh (show R=(.none,6) by rw[HR1.out,hwh];rfl)
    clear hwh hno
    go_upto_region 10 with fail
    refine Lex.zl ?_
    go_wp2
    refine Lex.ze ?_
    have F7d:=zh F7.out.drew
    generalize w7.drew=w8 at*
    (try clear x00);(try clear x01);(try clear x02);(try clear x10 x11 x12 x13 x14 x15 x16);(try clear x20 x21 x22 FK FL FM)
    obtain⟨x20,x21,x22,FK,FL,FM⟩:=F7d.out.Oh rfl
    go_wp2
    have G2:=(((F7d.out.put 2 0 (.int .i64 0) rfl).put 2 1 (.slice none 0 0) rfl).put 2 2 (.slice none 0 0) rfl)
    refine BJ rfl rfl rfl (AJ (G2.at1 2 rfl) Tryz.underlying25 rfl Bt) ?_
    rw[HQ.out,HE.out]
    exact⟨⟨_,_,rfl,Aq.nil _ _,Aq.nil _ _⟩,G2.under⟩
   have hex:Own.GA S pre=some S[j]:=hfi
   have hmo:Own.KO S[j].members:=Own.Da (HO1.out (by trivial) S[j] (List.getElem_mem hj))
   have hpre:=(Own.JH hex).2
   rw[hex] at hwh
   dsimp only at hwh
   obtain⟨b,o,ha,_,hbl,cs,hcl,hce,mv3,hcs,hmm⟩:=(HSS.out.below F7.out.under).at_ hj
   subst ha hcs
   have e0:=hce 0 _ rfl;have e1:=hce 1 _ rfl;have e2:=hce 2 _ rfl
   rw[Nat.add_zero] at e0
   clear hce hcl
   obtain⟨sp,hsp⟩:∃ sp,sp=S[j]:=⟨_,rfl⟩
   rw[<- hsp] at hwh hmo hpre hmm
   simp only[<- hsp] at e0 e1 e2
   obtain⟨spn,spm,spt⟩:=sp
   dsimp only at*
   subst hpre
   obtain⟨qa,qc,rfl⟩:=hmm.len
   have hm8:=hmo.l8
   have MO:=zh hmo;have MM:=zh hmm;have HW0:=zh hwh
   have dj:decide ((j:Int)<0)=false:=zf
   have HMB:=zh (fun W (hW:Below w7.heap.size w7 W)=>dO (.slice qa spm.length qc) spm nm W ((hmm.below hW).mono (fun _ _ _=>trivial)) (by omega))
   clear hwh hfi hex hmo hmm hsp
   have hb8:Below w7.heap.size w7 w7.drew:=(Below.refl _ _).drew
   go_upto_region 10 with fail
   refine Lex.zl ?_
   go_wp2_with fail
   refine(HMB.out _ hb8).mono ?_
   rintro e w9 ⟨⟨i1,rfl,hi1⟩,hb⟩
   have hb9:Below w7.heap.size w7 w9:=hb8.trans hb
   have IX1:=zh hi1
   clear hb hb8 hi1
   have HFD:=zh (show ∀ r,Own.find spm nm=r↔spm.find? (fun m=>decide (m.name=nm))=r from fun _=>Iff.rfl)
   rcases IX1.out with ⟨rfl,hno,_⟩|⟨k,hk,rfl,hfk,hpk,_⟩
   ·have HE:=zh (show R=(.none,6) by rw[HR1.out,HW0.out,(HFD.out none).2 hno];rfl)
    clear hno e0 e1 e2
    (try clear x00);(try clear x01);(try clear x02);(try clear x10 x11 x12 x13 x14 x15 x16);(try clear x20 x21 x22 FK FL FM)
    go_wp2
    refine Lex.ze ?_
    have F9:=zh (F7.out.step hb9)
    obtain⟨x20,x21,x22,FK,FL,FM⟩:=F9.out.Oh rfl
    go_wp2
    have G2:=(((F9.out.put 2 0 (.int .i64 0) rfl).put 2 1 (.slice none 0 0) rfl).put 2 2 (.slice none 0 0) rfl)
    refine BJ rfl rfl rfl (AJ (G2.at1 2 rfl) Tryz.underlying25 rfl Bt) ?_
    rw[HQ.out,HE.out]
    exact⟨⟨_,_,rfl,Aq.nil _ _,Aq.nil _ _⟩,G2.under⟩
   have hw1:=HW0.out
   rw[(HFD.out _).2 hfk] at hw1
   dsimp only at hw1
   have hkn:spm[k].name=nm:=of_decide_eq_true hpk
   have hra:=Own.zdE MO.out hk pb
   have hrs:=Own.zd2 MO.out hk pb hkn
   rw[hrs] at hw1
   have HRA:=zh hra;have HW1:=zh hw1
   clear hfk hpk hw1 hra hrs hkn HW0 HFD
   have dk1:decide ((k:Int)<0)=false:=zf
   have F9:=zh (F7.out.step hb9)
   have mO:b<w9.heap.size:=Nat.lt_of_lt_of_le hbl hb9.size
   replace e0:=(hb9.cell (p:=⟨b,o+j*3,none⟩) hbl).trans e0
   replace e1:=(hb9.cell (p:=⟨b,o+j*3+1,none⟩) hbl).trans e1
   replace e2:=(hb9.cell (p:=⟨b,o+j*3+2,none⟩) hbl).trans e2
   (try clear x00);(try clear x01);(try clear x02);(try clear x10 x11 x12 x13 x14 x15 x16);(try clear x20 x21 x22 FK FL FM)
   go_wp2
   refine Lex.ze ?_
   obtain⟨t00,t01,t02⟩:=F9.out.Fw rfl
   obtain⟨t10,t11,t12,t13,t14,t15,t16⟩:=F9.out.KE rfl
   go_upto_region 12 with fail
   have IY:Below w7.heap.size w7 w9.drew:=hb9.drew
   refine Lex.zl ?_
   go_wp2_with fail
   refine(HMB.out _ IY).mono ?_
   rintro e w11 ⟨⟨i2,rfl,hi2⟩,hb⟩
   obtain rfl:=Own.Idx.det hi2 IX1.out
   have Qb:Below w7.heap.size w7 w11:=IY.trans (hb.mono IY.size)
   have zcK:Below w9.heap.size w9 w11:=(Below.refl w9.heap.size w9).drew.trans hb
   go_wp2
   refine Lex.ze ?_
   have F11:=zh (F7.out.step Qb)
   have tJ:=zh Qb
   have ze0:b<w11.heap.size:=Nat.lt_of_lt_of_le mO zcK.size
   replace e0:=(zcK.cell (p:=⟨b,o+j*3,none⟩) mO).trans e0
   replace e1:=(zcK.cell (p:=⟨b,o+j*3+1,none⟩) mO).trans e1
   replace e2:=(zcK.cell (p:=⟨b,o+j*3+2,none⟩) mO).trans e2
   clear hi2 hb IY hb9 zcK F9 HMB Qb
   (try clear t00 t01 t02);(try clear t10 t11 t12 t13 t14 t15 t16)
   obtain⟨t00,t01,t02⟩:=F11.out.Fw rfl
   obtain⟨t10,t11,t12,t13,t14,t15,t16⟩:=F11.out.KE rfl
   have HCP:=zh (Jh spn spt (.slice qa spm.length qc) spm w11 ((MM.out.below tJ.out).mono (fun _ _ _=>trivial)) (by omega))
   go_wp2_with fail
   refine HCP.out.mono ?_
   rintro e w12 ⟨cv,rfl,hcp,hb⟩
   obtain⟨gc,cc,rfl⟩:∃ gc cc,cv=.slice (some ⟨gc,0,none⟩) spm.length cc:=by
    rcases hcp.2 with ⟨_,h0⟩|⟨g,cap,cur,h,_⟩
    ·exfalso
     have:=hcp.1
     first|omega|(rw[h0] at this;simp at this;omega)
    ·exact⟨g,cap,h⟩
   have ze1:w11.heap.size<=gc:=Ak hcp gc rfl
   have zeL:gc<w12.heap.size:=Own.ET hcp gc rfl
   have zeZ:w7.heap.size<=gc:=Nat.le_trans tJ.out.size ze1
   have qC:Below w7.heap.size w7 w12:=tJ.out.trans (hb.mono tJ.out.size)
   go_upto_region 14 with fail
   have hba:Below w12.heap.size w12 (w12.alloc (.cells #[.string spn,.slice (some ⟨gc,0,none⟩) spm.length cc,.int .i64 spt] 39)):=zb
   have A13:=zh (At.new w12 39 #[.string spn,.slice (some ⟨gc,0,none⟩) spm.length cc,.int .i64 spt])
   have ze2:=zh (qC.trans (hba.mono qC.size))
   have ze3:=zh (Cw (own_below hcp hba) (show w7.heap.size<=w11.heap.size from tJ.out.size))
   clear hb hba qC hcp F11 tJ HCP e0 e1 e2 hbl mO ze0
   (try clear t00 t01 t02);(try clear t10 t11 t12 t13 t14 t15 t16)
   generalize w12.alloc (.cells #[.string spn,.slice (some ⟨gc,0,none⟩) spm.length cc,.int .i64 spt] 39)=w13 at*
   obtain⟨g12,hg⟩:∃ g,g=w12.heap.size:=⟨_,rfl⟩
   rw[<- hg] at A13 zeL ⊢
   clear hg ze1
   have hcm:=Own.Af.of (Bc.own ze3.out) rfl
   have HCM:=zh hcm;clear hcm
   go_upto_region 14 with fail
   go_wp2
   go_loopw [13] (fun i wr=>∃ q:Nat,q<=spm.length/\i=.int .i64 q/\(∀ p (hp:p<spm.length),p<q->¬ (p≠k/\spm[p].pub=pb))/\Below w13.heap.size w13 wr) (fun i _=>spm.length-(intOf i).toNat)
   case atStart=>exact⟨0,by omega,rfl,(fun p _ h=>absurd h (by omega)),Below.refl _ _⟩
   case round=>
    obtain⟨q,hq,rfl,hno,hbr⟩:=hrel
    have HNO:=zh hno
    have HBR:=zh (ze2.out.trans (hbr.mono ze2.out.size))
    have A14:=zh (A13.out.below hbr A13.out.lt);have zeM:=zh (own_below ze3.out hbr);have ze4:=zh (HCM.out.below hbr)
    have F14:=zh (F7.out.step HBR.out);have HB0:=zh (show Below w13.heap.size w13 wr.drew from hbr.drew)
    clear hno hbr
    obtain⟨t0,t1,t2⟩:=A14.out.c3
    by_cases hlt:q<spm.length
    case neg=>
     have hqe:q=spm.length:=by omega
     have dq:decide ((q:Int)<spm.length)=false:=zf
     have hall:¬ (spm.any (fun x => !decide (x.name=spm[k].name)&&decide (x.pub=pb))=true):=fun h=>by
      obtain⟨p,hp,h2⟩:=HRA.out.1 h
      exact HNO.out p hp (by omega) h2
     have HWE:=zh (show WHO=.ok (⟨spn,[spm[k]],1⟩,Own.Dj Own.Space.pre ⟨spn,spm.set k ⟨spm[k].name,pb⟩,spt⟩ S) by rw[HW1.out,if_neg hall])
     clear hall hqe HNO
     obtain⟨b',o',ha',zb7,c0,c1⟩:=Own.Af.cells ze4.out hk
     cases ha'
     rw[Nat.zero_add] at c0 c1
     obtain⟨y,hy⟩:∃ y,y=spm[k]:=⟨_,rfl⟩
     rw[<- hy] at c0 c1
     have hA8:=A8.out.below HBR.out A8.out.lt
     have A18:=zh hA8
     obtain⟨yn,yp⟩:=y
     dsimp only at c0 c1
     have HYY:=zh hy
     obtain⟨s10,s11,s12,s13,s14,s15,s16⟩:=F14.out.KE rfl
     have A19:=zh ((A18.out.alloc (.cells #[.string yn,.string yp] 76)).drew)
     have z0f:=A19.out.free 0;have z1f:=A19.out.free 1;have z2f:=A19.out.free 2
     obtain⟨z0,z1,z2⟩:=A19.out.c3
     have A17:=zh (A18.out.alloc (.cells #[.string yn,.string yp] 76))
     have y0f:=A17.out.free 0;have y1f:=A17.out.free 1;have y2f:=A17.out.free 2
     obtain⟨y0,y1,y2⟩:=A17.out.c3
     clear hy hA8
     go_upto_region 19 with fail
     refine Lex.zl ?_
     go_wp2
     refine Lex.ze ?_
     go_upto_region 20 with fail
     have hl7:w7.heap.size<=wr.heap.size:=HBR.out.size
     have zfa:g8<w7.heap.size:=A8.out.lt
     have zeU:g12<wr.heap.size:=A14.out.lt
     have zfb:gc<wr.heap.size:=by omega
     have Ip:∀ k,k≠g8->k<wr.heap.size+1->(((((wr.alloc (.cells #[.string yn,.string yp] 76)).setCell ⟨g8,0,none⟩ (.string spn)).setCell ⟨g8,1,none⟩ (.slice (some ⟨wr.heap.size,0,none⟩) 1 1)).setCell ⟨g8,2,none⟩ (.int .i64 1)).drew).heap[k]? = (wr.alloc (.cells #[.string yn,.string yp] 76)).heap[k]? :=fun k hne _=>by
      rw[Ez,zo hne,zo hne,zo hne]
     have hba:Below wr.heap.size wr (wr.alloc (.cells #[.string yn,.string yp] 76)):=zb
     have B8:=zh ((((A17.out.set 0 (.string spn)).set 1 (.slice (some ⟨wr.heap.size,0,none⟩) 1 1)).set 2 (.int .i64 1)).drew)
     have hrn:=Cx wr 76 #[.string yn,.string yp] 2 1 1 rfl
     have M8':=zh (show Aq 2 Own.DU (fun k=>k≠gc) _ (.slice (some ⟨wr.heap.size,0,none⟩) 1 1) [⟨yn,yp⟩] from Cq (enc:=Own.Cy) (fun _=>rfl) (fun _=>rfl) (hrn.keep (by simp[World.setCell,Ez]) (fun k hk _=>Ip k (by have:k=wr.heap.size:=(Option.some.inj hk).symm;omega) (by have:k=wr.heap.size:=(Option.some.inj hk).symm;omega))) rfl (fun k hk=>by have:k=wr.heap.size:=(Option.some.inj hk).symm;omega))
     have zdK:=zh (Ae (own_below zeM.out hba) (fun k hk=>Ip k (by have:k=gc:=(Option.some.inj hk).symm;omega) (by have:k=gc:=(Option.some.inj hk).symm;omega)))
     have zej:=zh ((A14.out.below hba A14.out.lt).keep (Ip g12 (by omega) (by omega)))
     have hg3:w.heap.size+3<=g8:=by omega
     have F19:=zh ((((F14.out.step hba).QZ hg3 0 (.string spn)).QZ hg3 1 (.slice (some ⟨wr.heap.size,0,none⟩) 1 1)).QZ hg3 2 (.int .i64 1)).drew
     clear Ip hba hrn A17 A18 A19 y0f y1f y2f y0 y1 y2 z0f z1f z2f z0 z1 z2 c0 c1 t0 t1 t2
     (try clear s10 s11 s12 s13 s14 s15 s16)
     generalize ((((wr.alloc (.cells #[.string yn,.string yp] 76)).setCell ⟨g8,0,none⟩ (.string spn)).setCell ⟨g8,1,none⟩ (.slice (some ⟨wr.heap.size,0,none⟩) 1 1)).setCell ⟨g8,2,none⟩ (.int .i64 1)).drew=w19 at*
     simp only[List.setIfInBounds_toArray,List.set_cons_zero,List.set_cons_succ] at B8
     have c12:=Own.Af.of (Bc.own zdK.out) rfl
     obtain⟨b',o',ha',zb7,c0,c1⟩:=Own.Af.cells c12 hk
     cases ha'
     rw[Nat.zero_add] at c0 c1
     obtain⟨cur,hat⟩:=Db zdK.out rfl
     have c1f:=hat.free (k*2+1)
     obtain⟨t0,t1,t2⟩:=zej.out.c3
     obtain⟨s10,s11,s12,s13,s14,s15,s16⟩:=F19.out.KE rfl
     go_upto_region 21 with fail
     have hpz:(Value.slice (some ⟨gc,0,none⟩) spm.length cc).ownBlock=some gc:=rfl
     have zek:=Own.GH zdK.out (k*2+1) (by rw[Own.Vd];omega) (.string pb)
     rw[<- Own.Vf spm k hk pb] at zek
     have ze5:g8≠gc:=by omega
     have yB:g12≠gc:=by omega
     have B20:=zh (B8.out.far (p:=⟨gc,k*2+1,none⟩) ze5 (.string pb));have A20:=zh (zej.out.far (p:=⟨gc,k*2+1,none⟩) yB (.string pb))
     have F20:=zh (F19.out.QZ (O:=gc) (show w.heap.size+3<=gc by omega) (k*2+1) (.string pb))
     have M20:=zh (M8'.out.keep (w':=w19.setCell ⟨gc,k*2+1,none⟩ (.string pb)) (by simp[World.setCell]) (fun q hq _=>zo hq))
     have OW:=zh zek
     clear hpz zek ze5 yB B8 zej F19 M8' hat c1f c0 c1 t0 t1 t2 zdK c12
     (try clear s10 s11 s12 s13 s14 s15 s16)
     generalize w19.setCell ⟨gc,k*2+1,none⟩ (.string pb)=w20 at*
     obtain⟨t0,t1,t2⟩:=A20.out.c3
     have ze6:Own.Af w20 (.slice (some ⟨gc,0,none⟩) spm.length cc) (spm.set k ⟨spm[k].name,pb⟩):=Own.Af.of (Bc.own OW.out) (by rw[List.length_set])
     have HPT:=zh (HPU.out (by trivial) (fun k=>w.heap.size<=k/\k<w20.heap.size) ⟨spn,spm.set k ⟨spm[k].name,pb⟩,spt⟩ (.slice (some ⟨gc,0,none⟩) spm.length cc) w20 F20.out.under (fun k hk=>hk) ze6 (by show(spm.set k _).length<=1000;rw[List.length_set];omega))
     clear ze6
     go_wp2_with fail
     refine HPT.out.mono ?_
     rintro e w21 ⟨v',rfl,hsp,hb⟩
     have F21:=zh (F20.out.step hb);have B21:=zh (B20.out.below hb B20.out.lt);have M21:=zh (M20.out.below hb)
     obtain⟨ra,rc,rfl⟩:=hsp.len
     have ze7:=F20.out.size
     have SP:=zh (hsp.mono (G:=fun k=>¬ (w.heap.size<=k/\k<w.heap.size+3)) (fun k hk _ h=>hk ⟨h.1,Nat.lt_of_lt_of_le h.2 ze7⟩))
     clear hb t0 t1 t2 hsp ze7 HPT
     go_wp2
     go_meet
     refine⟨⟨spn,[spm[k]],1⟩,_,_,HWE.out,SP.out,B21.out,?_,F21.out⟩
     show Own.Af w21 _ [spm[k]]
     rw[<- HYY.out]
     exact M21.out.mono (fun _ _ _=>trivial)
    have dq:decide ((q:Int)<spm.length)=true:=zt
    obtain⟨b',o',ha',zb7,c0,c1⟩:=Own.Af.cells ze4.out hlt
    cases ha'
    rw[Nat.zero_add] at c0 c1
    obtain⟨y,hy⟩:∃ y,y=spm[q]:=⟨_,rfl⟩
    rw[<- hy] at c0 c1
    obtain⟨yn,yp⟩:=y
    dsimp only at c0 c1
    have HY:=zh (show yp=spm[q].pub from congrArg Own.Member.pub hy)
    obtain⟨s10,s11,s12,s13,s14,s15,s16⟩:=F14.out.KE rfl
    clear hy
    by_cases hqk:q=k
    ·have dne:((q:Int) != (k:Int))=false:=by rw[bne_eq_false_iff_eq];omega
     have HN2:=zh (show ∀ p (hp:p<spm.length),p<q+1->¬ (p≠k/\spm[p].pub=pb) from fun p hp h=>by
      rcases(by omega:p<q\/p=q) with h1|rfl
      ·exact HNO.out p hp h1
      ·exact fun h2=>h2.1 hqk)
     go_upto_region 17 with fail
     refine Lex.zl ?_
     go_wp2
     refine Lex.ze ?_
     go_wp2
     exact⟨⟨q+1,by omega,by go_num,HN2.out,HB0.out⟩,by simp[intOf];omega⟩
    have dne:((q:Int) != (k:Int))=true:=by rw[bne_iff_ne];omega
    by_cases hpq:yp=pb
    ·have deq:(yp.toList==pb.toList)=true:=by rw[bytes_beq];exact decide_eq_true hpq
     have HE:=zh (show R=(.none,5) by rw[HR1.out,HW1.out,if_pos (HRA.out.2 ⟨q,hlt,hqk,by rw[<- HY.out];exact hpq⟩)];rfl)
     clear hpq
     go_upto_region 17 with fail
     refine Lex.zl ?_
     go_wp2
     refine Lex.ze ?_
     have F15:=zh F14.out.drew
     (try clear s10 s11 s12 s13 s14 s15 s16)
     clear t0 t1 t2 c0 c1
     generalize wr.drew=w15 at*
     obtain⟨x20,x21,x22,FK,FL,FM⟩:=F15.out.Oh rfl
     go_wp2
     have G2:=(((F15.out.put 2 0 (.int .i64 0) rfl).put 2 1 (.slice none 0 0) rfl).put 2 2 (.slice none 0 0) rfl)
     refine BJ rfl rfl rfl (AJ (G2.at1 2 rfl) Tryz.underlying25 rfl Bt) ?_
     rw[HQ.out,HE.out]
     exact⟨⟨_,_,rfl,Aq.nil _ _,Aq.nil _ _⟩,G2.under⟩
    have deq:(yp.toList==pb.toList)=false:=by rw[bytes_beq];exact decide_eq_false hpq
    have HN2:=zh (show ∀ p (hp:p<spm.length),p<q+1->¬ (p≠k/\spm[p].pub=pb) from fun p hp h=>by
     rcases(by omega:p<q\/p=q) with h1|rfl
     ·exact HNO.out p hp h1
     ·exact fun h2=>hpq (by rw[HY.out];exact h2.2))
    clear hpq
    go_upto_region 17 with fail
    refine Lex.zl ?_
    go_wp2
    refine Lex.ze ?_
    go_wp2
    exact⟨⟨q+1,by omega,by go_num,HN2.out,HB0.out⟩,by simp[intOf];omega⟩
 obtain⟨s,l',mv',hwho,hsp,ha8,hmm,hbx⟩:=hcut
 obtain⟨hmo,_,_,_⟩:=HWO.out (by trivial) (by trivial) s l' hwho
 have hs8:=hmo.l8
 obtain⟨mc8,md8,rfl⟩:=hmm.len
 obtain⟨lc8,ld8,rfl⟩:=hsp.len
 have HR2:=zh (show R=Own.zdD ⟨cnt,S,K0⟩ zeg aps (.ok (s,l')) by rw[HR1.out,hwho])
 have F8:=zh hbx;have A88:=zh ha8;have M88:=zh hmm;have S8:=zh hsp
 clear hwho hsp ha8 hmm hbx F7 A67 A8 M8 HR1 HWO HPU HWH IX zdH HKD HAB HG6 HG8
 (try clear x00);(try clear x01);(try clear x02);(try clear x10 x11 x12 x13 x14 x15 x16);(try clear x20 x21 x22 FK FL FM)
 obtain⟨x00,x01,x02⟩:=F8.out.Fw rfl
 obtain⟨x10,x11,x12,x13,x14,x15,x16⟩:=F8.out.KE rfl
 go_wp2_with fail
 refine(HMS.out wc F8.out.under).mono ?_
 rintro e w9 ⟨rfl,hb⟩
 have F9:=zh (F8.out.step hb);have A9:=zh (A88.out.below hb A88.out.lt);have M9:=zh (M88.out.below hb);have S9:=zh (S8.out.below hb)
 clear hb F8 A88 M88 S8 HMS
 (try clear x00);(try clear x01);(try clear x02);(try clear x10 x11 x12 x13 x14 x15 x16);(try clear x20 x21 x22 FK FL FM)
 obtain⟨x00,x01,x02⟩:=F9.out.Fw rfl
 obtain⟨x10,x11,x12,x13,x14,x15,x16⟩:=F9.out.KE rfl
 obtain⟨z0,z1,z2⟩:=A9.out.c3
 go_wp2_with fail
 refine(HAF.out (by trivial) s (.slice mc8 s.members.length md8) w9 F9.out.under F9.out.size M9.out (by omega)).mono ?_
 rintro e w10 ⟨hp,hb⟩
 have F10:=zh (F9.out.step hb);have S10:=zh (S9.out.below hb)
 have has:=HAS.out (by trivial) s hmo
 clear hb F9 A9 M9 S9 HAF HAS z0 z1 z2
 (try clear x00);(try clear x01);(try clear x02);(try clear x10 x11 x12 x13 x14 x15 x16);(try clear x20 x21 x22 FK FL FM)
 obtain⟨AR,hAR⟩:∃ AR,AR=Own.AO s zeg K0 aps:=⟨_,rfl⟩
 have HR3:=HR2.out
 unfold Own.zdD at HR3
 dsimp only at HR3 has
 rw[<- has,<- hAR] at hp
 rw[<- hAR] at HR3
 cases AR with
 | error c =>
   have hp' : e=.returned (.tuple #[Own.nobody,.int .i64 c]):=hp
   have hc:=Own.Fp hAR.symm
   have dc:(c != 0)=true:=by rw[bne_iff_ne];exact hc
   subst hp'
   have HE:=zh (show R=(.none,c) from HR3)
   clear HR3 hp hAR has hc
   unfold Own.nobody
   go_upto_region 46 with fail
   have F11:=zh (F10.out.step ((Below.refl w10.heap.size w10).alloc (Nat.le_refl _) (.cells #[.int .i64 0,.slice none 0 0,.slice none 0 0] 25)))
   generalize w10.alloc (.cells #[.int .i64 0,.slice none 0 0,.slice none 0 0] 25)=w11 at*
   obtain⟨x20,x21,x22,FK,FL,FM⟩:=F11.out.Oh rfl
   go_wp2
   have G2:=(((F11.out.put 2 0 (.int .i64 0) rfl).put 2 1 (.slice none 0 0) rfl).put 2 2 (.slice none 0 0) rfl)
   refine BJ rfl rfl rfl (AJ (G2.at1 2 rfl) Tryz.underlying25 rfl Bt) ?_
   rw[HQ.out,HE.out]
   exact⟨⟨_,_,rfl,Aq.nil _ _,Aq.nil _ _⟩,G2.under⟩
 | ok K=>
 obtain⟨v1,v2,rfl,hs1,hk1⟩:=(show ∃ sv kv,e=.returned (.tuple #[.agg #[.int .i64 cnt,sv,kv],.int .i64 0])/\Aq 3 Own.EI (fun k=>¬ (w.heap.size<=k/\k<w.heap.size+3)) w10 sv S/\Aq 2 Own.aQ (fun k=>¬ (w.heap.size<=k/\k<w.heap.size+3)) w10 kv K from hp)
 have HE:=zh (show R=(⟨cnt+1,l',K⟩,0) from HR3)
 clear HR3 hp hAR has
 obtain⟨pa,pc,rfl⟩:=hs1.len
 obtain⟨qa,qc,rfl⟩:=hk1.len
 go_upto_region 48 with fail
 have hb:=(Below.refl w10.heap.size w10).alloc (Nat.le_refl _) (.cells #[.int .i64 cnt,.slice pa S.length pc,.slice qa K.length qc] 25)
 have A11:=zh (At.new w10 25 #[.int .i64 cnt,.slice pa S.length pc,.slice qa K.length qc])
 have F11:=zh (F10.out.step hb);have S11:=zh ((S10.out.mono (G:=fun k=>k<w10.heap.size/\¬ (w.heap.size<=k/\k<w.heap.size+3)) (fun k h hk=>⟨hk,h⟩)).below hb);have K11:=zh ((hk1.mono (G:=fun k=>k<w10.heap.size/\¬ (w.heap.size<=k/\k<w.heap.size+3)) (fun k h hk=>⟨hk,h⟩)).below hb)
 generalize w10.alloc (.cells #[.int .i64 cnt,.slice pa S.length pc,.slice qa K.length qc] 25)=w11 at*
 obtain⟨g,hg⟩:∃ g,g=w10.heap.size:=⟨_,rfl⟩
 have hgs:w.heap.size+3<=g:=by have:=F10.out.size;rw[hg];exact this
 rw[<- hg] at A11 S11 K11 ⊢
 clear hb hg F10 S10 hs1 hk1
 obtain⟨x00,x01,x02⟩:=F11.out.Fw rfl
 have Y0:=zh (zi x00)
 have a1f:=A11.out.free 1;have a0f:=A11.out.free 0;have a1:=A11.out.cell 1;have a0:=A11.out.cell 0
 simp only[zg] at a0 a1
 have hcb:=HCB.out (by trivial)
 have hc0:0<=cnt:=hcb.1
 have hc1:cnt<=1099511627776:=hcb.2
 clear hcb
 refine Lex.zn (fun k=>k=w.heap.size) [2] 6 [6] ?_
 simp only[Lex.Bp,zd]
 go_wp2
 refine Lex.Mid.intro (fun k hk _=>by rw[hk];exact zo (by show w.heap.size≠g;omega)) ?_
 go_wp2
 refine Lex.zk ⟨⟨rfl,Y0.out⟩,trivial⟩ ?_
 clear x00 x01 x02 a1f a0f a1 a0
 have A12:=zh (((A11.out.set 1 (.slice lc8 l'.length ld8)).set 0 (.int .i64 (cnt+1))).drew)
 have Ip:∀ k,k≠g->(((w11.setCell ⟨g,1,none⟩ (.slice lc8 l'.length ld8)).setCell ⟨g,0,none⟩ (.int .i64 (cnt+1))).drew).heap[k]? = w11.heap[k]? :=fun k hk=>by
  rw[Ez,zo hk,zo hk]
 have hzz:w11.heap.size<=(((w11.setCell ⟨g,1,none⟩ (.slice lc8 l'.length ld8)).setCell ⟨g,0,none⟩ (.int .i64 (cnt+1))).drew).heap.size:=by simp[World.setCell,Ez]
 have S12:=zh ((S11.out.keep hzz (fun k hk _=>Ip k (by have:=hk.1;omega))).mono (G:=fun k=>k≠w.heap.size+2) (fun k hk _ h=>by have:=hk.2;omega))
 have K12:=zh ((K11.out.keep hzz (fun k hk _=>Ip k (by have:=hk.1;omega))).mono (G:=fun k=>k≠w.heap.size+2) (fun k hk _ h=>by have:=hk.2;omega))
 have F12:=zh (F11.out.keep ((F11.out.under.setCell (p:=⟨g,1,none⟩) (by show w.heap.size<=g;omega) (.slice lc8 l'.length ld8)).setCell (p:=⟨g,0,none⟩) (by show w.heap.size<=g;omega) (.int .i64 (cnt+1))).drew hzz (fun k h1 h2=>Ip k (by have h3:k<w.heap.size+3:=h2;omega)))
 clear Ip hzz A11 S11 K11 F11
 go_upto_region 49 with fail
 generalize ((w11.setCell ⟨g,1,none⟩ (.slice lc8 l'.length ld8)).setCell ⟨g,0,none⟩ (.int .i64 (cnt+1))).drew=w12 at*
 obtain⟨x20,x21,x22,FK,FL,FM⟩:=F12.out.Oh rfl
 have a0:=A12.out.cell 0;have a1:=A12.out.cell 1;have a2:=A12.out.cell 2
 simp only[List.setIfInBounds_toArray,List.set_cons_zero,List.set_cons_succ,List.getElem?_toArray,List.getElem?_cons_zero,List.getElem?_cons_succ] at a0 a1 a2
 go_wp2
 have G2:=(((F12.out.put 2 0 (.int .i64 (cnt+1)) rfl).put 2 1 (.slice lc8 l'.length ld8) rfl).put 2 2 (.slice qa K.length qc) rfl)
 refine BJ rfl rfl rfl (AJ (G2.at1 2 rfl) Tryz.underlying25 rfl Bt) ?_
 rw[HQ.out,HE.out]
 refine⟨⟨_,_,rfl,?_,?_⟩,G2.under⟩
 all_goals
  have hkp:∀ k,k≠w.heap.size+2->(((w12.setCell ⟨w.heap.size+2,0,none⟩ (.int .i64 (cnt+1))).setCell ⟨w.heap.size+2,1,none⟩ (.slice lc8 l'.length ld8)).setCell ⟨w.heap.size+2,2,none⟩ (.slice qa K.length qc)).heap[k]? = w12.heap[k]? :=fun k hne=>by
   rw[zo hne,zo hne,zo hne]
 ·exact(S12.out.keep (by simp[World.setCell]) (fun k hk _=>hkp k hk)).mono (fun _ _ _=>trivial)
 ·exact(K12.out.keep (by simp[World.setCell]) (fun k hk _=>hkp k hk)).mono (fun _ _ _=>trivial)
namespace Own
def zdj (op:Op):Prop:=op.pre.size+op.name.size+op.pub.size<=300/\zcV op.members/\op.Aa.length<=5/\∀ a∈op.Aa,zdk a
end Own
theorem zcv (op:Own.Op)(mv av:Value)(w:World)(hm:Own.Af w mv op.members)(hA:Own.W9 w av op.Aa)(hml:op.members.length<=140737488355328)(hal:op.Aa.length<=140737488355328)
 (hz:op.pre.size<=140737488355328/\op.name.size<=140737488355328/\op.pub.size<=140737488355328) (hsz:∀ a∈op.Aa,∀ x∈a.sig.chains++a.sig.path,x.size<=140737488355328):
 Calls Tryz.prog 13 #[Own.opV op mv av] w (Own.Lr (Own.zdj op) w):=by
 obtain⟨Q,hQ⟩:∃ Q,Q=Own.Lr (Own.zdj op) w:=⟨_,rfl⟩
 rw[<- hQ]
 have HQ:=zh hQ;clear hQ
 unfold Own.opV
 obtain⟨ma,mc,rfl⟩:=hm.len
 obtain⟨aa,ac,rfl,hap⟩:=id hA
 clear hap
 obtain⟨z1,z2,z3⟩:=hz
 have F1:=zh (show Au w _ [(29,#[.int .i64 op.kind,.string op.pre,.slice ma op.members.length mc,.int .i64 op.threshold,.string op.name,.string op.pub,.slice aa op.Aa.length ac])] from((CY.nil w).push 29 #[.int .i64 op.kind,.string op.pre,.slice ma op.members.length mc,.int .i64 op.threshold,.string op.name,.string op.pub,.slice aa op.Aa.length ac]).boxes)
 have hfm:=fun W (hW:Below w.heap.size w W)=>Ml _ op.members W (hm.below hW) hml
 have hfa:=fun W (hW:Below w.heap.size w W)=>dJ _ op.Aa W (hA.below hW) hal hsz
 have HFM:=zh hfm;have HFA:=zh hfa
 clear hm hA hfm hfa hsz
 go_enter Tryz.func13,Tryz.ntmps13
 go_upto_region 1 with fail
 generalize (w.alloc (.cells #[.int .i64 op.kind,.string op.pre,.slice ma op.members.length mc,.int .i64 op.threshold,.string op.name,.string op.pub,.slice aa op.Aa.length ac] 29))=w1 at*
 obtain⟨x00,x01,x02,x03,x04,x05,x06⟩:=F1.out.JI rfl
 have hwr:wrap64 ((op.pre.size:Int)+(op.name.size:Int))=(op.pre.size:Int)+(op.name.size:Int):=by unfold wrap64;omega
 by_cases h3:op.pre.size+op.name.size+op.pub.size<=300
 case neg=>
  have d1:decide ((op.pre.size:Int)+(op.name.size:Int)+(op.pub.size:Int)<=300)=false:=zf
  go_wp2
  (try go_ret)
  rw[HQ.out]
  exact⟨false,rfl,(fun h=>by cases h),F1.out.under⟩
 have d1:decide ((op.pre.size:Int)+(op.name.size:Int)+(op.pub.size:Int)<=300)=true:=zt
 have H3:=zh h3
 go_wp2_with fail
 refine(HFM.out w1 F1.out.under).mono ?_
 rintro e w2 ⟨q,rfl,hq,hb2⟩
 have F2:=zh (F1.out.step hb2);have HQ1:=zh hq
 clear hb2 hq
 (try clear x00 x01 x02 x03 x04 x05 x06)
 obtain⟨x00,x01,x02,x03,x04,x05,x06⟩:=F2.out.JI rfl
 cases q with
 | false =>
   go_wp2
   (try go_ret)
   rw[HQ.out]
   exact⟨false,rfl,(fun h=>by cases h),F2.out.under⟩
 | true=>
 go_wp2_with fail
 refine(HFA.out w2 F2.out.under).mono ?_
 rintro e w3 ⟨q,rfl,hq,hb3⟩
 have F3:=zh (F2.out.step hb3);have HQ2:=zh hq
 clear hb3 hq
 cases q with
 | false =>
   go_wp2
   (try go_ret)
   rw[HQ.out]
   exact⟨false,rfl,(fun h=>by cases h),F3.out.under⟩
 | true=>
 go_wp2
 (try go_ret)
 rw[HQ.out]
 exact⟨true,rfl,(fun _=>⟨H3.out,HQ1.out trivial,HQ2.out trivial⟩),F3.out.under⟩
end
section
open Go
namespace Own
theorem zdn {o:Ao}{op:Op}(h:(Cg o op).2=0):(Cg o op).1.keys.length<=o.keys.length+op.Aa.length:=by
 unfold Cg at h ⊢
 split
 ·exact Nat.zero_le _
 ·split
  ·exact Nat.zero_le _
  ·cases hw:Fh o.spaces op with
   | error c=>exact Nat.zero_le _
   | ok p =>
     obtain⟨s,l⟩:=p
     dsimp only
     cases ha:AO s (AZ o op).1 o.keys op.Aa with
     | error c=>exact Nat.zero_le _
     | ok K =>
       show K.length<=_
       unfold AO at ha
       split at ha
       ·cases ha
       ·rename_i K2 he
        split at ha
        ·cases ha
        ·cases ha
         exact dP s _ _ [] o.keys _ he
theorem zdo {o:Ao}{op:Op}(h:(Cg o op).2≠0):(Cg o op).1=.none:=by
 unfold Cg at h ⊢
 split
 ·rfl
 ·split
  ·rfl
  ·cases hw:Fh o.spaces op with
   | error c=>rfl
   | ok p =>
     obtain⟨s,l⟩:=p
     dsimp only
     cases ha:AO s (AZ o op).1 o.keys op.Aa with
     | error c=>rfl
     | ok K =>
       exfalso
       rename_i h1 h2
       rw[if_neg h1,if_neg h2,hw] at h
       dsimp only at h
       rw[ha] at h
       exact h rfl
theorem zdb {o:Ao}(h:Bv o=true):o.spaces.length<=64/\(∀ s∈o.spaces,s.members.length<=64)/\0<=o.count/\o.count<=1099511627776:=by
 have hO:=Rt.iff.1 h
 refine⟨hO.len,fun s hs=>?_,hO.c0,hO.c1⟩
 have h1:=hO.sp s hs
 unfold AX Co at h1
 simp only[Bool.and_eq_true,decide_eq_true_eq] at h1
 omega
end Own
end
section
open Go Go.RowKit Go.Maps
namespace Own
theorem kI (o:Ao)(op:Op):(Cg o op).1.spaces.length<=64/\(∀ s∈(Cg o op).1.spaces,s.members.length<=64)/\(Cg o op).1.keys.length<=o.keys.length+op.Aa.length:=by
 by_cases h:(Cg o op).2=0
 ·obtain⟨h1,h2,_⟩:=zdb (lD h).1
  exact⟨h1,h2,zdn h⟩
 ·rw[zdo h]
  exact⟨Nat.zero_le _,(fun s hs=>by cases hs),Nat.zero_le _⟩
theorem zdL {o:Ao}{p:ByteArray}{n:Nat}(h:∀ s∈o.spaces,s.members.length<=n):(auS (authority o p)).members.length<=n:=by
 cases ha:authority o p with
 | none=>exact Nat.zero_le _
 | some x =>
   unfold authority at ha
   split at ha
   ·rcases UG ha with h2|h2
    ·exact h x h2
    ·cases h2
   ·cases ha
end Own
theorem zcw (o:Own.Ao)(path:ByteArray)(op:Own.Op)(sv kv mv av:Value)(w:World)(hM:Il w)(hS:Own.BF w sv o.spaces)(hK:Own.Du w kv o.keys)(hcap:Eb sv)(hm:Own.Af w mv op.members)(hA:Own.W9 w av op.Aa)
 (hls:o.spaces.length<=140737488355328) (hlk:o.keys.length<=140737488355328) (hlm:∀ s∈o.spaces,s.members.length<=140737488355328) (hss:path.size<=140737488355328) (hml:op.members.length<=140737488355328) (hal:op.Aa.length<=140737488355328)
 (hz:op.pre.size<=140737488355328/\op.name.size<=140737488355328/\op.pub.size<=140737488355328) (hsz:∀ a∈op.Aa,∀ x∈a.sig.chains++a.sig.path,x.size<=140737488355328):
 Calls Tryz.prog 3 #[.agg #[.int .i64 o.count,sv,kv],.string path,Own.opV op mv av] w fun e w' => e=.returned (.bool true)/\Below w.heap.size w w':=by
 have hfo:=fun W (hW:Below w.heap.size w W)=>zcW o sv kv W (hS.below hW) (hK.below hW) hls hlk hlm
 have hfp:=fun W (hW:Below w.heap.size w W)=>zcv op mv av W (hm.below hW) (hA.below hW) hml hal hz hsz
 have haa:∃ a c,av=.slice a op.Aa.length c:=by obtain⟨a,c,h,_⟩:=id hA;exact⟨a,c,h⟩
 have hsl:∃ a n c,sv=.slice a n c:=by obtain⟨a,c,h⟩:=hS.len;exact⟨a,_,c,h⟩
 have hkl:∃ a n c,kv=.slice a n c:=by obtain⟨a,c,h⟩:=hK.len;exact⟨a,_,c,h⟩
 have hv1:=fun W (hW:Below w.heap.size w W)=>JN o sv kv W (hM.below hW) (hS.below hW) (hK.below hW) hls hlk hlm
 have hm1:=fun W (hW:Below w.heap.size w W)=>KY o op sv kv mv av W (hM.below hW) hsl hkl (hm.below hW) haa hml
 have hm2:=fun W (hW:Below w.heap.size w W)=>VI o op sv kv mv av W hsl hkl (hm.below hW) haa hml (by omega)
 have ha1:=fun W (hW:Below w.heap.size w W)=>(Om o path sv kv W (hM.below hW) (hS.below hW) (hK.below hW) hls hlk hlm).mono (fun e w' h=>Own.YA.zef h)
 have zco:=zh (fun(ho:Own.zd8 o) (hp:Own.zdj op)=>show _/\_/\_/\_/\_/\_ from⟨fun W (hW:Below w.heap.size w W)=>Rb o sv kv W (hS.below hW) (hK.below hW) hls hlk (fun s hs=>by have h2:=ho.2.2.1 s hs;have:=h2.2.1;have:=h2.1;exact⟨by omega,by omega⟩),
  fun W (hW:Below w.heap.size w W)=>(Qh o path sv kv W (hS.below hW) (hK.below hW) hls hlk (fun s hs=>by have h2:=ho.2.2.1 s hs;have:=h2.2.1;have:=h2.1;exact⟨by omega,by omega⟩) hss).mono (fun e w' h=>Own.YA.zef h),
  fun W (hW:Below w.heap.size w W)=>(PE o op sv kv mv av W (hM.below hW) (hS.below hW) (hK.below hW) (hm.below hW) (hA.below hW).out (by have:=ho.1;omega) (by have:=ho.2.1;omega) (fun s hs=>by have:=(ho.2.2.1 s hs).2.1;omega) hml (fun a ha=>by obtain⟨q1,q2,q3⟩:=hp.2.2.2 a ha;exact⟨by omega,by omega,by omega⟩)).mono (fun e w' h=>Own.Qo.val h),
  fun W (hW:Below w.heap.size w W)=>zcu o op sv kv mv av W (hS.below hW) (hK.below hW) (hm.below hW) (hA.below hW).out hcap (by have:=ho.1;omega) (by have:=ho.2.1;have:=hp.2.2.1;omega) (fun s hs=>by have h2:=ho.2.2.1 s hs;have:=h2.2.1;have:=h2.1;exact⟨by omega,by omega⟩) (by have:=hp.2.1.1;omega) (by have:=hp.1;omega) (fun a ha=>by obtain⟨q1,q2,q3⟩:=hp.2.2.2 a ha;exact⟨by omega,by omega⟩),
  fun v1 v2 k1 k2 W g1 g2 g3 g4=>zcC (Own.Cg o op).1 v1 v2 k1 k2 W g1 g2 g3 g4 (by have:=(Own.kI o op).1;omega) (by have:=(Own.kI o op).2.2;have:=ho.2.1;have:=hp.2.2.1;omega) (fun s hs=>by have:=(Own.kI o op).2.1 s hs;omega),
  fun v1 v2 W g1 g2=>Xi (Own.auS (Own.authority o path)) v1 v2 W g1 g2 (Own.zdL (fun s hs=>by have:=(ho.2.2.1 s hs).2.1;omega))⟩)
 obtain⟨R,hR⟩:∃ R,R=Own.Cg o op:=⟨_,rfl⟩
 obtain⟨MS,hMS⟩:∃ R,R=Own.AZ o op:=⟨_,rfl⟩
 obtain⟨AU,hAU⟩:∃ R,R=Own.authority o path:=⟨_,rfl⟩
 obtain⟨OB,hOB⟩:∃ R,R=Own.Bv o:=⟨_,rfl⟩
 obtain⟨PO,hPO⟩:∃ P,P=Own.zd8 o:=⟨_,rfl⟩
 obtain⟨PP,hPP⟩:∃ P,P=Own.zdj op:=⟨_,rfl⟩
 have zco:=zco.out
 simp only[<- hR,<- hMS,<- hAU,<- hOB,<- hPO,<- hPP] at hfo hfp hv1 hm1 hm2 ha1 zco
 obtain⟨Q,code⟩:=R
 obtain⟨m1,m2⟩:=MS
 obtain⟨SP,hSP⟩:∃ s,s=Own.auS AU:=⟨_,rfl⟩
 obtain⟨AB,hAB⟩:∃ s,s=AU.isSome:=⟨_,rfl⟩
 simp only[<- hSP,<- hAB] at ha1 zco
 obtain⟨q0,QS,QK⟩:=Q
 obtain⟨sp1,sp2,sp3⟩:=SP
 unfold Own.opV Own.zJ Own.zee at*
 obtain⟨kd,pre,ms,th,nm,pb,aps⟩:=op
 obtain⟨cnt,S,K0⟩:=o
 dsimp only at*
 obtain⟨sa,sc,rfl⟩:=hS.len
 obtain⟨ka,kc,rfl⟩:=hK.len
 obtain⟨ma,mc,rfl⟩:=hm.len
 obtain⟨aa,ac,rfl⟩:=haa
 have HFO:=zh hfo;have HFP:=zh hfp;have HV1:=zh hv1;have HM1:=zh hm1;have HM2:=zh hm2;have HA1:=zh ha1;have zcp:=zh zco;have HMX:=zh hM
 clear hfo hfp hv1 hm1 hm2 ha1 zco hM hS hK hm hA hlm hsz hsl hkl hR hMS hAU hOB hPO hPP hSP hAB hcap
 have F1:=zh (show Au w _ [(25,#[.int .i64 cnt,.slice sa S.length sc,.slice ka K0.length kc]),(29,#[.int .i64 kd,.string pre,.slice ma ms.length mc,.int .i64 th,.string nm,.string pb,.slice aa aps.length ac])] from(((CY.nil w).push 25 #[.int .i64 cnt,.slice sa S.length sc,.slice ka K0.length kc]).push 29 #[.int .i64 kd,.string pre,.slice ma ms.length mc,.int .i64 th,.string nm,.string pb,.slice aa aps.length ac]).boxes)
 go_enter Tryz.func3,Tryz.ntmps3
 go_upto_region 1 with fail
 generalize ((w.alloc (.cells #[.int .i64 cnt,.slice sa S.length sc,.slice ka K0.length kc] 25)).alloc (.cells #[.int .i64 kd,.string pre,.slice ma ms.length mc,.int .i64 th,.string nm,.string pb,.slice aa aps.length ac] 29))=w1 at*
 go_wp2_with fail
 refine(zcD _ (HMX.out.below F1.out.under)).mono ?_
 rintro e w2 ⟨rfl,hb⟩
 have F2:=zh (F1.out.step hb)
 clear hb F1
 obtain⟨x00,x01,x02⟩:=F2.out.Fw rfl
 go_wp2_with fail
 refine(HFO.out w2 F2.out.under).mono ?_
 rintro e w3 ⟨b,rfl,hf,hb⟩
 have F3:=zh (F2.out.step hb);have HF1:=zh hf
 clear hb hf F2
 (try clear x00 x01 x02)
 cases b with
 | false =>
   clear HF1
   go_wp2
   go_ret
   exact⟨rfl,F3.out.under⟩
 | true=>
 obtain⟨x10,x11,x12,x13,x14,x15,x16⟩:=F3.out.KE rfl
 go_wp2_with fail
 refine(HFP.out w3 F3.out.under).mono ?_
 rintro e w4 ⟨b,rfl,hf,hb⟩
 have F4:=zh (F3.out.step hb);have HF2:=zh hf
 clear hb hf F3
 (try clear x00 x01 x02);(try clear x10 x11 x12 x13 x14 x15 x16)
 cases b with
 | false =>
   clear HF1 HF2
   go_wp2
   go_ret
   exact⟨rfl,F4.out.under⟩
 | true=>
 by_cases h1:200<path.size
 ·have d1:decide (200<(path.size:Int))=true:=zt
  have d1' : decide (200<path.size)=true:=decide_eq_true h1
  clear HF1 HF2
  go_wp2
  go_ret
  exact⟨rfl,F4.out.under⟩
 have d1:decide (200<(path.size:Int))=false:=zf
 have d1' : decide (200<path.size)=false:=decide_eq_false h1
 obtain⟨hv2,ha2,hp1,hp2,hsx,ze8⟩:=zcp.out (HF1.out (by trivial)) (HF2.out (by trivial))
 have HV2:=zh hv2;have HA2:=zh ha2;have HP1:=zh hp1;have HP2:=zh hp2;have HSX:=zh hsx;have HSS:=zh ze8
 clear hv2 ha2 hp1 hp2 hsx ze8 zcp HF1 HF2 HFO HFP h1
 obtain⟨x00,x01,x02⟩:=F4.out.Fw rfl
 obtain⟨x10,x11,x12,x13,x14,x15,x16⟩:=F4.out.KE rfl
 go_wp2_with fail
 refine(HP1.out w4 F4.out.under).mono ?_
 rintro e w5 ⟨v1,k1,rfl,hs1,hk1,hb⟩
 have hs1:=hs1.mono (G:=Own.aP) (fun _ _ _=>trivial);have hk1:=hk1.mono (G:=Own.aP) (fun _ _ _=>trivial)
 have F5:=zh (F4.out.step hb)
 obtain⟨pa,pc,rfl⟩:=hs1.len
 obtain⟨qa,qc,rfl⟩:=hk1.len
 clear hb F4 HP1
 (try clear x00 x01 x02);(try clear x10 x11 x12 x13 x14 x15 x16)
 go_upto_region 6 with fail
 have hb:Below w5.heap.size w5 (w5.alloc (.cells #[.int .i64 q0,.slice pa QS.length pc,.slice qa QK.length qc] 25)):=zb
 have A6:=zh (At.new w5 25 #[.int .i64 q0,.slice pa QS.length pc,.slice qa QK.length qc])
 have F6:=zh (F5.out.step hb)
 generalize w5.alloc (.cells #[.int .i64 q0,.slice pa QS.length pc,.slice qa QK.length qc] 25)=w6 at*
 have S6:=zh (hs1.below hb);have K6:=zh (hk1.below hb)
 clear hb hs1 hk1 F5
 obtain⟨g1,hg⟩:∃ g,g=w5.heap.size:=⟨_,rfl⟩
 rw[<- hg] at A6 ⊢
 clear hg
 obtain⟨x00,x01,x02⟩:=F6.out.Fw rfl
 obtain⟨x10,x11,x12,x13,x14,x15,x16⟩:=F6.out.KE rfl
 go_wp2_with fail
 refine(HP2.out w6 F6.out.under).mono ?_
 rintro e w7 ⟨⟨v2,k2,rfl,hs2,hk2⟩,hb⟩
 have F7:=zh (F6.out.step hb);have A7:=zh (A6.out.below hb A6.out.lt);have S7:=zh (S6.out.below hb);have K7:=zh (K6.out.below hb)
 obtain⟨ra,rc,rfl⟩:=hs2.len
 obtain⟨ta,tc,rfl⟩:=hk2.len
 clear hb F6 A6 S6 K6 HP2
 (try clear x00 x01 x02);(try clear x10 x11 x12 x13 x14 x15 x16)
 go_upto_region 7 with fail
 have hb:Below w7.heap.size w7 (w7.alloc (.cells #[.int .i64 q0,.slice ra QS.length rc,.slice ta QK.length tc] 25)):=zb
 have C8:=zh (At.new w7 25 #[.int .i64 q0,.slice ra QS.length rc,.slice ta QK.length tc])
 have F8:=zh (F7.out.step hb)
 generalize w7.alloc (.cells #[.int .i64 q0,.slice ra QS.length rc,.slice ta QK.length tc] 25)=w8 at*
 have A8:=zh (A7.out.below hb A7.out.lt);have S8:=zh (S7.out.below hb);have K8:=zh (K7.out.below hb);have T8:=zh (hs2.below hb);have U8:=zh (hk2.below hb)
 clear hb hs2 hk2 F7 A7 S7 K7
 obtain⟨g2,hg⟩:∃ g,g=w7.heap.size:=⟨_,rfl⟩
 rw[<- hg] at C8 ⊢
 clear hg
 obtain⟨x00,x01,x02⟩:=F8.out.Fw rfl
 obtain⟨x10,x11,x12,x13,x14,x15,x16⟩:=F8.out.KE rfl
 go_wp2_with fail
 refine(HM1.out w8 F8.out.under).mono ?_
 rintro e w9 ⟨rfl,hb⟩
 have F9:=zh (F8.out.step hb);have B9:=zh hb
 clear hb F8 HM1
 (try clear x00 x01 x02);(try clear x10 x11 x12 x13 x14 x15 x16)
 obtain⟨x00,x01,x02⟩:=F9.out.Fw rfl
 obtain⟨x10,x11,x12,x13,x14,x15,x16⟩:=F9.out.KE rfl
 go_wp2_with fail
 refine(HM2.out w9 F9.out.under).mono ?_
 rintro e w10 ⟨rfl,hb⟩
 have F10:=zh (F9.out.step hb);have B10:=zh (B9.out.trans (hb.mono B9.out.size))
 clear hb F9 HM2 B9
 (try clear x00 x01 x02);(try clear x10 x11 x12 x13 x14 x15 x16)
 obtain⟨x00,x01,x02⟩:=F10.out.Fw rfl
 go_wp2_with fail
 refine(HA1.out w10 F10.out.under).mono ?_
 rintro e w11 ⟨⟨v3,rfl,hm3⟩,hb⟩
 have F11:=zh (F10.out.step hb);have B11:=zh (B10.out.trans (hb.mono B10.out.size))
 obtain⟨fa,fc,rfl⟩:=hm3.len
 clear hb F10 HA1 B10
 (try clear x00 x01 x02);(try clear x10 x11 x12 x13 x14 x15 x16)
 go_upto_region 10 with fail
 have hb:Below w11.heap.size w11 (w11.alloc (.cells #[.string sp1,.slice fa sp2.length fc,.int .i64 sp3] 39)):=zb
 have D12:=zh (At.new w11 39 #[.string sp1,.slice fa sp2.length fc,.int .i64 sp3])
 have F12:=zh (F11.out.step hb)
 generalize w11.alloc (.cells #[.string sp1,.slice fa sp2.length fc,.int .i64 sp3] 39)=w12 at*
 have M12:=zh (hm3.below hb);have B12:=zh (B11.out.trans (hb.mono B11.out.size))
 clear hb hm3 F11 B11
 obtain⟨g3,hg⟩:∃ g,g=w11.heap.size:=⟨_,rfl⟩
 rw[<- hg] at D12 ⊢
 clear hg
 obtain⟨x00,x01,x02⟩:=F12.out.Fw rfl
 go_wp2_with fail
 refine(HA2.out w12 F12.out.under).mono ?_
 rintro e w13 ⟨⟨v4,rfl,hm4⟩,hb⟩
 have F13:=zh (F12.out.step hb);have B13:=zh (B12.out.trans (hb.mono B12.out.size));have D13:=zh (D12.out.below hb D12.out.lt);have M13:=zh (M12.out.below hb)
 obtain⟨ja,jc,rfl⟩:=hm4.len
 clear hb F12 HA2 B12 D12 M12
 (try clear x00 x01 x02);(try clear x10 x11 x12 x13 x14 x15 x16)
 go_upto_region 11 with fail
 have hb:Below w13.heap.size w13 (w13.alloc (.cells #[.string sp1,.slice ja sp2.length jc,.int .i64 sp3] 39)):=zb
 have E14:=zh (At.new w13 39 #[.string sp1,.slice ja sp2.length jc,.int .i64 sp3])
 have F14:=zh (F13.out.step hb)
 generalize w13.alloc (.cells #[.string sp1,.slice ja sp2.length jc,.int .i64 sp3] 39)=w14 at*
 have N14:=zh (hm4.below hb);have B14:=zh (B13.out.trans (hb.mono B13.out.size));have D14:=zh (D13.out.below hb D13.out.lt);have M14:=zh (M13.out.below hb)
 clear hb hm4 F13 B13 D13 M13
 obtain⟨g4,hg⟩:∃ g,g=w13.heap.size:=⟨_,rfl⟩
 rw[<- hg] at E14 ⊢
 clear hg
 have A14:=zh (A8.out.below B14.out A8.out.lt);have C14:=zh (C8.out.below B14.out C8.out.lt);have S14:=zh (S8.out.below B14.out);have K14:=zh (K8.out.below B14.out);have T14:=zh (T8.out.below B14.out);have U14:=zh (U8.out.below B14.out)
 clear A8 C8 S8 K8 T8 U8 B14
 have hlw:w.heap.size<w14.heap.size:=F14.out.lt (i:=0) (by show 0<2;omega)
 (try clear x00 x01 x02);(try clear x10 x11 x12 x13 x14 x15 x16)
 obtain⟨x00,x01,x02⟩:=F14.out.Fw rfl
 have Y0:=zh (zi x00)
 have hbb:(OB==OB)=true:=by cases OB<;>rfl
 refine Lex.zn (fun k=>k=w.heap.size) [2] 33 [2,2,5,20] ?_
 simp only[Lex.Bp,zd]
 have hd:Below w14.heap.size w14 w14.drew:=(Below.refl _ _).drew
 go_wp2_with fail
 refine(HV1.out _ (F14.out.step hd).under).mono ?_
 rintro e w15 ⟨rfl,hb⟩
 have hb:=hd.trans hb
 have B15:=zh hb;have F15:=zh (F14.out.step hb)
 clear hb hd HV1
 (try clear x00 x01 x02);(try clear x10 x11 x12 x13 x14 x15 x16)
 obtain⟨x00,x01,x02⟩:=F15.out.Fw rfl
 go_wp2
 refine Lex.Mid.intro (fun k hk _=>by rw[hk];exact B15.out.block _ hlw) ?_
 go_wp2_with fail
 refine(HV2.out w15 F15.out.under).mono ?_
 rintro e w16 ⟨rfl,hb⟩
 have hb:=B15.out.trans (hb.mono B15.out.size)
 have B16:=zh hb;have F16:=zh (F14.out.step hb);have A16:=zh (A14.out.below hb A14.out.lt);have C16:=zh (C14.out.below hb C14.out.lt)
 have S16:=zh (S14.out.below hb);have K16:=zh (K14.out.below hb);have T16:=zh (T14.out.below hb);have U16:=zh (U14.out.below hb)
 clear hb HV2 B15 F15
 (try clear x00 x01 x02);(try clear x10 x11 x12 x13 x14 x15 x16)
 go_wp2
 refine Lex.Mid.intro (fun k hk _=>by rw[hk];exact B16.out.block _ hlw) ?_
 obtain⟨a0,a1,a2⟩:=A16.out.c3;obtain⟨c0,c1,c2⟩:=C16.out.c3
 go_wp2_with fail
 refine(HSX.out _ _ _ _ w16 S16.out T16.out K16.out U16.out).mono ?_
 rintro e w17 ⟨rfl,hb⟩
 have hb:=B16.out.trans (hb.mono B16.out.size)
 have B17:=zh hb;have D17:=zh (D14.out.below hb D14.out.lt);have E17:=zh (E14.out.below hb E14.out.lt);have M17:=zh (M14.out.below hb);have N17:=zh (N14.out.below hb)
 clear hb HSX A14 C14 S14 K14 T14 U14 A16 C16 S16 K16 T16 U16 a0 a1 a2 c0 c1 c2 F16 B16
 go_wp2
 refine Lex.Mid.intro (fun k hk _=>by rw[hk];exact B17.out.block _ hlw) ?_
 obtain⟨a0,a1,a2⟩:=D17.out.c3;obtain⟨c0,c1,c2⟩:=E17.out.c3
 have haa:(AB==AB)=true:=by cases AB<;>rfl
 go_wp2_with fail
 refine(HSS.out _ _ w17 M17.out N17.out).mono ?_
 rintro e w18 ⟨rfl,hb⟩
 have hb:=B17.out.trans (hb.mono B17.out.size)
 have B18:=zh hb;have F18:=zh (F14.out.step hb)
 clear hb HSS a0 a1 a2 c0 c1 c2
 go_wp2
 refine Lex.Mid.intro (fun k hk _=>by rw[hk];exact B18.out.block _ hlw) ?_
 go_wp2
 refine Lex.zk ⟨⟨rfl,Y0.out⟩,trivial⟩ ?_
 go_wp2
 (try go_ret)
 exact⟨by first|rfl|simp,F18.out.under⟩
theorem Al.opened {w:World}{a:Addr}{len cap:Nat}{ss:List ByteArray}(h:∀ i,i<ss.length->w.cell? (a.add i)=some (.string (ss.getD i ByteArray.empty)))(hl:len<=ss.length):Al w (.slice (some a) len cap) (ss.take len):=by
 have e:(ss.take len).length=len:=by rw[List.length_take];omega
 by_cases h0:len=0
 ·exact⟨_,_,by rw[e],.inl (by rw[e];exact h0)⟩
 ·obtain⟨b,o,sp⟩:=a
  cases sp with
  | none =>
    refine⟨_,_,by rw[e],.inr ⟨b,o,rfl,fun j hj=>?_⟩⟩
    rw[e] at hj
    have:=h j (by omega)
    have e2:(⟨b,o,none⟩:Addr).add j=⟨b,o+j,none⟩:=by unfold Addr.add;split<;>simp_all
    rw[e2] at this
    rw[this]
    have:(ss.take len).getD j ⟨#[]⟩=ss.getD j ByteArray.empty:=by simp[List.getD_eq_getElem?_getD,List.getElem?_take,hj];rfl
    rw[this]
  | some p =>
    exfalso
    have:=h 0 (by omega)
    unfold World.cell? Addr.add at this
    simp at this
    split at this<;>simp_all
open Go.ChangeShapes in
theorem zbe {H:Type}{P:Program}{e:TypeId} : ∀ (ss:List ByteArray),(DataW.weightsAll P e (strs (H:=H) ss)).all (· <= reachBytes)=true->∀ s∈ss,s.size<=reachBytes
 | [],_,_,h=>by cases h
 | x :: l,h,s,hs => by
   have e1:DataW.weightsAll P e (strs (H:=H) (x::l))=[x.data.toList.length]++DataW.weightsAll P e (strs (H:=H) l):=rfl
   rw[e1,List.all_append,Bool.and_eq_true] at h
   rcases List.mem_cons.1 hs with rfl|hs
   ·have:=h.1
    simp only[List.all_cons,List.all_nil,Bool.and_true,decide_eq_true_eq] at this
    rw[Array.length_toList] at this
    exact this
   ·exact zbe l h.2 s hs
theorem zcx:Tryz.prog.bytesOf 9=16:=by kernel_rfl
open Go.ChangeShapes Go.WideShapes in
theorem zdM {H:Type}{enc:TypeId × Value->H}{W:World}{a:Option Addr}{len cap:Nat}{d:DataW H}{p:List MemPlace}(h:DataW.Trod enc Tryz.prog W 0 (fun _=>true) true 68 (.slice a len cap) d p)
 (hz:(d.weights Tryz.prog 68).all (· <= reachBytes)=true):∃ xs:List ByteArray,Al W (.slice a len cap) xs/\(∀ z∈xs,z.size<=140737488355328)/\xs.length<=140737488355328:=by
 obtain⟨fuel,hf⟩:=h
 rcases open_strings Tryz.underlying68 Tryz.underlying9 (by kernel_rfl) hf with ⟨hcs,_⟩|⟨a',len',cap',ss,hcs,_,hl,hm,hn,hx2,hcell,_⟩
 ·have e:Value.slice a len cap=.slice none 0 0:=by simpa [Value.cells] using hcs
  rw[e]
  exact⟨[],⟨none,0,rfl,.inl rfl⟩,(fun z hz=>by cases hz),Nat.zero_le _⟩
 ·have e:Value.slice a len cap=.slice (some a') len' cap':=by simpa [Value.cells] using hcs
  rw[e]
  have hn' : ss.length=cap':=by simpa using hn
  have hd:d=.slice (strs (ss.take len')) (strs (ss.drop len')):=(Prod.mk.inj hx2).1
  rw[hd] at hz
  have hw:(DataW.slice (strs (H:=H) (ss.take len')) (strs (ss.drop len'))).weights Tryz.prog 68=((strs (H:=H) (ss.take len')).length+(strs (H:=H) (ss.drop len')).length)*Tryz.prog.bytesOf 9::(DataW.weightsAll Tryz.prog 9 (strs (H:=H) (ss.take len'))++DataW.weightsAll Tryz.prog 9 (strs (H:=H) (ss.drop len'))):=by
   simp only[DataW.weights,Tryz.underlying68]
  rw[hw,List.all_cons,List.all_append,Bool.and_eq_true,Bool.and_eq_true,zcx] at hz
  obtain⟨h1,h2,_⟩:=hz
  have e1:(strs (H:=H) (ss.take len')).length=len':=by unfold strs;rw[List.length_map,List.length_take];omega
  rw[e1] at h1
  have h1':=of_decide_eq_true h1
  unfold reachBytes at h1'
  refine⟨ss.take len',Al.opened hcell (by omega),fun z hz2=>?_,?_⟩
  ·have:=zbe _ h2 z hz2
   unfold reachBytes at this
   omega
  ·rw[List.length_take]
   omega
end
section
open Go Go.ChangeShapes Go.WideShapes Go.RowKit Go.Maps
section
variable {H:Type} {enc:TypeId × Value->H}
theorem Lp {a:Assume}{C:Checked}{os:Os}{f:FuncId}{fn:Func}{s:ChangeSpec}{conds:List PathCond}{apart fresh handsOn again:Bool}{X:World->Array Value->Prop}
 (hX:∀ (w w' : World) (args:Array Value),w.heap=w'.heap->X w args->X w' args)
 (own:ownKnob C.prog.godebug=none) (started:os.Started) (noInit:C.prog.inits.idxOf? f=none) (hfn:C.prog.funcs[f]? = some fn)
 (witness : ∃ (w : World) (tape : Tape) (i : Input),w.os = os ∧ (w.forCall tape i).Shaped C.prog ∧ i.vars = [] ∧ Input.okWide C.prog (w.forCall tape i) .any w.heap.size f i ∧
   ((s.pre enc C.prog fn conds apart (w.forCall tape i).memory i.args/\X (w.forCall tape i).memory i.args)/\sizedMet enc C.prog fn (OpenSpec.ofChange s) apart (w.forCall tape i).memory i.args)/\a.holds C.prog (lone (Frame.enter C.prog f i.args .normal) [] (w.forCall tape i)))
 (contract : ∀ (W : World) (base : Nat) (args : Array Value) (ds gs : List (DataW H)) (before : List MemPlace),
   (∀ (j:Nat) t v,fn.params[j]? = some t->args[j]? = some v->Value.okWide C.prog W .any base t v)->
   DataW.Whole enc C.prog fn.params.toList s.vars apart W args.toList ds gs before->
   conds.all (PathCond.test C.prog ⟨fn.params.toList,ds,s.plain.varTypes C.prog,gs⟩)=true->
   (DataW.weightsEach C.prog (fn.params.toList++s.plain.varTypes C.prog) (ds++gs)).all (· <= reachBytes)=true->X W args->W.ShapedOpen C.prog->
   a.holds C.prog (lone (Frame.enter C.prog f args .normal) [] W)->
   Calls C.prog f args W fun e W' => ∃ v,e=.returned v/\s.post enc C.prog fn apart fresh handsOn again W args v W'):
 ReturnsInHanded a C os f .any (fun w args=>(s.pre enc C.prog fn conds apart w args/\X w args)/\sizedMet enc C.prog fn (OpenSpec.ofChange s) apart w args) (s.post enc C.prog fn apart fresh handsOn again):=by
 refine returnsInHanded_of_calls own started noInit witness ?_
 intro w tape i _ hsh _ hok hpre hholds
 obtain⟨_,_,_,fn',hfn',_,_,_,_,hval⟩:=hok
 have e:fn' = fn:=Option.some.inj (hfn'.symm.trans hfn)
 subst e
 obtain⟨⟨⟨ds,gs,before,hw,hc⟩,hx⟩,hz⟩:=hpre
 have hw':=DataW.Whole.of_heap (w':=w.forCall tape i) (by rfl) hw
 refine(contract (w.forCall tape i) w.heap.size i.args ds gs before hval hw' hc (hz.weights hw) (hX _ _ _ (by rfl) hx) hsh hholds).mono fun e W' ⟨v,he,hp⟩=>?_
 subst he
 exact ChangeSpec.post_blind hp
theorem zdN {W:World}(h:W.ShapedOpen Tryz.prog):Il W:=
 Go.Proofs.cell_of_shapedOpen_int (zero:=#[.int .i64 0]) (t:=3) h (of_decide_eq_true (by kernel_rfl)) (by kernel_rfl) rfl (by kernel_rfl) (by kernel_rfl) Tryz.underlying3
end
end
section
open Go Go.ChangeShapes Go.WideShapes Go.RowKit Go.Maps
section
variable {H:Type} {enc:TypeId × Value->H}
theorem VJ {P:Program}{e:TypeId}{p:Nat->Bool} : ∀ l:List (DataW H),(DataW.weightsAll P e l).all p=true->∀ d∈l,(d.weights P e).all p=true
 | [],_,_,h=>by cases h
 | x :: l,h,d,hd => by
   have e1:DataW.weightsAll P e (x::l)=x.weights P e++DataW.weightsAll P e l:=rfl
   rw[e1,List.all_append,Bool.and_eq_true] at h
   rcases List.mem_cons.1 hd with rfl|hd
   ·exact h.1
   ·exact VJ l h.2 d hd
theorem zdO {α : Type}{R:Elem α}{Good : α -> Prop}{T S:TypeId}{size B:Nat}(hu:Tryz.prog.underlying S=some (.slice T))(hsz:Tryz.prog.cellsOf T=size)(hby:Tryz.prog.bytesOf T=B)(hB:1<=B)(hs1:1<=size){W:World}
 (zd3:∀ (n:Nat) (cs:List Value) (x:DataW H × List MemPlace),cs.length=size->DataW.trod enc Tryz.prog W 0 (fun _=>true) true n T cs=some x->(x.1.weights Tryz.prog T).all (· <= reachBytes)=true->∃ o,R Own.aP W cs o/\Good o)
 {v:Value} {d:DataW H} {ps:List MemPlace} (h:DataW.Trod enc Tryz.prog W 0 (fun _=>true) true S v d ps) (hsl:∃ b len cap,v=.slice b len cap) (hz:(d.weights Tryz.prog S).all (· <= reachBytes)=true):
 ∃ l:List α,Aq size R Own.aP W v l/\(∀ o∈l,Good o)/\l.length<=140737488355328:=by
 obtain⟨a0,zbn,cap0,rfl⟩:=hsl
 obtain⟨n,hy⟩:=h
 rcases Deep.open_slice hu hy with ⟨hcs,_⟩|⟨a,len,cap,m,k,D,Pl,hcs,_,hl,_,hm,hx,hc⟩
 ·have e:Value.slice a0 zbn cap0=.slice none 0 0:=by simpa [Value.cells] using hcs
  rw[e]
  exact⟨[],Aq.nil _ _,(fun z hz=>by cases hz),Nat.zero_le _⟩
 ·have e:Value.slice a0 zbn cap0=.slice (some a) len cap:=by simpa [Value.cells] using hcs
  rw[e]
  have hm' : m=cap:=by rw[hm];rfl
  have hd:=(Prod.mk.inj hx).1
  rw[hd] at hz
  have hw:(DataW.slice ((List.range len).map D) ((List.range (m-len)).map fun j=>D (len+j))).weights Tryz.prog S=
   (((List.range len).map D).length + ((List.range (m - len)).map fun j => D (len + j)).length) * Tryz.prog.bytesOf T ::
     (DataW.weightsAll Tryz.prog T ((List.range len).map D)++DataW.weightsAll Tryz.prog T ((List.range (m-len)).map fun j=>D (len+j))):=by
   simp only[DataW.weights,hu]
  rw[hw,List.all_cons,List.all_append,Bool.and_eq_true,Bool.and_eq_true,hby] at hz
  obtain⟨h1,h2,_⟩:=hz
  have h1':=of_decide_eq_true h1
  unfold reachBytes at h1'
  rw[List.length_map,List.length_range] at h1'
  have hlen' : len<=140737488355328:=by
   have:=Nat.mul_le_mul_left (len+((List.range (m-len)).map fun j=>D (len+j)).length) hB
   omega
  have each:∀ i,i<len->∃ (cs:List Value) (o : α),cs.length=size/\(∀ j,j<size->W.cell? (a.add (i*size+j))=cs[j]?)/\R Own.aP W cs o/\Good o:=by
   intro i hi
   obtain⟨cs',g1,g2⟩:=hc i (by omega)
   rw[hsz] at g1
   obtain⟨_,hlen,hcell⟩:=World.cells?_some g1
   have hzi:=VJ _ h2 (D i) (List.mem_map.2 ⟨i,List.mem_range.2 hi,rfl⟩)
   obtain⟨o,q1,q2⟩:=zd3 _ cs' _ hlen g2 hzi
   exact⟨cs',o,hlen,fun j hj=>by rw[<- Deep.add_add];exact hcell j hj,q1,q2⟩
  by_cases h0:len=0
  ·subst h0
   exact⟨[],Aq.nil _ _,(fun z hz=>by cases hz),Nat.zero_le _⟩
  have ho0:Nonempty α :=by
   obtain⟨_,o,_⟩:=each 0 (by omega)
   exact⟨o⟩
  obtain⟨O,hO⟩:∃ O:Nat -> α,∀ i,i<len->∃ cs:List Value,cs.length=size/\(∀ j,j<size->W.cell? (a.add (i*size+j))=cs[j]?)/\R Own.aP W cs (O i)/\Good (O i):=by
   refine⟨fun i=>if h:i<len then (each i h).choose_spec.choose else Classical.choice ho0,fun i hi=>?_⟩
   simp only[dif_pos hi]
   exact⟨_,(each i hi).choose_spec.choose_spec⟩
  have el:((List.range len).map O).length=len:=by rw[List.length_map,List.length_range]
  refine⟨(List.range len).map O,⟨_,_,by rw[el],.inr ?_⟩,?_,by rw[el];exact hlen'⟩
  ·obtain⟨b,o,sp⟩:=a
   obtain⟨cs0,l0,hcell,_⟩:=hO 0 (by omega)
   have hc0:=hcell 0 (by omega)
   have hsome:∃ u,cs0[0]? = some u:=⟨cs0[0]'(by omega),List.getElem?_eq_getElem (by omega)⟩
   obtain⟨u,hu0⟩:=hsome
   rw[hu0] at hc0
   cases sp with
   | some p =>
     exfalso
     unfold World.cell? Addr.add at hc0
     simp at hc0
     split at hc0<;>simp_all
   | none =>
     have ad:∀ q,(⟨b,o,none⟩:Addr).add q=⟨b,o+q,none⟩:=fun q=>by unfold Addr.add;split<;>simp_all
     refine⟨b,o,rfl,trivial,?_,?_⟩
     ·rw[ad] at hc0
      exact block_lt hc0
     ·intro i hi
      rw[el] at hi
      obtain⟨cs,k0,k1,k2,_⟩:=hO i hi
      simp only[List.getElem_map,List.getElem_range]
      refine⟨cs,k0,fun j u hj=>?_,k2⟩
      have hjl:j<cs.length:=(List.getElem?_eq_some_iff.1 hj).1
      have:=k1 j (by omega)
      rw[ad,hj] at this
      rw[Nat.add_assoc]
      exact this
  ·intro o ho
   obtain⟨i,hi,rfl⟩:=List.mem_map.1 ho
   obtain⟨_,_,_,_,q⟩:=hO i (List.mem_range.1 hi)
   exact q
end
end
section
open Go Go.ChangeShapes Go.WideShapes Go.RowKit Go.Maps
section
variable {H:Type} {enc:TypeId × Value->H}
theorem zci:Tryz.prog.cellsOf 3=1:=by kernel_rfl
theorem XL:Tryz.prog.cellsOf 9=1:=by kernel_rfl
def zbM (m:Own.Member):Prop:=m.name.size<=140737488355328/\m.pub.size<=140737488355328
def zel (k:Own.KeyUse):Prop:=k.pub.size<=140737488355328/\(Lit.int .i64 k.next).wf=true
theorem IK {s:ByteArray}(h:s.data.toList.length<=reachBytes):s.size<=140737488355328:=by
 unfold reachBytes at h
 have e:s.size=s.data.toList.length:=by rw[Array.length_toList];rfl
 omega
theorem zcL {W:World}(n:Nat)(cs:List Value)(x:DataW H × List MemPlace)(hl:cs.length=2)(hy:DataW.trod enc Tryz.prog W 0 (fun _=>true) true n 76 cs=some x)(hz:(x.1.weights Tryz.prog 76).all (· <= reachBytes)=true):
 ∃ o,Own.DU Own.aP W cs o/\zbM o:=by
 match cs,hl with
 | [c0,c1],_ =>
   obtain⟨y0,y1,m,he,_,u0,u1⟩:=ChangeShapes.trod_struct2 Tryz.underlying76 hy
   simp only[XL,List.drop,List.take] at u0 u1
   obtain⟨s,hs,rfl,_⟩:=DataW.trod_string Tryz.underlying9 u0
   obtain⟨t,ht,rfl,_⟩:=DataW.trod_string Tryz.underlying9 u1
   simp only[List.cons.injEq,and_true] at hs ht
   subst hs;subst ht
   have hw:x.1.weights Tryz.prog 76=[s.data.toList.length,t.data.toList.length]:=by
    rw[he]
    simp only[DataW.weights,Tryz.underlying76]
    rfl
   rw[hw] at hz
   simp only[List.all_cons,List.all_nil,Bool.and_true,Bool.and_eq_true,decide_eq_true_eq] at hz
   exact⟨⟨s,t⟩,rfl,IK hz.1,IK hz.2⟩
theorem zd4 {W:World}(n:Nat)(cs:List Value)(x:DataW H × List MemPlace)(hl:cs.length=2)(hy:DataW.trod enc Tryz.prog W 0 (fun _=>true) true n 59 cs=some x)(hz:(x.1.weights Tryz.prog 59).all (· <= reachBytes)=true):
 ∃ o,Own.aQ Own.aP W cs o/\zel o:=by
 match cs,hl with
 | [c0,c1],_ =>
   obtain⟨y0,y1,m,he,_,u0,u1⟩:=ChangeShapes.trod_struct2 Tryz.underlying59 hy
   simp only[XL,zci,List.drop,List.take] at u0 u1
   obtain⟨s,hs,rfl,_⟩:=DataW.trod_string Tryz.underlying9 u0
   obtain⟨t,ht,rfl,wt⟩:=DataW.trod_int Tryz.underlying3 u1
   simp only[List.cons.injEq,and_true] at hs ht
   subst hs;subst ht
   have hw:x.1.weights Tryz.prog 59=[s.data.toList.length]:=by
    rw[he]
    simp only[DataW.weights,Tryz.underlying59]
    rfl
   rw[hw] at hz
   simp only[List.all_cons,List.all_nil,Bool.and_true,decide_eq_true_eq] at hz
   exact⟨⟨s,t⟩,rfl,IK hz,wt⟩
theorem zcj {W:World}{S T:TypeId}(hu:Tryz.prog.underlying S=some (.slice T)){n:Nat}{v:Value}{x:DataW H × List MemPlace}(hy:DataW.trod enc Tryz.prog W 0 (fun _=>true) true n S [v]=some x):∃ b len cap,v=.slice b len cap:=by
 rcases Deep.open_slice hu hy with ⟨hcs,_⟩|⟨a,len,cap,m,k,D,Pl,hcs,_⟩
 ·exact⟨none,0,0,by simpa using hcs⟩
 ·exact⟨_,len,cap,by simpa using hcs⟩
theorem zb8 {α : Type}{R:Elem α}{Good : α -> Prop}{T S:TypeId}{size B:Nat}(hu:Tryz.prog.underlying S=some (.slice T))(hsz:Tryz.prog.cellsOf T=size)(hby:Tryz.prog.bytesOf T=B)(hB:1<=B)(hs1:1<=size){W:World}
 (zd3:∀ (n:Nat) (cs:List Value) (x:DataW H × List MemPlace),cs.length=size->DataW.trod enc Tryz.prog W 0 (fun _=>true) true n T cs=some x->(x.1.weights Tryz.prog T).all (· <= reachBytes)=true->∃ o,R Own.aP W cs o/\Good o)
 {n:Nat} {v:Value} {x:DataW H × List MemPlace} (hy:DataW.trod enc Tryz.prog W 0 (fun _=>true) true n S [v]=some x) (hz:(x.1.weights Tryz.prog S).all (· <= reachBytes)=true):
 ∃ l:List α,Aq size R Own.aP W v l/\(∀ o∈l,Good o)/\l.length<=140737488355328:=by
 obtain⟨b,len,cap,rfl⟩:=zcj hu hy
 exact zdO (ps:=x.2) hu hsz hby hB hs1 zd3 ⟨n,hy⟩ ⟨b,len,cap,rfl⟩ hz
theorem zbI {W:World}{n:Nat}{v:Value}{x:DataW H × List MemPlace}(hy:DataW.trod enc Tryz.prog W 0 (fun _=>true) true n 26 [v]=some x)(hz:(x.1.weights Tryz.prog 26).all (· <= reachBytes)=true):∃ l,Own.Af W v l/\(∀ o∈l,zbM o)/\l.length<=140737488355328:=
 zb8 (B:=32) Tryz.underlying26 (by kernel_rfl) (by kernel_rfl) (by decide) (by decide) zcL hy hz
theorem zd5 {W:World}{n:Nat}{v:Value}{x:DataW H × List MemPlace}(hy:DataW.trod enc Tryz.prog W 0 (fun _=>true) true n 23 [v]=some x)(hz:(x.1.weights Tryz.prog 23).all (· <= reachBytes)=true):∃ l,Own.Du W v l/\(∀ o∈l,zel o)/\l.length<=140737488355328:=
 zb8 (B:=24) Tryz.underlying23 (by kernel_rfl) (by kernel_rfl) (by decide) (by decide) zd4 hy hz
theorem zck:Tryz.prog.cellsOf 26=1:=by kernel_rfl
theorem zcM:Tryz.prog.cellsOf 22=1:=by kernel_rfl
theorem zem {W:World}{base:Nat}{sp:Nat->Bool}{v:Value}{d:DataW H}{ps:List MemPlace}(hval:Value.okWide Tryz.prog W .any base 9 v)(h:DataW.Trod enc Tryz.prog W 0 sp true 9 v d ps)(hz:(d.weights Tryz.prog 9).all (· <= reachBytes)=true):
 ∃ s:ByteArray,v=.string s/\s.size<=140737488355328:=by
 obtain⟨s,rfl,rfl,_,_⟩:=ChangeMaps.open_string Tryz.underlying9 hval h
 refine⟨s,rfl,?_⟩
 simp only[DataW.weights,List.all_cons,List.all_nil,Bool.and_true,decide_eq_true_eq,Array.length_toList] at hz
 unfold reachBytes at hz
 have e:s.size=s.data.size:=rfl
 omega
theorem zcl:Tryz.prog.cellsOf 23=1:=by kernel_rfl
def zdc (s:Own.Space):Prop:=s.pre.size<=140737488355328/\(Lit.int .i64 s.threshold).wf=true/\(∀ m∈s.members,zbM m)/\s.members.length<=140737488355328
theorem zdd {W:World}(n:Nat)(cs:List Value)(x:DataW H × List MemPlace)(hl:cs.length=3)(hy:DataW.trod enc Tryz.prog W 0 (fun _=>true) true n 39 cs=some x)(hz:(x.1.weights Tryz.prog 39).all (· <= reachBytes)=true):
 ∃ o,Own.EI Own.aP W cs o/\zdc o:=by
 match cs,hl with
 | [c0,c1,c2],_ =>
   obtain⟨y0,y1,y2,m,he,_,u0,u1,u2⟩:=Deep.trod_struct3 Tryz.underlying39 hy
   simp only[XL,zci,zck,List.drop,List.take] at u0 u1 u2
   obtain⟨s,hs,rfl,_⟩:=DataW.trod_string Tryz.underlying9 u0
   obtain⟨t,ht,rfl,wt⟩:=DataW.trod_int Tryz.underlying3 u2
   simp only[List.cons.injEq,and_true] at hs ht
   subst hs;subst ht
   have hw:x.1.weights Tryz.prog 39=s.data.toList.length::(y1.1.weights Tryz.prog 26++[]):=by
    rw[he]
    simp only[DataW.weights,Tryz.underlying39]
    rfl
   rw[hw] at hz
   simp only[List.all_cons,List.append_nil,Bool.and_eq_true,decide_eq_true_eq] at hz
   obtain⟨l,h1,h2,h3⟩:=zbI u1 hz.2
   exact⟨⟨s,l,t⟩,⟨c1,rfl,h1⟩,IK hz.1,wt,h2,h3⟩
theorem zde {W:World}{n:Nat}{v:Value}{x:DataW H × List MemPlace}(hy:DataW.trod enc Tryz.prog W 0 (fun _=>true) true n 22 [v]=some x)(hz:(x.1.weights Tryz.prog 22).all (· <= reachBytes)=true):∃ l,Own.BF W v l/\(∀ o∈l,zdc o)/\l.length<=140737488355328:=
 zb8 (B:=48) Tryz.underlying22 (by kernel_rfl) (by kernel_rfl) (by decide) (by decide) zdd hy hz
theorem zd6:Tryz.prog.cellsOf 25=3:=by kernel_rfl
theorem zdp {W:World}{base:Nat}{v:Value}{d:DataW H}{ps:List MemPlace}(hval:Value.okWide Tryz.prog W .any base 25 v)(h:DataW.Trod enc Tryz.prog W 0 (fun _=>true) true 25 v d ps)(hz:(d.weights Tryz.prog 25).all (· <= reachBytes)=true):
 ∃ (o:Own.Ao) (u k:Value),v=.agg #[.int .i64 o.count,u,k]/\Own.BF W u o.spaces/\Own.Du W k o.keys/\(Lit.int .i64 o.count).wf=true/\(∀ s∈o.spaces,zdc s)/\(∀ k∈o.keys,zel k)/\o.spaces.length<=140737488355328/\o.keys.length<=140737488355328:=by
 obtain⟨cs,rfl,hs⟩:=okWide_struct Tryz.underlying25 hval
 rw[zd6] at hs
 match cs,hs with
 | ⟨[c0,c1,c2]⟩,_ =>
   obtain⟨n,hy⟩:=h
   obtain⟨y0,y1,y2,m,he,_,u0,u1,u2⟩:=Deep.trod_struct3 Tryz.underlying25 hy
   simp only[zci,zcM,zcl,Value.cells,List.drop,List.take] at u0 u1 u2
   obtain⟨a,ha,rfl,wa⟩:=DataW.trod_int Tryz.underlying3 u0
   simp only[List.cons.injEq,and_true] at ha
   subst ha
   have hd:d=.agg [.lit (.int .i64 a),y1.1,y2.1]:=(Prod.mk.inj he).1
   have hw:(DataW.agg [.lit (.int .i64 a),y1.1,y2.1]).weights Tryz.prog 25=y1.1.weights Tryz.prog 22++(y2.1.weights Tryz.prog 23++[]):=by
    simp only[DataW.weights,Tryz.underlying25]
    rfl
   rw[hd,hw,List.append_nil,List.all_append,Bool.and_eq_true] at hz
   obtain⟨l,h1,h2,h3⟩:=zde u1 hz.1
   obtain⟨k,g1,g2,g3⟩:=zd5 u2 hz.2
   exact⟨⟨a,l,k⟩,c1,c2,rfl,h1,g1,wa,h2,g2,h3,g3⟩
theorem zen:Tryz.prog.cellsOf 68=1:=by kernel_rfl
theorem zcN:Tryz.prog.cellsOf 70=3:=by kernel_rfl
theorem zcy {W:World}{S T:TypeId}(hu:Tryz.prog.underlying S=some (.slice T)){n:Nat}{v:Value}{x:DataW H × List MemPlace}(hy:DataW.trod enc Tryz.prog W 0 (fun _=>true) true n S [v]=some x):Eb v:=by
 rcases Deep.open_slice hu hy with ⟨hcs,_⟩|⟨a,len,cap,m,k,D,Pl,hcs,_,hl,_⟩
 ·exact⟨none,0,0,by simpa using hcs,Nat.le_refl _⟩
 ·exact⟨_,len,cap,by simpa using hcs,hl⟩
theorem zcO {W:World}{n:Nat}{v:Value}{x:DataW H × List MemPlace}(hy:DataW.trod enc Tryz.prog W 0 (fun _=>true) true n 68 [v]=some x)(hz:(x.1.weights Tryz.prog 68).all (· <= reachBytes)=true):∃ xs:List ByteArray,Al W v xs/\(∀ z∈xs,z.size<=140737488355328)/\xs.length<=140737488355328:=by
 obtain⟨b,len,cap,rfl⟩:=zcj Tryz.underlying68 hy
 exact zdM (p:=x.2) ⟨n,hy⟩ hz
end
end
section
open Go Go.ChangeShapes Go.WideShapes Go.RowKit Go.Maps
section
variable {H:Type} {enc:TypeId × Value->H}
def GAp (a:Own.Ai):Prop:=a.name.size<=140737488355328/\(Lit.int .i64 a.sig.index).wf=true/\(∀ s∈a.sig.chains,s.size<=140737488355328)/\(∀ k∈a.sig.path,k.size<=140737488355328)/\a.sig.chains.length<=140737488355328/\a.sig.path.length<=140737488355328
theorem GAp.sizes {a:Own.Ai}(h:GAp a):a.name.size<=140737488355328/\∀ x∈a.sig.chains++a.sig.path,x.size<=140737488355328:=⟨h.1,fun x hx=>by
 rcases List.mem_append.1 hx with hx|hx
 ·exact h.2.2.1 x hx
 ·exact h.2.2.2.1 x hx⟩
theorem zdP {W:World}(n:Nat)(cs:List Value)(x:DataW H × List MemPlace)(hl:cs.length=4)(hy:DataW.trod enc Tryz.prog W 0 (fun _=>true) true n 72 cs=some x)(hz:(x.1.weights Tryz.prog 72).all (· <= reachBytes)=true):
 ∃ o,Own.RAp Own.aP W cs o/\GAp o:=by
 match cs,hl with
 | [c0,c1,c2,c3],_ =>
   obtain⟨y0,y1,m,he,_,u0,u1⟩:=ChangeShapes.trod_struct2 Tryz.underlying72 hy
   simp only[XL,zcN,List.drop,List.take] at u0 u1
   obtain⟨s,hs,e0,_⟩:=DataW.trod_string Tryz.underlying9 u0
   obtain⟨z0,z1,z2,m2,he2,_,g0,g1,g2⟩:=Deep.trod_struct3 Tryz.underlying70 u1
   simp only[zci,zen,List.drop,List.take] at g0 g1 g2
   obtain⟨a,ha,e1,wa⟩:=DataW.trod_int Tryz.underlying3 g0
   simp only[List.cons.injEq,and_true] at hs ha
   subst hs;subst ha
   have hd2:y1.1=.agg [.lit (.int .i64 a),z1.1,z2.1]:=by rw[he2,e1]
   have hd:x.1=.agg [.lit (.string s.data.toList),.agg [.lit (.int .i64 a),z1.1,z2.1]]:=by rw[<- hd2,he,e0]
   have hw:(DataW.agg [.lit (.string s.data.toList),.agg [.lit (.int .i64 a),z1.1,z2.1]]).weights Tryz.prog 72=s.data.toList.length::((z1.1.weights Tryz.prog 68++(z2.1.weights Tryz.prog 68++[]))++[]):=by
    simp only[DataW.weights,Tryz.underlying72]
    rfl
   rw[hd,hw] at hz
   simp only[List.all_cons,List.append_nil,List.all_append,Bool.and_eq_true,decide_eq_true_eq] at hz
   obtain⟨l,h1,h2,h3⟩:=zcO g1 hz.2.1
   obtain⟨k,k1,k2,k3⟩:=zcO g2 hz.2.2
   exact⟨⟨s,⟨a,l,k⟩⟩,⟨c2,c3,rfl,⟨h1,zcy Tryz.underlying68 g1,fun _ _ _=>trivial⟩,⟨k1,zcy Tryz.underlying68 g2,fun _ _ _=>trivial⟩⟩,IK hz.1,wa,h2,k2,h3,k3⟩
theorem zdQ {W:World}{n:Nat}{v:Value}{x:DataW H × List MemPlace}(hy:DataW.trod enc Tryz.prog W 0 (fun _=>true) true n 27 [v]=some x)(hz:(x.1.weights Tryz.prog 27).all (· <= reachBytes)=true):∃ l,Aq 4 Own.RAp Own.aP W v l/\(∀ a∈l,GAp a)/\l.length<=140737488355328:=by
 obtain⟨l,h1,h2,h3⟩:=zb8 (B:=72) Tryz.underlying27 (by kernel_rfl) (by kernel_rfl) (by decide) (by decide) zdP hy hz
 exact⟨l,h1,h2,h3⟩
theorem zcP:Tryz.prog.cellsOf 27=1:=by kernel_rfl
theorem zdq:Tryz.prog.cellsOf 29=7:=by kernel_rfl
def GOp (o:Own.Op):Prop:=((Lit.int .i64 o.kind).wf=true/\(Lit.int .i64 o.threshold).wf=true)/\(o.pre.size<=140737488355328/\o.name.size<=140737488355328/\o.pub.size<=140737488355328)/\(∀ m∈o.members,zbM m)/\o.members.length<=140737488355328/\(∀ a∈o.Aa,GAp a)/\o.Aa.length<=140737488355328
theorem zdR {W:World}(n:Nat)(cs:List Value)(x:DataW H × List MemPlace)(hl:cs.length=7)(hy:DataW.trod enc Tryz.prog W 0 (fun _=>true) true n 29 cs=some x)(hz:(x.1.weights Tryz.prog 29).all (· <= reachBytes)=true):
 ∃ (o:Own.Op) (mv av:Value),cs=[.int .i64 o.kind,.string o.pre,mv,.int .i64 o.threshold,.string o.name,.string o.pub,av]/\Own.Af W mv o.members/\Aq 4 Own.RAp Own.aP W av o.Aa/\GOp o:=by
 match cs,hl with
 | [c0,c1,c2,c3,c4,c5,c6],_ =>
   obtain⟨xs,m,_,rfl,_,hlen,hf⟩:=DataW.trod_struct Tryz.underlying29 hy
   match xs,hlen with
   | [y0,y1,y2,y3,y4,y5,y6],_ =>
     have u0:=hf 0 _ rfl;have u1:=hf 1 _ rfl;have u2:=hf 2 _ rfl;have u3:=hf 3 _ rfl;have u4:=hf 4 _ rfl;have u5:=hf 5 _ rfl;have u6:=hf 6 _ rfl
     change DataW.trod enc Tryz.prog W 0 (fun _=>true) true m 3 (List.take (Tryz.prog.cellsOf 3) (List.drop 0 [c0,c1,c2,c3,c4,c5,c6]))=some y0 at u0
     change DataW.trod enc Tryz.prog W 0 (fun _=>true) true m 9 (List.take (Tryz.prog.cellsOf 9) (List.drop 1 [c0,c1,c2,c3,c4,c5,c6]))=some y1 at u1
     change DataW.trod enc Tryz.prog W 0 (fun _=>true) true m 26 (List.take (Tryz.prog.cellsOf 26) (List.drop 2 [c0,c1,c2,c3,c4,c5,c6]))=some y2 at u2
     change DataW.trod enc Tryz.prog W 0 (fun _=>true) true m 3 (List.take (Tryz.prog.cellsOf 3) (List.drop 3 [c0,c1,c2,c3,c4,c5,c6]))=some y3 at u3
     change DataW.trod enc Tryz.prog W 0 (fun _=>true) true m 9 (List.take (Tryz.prog.cellsOf 9) (List.drop 4 [c0,c1,c2,c3,c4,c5,c6]))=some y4 at u4
     change DataW.trod enc Tryz.prog W 0 (fun _=>true) true m 9 (List.take (Tryz.prog.cellsOf 9) (List.drop 5 [c0,c1,c2,c3,c4,c5,c6]))=some y5 at u5
     change DataW.trod enc Tryz.prog W 0 (fun _=>true) true m 27 (List.take (Tryz.prog.cellsOf 27) (List.drop 6 [c0,c1,c2,c3,c4,c5,c6]))=some y6 at u6
     simp only[XL,zci,zck,zcP,List.drop,List.take] at u0 u1 u2 u3 u4 u5 u6
     obtain⟨a,ha,e0,wa⟩:=DataW.trod_int Tryz.underlying3 u0
     obtain⟨b,hb,e1,_⟩:=DataW.trod_string Tryz.underlying9 u1
     obtain⟨d,hd,e3,wd⟩:=DataW.trod_int Tryz.underlying3 u3
     obtain⟨e,hee,e4,_⟩:=DataW.trod_string Tryz.underlying9 u4
     obtain⟨f,hff,e5,_⟩:=DataW.trod_string Tryz.underlying9 u5
     have ha' : c0=.int .i64 a:=by simpa using ha
     have hb' : c1=.string b:=by simpa using hb
     have hd' : c3=.int .i64 d:=by simpa using hd
     have he' : c4=.string e:=by simpa using hee
     have hf' : c5=.string f:=by simpa using hff
     subst ha';subst hb';subst hd';subst he';subst hf'
     have hw:(DataW.agg ([y0,y1,y2,y3,y4,y5,y6].map (·.1))).weights Tryz.prog 29=b.data.toList.length::(y2.1.weights Tryz.prog 26++(e.data.toList.length::f.data.toList.length::(y6.1.weights Tryz.prog 27++[]))):=by
      simp only[DataW.weights,Tryz.underlying29,e0,e1,e3,e4,e5,List.map_cons,List.map_nil]
      rfl
     rw[hw] at hz
     simp only[List.all_cons,List.all_append,List.append_nil,Bool.and_eq_true,decide_eq_true_eq] at hz
     obtain⟨z1,z2,z3,z4,z5⟩:=hz
     obtain⟨l,h1,h2,h3⟩:=zbI u2 z2
     obtain⟨k,k1,k2,k3⟩:=zdQ u6 z5
     exact⟨⟨a,b,l,d,e,f,k⟩,c2,c6,rfl,h1,k1,⟨wa,wd⟩,⟨IK z1,IK z3,IK z4⟩,h2,h3,k2,k3⟩
theorem ze9 {W:World}{base:Nat}{v:Value}{d:DataW H}{ps:List MemPlace}(hval:Value.okWide Tryz.prog W .any base 29 v)(h:DataW.Trod enc Tryz.prog W 0 (fun _=>true) true 29 v d ps)(hz:(d.weights Tryz.prog 29).all (· <= reachBytes)=true):
 ∃ (o:Own.Op) (mv av:Value),v=Own.opV o mv av/\Own.Af W mv o.members/\Own.W9 W av o.Aa/\GOp o:=by
 obtain⟨cs,rfl,hs⟩:=okWide_struct Tryz.underlying29 hval
 rw[zdq] at hs
 match cs,hs with
 | ⟨[c0,c1,c2,c3,c4,c5,c6]⟩,_ =>
   obtain⟨n,hy⟩:=h
   simp only[Value.cells] at hy
   obtain⟨o,mv,av,hu,h1,h2,hg⟩:=zdR n [c0,c1,c2,c3,c4,c5,c6] (d,ps) rfl hy hz
   refine⟨o,mv,av,?_,h1,Own.eH h2,hg⟩
   unfold Own.opV
   rw[hu]
end
end
section
open Go Go.ChangeShapes Go.WideShapes Go.RowKit Go.Maps
theorem zdf {H:Type}{enc:TypeId × Value->H}{W:World}{v u k:Value}{cnt:Int}{d:DataW H}{ps:List MemPlace}(h:DataW.Trod enc Tryz.prog W 0 (fun _=>true) true 25 v d ps)(e:v=.agg #[.int .i64 cnt,u,k]):Eb u:=by
 subst e
 obtain⟨n,hy⟩:=h
 obtain⟨y0,y1,y2,m,he,_,u0,u1,u2⟩:=Deep.trod_struct3 Tryz.underlying25 hy
 simp only[zci,zcM,zcl,Value.cells,List.drop,List.take] at u0 u1 u2
 exact zcy Tryz.underlying22 u1
end
section
open Go Go.ChangeShapes Go.WideShapes Go.ChangeAt Go.RowKit
theorem zcQ:ownKnob Tryz.prog.godebug=none:=by kernel_rfl
theorem XM:laidOutB Tryz.prog=true:=by kernel_rfl
theorem zbK (os:Os)(started:os.Started)(H:Type)(enc:TypeId × Value->H):
 ReturnsInHanded {} Tryz.checked os 3 .any (fun w args=>(Rows.ownersAppliesSpec.pre enc Tryz.prog Tryz.f3 Rows.ownersAppliesRow.domain false w args/\laidMetH Tryz.prog Rows.ownersAppliesRow.laid w)/\sizedMet enc Tryz.prog Tryz.f3 (OpenSpec.ofChange Rows.ownersAppliesSpec) false w args)
  (Rows.ownersAppliesSpec.post enc Tryz.prog Tryz.f3 false true false false):=by
 refine Lp (C:=Tryz.checked) (X:=fun w _=>laidMetH Tryz.prog Rows.ownersAppliesRow.laid w) (fun _ _ _ hh h=>h.of_heap hh) zcQ started (by kernel_rfl) Tryz.func3
  (ChangeSpec.witness_shaped (enc :=enc) (C :=Tryz.checked) (os :=os) (X :=fun w _ => laidMetH Tryz.prog Rows.ownersAppliesRow.laid w) false (World.laidAll Tryz.prog os Rows.ownersAppliesRow.laid) #[.agg #[.int .i64 0,.slice none 0 0,.slice none 0 0],.string ⟨#[]⟩,.agg #[.int .i64 0,.string ⟨#[]⟩,.slice none 0 0,.int .i64 0,.string ⟨#[]⟩,.string ⟨#[]⟩,.slice none 0 0]] 8 (World.laidAll_os _ _ _)
    (World.shaped_of_ZipB (by kernel_rfl) (by kernel_rfl)) (by kernel_rfl) (by kernel_rfl) (by kernel_rfl)
    (by rw[MakeChecks.laidMetH_plain _ _ _ (by kernel_rfl)];exact laidMet_laidAll _ (by kernel_rfl) (by kernel_rfl))) ?_
 intro W base args ds gs before hval0 hW _ hz0 _ hsh _
 have hM:=zdN hsh
 have hval:∀ (j:Nat) t v,Tryz.f3.params[j]? = some t->args[j]? = some v->Value.okWide Tryz.prog W .any base t v:=hval0
 have hW':=hW
 obtain⟨p,q,hA0,hV,rfl,_,_⟩:=hW
 have hA:DataW.TrodAll enc Tryz.prog W 0 (fun _=>true) true Tryz.f3.params.toList args.toList ds p:=hA0
 rw[Tryz.params3] at hA hval
 obtain⟨v0,v1,v2,d0,d1,d2,p0,p1,p2,rfl,rfl,rfl,h0,h1,h2⟩:=trodAll_three hA
 obtain⟨rfl,rfl⟩:=trodVars_none hV
 have e0:DataW.weightsEach Tryz.prog (Tryz.f3.params.toList++Rows.ownersAppliesSpec.plain.varTypes Tryz.prog) ([d0,d1,d2]++[])=d0.weights Tryz.prog 25++(d1.weights Tryz.prog 9++(d2.weights Tryz.prog 29++[])):=by
  rw[Tryz.params3]
  rfl
 have hz0:=e0 ▸ hz0
 simp only[List.all_append,List.all_nil,Bool.and_true,Bool.and_eq_true] at hz0
 have g0:=h0
 obtain⟨o0,u0,k0,rfl,hos0,hok0,zfc,zeN,zfd,zeO,zeP⟩:=zdp (hval 0 25 v0 rfl rfl) h0 hz0.1
 obtain⟨s1,rfl,zeQ⟩:=zem (hval 1 9 v1 rfl rfl) h1 hz0.2.1
 have g2:=h2
 obtain⟨p2p,mv2,av2,rfl,zeR,zeS,zdS⟩:=ze9 (hval 2 29 v2 rfl rfl) h2 hz0.2.2
 have e1:Rows.ownersAppliesSpec.fn H ([d0,d1,d2]++[]) = { results:=[.lit (.bool true)],args:=[d0,d1,d2] } :=by simp[Rows.ownersAppliesSpec]
 refine(zcw o0 s1 p2p _ _ _ _ W hM hos0 hok0 (zdf g0 rfl) zeR zeS zeO zeP (fun s hs=>(zeN s hs).2.2.2) zeQ zdS.2.2.2.1 zdS.2.2.2.2.2 zdS.2.1 (fun a ha=>(zdS.2.2.2.2.1 a ha).sizes.2)).mono fun e W' ⟨he,hb⟩=>?_
 subst he
 refine⟨_,rfl,_,_,_,[],p0++(p1++(p2++[])),[],by simpa using hW',?_,?_,?_,hb.frame _,fun h=>by cases h⟩
 ·rw[e1];exact trodAll_mk1 (shut_bool Tryz.underlying4 true)
 ·rw[e1];exact(trodAll_cons_mk (Below.trod XM (by kernel_rfl) (of_decide_eq_true (by kernel_rfl)) h0 hb (fun z hz=>hW'.lt z (by simp[hz]))) (trodAll_cons_mk (Below.trod XM (by kernel_rfl) (of_decide_eq_true (by kernel_rfl)) h1 hb (fun z hz=>hW'.lt z (by simp[hz]))) (trodAll_cons_mk (Below.trod XM (by kernel_rfl) (of_decide_eq_true (by kernel_rfl)) h2 hb (fun z hz=>hW'.lt z (by simp[hz]))) trodAll_mk0)))
 ·rw[e1];rfl
theorem zbY:Rows.OwnersAppliesSaid:=kL zbK
theorem oapplies_card:Rows.OwnersAppliesCardSaid:=
 Claim7.holds_tied_plain_at .later [] [.data,.pinned] true Rows.ownersAppliesCard.stood.harness false zbY (fun _ h=>by cases h) (by kernel_rfl) (fun _ h=>by cases h) ownersApplies_row_tie rfl ⟨rfl,rfl⟩ (by kernel_rfl) rfl
  (fun f fn hf hfn => by
    obtain rfl : f = 3 := Option.some.inj ((show Tryz.prog.funcNamed "modcert/modcertlaw53.OwnersApplies" = some 3 by kernel_rfl).symm.trans hf) |>.symm
    obtain rfl:fn=Tryz.f3:=(Option.some.inj (Tryz.func3.symm.trans hfn)).symm
    exact⟨by kernel_rfl,fun j t ht=>by
     rw[Tryz.params3] at ht
     have hm:t∈[25,9,29]:=by simpa using Array.mem_of_getElem? ht
     have hall:([25,9,29].all fun u => !Tryz.prog.wantsStandIn u)=true:=by kernel_rfl
     exact(show Tryz.prog.wantsStandIn t=false by simpa using List.all_eq_true.1 hall t hm)⟩)
  (by kernel_rfl)
end
end Go.Proofs.YtjlmglgmcekmhaaGreatDoor
