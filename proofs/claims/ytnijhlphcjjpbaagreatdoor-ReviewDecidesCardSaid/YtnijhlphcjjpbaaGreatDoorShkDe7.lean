/- The program's reviews: a vote; The laws' state: the owners and the queue in their boxes; The laws' example, plainly; Regions with loads beside calls, whose last operations store into what the loads read: the loads' blocks need to stand only as long as a load may float; The laws' example stands; ReviewDecides, plainly: votes of at most three members, at most two each; Maps from bytes as functions: what each key holds (printed from Smap.tpl); A slice of bytes, as it is read; The law ReviewDecides holds, for any arguments; The wrap that keeps the laid tables and the world's shape; bytealg.MaxLen stands in a world of that shape; A slice of bytes that came in, as the laws read it. -/
import Derived.Maps.Keyed
import Derived.HandedShaped
import Derived.OpenShut
import Derived.Test.YtnijhlphcjjpbaaGreatDoorProg
import Derived.ProofKit
import Derived.Deep.Strs
import Derived.Deep.SlicePairs
import Derived.ChangeMaps5
import Derived.ChangeSlices
import Derived.Test.YtnijhlphcjjpbaaGreatDoorShkDe1
import Derived.Test.YtnijhlphcjjpbaaGreatDoorShkDe2
import Derived.Test.YtnijhlphcjjpbaaGreatDoorShkDe3
import Derived.Test.YtnijhlphcjjpbaaGreatDoorShkDe5
import Derived.Test.YtnijhlphcjjpbaaGreatDoorShkDe6
set_option linter.unusedVariables false
set_option linter.unusedSimpArgs false
set_option maxRecDepth 100000
set_option maxHeartbeats 16000000
namespace Go.Proofs.YtnijhlphcjjpbaaGreatDoor
section
open Go Go.RowKit Go.Maps
theorem rvVote_any (q:Own.Queue) (o:Own.Owners) (id:Int) (ag:Bool) (ap:Own.Approval) (qv sv kv cv pv:Value) (w:World) (hMx:MaxL w) (hP:Own.PropsC w qv q.props) (hS:Own.SpacesC w sv o.spaces) (hK:Own.KeysC w kv o.keys) (hcs:StrsC w cv ap.sig.chains) (hps:StrsC w pv ap.sig.path) (hcap:CapOK pv)
 (hlp:q.props.length<=1000000) (hlv:∀ x∈q.props,x.votes.length<=3000000) (hls:o.spaces.length<=3000000) (hlk:o.keys.length<=800000) (hlm:∀ x∈o.spaces,x.members.length<=3000000)
 (hal:ap.name.size<=140737488355328/\ap.sig.chains.length<=140737488355328/\ap.sig.path.length<=140737488355328):
 Calls Tryz.prog 25 #[.agg #[.int .i64 q.next,qv],.agg #[.int .i64 o.count,sv,kv],.int .i64 id,.bool ag,.agg #[.string ap.name,.int .i64 ap.sig.index,cv,pv]] w (VotePost w (Own.vote q o id ag ap)):=by
 obtain⟨R,hR⟩:∃ R,R=Own.vote q o id ag ap:=⟨_,rfl⟩
 obtain⟨Q,hQ⟩:∃ Q,Q=VotePost w R:=⟨_,rfl⟩
 rw[<- hR,<- hQ]
 have HQ:=zh hQ;clear hQ
 unfold Own.vote Own.findP at hR
 obtain⟨qa,qc,rfl⟩:=hP.len
 obtain⟨sa,sc,rfl⟩:=hS.len
 obtain⟨ka,kc,rfl⟩:=hK.len
 obtain⟨ca,cc,rfl⟩:=hcs.len
 obtain⟨pa,pc,rfl⟩:=hps.len
 have hvq:=fun W (hW:Below w.heap.size w W)=>rvValid_any q (.slice qa q.props.length qc) W (hMx.below hW) (hP.below hW) (by omega) (fun p hp=>by have:=hlv p hp;omega)
 have hvo:=fun W (hW:Below w.heap.size w W)=>owValid_any o (.slice sa o.spaces.length sc) (.slice ka o.keys.length kc) W (hMx.below hW) (hS.below hW) (hK.below hW) (by omega) (by omega) (fun x hx=>by have:=hlm x hx;omega)
 have hau:=fun(s:ByteArray) W (hW:Below w.heap.size w W)=>owAuthorityX_any o s (.slice sa o.spaces.length sc) (.slice ka o.keys.length kc) W (hMx.below hW) (hS.below hW) (hK.below hW) (by omega) (by omega) (fun x hx=>by have:=hlm x hx;omega)
 have hus:=fun(X:Nat->Prop) (s:Own.Space) (path msg:ByteArray) (ma:Option Addr) (mc:Nat) W (hW:Below w.heap.size w W) (hXw:∀ k,X k->w.heap.size<=k) (hX:∀ k,X k->k<W.heap.size) hm hmc hauth hmsg=>rvUsed_any X o s path msg ap (.slice sa o.spaces.length sc) (.slice ka o.keys.length kc) (.slice ca ap.sig.chains.length cc) (.slice pa ap.sig.path.length pc) ma mc W hX (hMx.below hW) ((hS.mono (G:=fun k=>¬ X k) (fun k _ hk h=>by have:=hXw k h;omega)).below hW) (hK.below hW) hm hmc (hcs.below hW) (hps.below hW) hcap hauth hlk hmsg hal
 have hqp:=fun(h:Own.queueOK q=true) (p:Own.Proposal) (hp:p∈q.props)=>Own.queue_prop h hp
 have hids:Own.queueOK q=true->q.props.Pairwise fun x y=>x.id<y.id:=fun h=>Own.queue_ids h
 obtain⟨QB,hQB⟩:∃ b,b=Own.queueOK q:=⟨_,rfl⟩
 obtain⟨OB,hOB⟩:∃ b,b=Own.ownersOK o:=⟨_,rfl⟩
 simp only[<- hQB,<- hOB] at hvq hvo hR hqp hids
 obtain⟨nx,L⟩:=q
 dsimp only at*
 obtain⟨AU,hAU⟩:∃ AU,AU=Own.authority o:=⟨_,rfl⟩
 obtain⟨UR,hUR⟩:∃ UR:Own.Space->ByteArray->Except Int (Own.Member × List Own.KeyUse),UR=fun s m=>Own.usedR o s m ap:=⟨_,rfl⟩
 have hur:∀ s m,Own.usedR o s m ap=UR s m:=fun s m=>by rw[hUR]
 have herr:∀ s m c,UR s m=.error c->(c==0)=false:=fun s m c h=>by
  rw[<- hur] at h
  unfold Own.usedR at h
  split at h
  ·cases h;rfl
  ·split at h
   ·split at h
    ·cases h;rfl
    ·cases h
   ·cases h;rfl
 have HERR:=zh herr;clear herr
 have hR2:R=if (QB&&OB)=false then (Own.Queue.none,Own.Owners.none,1) else match L.find? (fun p=>decide (p.id=id)) with
  | none=>(Own.Queue.none,Own.Owners.none,6)
  | some p => match AU p.path with
    | none=>(Own.Queue.none,Own.Owners.none,6)
    | some s => match UR s (Own.messageOf p ag) with
      | .error c=>(Own.Queue.none,Own.Owners.none,c)
      | .ok (m,K)=>if 1024<(Own.putVote p.votes ⟨ap.name,m.pub,ag⟩).length then (Own.Queue.none,Own.Owners.none,7) else (⟨nx,Own.setP L (Own.withV p (Own.putVote p.votes ⟨ap.name,m.pub,ag⟩))⟩,{ o with keys:=K },0):=by
  rw[hR,hAU]
  split
  ·rfl
  ·cases L.find? (fun p=>decide (p.id=id)) with
   | none=>rfl
   | some p =>
     dsimp only
     cases Own.authority o p.path with
     | none=>rfl
     | some s =>
       dsimp only
       rw[<- hur]
       unfold Own.usedR
       cases Own.find s.members ap.name with
       | none=>rfl
       | some m =>
         dsimp only
         cases hv:Sig.verify m.pub (Own.messageOf p ag) ap.sig with
         | false=>rfl
         | true =>
           by_cases hi:ap.sig.index<Own.nextOf o.keys m.pub
           ·simp[hi]
           ·simp only[Bool.true_eq_false,hi,if_false,if_true]
            rfl
 simp only[<- hAU,hur] at hau hus
 have HVQ:=zh hvq;have HVO:=zh hvo;have HAUC:=zh hau;have HUS:=zh hus;have HQP:=zh hqp;have HIDS:=zh hids;have HR:=zh hR2;have HP:=zh hP;have HLV:=zh hlv;have HMX:=zh hMx;have HAU:=zh hAU
 have HSS:=zh hS;have HKK:=zh hK
 clear hvq hvo hau hus hqp hids hR hR2 hS hK hlm hQB hOB hAU hUR hur hP hlv hMx hcs hps hcap
 obtain⟨nm,⟨ix,chs,pth⟩⟩:=ap
 obtain⟨cnt,S,K⟩:=o
 dsimp only at*
 have F1:=zh (show Boxes w (((((w.alloc (.cells #[.int .i64 nx,.slice qa L.length qc] 24)).alloc (.cells #[.int .i64 cnt,.slice sa S.length sc,.slice ka K.length kc] 38)).alloc (.cells #[.string nm,.int .i64 ix,.slice ca chs.length cc,.slice pa pth.length pc] 43)).alloc (.cells #[.int .i64 0,.slice none 0 0] 24)).alloc (.cells #[.int .i64 0,.slice none 0 0,.slice none 0 0] 38)) [(24,#[.int .i64 nx,.slice qa L.length qc]),(38,#[.int .i64 cnt,.slice sa S.length sc,.slice ka K.length kc]),(43,#[.string nm,.int .i64 ix,.slice ca chs.length cc,.slice pa pth.length pc]),(24,#[.int .i64 0,.slice none 0 0]),(38,#[.int .i64 0,.slice none 0 0,.slice none 0 0])] from((((((Fresh.nil w).push 24 #[.int .i64 nx,.slice qa L.length qc]).push 38 #[.int .i64 cnt,.slice sa S.length sc,.slice ka K.length kc]).push 43 #[.string nm,.int .i64 ix,.slice ca chs.length cc,.slice pa pth.length pc]).push 24 #[.int .i64 0,.slice none 0 0]).push 38 #[.int .i64 0,.slice none 0 0,.slice none 0 0]).boxes)
 have x00:(((((w.alloc (.cells #[.int .i64 nx,.slice qa L.length qc] 24)).alloc (.cells #[.int .i64 cnt,.slice sa S.length sc,.slice ka K.length kc] 38)).alloc (.cells #[.string nm,.int .i64 ix,.slice ca chs.length cc,.slice pa pth.length pc] 43)).alloc (.cells #[.int .i64 0,.slice none 0 0] 24)).alloc (.cells #[.int .i64 0,.slice none 0 0,.slice none 0 0] 38)).cell? ⟨w.heap.size,0,none⟩=some (.int .i64 nx):=F1.out.cell 0 0 rfl rfl
 have x01:(((((w.alloc (.cells #[.int .i64 nx,.slice qa L.length qc] 24)).alloc (.cells #[.int .i64 cnt,.slice sa S.length sc,.slice ka K.length kc] 38)).alloc (.cells #[.string nm,.int .i64 ix,.slice ca chs.length cc,.slice pa pth.length pc] 43)).alloc (.cells #[.int .i64 0,.slice none 0 0] 24)).alloc (.cells #[.int .i64 0,.slice none 0 0,.slice none 0 0] 38)).cell? ⟨w.heap.size,1,none⟩=some (.slice qa L.length qc):=F1.out.cell 0 1 rfl rfl
 go_enter Tryz.func25,Tryz.ntmps25
 go_wp2_with fail
 generalize (((((w.alloc (.cells #[.int .i64 nx,.slice qa L.length qc] 24)).alloc (.cells #[.int .i64 cnt,.slice sa S.length sc,.slice ka K.length kc] 38)).alloc (.cells #[.string nm,.int .i64 ix,.slice ca chs.length cc,.slice pa pth.length pc] 43)).alloc (.cells #[.int .i64 0,.slice none 0 0] 24)).alloc (.cells #[.int .i64 0,.slice none 0 0,.slice none 0 0] 38))=w1 at*
 refine(HVQ.out w1 F1.out.under).mono ?_
 rintro e w2 ⟨rfl,hb2⟩
 have F2:=zh (F1.out.step hb2)
 (try clear x00);(try clear x01);(try clear x10);(try clear x11);(try clear x12);(try clear x20);(try clear x21);(try clear x22);(try clear x23);(try clear x30f);(try clear x30);(try clear x31f);(try clear x31);(try clear x40f);(try clear x40);(try clear x41f);(try clear x41);(try clear x42f);(try clear x42)
 clear hb2
 cases QB with
 | false =>
   have HE:=zh (show R=(Own.Queue.none,Own.Owners.none,1) by rw[HR.out];rfl)
   obtain⟨x30,x31,x30f,x31f⟩:=F2.out.e3_2 rfl
   obtain⟨x40,x41,x42,x40f,x41f,x42f⟩:=F2.out.e4_3 rfl
   go_wp2_with fail
   have g1:=F2.out.put 3 0 (.int .i64 0) rfl
   have g2:=g1.put 3 1 (.slice none 0 0) rfl
   have g3:=g2.put 4 0 (.int .i64 0) rfl
   have g4:=g3.put 4 1 (.slice none 0 0) rfl
   have G2:=g4.put 4 2 (.slice none 0 0) rfl
   clear g1 g2 g3 g4
   refine done_cct rfl rfl rfl rfl (load_row (G2.at1 3 rfl) Tryz.underlying24 rfl info_Queue) (load_row (G2.at1 4 rfl) Tryz.underlying38 rfl info_Owners) ?_
   rw[HQ.out,HE.out]
   exact⟨⟨_,_,_,rfl,⟨_,rfl,ListF.nil _ _⟩,ListF.nil _ _,ListF.nil _ _⟩,G2.under⟩
 | true=>
 obtain⟨x10,x11,x12⟩:=F2.out.d1_3 rfl
 go_wp2_with fail
 refine(HVO.out w2 F2.out.under).mono ?_
 rintro e w3 ⟨rfl,hb3⟩
 have F3:=zh (F2.out.step hb3)
 (try clear x00);(try clear x01);(try clear x10);(try clear x11);(try clear x12);(try clear x20);(try clear x21);(try clear x22);(try clear x23);(try clear x30f);(try clear x30);(try clear x31f);(try clear x31);(try clear x40f);(try clear x40);(try clear x41f);(try clear x41);(try clear x42f);(try clear x42)
 clear hb3
 cases OB with
 | false =>
   have HE:=zh (show R=(Own.Queue.none,Own.Owners.none,1) by rw[HR.out];rfl)
   obtain⟨x30,x31,x30f,x31f⟩:=F3.out.e3_2 rfl
   obtain⟨x40,x41,x42,x40f,x41f,x42f⟩:=F3.out.e4_3 rfl
   go_wp2_with fail
   have g1:=F3.out.put 3 0 (.int .i64 0) rfl
   have g2:=g1.put 3 1 (.slice none 0 0) rfl
   have g3:=g2.put 4 0 (.int .i64 0) rfl
   have g4:=g3.put 4 1 (.slice none 0 0) rfl
   have G2:=g4.put 4 2 (.slice none 0 0) rfl
   clear g1 g2 g3 g4
   refine done_cct rfl rfl rfl rfl (load_row (G2.at1 3 rfl) Tryz.underlying24 rfl info_Queue) (load_row (G2.at1 4 rfl) Tryz.underlying38 rfl info_Owners) ?_
   rw[HQ.out,HE.out]
   exact⟨⟨_,_,_,rfl,⟨_,rfl,ListF.nil _ _⟩,ListF.nil _ _,ListF.nil _ _⟩,G2.under⟩
 | true=>
 have hr:=HR.out
 rw[if_neg (show ¬ (true&&true)=false by decide)] at hr
 obtain⟨x00,x01⟩:=F3.out.d0_2 rfl
 have HR1:=zh hr;clear hr HR
 go_wp2_with fail
 refine(rvFind_any nx id (.slice qa L.length qc) L w3 (HP.out.below F3.out.under) (by omega)).mono ?_
 rintro e w4 ⟨⟨i,rfl,hi⟩,hb4⟩
 have F4:=zh (F3.out.step hb4)
 (try clear x00);(try clear x01);(try clear x10);(try clear x11);(try clear x12);(try clear x20);(try clear x21);(try clear x22);(try clear x23);(try clear x30f);(try clear x30);(try clear x31f);(try clear x31);(try clear x40f);(try clear x40);(try clear x41f);(try clear x41);(try clear x42f);(try clear x42)
 clear hb4
 rcases hi with ⟨rfl,hf,_⟩ | ⟨j,hj,rfl,hf,hpj,_⟩
 ·have HE:=zh (show R=(Own.Queue.none,Own.Owners.none,6) by rw[HR1.out,hf])
  clear hf
  obtain⟨x30,x31,x30f,x31f⟩:=F4.out.e3_2 rfl
  obtain⟨x40,x41,x42,x40f,x41f,x42f⟩:=F4.out.e4_3 rfl
  go_wp2_with fail
  have g1:=F4.out.put 3 0 (.int .i64 0) rfl
  have g2:=g1.put 3 1 (.slice none 0 0) rfl
  have g3:=g2.put 4 0 (.int .i64 0) rfl
  have g4:=g3.put 4 1 (.slice none 0 0) rfl
  have G2:=g4.put 4 2 (.slice none 0 0) rfl
  clear g1 g2 g3 g4
  refine done_cct rfl rfl rfl rfl (load_row (G2.at1 3 rfl) Tryz.underlying24 rfl info_Queue) (load_row (G2.at1 4 rfl) Tryz.underlying38 rfl info_Owners) ?_
  rw[HQ.out,HE.out]
  exact⟨⟨_,_,_,rfl,⟨_,rfl,ListF.nil _ _⟩,ListF.nil _ _,ListF.nil _ _⟩,G2.under⟩
 have dj:decide ((j:Int)<0)=false:=decide_eq_false (by omega)
 have hr:=HR1.out
 rw[hf] at hr
 have HR2:=zh hr
 obtain⟨x00,x01⟩:=F4.out.d0_2 rfl
 clear hr hf hpj HR1
 go_wp2_with fail
 refine(rvKeptS_any nx (.slice qa L.length qc) L w4 (HP.out.below F4.out.under) hlp HLV.out).mono ?_
 rintro e w5 ⟨⟨v5,us,rfl,hso⟩,hb5⟩
 obtain⟨g,cap,rfl,_⟩:=own_cell hso.row (by omega)
 have O6:=zh (show Boxes w5 (w5.alloc (.cells #[.int .i64 nx,.slice (some ⟨g,0,none⟩) L.length cap] 24)) [(24,#[.int .i64 nx,.slice (some ⟨g,0,none⟩) L.length cap])] from((Fresh.nil w5).push 24 #[.int .i64 nx,.slice (some ⟨g,0,none⟩) L.length cap]).boxes)
 have F6:=zh (F4.out.step (hb5.trans (O6.out.under.mono hb5.size)));have SO6:=zh (hso.below O6.out.under);have hso5:=hso
 have hz5:w.heap.size+5<=w4.heap.size:=F4.out.size
 have hz45:=hb5.size
 (try clear x00);(try clear x01);(try clear x10);(try clear x11);(try clear x12);(try clear x20);(try clear x21);(try clear x22);(try clear x23);(try clear x30f);(try clear x30);(try clear x31f);(try clear x31);(try clear x40f);(try clear x40);(try clear x41f);(try clear x41);(try clear x42f);(try clear x42)
 clear hb5 hso
 go_upto_region 7 with fail
 generalize (w5.alloc (.cells #[.int .i64 nx,.slice (some ⟨g,0,none⟩) L.length cap] 24))=w6 at*
 have hju:j<us.length:=by rw[SO6.out.len];exact hj
 have hcc:∀ i x,(Own.cellsS L us)[i]? = some x->w6.cell? ⟨g,i,none⟩=some x:=by
  obtain⟨g',cap',e,h⟩:=own_cell SO6.out.row (by omega)
  cases e
  exact h
 have hvj:=SO6.out.votes j hj hju
 have hvj5:=hso5.votes j hj (by rw[hso5.len];exact hj)
 obtain⟨ua,um,uc,hue⟩:=own_slice hvj
 rw[hue] at hvj hvj5
 obtain rfl:=own_len hvj
 have hgl:g<w6.heap.size:=Own.own_lt' SO6.out.row g rfl
 have hgu:w4.heap.size+3<=g:=own_up SO6.out.row g rfl
 obtain⟨hpk,hpid,hnx⟩:=HQP.out (by first | rfl | trivial) L[j] (List.getElem_mem hj)
 have hpok:=Own.POK.of hpk
 have c0:=hcc (j*6) _ (Own.zip_get L us j hj hju 0 (by omega))
 have c1:=hcc (j*6+1) _ (Own.zip_get L us j hj hju 1 (by omega))
 have c2:=hcc (j*6+2) _ (Own.zip_get L us j hj hju 2 (by omega))
 have c3:=hcc (j*6+3) _ (Own.zip_get L us j hj hju 3 (by omega))
 have c4:=hcc (j*6+4) _ (Own.zip_get L us j hj hju 4 (by omega))
 have c5:=hcc (j*6+5) _ (Own.zip_get L us j hj hju 5 (by omega))
 rw[hue] at c5
 obtain⟨x,hx⟩:∃ x,x=L[j]:=⟨_,rfl⟩
 have hr:=HR2.out
 rw[<- hx] at c0 c1 c2 c3 c4 c5 hvj hvj5 hpok hpid hr
 obtain⟨pid,ppa,pdi,pop,pex,V⟩:=x
 dsimp only at c0 c1 c2 c3 c4 c5 hvj hvj5 hpok hpid hr
 have HX:=zh hx;have HUE:=zh hue;have HVJ:=zh hvj;have HVJ5:=zh hvj5;have HG5:=zh hso5.row;have HPOK:=zh hpok;have HR3:=zh hr
 obtain⟨x10,x11,x12⟩:=F6.out.d1_3 rfl
 have hz6:w5.heap.size+1<=w6.heap.size:=O6.out.size
 clear hx hue hvj hvj5 hso5 hr HR2 hcc hpk
 have z01:w6.cell? ⟨w5.heap.size,1,none⟩=some (.slice (some ⟨g,0,none⟩) L.length cap):=O6.out.cell 0 1 rfl rfl
 go_upto_region 8 with fail
 clear z01
 have hau6:=fun W (hW:Below w6.heap.size w6 W)=>HAUC.out ppa W (F6.out.under.trans (hW.mono F6.out.under.size))
 have hr4:=HR3.out
 cases hA:AU ppa with
 | none =>
   rw[hA] at hr4
   simp only[hA] at hau6
   have HE:=zh hr4;have HA6:=zh hau6
   clear hr4 hau6 hA HR3
   refine Lex.wp_region_hav (fun _=>False) [] [9] 11 [.pure 5,.call,.pure 3,.new] [1] (by kernel_rfl) (by kernel_rfl) (by kernel_rfl) ?_
   simp only[Lex.wpHav,Lex.wpCuts,List.take_succ_cons,List.take_zero,List.drop_succ_cons,List.drop_zero]
   have BD6:=zh (show Below w6.heap.size w6 w6.drew from(Below.refl _ _).drew)
   have ZD6:=zh (show w6.drew.heap.size=w6.heap.size by rw[drew_heap])
   go_wp2_with fail
   refine Lex.PEnd.intro ?_
   intro w6a hga
   have HBa:=zh (BD6.out.trans (hga.mono BD6.out.size))
   clear hga
   (try clear x00);(try clear x01);(try clear x10);(try clear x11);(try clear x12);(try clear x20);(try clear x21);(try clear x22);(try clear x23);(try clear x30f);(try clear x30);(try clear x31f);(try clear x31);(try clear x40f);(try clear x40);(try clear x41f);(try clear x41);(try clear x42f);(try clear x42)
   clear c0 c1 c2 c3 c4 c5
   go_wp2_with fail
   refine(HA6.out w6a HBa.out).mono ?_
   rintro e w7 ⟨rfl,hb7⟩
   have HB7:=zh (HBa.out.trans (hb7.mono HBa.out.size));have BB7:=zh hb7
   clear hb7
   go_wp2_with fail
   refine Lex.CEnd.intro (fun k hk _=>hk.elim) (Lex.Kept.of_below BB7.out) ?_
   go_wp2_with fail
   refine Lex.PEnd.intro ?_
   intro w7a hw7a
   go_wp2_with fail
   refine Lex.NEnd.intro (fun w7b hg hk _=>?_)
   have hs7:=hk.at_
   obtain⟨SB,hSB⟩:∃ SB,SB=w7a.heap.size:=⟨_,rfl⟩
   have hsb:w6.heap.size<=SB:=by rw[hSB,<- ZD6.out];exact hw7a
   rw[<- hSB] at hs7 ⊢
   have hb7:=HB7.out.trans (hg.mono HB7.out.size)
   have s0:=hs7.cell 0;have s1:=hs7.cell 1;have s2:=hs7.cell 2;have s3:=hs7.free 0;have s4:=hs7.free 1;have s5:=hs7.free 2
   simp only[List.getElem?_toArray,List.getElem?_cons_zero,List.getElem?_cons_succ] at s0 s1 s2
   have F8:=zh (F6.out.step (((hb7.setCell (p:=⟨SB,0,none⟩) hsb (.string ⟨#[]⟩)).setCell (p:=⟨SB,1,none⟩) hsb (.slice none 0 0)).setCell (p:=⟨SB,2,none⟩) hsb (.int .i64 0)))
   clear hg hk hb7 hs7 hSB hw7a
   go_wp2_with fail
   refine Lex.Mid.intro (fun k hk _=>hk.elim) ?_
   go_wp2_with fail
   refine Lex.EndsN.intro (by kernel_rfl) trivial ?_
   clear s0 s1 s2 s3 s4 s5
   generalize ((w7b.setCell ⟨SB,0,none⟩ (.string ⟨#[]⟩)).setCell ⟨SB,1,none⟩ (.slice none 0 0)).setCell ⟨SB,2,none⟩ (.int .i64 0)=w8 at*
   obtain⟨x30,x31,x30f,x31f⟩:=F8.out.e3_2 rfl
   obtain⟨x40,x41,x42,x40f,x41f,x42f⟩:=F8.out.e4_3 rfl
   go_wp2_with fail
   have g1:=F8.out.put 3 0 (.int .i64 0) rfl
   have g2:=g1.put 3 1 (.slice none 0 0) rfl
   have g3:=g2.put 4 0 (.int .i64 0) rfl
   have g4:=g3.put 4 1 (.slice none 0 0) rfl
   have G2:=g4.put 4 2 (.slice none 0 0) rfl
   clear g1 g2 g3 g4
   refine done_cct rfl rfl rfl rfl (load_row (G2.at1 3 rfl) Tryz.underlying24 rfl info_Queue) (load_row (G2.at1 4 rfl) Tryz.underlying38 rfl info_Owners) ?_
   rw[HQ.out,HE.out]
   exact⟨⟨_,_,_,rfl,⟨_,rfl,ListF.nil _ _⟩,ListF.nil _ _,ListF.nil _ _⟩,G2.under⟩
 | some sp =>
   rw[hA] at hr4
   simp only[hA] at hau6
   have HR5:=zh hr4;have HA6:=zh hau6;have HSA:=zh hA
   obtain⟨spre,M,th⟩:=sp
   dsimp only at HA6 HR5
   clear hr4 hau6 hA HR3
   refine Lex.wp_region_hav (fun _=>False) [] [9] 11 [.pure 5,.call,.pure 3,.new] [1] (by kernel_rfl) (by kernel_rfl) (by kernel_rfl) ?_
   simp only[Lex.wpHav,Lex.wpCuts,List.take_succ_cons,List.take_zero,List.drop_succ_cons,List.drop_zero]
   have BD6:=zh (show Below w6.heap.size w6 w6.drew from(Below.refl _ _).drew)
   have ZD6:=zh (show w6.drew.heap.size=w6.heap.size by rw[drew_heap])
   go_wp2_with fail
   refine Lex.PEnd.intro ?_
   intro w6a hga
   have HBa:=zh (BD6.out.trans (hga.mono BD6.out.size))
   clear hga
   (try clear x00);(try clear x01);(try clear x10);(try clear x11);(try clear x12);(try clear x20);(try clear x21);(try clear x22);(try clear x23);(try clear x30f);(try clear x30);(try clear x31f);(try clear x31);(try clear x40f);(try clear x40);(try clear x41f);(try clear x41);(try clear x42f);(try clear x42)
   go_wp2_with fail
   refine(HA6.out w6a HBa.out).mono ?_
   rintro e w7 ⟨⟨mv,rfl,hov⟩,hb7⟩
   dsimp only at hov
   obtain⟨ma,mm,mc,rfl⟩:=own_slice hov
   obtain rfl:=own_len hov
   have hov:=own_base hov HBa.out.size
   have HB7:=zh (HBa.out.trans (hb7.mono HBa.out.size));have BB7:=zh hb7
   have hmc:M.length<=mc:=by
    obtain⟨_,⟨h0,hn⟩ | ⟨_,_,_,h0,_,_,h1,_⟩⟩:=hov
    ·injection h0 with _ q1 q2
     omega
    ·injection h0 with _ q1 q2
     omega
   have HOV:=zh hov
   clear hb7 hov
   go_wp2_with fail
   refine Lex.CEnd.intro (fun k hk _=>hk.elim) (Lex.Kept.of_below BB7.out) ?_
   go_wp2_with fail
   refine Lex.PEnd.intro ?_
   intro w7a hw7a
   go_wp2_with fail
   refine Lex.NEnd.intro (fun w7b hg hk ho=>?_)
   have hs7:=hk.at_
   obtain⟨SB,hSB⟩:∃ SB,SB=w7a.heap.size:=⟨_,rfl⟩
   have hsb:w6.heap.size<=SB:=by rw[hSB,<- ZD6.out];exact hw7a
   rw[<- hSB] at hs7 ⊢
   have hb7:=HB7.out.trans (hg.mono HB7.out.size)
   have hov7:=own_below HOV.out hg
   have hne:=hs7.own_ne hov7 (by decide)
   have s0:=hs7.cell 0;have s1:=hs7.cell 1;have s2:=hs7.cell 2;have s3:=hs7.free 0;have s4:=hs7.free 1;have s5:=hs7.free 2
   simp only[List.getElem?_toArray,List.getElem?_cons_zero,List.getElem?_cons_succ] at s0 s1 s2
   have hb8:=(((hb7.setCell (p:=⟨SB,0,none⟩) hsb (.string spre)).setCell (p:=⟨SB,1,none⟩) hsb (.slice ma M.length mc)).setCell (p:=⟨SB,2,none⟩) hsb (.int .i64 th))
   have hs8:At (((w7b.setCell ⟨SB,0,none⟩ (.string spre)).setCell ⟨SB,1,none⟩ (.slice ma M.length mc)).setCell ⟨SB,2,none⟩ (.int .i64 th)) SB 70 #[.string spre,.slice ma M.length mc,.int .i64 th]:=((hs7.set 0 (.string spre)).set 1 (.slice ma M.length mc)).set 2 (.int .i64 th)
   have hm8:ListF 2 Own.RMember (fun k=>w6.heap.size<=k/\k≠SB/\k<(((w7b.setCell ⟨SB,0,none⟩ (.string spre)).setCell ⟨SB,1,none⟩ (.slice ma M.length mc)).setCell ⟨SB,2,none⟩ (.int .i64 th)).heap.size) (((w7b.setCell ⟨SB,0,none⟩ (.string spre)).setCell ⟨SB,1,none⟩ (.slice ma M.length mc)).setCell ⟨SB,2,none⟩ (.int .i64 th)) (.slice ma M.length mc) M:=
    rows_flat (enc:=Own.encM) (fun _=>rfl) (fun _=>rfl) (RowsC.own (own_keep hov7 (fun k hk=>by
     have h2:k≠SB:=fun e=>hne (by rw[hk,e])
     rw[heap_setCell_other _ _ _ _ h2,heap_setCell_other _ _ _ _ h2,heap_setCell_other _ _ _ _ h2]))) rfl (fun k hk=>by
     have h1:=own_up hov7 k hk
     have h2:=Own.own_lt' hov7 k hk
     refine⟨h1,fun e=>hne (by rw[hk,e]),?_⟩
     simp only[World.setCell,Array.size_modify]
     exact h2)
   have F8:=zh (F6.out.step hb8);have O8:=zh (O6.out.step hb8);have SO8:=zh (SO6.out.below hb8);have HB8:=zh hb8;have S8:=zh hs8;have HM8:=zh hm8
   clear hg hk ho hb7 hs7 hSB hw7a hb8 hs8 hm8 hov7 hne HOV HBa HB7 BB7
   go_wp2_with fail
   refine Lex.Mid.intro (fun k hk _=>hk.elim) ?_
   go_wp2_with fail
   refine Lex.EndsN.intro (by kernel_rfl) trivial ?_
   clear s0 s1 s2 s3 s4 s5
   generalize ((w7b.setCell ⟨SB,0,none⟩ (.string spre)).setCell ⟨SB,1,none⟩ (.slice ma M.length mc)).setCell ⟨SB,2,none⟩ (.int .i64 th)=w8 at*
   go_upto_region 11 with fail
   have c0' :=(HB8.out.cell (p:=⟨g,j*6,none⟩) hgl).trans c0
   have c1' :=(HB8.out.cell (p:=⟨g,j*6+1,none⟩) hgl).trans c1
   have c2' :=(HB8.out.cell (p:=⟨g,j*6+2,none⟩) hgl).trans c2
   have c3' :=(HB8.out.cell (p:=⟨g,j*6+3,none⟩) hgl).trans c3
   have c4' :=(HB8.out.cell (p:=⟨g,j*6+4,none⟩) hgl).trans c4
   have c5' :=(HB8.out.cell (p:=⟨g,j*6+5,none⟩) hgl).trans c5
   obtain⟨s0,s1,s2⟩:=S8.out.c3
   (try clear x00);(try clear x01);(try clear x10);(try clear x11);(try clear x12);(try clear x20);(try clear x21);(try clear x22);(try clear x23);(try clear x30f);(try clear x30);(try clear x31f);(try clear x31);(try clear x40f);(try clear x40);(try clear x41f);(try clear x41);(try clear x42f);(try clear x42)
   obtain⟨x10,x11,x12⟩:=F8.out.d1_3 rfl
   have h1l:w.heap.size+1<w8.heap.size:=F8.out.lt (i:=1) (by show 1<5;omega)
   have h2l:w.heap.size+1+1<w8.heap.size:=F8.out.lt (i:=2) (by show 2<5;omega)
   have hsl:SB<w8.heap.size:=S8.out.lt
   have hgl8:g<w8.heap.size:=Nat.lt_of_lt_of_le hgl HB8.out.size
   have hz68:=HB8.out.size
   have HC5:=zh c5'
   have HX1:=zh (show(w8.cell? ⟨w.heap.size+1,0,none⟩).isSome=true by rw[x10];rfl)
   have HX2:=zh (show(w8.cell? ⟨SB,0,none⟩).isSome=true by rw[s0];rfl)
   have HX3:=zh (show(w8.cell? ⟨g,j*6+1,none⟩).isSome=true by rw[c1'];rfl)
   have HX4:=zh (show(w8.cell? ⟨w.heap.size+1+1,0,none⟩).isSome=true by rw[F8.out.cell 2 0 rfl rfl];rfl)
   have hpk:=HPOK.out
   obtain⟨MSG,hMSG⟩:∃ m,m=Own.messageOf ⟨pid,ppa,pdi,pop,pex,V⟩ ag:=⟨_,rfl⟩
   have hms:MSG.size<=9223372036854775000:=by
    have h1:ppa.size<=64:=hpk.path
    have h2:pdi.size=32:=hpk.dig
    have h3:=Cod.uns_le pid.toNat;have h4:=Cod.uns_le ppa.size;have h5:=Cod.uns_le pdi.size
    rw[hMSG]
    unfold Own.messageOf Cod.text Sig.b1
    simp only[ByteArray.size_append]
    have:∀ x:UInt8,(⟨#[x]⟩:ByteArray).size=1:=fun _=>rfl
    rw[this]
    omega
   have hmsg:=fun W=>rvMessage_any ⟨pid,ppa,pdi,pop,pex,V⟩ ag (.slice ua V.length uc) W hpk.id0 (by show pid<_;omega) (by have:ppa.size<=64:=hpk.path;show ppa.size<=_;omega) (by have:pdi.size=32:=hpk.dig;show pdi.size<=_;omega)
   have hr6:=HR5.out
   simp only[<- hMSG] at hmsg hr6
   have hus:=fun(X:Nat->Prop) W (hW:Below w8.heap.size w8 W) (hXw:∀ k,X k->w.heap.size<=k) (hX:∀ k,X k->k<W.heap.size) (hXm:∀ k,w6.heap.size<=k/\k≠SB/\k<w8.heap.size->¬ X k)=>HUS.out X ⟨spre,M,th⟩ ppa MSG ma mc W (F8.out.under.trans (hW.mono F8.out.under.size)) hXw hX ((HM8.out.below hW).mono (fun k hk _=>hXm k hk)) hmc HSA.out hms
   dsimp only at hus
   have HMSG:=zh hmsg;have HUSED:=zh hus;have HR6:=zh hr6
   have herr:=HERR.out ⟨spre,M,th⟩ MSG
   clear hmsg hus hr6 hMSG hpk c0 c1 c2 c3 c4 c5
   cases hU:UR ⟨spre,M,th⟩ MSG with
   | error ec =>
     have hec:=herr ec hU
     simp only[hU] at HUSED HR6
     clear herr hU
     have BD8:=zh (show Below w8.heap.size w8 w8.drew from(Below.refl _ _).drew)
     have ZD8:=zh (show w8.drew.heap.size=w8.heap.size by rw[drew_heap])
     refine Lex.wp_region_hav (fun k=>k=w.heap.size+1\/k=SB\/k=g\/k=w.heap.size+1+1) [0,1,5,11] [17] 20 [.pure 10,.call,.pure 1,.call,.pure 4,.new] [1] (by kernel_rfl) (by kernel_rfl) (by kernel_rfl) ?_
     simp only[Lex.wpHav,Lex.wpCuts,List.take_succ_cons,List.take_zero,List.drop_succ_cons,List.drop_zero]
     go_wp2_with fail
     refine Lex.PEnd.intro ?_
     intro w8a hga
     have HBa:=zh (BD8.out.trans (hga.mono BD8.out.size));have HXa:=zh hga
     clear hga
     (try clear x00);(try clear x01);(try clear x10);(try clear x11);(try clear x12);(try clear x20);(try clear x21);(try clear x22);(try clear x23);(try clear x30f);(try clear x30);(try clear x31f);(try clear x31);(try clear x40f);(try clear x40);(try clear x41f);(try clear x41);(try clear x42f);(try clear x42)
     clear c0' c1' c2' c3' c4' c5' s0 s1 s2
     go_wp2_with fail
     refine(HMSG.out _).mono ?_
     rintro e w9 ⟨rfl,hb9⟩
     have F9:=zh (F8.out.step (HBa.out.trans (hb9.mono HBa.out.size)));have HB9:=zh (HBa.out.trans (hb9.mono HBa.out.size));have HX9:=zh (HXa.out.trans (hb9.mono HXa.out.size));have BB9:=zh hb9
     clear hb9
     obtain⟨x20,x21,x22,x23⟩:=F9.out.d2_4 rfl
     go_wp2_with fail
     refine Lex.CEnd.intro (fun k _ hkl=>HX9.out.block _ hkl) (Lex.Kept.of_below BB9.out) ?_
     go_wp2_with fail
     refine Lex.PEnd.intro ?_
     intro w9a hga
     have HB9a:=zh (HB9.out.trans (hga.mono HB9.out.size));have HX9a:=zh (HX9.out.trans (hga.mono HX9.out.size))
     clear hga HBa HXa HB9 HX9 BB9
     (try clear x00);(try clear x01);(try clear x10);(try clear x11);(try clear x12);(try clear x20);(try clear x21);(try clear x22);(try clear x23);(try clear x30f);(try clear x30);(try clear x31f);(try clear x31);(try clear x40f);(try clear x40);(try clear x41f);(try clear x41);(try clear x42f);(try clear x42)
     go_wp2_with fail
     refine(HUSED.out (fun k=>(w.heap.size<=k/\k<w6.heap.size)\/(w8.heap.size<=k/\k<w9a.heap.size)) w9a HB9a.out (fun k hk=>by have:=F8.out.size;omega) (fun k hk=>by have:=HB9a.out.size;omega) (fun k hk=>by omega)).mono ?_
     rintro e w9r ⟨rfl,hb10⟩
     unfold Own.nobody
     have HB9r:=zh (HB9a.out.trans (hb10.mono HB9a.out.size));have HX9r:=zh (HX9a.out.trans (hb10.mono HX9a.out.size));have BB9r:=zh hb10
     clear hb10
     go_wp2_with fail
     refine Lex.CEnd.intro (fun k _ hkl=>HX9r.out.block _ hkl) (Lex.Kept.of_below BB9r.out) ?_
     go_wp2_with fail
     refine Lex.PEnd.intro ?_
     intro w9s hw9s
     go_wp2_with fail
     refine Lex.NEnd.intro (fun w10 hg10 hk10 ho10=>?_)
     have hn10:=hk10.at_
     obtain⟨NB,hNB⟩:∃ NB,NB=w9s.heap.size:=⟨_,rfl⟩
     have hNBo:NB+1<=w9a.heap.size\/w9r.heap.size<=NB:=by
      have:=ho10 (w9a.heap.size,w9r.heap.size) List.mem_cons_self
      simpa [hNB] using this
     have hNBw:w8.heap.size<=NB:=by rw[hNB,<- ZD8.out];exact hw9s
     rw[<- hNB] at hn10 ⊢
     have HB10:=zh (HB9r.out.trans (hg10.mono HB9r.out.size));have HX10:=zh (HX9r.out.trans (hg10.mono HX9r.out.size))
     have hs10:At (((w10.setCell ⟨NB,0,none⟩ (.int .i64 0)).setCell ⟨NB,1,none⟩ (.slice none 0 0)).setCell ⟨NB,2,none⟩ (.slice none 0 0)) NB 38 #[(.int .i64 0),(.slice none 0 0),(.slice none 0 0)]:=((hn10.set 0 (.int .i64 0)).set 1 (.slice none 0 0)).set 2 (.slice none 0 0)
     have HBN:=zh (((HB10.out.setCell (p:=⟨NB,0,none⟩) hNBw (.int .i64 0)).setCell (p:=⟨NB,1,none⟩) hNBw (.slice none 0 0)).setCell (p:=⟨NB,2,none⟩) hNBw (.slice none 0 0))
     have n0:=hn10.cell 0;have n1:=hn10.cell 1;have n2:=hn10.cell 2;have n3:=hn10.free 0;have n4:=hn10.free 1;have n5:=hn10.free 2
     simp only[List.getElem?_toArray,List.getElem?_cons_zero,List.getElem?_cons_succ] at n0 n1 n2
     have hkp:∀ k,k≠NB->(((w10.setCell ⟨NB,0,none⟩ (.int .i64 0)).setCell ⟨NB,1,none⟩ (.slice none 0 0)).setCell ⟨NB,2,none⟩ (.slice none 0 0)).heap[k]? = w10.heap[k]? :=fun k hk=>by
      rw[heap_setCell_other _ _ _ _ hk,heap_setCell_other _ _ _ _ hk,heap_setCell_other _ _ _ _ hk]
     clear hs10 hn10 hNB hg10 hk10 ho10 hw9s hkp
     go_wp2_with fail
     refine Lex.Mid.intro (fun k _ hkl=>by
      have h3:k≠NB:=by have:=ZD8.out;omega
      rw[heap_setCell_other _ _ _ _ h3,heap_setCell_other _ _ _ _ h3,heap_setCell_other _ _ _ _ h3]
      exact HX10.out.block _ hkl) ?_
     go_wp2_with fail
     clear n0 n1 n2 n3 n4 n5
     generalize ((w10.setCell ⟨NB,0,none⟩ (.int .i64 0)).setCell ⟨NB,1,none⟩ (.slice none 0 0)).setCell ⟨NB,2,none⟩ (.slice none 0 0)=w11 at*
     refine Lex.EndsN.intro (by kernel_rfl) ⟨⟨.inl rfl,HX1.out⟩,⟨.inr (.inl rfl),HX2.out⟩,⟨.inr (.inr (.inl rfl)),HX3.out⟩,⟨.inr (.inr (.inr rfl)),HX4.out⟩,trivial⟩ ?_
     have F11:=zh (F8.out.step HBN.out)
     have HE:=zh HR6.out
     obtain⟨x30,x31,x30f,x31f⟩:=F11.out.e3_2 rfl
     obtain⟨x40,x41,x42,x40f,x41f,x42f⟩:=F11.out.e4_3 rfl
     go_wp2_with fail
     have g1:=F11.out.put 3 0 (.int .i64 0) rfl
     have g2:=g1.put 3 1 (.slice none 0 0) rfl
     have g3:=g2.put 4 0 (.int .i64 0) rfl
     have g4:=g3.put 4 1 (.slice none 0 0) rfl
     have G2:=g4.put 4 2 (.slice none 0 0) rfl
     clear g1 g2 g3 g4
     refine done_cct rfl rfl rfl rfl (load_row (G2.at1 3 rfl) Tryz.underlying24 rfl info_Queue) (load_row (G2.at1 4 rfl) Tryz.underlying38 rfl info_Owners) ?_
     rw[HQ.out,HE.out]
     exact⟨⟨_,_,_,rfl,⟨_,rfl,ListF.nil _ _⟩,ListF.nil _ _,ListF.nil _ _⟩,G2.under⟩
   | ok mk =>
     simp only[hU] at HUSED HR6
     clear herr hU
     obtain⟨mm,K1⟩:=mk
     dsimp only at HUSED HR6
     have BD8:=zh (show Below w8.heap.size w8 w8.drew from(Below.refl _ _).drew)
     have ZD8:=zh (show w8.drew.heap.size=w8.heap.size by rw[drew_heap])
     refine Lex.wp_region_hav (fun k=>k=w.heap.size+1\/k=SB\/k=g\/k=w.heap.size+1+1) [0,1,5,11] [17] 20 [.pure 10,.call,.pure 1,.call,.pure 4,.new] [1] (by kernel_rfl) (by kernel_rfl) (by kernel_rfl) ?_
     simp only[Lex.wpHav,Lex.wpCuts,List.take_succ_cons,List.take_zero,List.drop_succ_cons,List.drop_zero]
     go_wp2_with fail
     refine Lex.PEnd.intro ?_
     intro w8a hga
     have HBa:=zh (BD8.out.trans (hga.mono BD8.out.size));have HXa:=zh hga
     clear hga
     (try clear x00);(try clear x01);(try clear x10);(try clear x11);(try clear x12);(try clear x20);(try clear x21);(try clear x22);(try clear x23);(try clear x30f);(try clear x30);(try clear x31f);(try clear x31);(try clear x40f);(try clear x40);(try clear x41f);(try clear x41);(try clear x42f);(try clear x42)
     clear c0' c1' c2' c3' c4' c5' s0 s1 s2
     go_wp2_with fail
     refine(HMSG.out _).mono ?_
     rintro e w9 ⟨rfl,hb9⟩
     have F9:=zh (F8.out.step (HBa.out.trans (hb9.mono HBa.out.size)));have HB9:=zh (HBa.out.trans (hb9.mono HBa.out.size));have HX9:=zh (HXa.out.trans (hb9.mono HXa.out.size));have BB9:=zh hb9
     clear hb9
     obtain⟨x20,x21,x22,x23⟩:=F9.out.d2_4 rfl
     go_wp2_with fail
     refine Lex.CEnd.intro (fun k _ hkl=>HX9.out.block _ hkl) (Lex.Kept.of_below BB9.out) ?_
     go_wp2_with fail
     refine Lex.PEnd.intro ?_
     intro w9a hga
     have HB9a:=zh (HB9.out.trans (hga.mono HB9.out.size));have HX9a:=zh (HX9.out.trans (hga.mono HX9.out.size))
     clear hga HBa HXa HB9 HX9 BB9
     (try clear x00);(try clear x01);(try clear x10);(try clear x11);(try clear x12);(try clear x20);(try clear x21);(try clear x22);(try clear x23);(try clear x30f);(try clear x30);(try clear x31f);(try clear x31);(try clear x40f);(try clear x40);(try clear x41f);(try clear x41);(try clear x42f);(try clear x42)
     go_wp2_with fail
     refine(HUSED.out (fun k=>(w.heap.size<=k/\k<w6.heap.size)\/(w8.heap.size<=k/\k<w9a.heap.size)) w9a HB9a.out (fun k hk=>by have:=F8.out.size;omega) (fun k hk=>by have:=HB9a.out.size;omega) (fun k hk=>by omega)).mono ?_
     rintro e w9r ⟨⟨sv',kv',rfl,hrs0,hrk0⟩,hb10⟩
     dsimp only at hrs0 hrk0
     obtain⟨sa',sc',rfl⟩:=hrs0.len
     obtain⟨ka',kc',rfl⟩:=hrk0.len
     have HB9r:=zh (HB9a.out.trans (hb10.mono HB9a.out.size));have HX9r:=zh (HX9a.out.trans (hb10.mono HX9a.out.size));have BB9r:=zh hb10
     clear hb10
     go_wp2_with fail
     refine Lex.CEnd.intro (fun k _ hkl=>HX9r.out.block _ hkl) (Lex.Kept.of_below BB9r.out) ?_
     go_wp2_with fail
     refine Lex.PEnd.intro ?_
     intro w9s hw9s
     go_wp2_with fail
     refine Lex.NEnd.intro (fun w10 hg10 hk10 ho10=>?_)
     have hn10:=hk10.at_
     obtain⟨NB,hNB⟩:∃ NB,NB=w9s.heap.size:=⟨_,rfl⟩
     have hNBo:NB+1<=w9a.heap.size\/w9r.heap.size<=NB:=by
      have:=ho10 (w9a.heap.size,w9r.heap.size) List.mem_cons_self
      simpa [hNB] using this
     have hNBw:w8.heap.size<=NB:=by rw[hNB,<- ZD8.out];exact hw9s
     rw[<- hNB] at hn10 ⊢
     have HB10:=zh (HB9r.out.trans (hg10.mono HB9r.out.size));have HX10:=zh (HX9r.out.trans (hg10.mono HX9r.out.size))
     have hrs:=(hrs0.mono (G:=fun k=>¬ ((w.heap.size<=k/\k<w6.heap.size)\/k=NB)) (fun k hk hl=>by omega)).below hg10
     have hrk:=(hrk0.mono (G:=fun k=>¬ ((w.heap.size<=k/\k<w6.heap.size)\/k=NB)) (fun k hk hl=>by omega)).below hg10
     have hs10:At (((w10.setCell ⟨NB,0,none⟩ (.int .i64 cnt)).setCell ⟨NB,1,none⟩ (.slice sa' S.length sc')).setCell ⟨NB,2,none⟩ (.slice ka' K1.length kc')) NB 38 #[(.int .i64 cnt),(.slice sa' S.length sc'),(.slice ka' K1.length kc')]:=((hn10.set 0 (.int .i64 cnt)).set 1 (.slice sa' S.length sc')).set 2 (.slice ka' K1.length kc')
     have HBN:=zh (((HB10.out.setCell (p:=⟨NB,0,none⟩) hNBw (.int .i64 cnt)).setCell (p:=⟨NB,1,none⟩) hNBw (.slice sa' S.length sc')).setCell (p:=⟨NB,2,none⟩) hNBw (.slice ka' K1.length kc'))
     have n0:=hn10.cell 0;have n1:=hn10.cell 1;have n2:=hn10.cell 2;have n3:=hn10.free 0;have n4:=hn10.free 1;have n5:=hn10.free 2
     simp only[List.getElem?_toArray,List.getElem?_cons_zero,List.getElem?_cons_succ] at n0 n1 n2
     have hkp:∀ k,k≠NB->(((w10.setCell ⟨NB,0,none⟩ (.int .i64 cnt)).setCell ⟨NB,1,none⟩ (.slice sa' S.length sc')).setCell ⟨NB,2,none⟩ (.slice ka' K1.length kc')).heap[k]? = w10.heap[k]? :=fun k hk=>by
      rw[heap_setCell_other _ _ _ _ hk,heap_setCell_other _ _ _ _ hk,heap_setCell_other _ _ _ _ hk]
     have hsz:w10.heap.size<=(((w10.setCell ⟨NB,0,none⟩ (.int .i64 cnt)).setCell ⟨NB,1,none⟩ (.slice sa' S.length sc')).setCell ⟨NB,2,none⟩ (.slice ka' K1.length kc')).heap.size:=by simp[World.setCell]
     have N11:=zh hs10
     have RS11:=zh ((hrs.keep hsz (fun k hk _=>hkp k (fun e=>hk (.inr e)))).mono (G:=fun k=>¬ (w.heap.size<=k/\k<w6.heap.size)/\k≠NB) (fun k hk _=>⟨fun h=>hk (.inl h),fun h=>hk (.inr h)⟩))
     have RK11:=zh ((hrk.keep hsz (fun k hk _=>hkp k (fun e=>hk (.inr e)))).mono (G:=fun k=>¬ (w.heap.size<=k/\k<w6.heap.size)/\k≠NB) (fun k hk _=>⟨fun h=>hk (.inl h),fun h=>hk (.inr h)⟩))
     clear hs10 hn10 hNB hrs hrk hrs0 hrk0 hkp hsz hg10 hk10 ho10 hw9s
     go_wp2_with fail
     refine Lex.Mid.intro (fun k _ hkl=>by
      have h3:k≠NB:=by have:=ZD8.out;omega
      rw[heap_setCell_other _ _ _ _ h3,heap_setCell_other _ _ _ _ h3,heap_setCell_other _ _ _ _ h3]
      exact HX10.out.block _ hkl) ?_
     go_wp2_with fail
     clear n0 n1 n2 n3 n4 n5
     generalize ((w10.setCell ⟨NB,0,none⟩ (.int .i64 cnt)).setCell ⟨NB,1,none⟩ (.slice sa' S.length sc')).setCell ⟨NB,2,none⟩ (.slice ka' K1.length kc')=w11 at*
     refine Lex.EndsN.intro (by kernel_rfl) ⟨⟨.inl rfl,HX1.out⟩,⟨.inr (.inl rfl),HX2.out⟩,⟨.inr (.inr (.inl rfl)),HX3.out⟩,⟨.inr (.inr (.inr rfl)),HX4.out⟩,trivial⟩ ?_
     clear HX1 HX2 HX3 HX4 h1l h2l hsl HMSG HUSED HB10 HB9a HB9r HX10 HX9r HX9a BB9r F9 BD8 ZD8 hNBo
     have F11:=zh (F8.out.step HBN.out);have O11:=zh (O8.out.step HBN.out);have SO11:=zh (SO8.out.below HBN.out)
     have hz8:w.heap.size+5<=w6.heap.size:=F6.out.size
     have hz11:=HBN.out.size
     have HV11:=zh (own_below (own_below HVJ.out HB8.out) HBN.out)
     have HC511:=zh ((HBN.out.cell (p:=⟨g,j*6+5,none⟩) hgl8).trans HC5.out)
     have hgl11:g<w11.heap.size:=Nat.lt_of_lt_of_le hgl8 HBN.out.size
     have hnb11:=N11.out.lt
     clear F6 F8 O6 O8 SO6 SO8 HB8 HBN HC5 HUS HAUC HVQ HVO HQP HA6 HM8 S8 HERR HSS HKK HMX
     obtain⟨x20,x21,x22,x23⟩:=F11.out.d2_4 rfl
     have B12:=zh (show Boxes w11 (w11.alloc (.cells #[.string nm,.string mm.pub,.bool ag] 82)) [(82,#[.string nm,.string mm.pub,.bool ag])] from((Fresh.nil w11).push 82 #[.string nm,.string mm.pub,.bool ag]).boxes)
     go_upto_region 15 with fail
     generalize (w11.alloc (.cells #[.string nm,.string mm.pub,.bool ag] 82))=w12 at*
     have F12:=zh (F11.out.step B12.out.under);have O12:=zh (O11.out.step B12.out.under);have SO12:=zh (SO11.out.below B12.out.under);have N12:=zh (N11.out.below B12.out.under hnb11)
     have RS12:=zh (RS11.out.below B12.out.under);have RK12:=zh (RK11.out.below B12.out.under);have HV12:=zh (own_below HV11.out B12.out.under)
     have hc5:=(B12.out.under.cell (p:=⟨g,j*6+5,none⟩) hgl11).trans HC511.out
     (try clear x00);(try clear x01);(try clear x10);(try clear x11);(try clear x12);(try clear x20);(try clear x21);(try clear x22);(try clear x23);(try clear x30f);(try clear x30);(try clear x31f);(try clear x31);(try clear x40f);(try clear x40);(try clear x41f);(try clear x41);(try clear x42f);(try clear x42)
     have x20:w12.cell? ⟨w.heap.size+1+1,0,none⟩=some (.string nm):=F12.out.cell 2 0 rfl rfl
     have hpk:=HPOK.out
     have hbs:=bsVotes_any (.slice ua V.length uc) V nm w12.drew (Own.votes_own (own_below HV12.out (Below.refl _ _).drew) rfl) hpk.srt (by have:V.length<=1024:=hpk.len;omega)
     obtain⟨Pn,hPn⟩:∃ Pn,Pn=Own.posB Own.Vote.name nm V:=⟨_,rfl⟩
     obtain⟨HIT,hHIT⟩:∃ b,b=Own.hitB Own.Vote.name nm V:=⟨_,rfl⟩
     rw[<- hPn,<- hHIT] at hbs
     have HBS:=zh hbs;have HPN:=zh hPn;have HHIT:=zh hHIT
     clear hbs hPn hHIT hpk F11 O11 SO11 RS11 RK11 HV11 HC511 N11
     go_wp2_with fail
     refine Lex.wp_region_lex (by kernel_rfl) (by kernel_rfl) ?_
     go_wp2_with fail
     refine HBS.out.mono ?_
     rintro e w13 ⟨rfl,hb13⟩
     have hb13' : Below w12.heap.size w12 w13:=(Below.refl w12.heap.size w12).drew.trans hb13
     have hz12:=B12.out.under.size
     have hc513:=(hb13'.cell (p:=⟨g,j*6+5,none⟩) (Nat.lt_of_lt_of_le hgl11 hz12)).trans hc5
     have F13:=zh (F12.out.step hb13');have O13:=zh (O12.out.step hb13');have SO13:=zh (SO12.out.below hb13');have N13:=zh (N12.out.below hb13' N12.out.lt);have B13:=zh (B12.out.step hb13')
     have RS13:=zh (RS12.out.below hb13');have RK13:=zh (RK12.out.below hb13');have HV13:=zh (own_below HV12.out hb13')
     have hz13:=hb13'.size
     (try clear x00);(try clear x01);(try clear x10);(try clear x11);(try clear x12);(try clear x20);(try clear x21);(try clear x22);(try clear x23);(try clear x30f);(try clear x30);(try clear x31f);(try clear x31);(try clear x40f);(try clear x40);(try clear x41f);(try clear x41);(try clear x42f);(try clear x42)
     clear hb13 hb13' hc5 HBS F12 O12 SO12 N12 B12 RS12 RK12 HV12
     go_wp2_with fail
     refine Lex.Ends.intro (by kernel_rfl) ?_
     have hlen:V.length<=1024:=HPOK.out.len
     cases HIT with
     | true =>
       have hPl:=Own.hit_lt HHIT.out.symm
       rw[<- HPN.out] at hPl
       obtain⟨ub,uc',hue,hvc⟩:=own_cell HV13.out (by omega)
       cases hue
       have d0:=hvc (Pn*3) _ (Own.vflat_get V Pn hPl 0 (by omega))
       have d1:=hvc (Pn*3+1) _ (Own.vflat_get V Pn hPl 1 (by omega))
       have d2:=hvc (Pn*3+2) _ (Own.vflat_get V Pn hPl 2 (by omega))
       obtain⟨cur,hat⟩:=own_at HV13.out rfl
       have d3:=hat.free (Pn*3);have d4:=hat.free (Pn*3+1);have d5:=hat.free (Pn*3+2)
       obtain⟨v00,v01,v02⟩:=B13.out.d0_3 rfl
       clear hvc hat
       go_wp2_with fail
       refine Lex.wp_region_lex (by kernel_rfl) (by kernel_rfl) ?_
       go_wp2_with fail
       refine Lex.Ends.intro (by kernel_rfl) ?_
       have hkk:∀ k,k≠ub->((((w13.setCell ⟨ub,Pn*3,none⟩ (.string nm)).setCell ⟨ub,Pn*3+1,none⟩ (.string mm.pub)).setCell ⟨ub,Pn*3+2,none⟩ (.bool ag)).drew).heap[k]? = w13.heap[k]? :=fun k hk=>by
        rw[drew_heap,heap_setCell_other _ _ _ _ hk,heap_setCell_other _ _ _ _ hk,heap_setCell_other _ _ _ _ hk]
       have hvl:=Own.vflat_len V
       have p3:=own_put (own_put (own_put HV13.out (Pn*3) (by omega) (.string nm)) (Pn*3+1) (by rw[List.length_set];omega) (.string mm.pub)) (Pn*3+2) (by rw[List.length_set,List.length_set];omega) (.bool ag)
       have hvs:=Own.vflat_set V Pn hPl ⟨nm,mm.pub,ag⟩
       dsimp only at hvs
       rw[<- hvs] at p3
       have p4:=own_keep (w' :=(((w13.setCell ⟨ub,Pn*3,none⟩ (.string nm)).setCell ⟨ub,Pn*3+1,none⟩ (.string mm.pub)).setCell ⟨ub,Pn*3+2,none⟩ (.bool ag)).drew) p3 (fun _ _=>by rw[drew_heap])
       have hubg:w6.heap.size<=ub\/ub<w6.heap.size:=by omega
       have hub0:w4.heap.size+3<=ub:=own_up HV13.out ub rfl
       have hubl:ub<w13.heap.size:=Own.own_lt' HV13.out ub rfl
       have hub6:ub<w6.heap.size:=Own.own_lt' HVJ.out ub rfl
       have hso:=Own.SOwn.same (nv:=V.set Pn ⟨nm,mm.pub,ag⟩) SO13.out hj hju (V:=V) (by rw[HUE.out,<- HX.out]) (by rw[List.length_set];exact p4) HV13.out hkk
       have hnb:NB≠ub:=by omega
       have ho5:ub≠w5.heap.size:=by
        have hh:=Own.own_lt' HVJ5.out ub rfl
        omega
       have SOT:=zh hso
       have F15:=zh (F13.out.keep (((F13.out.under.setCell (p:=⟨ub,Pn*3,none⟩) (by show w.heap.size<=ub;omega) (.string nm)).setCell (p:=⟨ub,Pn*3+1,none⟩) (by show w.heap.size<=ub;omega) (.string mm.pub)).setCell (p:=⟨ub,Pn*3+2,none⟩) (by show w.heap.size<=ub;omega) (.bool ag)).drew (by rw[drew_heap];simp[World.setCell]) (fun k _ hk=>hkk k (by have hk:k<w.heap.size+5:=hk;omega)))
       have N15:=zh (N13.out.keep (hkk NB hnb))
       have O15a:=zh (show At w13 w5.heap.size 24 #[.int .i64 nx,.slice (some ⟨g,0,none⟩) L.length cap] from O13.out.at1 0 rfl);have O15:=zh (O15a.out.keep (hkk w5.heap.size (fun e=>ho5 e.symm)))
       have hsz:w13.heap.size<=((((w13.setCell ⟨ub,Pn*3,none⟩ (.string nm)).setCell ⟨ub,Pn*3+1,none⟩ (.string mm.pub)).setCell ⟨ub,Pn*3+2,none⟩ (.bool ag)).drew).heap.size:=by rw[drew_heap];simp[World.setCell]
       have RS15:=zh (RS13.out.keep hsz (fun k hk _=>hkk k (fun e=>hk.1 (by omega))))
       have RK15:=zh (RK13.out.keep hsz (fun k hk _=>hkk k (fun e=>hk.1 (by omega))))
       have hput:Own.putVote V ⟨nm,mm.pub,ag⟩=V.set Pn ⟨nm,mm.pub,ag⟩:=by
        rw[Own.putVote_put,Own.putB_eq,<- HHIT.out,<- HPN.out,if_pos rfl,List.set_eq_take_append_cons_drop,if_pos hPl]
       have HE:=zh (show R=(⟨nx,L.set j (Own.withV L[j] (V.set Pn ⟨nm,mm.pub,ag⟩))⟩,⟨cnt,S,K1⟩,0) by
        rw[HR6.out,hput,if_neg (by rw[List.length_set];omega),HX.out,Own.setP_set L j hj (HIDS.out (by first | rfl | trivial))])
       clear d0 d1 d2 d3 d4 d5 hkk p3 p4 hvs hso hsz hput hc513 v00 v01 v02
       generalize (((w13.setCell ⟨ub,Pn*3,none⟩ (.string nm)).setCell ⟨ub,Pn*3+1,none⟩ (.string mm.pub)).setCell ⟨ub,Pn*3+2,none⟩ (.bool ag)).drew=w15 at*
       obtain⟨o0,o1⟩:=O15.out.c2;obtain⟨n0,n1,n2⟩:=N15.out.c3
       obtain⟨x30,x31,x30f,x31f⟩:=F15.out.e3_2 rfl
       obtain⟨x40,x41,x42,x40f,x41f,x42f⟩:=F15.out.e4_3 rfl
       have HXN:=zh (show(w15.cell? ⟨NB,0,none⟩).isSome=true by rw[n0];rfl)
       go_wp2_with fail
       refine Lex.wp_region_lexN (fun k=>k=NB) [1] 3 [3] (by kernel_rfl) (by kernel_rfl) (by kernel_rfl) ?_
       simp only[Lex.wpCuts,List.take_succ_cons,List.take_zero,List.drop_succ_cons,List.drop_zero]
       go_wp2_with fail
       refine Lex.Mid.intro (fun k hk _=>by
        have h3:k≠w.heap.size+1+1+1:=by rw[hk];omega
        rw[drew_heap,drew_heap,heap_setCell_other _ _ _ _ h3,heap_setCell_other _ _ _ _ h3]) ?_
       go_wp2_with fail
       refine Lex.EndsN.intro (by kernel_rfl) ⟨⟨rfl,HXN.out⟩,trivial⟩ ?_
       go_wp2_with fail
       have g1:=F15.out.put 3 0 (.int .i64 nx) rfl
       have g2:=g1.put 3 1 (.slice (some ⟨g,0,none⟩) L.length cap) rfl
       have g3:=g2.put 4 0 (.int .i64 cnt) rfl
       have g4:=g3.put 4 1 (.slice sa' S.length sc') rfl
       have g5:=g4.put 4 2 (.slice ka' K1.length kc') rfl
       have G2:=g5.drew
       clear g1 g2 g3 g4 g5
       refine done_cct rfl rfl rfl rfl (load_row (G2.at1 3 rfl) Tryz.underlying24 rfl info_Queue) (load_row (G2.at1 4 rfl) Tryz.underlying38 rfl info_Owners) ?_
       rw[HQ.out,HE.out]
       have hst:∀ k,k≠w.heap.size+1+1+1->k≠w.heap.size+1+1+1+1->((((((w15.setCell ⟨w.heap.size+1+1+1,0,none⟩ (.int .i64 nx)).setCell ⟨w.heap.size+1+1+1,1,none⟩ (.slice (some ⟨g,0,none⟩) L.length cap)).setCell ⟨w.heap.size+1+1+1+1,0,none⟩ (.int .i64 cnt)).setCell ⟨w.heap.size+1+1+1+1,1,none⟩ (.slice sa' S.length sc')).setCell ⟨w.heap.size+1+1+1+1,2,none⟩ (.slice ka' K1.length kc')).drew).heap[k]? = w15.heap[k]? :=fun k h3 h4=>by
        rw[drew_heap,heap_setCell_other _ _ _ _ h4,heap_setCell_other _ _ _ _ h4,heap_setCell_other _ _ _ _ h4,heap_setCell_other _ _ _ _ h3,heap_setCell_other _ _ _ _ h3]
       have hsz:w15.heap.size<=((((((w15.setCell ⟨w.heap.size+1+1+1,0,none⟩ (.int .i64 nx)).setCell ⟨w.heap.size+1+1+1,1,none⟩ (.slice (some ⟨g,0,none⟩) L.length cap)).setCell ⟨w.heap.size+1+1+1+1,0,none⟩ (.int .i64 cnt)).setCell ⟨w.heap.size+1+1+1+1,1,none⟩ (.slice sa' S.length sc')).setCell ⟨w.heap.size+1+1+1+1,2,none⟩ (.slice ka' K1.length kc')).drew).heap.size:=by rw[drew_heap];simp[World.setCell]
       refine⟨⟨_,_,_,rfl,⟨_,rfl,?_⟩,?_,?_⟩,G2.under⟩
       ·exact(SOT.out.keep (fun k hk _=>hst k (by omega) (by omega))).props
       ·exact(RS15.out.keep hsz (fun k hk _=>hst k (fun e=>hk.1 (by omega)) (fun e=>hk.1 (by omega)))).mono (fun _ _ _=>trivial)
       ·exact(RK15.out.keep hsz (fun k hk _=>hst k (fun e=>hk.1 (by omega)) (fun e=>hk.1 (by omega)))).mono (fun _ _ _=>trivial)
     | false =>
       have hput:Own.putVote V ⟨nm,mm.pub,ag⟩=V.take Pn++⟨nm,mm.pub,ag⟩::V.drop Pn:=by
        rw[Own.putVote_put,Own.putB_eq,<- HHIT.out,<- HPN.out,if_neg Bool.false_ne_true,Nat.add_zero]
       have hPle:Pn<=V.length:=by rw[HPN.out];exact Own.posB_le _ _
       have hnl:(V.take Pn++(⟨nm,mm.pub,ag⟩:Own.Vote)::V.drop Pn).length=V.length+1:=by
        rw[List.length_append,List.length_take,List.length_cons,List.length_drop];omega
       by_cases h1024:V.length=1024
       ·have d1:((V.length:Int)==1024)=true:=beq_iff_eq.2 (by omega)
        have HE:=zh (show R=(Own.Queue.none,Own.Owners.none,7) by rw[HR6.out,hput,if_pos (by rw[hnl];omega)])
        clear hput hnl h1024
        obtain⟨x30,x31,x30f,x31f⟩:=F13.out.e3_2 rfl
        obtain⟨x40,x41,x42,x40f,x41f,x42f⟩:=F13.out.e4_3 rfl
        go_wp2_with fail
        have g1:=F13.out.put 3 0 (.int .i64 0) rfl
        have g2:=g1.put 3 1 (.slice none 0 0) rfl
        have g3:=g2.put 4 0 (.int .i64 0) rfl
        have g4:=g3.put 4 1 (.slice none 0 0) rfl
        have G2:=g4.put 4 2 (.slice none 0 0) rfl
        clear g1 g2 g3 g4
        refine done_cct rfl rfl rfl rfl (load_row (G2.at1 3 rfl) Tryz.underlying24 rfl info_Queue) (load_row (G2.at1 4 rfl) Tryz.underlying38 rfl info_Owners) ?_
        rw[HQ.out,HE.out]
        exact⟨⟨_,_,_,rfl,⟨_,rfl,ListF.nil _ _⟩,ListF.nil _ _,ListF.nil _ _⟩,G2.under⟩
       have d1:((V.length:Int)==1024)=false:=beq_eq_false_iff_ne.2 (by omega)
       have HE:=zh (show R=(⟨nx,L.set j (Own.withV L[j] (V.take Pn++⟨nm,mm.pub,ag⟩::V.drop Pn))⟩,⟨cnt,S,K1⟩,0) by
        rw[HR6.out,hput,if_neg (by rw[hnl];omega),HX.out,Own.setP_set L j hj (HIDS.out (by first | rfl | trivial))])
       have HNL:=zh hnl
       clear hput hnl h1024
       obtain⟨v00,v01,v02⟩:=B13.out.d0_3 rfl
       have hba:Below w13.heap.size w13 (w13.alloc (.cells #[.string nm,.string mm.pub,.bool ag] 82)).drew:=((Below.refl _ _).alloc (Nat.le_refl _) _).drew
       have hnv:=(At.new w13 82 #[.string nm,.string mm.pub,.bool ag]).drew
       have hz14:(w13.alloc (.cells #[.string nm,.string mm.pub,.bool ag] 82)).drew.heap.size=w13.heap.size+1:=by rw[drew_heap];exact World.size_alloc _ _
       have hvl13:∀ k,(Value.slice ua V.length uc).ownBlock=some k->w4.heap.size+3<=k/\k<w6.heap.size/\k≠w5.heap.size:=fun k hk=>⟨own_up HVJ.out k hk,Own.own_lt' HVJ.out k hk,by have:=Own.own_lt' HVJ5.out k hk;omega⟩
       have hins:=insVotes_any (w4.heap.size+3) V.length Pn w13.heap.size (.slice ua V.length uc) (V.flatMap Own.encV) [.string nm,.string mm.pub,.bool ag] _ (own_below HV13.out hba) (Own.one_V V) hPle (by omega) rfl hnv (by intro u hu;simp at hu;rcases hu with rfl | rfl | rfl <;> rfl) (fun e=>by have:=(hvl13 _ e).2.1;omega) (by rw[hz14];omega)
       have HINS:=zh hins;have HBA14:=zh hba;have HZ14:=zh hz14;have HVL:=zh hvl13
       clear hins hnv hba hz14 hvl13
       go_wp2_with fail
       refine Lex.wp_region_lex (by kernel_rfl) (by kernel_rfl) ?_
       go_wp2_with fail
       refine HINS.out.mono ?_
       rintro e w14 ⟨v',rfl,ho0,hg14,hx14⟩
       have hfl:=Own.vflat_ins V Pn ⟨nm,mm.pub,ag⟩
       have ho14:w14.ownsRow (w4.heap.size+3) 82 3 v' (V.length+1) ((V.take Pn++(⟨nm,mm.pub,ag⟩:Own.Vote)::V.drop Pn).flatMap Own.encV):=by rw[<- hfl];exact ho0
       obtain⟨va',vm',vc',rfl⟩:=own_slice ho14
       obtain rfl:=own_len ho14
       have hgua:(Value.slice ua V.length uc).ownBlock≠some g:=fun e=>own_dis HV13.out SO13.out.row (by decide) g e rfl
       have hkeep14:∀ k,k<w13.heap.size->(Value.slice ua V.length uc).ownBlock≠some k->w14.heap[k]? = w13.heap[k]? :=fun k hk hne=>(hg14.block k (by rw[HZ14.out];omega) (fun e=>hne e.symm)).trans (HBA14.out.block k hk)
       have hgl13:g<w13.heap.size:=Own.own_lt' SO13.out.row g rfl
       have r14:w14.ownsRow (w4.heap.size+3) 46 6 (.slice (some ⟨g,0,none⟩) L.length cap) L.length (Own.cellsS L us):=own_keep SO13.out.row (fun k hk=>by cases hk;exact hkeep14 g hgl13 hgua)
       obtain⟨curg,hatg⟩:=own_at r14 (g:=g) rfl
       have f5:=hatg.free (j*6+5)
       have q5:w14.cell? ⟨g,j*6+5,none⟩=some (.slice ua V.length uc):=(cell_same (hkeep14 g hgl13 hgua)).trans hc513
       have hz1314:w13.heap.size<=w14.heap.size:=by have:=hg14.size;rw[HZ14.out] at this;omega
       have HO14:=zh ho14;have HR14:=zh r14;have HK14:=zh hkeep14;have HX14:=zh hx14;have HG14:=zh hg14
       clear ho0 hg14 hx14 hfl ho14 r14 hatg hkeep14 hc513 HINS v00 v01 v02
       go_wp2_with fail
       refine Lex.Ends.intro (by kernel_rfl) ?_
       have hgl14:g<w14.heap.size:=Nat.lt_of_lt_of_le hgl13 hz1314
       have hkk:∀ k,k<w13.heap.size->(Value.slice ua V.length uc).ownBlock≠some k->k≠g->(w14.setCell ⟨g,j*6+5,none⟩ (.slice va' (V.length+1) vc')).heap[k]? = w13.heap[k]? :=fun k hk hne hkg=>(heap_setCell_other _ _ _ _ hkg).trans (HK14.out k hk hne)
       have hlc:=Own.zip_len L us SO13.out.len
       have r15:=own_put HR14.out (j*6+5) (by rw[hlc];omega) (.slice va' (V.length+1) vc')
       rw[<- Own.zip_set L us j hj SO13.out.len (V.take Pn++(⟨nm,mm.pub,ag⟩:Own.Vote)::V.drop Pn)] at r15
       have hv'g:(Value.slice va' (V.length+1) vc').ownBlock≠some g:=fun e=>own_dis HO14.out HR14.out (by decide) g e rfl
       have hu15:(w14.setCell ⟨g,j*6+5,none⟩ (.slice va' (V.length+1) vc')).ownsRow (w4.heap.size+3) 82 3 (.slice va' (V.length+1) vc') (V.take Pn++(⟨nm,mm.pub,ag⟩:Own.Vote)::V.drop Pn).length ((V.take Pn++(⟨nm,mm.pub,ag⟩:Own.Vote)::V.drop Pn).flatMap Own.encV):=by
        rw[HNL.out]
        exact own_keep HO14.out (fun k hk=>heap_setCell_other _ _ _ _ (show k≠g from fun e=>hv'g (e ▸ hk)))
       have huej:us[j]=.slice ua V.length uc:=by rw[HUE.out,<- HX.out]
       have hso:=Own.SOwn.turn SO13.out hj (u' :=.slice va' (V.length+1) vc') (nv:=V.take Pn++(⟨nm,mm.pub,ag⟩:Own.Vote)::V.drop Pn) r15 hu15 (fun i hi hi' hij=>own_keep (SO13.out.votes i hi hi') (fun k hk=>hkk k (Own.own_lt' (SO13.out.votes i hi hi') k hk) (by have:=SO13.out.ne hi' hju hij k hk;rwa [huej] at this) (fun e=>own_dis (SO13.out.votes i hi hi') SO13.out.row (by decide) k hk (by rw[e];rfl)))) (fun i hi' hij k hk=>by
        have hi:i<L.length:=by rw[<- SO13.out.len];exact hi'
        rcases HX14.out with h | h
        ·rw[h]
         have:=SO13.out.ne hi' hju hij k hk
         rwa [huej] at this
        ·rw[h]
         intro e
         have h1:=Own.own_lt' (SO13.out.votes i hi hi') k hk
         have h2:=Option.some.inj e
         have h3:=HZ14.out
         omega)
       have hgr:w4.heap.size+3<=g:=hgu
       have hvl:=HVL.out
       have hsz:w13.heap.size<=(w14.setCell ⟨g,j*6+5,none⟩ (.slice va' (V.length+1) vc')).heap.size:=by
        have:(w14.setCell ⟨g,j*6+5,none⟩ (.slice va' (V.length+1) vc')).heap.size=w14.heap.size:=by simp[World.setCell]
        omega
       have hbw:Below w.heap.size w (w14.setCell ⟨g,j*6+5,none⟩ (.slice va' (V.length+1) vc')):=by
        have h1:Below w.heap.size w w14:=(F13.out.under.trans (HBA14.out.mono F13.out.under.size)).grown HG14.out (by have:=HZ14.out;have:=F13.out.under.size;omega) (fun k hk=>by have:=(hvl k hk).1;omega)
        exact h1.setCell (p:=⟨g,j*6+5,none⟩) (by show w.heap.size<=g;omega) _
       have SOT:=zh hso
       have hg5:g≠w5.heap.size:=by
        have:=Own.own_lt' HG5.out g rfl
        omega
       have F15:=zh (F13.out.keep hbw hsz (fun k h1 h2=>hkk k (by have:=F13.out.size;have h2:k<w.heap.size+5:=h2;have h3:w.heap.size+5<=w13.heap.size:=this;omega) (fun e=>by have:=(hvl k e).1;have h2:k<w.heap.size+5:=h2;omega) (fun e=>by have h2:k<w.heap.size+5:=h2;omega)))
       have hnbv:(Value.slice ua V.length uc).ownBlock≠some NB:=fun e=>by have:=(hvl _ e).2.1;omega
       have N15:=zh (N13.out.keep (hkk NB N13.out.lt hnbv (by omega)))
       have O15a:=zh (show At w13 w5.heap.size 24 #[.int .i64 nx,.slice (some ⟨g,0,none⟩) L.length cap] from O13.out.at1 0 rfl);have O15:=zh (O15a.out.keep (hkk w5.heap.size O15a.out.lt (fun e=>(hvl _ e).2.2 rfl) (fun e=>hg5 e.symm)))
       have RS15:=zh (RS13.out.keep hsz (fun k hk hl=>hkk k hl (fun e=>hk.1 (by have:=hvl k e;omega)) (fun e=>hk.1 (by omega))))
       have RK15:=zh (RK13.out.keep hsz (fun k hk hl=>hkk k hl (fun e=>hk.1 (by have:=hvl k e;omega)) (fun e=>hk.1 (by omega))))
       clear f5 q5 hkk r15 hu15 huej hso hsz hbw hvl hv'g hlc
       generalize w14.setCell ⟨g,j*6+5,none⟩ (.slice va' (V.length+1) vc')=w15 at*
       obtain⟨o0,o1⟩:=O15.out.c2;obtain⟨n0,n1,n2⟩:=N15.out.c3
       obtain⟨x30,x31,x30f,x31f⟩:=F15.out.e3_2 rfl
       obtain⟨x40,x41,x42,x40f,x41f,x42f⟩:=F15.out.e4_3 rfl
       have HXN:=zh (show(w15.cell? ⟨NB,0,none⟩).isSome=true by rw[n0];rfl)
       go_wp2_with fail
       refine Lex.wp_region_lexN (fun k=>k=NB) [1] 3 [3] (by kernel_rfl) (by kernel_rfl) (by kernel_rfl) ?_
       simp only[Lex.wpCuts,List.take_succ_cons,List.take_zero,List.drop_succ_cons,List.drop_zero]
       go_wp2_with fail
       refine Lex.Mid.intro (fun k hk _=>by
        have h3:k≠w.heap.size+1+1+1:=by rw[hk];omega
        rw[drew_heap,drew_heap,heap_setCell_other _ _ _ _ h3,heap_setCell_other _ _ _ _ h3]) ?_
       go_wp2_with fail
       refine Lex.EndsN.intro (by kernel_rfl) ⟨⟨rfl,HXN.out⟩,trivial⟩ ?_
       go_wp2_with fail
       have g1:=F15.out.put 3 0 (.int .i64 nx) rfl
       have g2:=g1.put 3 1 (.slice (some ⟨g,0,none⟩) L.length cap) rfl
       have g3:=g2.put 4 0 (.int .i64 cnt) rfl
       have g4:=g3.put 4 1 (.slice sa' S.length sc') rfl
       have g5:=g4.put 4 2 (.slice ka' K1.length kc') rfl
       have G2:=g5.drew
       clear g1 g2 g3 g4 g5
       refine done_cct rfl rfl rfl rfl (load_row (G2.at1 3 rfl) Tryz.underlying24 rfl info_Queue) (load_row (G2.at1 4 rfl) Tryz.underlying38 rfl info_Owners) ?_
       rw[HQ.out,HE.out]
       have hst:∀ k,k≠w.heap.size+1+1+1->k≠w.heap.size+1+1+1+1->((((((w15.setCell ⟨w.heap.size+1+1+1,0,none⟩ (.int .i64 nx)).setCell ⟨w.heap.size+1+1+1,1,none⟩ (.slice (some ⟨g,0,none⟩) L.length cap)).setCell ⟨w.heap.size+1+1+1+1,0,none⟩ (.int .i64 cnt)).setCell ⟨w.heap.size+1+1+1+1,1,none⟩ (.slice sa' S.length sc')).setCell ⟨w.heap.size+1+1+1+1,2,none⟩ (.slice ka' K1.length kc')).drew).heap[k]? = w15.heap[k]? :=fun k h3 h4=>by
        rw[drew_heap,heap_setCell_other _ _ _ _ h4,heap_setCell_other _ _ _ _ h4,heap_setCell_other _ _ _ _ h4,heap_setCell_other _ _ _ _ h3,heap_setCell_other _ _ _ _ h3]
       have hsz:w15.heap.size<=((((((w15.setCell ⟨w.heap.size+1+1+1,0,none⟩ (.int .i64 nx)).setCell ⟨w.heap.size+1+1+1,1,none⟩ (.slice (some ⟨g,0,none⟩) L.length cap)).setCell ⟨w.heap.size+1+1+1+1,0,none⟩ (.int .i64 cnt)).setCell ⟨w.heap.size+1+1+1+1,1,none⟩ (.slice sa' S.length sc')).setCell ⟨w.heap.size+1+1+1+1,2,none⟩ (.slice ka' K1.length kc')).drew).heap.size:=by rw[drew_heap];simp[World.setCell]
       refine⟨⟨_,_,_,rfl,⟨_,rfl,?_⟩,?_,?_⟩,G2.under⟩
       ·exact(SOT.out.keep (fun k hk _=>hst k (by omega) (by omega))).props
       ·exact(RS15.out.keep hsz (fun k hk _=>hst k (fun e=>hk.1 (by omega)) (fun e=>hk.1 (by omega)))).mono (fun _ _ _=>trivial)
       ·exact(RK15.out.keep hsz (fun k hk _=>hst k (fun e=>hk.1 (by omega)) (fun e=>hk.1 (by omega)))).mono (fun _ _ _=>trivial)
end
section
open Go Go.RowKit Go.Maps
structure LS (w:World) (gO gQ:Nat) (o:Own.Owners) (q:Own.Queue) (sa:Option Addr) (sc:Nat) (ka:Option Addr) (kc:Nat) (qa:Option Addr) (qc:Nat):Prop where
 atO:At w gO 38 #[.int .i64 o.count,.slice sa o.spaces.length sc,.slice ka o.keys.length kc]
 atQ:At w gQ 24 #[.int .i64 q.next,.slice qa q.props.length qc]
 sp:Own.SpacesC w (.slice sa o.spaces.length sc) o.spaces
 ks:Own.KeysC w (.slice ka o.keys.length kc) o.keys
 ps:Own.PropsC w (.slice qa q.props.length qc) q.props
section
variable {w w' : World} {gO gQ:Nat} {o o' : Own.Owners} {q q' : Own.Queue} {sa ka qa sa' ka' qa' : Option Addr} {sc kc qc sc' kc' qc' : Nat}
theorem LS.below (h:LS w gO gQ o q sa sc ka kc qa qc) (hb:Below w.heap.size w w'):LS w' gO gQ o q sa sc ka kc qa qc:=
 ⟨h.atO.below hb h.atO.lt,h.atQ.below hb h.atQ.lt,h.sp.below hb,h.ks.below hb,h.ps.below hb⟩
theorem LS.ne (h:LS w gO gQ o q sa sc ka kc qa qc):gO≠gQ:=h.atO.ne h.atQ (by decide)
def lsW (w:World) (gO gQ:Nat) (o:Own.Owners) (q:Own.Queue) (sa:Option Addr) (sc:Nat) (ka:Option Addr) (kc:Nat) (qa:Option Addr) (qc:Nat):World:=
 ((((w.setCell ⟨gQ,0,none⟩ (.int .i64 q.next)).setCell ⟨gQ,1,none⟩ (.slice qa q.props.length qc)).setCell ⟨gO,0,none⟩ (.int .i64 o.count)).setCell ⟨gO,1,none⟩ (.slice sa o.spaces.length sc)).setCell ⟨gO,2,none⟩ (.slice ka o.keys.length kc)
theorem LS.put (h:LS w gO gQ o q sa sc ka kc qa qc) (hs:Own.SpacesC w (.slice sa' o'.spaces.length sc') o'.spaces) (hk:Own.KeysC w (.slice ka' o'.keys.length kc') o'.keys) (hp:Own.PropsC w (.slice qa' q'.props.length qc') q'.props):
 LS (lsW w gO gQ o' q' sa' sc' ka' kc' qa' qc') gO gQ o' q' sa' sc' ka' kc' qa' qc' :=by
 have hne:=h.ne
 have hq0:=h.atQ
 have hq1:=(hq0.set 0 (.int .i64 q'.next)).set 1 (.slice qa' q'.props.length qc')
 have ho1:=(h.atO.far (p:=⟨gQ,0,none⟩) (by simp;omega) (.int .i64 q'.next)).far (p:=⟨gQ,1,none⟩) (by simp;omega) (.slice qa' q'.props.length qc')
 have n0:Own.NoStr w gQ:=Own.NoStr.at_ hq0 rfl
 have n1:Own.NoStr ((w.setCell ⟨gQ,0,none⟩ (.int .i64 q'.next)).setCell ⟨gQ,1,none⟩ (.slice qa' q'.props.length qc')) gO:=Own.NoStr.at_ ho1 rfl
 have hz1:w.heap.size<=((w.setCell ⟨gQ,0,none⟩ (.int .i64 q'.next)).setCell ⟨gQ,1,none⟩ (.slice qa' q'.props.length qc')).heap.size:=by simp[World.setCell]
 have k1:∀ k,k≠gQ->((w.setCell ⟨gQ,0,none⟩ (.int .i64 q'.next)).setCell ⟨gQ,1,none⟩ (.slice qa' q'.props.length qc')).heap[k]? = w.heap[k]? :=fun k hk=>by rw[heap_setCell_other _ _ _ _ hk,heap_setCell_other _ _ _ _ hk]
 have s1:=Own.SpacesC.store hs n0 hz1 k1
 have s2:=Own.KeysC.store hk n0 hz1 k1
 have s3:=Own.PropsC.store hp n0 hz1 k1
 unfold lsW
 generalize (w.setCell ⟨gQ,0,none⟩ (.int .i64 q'.next)).setCell ⟨gQ,1,none⟩ (.slice qa' q'.props.length qc')=w1 at*
 have hz2:w1.heap.size<=(((w1.setCell ⟨gO,0,none⟩ (.int .i64 o'.count)).setCell ⟨gO,1,none⟩ (.slice sa' o'.spaces.length sc')).setCell ⟨gO,2,none⟩ (.slice ka' o'.keys.length kc')).heap.size:=by simp[World.setCell]
 have k2:∀ k,k≠gO->(((w1.setCell ⟨gO,0,none⟩ (.int .i64 o'.count)).setCell ⟨gO,1,none⟩ (.slice sa' o'.spaces.length sc')).setCell ⟨gO,2,none⟩ (.slice ka' o'.keys.length kc')).heap[k]? = w1.heap[k]? :=fun k hk=>by rw[heap_setCell_other _ _ _ _ hk,heap_setCell_other _ _ _ _ hk,heap_setCell_other _ _ _ _ hk]
 exact⟨((ho1.set 0 _).set 1 _).set 2 _,((hq1.far (p:=⟨gO,0,none⟩) (by simp;omega) _).far (p:=⟨gO,1,none⟩) (by simp;omega) _).far (p:=⟨gO,2,none⟩) (by simp;omega) _,Own.SpacesC.store s1 n1 hz2 k2,Own.KeysC.store s2 n1 hz2 k2,Own.PropsC.store s3 n1 hz2 k2⟩
theorem lsW_other (w:World) (gO gQ:Nat) (o:Own.Owners) (q:Own.Queue) (sa:Option Addr) (sc:Nat) (ka:Option Addr) (kc:Nat) (qa:Option Addr) (qc:Nat) (k:Nat) (h1:k≠gO) (h2:k≠gQ):(lsW w gO gQ o q sa sc ka kc qa qc).heap[k]? = w.heap[k]? :=by
 unfold lsW
 rw[heap_setCell_other _ _ _ _ h1,heap_setCell_other _ _ _ _ h1,heap_setCell_other _ _ _ _ h1,heap_setCell_other _ _ _ _ h2,heap_setCell_other _ _ _ _ h2]
theorem lsW_below (w:World) (gO gQ:Nat) (o:Own.Owners) (q:Own.Queue) (sa:Option Addr) (sc:Nat) (ka:Option Addr) (kc:Nat) (qa:Option Addr) (qc:Nat) {B:Nat} (h1:B<=gO) (h2:B<=gQ):Below B w (lsW w gO gQ o q sa sc ka kc qa qc):=
 (((((Below.refl B w).setCell (p:=⟨gQ,0,none⟩) h2 _).setCell (p:=⟨gQ,1,none⟩) h2 _).setCell (p:=⟨gO,0,none⟩) h1 _).setCell (p:=⟨gO,1,none⟩) h1 _).setCell (p:=⟨gO,2,none⟩) h1 _
structure Fits (o:Own.Owners) (q:Own.Queue):Prop where
 lp:q.props.length<=1000000
 lv:∀ x∈q.props,x.votes.length<=3000000
 ls:o.spaces.length<=3000000
 lk:o.keys.length<=800000
 lm:∀ x∈o.spaces,x.members.length<=3000000
theorem LS.vote (h:LS w gO gQ o q sa sc ka kc qa qc) (hM:MaxL w) (hf:Fits o q) (id:Int) (ag:Bool) (ap:Own.Approval) {n1 n2:Nat} {B:Nat} {cv pv:Value} (hc:w.ownsRow B 9 1 cv n1 (ap.sig.chains.map Value.string)) (hp:w.ownsRow B 9 1 pv n2 (ap.sig.path.map Value.string)) (e1:n1=ap.sig.chains.length) (e2:n2=ap.sig.path.length)
 (hal:ap.name.size<=140737488355328/\ap.sig.chains.length<=140737488355328/\ap.sig.path.length<=140737488355328) {R:Own.Queue × Own.Owners × Int} (hR:Own.vote q o id ag ap=R):
 Calls Tryz.prog 25 #[.agg #[.int .i64 q.next,.slice qa q.props.length qc],.agg #[.int .i64 o.count,.slice sa o.spaces.length sc,.slice ka o.keys.length kc],.int .i64 id,.bool ag,.agg #[.string ap.name,.int .i64 ap.sig.index,cv,pv]] w fun e w' => ∃ sa' sc' ka' kc' qa' qc',
  e=.returned (.tuple #[.agg #[.int .i64 R.1.next,.slice qa' R.1.props.length qc'],.agg #[.int .i64 R.2.1.count,.slice sa' R.2.1.spaces.length sc',.slice ka' R.2.1.keys.length kc'],.int .i64 R.2.2])/\Own.SpacesC w' (.slice sa' R.2.1.spaces.length sc') R.2.1.spaces/\Own.KeysC w' (.slice ka' R.2.1.keys.length kc') R.2.1.keys/\Own.PropsC w' (.slice qa' R.1.props.length qc') R.1.props/\Below w.heap.size w w' :=by
 subst e1 e2
 refine(rvVote_any q o id ag ap _ _ _ cv pv w hM h.ps h.sp h.ks (StrsC.own hc) (StrsC.own hp) (CapOK.own hp) hf.lp hf.lv hf.ls hf.lk hf.lm hal).mono ?_
 rintro e w' ⟨⟨qv,sv,kv,rfl,⟨pv',rfl,h1⟩,h2,h3⟩,hb⟩
 rw[hR] at h1 h2 h3 ⊢
 obtain⟨a1,c1,rfl⟩:=h1.len
 obtain⟨a2,c2,rfl⟩:=h2.len
 obtain⟨a3,c3,rfl⟩:=h3.len
 exact⟨a2,c2,a3,c3,a1,c1,rfl,h2,h3,h1,hb⟩
end
end
section
open Go
namespace Own
theorem nextOf_nil (p:ByteArray):nextOf [] p=0:=rfl
def vt (b:Nat) (ag:Bool):Vote:=⟨(mem54 b).name,(mem54 b).pub,ag⟩
theorem put0 (b:Nat) (x:Bool):putVote [] (vt b x)=[vt b x]:=rfl
theorem put1 {a b:Nat} (h:a<b) (hb:b<8) (x y:Bool):putVote [vt a x] (vt b y)=[vt a x,vt b y]:=by
 unfold putVote putVote
 rw[if_pos (show lessB (vt a x).name (vt b y).name=true from name_lt h hb)]
theorem put2 {a b c:Nat} (h:a<c) (h' : b<c) (hc:c<8) (x y z:Bool):putVote [vt a x,vt b y] (vt c z)=[vt a x,vt b y,vt c z]:=by
 unfold putVote putVote putVote
 rw[if_pos (show lessB (vt a x).name (vt c z).name=true from name_lt h hc),if_pos (show lessB (vt b y).name (vt c z).name=true from name_lt h' hc)]
theorem fits54 {n:Nat} {th nx:Int} {K:List KeyUse} {L:List Proposal} (hn:n<=8) (hK:K.length<=1000) (hL:L.length<=10) (hV:∀ p∈L,p.votes.length<=1000):Fits (own54 (space54 n th) K) ⟨nx,L⟩:=
 ⟨by show L.length ≤ _;omega,fun x hx => by have :=hV x hx;omega,by show 1 ≤ 3000000;omega,by show K.length ≤ _;omega,fun x hx => by
   have:x=space54 n th:=by simpa [own54] using hx
   rw[this]
   show(mems54 n).length<=_
   rw[mems54_len];omega⟩
theorem use_len1 (K:List KeyUse) (x:KeyUse):(use K x).length<=K.length+1:=by rw[use_put];exact putB_len _ _ _
structure AwP (q0 q1 q2 q3:Queue) (o0 o1 o2 o3:Owners) (p m:Proposal):Prop where
 o0e:o0=⟨0,[space54 3 2],[]⟩
 sub:submit ⟨5,[]⟩ 10 3 ⟨#[97,47,98]⟩ (Lane.seedB 1)=(q0,5,0)
 q0p:q0.props=[p]
 id0:0<=p.id
 id1:p.id<9223372036854775808
 pl:p.path.size<=1000000
 dl:p.digest.size<=1000000
 ok0:queueOK q0=true
 v1:vote q0 o0 5 true (ballot54 0 0 p true)=(q1,o1,0)
 a1:agreed q1 o1 5=false
 v2:vote q1 o1 5 true (ballot54 1 0 p true)=(q2,o2,0)
 a2:agreed q2 o2 5=true
 v3:vote q2 o2 5 false (ballot54 2 0 p false)=(q3,o3,0)
 a3:agreed q3 o3 5=false
 m13:merge q2 o2 13 5=(.none,.none,8)
 m12:merge q2 o2 12 5=(⟨6,[]⟩,m,0)
 mid:m.id=5
 wd:withdraw q2 5=(⟨6,[]⟩,0)
 ex:expire q2 13=⟨6,[]⟩
 f0:Fits o0 q0
 f1:Fits o1 q1
 f2:Fits o2 q2
 f3:Fits o3 q3
theorem awP:∃ q0 q1 q2 q3 o0 o1 o2 o3 p m,AwP q0 q1 q2 q3 o0 o1 o2 o3 p m:=by
 have hp:PropOK (prop54 5 ⟨#[97,47,98]⟩ (Lane.seedB 1) 10 3):=prop54_ok (by decide) (by decide) (by decide) (by decide) (digest_seed 1) (by decide) (by decide)
 have hsub:=submit_empty (nx:=5) (size:=10) (window:=3) (path:=⟨#[97,47,98]⟩) (dg:=Lane.seedB 1) (by decide) (by decide) (by decide) (digest_seed 1) (by decide) (by decide)
 have hpid:(prop54 5 ⟨#[97,47,98]⟩ (Lane.seedB 1) 10 3).id=5:=rfl
 have hpx:(prop54 5 ⟨#[97,47,98]⟩ (Lane.seedB 1) 10 3).expires=13:=rfl
 have hpv:withVs (prop54 5 ⟨#[97,47,98]⟩ (Lane.seedB 1) 10 3) []=prop54 5 ⟨#[97,47,98]⟩ (Lane.seedB 1) 10 3:=rfl
 have hpd:(prop54 5 ⟨#[97,47,98]⟩ (Lane.seedB 1) 10 3).digest.size=32:=seedB_size 1
 have hpp:(prop54 5 ⟨#[97,47,98]⟩ (Lane.seedB 1) 10 3).path.size=3:=rfl
 generalize prop54 5 ⟨#[97,47,98]⟩ (Lane.seedB 1) 10 3=p at*
 have hV0:=VInv.nil
 have hV1:=hV0.put (by simp) (vt 0 true) (name_ok 0)
 have hM1:=(ByMem.nil 3).put (b:=0) (by omega) true
 rw[show(⟨(mem54 0).name,(mem54 0).pub,true⟩:Vote)=vt 0 true from rfl] at hM1
 rw[put0] at hV1 hM1
 have hV2:=hV1.put (by simp) (vt 1 true) (name_ok 1)
 have hM2:=hM1.put (b:=1) (by omega) true
 rw[show(⟨(mem54 1).name,(mem54 1).pub,true⟩:Vote)=vt 1 true from rfl] at hM2
 rw[put1 (by omega) (by omega)] at hV2 hM2
 have hV3:=hV2.put (by simp) (vt 2 false) (name_ok 2)
 have hM3:=hM2.put (b:=2) (by omega) false
 rw[show(⟨(mem54 2).name,(mem54 2).pub,false⟩:Vote)=vt 2 false from rfl] at hM3
 rw[put2 (by omega) (by omega) (by omega)] at hV3 hM3
 have hK0:=KInv.nil
 have hK1:=hK0.use 0 1 (by decide) (by decide)
 have hK2:=hK1.use 1 1 (by decide) (by decide)
 have hK3:=hK2.use 2 1 (by decide) (by decide)
 have n1:nextOf (use [] ⟨(mem54 0).pub,1⟩) (mem54 1).pub=0:=by
  rw[nextOf_use hK0.srt,if_neg (pub_ne (a:=0) (b:=1) (by omega) (by omega) (by omega)),nextOf_nil]
 have n2:nextOf (use (use [] ⟨(mem54 0).pub,1⟩) ⟨(mem54 1).pub,1⟩) (mem54 2).pub=0:=by
  rw[nextOf_use hK1.srt,if_neg (pub_ne (a:=1) (b:=2) (by omega) (by omega) (by omega)),nextOf_use hK0.srt,if_neg (pub_ne (a:=0) (b:=2) (by omega) (by omega) (by omega)),nextOf_nil]
 have l1:=use_len1 [] ⟨(mem54 0).pub,1⟩
 have l2:=use_len1 (use [] ⟨(mem54 0).pub,1⟩) ⟨(mem54 1).pub,1⟩
 have l3:=use_len1 (use (use [] ⟨(mem54 0).pub,1⟩) ⟨(mem54 1).pub,1⟩) ⟨(mem54 2).pub,1⟩
 simp only[List.length_nil] at l1
 refine⟨⟨6,[withVs p []]⟩,⟨6,[withVs p [vt 0 true]]⟩,⟨6,[withVs p [vt 0 true,vt 1 true]]⟩,⟨6,[withVs p [vt 0 true,vt 1 true,vt 2 false]]⟩,own54 (space54 3 2) [],own54 (space54 3 2) (use [] ⟨(mem54 0).pub,1⟩),own54 (space54 3 2) (use (use [] ⟨(mem54 0).pub,1⟩) ⟨(mem54 1).pub,1⟩),own54 (space54 3 2) (use (use (use [] ⟨(mem54 0).pub,1⟩) ⟨(mem54 1).pub,1⟩) ⟨(mem54 2).pub,1⟩),p,withVs p [vt 0 true,vt 1 true],?_⟩
 refine { o0e:=rfl,sub:=by rw[hsub,hpv];rfl,q0p:=by show[withVs p []]=[p];rw[hpv],id0:=by omega,id1:=by omega,pl:=by omega,dl:=by omega,ok0:=queue_one (by decide) (by decide) (prop_ok hp hV0) (by show p.id<6;omega),v1:=?_,a1:=?_,v2:=?_,a2:=?_,v3:=?_,a3:=?_,m13:=?_,m12:=?_,mid:=hpid,wd:=?_,ex:=?_,f0:=?_,f1:=?_,f2:=?_,f3:=?_ }
 ·have:=vote54 (n:=3) (b:=0) (i:=0) (th:=2) (nx:=6) (ag:=true) (by omega) (by decide) (by decide) hK0 hp hV0 (by simp) (by omega) (by decide) (by omega) (by omega) (Int.le_refl _)
  rw[hpid] at this
  exact this
 ·have:=agreed54 (n:=3) (th:=2) (nx:=6) (by omega) (by decide) (by decide) hK1 hp hV1 hM1 (by omega) (by decide)
  rw[hpid] at this
  exact this
 ·have:=vote54 (n:=3) (b:=1) (i:=0) (th:=2) (nx:=6) (ag:=true) (by omega) (by decide) (by decide) hK1 hp hV1 (by simp) (by omega) (by decide) (by omega) (by omega) (by rw[n1];exact Int.le_refl _)
  rw[hpid,show(⟨(mem54 1).name,(mem54 1).pub,true⟩:Vote)=vt 1 true from rfl,put1 (by omega) (by omega)] at this
  exact this
 ·have:=agreed54 (n:=3) (th:=2) (nx:=6) (by omega) (by decide) (by decide) hK2 hp hV2 hM2 (by omega) (by decide)
  rw[hpid] at this
  exact this
 ·have:=vote54 (n:=3) (b:=2) (i:=0) (th:=2) (nx:=6) (ag:=false) (by omega) (by decide) (by decide) hK2 hp hV2 (by simp) (by omega) (by decide) (by omega) (by omega) (by rw[n2];exact Int.le_refl _)
  rw[hpid,show(⟨(mem54 2).name,(mem54 2).pub,false⟩:Vote)=vt 2 false from rfl,put2 (by omega) (by omega) (by omega)] at this
  exact this
 ·have:=agreed54 (n:=3) (th:=2) (nx:=6) (by omega) (by decide) (by decide) hK3 hp hV3 hM3 (by omega) (by decide)
  rw[hpid] at this
  exact this
 ·have:=mergeOK54 (n:=3) (th:=2) (nx:=6) (size:=13) (by omega) (by decide) (by decide) hK2 hp hV2 hM2 (by omega) (by decide)
  rw[hpid,hpx] at this
  exact this
 ·have:=mergeOK54 (n:=3) (th:=2) (nx:=6) (size:=12) (by omega) (by decide) (by decide) hK2 hp hV2 hM2 (by omega) (by decide)
  rw[hpid,hpx] at this
  exact this
 ·have:=withdraw54 (nx:=6) hp hV2 (by omega) (by decide)
  rw[hpid] at this
  exact this
 ·exact expire54 (nx:=6) hp hV2 (by omega) (by decide) (by omega)
 ·exact fits54 (by omega) (by simp) (by simp) (fun x hx=>by rw[List.mem_singleton.1 hx];simp[withVs])
 ·exact fits54 (by omega) (by omega) (by simp) (fun x hx=>by rw[List.mem_singleton.1 hx];simp[withVs])
 ·exact fits54 (by omega) (by omega) (by simp) (fun x hx=>by rw[List.mem_singleton.1 hx];simp[withVs])
 ·exact fits54 (by omega) (by omega) (by simp) (fun x hx=>by rw[List.mem_singleton.1 hx];simp[withVs])
end Own
end
section
open Go
namespace Lex
section
variable {P:Program} {ops:Array Oper} {Q:Exit->Act->World->Prop}
def okAllM (P:Program) (ops:Array Oper) (fl:List Nat) (m:Nat):Bool:=
 Region.noSelect ops&&
 okRows ops (fun a b=>okPair P ops a b || (decide (b<m)&&okPairN P ops fl a b)) ops.size ops.size 0 0&&
 ((List.range ops.size).all fun k => match ops[k]? with
   | some o => !needs o || (List.range ops.size).all fun i=>decide (i<k) || (match ops[i]? with | some o' => (match o'.dst with | some t => !(o.looksAt ops).contains t | none=>true) | none=>true)
   | none=>true)&&
 (fl.all fun k => match ops[k]? with
   | some o=>(List.range ops.size).all fun i=>decide (i<k) || (match ops[i]? with | some o' => (match o'.dst with | some t => !(o.looksAt ops).contains t | none=>true) | none=>true)
   | none=>true)&&
 (fl.all fun k=>decide (k<m)&&match ops[k]? with | some o=>kind P o==1 | none=>false)
structure OkM (P:Program) (ops:Array Oper) (fl:List Nat) (m:Nat):Prop where
 sel:∀ (j:Nat) (o:Oper) (cs:Array SelectCase) (b:Bool),ops[j]? = some o->o.op≠.select cs b
 top:∀ (b:Nat) (ob:Oper),ops[b]? = some ob->∀ e∈ob.after,Region.binds .any e=true->e.on<b
 pair:∀ b a,b<ops.size->a<b->waits ops ops.size b a=true\/okPair P ops a b=true\/(b<m/\okPairN P ops fl a b=true)
 keep:∀ (k:Nat) (o:Oper),ops[k]? = some o->needs o=true\/k∈fl->∀ i,k<=i->∀ (o' : Oper),ops[i]? = some o' -> ∀ t,o'.dst=some t->t ∉ o.looksAt ops
 flm:∀ k∈fl,k<m/\∀ o,ops[k]? = some o->kind P o=1
theorem okAllM_spec {fl:List Nat} {m:Nat} (h:okAllM P ops fl m=true):OkM P ops fl m:=by
 simp only[okAllM,Bool.and_eq_true,List.all_eq_true,List.mem_range] at h
 obtain⟨⟨⟨⟨h1,h2⟩,h3⟩,h4⟩,h5⟩:=h
 refine⟨fun j o cs b hj=>Region.noSelect_spec h1 j o cs b hj,fun b ob hb e he hbi=>?_,fun b a hb ha=>?_,fun k o hk hn i hki o' hi t ht=>?_,fun k hk=>?_⟩
 ·exact(okRows_waits h2 hb).1 e he hbi
 ·have:=(okRows_waits h2 (Array.getElem?_eq_getElem hb)).2 a ha
  simpa using this
 ·have hkl:k<ops.size:=(Array.getElem?_eq_some_iff.1 hk).1
  have hil:i<ops.size:=(Array.getElem?_eq_some_iff.1 hi).1
  have key:((List.range ops.size).all fun i=>decide (i<k) || (match ops[i]? with | some o' => (match o'.dst with | some t => !(o.looksAt ops).contains t | none=>true) | none=>true))=true:=by
   rcases hn with hn | hn
   ·have:=h3 k hkl
    rw[hk] at this
    simpa [hn] using this
   ·have:=h4 k hn
    rw[hk] at this
    exact this
  simp only[List.all_eq_true,List.mem_range] at key
  have:=key i hil
  rw[hi] at this
  simp only[ht,Bool.or_eq_true,decide_eq_true_eq] at this
  rcases this with this | this
  ·omega
  ·simpa using this
 ·obtain⟨q1,q2⟩:=h5 k hk
  refine⟨by simpa using q1,fun o ho=>?_⟩
  rw[ho] at q2
  simpa using q2
theorem okPair_N {fl:List Nat} {a b:Nat} (h:okPair P ops a b=true):okPairN P ops fl a b=true:=by
 unfold okPair at h
 unfold okPairN
 split at h
 ·rename_i oa ob ha hb
  simp only[ha,hb,Bool.and_eq_true,Bool.or_eq_true] at h ⊢
  refine⟨h.1,.inl (.inl ?_)⟩
  simpa [or_assoc] using h.2
 ·cases h
theorem okPair_of {fl:List Nat} {a b:Nat} (h:okPairN P ops fl a b=true) (ha' : a ∉ fl) (hb' : b ∉ fl):okPair P ops a b=true:=by
 unfold okPairN at h
 unfold okPair
 split at h
 ·rename_i oa ob ha hb
  simp only[ha,hb,Bool.and_eq_true,Bool.or_eq_true,List.contains_iff_mem,ha',hb',and_false,or_false] at h ⊢
  refine⟨h.1,?_⟩
  simpa [or_assoc] using h.2
 ·cases h
theorem pair_apart {a b:Nat} {oa ob:Oper} (h:okPair P ops a b=true) (ha:ops[a]? = some oa) (hb:ops[b]? = some ob):oa.apart ops ob=true/\(kind P ob=0\/kind P oa=0\/(kind P oa=1/\(kind P ob=1\/kind P ob=2))):=by
 simp only[okPair,ha,hb,Bool.and_eq_true,Bool.or_eq_true,beq_iff_eq] at h
 exact⟨h.1,by simpa [or_assoc] using h.2⟩
section
variable {B:Nat->Prop} {w0:World} {fl:List Nat} {m:Nat}
theorem frontQ (hA:OkM P ops fl m) {i:Nat} {rest:List Nat} : ∀ (ks:List Nat) (a:Act) (w:World),(∀ x∈ks++i::rest,x<ops.size)->(ks++i::rest).Pairwise (· < ·)->
 (∀ k∈ks,okPair P ops k i=true)->wpOps P ops (EndsN P ops B w0 fl Q) (ks++i::rest) a w->wpOps P ops (EndsN P ops B w0 fl Q) (i::(ks++rest)) a w
 | [],_,_,_,_,_,h=>h
 | k :: ks,a,w,hl,hs,hp,h => by
   have hs' :=List.pairwise_cons.1 hs
   have h0:=h
   rw[List.cons_append,wpOps_cons] at h
   have h1:wpOp P ops (EndsN P ops B w0 fl Q) k (fun a' w' => wpOps P ops (EndsN P ops B w0 fl Q) (i::(ks++rest)) a' w') a w:=
    wpOp_mono (fun a' w' hh=>frontQ hA ks a' w' (fun x hx=>hl x (by simp at hx ⊢;right;exact hx)) hs'.2 (fun x hx=>hp x (by simp[hx])) hh) h
   have hkl:k<ops.size:=hl k (by simp)
   have hil:i<ops.size:=hl i (by simp)
   obtain⟨ok,hk⟩:∃ o,ops[k]? = some o:=⟨_,Array.getElem?_eq_getElem hkl⟩
   obtain⟨oi,hi⟩:∃ o,ops[i]? = some o:=⟨_,Array.getElem?_eq_getElem hil⟩
   obtain⟨hap,hc⟩:=pair_apart (hp k (by simp)) hk hi
   have h0g:wpOps P ops (Ends P ops (fun _ a w=>allIn B w0 ops a fl/\Q .normal a w)) (k::ks++i::rest) a w:=wpOps_post (fun e a w he=>ends_of_endsN he) _ _ _ h0
   have h2:wpOp P ops (EndsN P ops B w0 fl Q) k (fun a' w' => wpOp P ops (EndsN P ops B w0 fl Q) i (wpOps P ops (EndsN P ops B w0 fl Q) (ks++rest)) a' w') a w:=
    wpOp_mono (fun a' w' hh=>by rw[wpOps_cons] at hh;exact hh) h1
   show wpOps P ops (EndsN P ops B w0 fl Q) (i::(k::(ks++rest))) a w
   rw[wpOps_cons]
   refine wpOp_mono (fun a' w' hh=>?_) (swap EndsN.noExit hk hi hap (fun cs b=>hA.sel k ok cs b hk) (fun cs b=>hA.sel i oi cs b hi) ?_ h2)
   ·rw[wpOps_cons];exact hh
   ·rcases hc with hc | hc | ⟨hc1,hc2⟩
    ·refine .inl (good_here (l:=k::ks++i::rest) hl h0g hi hc fun hn x hx o' ho' t ht=>?_)
     by_cases hxi:i<=x
     ·exact hA.keep i oi hi (.inl hn) x hxi o' ho' t ht
     ·have hxm : x ∈ k :: ks :=by
       rcases List.mem_append.1 hx with h | h
       ·exact h
       ·rcases List.mem_cons.1 h with h | h
        ·omega
        ·have:=(List.pairwise_append.1 hs).2.1
         have:=(List.pairwise_cons.1 this).1 x h
         omega
      exact(Oper.apart_spec (pair_apart (hp x hxm) ho' hi).1).1 t ht
    ·refine .inr (.inl (good_here (l:=k::ks++i::rest) hl h0g hk hc fun hn x hx o' ho' t ht=>?_))
     refine hA.keep k ok hk (.inl hn) x ?_ o' ho' t ht
     rcases List.mem_cons.1 hx with h | h
     ·omega
     ·have:=hs'.1 x h;omega
    ·exact .inr (.inr ⟨fun _=>reads_of hc1,fun _=>kind_news hc2⟩)
theorem frontY (hA:OkM P ops fl m) {i:Nat} {oi:Oper} (hi:ops[i]? = some oi) (hip:kind P oi=0\/kind P oi=1) (him:m<=i) {rest:List Nat} : ∀ (ks:List Nat) (a:Act) (w:World),(∀ x∈ks++i::rest,x<ops.size)->(ks++i::rest).Pairwise (· < ·)->
 (∀ k∈ks,okPair P ops k i=true)->wpS P ops (EndsN P ops B w0 fl Q) (Same B w0) m (ks++i::rest) a w->
 ∃ v,Yl P ops oi a w v w/\(kind P oi=0->∀ w2,Yl P ops oi a w2 v w2)/\(∀ w2,More w w2->Yl P ops oi a w2 v w2)/\wpS P ops (EndsN P ops B w0 fl Q) (Same B w0) m (ks++rest) (a.put oi.dst v) w
 | [],a,w,hl,hs,hp,h => by
   have h0:=wpS_ops _ _ _ h
   have h0g:wpOps P ops (Ends P ops (fun _ a w=>allIn B w0 ops a fl/\Q .normal a w)) (i::rest) a w:=wpOps_post (fun e a w he=>ends_of_endsN he) _ _ _ h0
   have hq:kind P oi=0->Region.wanted oi (yielded ops a.tmps)=true->Quiet P (execOp a.eval oi):=fun hc=>good_here (l:=i::rest) hl h0g hi hc fun hn x hx o' ho' t ht=>hA.keep i oi hi (.inl hn) x (by
    rcases List.mem_cons.1 hx with h | h
    ·omega
    ·have:=(List.pairwise_cons.1 hs).1 x h;omega) o' ho' t ht
   have hre:Region.wanted oi (yielded ops a.tmps)=true->Reads P (execOp a.eval oi):=fun hw=>by
    rcases hip with hc | hc
    ·intro n w w' hr
     obtain⟨q1,q2,q3⟩:=hq hc hw n w w' hr
     exact⟨q1,q2,fun w2 _=>q3 w2⟩
    ·exact reads_of hc
   have h:wpOp P ops (EndsN P ops B w0 fl Q) i (fun a' w' => (i<m->Same B w0 w')/\wpS P ops (EndsN P ops B w0 fl Q) (Same B w0) m rest a' w') a w:=h
   obtain⟨v,w',hy,_,hK⟩:=yl_of EndsN.noExit hi (fun hw=>(hre hw).news) h
   obtain⟨rfl,hm⟩:=hy.reads hre
   exact⟨v,hy,fun hc=>(hy.quiet (hq hc)).2,hm,hK⟩
 | k :: ks,a,w,hl,hs,hp,h => by
   have hs' :=List.pairwise_cons.1 hs
   obtain⟨ok,hk⟩:∃ o,ops[k]? = some o:=⟨_,Array.getElem?_eq_getElem (hl k (by simp))⟩
   obtain⟨hap,hc⟩:=pair_apart (hp k (by simp)) hk hi
   have hap:=Oper.apart_spec hap
   have hseli:∀ cs b,oi.op≠.select cs b:=fun cs b=>hA.sel i oi cs b hi
   have hselk:∀ cs b,ok.op≠.select cs b:=fun cs b=>hA.sel k ok cs b hk
   have hds:∀ t,oi.dst=some t->ok.dst≠some t:=fun t ht hk' => hap.2.1 t hk' ht
   have hl' : ∀ x∈ks++i::rest,x<ops.size:=fun x hx=>hl x (by simp at hx ⊢;right;exact hx)
   have hp' : ∀ x∈ks,okPair P ops x i=true:=fun x hx=>hp x (by simp[hx])
   have h0g:wpOps P ops (Ends P ops (fun _ a w=>allIn B w0 ops a fl/\Q .normal a w)) (k::ks++i::rest) a w:=wpOps_post (fun e a w he=>ends_of_endsN he) _ _ _ (wpS_ops _ _ _ h)
   have h:wpOp P ops (EndsN P ops B w0 fl Q) k (fun a' w' => (k<m->Same B w0 w')/\wpS P ops (EndsN P ops B w0 fl Q) (Same B w0) m (ks++i::rest) a' w') a w:=h
   have done:∀ v,(∀ a1 w1,Rch a ok.dst a1->wpS P ops (EndsN P ops B w0 fl Q) (Same B w0) m (ks++i::rest) a1 w1->wpS P ops (EndsN P ops B w0 fl Q) (Same B w0) m (ks++rest) (a1.put oi.dst v) w1)->wpS P ops (EndsN P ops B w0 fl Q) (Same B w0) m (k::(ks++rest)) (a.put oi.dst v) w:=fun v hv=>by
    show wpOp P ops (EndsN P ops B w0 fl Q) k (fun a' w' => (k<m->Same B w0 w')/\wpS P ops (EndsN P ops B w0 fl Q) (Same B w0) m (ks++rest) a' w') (a.put oi.dst v) w
    exact xfer_in EndsN.noExit hk hselk hap.2.2 hds h fun a1 w1 hR hh=>⟨hh.1,hv a1 w1 hR hh.2⟩
   have two:kind P oi=0->_:=fun hc0=>(show ∃ v,Yl P ops oi a w v w/\(kind P oi=0->∀ w2,Yl P ops oi a w2 v w2)/\(∀ w2,More w w2->Yl P ops oi a w2 v w2)/\wpS P ops (EndsN P ops B w0 fl Q) (Same B w0) m (k::(ks++rest)) (a.put oi.dst v) w by
    obtain⟨a1,w1,hR,hh⟩:=wpOp_ex EndsN.noExit hk h
    obtain⟨v,hy,hy0,_,_⟩:=frontY hA hi hip him ks a1 w1 hl' hs'.2 hp' hh.2
    have he:=hR.exec (o:=oi) (ops:=ops) hseli hap.1
    have hall:∀ w2,Yl P ops oi a w2 v w2:=fun w2=>(hy0 hc0 w2).same ⟨he.1.symm,he.2.symm⟩
    refine⟨v,hall w,fun _=>hall,fun w2 _=>hall w2,done v fun a2 w2 hR2 hh2=>?_⟩
    obtain⟨v2,hy2,_,_,hK2⟩:=frontY hA hi hip him ks a2 w2 hl' hs'.2 hp' hh2
    have he2:=hR2.exec (o:=oi) (ops:=ops) hseli hap.1
    obtain⟨rfl,_⟩:=hy2.det ((hall w2).same he2)
    exact hK2)
   have three:kind P ok=0\/kind P ok=1->_:=fun hkd=>(show ∃ v,Yl P ops oi a w v w/\(kind P oi=0->∀ w2,Yl P ops oi a w2 v w2)/\(∀ w2,More w w2->Yl P ops oi a w2 v w2)/\wpS P ops (EndsN P ops B w0 fl Q) (Same B w0) m (k::(ks++rest)) (a.put oi.dst v) w by
    have hre:Region.wanted ok (yielded ops a.tmps)=true->Reads P (execOp a.eval ok):=fun hw=>by
     rcases hkd with hc | hc
     ·intro n w w' hr
      obtain⟨q1,q2,q3⟩:=good_here (l:=k::ks++i::rest) hl h0g hk hc (fun hn x hx o' ho' t ht=>hA.keep k ok hk (.inl hn) x (by
       rcases List.mem_cons.1 hx with h | h
       ·omega
       ·have:=hs'.1 x h;omega) o' ho' t ht) hw n w w' hr
      exact⟨q1,q2,fun w2 _=>q3 w2⟩
     ·exact reads_of hc
    obtain⟨vk,w1,hyk,hSk,hh⟩:=yl_of EndsN.noExit hk (fun hw=>(hre hw).news) h
    obtain⟨rfl,_⟩:=hyk.reads hre
    obtain⟨v,hy,hy0,hym,hK⟩:=frontY hA hi hip him ks _ w1 hl' hs'.2 hp' hh
    have he:=(Rch.put_ a ok.dst vk).exec (o:=oi) (ops:=ops) hseli hap.1
    have hek:=(Rch.put_ a oi.dst v).exec (o:=ok) (ops:=ops) hselk hap.2.2
    refine⟨v,hy.same ⟨he.1.symm,he.2.symm⟩,fun hc w2=>(hy0 hc w2).same ⟨he.1.symm,he.2.symm⟩,fun w2 hw2=>(hym w2 hw2).same ⟨he.1.symm,he.2.symm⟩,?_⟩
    show wpOp P ops (EndsN P ops B w0 fl Q) k (fun a' w' => (k<m->Same B w0 w')/\wpS P ops (EndsN P ops B w0 fl Q) (Same B w0) m (ks++rest) a' w') (a.put oi.dst v) w1
    exact Yl.mk hk (hyk.same hek) ⟨hSk,by rw[Act.put_comm a v vk hds];exact hK⟩)
   rcases hc with hc | hc | ⟨hc,_⟩
   ·exact two hc
   ·exact three (.inl hc)
   ·exact three (.inr hc)
theorem frontM (hA:OkM P ops fl m) {i:Nat} (him:i<m) {rest:List Nat} : ∀ (ks:List Nat) (a:Act) (w:World),Same B w0 w->(∀ x∈ks++i::rest,x<ops.size)->(ks++i::rest).Pairwise (· < ·)->
 (∀ k∈ks,okPairN P ops fl k i=true)->wpS P ops (EndsN P ops B w0 fl Q) (Same B w0) m (ks++i::rest) a w->wpS P ops (EndsN P ops B w0 fl Q) (Same B w0) m (i::(ks++rest)) a w
 | [],_,_,_,_,_,_,h=>h
 | k :: ks,a,w,hS,hl,hs,hp,h => by
   have hsel:=hA.sel
   have hkeep:=hA.keep
   have hs' :=List.pairwise_cons.1 hs
   have h0:=wpS_ops _ _ _ h
   have hki:k<i:=hs'.1 i (by simp)
   have h:wpOp P ops (EndsN P ops B w0 fl Q) k (fun a' w' => (k<m->Same B w0 w')/\wpS P ops (EndsN P ops B w0 fl Q) (Same B w0) m (ks++i::rest) a' w') a w:=h
   have h1:wpOp P ops (EndsN P ops B w0 fl Q) k (fun a' w' => Same B w0 w' /\ wpS P ops (EndsN P ops B w0 fl Q) (Same B w0) m (i::(ks++rest)) a' w') a w:=
    wpOp_mono (fun a' w' hh=>⟨hh.1 (by omega),frontM hA him ks a' w' (hh.1 (by omega)) (fun x hx=>hl x (by simp at hx ⊢;right;exact hx)) hs'.2 (fun x hx=>hp x (by simp[hx])) hh.2⟩) h
   have hkl:k<ops.size:=hl k (by simp)
   have hil:i<ops.size:=hl i (by simp)
   obtain⟨ok,hk⟩:∃ o,ops[k]? = some o:=⟨_,Array.getElem?_eq_getElem hkl⟩
   obtain⟨oi,hi⟩:∃ o,ops[i]? = some o:=⟨_,Array.getElem?_eq_getElem hil⟩
   have hpk:=hp k (by simp)
   simp only[okPairN,hk,hi,Bool.and_eq_true,Bool.or_eq_true,beq_iff_eq,List.contains_iff_mem] at hpk
   obtain⟨hap,hc⟩:=hpk
   have h2:wpOp P ops (EndsN P ops B w0 fl Q) k (fun a' w' => Same B w0 w' /\ wpOp P ops (EndsN P ops B w0 fl Q) i (fun a'' w'' => Same B w0 w'' /\ wpS P ops (EndsN P ops B w0 fl Q) (Same B w0) m (ks++rest) a'' w'') a' w') a w:=
    wpOp_mono (fun a' w' hh=>⟨hh.1,wpOp_mono (fun a'' w'' h3=>⟨h3.1 him,h3.2⟩) (show wpOp P ops _ i (fun a'' w'' => (i<m->Same B w0 w'')/\wpS P ops _ (Same B w0) m (ks++rest) a'' w'') a' w' from hh.2)⟩) h1
   have behind_i:∀ x∈k::ks++i::rest,∀ o',ops[x]? = some o' -> (needs oi=true\/i∈fl)->∀ t,o'.dst=some t->t ∉ oi.looksAt ops:=fun x hx o' ho' hn t ht=>by
    by_cases hxi:i<=x
    ·exact hkeep i oi hi hn x hxi o' ho' t ht
    ·have hxm : x ∈ k :: ks :=by
      rcases List.mem_append.1 hx with h | h
      ·exact h
      ·rcases List.mem_cons.1 h with h | h
       ·omega
       ·have:=(List.pairwise_append.1 hs).2.1
        have:=(List.pairwise_cons.1 this).1 x h
        omega
     have hpx:=hp x hxm
     simp only[okPairN,ho',hi,Bool.and_eq_true] at hpx
     exact(Oper.apart_spec hpx.1).1 t ht
   have behind_k:∀ x∈k::ks++i::rest,∀ o',ops[x]? = some o' -> (needs ok=true\/k∈fl)->∀ t,o'.dst=some t->t ∉ ok.looksAt ops:=fun x hx o' ho' hn t ht=>by
    refine hkeep k ok hk hn x ?_ o' ho' t ht
    rcases List.mem_cons.1 hx with h | h
    ·omega
    ·have:=hs'.1 x h;omega
   have h0g:wpOps P ops (Ends P ops (fun _ a w=>allIn B w0 ops a fl/\Q .normal a w)) (k::ks++i::rest) a w:=wpOps_post (fun e a w he=>ends_of_endsN he) _ _ _ h0
   have h3:=swapS (S:=Same B w0) EndsN.noExit hk hi hap (fun cs b=>hsel k ok cs b hk) (fun cs b=>hsel i oi cs b hi) hS ?_ h2
   ·show wpOp P ops _ i (fun a' w' => (i<m->Same B w0 w')/\wpS P ops _ (Same B w0) m (k::(ks++rest)) a' w') a w
    refine wpOp_mono (fun a' w' hh=>⟨fun _=>hh.1,?_⟩) h3
    show wpOp P ops _ k (fun a'' w'' => (k<m->Same B w0 w'')/\wpS P ops _ (Same B w0) m (ks++rest) a'' w'') a' w'
    exact wpOp_mono (fun a'' w'' h4=>⟨fun _=>h4.1,h4.2⟩) hh.2
   ·rcases hc with (((hc | hc) | ⟨hc1,hc2⟩) | ⟨hc,hm⟩) | ⟨hc,hm⟩
    ·have hq:=good_here (l:=k::ks++i::rest) hl h0g hi hc fun hn x hx o' ho' t ht=>behind_i x hx o' ho' (.inl hn) t ht
     exact .inl ⟨fun hw=>(hq hw).firm,fun hw=>(hq hw).news⟩
    ·have hq:=good_here (l:=k::ks++i::rest) hl h0g hk hc fun hn x hx o' ho' t ht=>behind_k x hx o' ho' (.inl hn) t ht
     exact .inr (.inl ⟨fun hw=>(hq hw).firm,fun hw=>(hq hw).news⟩)
    ·exact .inr (.inr ⟨fun _=>reads_of hc1,fun _=>kind_news hc2⟩)
    ·exact .inr (.inl ⟨inB_here (l:=k::ks++i::rest) hl h0 hk hc hm fun x hx o' ho' t ht=>behind_k x hx o' ho' (.inr hm) t ht,fun _=>kind_news (.inl hc)⟩)
    ·exact .inl ⟨inB_here (l:=k::ks++i::rest) hl h0 hi hc hm fun x hx o' ho' t ht=>behind_i x hx o' ho' (.inr hm) t ht,fun _=>kind_news (.inl hc)⟩
theorem any_of_Q (hA:OkM P ops fl m):∀ (fuel:Nat) (l:List Nat) (listed:Array Bool) (a:Act) (w:World),l.length=fuel->listed.size=ops.size->Closed ops listed->
 l.Pairwise (· < ·)->(∀ x,x∈l↔x<ops.size/\listed.getD x false=false)->(∀ x∈l,x ∉ fl)->wpOps P ops (EndsN P ops B w0 fl Q) l a w->wpAny P .any ops (EndsN P ops B w0 fl Q) fuel listed a w
 | 0,l,listed,a,w,hlen,hsz,hcl,hs,hm,_,h => by
   have hl0:l=[]:=List.eq_nil_of_length_eq_zero hlen
   subst hl0
   refine⟨?_,h⟩
   refine List.eq_nil_iff_forall_not_mem.2 fun j hj=>?_
   obtain⟨h0,o,ho,_⟩:=mem_ready.1 hj
   have hjl:j<ops.size:=(Array.getElem?_eq_some_iff.1 ho).1
   have:=(hm j).2 ⟨hjl,getD_both h0⟩
   cases this
 | fuel + 1,l,listed,a,w,hlen,hsz,hcl,hs,hm,hnf,h => by
   have both:∀ x,x<ops.size->listed.getD x false=false->listed.getD x true=false:=fun x hx hf=>getD_in (by omega) hf
   refine⟨fun hr=>?_,fun i hi=>?_⟩
   ·exfalso
    cases l with
    | nil=>cases hlen
    | cons k l =>
      have hm0:=(hm k).1 (by simp)
      obtain⟨o,ho⟩:∃ o,ops[k]? = some o:=⟨_,Array.getElem?_eq_getElem hm0.1⟩
      have:k∈Region.ready .any ops listed:=mem_ready.2 ⟨both k hm0.1 hm0.2,o,ho,fun e he hb=>by
       have hlt:=hA.top k o ho e he hb
       cases hx:listed.getD e.on false with
       | true=>rfl
       | false =>
         have hin:=(hm e.on).2 ⟨by omega,hx⟩
         rcases List.mem_cons.1 hin with h1 | h1
         ·omega
         ·have:=(List.pairwise_cons.1 hs).1 _ h1
          omega⟩
      rw[hr] at this
      cases this
   ·obtain⟨hun,oi,hoi,hall⟩:=mem_ready.1 hi
    have hil:i<ops.size:=(Array.getElem?_eq_some_iff.1 hoi).1
    have hin:i∈l:=(hm i).2 ⟨hil,getD_both hun⟩
    obtain⟨ks,rest,rfl⟩:=List.append_of_mem hin
    have hpw:=List.pairwise_append.1 hs
    have hlt:∀ x∈ks++i::rest,x<ops.size:=fun x hx=>((hm x).1 hx).1
    have hks:∀ k∈ks,okPair P ops k i=true\/(i<m/\okPairN P ops fl k i=true):=fun k hk=>by
     have hki:k<i:=hpw.2.2 k hk i (by simp)
     rcases hA.pair i k hil hki with hw | hp
     ·have:=waits_listed hcl ops.size i k oi hoi hall hw
      have hk2:=((hm k).1 (by simp[hk])).2
      rw[hk2] at this
      cases this
     ·exact hp
    have hks2:∀ k∈ks,okPair P ops k i=true:=fun k hk=>by
     rcases hks k hk with h | ⟨_,h⟩
     ·exact h
     ·exact okPair_of h (hnf k (by simp[hk])) (hnf i (by simp))
    have hfr:=frontQ hA ks a w hlt hs hks2 h
    rw[wpOps_cons] at hfr
    refine wpOp_mono (fun a' w' hh=>?_) hfr
    refine any_of_Q hA fuel (ks++rest) _ a' w' (by simp at hlen ⊢;omega) (by simp[hsz]) ?_ ?_ ?_ (fun x hx=>hnf x (by simp at hx ⊢;rcases hx with h | h <;> simp[h])) hh
    ·intro j o ho hl e he hb
     by_cases hij:i=j
     ·subst hij
      have:o=oi:=Option.some.inj (ho.symm.trans hoi)
      subst this
      exact getD_set_true (hall e he hb)
     ·refine getD_set_true (hcl j o ho ?_ e he hb)
      rw[getD_set_ne false (by exact hij)] at hl
      exact hl
    ·exact List.pairwise_append.2 ⟨hpw.1,(List.pairwise_cons.1 hpw.2.1).2,fun x hx y hy=>hpw.2.2 x hx y (by simp[hy])⟩
    ·intro x
     have hx:=hm x
     have hne:x∈ks++rest->i≠x:=by
      intro hxm e
      subst e
      rcases List.mem_append.1 hxm with h1 | h1
      ·have:=hpw.2.2 i h1 i (by simp)
       omega
      ·have:=(List.pairwise_cons.1 hpw.2.1).1 i h1
       omega
     constructor
     ·intro hxm
      have h1:=hx.1 (by simp at hxm ⊢;rcases hxm with h | h <;> simp[h])
      exact⟨h1.1,by rw[getD_set_ne false (hne hxm)];exact h1.2⟩
     ·rintro⟨h1,h2⟩
      by_cases hix:i=x
      ·subst hix
       simp[hsz,h1] at h2
      ·rw[getD_set_ne false hix] at h2
       have:=hx.2 ⟨h1,h2⟩
       simp at this ⊢
       rcases this with h | h | h
       ·exact .inl h
       ·exact absurd h.symm hix
       ·exact .inr h
theorem any_of_M (hA:OkM P ops fl m) (hfl2:∀ x∈fl,∀ i,m<=i->∀ oi,ops[i]? = some oi->kind P oi=2->False):∀ (fuel:Nat) (l:List Nat) (listed:Array Bool) (a:Act) (w:World),l.length=fuel->listed.size=ops.size->Closed ops listed->
 l.Pairwise (· < ·)->(∀ x,x∈l↔x<ops.size/\listed.getD x false=false)->((∃ x∈l,x<m)->Same B w0 w)->wpS P ops (EndsN P ops B w0 fl Q) (Same B w0) m l a w->wpAny P .any ops (EndsN P ops B w0 fl Q) fuel listed a w
 | 0,l,listed,a,w,hlen,hsz,hcl,hs,hm,_,h => by
   have hl0:l=[]:=List.eq_nil_of_length_eq_zero hlen
   subst hl0
   refine⟨?_,h⟩
   refine List.eq_nil_iff_forall_not_mem.2 fun j hj=>?_
   obtain⟨h0,o,ho,_⟩:=mem_ready.1 hj
   have hjl:j<ops.size:=(Array.getElem?_eq_some_iff.1 ho).1
   have:=(hm j).2 ⟨hjl,getD_both h0⟩
   cases this
 | fuel + 1,l,listed,a,w,hlen,hsz,hcl,hs,hm,hSl,h => by
   have both:∀ x,x<ops.size->listed.getD x false=false->listed.getD x true=false:=fun x hx hf=>getD_in (by omega) hf
   refine⟨fun hr=>?_,fun i hi=>?_⟩
   ·exfalso
    cases l with
    | nil=>cases hlen
    | cons k l =>
      have hm0:=(hm k).1 (by simp)
      obtain⟨o,ho⟩:∃ o,ops[k]? = some o:=⟨_,Array.getElem?_eq_getElem hm0.1⟩
      have:k∈Region.ready .any ops listed:=mem_ready.2 ⟨both k hm0.1 hm0.2,o,ho,fun e he hb=>by
       have hlt:=hA.top k o ho e he hb
       cases hx:listed.getD e.on false with
       | true=>rfl
       | false =>
         have hin:=(hm e.on).2 ⟨by omega,hx⟩
         rcases List.mem_cons.1 hin with h1 | h1
         ·omega
         ·have:=(List.pairwise_cons.1 hs).1 _ h1
          omega⟩
      rw[hr] at this
      cases this
   ·obtain⟨hun,oi,hoi,hall⟩:=mem_ready.1 hi
    have hil:i<ops.size:=(Array.getElem?_eq_some_iff.1 hoi).1
    have hin:i∈l:=(hm i).2 ⟨hil,getD_both hun⟩
    obtain⟨ks,rest,rfl⟩:=List.append_of_mem hin
    have hpw:=List.pairwise_append.1 hs
    have hlt:∀ x∈ks++i::rest,x<ops.size:=fun x hx=>((hm x).1 hx).1
    have hks:∀ k∈ks,okPair P ops k i=true\/(i<m/\okPairN P ops fl k i=true):=fun k hk=>by
     have hki:k<i:=hpw.2.2 k hk i (by simp)
     rcases hA.pair i k hil hki with hw | hp
     ·have:=waits_listed hcl ops.size i k oi hoi hall hw
      have hk2:=((hm k).1 (by simp[hk])).2
      rw[hk2] at this
      cases this
     ·exact hp
    have hfr:wpOp P ops (EndsN P ops B w0 fl Q) i (fun a' w' => (((∃ x∈ks++rest,x<m)->Same B w0 w')/\wpS P ops (EndsN P ops B w0 fl Q) (Same B w0) m (ks++rest) a' w')\/((∀ x∈ks++rest,x ∉ fl)/\wpOps P ops (EndsN P ops B w0 fl Q) (ks++rest) a' w')) a w:=by
     have hgt:∀ x∈rest,i<x:=fun x hx=>(List.pairwise_cons.1 hpw.2.1).1 x hx
     by_cases him:i<m
     ·have h4 : wpS P ops (EndsN P ops B w0 fl Q) (Same B w0) m (i :: (ks ++ rest)) a w :=by
       cases ks with
       | nil=>exact h
       | cons k ks =>
         exact frontM hA him (k::ks) a w (hSl ⟨i,hin,him⟩) hlt hs (fun x hx=>by
          rcases hks x hx with h | ⟨_,h⟩
          ·exact okPair_N h
          ·exact h) h
      exact wpOp_mono (fun a1 w1 hh=>.inl ⟨fun _=>hh.1 him,hh.2⟩) (show wpOp P ops _ i (fun a' w' => (i<m->Same B w0 w')/\wpS P ops (EndsN P ops B w0 fl Q) (Same B w0) m (ks++rest) a' w') a w from h4)
     ·have hks2 : ∀ k ∈ ks,okPair P ops k i = true :=fun k hk => by
       rcases hks k hk with h | ⟨h,_⟩
       ·exact h
       ·exact absurd h him
      by_cases hip:kind P oi=0\/kind P oi=1
      ·obtain⟨v,hy,_,_,hK⟩:=frontY hA hoi hip (by omega) ks a w hlt hs hks2 h
       exact Yl.mk hoi hy (.inl ⟨fun⟨x,hx,hxm⟩=>hSl ⟨x,(by simp at hx ⊢;rcases hx with h | h <;> simp[h]),hxm⟩,hK⟩)
      ·have hq:=frontQ hA ks a w hlt hs hks2 (wpS_ops _ _ _ h)
       rw[wpOps_cons] at hq
       refine wpOp_mono (fun a1 w1 hh=>.inr ⟨fun x hx hf=>?_,hh⟩) hq
       rcases List.mem_append.1 hx with h1 | h1
       ·obtain⟨ox,hox⟩:∃ o,ops[x]? = some o:=⟨_,Array.getElem?_eq_getElem (hlt x (by simp[h1]))⟩
        have hk1:=(hA.flm x hf).2 ox hox
        obtain⟨_,hc⟩:=pair_apart (hks2 x h1) hox hoi
        rcases hc with hc | hc | ⟨_,hc⟩
        ·exact hip (.inl hc)
        ·omega
        ·rcases hc with hc | hc
         ·exact hip (.inr hc)
         ·have h2:=(hA.flm x hf).1
          exact hfl2 x hf i (by omega) oi hoi hc
       ·have:=hgt x h1
        have:=(hA.flm x hf).1
        omega
    refine wpOp_mono (fun a' w' hh=>?_) hfr
    rcases hh with ⟨hS',hK⟩ | ⟨hnf,hK⟩
    ·refine any_of_M hA hfl2 fuel (ks++rest) _ a' w' (by simp at hlen ⊢;omega) (by simp[hsz]) ?_ ?_ ?_ hS' hK
     ·intro j o ho hl e he hb
      by_cases hij:i=j
      ·subst hij
       have:o=oi:=Option.some.inj (ho.symm.trans hoi)
       subst this
       exact getD_set_true (hall e he hb)
      ·refine getD_set_true (hcl j o ho ?_ e he hb)
       rw[getD_set_ne false (by exact hij)] at hl
       exact hl
     ·exact List.pairwise_append.2 ⟨hpw.1,(List.pairwise_cons.1 hpw.2.1).2,fun x hx y hy=>hpw.2.2 x hx y (by simp[hy])⟩
     ·intro x
      have hx:=hm x
      have hne:x∈ks++rest->i≠x:=by
       intro hxm e
       subst e
       rcases List.mem_append.1 hxm with h1 | h1
       ·have:=hpw.2.2 i h1 i (by simp)
        omega
       ·have:=(List.pairwise_cons.1 hpw.2.1).1 i h1
        omega
      constructor
      ·intro hxm
       have h1:=hx.1 (by simp at hxm ⊢;rcases hxm with h | h <;> simp[h])
       exact⟨h1.1,by rw[getD_set_ne false (hne hxm)];exact h1.2⟩
      ·rintro⟨h1,h2⟩
       by_cases hix:i=x
       ·subst hix
        simp[hsz,h1] at h2
       ·rw[getD_set_ne false hix] at h2
        have:=hx.2 ⟨h1,h2⟩
        simp at this ⊢
        rcases this with h | h | h
        ·exact .inl h
        ·exact absurd h.symm hix
        ·exact .inr h
    ·refine any_of_Q hA fuel (ks++rest) _ a' w' (by simp at hlen ⊢;omega) (by simp[hsz]) ?_ ?_ ?_ hnf hK
     ·intro j o ho hl e he hb
      by_cases hij:i=j
      ·subst hij
       have:o=oi:=Option.some.inj (ho.symm.trans hoi)
       subst this
       exact getD_set_true (hall e he hb)
      ·refine getD_set_true (hcl j o ho ?_ e he hb)
       rw[getD_set_ne false (by exact hij)] at hl
       exact hl
     ·exact List.pairwise_append.2 ⟨hpw.1,(List.pairwise_cons.1 hpw.2.1).2,fun x hx y hy=>hpw.2.2 x hx y (by simp[hy])⟩
     ·intro x
      have hx:=hm x
      have hne:x∈ks++rest->i≠x:=by
       intro hxm e
       subst e
       rcases List.mem_append.1 hxm with h1 | h1
       ·have:=hpw.2.2 i h1 i (by simp)
        omega
       ·have:=(List.pairwise_cons.1 hpw.2.1).1 i h1
        omega
      constructor
      ·intro hxm
       have h1:=hx.1 (by simp at hxm ⊢;rcases hxm with h | h <;> simp[h])
       exact⟨h1.1,by rw[getD_set_ne false (hne hxm)];exact h1.2⟩
      ·rintro⟨h1,h2⟩
       by_cases hix:i=x
       ·subst hix
        simp[hsz,h1] at h2
       ·rw[getD_set_ne false hix] at h2
        have:=hx.2 ⟨h1,h2⟩
        simp at this ⊢
        rcases this with h | h | h
        ·exact .inl h
        ·exact absurd h.symm hix
        ·exact .inr h
theorem upM (hA:OkM P ops fl m):∀ (l:List Nat) (a:Act) (w:World),(∀ x∈l,x<ops.size)->l.Pairwise (· < ·)->((∃ x∈l,x<m)->Same B w0 w)->
 wpC P ops (EndsN P ops B w0 fl Q) (Same B w0) m l a w->wpS P ops (EndsN P ops B w0 fl Q) (Same B w0) m l a w
 | [],_,_,_,_,_,h=>h
 | i :: l,a,w,hl,hs,hS,h => by
   have h0:=wpC_ops _ _ _ h
   have hs' :=List.pairwise_cons.1 hs
   obtain⟨o,hi⟩:∃ o,ops[i]? = some o:=⟨_,Array.getElem?_eq_getElem (hl i (by simp))⟩
   have h:wpOp P ops (EndsN P ops B w0 fl Q) i (fun a' w' => (i<m->wild P ops i=true->Same B w0 w')/\wpC P ops (EndsN P ops B w0 fl Q) (Same B w0) m l a' w') a w:=h
   show wpOp P ops (EndsN P ops B w0 fl Q) i (fun a' w' => (i<m->Same B w0 w')/\wpS P ops (EndsN P ops B w0 fl Q) (Same B w0) m l a' w') a w
   have rec_:∀ a' w',(i<m->Same B w0 w')->wpC P ops (EndsN P ops B w0 fl Q) (Same B w0) m l a' w' -> wpS P ops (EndsN P ops B w0 fl Q) (Same B w0) m l a' w' :=fun a' w' hS' hh=>
    upM hA l a' w' (fun x hx=>hl x (by simp[hx])) hs'.2 (fun⟨x,hx,hxm⟩=>hS' (by have:=hs'.1 x hx;omega)) hh
   by_cases him:i<m
   ·have hSw:=hS ⟨i,by simp,him⟩
    by_cases hwd:wild P ops i=true
    ·exact wpOp_mono (fun a' w' hh=>⟨fun hm=>hh.1 hm hwd,rec_ a' w' (fun hm=>hh.1 hm hwd) hh.2⟩) h
    ·have hn : Region.wanted o (yielded ops a.tmps) = true → News P (execOp a.eval o) :=by
      simp only[wild,hi,Bool.and_eq_true,bne_iff_ne,ne_eq,not_and,Classical.not_not] at hwd
      intro hw
      by_cases h0k:kind P o=0
      ·have h0g:wpOps P ops (Ends P ops (fun _ a w=>allIn B w0 ops a fl/\Q .normal a w)) (i::l) a w:=wpOps_post (fun e a w he=>ends_of_endsN he) _ _ _ h0
       exact(good_here hl h0g hi h0k (fun hn x hx o' ho' t ht=>hA.keep i o hi (.inl hn) x (by
        rcases List.mem_cons.1 hx with h | h
        ·omega
        ·have:=hs'.1 x h;omega) o' ho' t ht) hw).news
      ·by_cases h1k:kind P o=1
       ·exact(reads_of h1k).news
       ·exact news_of (hwd ⟨h0k,h1k⟩)
     obtain⟨v,w',hy,hc,hh⟩:=yl_of EndsN.noExit hi hn h
     have hSw' : Same B w0 w' :=hSw.more (hy.more hn)
     exact Yl.mk hi hy ⟨fun _=>hSw',rec_ _ _ (fun _=>hSw') hh⟩
   ·exact wpOp_mono (fun a' w' hh=>⟨fun hm=>absurd hm him,rec_ a' w' (fun hm=>absurd hm him) hh.2⟩) h
end
def noNew (P:Program) (ops:Array Oper) (m:Nat):Bool:=(List.range ops.size).all fun i=>decide (i<m) || (match ops[i]? with | some o=>kind P o != 2 | none=>true)
theorem wp_region_lexM {id:Nat} {l:List Oper} {a:Act} {w:World} (B:Nat->Prop) (fl:List Nat) (m:Nat) (cs:List Nat) (hm:P.follows .mixedOrders=true) (hA:(okAllM P l.toArray fl m&&noNew P l.toArray m)=true) (hC:cutOK P l.toArray m cs l.length 0=true)
 (h:wpCuts P l.toArray (EndsN P l.toArray B w.drew fl Q) (Same B w.drew) cs l a w.drew):(Code.region id l.toArray true).wp P Q a w:=by
 rw[Bool.and_eq_true] at hA
 obtain⟨hA,hN⟩:=hA
 have hA:=okAllM_spec hA
 refine Code.wp_mono (Q:=EndsN P l.toArray B w.drew fl Q) (fun e a' w' he=>by obtain⟨rfl,_,_,h⟩:=he;exact h) (wp_region_any hm ?_)
 have hlt:∀ x∈List.range l.toArray.size,x<l.toArray.size:=fun x hx=>List.mem_range.1 hx
 refine any_of_M hA (fun x _ i hi oi hoi hk=>?_) l.toArray.size (List.range l.toArray.size) _ a _ (by simp) (by simp) ?_ List.pairwise_lt_range (fun x=>by
  constructor
  ·intro hx
   have:=List.mem_range.1 hx
   exact⟨this,by simp only[Array.getD_eq_getD_getElem?];simp at this ⊢;simp[this]⟩
  ·exact fun hx=>List.mem_range.2 hx.1) (fun _=>Same.refl _ _) ?_
 ·have hil:i<l.toArray.size:=(Array.getElem?_eq_some_iff.1 hoi).1
  have:=(List.all_eq_true.1 hN) i (List.mem_range.2 hil)
  rw[hoi] at this
  simp[hk] at this
  omega
 ·intro j o ho hl
  rw[getD_replicate_false] at hl
  cases hl
 ·refine upM hA _ _ _ hlt List.pairwise_lt_range (fun _=>Same.refl _ _) ?_
  rw[List.range_eq_range',show l.toArray.size=l.length from by simp]
  exact cuts_spec cs l 0 a _ (by simp) hC h
end
end Lex
end
section
open Go Go.RowKit Go.Maps
namespace Own
theorem ballot_len (b i:Nat) (p:Proposal) (ag:Bool):(ballot54 b i p ag).sig.chains.length=67/\(ballot54 b i p ag).sig.path.length=1/\(ballot54 b i p ag).name.size=2:=by
 unfold ballot54 Sig.signOf
 dsimp only
 refine⟨by simp,rfl,rfl⟩
end Own
theorem field_props (W:World) (n:Int) (a:Option Addr) (k c:Nat):(Instr.field 24 (.agg #[.int .i64 n,.slice a k c]) 1).run Tryz.prog W=.ok (.slice a k c) W:=by kernel_rfl
theorem law_ballot (b i:Nat) (p:Own.Proposal) (ag:Bool) (v:Value) (w:World) (hb:b<256) (hi:i<2) (h0:0<=p.id) (h1:p.id<9223372036854775808) (h2:p.path.size<=1000000) (h3:p.digest.size<=1000000) (A:Own.Approval) (hA:A=Own.ballot54 b i p ag) {bi ii:Int} (hbi:bi=b) (hii:ii=i):
 Calls Tryz.prog 35 #[.int .u8 bi,.int .i64 ii,.agg #[.int .i64 p.id,.string p.path,.string p.digest,.int .i64 p.opened,.int .i64 p.expires,v],.bool ag] w (BallotPost w A):=by
 rw[hA,hbi,hii]
 exact law54ballot_any b i p ag v w hb hi h0 h1 h2 h3
theorem awake54_any (w:World) (hM:MaxL w):Calls Tryz.prog 10 #[] w fun e w' => e=.returned (.bool true)/\Below w.heap.size w w' :=by
 obtain⟨q0,q1,q2,q3,o0,o1,o2,o3,p,m,h⟩:=Own.awP
 have hsp:=fun W=>law54space_any 3 2 W (by omega)
 have hdg:=fun W=>law54digest_any 1 W (by omega)
 have hsb:=fun W (hW:Below w.heap.size w W)=>rvSubmit_any ⟨5,[]⟩ 10 3 ⟨#[97,47,98]⟩ (Lane.seedB 1) (.slice none 0 0) W (hM.below hW) (ListF.nil _ _) (by simp) (by simp)
 simp only[h.sub] at hsb
 have hln:q0.props.length=1:=by rw[h.q0p];rfl
 have hq00:q0.props=[p]:=h.q0p
 have hso:o0.spaces=[Own.space54 3 2]:=by rw[h.o0e]
 have hko:o0.keys=[]:=by rw[h.o0e]
 have hco:o0.count=0:=by rw[h.o0e]
 rw[<- hso] at hsp
 obtain⟨A0,hA0⟩:∃ A,A=Own.ballot54 0 0 p true:=⟨_,rfl⟩
 obtain⟨A1,hA1⟩:∃ A,A=Own.ballot54 1 0 p true:=⟨_,rfl⟩
 obtain⟨A2,hA2⟩:∃ A,A=Own.ballot54 2 0 p false:=⟨_,rfl⟩
 have hl0:=Own.ballot_len 0 0 p true;have hl1:=Own.ballot_len 1 0 p true;have hl2:=Own.ballot_len 2 0 p false
 have hv1:=h.v1;have hv2:=h.v2;have hv3:=h.v3
 rw[<- hA0] at hv1 hl0;rw[<- hA1] at hv2 hl1;rw[<- hA2] at hv3 hl2
 have HSP:=zh hsp;have HDG:=zh hdg;have HSB:=zh hsb;have HLN:=zh hln;have HQ00:=zh hq00;have HKO:=zh hko;have HCO:=zh hco;have HAW:=zh h;have HPF:=zh (And.intro h.id0 (And.intro h.id1 (And.intro h.pl h.dl)));have HMX:=zh hM
 have HA0:=zh hA0;have HA1:=zh hA1;have HA2:=zh hA2;have HL0:=zh hl0;have HL1:=zh hl1;have HL2:=zh hl2;have HV1:=zh hv1;have HV2:=zh hv2;have HV3:=zh hv3
 generalize Lane.seedB 1=DG at HDG HSB
 clear hsp hdg hsb hln hq00 hso hko hco h hM hA0 hA1 hA2 hl0 hl1 hl2 hv1 hv2 hv3
 go_enter Tryz.func10,Tryz.ntmps10
 go_wp2_with fail
 refine(HSP.out _).mono ?_
 rintro e w1 ⟨sv,rfl,hS,hb1⟩
 obtain⟨sa,sc,rfl⟩:=hS.len
 have hb2:=hb1.trans (((Below.refl w1.heap.size w1).alloc (Nat.le_refl _) (.cells #[.int .i64 0,.slice sa o0.spaces.length sc,.slice none 0 0] 38)).mono hb1.size)
 obtain⟨gO,hgO⟩:∃ g,g=w1.heap.size:=⟨_,rfl⟩
 have hO2:=At.new w1 38 #[.int .i64 0,.slice sa o0.spaces.length sc,.slice none 0 0]
 have hS2:=hS.below ((Below.refl w1.heap.size w1).alloc (Nat.le_refl _) (.cells #[.int .i64 0,.slice sa o0.spaces.length sc,.slice none 0 0] 38))
 have hgOw:w.heap.size<=gO:=by rw[hgO];exact hb1.size
 rw[<- hgO] at hO2
 have HB2:=zh hb2;have HO2:=zh hO2;have HS2:=zh hS2;have HGO:=zh hgO
 clear hb1 hb2 hO2 hS hS2 hgO
 go_upto_region 2 with fail
 rw[<- HGO.out]
 generalize w1.alloc (.cells #[.int .i64 0,.slice sa o0.spaces.length sc,.slice none 0 0] 38)=w2 at*
 clear HGO
 go_wp2_with fail
 refine(HDG.out _).mono ?_
 rintro e w3 ⟨rfl,hb3⟩
 have HB3:=zh (HB2.out.trans (hb3.mono HB2.out.size));have HO3:=zh (HO2.out.below hb3 HO2.out.lt);have HS3:=zh (HS2.out.below hb3)
 clear hb3 HB2 HO2 HS2
 go_wp2_with fail
 refine(HSB.out _ HB3.out).mono ?_
 rintro e w4 ⟨⟨qv,rfl,qv',rfl,hpo⟩,hb4⟩
 obtain⟨qa,qc,rfl⟩:=hpo.one
 have hp4:Own.PropsC w4 (.slice qa q0.props.length qc) q0.props:=hpo.props
 have hb45:Below w4.heap.size w4 (w4.alloc (.cells #[.int .i64 q0.next,.slice qa q0.props.length qc] 24)):=(Below.refl _ _).alloc (Nat.le_refl _) _
 have hb5:=hb4.trans (hb45.mono hb4.size)
 have hQ5:=At.new w4 24 #[.int .i64 q0.next,.slice qa q0.props.length qc]
 have hO5:=HO3.out.below hb5 HO3.out.lt
 have hls:LS (w4.alloc (.cells #[.int .i64 q0.next,.slice qa q0.props.length qc] 24)) gO w4.heap.size o0 q0 sa sc none 0 qa qc:=
  ⟨by rw[HCO.out,HKO.out];exact hO5,hQ5,HS3.out.below hb5,by rw[HKO.out];exact ListF.nil _ _,hp4.below hb45⟩
 obtain⟨gQ,hgQ⟩:∃ g,g=w4.heap.size:=⟨_,rfl⟩
 have hgQw:w.heap.size<=gQ:=by rw[hgQ];exact(HB3.out.trans (hb4.mono HB3.out.size)).size
 rw[<- hgQ] at hls
 have HB5:=zh (HB3.out.trans (hb5.mono HB3.out.size));have L5:=zh hls;have HGQ:=zh hgQ
 clear hp4 hb45 hb5 hQ5 hO5 hls hgQ hb4 hpo HB3 HO3 HS3
 go_upto_region 3 with fail
 rw[<- HGQ.out]
 generalize w4.alloc (.cells #[.int .i64 q0.next,.slice qa q0.props.length qc] 24)=w5 at*
 clear HGQ
 obtain⟨q0c,q1c⟩:=L5.out.atQ.c2
 have d1:((q0.props.length:Int) != 1)=false:=by rw[HLN.out];rfl
 have d0:0<q0.props.length:=by rw[HLN.out];omega
 have hvd:=rvValid_any q0 (.slice qa q0.props.length qc) w5 (HMX.out.below HB5.out) L5.out.ps (by rw[HLN.out];omega) (fun x hx=>by have:=HAW.out.f0.lv x hx;omega)
 rw[HAW.out.ok0] at hvd
 have HVD:=zh hvd;clear hvd
 go_wp2_with fail
 refine HVD.out.mono ?_
 rintro e w6 ⟨rfl,hb6⟩
 have L6:=zh (L5.out.below hb6);have HB6:=zh (HB5.out.trans (hb6.mono HB5.out.size))
 clear hb6 q0c q1c L5 HB5 HVD
 obtain⟨q0c,q1c⟩:=L6.out.atQ.c2
 obtain⟨b,o',vv,hqa,hbl,e0,e1,e2,e3,e4,e5,hvv⟩:=Own.PropsC.cells L6.out.ps d0
 obtain⟨va,vc,rfl⟩:=hvv.len
 generalize q0.props[0].votes.length=vl at*
 clear hvv
 subst hqa
 simp only[Nat.zero_mul,Nat.add_zero,HQ00.out,List.getElem_cons_zero] at e0 e1 e2 e3 e4 e5
 have hb7:Below w6.heap.size w6 (w6.alloc (.cells #[.int .i64 p.id,.string p.path,.string p.digest,.int .i64 p.opened,.int .i64 p.expires,.slice va vl vc] 46)):=(Below.refl _ _).alloc (Nat.le_refl _) _
 have hP7:=At.new w6 46 #[.int .i64 p.id,.string p.path,.string p.digest,.int .i64 p.opened,.int .i64 p.expires,.slice va vl vc]
 obtain⟨gP,hgP⟩:∃ g,g=w6.heap.size:=⟨_,rfl⟩
 rw[<- hgP] at hP7
 have L7:=zh (L6.out.below hb7);have HB7:=zh (HB6.out.trans (hb7.mono HB6.out.size));have HP7:=zh hP7;have HGP:=zh hgP
 clear hb7 hP7 hgP L6 HB6
 go_upto_region 6 with fail
 rw[<- HGP.out]
 generalize w6.alloc (.cells #[.int .i64 p.id,.string p.path,.string p.digest,.int .i64 p.opened,.int .i64 p.expires,.slice va vl vc] 46)=w7 at*
 clear HGP q0c q1c e0 e1 e2 e3 e4 e5
 have hid0:=HPF.out.1;have hid1:=HPF.out.2.1;have hpl0:=HPF.out.2.2.1;have hdl0:=HPF.out.2.2.2
 obtain⟨q0c,q1c⟩:=L7.out.atQ.c2;obtain⟨o0c,o1c,o2c⟩:=L7.out.atO.c3
 obtain⟨p0c,p1c,p2c,p3c,p4c,p5c⟩:=HP7.out.c6
 have HXQ:=zh (show(w7.cell? ⟨gQ,0,none⟩).isSome=true by rw[q0c];rfl)
 have HXO:=zh (show(w7.cell? ⟨gO,0,none⟩).isSome=true by rw[o0c];rfl)
 have HBAL:=zh (law_ballot 0 0 p true (.slice va vl vc) w7.drew (by omega) (by omega) hid0 hid1 hpl0 hdl0 A0 HA0.out (bi:=0) (ii:=0) rfl rfl)
 clear hid0 hid1 hpl0 hdl0
 go_wp2_with fail
 refine Lex.wp_region_lexM (fun k=>k=gQ\/k=gO) [0,1] 5 [5] (by kernel_rfl) (by kernel_rfl) (by kernel_rfl) ?_
 simp only[Lex.wpCuts,List.take_succ_cons,List.take_zero,List.drop_succ_cons,List.drop_zero]
 go_wp2_with fail
 refine HBAL.out.mono ?_
 rintro e wx1a ⟨cv,pv,rfl,hoc,hop,hb⟩
 have hbx:Below w7.heap.size w7 wx1a:=(Below.refl w7.heap.size w7).drew.trans hb
 have Lx1a:=zh (L7.out.below hbx);have HBx1a:=zh (HB7.out.trans (hbx.mono HB7.out.size));have HPx1a:=zh (HP7.out.below hbx HP7.out.lt);have HXx1:=zh hbx;have OC:=zh hoc;have OP:=zh hop
 clear hb hbx hoc hop q0c q1c o0c o1c o2c p0c p1c p2c p3c p4c p5c HBAL
 have HVT:=zh (Lx1a.out.vote (HMX.out.below HBx1a.out) HAW.out.f0 5 true A0 OC.out OP.out HL0.out.1.symm HL0.out.2.1.symm (by have h1:=HL0.out.1;have h2:=HL0.out.2.1;have h3:=HL0.out.2.2;omega) HV1.out)
 go_wp2_with fail
 refine Lex.Mid.intro (fun k _ hkl=>HXx1.out.block _ hkl) ?_
 obtain⟨cax1,cmx1,ccx1,rfl⟩:=own_slice OC.out
 obtain⟨pax1,pmx1,pcx1,rfl⟩:=own_slice OP.out
 go_wp2_with fail
 refine HVT.out.mono ?_
 rintro e wx1b ⟨sax1,scx1,kax1,kcx1,qax1,qcx1,rfl,hs,hk,hp,hb⟩
 dsimp only at hs hk hp ⊢
 have hbx:=HXx1.out.trans (hb.mono HXx1.out.size)
 have hlb:=Lx1a.out.below hb
 have hlp:=hlb.put hs hk hp
 have hbw:=HBx1a.out.trans (hb.mono HBx1a.out.size)
 have HPx1b:=zh (HPx1a.out.below hb HPx1a.out.lt);have HXx1b:=zh hbx;have Lx1b:=zh hlb;have Lx1p:=zh hlp;have HBx1b:=zh hbw
 clear hs hk hp hb hbx hlb hlp hbw HVT Lx1a HBx1a HPx1a OC OP
 obtain⟨q0c,q1c⟩:=Lx1b.out.atQ.c2;obtain⟨o0c,o1c,o2c⟩:=Lx1b.out.atO.c3
 have q0f:=Lx1b.out.atQ.free 0;have q1f:=Lx1b.out.atQ.free 1;have o0f:=Lx1b.out.atO.free 0;have o1f:=Lx1b.out.atO.free 1;have o2f:=Lx1b.out.atO.free 2
 have hne:=Lx1b.out.ne
 have hne' : gQ≠gO:=fun e=>hne e.symm
 go_wp2_with fail
 refine Lex.EndsN.intro (by kernel_rfl) ⟨⟨.inl rfl,HXQ.out⟩,⟨.inr rfl,HXO.out⟩,trivial⟩ ?_
 have HBc:=zh (HBx1b.out.trans (lsW_below wx1b gO gQ o1 q1 sax1 scx1 kax1 kcx1 qax1 qcx1 hgOw hgQw))
 have hpn1:gP≠gO:=HPx1b.out.ne Lx1b.out.atO (by decide)
 have hpn2:gP≠gQ:=HPx1b.out.ne Lx1b.out.atQ (by decide)
 have HPc:=zh (show At (lsW wx1b gO gQ o1 q1 sax1 scx1 kax1 kcx1 qax1 qcx1) gP 46 #[.int .i64 p.id,.string p.path,.string p.digest,.int .i64 p.opened,.int .i64 p.expires,.slice va vl vc] by
  unfold At
  rw[lsW_other _ _ _ _ _ _ _ _ _ _ _ gP hpn1 hpn2]
  exact HPx1b.out)
 clear q0c q1c o0c o1c o2c q0f q1f o0f o1f o2f hne hne' hpn1 hpn2 HXQ HXO HXx1 HXx1b Lx1b HBx1b HPx1b
 go_upto_region 7 with fail
 have hLW:((((wx1b.setCell ⟨gQ,0,none⟩ (.int .i64 (q1).next)).setCell ⟨gQ,1,none⟩ (.slice qax1 (q1).props.length qcx1)).setCell ⟨gO,0,none⟩ (.int .i64 (o1).count)).setCell ⟨gO,1,none⟩ (.slice sax1 (o1).spaces.length scx1)).setCell ⟨gO,2,none⟩ (.slice kax1 (o1).keys.length kcx1)=lsW wx1b gO gQ o1 q1 sax1 scx1 kax1 kcx1 qax1 qcx1:=rfl
 rw[hLW]
 clear hLW
 generalize lsW wx1b gO gQ o1 q1 sax1 scx1 kax1 kcx1 qax1 qcx1=wx1c at*
 have HBx1:=HBc;have HPx1:=HPc;have Lx1:=Lx1p
 clear HBc HPc Lx1p
 have hag:=rvAgreedX_any q1 o1 5 _ _ _ wx1c (HMX.out.below HBx1.out) Lx1.out.ps Lx1.out.sp Lx1.out.ks HAW.out.f1.lp HAW.out.f1.lv (by have:=HAW.out.f1.ls;omega) (by have:=HAW.out.f1.lk;omega) (fun x hx=>by have:=HAW.out.f1.lm x hx;omega)
 rw[HAW.out.a1] at hag
 have HAG:=zh hag
 clear hag
 obtain⟨q0c,q1c⟩:=Lx1.out.atQ.c2;obtain⟨o0c,o1c,o2c⟩:=Lx1.out.atO.c3
 go_wp2_with fail
 refine HAG.out.mono ?_
 rintro e wx1g ⟨rfl,hb⟩
 have Lx1g:=zh (Lx1.out.below hb);have HBx1g:=zh (HBx1.out.trans (hb.mono HBx1.out.size));have HPx1g:=zh (HPx1.out.below hb HPx1.out.lt)
 clear hb q0c q1c o0c o1c o2c HAG Lx1 HBx1 HPx1
 go_upto_region 9 with fail
 have hid0:=HPF.out.1;have hid1:=HPF.out.2.1;have hpl0:=HPF.out.2.2.1;have hdl0:=HPF.out.2.2.2
 obtain⟨q0c,q1c⟩:=Lx1g.out.atQ.c2;obtain⟨o0c,o1c,o2c⟩:=Lx1g.out.atO.c3
 obtain⟨p0c,p1c,p2c,p3c,p4c,p5c⟩:=HPx1g.out.c6
 have HXQ:=zh (show(wx1g.cell? ⟨gQ,0,none⟩).isSome=true by rw[q0c];rfl)
 have HXO:=zh (show(wx1g.cell? ⟨gO,0,none⟩).isSome=true by rw[o0c];rfl)
 have HBAL:=zh (law_ballot 1 0 p true (.slice va vl vc) wx1g.drew (by omega) (by omega) hid0 hid1 hpl0 hdl0 A1 HA1.out (bi:=1) (ii:=0) rfl rfl)
 clear hid0 hid1 hpl0 hdl0
 go_wp2_with fail
 refine Lex.wp_region_lexM (fun k=>k=gQ\/k=gO) [0,1] 5 [5] (by kernel_rfl) (by kernel_rfl) (by kernel_rfl) ?_
 simp only[Lex.wpCuts,List.take_succ_cons,List.take_zero,List.drop_succ_cons,List.drop_zero]
 go_wp2_with fail
 refine HBAL.out.mono ?_
 rintro e wx2a ⟨cv,pv,rfl,hoc,hop,hb⟩
 have hbx:Below wx1g.heap.size wx1g wx2a:=(Below.refl wx1g.heap.size wx1g).drew.trans hb
 have Lx2a:=zh (Lx1g.out.below hbx);have HBx2a:=zh (HBx1g.out.trans (hbx.mono HBx1g.out.size));have HPx2a:=zh (HPx1g.out.below hbx HPx1g.out.lt);have HXx2:=zh hbx;have OC:=zh hoc;have OP:=zh hop
 clear hb hbx hoc hop q0c q1c o0c o1c o2c p0c p1c p2c p3c p4c p5c HBAL
 have HVT:=zh (Lx2a.out.vote (HMX.out.below HBx2a.out) HAW.out.f1 5 true A1 OC.out OP.out HL1.out.1.symm HL1.out.2.1.symm (by have h1:=HL1.out.1;have h2:=HL1.out.2.1;have h3:=HL1.out.2.2;omega) HV2.out)
 go_wp2_with fail
 refine Lex.Mid.intro (fun k _ hkl=>HXx2.out.block _ hkl) ?_
 obtain⟨cax2,cmx2,ccx2,rfl⟩:=own_slice OC.out
 obtain⟨pax2,pmx2,pcx2,rfl⟩:=own_slice OP.out
 go_wp2_with fail
 refine HVT.out.mono ?_
 rintro e wx2b ⟨sax2,scx2,kax2,kcx2,qax2,qcx2,rfl,hs,hk,hp,hb⟩
 dsimp only at hs hk hp ⊢
 have hbx:=HXx2.out.trans (hb.mono HXx2.out.size)
 have hlb:=Lx2a.out.below hb
 have hlp:=hlb.put hs hk hp
 have hbw:=HBx2a.out.trans (hb.mono HBx2a.out.size)
 have HPx2b:=zh (HPx2a.out.below hb HPx2a.out.lt);have HXx2b:=zh hbx;have Lx2b:=zh hlb;have Lx2p:=zh hlp;have HBx2b:=zh hbw
 clear hs hk hp hb hbx hlb hlp hbw HVT Lx2a HBx2a HPx2a OC OP
 obtain⟨q0c,q1c⟩:=Lx2b.out.atQ.c2;obtain⟨o0c,o1c,o2c⟩:=Lx2b.out.atO.c3
 have q0f:=Lx2b.out.atQ.free 0;have q1f:=Lx2b.out.atQ.free 1;have o0f:=Lx2b.out.atO.free 0;have o1f:=Lx2b.out.atO.free 1;have o2f:=Lx2b.out.atO.free 2
 have hne:=Lx2b.out.ne
 have hne' : gQ≠gO:=fun e=>hne e.symm
 go_wp2_with fail
 refine Lex.EndsN.intro (by kernel_rfl) ⟨⟨.inl rfl,HXQ.out⟩,⟨.inr rfl,HXO.out⟩,trivial⟩ ?_
 have HBc:=zh (HBx2b.out.trans (lsW_below wx2b gO gQ o2 q2 sax2 scx2 kax2 kcx2 qax2 qcx2 hgOw hgQw))
 have hpn1:gP≠gO:=HPx2b.out.ne Lx2b.out.atO (by decide)
 have hpn2:gP≠gQ:=HPx2b.out.ne Lx2b.out.atQ (by decide)
 have HPc:=zh (show At (lsW wx2b gO gQ o2 q2 sax2 scx2 kax2 kcx2 qax2 qcx2) gP 46 #[.int .i64 p.id,.string p.path,.string p.digest,.int .i64 p.opened,.int .i64 p.expires,.slice va vl vc] by
  unfold At
  rw[lsW_other _ _ _ _ _ _ _ _ _ _ _ gP hpn1 hpn2]
  exact HPx2b.out)
 clear q0c q1c o0c o1c o2c q0f q1f o0f o1f o2f hne hne' hpn1 hpn2 HXQ HXO HXx2 HXx2b Lx2b HBx2b HPx2b
 go_upto_region 10 with fail
 have hLW:((((wx2b.setCell ⟨gQ,0,none⟩ (.int .i64 (q2).next)).setCell ⟨gQ,1,none⟩ (.slice qax2 (q2).props.length qcx2)).setCell ⟨gO,0,none⟩ (.int .i64 (o2).count)).setCell ⟨gO,1,none⟩ (.slice sax2 (o2).spaces.length scx2)).setCell ⟨gO,2,none⟩ (.slice kax2 (o2).keys.length kcx2)=lsW wx2b gO gQ o2 q2 sax2 scx2 kax2 kcx2 qax2 qcx2:=rfl
 rw[hLW]
 clear hLW
 generalize lsW wx2b gO gQ o2 q2 sax2 scx2 kax2 kcx2 qax2 qcx2=wx2c at*
 have HBx2:=HBc;have HPx2:=HPc;have Lx2:=Lx2p
 clear HBc HPc Lx2p
 have hag:=rvAgreedX_any q2 o2 5 _ _ _ wx2c (HMX.out.below HBx2.out) Lx2.out.ps Lx2.out.sp Lx2.out.ks HAW.out.f2.lp HAW.out.f2.lv (by have:=HAW.out.f2.ls;omega) (by have:=HAW.out.f2.lk;omega) (fun x hx=>by have:=HAW.out.f2.lm x hx;omega)
 rw[HAW.out.a2] at hag
 have HAG:=zh hag
 clear hag
 obtain⟨q0c,q1c⟩:=Lx2.out.atQ.c2;obtain⟨o0c,o1c,o2c⟩:=Lx2.out.atO.c3
 go_wp2_with fail
 refine HAG.out.mono ?_
 rintro e wx2g ⟨rfl,hb⟩
 have Lx2g:=zh (Lx2.out.below hb);have HBx2g:=zh (HBx2.out.trans (hb.mono HBx2.out.size));have HPx2g:=zh (HPx2.out.below hb HPx2.out.lt)
 clear hb q0c q1c o0c o1c o2c HAG Lx2 HBx2 HPx2
 go_upto_region 12 with fail
 have hid0:=HPF.out.1;have hid1:=HPF.out.2.1;have hpl0:=HPF.out.2.2.1;have hdl0:=HPF.out.2.2.2
 obtain⟨q0c,q1c⟩:=Lx2g.out.atQ.c2;obtain⟨o0c,o1c,o2c⟩:=Lx2g.out.atO.c3
 obtain⟨p0c,p1c,p2c,p3c,p4c,p5c⟩:=HPx2g.out.c6
 have HXQ:=zh (show(wx2g.cell? ⟨gQ,0,none⟩).isSome=true by rw[q0c];rfl)
 have HXO:=zh (show(wx2g.cell? ⟨gO,0,none⟩).isSome=true by rw[o0c];rfl)
 have HBAL:=zh (fun W' => law_ballot 2 0 p false (.slice va vl vc) W' (by omega) (by omega) hid0 hid1 hpl0 hdl0 A2 HA2.out (bi:=2) (ii:=0) rfl rfl)
 clear hid0 hid1 hpl0 hdl0
 go_wp2_with fail
 refine Lex.wp_region_hav (fun k=>k=gQ\/k=gO) [0,1] [10,11] 14 [.pure 4,.call,.call,.pure 4,.new,.new] [1,1] (by kernel_rfl) (by kernel_rfl) (by kernel_rfl) ?_
 simp only[Lex.wpHav,Lex.wpCuts,List.take_succ_cons,List.take_zero,List.drop_succ_cons,List.drop_zero]
 have BD:=zh (show Below wx2g.heap.size wx2g wx2g.drew from(Below.refl _ _).drew)
 have ZD:=zh (show wx2g.drew.heap.size=wx2g.heap.size by rw[drew_heap])
 go_wp2_with fail
 refine Lex.PEnd.intro ?_
 intro wx3a hg
 have BEx3a:=zh (BD.out.trans (hg.mono BD.out.size));have BXx3a:=zh hg
 clear hg q0c q1c o0c o1c o2c p0c p1c p2c p3c p4c p5c
 go_wp2_with fail
 refine(HBAL.out _).mono ?_
 rintro e wx3b ⟨cv,pv,rfl,hoc,hop,hb⟩
 obtain⟨cax3,cmx3,ccx3,rfl⟩:=own_slice hoc
 obtain⟨pax3,pmx3,pcx3,rfl⟩:=own_slice hop
 have BEx3b:=zh (BEx3a.out.trans (hb.mono BEx3a.out.size));have BXx3b:=zh (BXx3a.out.trans (hb.mono BXx3a.out.size));have BB:=zh hb;have OC:=zh hoc;have OP:=zh hop
 clear hb hoc hop
 go_wp2_with fail
 refine Lex.CEnd.intro (fun k _ hkl=>BXx3b.out.block _ hkl) (Lex.Kept.of_below BB.out) ?_
 intro wx3c hg
 have hbc:=BEx3b.out.trans (hg.mono BEx3b.out.size)
 have hlc:=Lx2g.out.below hbc
 have HVT:=zh (hlc.vote (HMX.out.below (HBx2g.out.trans (hbc.mono HBx2g.out.size))) HAW.out.f2 5 false A2 (own_below OC.out hg) (own_below OP.out hg) HL2.out.1.symm HL2.out.2.1.symm (by have h1:=HL2.out.1;have h2:=HL2.out.2.1;have h3:=HL2.out.2.2;omega) HV3.out)
 have BEx3c:=zh hbc;have BXx3c:=zh (BXx3b.out.trans (hg.mono BXx3b.out.size))
 clear hbc hlc hg BB OC OP HBAL BEx3a BXx3a
 go_wp2_with fail
 refine HVT.out.mono ?_
 rintro e wx3d ⟨sax3,scx3,kax3,kcx3,qax3,qcx3,rfl,hs,hk,hp,hb⟩
 dsimp only at hs hk hp ⊢
 have BEx3d:=zh (BEx3c.out.trans (hb.mono BEx3c.out.size));have BXx3d:=zh (BXx3c.out.trans (hb.mono BXx3c.out.size));have BB:=zh hb
 have HS:=zh hs;have HK:=zh hk;have HPP:=zh hp
 clear hs hk hp hb HVT BEx3b BXx3b
 go_wp2_with fail
 refine Lex.CEnd.intro (fun k _ hkl=>BXx3d.out.block _ hkl) (Lex.Kept.of_below BB.out) ?_
 go_wp2_with fail
 refine Lex.PEnd.intro ?_
 intro wx3e hwe
 go_wp2_with fail
 refine Lex.NEnd.intro (fun wx3f hg hkk _=>?_)
 have hs:=hkk.at_
 obtain⟨gQx3,hgq⟩:∃ g,g=wx3e.heap.size:=⟨_,rfl⟩
 have hgQx3:wx2g.heap.size<=gQx3:=by rw[hgq,<- ZD.out];exact hwe
 rw[<- hgq] at hs
 have BEx3f:=zh (BEx3d.out.trans (hg.mono BEx3d.out.size));have BXx3f:=zh (BXx3d.out.trans (hg.mono BXx3d.out.size));have GQx3f:=zh hs;have HS1:=zh (HS.out.below hg);have HK1:=zh (HK.out.below hg);have HPP1:=zh (HPP.out.below hg)
 rw[<- hgq]
 clear hg hkk hs hgq hwe HS HK HPP BB BEx3c BXx3c
 intro wx3h hwh
 go_wp2_with fail
 refine Lex.NEnd.intro (fun wx3i hg hkk _=>?_)
 have hs:=hkk.at_
 obtain⟨gOx3,hgo⟩:∃ g,g=wx3h.heap.size:=⟨_,rfl⟩
 have hgOx3:wx2g.heap.size<=gOx3:=by rw[hgo,<- ZD.out];exact hwh
 rw[<- hgo] at hs
 have hlz:LS wx3i gOx3 gQx3 Own.Owners.none Own.Queue.none none 0 none 0 none 0:=⟨hs,GQx3f.out.below hg GQx3f.out.lt,ListF.nil _ _,ListF.nil _ _,ListF.nil _ _⟩
 have Lx3z:=zh hlz
 have hlp:=hlz.put (HS1.out.below hg) (HK1.out.below hg) (HPP1.out.below hg)
 have hbe:=BEx3f.out.trans (hg.mono BEx3f.out.size)
 have hbw:=hbe.trans (lsW_below wx3i gOx3 gQx3 o3 q3 sax3 scx3 kax3 kcx3 qax3 qcx3 hgOx3 hgQx3)
 have BXx3i:=zh (BXx3f.out.trans (hg.mono BXx3f.out.size));have Lx3n:=zh hlp;have Lx3o:=zh (Lx2g.out.below hbw);have HPx3n:=zh (HPx2g.out.below hbw HPx2g.out.lt);have HBx3n:=zh (HBx2g.out.trans (hbw.mono HBx2g.out.size))
 rw[<- hgo]
 clear hg hkk hs hgo hwh hlz hlp hbe hbw HS1 HK1 HPP1 GQx3f BEx3f BXx3f BEx3d BXx3d
 have q0c:=Lx3z.out.atQ.cell 0;have q1c:=Lx3z.out.atQ.cell 1;have o0c:=Lx3z.out.atO.cell 0;have o1c:=Lx3z.out.atO.cell 1;have o2c:=Lx3z.out.atO.cell 2
 simp only[List.getElem?_toArray,List.getElem?_cons_zero,List.getElem?_cons_succ,Own.Owners.none,Own.Queue.none,List.length_nil] at q0c q1c o0c o1c o2c
 have q0f:=Lx3z.out.atQ.free 0;have q1f:=Lx3z.out.atQ.free 1;have o0f:=Lx3z.out.atO.free 0;have o1f:=Lx3z.out.atO.free 1;have o2f:=Lx3z.out.atO.free 2
 have hne:=Lx3z.out.ne
 have hne' : gQx3≠gOx3:=fun e=>hne e.symm
 have hlQ:=Lx2g.out.atQ.lt;have hlO:=Lx2g.out.atO.lt
 go_wp2_with fail
 refine Lex.Mid.intro (fun k hk hkl=>by
  have h3:k≠gQx3:=by rcases hk with hk | hk <;> omega
  rw[heap_setCell_other _ _ _ _ h3,heap_setCell_other _ _ _ _ h3]
  exact BXx3i.out.block _ hkl) ?_
 go_wp2_with fail
 refine Lex.Mid.intro (fun k hk hkl=>by
  have h3:k≠gQx3:=by rcases hk with hk | hk <;> omega
  have h4:k≠gOx3:=by rcases hk with hk | hk <;> omega
  rw[heap_setCell_other _ _ _ _ h4,heap_setCell_other _ _ _ _ h4,heap_setCell_other _ _ _ _ h4,heap_setCell_other _ _ _ _ h3,heap_setCell_other _ _ _ _ h3]
  exact BXx3i.out.block _ hkl) ?_
 go_wp2_with fail
 refine Lex.EndsN.intro (by kernel_rfl) ⟨⟨.inl rfl,HXQ.out⟩,⟨.inr rfl,HXO.out⟩,trivial⟩ ?_
 clear q0c q1c o0c o1c o2c q0f q1f o0f o1f o2f hne hne' hlQ hlO HXQ HXO Lx3z BXx3i BD ZD
 go_upto_region 13 with fail
 have hLW:((((wx3i.setCell ⟨gQx3,0,none⟩ (.int .i64 q3.next)).setCell ⟨gQx3,1,none⟩ (.slice qax3 q3.props.length qcx3)).setCell ⟨gOx3,0,none⟩ (.int .i64 o3.count)).setCell ⟨gOx3,1,none⟩ (.slice sax3 o3.spaces.length scx3)).setCell ⟨gOx3,2,none⟩ (.slice kax3 o3.keys.length kcx3)=lsW wx3i gOx3 gQx3 o3 q3 sax3 scx3 kax3 kcx3 qax3 qcx3:=rfl
 rw[hLW]
 clear hLW
 generalize lsW wx3i gOx3 gQx3 o3 q3 sax3 scx3 kax3 kcx3 qax3 qcx3=wx4 at*
 have hag:=rvAgreedX_any q3 o3 5 _ _ _ wx4 (HMX.out.below HBx3n.out) Lx3n.out.ps Lx3n.out.sp Lx3n.out.ks HAW.out.f3.lp HAW.out.f3.lv (by have:=HAW.out.f3.ls;omega) (by have:=HAW.out.f3.lk;omega) (fun x hx=>by have:=HAW.out.f3.lm x hx;omega)
 rw[HAW.out.a3] at hag
 have HAG:=zh hag
 clear hag
 obtain⟨q0c,q1c⟩:=Lx3n.out.atQ.c2;obtain⟨o0c,o1c,o2c⟩:=Lx3n.out.atO.c3
 go_wp2_with fail
 refine HAG.out.mono ?_
 rintro e w8 ⟨rfl,hb⟩
 have L8:=zh (Lx3o.out.below hb);have HB8:=zh (HBx3n.out.trans (hb.mono HBx3n.out.size))
 clear hb q0c q1c o0c o1c o2c HAG Lx3n Lx3o HBx3n HPx3n
 go_upto_region 15 with fail
 have hm13:=rvMerge_any q2 o2 13 5 _ _ _ w8 (HMX.out.below HB8.out) L8.out.ps L8.out.sp L8.out.ks HAW.out.f2.lp HAW.out.f2.lv (by have:=HAW.out.f2.ls;omega) (by have:=HAW.out.f2.lk;omega) (fun x hx=>by have:=HAW.out.f2.lm x hx;omega)
 rw[HAW.out.m13] at hm13
 have HM13:=zh hm13
 clear hm13
 obtain⟨q0c,q1c⟩:=L8.out.atQ.c2;obtain⟨o0c,o1c,o2c⟩:=L8.out.atO.c3
 go_wp2_with fail
 refine HM13.out.mono ?_
 rintro e w9 ⟨⟨qv9,pv9,rfl,_,_⟩,hb⟩
 have L9:=zh (L8.out.below hb);have HB9:=zh (HB8.out.trans (hb.mono HB8.out.size))
 clear hb q0c q1c o0c o1c o2c HM13 L8 HB8
 go_upto_region 16 with fail
 have hm12:=rvMerge_any q2 o2 12 5 _ _ _ w9 (HMX.out.below HB9.out) L9.out.ps L9.out.sp L9.out.ks HAW.out.f2.lp HAW.out.f2.lv (by have:=HAW.out.f2.ls;omega) (by have:=HAW.out.f2.lk;omega) (fun x hx=>by have:=HAW.out.f2.lm x hx;omega)
 rw[HAW.out.m12] at hm12
 have HM12:=zh hm12
 clear hm12
 obtain⟨q0c,q1c⟩:=L9.out.atQ.c2;obtain⟨o0c,o1c,o2c⟩:=L9.out.atO.c3
 go_wp2_with fail
 refine HM12.out.mono ?_
 rintro e w10 ⟨⟨qv10,pv10,rfl,⟨qw10,rfl,hq10⟩,hv10⟩,hb⟩
 obtain⟨qa10,qc10,rfl⟩:=hq10.len
 obtain⟨pa10,pc10,rfl⟩:=hv10.len
 have L10:=zh (L9.out.below hb);have HB10:=zh (HB9.out.trans (hb.mono HB9.out.size));have HMI:=zh HAW.out.mid
 dsimp only[List.length_nil]
 clear hb q0c q1c o0c o1c o2c HM12 L9 HB9 hq10 hv10
 obtain⟨mid,mpa,mdi,mop,mex,mvs⟩:=m
 dsimp only at HMI ⊢
 obtain rfl:mid=5:=HMI.out
 clear HMI
 go_upto_region 17 with fail
 have B11:=zh (show Boxes w10 ((w10.alloc (.cells #[.int .i64 6,.slice qa10 0 qc10] 24)).alloc (.cells #[.int .i64 5,.string mpa,.string mdi,.int .i64 mop,.int .i64 mex,.slice pa10 mvs.length pc10] 46)) [(24,#[.int .i64 6,.slice qa10 0 qc10]),(46,#[.int .i64 5,.string mpa,.string mdi,.int .i64 mop,.int .i64 mex,.slice pa10 mvs.length pc10])] from(((Fresh.nil w10).push 24 #[.int .i64 6,.slice qa10 0 qc10]).push 46 #[.int .i64 5,.string mpa,.string mdi,.int .i64 mop,.int .i64 mex,.slice pa10 mvs.length pc10]).boxes)
 have L11:=zh (L10.out.below B11.out.under);have HB11:=zh (HB10.out.trans (B11.out.under.mono HB10.out.size))
 clear L10 HB10
 generalize ((w10.alloc (.cells #[.int .i64 6,.slice qa10 0 qc10] 24)).alloc (.cells #[.int .i64 5,.string mpa,.string mdi,.int .i64 mop,.int .i64 mex,.slice pa10 mvs.length pc10] 46))=w11 at*
 have hwd:=rvWithdraw_any q2 5 _ w11 (HMX.out.below HB11.out) L11.out.ps HAW.out.f2.lp HAW.out.f2.lv
 rw[HAW.out.wd] at hwd
 have HWD:=zh hwd
 clear hwd
 obtain⟨q0c,q1c⟩:=L11.out.atQ.c2
 go_wp2_with fail
 refine HWD.out.mono ?_
 rintro e w12 ⟨⟨qv12,rfl,qw12,rfl,hpo⟩,hb⟩
 obtain⟨qa12,qc12,rfl⟩:=hpo.one
 dsimp only[List.length_nil]
 have B12:=zh (B11.out.step hb);have L12:=zh (L11.out.below hb);have HB12:=zh (HB11.out.trans (hb.mono HB11.out.size))
 have h1012:=B12.out.size
 clear hb q0c q1c HWD hpo L11 HB11 B11
 have C13:=zh (show Boxes w12 (w12.alloc (.cells #[.int .i64 6,.slice qa12 0 qc12] 24)) [(24,#[.int .i64 6,.slice qa12 0 qc12])] from((Fresh.nil w12).push 24 #[.int .i64 6,.slice qa12 0 qc12]).boxes)
 have B13:=zh (B12.out.step C13.out.under);have L13:=zh (L12.out.below C13.out.under);have HB13:=zh (HB12.out.trans (C13.out.under.mono HB12.out.size))
 clear L12 HB12 B12
 go_upto_region 18 with fail
 generalize (w12.alloc (.cells #[.int .i64 6,.slice qa12 0 qc12] 24))=w13 at*
 have hex:=rvExpire_any q2 13 _ w13 (HMX.out.below HB13.out) L13.out.ps HAW.out.f2.lp HAW.out.f2.lv
 rw[HAW.out.ex] at hex
 have HEX:=zh hex
 clear hex
 obtain⟨q0c,q1c⟩:=L13.out.atQ.c2
 obtain⟨x00,x01⟩:=B13.out.d0_2 rfl
 have x10:w13.cell? ⟨w10.heap.size+1,0,none⟩=some (.int .i64 5):=B13.out.cell 1 0 rfl rfl
 obtain⟨y00,y01⟩:=C13.out.d0_2 rfl
 go_wp2_with fail
 refine HEX.out.mono ?_
 rintro e w14 ⟨⟨qv14,rfl,qw14,rfl,hpo⟩,hb⟩
 obtain⟨qa14,qc14,rfl⟩:=hpo.one
 dsimp only[List.length_nil]
 have HB14:=zh (HB13.out.trans (hb.mono HB13.out.size))
 clear hb hpo
 go_wp2_with fail
 rw[field_props]
 go_wp2_with fail
 go_ret
 exact⟨rfl,HB14.out⟩
end
section
open Go
namespace Own
def updN (u:Nat->Nat) (b:Nat):Nat->Nat:=fun j=>if j=b then u j+1 else u j
def updB (l:Nat->Bool) (b:Nat) (x:Bool):Nat->Bool:=fun j=>if j=b then x else l j
def whoV (u:Nat->Nat):List Nat:=(List.range 3).filter fun b=>decide (0<u b)
def mkV (u:Nat->Nat) (l:Nat->Bool):List Vote:=(whoV u).map fun b=>vt b (l b)
theorem put_mkV (u:Nat->Nat) (l:Nat->Bool) {b:Nat} (hb:b<3) (x:Bool):putVote (mkV u l) (vt b x)=mkV (updN u b) (updB l b x):=by
 have e3:List.range 3=[0,1,2]:=rfl
 have l01:∀ x y,lessB (vt 0 x).name (vt 1 y).name=true:=fun x y=>name_lt (by omega) (by omega)
 have l02:∀ x y,lessB (vt 0 x).name (vt 2 y).name=true:=fun x y=>name_lt (by omega) (by omega)
 have l12:∀ x y,lessB (vt 1 x).name (vt 2 y).name=true:=fun x y=>name_lt (by omega) (by omega)
 have l10:∀ x y,lessB (vt 1 x).name (vt 0 y).name=false:=fun x y=>lessB_asymm (l01 y x)
 have l20:∀ x y,lessB (vt 2 x).name (vt 0 y).name=false:=fun x y=>lessB_asymm (l02 y x)
 have l21:∀ x y,lessB (vt 2 x).name (vt 1 y).name=false:=fun x y=>lessB_asymm (l12 y x)
 have ii:∀ b x y,lessB (vt b x).name (vt b y).name=false:=fun b x y=>lessB_irrefl _
 have eq:∀ b x y,(vt b x).name=(vt b y).name:=fun b x y=>rfl
 have n10:∀ x y,¬ (vt 1 x).name=(vt 0 y).name:=fun x y=>name_ne (by omega) (by omega) (by omega)
 have n20:∀ x y,¬ (vt 2 x).name=(vt 0 y).name:=fun x y=>name_ne (by omega) (by omega) (by omega)
 have n21:∀ x y,¬ (vt 2 x).name=(vt 1 y).name:=fun x y=>name_ne (by omega) (by omega) (by omega)
 unfold mkV whoV
 rw[e3]
 have hb' : b=0\/b=1\/b=2:=by omega
 rcases hb' with rfl | rfl | rfl
 ·by_cases h0:0<u 0 <;> by_cases h1:0<u 1 <;> by_cases h2:0<u 2 <;> (try simp[updN,updB,h0,h1,h2,putVote,l01,l02,l12,l10,l20,l21,ii,n10,n20,n21]) <;> (try exact eq _ _ _)
 ·by_cases h0:0<u 0 <;> by_cases h1:0<u 1 <;> by_cases h2:0<u 2 <;> (try simp[updN,updB,h0,h1,h2,putVote,l01,l02,l12,l10,l20,l21,ii,n10,n20,n21]) <;> (try exact eq _ _ _)
 ·by_cases h0:0<u 0 <;> by_cases h1:0<u 1 <;> by_cases h2:0<u 2 <;> (try simp[updN,updB,h0,h1,h2,putVote,l01,l02,l12,l10,l20,l21,ii,n10,n20,n21]) <;> (try exact eq _ _ _)
structure DInv (n k:Nat) (u:Nat->Nat) (l:Nat->Bool) (V:List Vote) (K:List KeyUse):Prop where
 v:VInv V
 vl:V.length<=k
 m:ByMem n V
 ki:KInv K
 kl:K.length<=k
 nx:∀ b,b<3->nextOf K (mem54 b).pub=(u b:Int)
 un:∀ b,n<=b->u b=0
 ub:∀ b,u b<=2
 eq:V=mkV u l
theorem DInv.nil (n:Nat) (l:Nat->Bool):DInv n 0 (fun _=>0) l [] []:=⟨VInv.nil,Nat.le_refl _,ByMem.nil n,KInv.nil,Nat.le_refl _,fun _ _=>rfl,fun _ _=>rfl,fun _=>by decide,by simp[mkV,whoV]⟩
theorem DInv.more {n k:Nat} {u:Nat->Nat} {l:Nat->Bool} {V:List Vote} {K:List KeyUse} (h:DInv n k u l V K):DInv n (k+1) u l V K:=⟨h.v,Nat.le_succ_of_le h.vl,h.m,h.ki,Nat.le_succ_of_le h.kl,h.nx,h.un,h.ub,h.eq⟩
theorem DInv.step {n k:Nat} {u:Nat->Nat} {l:Nat->Bool} {V:List Vote} {K:List KeyUse} (h:DInv n k u l V K) (hn:n<=3) (hk:k<900) {b:Nat} (hb:b<n) (hu:u b<=1) (x:Bool):
 DInv n (k+1) (updN u b) (updB l b x) (putVote V (vt b x)) (use K ⟨(mem54 b).pub,(u b:Int)+1⟩):=by
 have hvl:=h.vl;have hkl:=h.kl
 have h1:=putB_len Vote.name (vt b x) V
 have h2:=use_len1 K ⟨(mem54 b).pub,(u b:Int)+1⟩
 refine⟨h.v.put (by omega) _ (name_ok b),by rw[putVote_put];omega,h.m.put hb x,h.ki.use b _ (by omega) (by omega),by omega,fun c hc=>?_,fun c hc=>?_,fun c=>?_,by rw[h.eq];exact put_mkV u l (by omega) x⟩
 ·rw[nextOf_use h.ki.srt]
  unfold updN
  by_cases e:c=b
  ·subst e
   rw[if_pos rfl,if_pos rfl]
   push_cast
   rfl
  ·rw[if_neg (pub_ne (by omega) (by omega) (Ne.symm e)),if_neg e,h.nx c hc]
 ·unfold updN
  rw[if_neg (by omega)]
  exact h.un c hc
 ·unfold updN
  have:=h.ub c
  by_cases e:c=b
  ·subst e;rw[if_pos rfl];omega
  ·rw[if_neg e];exact this
theorem DInv.vote {n k:Nat} {u:Nat->Nat} {l:Nat->Bool} {V:List Vote} {K:List KeyUse} (h:DInv n k u l V K) {th nx:Int} {p:Proposal} (hn:n<=3) (h3:1<=th) (h4:th<=n) (hk:k<900) (hp:PropOK p) (hnx:p.id<nx) (hnx2:nx<=1099511627776) {b:Nat} (hb:b<n) (hu:u b<=1) (x:Bool):
 Own.vote ⟨nx,[withVs p V]⟩ (own54 (space54 n th) K) p.id x (ballot54 b (u b) p x)=(⟨nx,[withVs p (putVote V (vt b x))]⟩,own54 (space54 n th) (use K ⟨(mem54 b).pub,(u b:Int)+1⟩),0):=by
 have hvl:=h.vl
 exact vote54 hn h3 h4 h.ki hp h.v (by omega) hnx hnx2 hb (by omega) (by rw[h.nx b (by omega)];exact Int.le_refl _)
theorem DInv.agreed {n k:Nat} {u:Nat->Nat} {l:Nat->Bool} {V:List Vote} {K:List KeyUse} (h:DInv n k u l V K) {th nx:Int} {p:Proposal} (hn:n<=3) (h3:1<=th) (h4:th<=n) (hp:PropOK p) (hnx:p.id<nx) (hnx2:nx<=1099511627776):
 Own.agreed ⟨nx,[withVs p V]⟩ (own54 (space54 n th) K) p.id=(V.all (·.agrees)&&decide (th<=(V.length:Int))):=agreed54 hn h3 h4 h.ki hp h.v h.m hnx hnx2
theorem DInv.merge {n k:Nat} {u:Nat->Nat} {l:Nat->Bool} {V:List Vote} {K:List KeyUse} (h:DInv n k u l V K) {th nx:Int} {p:Proposal} (hn:n<=3) (h3:1<=th) (h4:th<=n) (hp:PropOK p) (hnx:p.id<nx) (hnx2:nx<=1099511627776) (he:0<p.expires):
 Own.merge ⟨nx,[withVs p V]⟩ (own54 (space54 n th) K) 0 p.id=if (V.all (·.agrees)&&decide (th<=(V.length:Int)))=false then (.none,.none,20) else (⟨nx,[]⟩,withVs p V,0):=by
 rw[mergeOK54 hn h3 h4 h.ki hp h.v h.m hnx hnx2,if_neg (by omega)]
theorem DInv.fits {n k:Nat} {u:Nat->Nat} {l:Nat->Bool} {V:List Vote} {K:List KeyUse} (h:DInv n k u l V K) (hn:n<=3) (hk:k<900) (th nx:Int) (p:Proposal):Fits (own54 (space54 n th) K) ⟨nx,[withVs p V]⟩:=by
 have hvl:=h.vl;have hkl:=h.kl
 exact fits54 (by omega) (by omega) (by simp) (fun x hx=>by rw[List.mem_singleton.1 hx];show V.length<=1000;omega)
/-! ### counting -/
theorem parts {α : Type} (l : α -> Bool):∀ D:List α,(D.filter l).length+(D.filter fun b => !l b).length=D.length
 | []=>rfl
 | x :: D => by
   have ih:=parts l D
   cases h:l x <;> simp[List.filter_cons,h] <;> omega
theorem all_none {α : Type} (l : α -> Bool):∀ D:List α,D.all l=decide ((D.filter fun b => !l b).length=0)
 | []=>rfl
 | x :: D => by
   have ih:=all_none l D
   cases h:l x
   ·simp[List.filter_cons,h]
   ·simp only[List.all_cons,h,Bool.true_and,ih,List.filter_cons];simp
theorem count_done {u:Nat->Nat} {l:Nat->Bool} {done:List Int} (hnd:done.Nodup) (hm:∀ k:Int,k∈done↔∃ b:Nat,b<3/\k=(b:Int)/\0<u b) (th:Int):
 ((mkV u l).all (·.agrees)&&decide (th<=((mkV u l).length:Int)))=(decide ((done.filter fun k => !l k.toNat).length=0)&&decide (th<=((done.filter fun k=>l k.toNat).length:Int))):=by
 have hp:done.Perm ((whoV u).map fun b:Nat=>(b:Int)):=by
  refine(List.perm_ext_iff_of_nodup hnd ?_).2 fun k=>?_
  ·refine List.Pairwise.map _ (R:=fun a b:Nat=>a≠b) (fun a b h=>by omega) ?_
   exact List.Pairwise.filter _ (by decide:(List.range 3).Nodup)
  ·rw[hm k]
   unfold whoV
   simp only[List.mem_map,List.mem_filter,List.mem_range,decide_eq_true_eq]
   constructor
   ·rintro⟨b,h1,rfl,h2⟩;exact⟨b,⟨h1,h2⟩,rfl⟩
   ·rintro⟨b,⟨h1,h2⟩,rfl⟩;exact⟨b,h1,rfl,h2⟩
 have e1:(done.filter fun k => !l k.toNat).length=((whoV u).filter fun b => !l b).length:=by
  rw[(hp.filter _).length_eq,List.filter_map,List.length_map]
  rfl
 have e2:(done.filter fun k=>l k.toNat).length=((whoV u).filter fun b=>l b).length:=by
  rw[(hp.filter _).length_eq,List.filter_map,List.length_map]
  rfl
 have h1:=parts l (whoV u)
 have h2:=all_none l (whoV u)
 rw[e1,e2]
 unfold mkV
 rw[List.all_map,List.length_map]
 have e3:((fun v:Vote=>v.agrees) ∘ fun b=>vt b (l b))=l:=rfl
 rw[e3,h2]
 by_cases h0:((whoV u).filter fun b => !l b).length=0
 ·rw[decide_eq_true h0]
  rw[h0] at h1
  rw[<- h1]
  simp
 ·rw[decide_eq_false h0]
  simp
end Own
end
section
open Go Go.RowKit Go.Maps
def keyU (k:Int):Lit:=.int .u8 k
def OkU (k:Int):Prop:=(Lit.int .u8 k).wf=true
theorem keyU_key (k:Int):WideAt.IsKeyLit (keyU k):=by unfold keyU WideAt.IsKeyLit;trivial
theorem keyU_ne {k j:Int} (h:k≠j):keyU k≠keyU j:=by
 intro e
 apply h
 unfold keyU at e
 cases e
 rfl
theorem ukeyed:Keyed Tryz.prog 5:=int_keyed Tryz.underlying5
theorem keyOf_u8 {k:Int} (h:OkU k):keyOf Tryz.prog 5 (.int .u8 k)=some (keyU k):=keyOf_int_mk Tryz.underlying5 h
theorem keyOf_u8_inv {v:Value} {l:Lit} (h:keyOf Tryz.prog 5 v=some l):∃ s:Int,v=.int .u8 s/\l=keyU s/\OkU s:=by
 rw[Go.keyOf_int Tryz.underlying5] at h
 cases v <;> simp[mapKey,Tryz.underlying5] at h
 obtain⟨⟨rfl,h2⟩,h3⟩:=h
 exact⟨_,rfl,h3.symm,h2⟩
def UReads (D:DataW Value) (f:Int->Option Value):Prop:=IsMap D/\∀ k:Int,match f k with
 | some v=>has D (keyU k)=true/\∀ z,D.atKey (keyU k) z=.held v
 | none=>has D (keyU k)=false
def Umap (w:World) (b n:Nat) (f:Int->Option Value):Prop:=∃ D,w.ownsMap Tryz.prog 5 RV b n D/\UReads D f
def uput (f:Int->Option Value) (k:Int) (v:Value):Int->Option Value:=fun j=>if k=j then some v else f j
theorem UReads.put {D:DataW Value} {f:Int->Option Value} (h:UReads D f) (k:Int) (v:Value):UReads (D.put (keyU k) (.held v)) (uput f k v):=by
 refine⟨h.1.put _ _,fun j=>?_⟩
 unfold uput
 by_cases e:k=j
 ·subst e
  rw[if_pos rfl]
  exact⟨has_put_same h.1 (keyU_key k) _,fun z=>atKey_put_same h.1 (keyU_key k) _ z⟩
 ·rw[if_neg e]
  have hn:keyU j≠keyU k:=keyU_ne (Ne.symm e)
  have:=h.2 j
  cases hf:f j with
  | none=>rw[hf] at this;simp only at this ⊢;rw[has_put_other hn];exact this
  | some x=>rw[hf] at this;simp only at this ⊢;rw[has_put_other hn];exact⟨this.1,fun z=>by rw[atKey_put_other hn];exact this.2 z⟩
theorem UReads.at {D:DataW Value} {f:Int->Option Value} (h:UReads D f) (k:Int) (z:Value):D.atKey (keyU k) (.held z)=.held ((f k).getD z)/\has D (keyU k)=(f k).isSome:=by
 have:=h.2 k
 cases hf:f k with
 | none=>rw[hf] at this;exact⟨atKey_of_not_has this _,this⟩
 | some x=>rw[hf] at this;exact⟨this.2 _,this.1⟩
section
variable {w w' : World} {b n:Nat} {f:Int->Option Value}
theorem Umap.made (w:World):Umap (w.alloc (.map #[] 0)) w.heap.size 0 (fun _=>none):=
 ⟨_,World.ownsMap_made w _ _ _,isMap_empty,fun k=>by show has (.map []) (keyU k)=false;rfl⟩
theorem Umap.lt (h:Umap w b n f):b<w.heap.size:=by obtain⟨D,h,_⟩:=h;exact h.lt
theorem Umap.keep (h:Umap w b n f) (hk:w'.heap[b]? = w.heap[b]?):Umap w' b n f:=by
 obtain⟨D,⟨es,clock,hb,F,hs,hD⟩,hr⟩:=h
 exact⟨D,⟨es,clock,by rw[hk];exact hb,F,hs,hD⟩,hr⟩
theorem Umap.below {B:Nat} (h:Umap w b n f) (hb:Below B w w') (hB:b<B):Umap w' b n f:=h.keep (hb.block b hB)
theorem Umap.mono (h:Umap w b n f) {m:Nat} (hm:n<=m):Umap w b m f:=by obtain⟨D,h,hr⟩:=h;exact⟨D,h.mono hm,hr⟩
theorem Umap.ne_at {g:Nat} {t:TypeId} {cs:Array Value} (h:Umap w b n f) (ha:At w g t cs):g≠b:=by
 rintro rfl
 obtain⟨D,⟨es,clock,hb,_⟩,hr⟩:=h
 unfold At at ha
 rw[ha] at hb
 cases hb
variable {ops:Array Oper} {rest:List Oper} {o:Oper} {a:Act} {Q:Exit->Act->World->Prop}
theorem Umap.run_look {t e:TypeId} (ht:Tryz.prog.underlying t=some (.map 5 e)) (z:Value) (hz:(zeroValue e).run Tryz.prog w=.ok z w) (h:Umap w b n f) (k:Int) (hk:OkU k):
 (Instr.lookup t (.map (some b)) (.int .u8 k) false).run Tryz.prog w=.ok ((f k).getD z) w:=by
 obtain⟨D,hD,hr⟩:=h
 obtain⟨v,ps,hrun,hv⟩:=hD.lookup ukeyed ht hz (R:=RV) (zd:=.held z) (zp:=[]) rfl (keyOf_u8 hk)
 have:=hr.at k z
 rw[this.1] at hv
 unfold RV at hv
 simp only[Option.some.injEq,Prod.mk.injEq,DataW.held.injEq] at hv
 rw[hv.1] at hrun
 exact hrun
theorem wp_uupd (hg:o.guard=none) (m x y:Operand) (t e:TypeId) (hop:o.op=Op.mapUpdate t m x y) (ht:Tryz.prog.underlying t=some (.map 5 e)) (h:Umap w b n f) (hn:n<maxLen) (hm:a.eval m=.map (some b)) (k:Int) (v:Value) (hx:a.eval x=.int .u8 k) (hy:a.eval y=v) (hk:OkU k)
 (hK:∀ w',Umap w' b (n+1) (uput f k v)->w.grownBy w' (some b)->wpList Tryz.prog ops Q rest (a.put o.dst undef) w'):wpList Tryz.prog ops Q (o::rest) a w:=by
 obtain⟨D,hD,hr⟩:=h
 exact wpList_mapUpdate_own w hg m x y t hop 5 e ukeyed ht RV b n D hm hD hn _ _ _ hx hy (keyOf_u8 hk) (.held v) [] rfl fun w' h1 h2=>hK w' ⟨_,h1,hr.put k v⟩ h2
end
def Urange (w:World) (b r n:Nat) (f:Int->Option Value) (done:List Int) (cnt:Nat):Prop:=
 ∃ D left,w.ranges Tryz.prog 5 RV b r n D left cnt/\UReads D f/\(∀ k:Int,left (keyU k)=true↔(f k).isSome=true/\k ∉ done)/\done.Nodup/\∀ k∈done,(f k).isSome=true
section
variable {w w' : World} {b r n cnt:Nat} {f:Int->Option Value} {done:List Int}
theorem Urange.left_eq (h:Urange w b r n f done cnt):w.rangeLeft b r=cnt:=by obtain⟨D,left,h,_⟩:=h;exact h.left_eq
variable {ops:Array Oper} {rest:List Oper} {o:Oper} {a:Act} {Q:Exit->Act->World->Prop}
theorem wp_urange (hg:o.guard=none) (m:Operand) (t e:TypeId) (hop:o.op=Op.range t m) (ht:Tryz.prog.underlying t=some (.map 5 e)) (h:Umap w b n f) (hm:a.eval m=.map (some b))
 (hK:∀ w' cnt,Urange w' b w.heap.size n f [] cnt->cnt<=n->w.grownBy w' none->w'.heap.size=w.heap.size+1->wpList Tryz.prog ops Q rest (a.put o.dst (.pointer (some ⟨w.heap.size,0,none⟩))) w'):wpList Tryz.prog ops Q (o::rest) a w:=by
 obtain⟨D,hD,hr⟩:=h
 refine wpList_range_own w hg m t hop 5 e ukeyed ht RV b n D hm hD fun w' h1 h2 h3=>hK w' _ ⟨D,_,h1,hr,fun k=>?_,List.nodup_nil,fun k hk=>(by cases hk)⟩ hD.size_le h2 h3
 rw[(hr.at k (.bool true)).2]
 simp
theorem wp_unext (hg:o.guard=none) (it:Operand) (hop:o.op=Op.next it false) (hit:a.eval it=.pointer (some ⟨r,0,none⟩)) (h:Urange w b r n f done cnt)
 (hDone:(∀ k,(f k).isSome=true↔k∈done)->wpList Tryz.prog ops Q rest (a.put o.dst (.tuple #[.bool false])) w)
 (hMore : ∀ (k : Int) (v : Value) (w' : World) (cnt' : Nat),OkU k → f k = some v → k ∉ done → Urange w' b r n f (done ++ [k]) cnt' → cnt' < cnt → w.grownBy w' (some r) → w'.heap.size = w.heap.size →
   (Instr.entry (.pointer (some ⟨r,0,none⟩))).run Tryz.prog w' = .ok (.tuple #[.int .u8 k,v]) w' -> wpList Tryz.prog ops Q rest (a.put o.dst (.tuple #[.bool true,.int .u8 k,v])) w'):wpList Tryz.prog ops Q (o::rest) a w:=by
 obtain⟨D,left,hR,hr,hl,hnd,hin⟩:=h
 refine wpList_next_ranges w (α :=Int) (β :=Value) hg it hop 5 ukeyed RV (fun s=>.int .u8 s) (fun v=>v) (fun key kl hk=>by obtain⟨s,rfl,_⟩:=keyOf_u8_inv hk;exact⟨s,rfl⟩) (fun v y hv=>⟨v,rfl⟩) b r n D left cnt hit hR
  (fun _ hall=>hDone fun k=>⟨fun hs=>?_,hin k⟩) (fun s v kl y w' cnt' hk hlk hy hat hrg hlt hgr hsz hen=>?_)
 ·apply Classical.byContradiction
  intro hn
  have:=(hl k).2 ⟨hs,hn⟩
  rw[hall] at this
  cases this
 ·obtain⟨s',e,rfl,hsz'⟩:=keyOf_u8_inv hk
  cases e
  unfold RV at hy
  cases hy
  obtain⟨hs1,hs2⟩:=(hl s).1 hlk
  obtain⟨u,hu⟩:=Option.isSome_iff_exists.1 hs1
  have e2:=(hr.at s (.bool true)).1
  rw[hat,hu] at e2
  simp only[Option.getD_some,DataW.held.injEq] at e2
  subst e2
  refine hMore s v w' cnt' hsz' hu hs2 ⟨D,_,hrg,hr,fun k=>?_,?_,fun k hk=>?_⟩ hlt hgr hsz hen
  ·simp only[Bool.and_eq_true,Bool.not_eq_true',hl k,List.mem_append,List.mem_singleton,not_or]
   by_cases e:k=s
   ·subst e
    have:=WideAt.sameKey_self (keyU_key k)
    simp[this]
   ·have:=sameKey_ne (keyU_ne e)
    simp[this,e]
  ·rw[List.nodup_append]
   exact⟨hnd,by simp,fun a ha b hb=>by rw[List.mem_singleton] at hb;rw[hb];exact fun e=>hs2 (e ▸ ha)⟩
  ·rcases List.mem_append.1 hk with hk | hk
   ·exact hin k hk
   ·rw[List.mem_singleton] at hk
    rw[hk];exact hs1
end
end
section
open Go Go.RowKit Go.Maps
def BytC (w:World) (v:Value) (bs:List Int):Prop:=RowsC w v 1 bs.length (bs.map (Value.int .u8))/\∀ b∈bs,0<=b/\b<256
theorem BytC.below {w w' : World} {v:Value} {bs:List Int} (h:BytC w v bs) (hb:Below w.heap.size w w'):BytC w' v bs:=⟨h.1.below hb,h.2⟩
theorem BytC.at {w:World} {a:Option Addr} {n c:Nat} {bs:List Int} (h:BytC w (.slice a n c) bs) {i:Nat} (hi:i<bs.length):∃ b o x,a=some ⟨b,o,none⟩/\w.cell? ⟨b,o+i,none⟩=some (.int .u8 x)/\0<=x/\x<256:=by
 obtain⟨⟨_,a',c',he,h0 | ⟨b,o,ha,_,hc⟩⟩,h2⟩:=h
 ·omega
 ·cases he
  exact⟨b,o,bs[i],ha,hc i _ (by simp[hi]),h2 _ (List.getElem_mem hi)⟩
end
section
open Go Go.RowKit Go.Maps
structure DecS (gO gQ mu ml c:Nat) (th:Int) (p:Own.Proposal) (k:Nat) (wr:World) (u:Nat->Nat) (l:Nat->Bool) (V:List Own.Vote) (K:List Own.KeyUse) (fU fL:Int->Option Value) (sa:Option Addr) (sc:Nat) (ka:Option Addr) (kc:Nat) (qa:Option Addr) (qc:Nat):Prop where
 dI:Own.DInv c k u l V K
 lI:LS wr gO gQ (Own.own54 (Own.space54 c th) K) ⟨1,[Own.withVs p V]⟩ sa sc ka kc qa qc
 uI:Umap wr mu k fU
 mI:Umap wr ml k fL
 hu:∀ b:Nat,(fU b).getD (.int .i64 0)=.int .i64 (u b)
 hm:∀ j:Int,fL j=if 0<=j/\0<u j.toNat then some (.bool (l j.toNat)) else none
structure DecI (w:World) (gO gQ gP mu ml c:Nat) (th:Int) (p:Own.Proposal) (va:Option Addr) (vl vc:Nat) (k:Nat) (wr:World):Prop where
 s:∃ u l V K fU fL sa sc ka kc qa qc,DecS gO gQ mu ml c th p k wr u l V K fU fL sa sc ka kc qa qc
 P:At wr gP 46 #[.int .i64 p.id,.string p.path,.string p.digest,.int .i64 p.opened,.int .i64 p.expires,.slice va vl vc]
 b:Below w.heap.size w wr
theorem Umap.noStr {w:World} {b n:Nat} {f:Int->Option Value} (h:Umap w b n f):Own.NoStr w b:=fun i s e=>by
 obtain⟨D,⟨es,clock,hb,_⟩,_⟩:=h
 unfold World.cell? at e
 simp only[hb] at e
 cases e
theorem Urange.nodup {w:World} {b r n cnt:Nat} {f:Int->Option Value} {done:List Int} (h:Urange w b r n f done cnt):done.Nodup:=by obtain⟨D,left,_,_,_,h,_⟩:=h;exact h
theorem LS.grown {w w' : World} {gO gQ b:Nat} {o:Own.Owners} {q:Own.Queue} {sa ka qa:Option Addr} {sc kc qc:Nat} (h:LS w gO gQ o q sa sc ka kc qa qc) (hn:Own.NoStr w b) (h1:gO≠b) (h2:gQ≠b) (hg:w.grownBy w' (some b)):LS w' gO gQ o q sa sc ka kc qa qc:=by
 have hk:∀ k,k≠b->k<w.heap.size->w'.heap[k]? = w.heap[k]? :=fun k hk hl=>hg.block k hl (fun e=>hk (by simpa using e))
 refine⟨by unfold At;rw[hk gO h1 h.atO.lt];exact h.atO,by unfold At;rw[hk gQ h2 h.atQ.lt];exact h.atQ,?_,?_,?_⟩
 ·exact((Own.spaces_off h.sp hn).keep hg.size (fun k hF hl=>hk k hF hl)).mono (fun _ _ _=>trivial)
 ·exact((Own.keys_off h.ks hn).keep hg.size (fun k hF hl=>hk k hF hl)).mono (fun _ _ _=>trivial)
 ·exact((Own.props_off h.ps hn).keep hg.size (fun k hF hl=>hk k hF hl)).mono (fun _ _ _=>trivial)
theorem rdecides_any (n thr:Int) (vv0:Value) (bs:List Int) (w:World) (hM:MaxL w) (hn:0<=n/\n<256) (ht:0<=thr/\thr<256) (hB:BytC w vv0 bs):Calls Tryz.prog 6 #[.int .u8 n,.int .u8 thr,vv0] w fun e w' => e=.returned (.bool true)/\Below w.heap.size w w' :=by
 obtain⟨ba,bc,rfl⟩:∃ a c,vv0=.slice a bs.length c:=by
  obtain⟨⟨_,a,c,h,_⟩,_⟩:=hB
  exact⟨a,c,h⟩
 obtain⟨c,hc⟩:∃ c:Nat,(c:Int)=1+n%3:=⟨(1+n%3).toNat,by omega⟩
 have hc1:1<=c:=by omega
 have hc3:c<=3:=by omega
 have htm:0<=thr%(c:Int)/\thr%(c:Int)<c:=⟨Int.emod_nonneg _ (by omega),Int.emod_lt_of_pos _ (by omega)⟩
 obtain⟨th,hth⟩:∃ th:Int,th=1+thr%(c:Int):=⟨_,rfl⟩
 have ht1:1<=th:=by omega
 have ht2:th<=c:=by omega
 have hp:Own.PropOK (Own.prop54 0 ⟨#[97,47,120]⟩ (Lane.seedB 2) 0 9):=Own.prop54_ok (by decide) (by decide) (by decide) (by decide) (Own.digest_seed 2) (by decide) (by decide)
 have hsub:=Own.submit_empty (nx:=0) (size:=0) (window:=9) (path:=⟨#[97,47,120]⟩) (dg:=Lane.seedB 2) (by decide) (by decide) (by decide) (Own.digest_seed 2) (by decide) (by decide)
 have hpid:(Own.prop54 0 ⟨#[97,47,120]⟩ (Lane.seedB 2) 0 9).id=0:=rfl
 have hpx:(Own.prop54 0 ⟨#[97,47,120]⟩ (Lane.seedB 2) 0 9).expires=9:=rfl
 have hpv:Own.withVs (Own.prop54 0 ⟨#[97,47,120]⟩ (Lane.seedB 2) 0 9) []=Own.prop54 0 ⟨#[97,47,120]⟩ (Lane.seedB 2) 0 9:=rfl
 have hpd:(Own.prop54 0 ⟨#[97,47,120]⟩ (Lane.seedB 2) 0 9).digest.size=32:=seedB_size 2
 have hpp:(Own.prop54 0 ⟨#[97,47,120]⟩ (Lane.seedB 2) 0 9).path.size=3:=rfl
 generalize Own.prop54 0 ⟨#[97,47,120]⟩ (Lane.seedB 2) 0 9=p at*
 have haw:=fun W (hW:MaxL W)=>awake54_any W hW
 have hsp:=fun W=>law54space_any c th W (by omega)
 have hdg:=fun W=>law54digest_any 2 W (by omega)
 have hsb:=fun W (hW:Below w.heap.size w W)=>rvSubmit_any ⟨0,[]⟩ 0 9 ⟨#[97,47,120]⟩ (Lane.seedB 2) (.slice none 0 0) W (hM.below hW) (ListF.nil _ _) (by simp) (by simp)
 simp only[hsub] at hsb
 obtain⟨o0,ho0⟩:∃ o,o=Own.own54 (Own.space54 c th) []:=⟨_,rfl⟩
 obtain⟨q0,hq0⟩:∃ q,q=Own.Queue.mk 1 [Own.withVs p []]:=⟨_,rfl⟩
 have hq00:q0.props=[p]:=by rw[hq0,<- hpv];rfl
 have hln:q0.props.length=1:=by rw[hq00];rfl
 have hso:o0.spaces=[Own.space54 c th]:=by rw[ho0];rfl
 have hko:o0.keys=[]:=by rw[ho0];rfl
 have hco:o0.count=0:=by rw[ho0];rfl
 rw[show(Own.Queue.mk (0+1) [p])=q0 by rw[hq0,hpv];rfl] at hsb
 rw[<- hso] at hsp
 have HAWK:=zh haw;have HSP:=zh hsp;have HDG:=zh hdg;have HSB:=zh hsb;have HMX:=zh hM;have HC:=zh hc;have HTH:=zh hth;have HPO:=zh hp;have HPID:=zh hpid;have HPX:=zh hpx;have HPV:=zh hpv;have HPD:=zh hpd;have HPP:=zh hpp;have HB:=zh hB;have HLN:=zh hln;have HQ00:=zh hq00;have HKO:=zh hko;have HCO:=zh hco;have HQ0:=zh hq0;have HO0:=zh ho0
 generalize Lane.seedB 2=DG at HDG HSB
 clear haw hsp hdg hsb hln hp hsub hpid hpx hpv hpd hpp hM hB hc hth hq00 hso hko hco hq0 ho0
 go_enter Tryz.func6,Tryz.ntmps6
 go_wp2_with fail
 refine(HAWK.out _ HMX.out).mono ?_
 rintro e w0 ⟨rfl,hb0⟩
 have HB0:=zh hb0
 clear hb0 HAWK
 by_cases h6:6<(bs.length:Int)
 ·have d6:decide (6<(bs.length:Int))=true:=decide_eq_true h6
  have d6' : decide (6<bs.length)=true:=decide_eq_true (by omega)
  go_wp2_with fail
  go_ret
  exact⟨rfl,HB0.out⟩
 have d6:decide (6<(bs.length:Int))=false:=decide_eq_false h6
 have d6' : decide (6<bs.length)=false:=decide_eq_false (by omega)
 have H6:=zh (show bs.length<=6 by omega)
 go_upto_region 5 with fail
 clear d6 d6' h6
 go_upto_region 6 with fail
 rw[<- HC.out]
 go_upto_region 7 with fail
 rw[show(1:Int)+thr%(c:Int)=th from HTH.out.symm]
 go_wp2_with fail
 refine(HSP.out _).mono ?_
 rintro e w1 ⟨sv,rfl,hS,hb1⟩
 obtain⟨sa,sc,rfl⟩:=hS.len
 have hb1:=HB0.out.trans (hb1.mono HB0.out.size)
 have hbo:Below w1.heap.size w1 (w1.alloc (.cells #[.int .i64 0,.slice sa o0.spaces.length sc,.slice none 0 0] 38)):=(Below.refl w1.heap.size w1).alloc (Nat.le_refl _) _
 have hb2:=hb1.trans (hbo.mono hb1.size)
 obtain⟨gO,hgO⟩:∃ g,g=w1.heap.size:=⟨_,rfl⟩
 have hgOw:w.heap.size<=gO:=by rw[hgO];exact hb1.size
 have hO2:=At.new w1 38 #[.int .i64 0,.slice sa o0.spaces.length sc,.slice none 0 0]
 have hS2:=hS.below hbo
 rw[<- hgO] at hO2
 have HB2:=zh hb2;have HO2:=zh hO2;have HS2:=zh hS2;have HGO:=zh hgO
 clear hb1 hbo hb2 hO2 hS hS2 hgO HB0
 go_upto_region 8 with fail
 rw[<- HGO.out]
 generalize w1.alloc (.cells #[.int .i64 0,.slice sa o0.spaces.length sc,.slice none 0 0] 38)=w2 at*
 clear HGO
 go_wp2_with fail
 refine(HDG.out _).mono ?_
 rintro e w3 ⟨rfl,hb3⟩
 have HB3:=zh (HB2.out.trans (hb3.mono HB2.out.size));have HO3:=zh (HO2.out.below hb3 HO2.out.lt);have HS3:=zh (HS2.out.below hb3)
 clear hb3 HB2 HO2 HS2
 go_wp2_with fail
 refine(HSB.out _ HB3.out).mono ?_
 rintro e w4 ⟨⟨qv,rfl,qv',rfl,hpo⟩,hb4⟩
 obtain⟨qa,qc,rfl⟩:=hpo.one
 have hp4:Own.PropsC w4 (.slice qa q0.props.length qc) q0.props:=hpo.props
 have HB4:=zh (HB3.out.trans (hb4.mono HB3.out.size));have HO4:=zh (HO3.out.below hb4 HO3.out.lt);have HS4:=zh (HS3.out.below hb4);have HP4:=zh hp4
 clear hb4 hpo hp4 HB3 HO3 HS3
 go_upto_region 9 with fail
 have hb45:Below w4.heap.size w4 (w4.alloc (.cells #[.int .i64 q0.next,.slice qa q0.props.length qc] 24)):=(Below.refl _ _).alloc (Nat.le_refl _) _
 have hQ5:=At.new w4 24 #[.int .i64 q0.next,.slice qa q0.props.length qc]
 have hO5:=HO4.out.below hb45 HO4.out.lt
 have hls:LS (w4.alloc (.cells #[.int .i64 q0.next,.slice qa q0.props.length qc] 24)) gO w4.heap.size o0 q0 sa sc none 0 qa qc:=
  ⟨by rw[HCO.out,HKO.out];exact hO5,hQ5,HS4.out.below hb45,by rw[HKO.out];exact ListF.nil _ _,HP4.out.below hb45⟩
 obtain⟨gQ,hgQ⟩:∃ g,g=w4.heap.size:=⟨_,rfl⟩
 have hgQw:w.heap.size<=gQ:=by rw[hgQ];exact HB4.out.size
 rw[<- hgQ] at hls
 have HB6:=zh (HB4.out.trans (hb45.mono HB4.out.size));have L6:=zh hls;have HGQ:=zh hgQ
 clear hb45 hQ5 hO5 hls hgQ HB4 HO4 HS4 HP4
 rw[<- HGQ.out]
 generalize (w4.alloc (.cells #[.int .i64 q0.next,.slice qa q0.props.length qc] 24))=w6 at*
 clear HGQ
 have d1:((q0.props.length:Int) != 1)=false:=by rw[HLN.out];rfl
 have d0:0<q0.props.length:=by rw[HLN.out];omega
 obtain⟨q0c,q1c⟩:=L6.out.atQ.c2
 obtain⟨b,o',vv,hqa,hbl,e0,e1,e2,e3,e4,e5,hvv⟩:=Own.PropsC.cells L6.out.ps d0
 obtain⟨va,vc,rfl⟩:=hvv.len
 generalize q0.props[0].votes.length=vl at*
 clear hvv
 subst hqa
 simp only[Nat.zero_mul,Nat.add_zero,HQ00.out,List.getElem_cons_zero] at e0 e1 e2 e3 e4 e5
 have hb7:Below w6.heap.size w6 (w6.alloc (.cells #[.int .i64 p.id,.string p.path,.string p.digest,.int .i64 p.opened,.int .i64 p.expires,.slice va vl vc] 46)):=(Below.refl _ _).alloc (Nat.le_refl _) _
 have hP7:=At.new w6 46 #[.int .i64 p.id,.string p.path,.string p.digest,.int .i64 p.opened,.int .i64 p.expires,.slice va vl vc]
 obtain⟨gP,hgP⟩:∃ g,g=w6.heap.size:=⟨_,rfl⟩
 rw[<- hgP] at hP7
 have L7:=zh (L6.out.below hb7);have HB7:=zh (HB6.out.trans (hb7.mono HB6.out.size));have HP7:=zh hP7;have HGP:=zh hgP
 clear hb7 hP7 hgP L6 HB6
 go_upto_region 12 with fail
 rw[<- HGP.out]
 generalize w6.alloc (.cells #[.int .i64 p.id,.string p.path,.string p.digest,.int .i64 p.opened,.int .i64 p.expires,.slice va vl vc] 46)=w7 at*
 clear HGP q0c q1c e0 e1 e2 e3 e4 e5 d1 d0 hbl
 have hmk:=fun t W=>run_makeMap (P:=Tryz.prog) t W
 go_upto_region 13 with fail
 have hdi:DecI w gO gQ gP w7.heap.size (w7.heap.size+1) c th p va vl vc 0 ((w7.alloc (.map #[] 0)).alloc (.map #[] 0)):=by
  have hbm:Below w7.heap.size w7 ((w7.alloc (.map #[] 0)).alloc (.map #[] 0)):=((Below.refl _ _).alloc (Nat.le_refl _) _).alloc (by simp) _
  have hb2:Below (w7.alloc (.map #[] 0)).heap.size (w7.alloc (.map #[] 0)) ((w7.alloc (.map #[] 0)).alloc (.map #[] 0)):=(Below.refl _ _).alloc (Nat.le_refl _) _
  have h1:=(Umap.made w7).below hb2 (by simp)
  have h2:=Umap.made (w7.alloc (.map #[] 0))
  rw[show(w7.alloc (.map #[] 0)).heap.size=w7.heap.size+1 by simp] at h2
  have hl:=L7.out.below hbm
  rw[HO0.out,HQ0.out] at hl
  exact⟨⟨fun _=>0,fun _=>false,[],[],fun _=>none,fun _=>none,sa,sc,none,0,some ⟨b,o',none⟩,qc,Own.DInv.nil c _,hl,h1,h2,fun _=>rfl,fun j=>by simp⟩,HP7.out.below hbm HP7.out.lt,HB7.out.trans (hbm.mono HB7.out.size)⟩
 have HDI:=zh hdi
 obtain⟨ml,hml⟩:∃ m,m=w7.heap.size+1:=⟨_,rfl⟩
 obtain⟨mu,hmu⟩:∃ m,m=w7.heap.size:=⟨_,rfl⟩
 rw[<- hml] at HDI ⊢
 rw[<- hmu] at HDI ⊢
 have hwm:w.heap.size<=mu:=by rw[hmu];exact HB7.out.size
 have hwl:w.heap.size<=ml:=by rw[hml];have:=HB7.out.size;omega
 have hne:mu≠ml:=by omega
 have HWM:=zh (And.intro hwm (And.intro hwl hne))
 clear hdi hmk hml hmu L7 HP7 HB7 HQ0 HO0 HLN HQ00 HKO HCO hwm hwl hne
 generalize (w7.alloc (.map #[] 0)).alloc (.map #[] 0)=w8 at*
 go_wp2_with fail
 go_loopw [67] (fun i wr=>∃ k:Nat,k<=bs.length/\i=.int .i64 k/\DecI w gO gQ gP mu ml c th p va vl vc k wr) (fun i _=>bs.length - (intOf i).toNat)
 case atStart=>exact⟨0,by omega,rfl,HDI.out⟩
 case round=>
  obtain⟨k,hk,rfl,hI⟩:=hrel
  have HI:=zh hI
  clear hI HDI
  by_cases hlt:k<bs.length
  case neg=>
   have dk:decide ((k:Int)<bs.length)=false:=decide_eq_false (by omega)
   obtain⟨⟨u,l,V,K,fU,fL,sa',sc',ka',kc',qa',qc',hst⟩,hp7,hbr⟩:=HI.out
   have hk6:=H6.out
   have hmg:=hst.dI.merge (th:=th) (nx:=1) (p:=p) hc3 ht1 ht2 HPO.out (by rw[HPID.out];decide) (by decide) (by rw[HPX.out];decide)
   have hagr:=hst.dI.agreed (th:=th) (nx:=1) (p:=p) hc3 ht1 ht2 HPO.out (by rw[HPID.out];decide) (by decide)
   have hfit:=hst.dI.fits hc3 (by omega) th 1 p
   have hLR:=hst.lI
   obtain⟨O0,hO0⟩:∃ o,o=Own.own54 (Own.space54 c th) K:=⟨_,rfl⟩
   obtain⟨Q0,hQ0⟩:∃ q,q=Own.Queue.mk 1 [Own.withVs p V]:=⟨_,rfl⟩
   rw[<- hO0,<- hQ0] at hmg hagr hfit hLR
   rw[HPID.out] at hmg hagr
   obtain⟨bA,hbA⟩:∃ b,(V.all (·.agrees)&&decide (th<=(V.length:Int)))=b:=⟨_,rfl⟩
   rw[hbA] at hmg hagr
   have hmc:=rvMerge_any Q0 O0 0 0 _ _ _ wr (HMX.out.below hbr) hLR.ps hLR.sp hLR.ks hfit.lp hfit.lv (by have:=hfit.ls;omega) (by have:=hfit.lk;omega) (fun x hx=>by have:=hfit.lm x hx;omega)
   have LR:=zh hLR;have HBR:=zh hbr;have HFT:=zh hfit;have HAG:=zh hagr
   obtain⟨R,hR⟩:∃ R,Own.merge Q0 O0 0 0=R:=⟨_,rfl⟩
   rw[hR] at hmg hmc
   have hR2:R.2.2=if bA=false then 20 else 0:=by rw[hmg];cases bA <;> rfl
   have HMC:=zh hmc;have HR2:=zh hR2
   obtain⟨q0c,q1c⟩:=LR.out.atQ.c2;obtain⟨o0c,o1c,o2c⟩:=LR.out.atO.c3
   clear hst hp7 hbr hmg hagr hfit hLR hO0 hQ0 hbA hmc hR hR2 HI
   go_wp2_with fail
   refine HMC.out.mono ?_
   rintro e wY ⟨⟨qv2,pv2,rfl,⟨qp2,rfl,hqc⟩,hvc⟩,hb⟩
   obtain⟨qa2,qc2,rfl⟩:=hqc.len
   obtain⟨va2,vc2,rfl⟩:=hvc.len
   have L2:=zh (LR.out.below hb);have B2:=zh (HBR.out.trans (hb.mono HBR.out.size))
   clear hqc hvc hb HMC q0c q1c o0c o1c o2c LR HBR
   rw[HR2.out]
   have hagc:=rvAgreedX_any Q0 O0 0 _ _ _ wY (HMX.out.below B2.out) L2.out.ps L2.out.sp L2.out.ks HFT.out.lp HFT.out.lv (by have:=HFT.out.ls;omega) (by have:=HFT.out.lk;omega) (fun x hx=>by have:=HFT.out.lm x hx;omega)
   rw[HAG.out] at hagc
   have HAGC:=zh hagc
   obtain⟨q0c,q1c⟩:=L2.out.atQ.c2;obtain⟨o0c,o1c,o2c⟩:=L2.out.atO.c3
   clear hagc HFT HAG L2
   cases bA with
   | true =>
     rw[if_neg (by decide)]
     go_wp2_with fail
     refine HAGC.out.mono ?_
     rintro e wX ⟨rfl,hb⟩
     have B3:=zh (B2.out.trans (hb.mono B2.out.size))
     clear hb HAGC q0c q1c o0c o1c o2c
     go_wp2_with fail
     go_ret
     exact⟨rfl,B3.out⟩
   | false =>
     rw[if_pos rfl]
     go_wp2_with fail
     refine HAGC.out.mono ?_
     rintro e wX ⟨rfl,hb⟩
     have B3:=zh (B2.out.trans (hb.mono B2.out.size))
     clear hb HAGC q0c q1c o0c o1c o2c
     go_wp2_with fail
     go_ret
     exact⟨rfl,B3.out⟩
  have dk:decide ((k:Int)<bs.length)=true:=decide_eq_true (by omega)
  obtain⟨xb,xo,x,rfl,hxc,hx0,hx1⟩:=(HB.out.below HI.out.b).at hlt
  go_upto_region 17 with fail
  obtain⟨B,hBe,hBc⟩:∃ B:Nat,x/2%(c:Int)=(B:Int)/\B<c:=by
   have h0:=Int.emod_nonneg (x/2) (show(c:Int)≠0 by omega)
   have h1:=Int.emod_lt_of_pos (x/2) (show(0:Int)<c by omega)
   exact⟨(x/2%(c:Int)).toNat,by omega,by omega⟩
  obtain⟨ag,hag⟩:∃ ag,(x%2==0)=ag:=⟨_,rfl⟩
  rw[hBe,hag]
  clear hBe hag hxc hx0 hx1
  obtain⟨⟨u,l,V,K,fU,fL,sa',sc',ka',kc',qa',qc',hst⟩,hp7,hbr⟩:=HI.out
  have ST:=zh hst;have HPR:=zh hp7;have HBR:=zh hbr
  clear hst hp7 hbr HI
  have hub:=ST.out.dI.ub B
  have hokB:OkU (B:Int):=by
   unfold OkU
   simp[Lit.wf,IntKind.has]
   have h1:IntKind.u8.min=0:=by decide
   have h2:IntKind.u8.max=255:=by decide
   omega
  have hlk:=fun W (hW:Umap W mu k fU)=>hW.run_look (t:=63) (e:=3) Tryz.underlying63 (.int .i64 0) (by rfl) (B:Int) hokB
  simp only[ST.out.hu B] at hlk
  have hlk0:=hlk wr ST.out.uI
  have HLK:=zh hlk;have HOK:=zh hokB
  clear hlk hokB
  obtain⟨n1,hn1⟩:∃ n,u B=n:=⟨_,rfl⟩
  rw[hn1] at hlk0 hub HLK
  have HN1:=zh hn1
  clear hn1
  by_cases h1:1<n1
  ·have d1:decide ((1:Int)<n1)=true:=decide_eq_true (by omega)
   have d1' : decide (1<n1)=true:=decide_eq_true h1
   have hk6:=H6.out
   go_wp2_with fail
   refine⟨⟨k+1,by omega,by simp,⟨⟨u,l,V,K,fU,fL,sa',sc',ka',kc',qa',qc',ST.out.dI.more,ST.out.lI,ST.out.uI.mono (by omega),ST.out.mI.mono (by omega),ST.out.hu,ST.out.hm⟩,HPR.out,HBR.out⟩⟩,?_⟩
   simp only[intOf]
   omega
  have d1:decide ((1:Int)<n1)=false:=decide_eq_false (by omega)
  have d1' : decide (1<n1)=false:=decide_eq_false h1
  go_upto_region 18 with fail
  clear d1 d1' dk hlk0
  have hk6:=H6.out
  have hvv:=ST.out.dI.vote (p:=p) (nx:=1) hc3 ht1 ht2 (by omega) HPO.out (by rw[HPID.out];decide) (by decide) hBc (by rw[HN1.out];omega) ag
  have hstep:=ST.out.dI.step hc3 (by omega) hBc (by rw[HN1.out];omega) ag
  rw[HN1.out] at hvv hstep
  rw[HPID.out] at hvv
  obtain⟨V2,hV2⟩:∃ x,x=Own.putVote V (Own.vt B ag):=⟨_,rfl⟩
  obtain⟨K2,hK2⟩:∃ x,x=Own.use K ⟨(Own.mem54 B).pub,(n1:Int)+1⟩:=⟨_,rfl⟩
  obtain⟨A,hA⟩:∃ A,A=Own.ballot54 B n1 p ag:=⟨_,rfl⟩
  have hln:=Own.ballot_len B n1 p ag
  rw[<- hV2,<- hK2] at hvv hstep
  rw[<- hA] at hvv hln
  have hid0:0<=p.id:=by rw[HPID.out];decide
  have hid1:p.id<9223372036854775808:=by rw[HPID.out];decide
  have hpl0:p.path.size<=1000000:=by rw[HPP.out];decide
  have hdl0:p.digest.size<=1000000:=by rw[HPD.out];decide
  have HBAL:=zh (fun W' => law_ballot B n1 p ag (.slice va vl vc) W' (by omega) (by omega) hid0 hid1 hpl0 hdl0 A hA (bi:=B) (ii:=n1) rfl rfl)
  have HFT:=zh (ST.out.dI.fits hc3 (by omega) th 1 p)
  obtain⟨O0,hO0⟩:∃ o,o=Own.own54 (Own.space54 c th) K:=⟨_,rfl⟩
  obtain⟨Q0,hQ0⟩:∃ q,q=Own.Queue.mk 1 [Own.withVs p V]:=⟨_,rfl⟩
  obtain⟨O1,hO1⟩:∃ o,o=Own.own54 (Own.space54 c th) K2:=⟨_,rfl⟩
  obtain⟨Q1,hQ1⟩:∃ q,q=Own.Queue.mk 1 [Own.withVs p V2]:=⟨_,rfl⟩
  have hLR:=ST.out.lI
  rw[<- hO0,<- hQ0] at hLR hvv HFT
  rw[<- hO1,<- hQ1] at hvv
  have HVV:=zh hvv;have HLN:=zh hln;have LR:=zh hLR;have HSTEP:=zh hstep;have HO1:=zh hO1;have HQ1:=zh hQ1
  clear hid0 hid1 hpl0 hdl0 hvv hln hA hV2 hK2 hLR hstep hO0 hQ0 hO1 hQ1 hk6
  obtain⟨q0c,q1c⟩:=LR.out.atQ.c2;obtain⟨o0c,o1c,o2c⟩:=LR.out.atO.c3
  have HXQ:=zh (show(wr.cell? ⟨gQ,0,none⟩).isSome=true by rw[q0c];rfl)
  have HXO:=zh (show(wr.cell? ⟨gO,0,none⟩).isSome=true by rw[o0c];rfl)
  have p0c:=HPR.out.cell 0
  simp only[List.getElem?_toArray,List.getElem?_cons_zero] at p0c
  have HXP:=zh (show(wr.cell? ⟨gP,0,none⟩).isSome=true by rw[p0c];rfl)
  have hlP:=HPR.out.lt
  clear p0c
  go_wp2_with fail
  refine Lex.wp_region_hav (fun j=>j=gQ\/j=gO\/j=gP) [0,1,8] [16,17] 20 [.pure 7,.call,.pure 2,.call,.call,.pure 4,.new,.new] [1,1] (by kernel_rfl) (by kernel_rfl) (by kernel_rfl) ?_
  simp only[Lex.wpHav,Lex.wpCuts,List.take_succ_cons,List.take_zero,List.drop_succ_cons,List.drop_zero]
  have BD:=zh (show Below wr.heap.size wr wr.drew from(Below.refl _ _).drew)
  have ZD:=zh (show wr.drew.heap.size=wr.heap.size by rw[drew_heap])
  go_wp2_with fail
  refine Lex.PEnd.intro ?_
  intro wxl hg
  have BEl:=zh (BD.out.trans (hg.mono BD.out.size));have BXl:=zh hg
  clear hg q0c q1c o0c o1c o2c
  have hlk1:=HLK.out wxl (ST.out.uI.below BEl.out ST.out.uI.lt)
  go_wp2_with fail
  refine Lex.CEnd.intro (fun j _ hkl=>BXl.out.block _ hkl) (Lex.Kept.of_below (Below.refl _ _)) ?_
  clear hlk1
  have HPL:=HPR.out.below BEl.out HPR.out.lt
  obtain⟨p0c,p1c,p2c,p3c,p4c,p5c⟩:=HPL.c6
  clear HPL
  go_wp2_with fail
  refine Lex.PEnd.intro ?_
  intro wxa hg
  have BEa:=zh (BEl.out.trans (hg.mono BEl.out.size));have BXa:=zh (BXl.out.trans (hg.mono BXl.out.size))
  clear hg p0c p1c p2c p3c p4c p5c
  go_wp2_with fail
  refine(HBAL.out _).mono ?_
  rintro e wxb ⟨cv,pv,rfl,hoc,hop,hb⟩
  obtain⟨ca,cm,cc,rfl⟩:=own_slice hoc
  obtain⟨pa,pm,pc,rfl⟩:=own_slice hop
  have BEb:=zh (BEa.out.trans (hb.mono BEa.out.size));have BXb:=zh (BXa.out.trans (hb.mono BXa.out.size));have BB:=zh hb;have OC:=zh hoc;have OP:=zh hop
  clear hb hoc hop
  go_wp2_with fail
  refine Lex.CEnd.intro (fun k _ hkl=>BXb.out.block _ hkl) (Lex.Kept.of_below BB.out) ?_
  intro wxc hg
  have hbc:=BEb.out.trans (hg.mono BEb.out.size)
  have hlc:=LR.out.below hbc
  have HVT:=zh (hlc.vote (HMX.out.below (HBR.out.trans (hbc.mono HBR.out.size))) HFT.out 0 ag A (own_below OC.out hg) (own_below OP.out hg) HLN.out.1.symm HLN.out.2.1.symm (by have h1:=HLN.out.1;have h2:=HLN.out.2.1;have h3:=HLN.out.2.2;omega) HVV.out)
  have BEc:=zh hbc;have BXc:=zh (BXb.out.trans (hg.mono BXb.out.size))
  clear hbc hlc hg BB OC OP HBAL BEa BXa BEl BXl
  go_wp2_with fail
  refine HVT.out.mono ?_
  rintro e wxd ⟨sax,scx,kax,kcx,qax,qcx,rfl,hs,hk',hp,hb⟩
  dsimp only at hs hk' hp ⊢
  have BEd:=zh (BEc.out.trans (hb.mono BEc.out.size));have BXd:=zh (BXc.out.trans (hb.mono BXc.out.size));have BB:=zh hb
  have HS:=zh hs;have HK:=zh hk';have HPP' :=zh hp
  clear hs hk' hp hb HVT BEb BXb
  go_wp2_with fail
  refine Lex.CEnd.intro (fun k _ hkl=>BXd.out.block _ hkl) (Lex.Kept.of_below BB.out) ?_
  go_wp2_with fail
  refine Lex.PEnd.intro ?_
  intro wxe hwe
  go_wp2_with fail
  refine Lex.NEnd.intro (fun wxf hg hkk _=>?_)
  have hs:=hkk.at_
  obtain⟨gQx,hgq⟩:∃ g,g=wxe.heap.size:=⟨_,rfl⟩
  have hgQx:wr.heap.size<=gQx:=by rw[hgq,<- ZD.out];exact hwe
  rw[<- hgq] at hs
  have BEf:=zh (BEd.out.trans (hg.mono BEd.out.size));have BXf:=zh (BXd.out.trans (hg.mono BXd.out.size));have GQf:=zh hs;have HS1:=zh (HS.out.below hg);have HK1:=zh (HK.out.below hg);have HPP1:=zh (HPP'.out.below hg)
  rw[<- hgq]
  clear hg hkk hs hgq hwe HS HK HPP' BB BEc BXc
  intro wxh hwh
  go_wp2_with fail
  refine Lex.NEnd.intro (fun wxi hg hkk _=>?_)
  have hs:=hkk.at_
  obtain⟨gOx,hgo⟩:∃ g,g=wxh.heap.size:=⟨_,rfl⟩
  have hgOx:wr.heap.size<=gOx:=by rw[hgo,<- ZD.out];exact hwh
  rw[<- hgo] at hs
  have hlz:LS wxi gOx gQx Own.Owners.none Own.Queue.none none 0 none 0 none 0:=⟨hs,GQf.out.below hg GQf.out.lt,ListF.nil _ _,ListF.nil _ _,ListF.nil _ _⟩
  have LZ:=zh hlz
  have hlp:=hlz.put (HS1.out.below hg) (HK1.out.below hg) (HPP1.out.below hg)
  have hbe:=BEf.out.trans (hg.mono BEf.out.size)
  have hbw:=hbe.trans (lsW_below wxi gOx gQx O1 Q1 sax scx kax kcx qax qcx hgOx hgQx)
  have BXi:=zh (BXf.out.trans (hg.mono BXf.out.size));have LN:=zh hlp;have LO:=zh (LR.out.below hbw);have HBO:=zh (HBR.out.trans (hbw.mono HBR.out.size));have HPO' :=zh (HPR.out.below hbw HPR.out.lt);have UO:=zh (ST.out.uI.below hbw ST.out.uI.lt);have MO:=zh (ST.out.mI.below hbw ST.out.mI.lt)
  rw[<- hgo]
  clear hg hkk hs hgo hwh hlz hlp hbe hbw HS1 HK1 HPP1 GQf BEf BXf BEd BXd
  have q0c:=LZ.out.atQ.cell 0;have q1c:=LZ.out.atQ.cell 1;have o0c:=LZ.out.atO.cell 0;have o1c:=LZ.out.atO.cell 1;have o2c:=LZ.out.atO.cell 2
  simp only[List.getElem?_toArray,List.getElem?_cons_zero,List.getElem?_cons_succ,Own.Owners.none,Own.Queue.none,List.length_nil] at q0c q1c o0c o1c o2c
  have q0f:=LZ.out.atQ.free 0;have q1f:=LZ.out.atQ.free 1;have o0f:=LZ.out.atO.free 0;have o1f:=LZ.out.atO.free 1;have o2f:=LZ.out.atO.free 2
  have hne:=LZ.out.ne
  have hne' : gQx≠gOx:=fun e=>hne e.symm
  have hlQ:=LR.out.atQ.lt;have hlO:=LR.out.atO.lt
  go_wp2_with fail
  refine Lex.Mid.intro (fun k hk hkl=>by
   have h3:k≠gQx:=by rcases hk with hk | hk | hk <;> omega
   rw[heap_setCell_other _ _ _ _ h3,heap_setCell_other _ _ _ _ h3]
   exact BXi.out.block _ hkl) ?_
  go_wp2_with fail
  refine Lex.Mid.intro (fun k hk hkl=>by
   have h3:k≠gQx:=by rcases hk with hk | hk | hk <;> omega
   have h4:k≠gOx:=by rcases hk with hk | hk | hk <;> omega
   rw[heap_setCell_other _ _ _ _ h4,heap_setCell_other _ _ _ _ h4,heap_setCell_other _ _ _ _ h4,heap_setCell_other _ _ _ _ h3,heap_setCell_other _ _ _ _ h3]
   exact BXi.out.block _ hkl) ?_
  go_wp2_with fail
  refine Lex.EndsN.intro (by kernel_rfl) ⟨⟨.inl rfl,HXQ.out⟩,⟨.inr (.inl rfl),HXO.out⟩,⟨.inr (.inr rfl),HXP.out⟩,trivial⟩ ?_
  have hx1:gQx≠gO:=by omega
  have hx2:gOx≠gQ:=by omega
  have hx3:gQx≠gQ:=by omega
  have hx4:gOx≠gO:=by omega
  have HN:=zh (And.intro hx1 (And.intro hx2 (And.intro hx3 hx4)))
  clear q0c q1c o0c o1c o2c q0f q1f o0f o1f o2f hne hne' hlQ hlO hlP HXQ HXO HXP LZ BXi BD ZD hx1 hx2 hx3 hx4 hgQx hgOx
  go_upto_region 21 with fail
  have hLW:((((wxi.setCell ⟨gQx,0,none⟩ (.int .i64 Q1.next)).setCell ⟨gQx,1,none⟩ (.slice qax Q1.props.length qcx)).setCell ⟨gOx,0,none⟩ (.int .i64 O1.count)).setCell ⟨gOx,1,none⟩ (.slice sax O1.spaces.length scx)).setCell ⟨gOx,2,none⟩ (.slice kax O1.keys.length kcx)=lsW wxi gOx gQx O1 Q1 sax scx kax kcx qax qcx:=rfl
  rw[hLW]
  clear hLW
  generalize lsW wxi gOx gQx O1 Q1 sax scx kax kcx qax qcx=wB at*
  obtain⟨q0c,q1c⟩:=LN.out.atQ.c2;obtain⟨o0c,o1c,o2c⟩:=LN.out.atO.c3;obtain⟨q0d,q1d⟩:=LO.out.atQ.c2;obtain⟨o0d,o1d,o2d⟩:=LO.out.atO.c3
  have q0f:=LO.out.atQ.free 0;have q1f:=LO.out.atQ.free 1;have o0f:=LO.out.atO.free 0;have o1f:=LO.out.atO.free 1;have o2f:=LO.out.atO.free 2
  have hne:=LO.out.ne
  have hne' : gQ≠gO:=fun e=>hne e.symm
  have HXO:=zh (show(wB.cell? ⟨gOx,0,none⟩).isSome=true by rw[o0c];rfl)
  have hx1:=HN.out.1;have hx2:=HN.out.2.1;have hx3:=HN.out.2.2.1;have hx4:=HN.out.2.2.2
  go_wp2_with fail
  refine Lex.wp_region_lexN (fun k=>k=gOx) [1] 3 [3] (by kernel_rfl) (by kernel_rfl) (by kernel_rfl) ?_
  simp only[Lex.wpCuts,List.take_succ_cons,List.take_zero,List.drop_succ_cons,List.drop_zero]
  go_wp2_with fail
  refine Lex.Mid.intro (fun k hk _=>by
   have h3:k≠gQ:=by omega
   rw[drew_heap,drew_heap,heap_setCell_other _ _ _ _ h3,heap_setCell_other _ _ _ _ h3]) ?_
  go_wp2_with fail
  refine Lex.EndsN.intro (by kernel_rfl) ⟨⟨rfl,HXO.out⟩,trivial⟩ ?_
  have hlp:=LO.out.put LN.out.sp LN.out.ks LN.out.ps
  have hbo:=HBO.out.trans (lsW_below wB gO gQ O1 Q1 sax scx kax kcx qax qcx hgOw hgQw)
  have hpo:gP≠gO:=HPO'.out.ne LO.out.atO (by decide)
  have hpq:gP≠gQ:=HPO'.out.ne LO.out.atQ (by decide)
  have huo:mu≠gO:=fun e=>UO.out.ne_at LO.out.atO e.symm
  have huq:mu≠gQ:=fun e=>UO.out.ne_at LO.out.atQ e.symm
  have hmo:ml≠gO:=fun e=>MO.out.ne_at LO.out.atO e.symm
  have hmq:ml≠gQ:=fun e=>MO.out.ne_at LO.out.atQ e.symm
  have hpp:At (lsW wB gO gQ O1 Q1 sax scx kax kcx qax qcx) gP 46 #[.int .i64 p.id,.string p.path,.string p.digest,.int .i64 p.opened,.int .i64 p.expires,.slice va vl vc]:=by
   unfold At
   rw[lsW_other _ _ _ _ _ _ _ _ _ _ _ gP hpo hpq]
   exact HPO'.out
  have huu:=UO.out.keep (w' :=lsW wB gO gQ O1 Q1 sax scx kax kcx qax qcx) (lsW_other _ _ _ _ _ _ _ _ _ _ _ mu huo huq)
  have hmm:=MO.out.keep (w' :=lsW wB gO gQ O1 Q1 sax scx kax kcx qax qcx) (lsW_other _ _ _ _ _ _ _ _ _ _ _ ml hmo hmq)
  have hdr:∀ W:World,Below W.heap.size W W.drew:=fun W=>(Below.refl _ _).drew
  have L9:=zh (hlp.below (hdr _));have P9:=zh (hpp.below (hdr _) hpp.lt);have U9:=zh (huu.below (hdr _) huu.lt);have M9:=zh (hmm.below (hdr _) hmm.lt);have B9:=zh hbo.drew
  clear hlp hbo hpp huu hmm hdr hpo hpq huo huq hmo hmq q0c q1c o0c o1c o2c q0d q1d o0d o1d o2d q0f q1f o0f o1f o2f hne hne' HXO hx1 hx2 hx3 hx4 LN LO HBO HPO' UO MO HN
  go_upto_region 22 with fail
  have hLW:(((((wB.setCell ⟨gQ,0,none⟩ (.int .i64 Q1.next)).setCell ⟨gQ,1,none⟩ (.slice qax Q1.props.length qcx)).setCell ⟨gO,0,none⟩ (.int .i64 O1.count)).setCell ⟨gO,1,none⟩ (.slice sax O1.spaces.length scx)).setCell ⟨gO,2,none⟩ (.slice kax O1.keys.length kcx)).drew=(lsW wB gO gQ O1 Q1 sax scx kax kcx qax qcx).drew:=rfl
  rw[hLW]
  clear hLW
  generalize (lsW wB gO gQ O1 Q1 sax scx kax kcx qax qcx).drew=wV at*
  have hlk2:=HLK.out wV U9.out
  have hkm:k<maxLen:=by have:=H6.out;unfold maxLen;omega
  have nuO:gO≠mu:=U9.out.ne_at L9.out.atO;have nuQ:gQ≠mu:=U9.out.ne_at L9.out.atQ;have nuP:gP≠mu:=U9.out.ne_at P9.out
  have nmO:gO≠ml:=M9.out.ne_at L9.out.atO;have nmQ:gQ≠ml:=M9.out.ne_at L9.out.atQ;have nmP:gP≠ml:=M9.out.ne_at P9.out
  go_upto_region 23 with (at_mapUpdate;go_must (refine wp_uupd rfl _ _ _ 63 3 rfl Tryz.underlying63 U9.out hkm rfl (B:Int) (.int .i64 ((n1:Int)+1)) rfl rfl HOK.out ?_);intro wM hmu2 hg2)
  have kee:∀ {i:Nat},i≠mu->i<wV.heap.size->wM.heap[i]? = wV.heap[i]? :=fun hi hl=>hg2.block _ hl (fun e=>hi (by simpa using e))
  have LA:=zh (L9.out.grown U9.out.noStr nuO nuQ hg2)
  have PA:=zh (show At wM gP 46 #[.int .i64 p.id,.string p.path,.string p.digest,.int .i64 p.opened,.int .i64 p.expires,.slice va vl vc] by unfold At;rw[kee nuP P9.out.lt];exact P9.out)
  have UA:=zh hmu2
  have MA:=zh (M9.out.keep (w' :=wM) (kee (fun e=>HWM.out.2.2 e.symm) M9.out.lt))
  have BA:=zh (B9.out.grown hg2 B9.out.size (fun i hi=>by cases hi;exact HWM.out.1))
  clear hmu2 hg2 kee hlk2 L9 P9 U9 M9 B9
  go_upto_region 24 with (at_mapUpdate;go_must (refine wp_uupd rfl _ _ _ 64 4 rfl Tryz.underlying64 MA.out hkm rfl (B:Int) (.bool ag) rfl rfl HOK.out ?_);intro wN hml2 hg2)
  have kee:∀ {i:Nat},i≠ml->i<wM.heap.size->wN.heap[i]? = wM.heap[i]? :=fun hi hl=>hg2.block _ hl (fun e=>hi (by simpa using e))
  have LC:=zh (LA.out.grown MA.out.noStr nmO nmQ hg2)
  have PC:=zh (show At wN gP 46 #[.int .i64 p.id,.string p.path,.string p.digest,.int .i64 p.opened,.int .i64 p.expires,.slice va vl vc] by unfold At;rw[kee nmP PA.out.lt];exact PA.out)
  have UC:=zh (UA.out.keep (w' :=wN) (kee HWM.out.2.2 UA.out.lt))
  have MC:=zh hml2
  have BC:=zh (BA.out.grown hg2 BA.out.size (fun i hi=>by cases hi;exact HWM.out.2.1))
  clear hml2 hg2 kee LA PA UA MA BA nuO nuQ nuP nmO nmQ nmP
  obtain⟨l2,hl2⟩:∃ x,x=Own.updB l B ag:=⟨_,rfl⟩
  obtain⟨u2,hu2⟩:∃ x,x=Own.updN u B:=⟨_,rfl⟩
  have hfu2:∀ b:Nat,(uput fU B (.int .i64 ((n1:Int)+1)) b).getD (.int .i64 0)=.int .i64 (u2 b):=fun b=>by
   unfold uput
   rw[hu2]
   unfold Own.updN
   by_cases e:b=B
   ·subst e
    rw[if_pos rfl,if_pos rfl,HN1.out]
    simp
   ·rw[if_neg (by omega),if_neg e]
    exact ST.out.hu b
  have hfm2:∀ j:Int,uput fL B (.bool ag) j=if 0<=j/\0<u2 j.toNat then some (.bool (l2 j.toNat)) else none:=fun j=>by
   unfold uput
   rw[hu2,hl2]
   unfold Own.updN Own.updB
   by_cases e:j=(B:Int)
   ·subst e
    rw[if_pos rfl,if_pos (by rw[Int.toNat_natCast,if_pos rfl];omega),Int.toNat_natCast,if_pos rfl]
   ·rw[if_neg (fun h=>e h.symm),ST.out.hm j]
    by_cases h0:0<=j
    ·have e2:j.toNat≠B:=by omega
     rw[if_neg e2,if_neg e2]
    ·rw[if_neg (fun h=>h0 h.1),if_neg (fun h=>h0 h.1)]
  obtain⟨fU2,hfU2⟩:∃ f,f=uput fU B (.int .i64 ((n1:Int)+1)):=⟨_,rfl⟩
  obtain⟨fL2,hfL2⟩:∃ f,f=uput fL B (.bool ag):=⟨_,rfl⟩
  have hst5:=HSTEP.out
  rw[<- hu2,<- hl2] at hst5
  rw[<- hfU2] at UC
  simp only[<- hfU2] at hfu2
  rw[<- hfL2] at MC
  simp only[<- hfL2] at hfm2
  have HST:=zh hst5;have HFU:=zh hfu2;have HFM:=zh hfm2
  clear hst5 hfu2 hfm2 hfU2 hfL2 hu2 hl2 hkm ST HSTEP HLK HVV HLN HFT HN1 LR HPR HBR
  go_wp2_with (at_range;go_must (refine wp_urange rfl _ _ 4 rfl Tryz.underlying64 MC.out rfl ?_);intro wR cnt hrg hcn hg2 hsz2)
  have hb2:Below wN.heap.size wN wR:=⟨hg2.os,hg2.tape,hg2.output,hg2.size,fun i hi=>hg2.block i hi (by simp)⟩
  obtain⟨r,hr⟩:∃ r,r=wN.heap.size:=⟨_,rfl⟩
  rw[<- hr] at hrg ⊢
  have HR0:=zh hrg;have HR1:=zh hb2;have HCN:=zh hcn;have HRR:=zh hr
  clear hrg hcn hg2 hsz2 hb2 hr
  go_frame
  go_loopw [23,24] (fun y z wq=>∃ done cn,Urange wq ml r (k+1) fL2 done cn/\done.length+cn<=k+1/\y=.int .i64 ((done.filter fun j=>l2 j.toNat).length:Nat)/\z=.int .i64 ((done.filter fun j => !l2 j.toNat).length:Nat)/\Below wN.heap.size wN wq) (fun _ _ wq=>wq.rangeLeft ml r)
  case atStart=>exact⟨[],cnt,HR0.out,by simpa using HCN.out,rfl,rfl,HR1.out⟩
  case round=>
   obtain⟨done,cn,hrg,hcn,rfl,rfl,hb⟩:=hrel
   have HRG:=zh hrg;have HCD:=zh hcn;have HBQ:=zh hb
   clear hrg hcn hb HR0 HR1 HCN
   have hk6:=H6.out
   go_wp2_with (at_next;go_must (refine wp_unext rfl _ rfl rfl HRG.out ?_ ?_))
   ·intro hall
    have hm3:∀ j:Int,j∈done↔∃ b:Nat,b<3/\j=(b:Int)/\0<u2 b:=fun j=>by
     rw[<- hall j,HFM.out j]
     constructor
     ·intro h
      by_cases hj:0<=j/\0<u2 j.toNat
      ·refine⟨j.toNat,?_,by omega,hj.2⟩
       have h3:=HST.out.un j.toNat
       omega
      ·rw[if_neg hj] at h;cases h
     ·rintro⟨b,hb,rfl,h0⟩
      rw[if_pos ⟨by omega,by rw[Int.toNat_natCast];exact h0⟩]
      rfl
    have hcd:=Own.count_done (u:=u2) (l:=l2) HRG.out.nodup hm3 th
    have hagr:=HST.out.agreed (th:=th) (nx:=1) (p:=p) hc3 ht1 ht2 HPO.out (by rw[HPID.out];decide) (by decide)
    rw[HPID.out,<- HO1.out,<- HQ1.out,HST.out.eq,hcd] at hagr
    have hfit:=HST.out.fits hc3 (by omega) th 1 p
    rw[<- HO1.out,<- HQ1.out] at hfit
    have hagc:=rvAgreedX_any Q1 O1 0 _ _ _ wr (HMX.out.below (BC.out.trans (HBQ.out.mono BC.out.size))) (LC.out.below HBQ.out).ps (LC.out.below HBQ.out).sp (LC.out.below HBQ.out).ks hfit.lp hfit.lv (by have:=hfit.ls;omega) (by have:=hfit.lk;omega) (fun x hx=>by have:=hfit.lm x hx;omega)
    rw[hagr] at hagc
    obtain⟨no,hno⟩:∃ m,(done.filter fun j => !l2 j.toNat).length=m:=⟨_,rfl⟩
    obtain⟨yes,hyes⟩:∃ m,(done.filter fun j=>l2 j.toNat).length=m:=⟨_,rfl⟩
    rw[hno,hyes] at hagc ⊢
    have HAGC:=zh hagc
    clear hm3 hcd hagr hfit hagc hno hyes hall
    have LCq:=LC.out.below HBQ.out
    obtain⟨q0c,q1c⟩:=LCq.atQ.c2;obtain⟨o0c,o1c,o2c⟩:=LCq.atO.c3
    clear LCq
    go_wp2_with fail
    refine HAGC.out.mono ?_
    rintro e wZ ⟨rfl,hb⟩
    have HBZ:=zh (HBQ.out.trans (hb.mono HBQ.out.size))
    clear hb HAGC q0c q1c o0c o1c o2c
    have fin:∀ x:Int,x=((k+1:Nat):Int)->(∃ k_1:Nat,k_1<=bs.length/\Value.int .i64 x=.int .i64 k_1/\DecI w gO gQ gP mu ml c th p va vl vc k_1 wZ)/\bs.length - (intOf (.int .i64 x)).toNat<bs.length - (intOf (.int .i64 (k:Int))).toNat:=fun x hx=>by
     subst hx
     have hl:=LC.out.below HBZ.out
     rw[HO1.out,HQ1.out] at hl
     refine⟨⟨k+1,by omega,rfl,⟨⟨u2,l2,V2,K2,fU2,fL2,_,_,_,_,_,_,HST.out,hl,UC.out.below HBZ.out UC.out.lt,MC.out.below HBZ.out MC.out.lt,HFU.out,HFM.out⟩,PC.out.below HBZ.out PC.out.lt,BC.out.trans (HBZ.out.mono BC.out.size)⟩⟩,?_⟩
     simp only[intOf]
     omega
    have HFIN:=zh fin
    clear fin
    by_cases h0:no=0
    ·subst h0
     by_cases h1:th<=(yes:Int)
     ·have d1:decide (th<=(yes:Int))=true:=decide_eq_true h1
      go_wp2_with fail
      exact HFIN.out _ (by omega)
     ·have d1:decide (th<=(yes:Int))=false:=decide_eq_false h1
      go_wp2_with fail
      exact HFIN.out _ (by omega)
    ·have d0:decide (no=0)=false:=decide_eq_false h0
     have d0' : ((no:Int)==0)=false:=by simp;omega
     go_wp2_with fail
     exact HFIN.out _ (by omega)
   ·intro key v w3 cnt' hok hfk hkd hrg2 hlt2 hg3 hsz3 hen
    have hv:=hfk
    rw[HFM.out key] at hv
    by_cases hkz:0<=key/\0<u2 key.toNat
    ·rw[if_pos hkz] at hv
     cases hv
     obtain⟨bv,hbv⟩:∃ bv,l2 key.toNat=bv:=⟨_,rfl⟩
     rw[hbv] at hen ⊢
     have f1:((done++[key]).filter fun j=>l2 j.toNat).length=(done.filter fun j=>l2 j.toNat).length+(if bv then 1 else 0):=by
      rw[List.filter_append,List.length_append]
      cases bv <;> simp[hbv]
     have f2:((done++[key]).filter fun j => !l2 j.toNat).length=(done.filter fun j => !l2 j.toNat).length+(if bv then 0 else 1):=by
      rw[List.filter_append,List.length_append]
      cases bv <;> simp[hbv]
     have hle1:=List.length_filter_le (fun j:Int=>l2 j.toNat) done
     have hle2:=List.length_filter_le (fun j:Int => !l2 j.toNat) done
     have hcd:=HCD.out
     have hb3:=HBQ.out.grown hg3 HBQ.out.size (fun i hi=>by cases hi;rw[HRR.out];exact Nat.le_refl _)
     have HF1:=zh f1;have HF2:=zh f2;have HR3:=zh hrg2;have HB3:=zh hb3;have HL3:=zh hlt2;have HLE:=zh HRG.out.left_eq
     obtain⟨no,hno⟩:∃ m,(done.filter fun j => !l2 j.toNat).length=m:=⟨_,rfl⟩
     obtain⟨yes,hyes⟩:∃ m,(done.filter fun j=>l2 j.toNat).length=m:=⟨_,rfl⟩
     rw[hno] at HF2 hle2 ⊢
     rw[hyes] at HF1 hle1 ⊢
     have hno7:no<=100:=by omega
     have hye7:yes<=100:=by omega
     clear f1 f2 hrg2 hb3 hlt2 hfk hkd hno hyes hkz hbv hg3 hsz3
     cases bv with
     | true =>
       go_wp2_with fail
       refine⟨⟨done++[key],cnt',HR3.out,by rw[List.length_append];have:=HL3.out;simp;omega,by rw[HF1.out];simp,by rw[HF2.out];simp,HB3.out⟩,?_⟩
       rw[HR3.out.left_eq,HLE.out]
       exact HL3.out
     | false =>
       go_wp2_with fail
       refine⟨⟨done++[key],cnt',HR3.out,by rw[List.length_append];have:=HL3.out;simp;omega,by rw[HF1.out];simp,by rw[HF2.out];simp,HB3.out⟩,?_⟩
       rw[HR3.out.left_eq,HLE.out]
       exact HL3.out
    ·rw[if_neg hkz] at hv
     cases hv
end
section
open Go Go.ChangeShapes Go.WideShapes Go.RowKit Go.Maps
section
variable {H:Type} {enc:TypeId × Value->H}
theorem returnsInHanded_and_shaped {a:Assume} {C:Checked} {os:Os} {f:FuncId} {fn:Func} {s:ChangeSpec} {conds:List PathCond} {apart fresh handsOn again:Bool} {X:World->Array Value->Prop}
 (hX:∀ (w w' : World) (args:Array Value),w.heap=w'.heap->X w args->X w' args)
 (own:ownKnob C.prog.godebug=none) (started:os.Started) (noInit:C.prog.inits.idxOf? f=none) (hfn:C.prog.funcs[f]? = some fn)
 (witness : ∃ (w : World) (tape : Tape) (i : Input),w.os = os ∧ (w.forCall tape i).Shaped C.prog ∧ i.vars = [] ∧ Input.okWide C.prog (w.forCall tape i) .any w.heap.size f i ∧
   ((s.pre enc C.prog fn conds apart (w.forCall tape i).memory i.args/\X (w.forCall tape i).memory i.args)/\sizedMet enc C.prog fn (OpenSpec.ofChange s) apart (w.forCall tape i).memory i.args)/\a.holds C.prog (lone (Frame.enter C.prog f i.args .normal) [] (w.forCall tape i)))
 (contract : ∀ (W : World) (base : Nat) (args : Array Value) (ds gs : List (DataW H)) (before : List MemPlace),
   (∀ (j:Nat) t v,fn.params[j]? = some t->args[j]? = some v->Value.okWide C.prog W .any base t v)->
   DataW.Whole enc C.prog fn.params.toList s.vars apart W args.toList ds gs before->
   conds.all (PathCond.test C.prog ⟨fn.params.toList,ds,s.plain.varTypes C.prog,gs⟩)=true->
   (DataW.weightsEach C.prog (fn.params.toList++s.plain.varTypes C.prog) (ds++gs)).all (· <= reachBytes)=true->X W args->W.ShapedOpen C.prog->
   a.holds C.prog (lone (Frame.enter C.prog f args .normal) [] W)->
   Calls C.prog f args W fun e W' => ∃ v,e=.returned v/\s.post enc C.prog fn apart fresh handsOn again W args v W'):
 ReturnsInHanded a C os f .any (fun w args=>(s.pre enc C.prog fn conds apart w args/\X w args)/\sizedMet enc C.prog fn (OpenSpec.ofChange s) apart w args) (s.post enc C.prog fn apart fresh handsOn again):=by
 refine returnsInHanded_of_calls own started noInit witness ?_
 intro w tape i _ hsh _ hok hpre hholds
 obtain⟨_,_,_,fn',hfn',_,_,_,_,hval⟩:=hok
 have e:fn' = fn:=Option.some.inj (hfn'.symm.trans hfn)
 subst e
 obtain⟨⟨⟨ds,gs,before,hw,hc⟩,hx⟩,hz⟩:=hpre
 have hw' :=DataW.Whole.of_heap (w' :=w.forCall tape i) (by rfl) hw
 refine(contract (w.forCall tape i) w.heap.size i.args ds gs before hval hw' hc (hz.weights hw) (hX _ _ _ (by rfl) hx) hsh hholds).mono fun e W' ⟨v,he,hp⟩=>?_
 subst he
 exact ChangeSpec.post_blind hp
theorem maxL_of {W:World} (h:W.ShapedOpen Tryz.prog):MaxL W:=
 Go.Proofs.cell_of_shapedOpen_int (zero:=#[.int .i64 0]) (t:=3) h (of_decide_eq_true (by kernel_rfl)) (by kernel_rfl) rfl (by kernel_rfl) (by kernel_rfl) Tryz.underlying3
end
end
section
open Go Go.ChangeShapes Go.WideShapes Go.RowKit Go.Maps
theorem cellsU8:Tryz.prog.cellsOf 5=1:=by kernel_rfl
theorem byts_in {H:Type} {enc:TypeId × Value->H} {W:World} {a:Option Addr} {len cap:Nat} {d:DataW H} {p:List MemPlace} (h:DataW.Trod enc Tryz.prog W 0 (fun _=>true) true 60 (.slice a len cap) d p):
 ∃ bs:List Int,BytC W (.slice a len cap) bs:=by
 obtain⟨fuel,hf⟩:=h
 rcases open_ints Tryz.underlying60 Tryz.underlying5 cellsU8 hf with ⟨hcs,_⟩ | ⟨a',len',cap',zs,hcs,_,hl,hm,hz,hx,hcell,hwz⟩
 ·have e:Value.slice a len cap=.slice none 0 0:=by simpa [Value.cells] using hcs
  rw[e]
  exact⟨[],RowsC.nil 0 none,fun b hb=>(by cases hb)⟩
 ·have e:Value.slice a len cap=.slice (some a') len' cap' :=by simpa [Value.cells] using hcs
  rw[e]
  have hz' : zs.length=cap' :=by simpa using hz
  have hlen:(zs.take len').length=len' :=by rw[List.length_take];omega
  refine⟨zs.take len',⟨by rw[List.length_map,Nat.mul_one],some a',cap',by rw[hlen],?_⟩,fun b hb=>?_⟩
  ·rw[hlen]
   by_cases h0:len' = 0
   ·exact .inl h0
   ·have hc0:=hcell 0 (by omega)
    obtain⟨b,o,sp⟩:=a'
    have hspot:sp=none:=by simpa [Addr.add] using World.cell?_spot hc0
    subst hspot
    have ad:∀ q,(⟨b,o,none⟩:Addr).add q=⟨b,o+q,none⟩:=fun q=>by unfold Addr.add;split <;> simp_all
    refine .inr ⟨b,o,rfl,?_,fun j u hj=>?_⟩
    ·rw[ad] at hc0
     exact block_lt hc0
    ·have hjl : j < len' :=by
      have:=(List.getElem?_eq_some_iff.1 hj).1
      rw[List.length_map,hlen] at this
      exact this
     have hc:=hcell j (by omega)
     rw[ad] at hc
     rw[hc]
     rw[List.getElem?_map,List.getElem?_take,if_pos hjl] at hj
     have hjz:j<zs.length:=by omega
     rw[List.getElem?_eq_getElem hjz] at hj
     simp only[Option.map_some,Option.some.injEq] at hj
     rw[<- hj]
     simp[List.getD_eq_getElem?_getD,hjz]
  ·have hw:=hwz b (List.mem_of_mem_take hb)
   simp[Lit.wf,IntKind.has] at hw
   have h1:IntKind.u8.min=0:=by decide
   have h2:IntKind.u8.max=255:=by decide
   omega
end
end Go.Proofs.YtnijhlphcjjpbaaGreatDoor
