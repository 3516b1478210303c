/- The reference's reviews: a vote. -/
import Derived.HandedShaped
import Derived.OpenShut
import Derived.ProofKit
import Derived.SliceStrings
import Derived.Stop.Joined
import Derived.Deep.Strs
import Derived.Deep.SlicePairs
import Derived.ChangeMaps5
import Derived.Test.YtnijhlphcjjpbaaGreatDoorRows
import Derived.Test.YtnijhlphcjjpbaaGreatDoorCards
import Derived.Test.YtnijhlphcjjpbaaGreatDoorTie
import Derived.LaidMore
import Derived.Lay
import Derived.SevenTiedAt
import Derived.Test.YtnijhlphcjjpbaaGreatDoorShkVo8
set_option linter.unusedVariables false
set_option linter.unusedSimpArgs false
set_option maxRecDepth 100000
set_option maxHeartbeats 16000000
namespace Go.Proofs.YtnijhlphcjjpbaaGreatDoor
section
open Go Go.RowKit Go.Maps
theorem Yz (q:Own.Queue)(o:Own.Ak)(id:Int)(ag:Bool)(ap:Own.AZ)(qv sv kv cv pv:Value)(w:World)(hP:Own.A9 w qv q.props)(hS:Own.AJ w sv o.spaces)(hK:Own.Bo w kv o.keys)(hcs:Ay w cv ap.sig.chains)(hps:Ay w pv ap.sig.path)(hcap:CS pv)
 (hlp:q.props.length<=1000000) (hlv:∀ x∈q.props,x.Al.length<=3000000/\x.path.size<=140737488355328) (hls:o.spaces.length<=140737488355328) (hlk:o.keys.length<=800000) (hlm:∀ x∈o.spaces,x.members.length<=3000000/\x.pre.size<=140737488355000)
 (hal:ap.name.size<=140737488355328/\ap.sig.chains.length<=140737488355328/\ap.sig.path.length<=140737488355328):
 Calls Tryz.prog 26 #[.agg #[.int .i64 q.next,qv],.agg #[.int .i64 o.count,sv,kv],.int .i64 id,.bool ag,.agg #[.string ap.name,.int .i64 ap.sig.index,cv,pv]] w (Ns w (Own.Gm q o id ag ap)):=by
 obtain⟨R,hR⟩:∃ R,R=Own.Gm q o id ag ap:=⟨_,rfl⟩
 obtain⟨Q,hQ⟩:∃ Q,Q=Ns w R:=⟨_,rfl⟩
 rw[<- hR,<- hQ]
 have HQ:=zh hQ;clear hQ
 unfold Own.Gm Own.Ej at hR
 obtain⟨qa,qc,rfl⟩:=hP.len
 obtain⟨sa,sc,rfl⟩:=hS.len
 obtain⟨ka,kc,rfl⟩:=hK.len
 obtain⟨ca,cc,rfl⟩:=hcs.len
 obtain⟨pa,pc,rfl⟩:=hps.len
 have hvq:=fun W (hW:Below w.heap.size w W)=>Vv q (.slice qa q.props.length qc) W (hP.below hW) (by omega) (fun p hp=>by have:=hlv p hp;omega)
 have hvo:=fun W (hW:Below w.heap.size w W)=>MZ o (.slice sa o.spaces.length sc) (.slice ka o.keys.length kc) W (hS.below hW) (hK.below hW) hls (by omega) (fun x hx=>by have:=hlm x hx;omega)
 have hau:=fun(s:ByteArray) W (hW:Below w.heap.size w W) hss=>Oh o s (.slice sa o.spaces.length sc) (.slice ka o.keys.length kc) W (hS.below hW) (hK.below hW) hls (by omega) (fun x hx=>by have:=hlm x hx;omega) hss
 have hqp:=fun(h:Own.AY q=true) (p:Own.Aa) (hp:p∈q.props)=>Own.RS h hp
 have ZW:Own.AY q=true->q.props.Pairwise fun x y=>x.id<y.id:=fun h=>Own.Us h
 have hkeys:Own.AQ o=true->Own.Srt Own.KeyUse.pub o.keys:=fun h=>Own.MU h
 have hmem:∀ s,Own.AQ o=true->Own.authority o s=none\/∃ sp∈o.spaces,Own.authority o s=some sp:=fun s _=>by
  cases h:Own.authority o s with
  | none=>exact .inl rfl
  | some sp=>exact .inr ⟨sp,(Own.Gs h).2.2.2,rfl⟩
 obtain⟨QB,hQB⟩:∃ b,b=Own.AY q:=⟨_,rfl⟩
 obtain⟨OB,hOB⟩:∃ b,b=Own.AQ o:=⟨_,rfl⟩
 simp only[<- hQB,<- hOB] at hvq hvo hR hqp ZW hkeys hmem
 obtain⟨nx,L⟩:=q
 dsimp only at*
 obtain⟨AU,hAU⟩:∃ AU,AU=Own.authority o:=⟨_,rfl⟩
 obtain⟨UR,hUR⟩:∃ UR:Own.Space->ByteArray->Except Int (Own.Member × List Own.KeyUse),UR=fun s m=>Own.Fw o s m ap:=⟨_,rfl⟩
 have hur:∀ s m,Own.Fw o s m ap=UR s m:=fun s m=>by rw[hUR]
 have fZ:∀ pre M th msg,Own.FY ⟨pre,Own.Kl ap.name M,1⟩ msg o.keys [ap]=match UR ⟨pre,M,th⟩ msg with|.error c=>.error c|.ok x=>.ok x.2:=fun pre M th msg=>by rw[<- hur];exact Own.Yy o pre M th msg ap
 have hwho:∀ pre M th msg m K,UR ⟨pre,M,th⟩ msg=.ok (m,K)->(Own.Kl ap.name M)[0]? = some m:=fun pre M th msg m K h=>Own.mE (by rw[hur];exact h)
 have P9:∀ s m c,UR s m=.error c->(c != 0)=true:=fun s m c h=>by
  rw[<- hur] at h
  unfold Own.Fw at h
  split at h
  ·cases h;rfl
  ·split at h
   ·split at h
    ·cases h;rfl
    ·cases h
   ·cases h;rfl
 have kI:=zh P9;have zH:=zh fZ;have zI:=zh hwho;clear P9 fZ hwho
 have hR2:R=if (QB&&OB)=false then (Own.Queue.none,Own.Ak.none,1) else match L.find? (fun p=>decide (p.id=id)) with
  | none=>(Own.Queue.none,Own.Ak.none,6)
  | some p => match AU p.path with
    | none=>(Own.Queue.none,Own.Ak.none,6)
    | some s => match UR s (Own.AX p ag) with
      | .error c=>(Own.Queue.none,Own.Ak.none,c)
      | .ok (m,K)=>if 1024<(Own.BI p.Al ⟨ap.name,m.pub,ag⟩).length then (Own.Queue.none,Own.Ak.none,7) else (⟨nx,Own.MK L (Own.Db p (Own.BI p.Al ⟨ap.name,m.pub,ag⟩))⟩,{ o with keys:=K },0):=by
  rw[hR,hAU]
  split
  ·rfl
  ·cases L.find? (fun p=>decide (p.id=id)) with
   | none=>rfl
   | some p =>
     dsimp only
     cases Own.authority o p.path with
     | none=>rfl
     | some s =>
       dsimp only
       rw[<- hur]
       unfold Own.Fw
       cases Own.find s.members ap.name with
       | none=>rfl
       | some m =>
         dsimp only
         cases hv:Sig.verify m.pub (Own.AX p ag) ap.sig with
         | false=>rfl
         | true =>
           by_cases hi:ap.sig.index<Own.Bf o.keys m.pub
           ·simp[hi]
           ·simp only[Bool.true_eq_false,hi,if_false,if_true]
            rfl
 simp only[<- hAU] at hau hmem
 have HVQ:=zh hvq;have HVO:=zh hvo;have oD:=zh hau;have HQP:=zh hqp;have oF:=zh ZW;have HR:=zh hR2;have HP:=zh hP;have HLV:=zh hlv;have HAU:=zh hAU;have zJ:=zh hkeys;have zb1:=zh hmem
 have HSS:=zh hS;have HKK:=zh hK;have HLM:=zh hlm;have HCS:=zh hcs;have HPS:=zh hps
 have HCAP:=zh hcap
 clear hvq hvo hau hqp ZW hR hR2 hS hK hlm hQB hOB hAU hUR hur hP hlv hcs hps hkeys hmem hcap
 obtain⟨nm,⟨ix,chs,pth⟩⟩:=ap
 obtain⟨cnt,S,K⟩:=o
 dsimp only at*
 have F1:=zh (show Ap w _ [(24,#[.int .i64 nx,.slice qa L.length qc]),(38,#[.int .i64 cnt,.slice sa S.length sc,.slice ka K.length kc]),(43,#[.string nm,.int .i64 ix,.slice ca chs.length cc,.slice pa pth.length pc]),(24,#[.int .i64 0,.slice none 0 0]),(38,#[.int .i64 0,.slice none 0 0,.slice none 0 0]),(24,#[.int .i64 0,.slice none 0 0]),(38,#[.int .i64 0,.slice none 0 0,.slice none 0 0])] from((((((((BL.nil w).push 24 #[.int .i64 nx,.slice qa L.length qc]).push 38 #[.int .i64 cnt,.slice sa S.length sc,.slice ka K.length kc]).push 43 #[.string nm,.int .i64 ix,.slice ca chs.length cc,.slice pa pth.length pc]).push 24 #[.int .i64 0,.slice none 0 0]).push 38 #[.int .i64 0,.slice none 0 0,.slice none 0 0]).push 24 #[.int .i64 0,.slice none 0 0]).push 38 #[.int .i64 0,.slice none 0 0,.slice none 0 0]).boxes)
 have x50:(((((((w.alloc (.cells #[.int .i64 nx,.slice qa L.length qc] 24)).alloc (.cells #[.int .i64 cnt,.slice sa S.length sc,.slice ka K.length kc] 38)).alloc (.cells #[.string nm,.int .i64 ix,.slice ca chs.length cc,.slice pa pth.length pc] 43)).alloc (.cells #[.int .i64 0,.slice none 0 0] 24)).alloc (.cells #[.int .i64 0,.slice none 0 0,.slice none 0 0] 38)).alloc (.cells #[.int .i64 0,.slice none 0 0] 24)).alloc (.cells #[.int .i64 0,.slice none 0 0,.slice none 0 0] 38)).cell? ⟨w.heap.size+1+1+1+1+1,0,none⟩=some (.int .i64 0):=F1.out.cell 5 0 rfl rfl
 have Tq:(((((((w.alloc (.cells #[.int .i64 nx,.slice qa L.length qc] 24)).alloc (.cells #[.int .i64 cnt,.slice sa S.length sc,.slice ka K.length kc] 38)).alloc (.cells #[.string nm,.int .i64 ix,.slice ca chs.length cc,.slice pa pth.length pc] 43)).alloc (.cells #[.int .i64 0,.slice none 0 0] 24)).alloc (.cells #[.int .i64 0,.slice none 0 0,.slice none 0 0] 38)).alloc (.cells #[.int .i64 0,.slice none 0 0] 24)).alloc (.cells #[.int .i64 0,.slice none 0 0,.slice none 0 0] 38)).frozen? ⟨w.heap.size+1+1+1+1+1,0,none⟩=false:=F1.out.free 5 0 rfl
 have x51:(((((((w.alloc (.cells #[.int .i64 nx,.slice qa L.length qc] 24)).alloc (.cells #[.int .i64 cnt,.slice sa S.length sc,.slice ka K.length kc] 38)).alloc (.cells #[.string nm,.int .i64 ix,.slice ca chs.length cc,.slice pa pth.length pc] 43)).alloc (.cells #[.int .i64 0,.slice none 0 0] 24)).alloc (.cells #[.int .i64 0,.slice none 0 0,.slice none 0 0] 38)).alloc (.cells #[.int .i64 0,.slice none 0 0] 24)).alloc (.cells #[.int .i64 0,.slice none 0 0,.slice none 0 0] 38)).cell? ⟨w.heap.size+1+1+1+1+1,1,none⟩=some (.slice none 0 0):=F1.out.cell 5 1 rfl rfl
 have Tt:(((((((w.alloc (.cells #[.int .i64 nx,.slice qa L.length qc] 24)).alloc (.cells #[.int .i64 cnt,.slice sa S.length sc,.slice ka K.length kc] 38)).alloc (.cells #[.string nm,.int .i64 ix,.slice ca chs.length cc,.slice pa pth.length pc] 43)).alloc (.cells #[.int .i64 0,.slice none 0 0] 24)).alloc (.cells #[.int .i64 0,.slice none 0 0,.slice none 0 0] 38)).alloc (.cells #[.int .i64 0,.slice none 0 0] 24)).alloc (.cells #[.int .i64 0,.slice none 0 0,.slice none 0 0] 38)).frozen? ⟨w.heap.size+1+1+1+1+1,1,none⟩=false:=F1.out.free 5 1 rfl
 have x60:(((((((w.alloc (.cells #[.int .i64 nx,.slice qa L.length qc] 24)).alloc (.cells #[.int .i64 cnt,.slice sa S.length sc,.slice ka K.length kc] 38)).alloc (.cells #[.string nm,.int .i64 ix,.slice ca chs.length cc,.slice pa pth.length pc] 43)).alloc (.cells #[.int .i64 0,.slice none 0 0] 24)).alloc (.cells #[.int .i64 0,.slice none 0 0,.slice none 0 0] 38)).alloc (.cells #[.int .i64 0,.slice none 0 0] 24)).alloc (.cells #[.int .i64 0,.slice none 0 0,.slice none 0 0] 38)).cell? ⟨w.heap.size+1+1+1+1+1+1,0,none⟩=some (.int .i64 0):=F1.out.cell 6 0 rfl rfl
 have Tv:(((((((w.alloc (.cells #[.int .i64 nx,.slice qa L.length qc] 24)).alloc (.cells #[.int .i64 cnt,.slice sa S.length sc,.slice ka K.length kc] 38)).alloc (.cells #[.string nm,.int .i64 ix,.slice ca chs.length cc,.slice pa pth.length pc] 43)).alloc (.cells #[.int .i64 0,.slice none 0 0] 24)).alloc (.cells #[.int .i64 0,.slice none 0 0,.slice none 0 0] 38)).alloc (.cells #[.int .i64 0,.slice none 0 0] 24)).alloc (.cells #[.int .i64 0,.slice none 0 0,.slice none 0 0] 38)).frozen? ⟨w.heap.size+1+1+1+1+1+1,0,none⟩=false:=F1.out.free 6 0 rfl
 have x61:(((((((w.alloc (.cells #[.int .i64 nx,.slice qa L.length qc] 24)).alloc (.cells #[.int .i64 cnt,.slice sa S.length sc,.slice ka K.length kc] 38)).alloc (.cells #[.string nm,.int .i64 ix,.slice ca chs.length cc,.slice pa pth.length pc] 43)).alloc (.cells #[.int .i64 0,.slice none 0 0] 24)).alloc (.cells #[.int .i64 0,.slice none 0 0,.slice none 0 0] 38)).alloc (.cells #[.int .i64 0,.slice none 0 0] 24)).alloc (.cells #[.int .i64 0,.slice none 0 0,.slice none 0 0] 38)).cell? ⟨w.heap.size+1+1+1+1+1+1,1,none⟩=some (.slice none 0 0):=F1.out.cell 6 1 rfl rfl
 have Tw:(((((((w.alloc (.cells #[.int .i64 nx,.slice qa L.length qc] 24)).alloc (.cells #[.int .i64 cnt,.slice sa S.length sc,.slice ka K.length kc] 38)).alloc (.cells #[.string nm,.int .i64 ix,.slice ca chs.length cc,.slice pa pth.length pc] 43)).alloc (.cells #[.int .i64 0,.slice none 0 0] 24)).alloc (.cells #[.int .i64 0,.slice none 0 0,.slice none 0 0] 38)).alloc (.cells #[.int .i64 0,.slice none 0 0] 24)).alloc (.cells #[.int .i64 0,.slice none 0 0,.slice none 0 0] 38)).frozen? ⟨w.heap.size+1+1+1+1+1+1,1,none⟩=false:=F1.out.free 6 1 rfl
 have x62:(((((((w.alloc (.cells #[.int .i64 nx,.slice qa L.length qc] 24)).alloc (.cells #[.int .i64 cnt,.slice sa S.length sc,.slice ka K.length kc] 38)).alloc (.cells #[.string nm,.int .i64 ix,.slice ca chs.length cc,.slice pa pth.length pc] 43)).alloc (.cells #[.int .i64 0,.slice none 0 0] 24)).alloc (.cells #[.int .i64 0,.slice none 0 0,.slice none 0 0] 38)).alloc (.cells #[.int .i64 0,.slice none 0 0] 24)).alloc (.cells #[.int .i64 0,.slice none 0 0,.slice none 0 0] 38)).cell? ⟨w.heap.size+1+1+1+1+1+1,2,none⟩=some (.slice none 0 0):=F1.out.cell 6 2 rfl rfl
 have Tx:(((((((w.alloc (.cells #[.int .i64 nx,.slice qa L.length qc] 24)).alloc (.cells #[.int .i64 cnt,.slice sa S.length sc,.slice ka K.length kc] 38)).alloc (.cells #[.string nm,.int .i64 ix,.slice ca chs.length cc,.slice pa pth.length pc] 43)).alloc (.cells #[.int .i64 0,.slice none 0 0] 24)).alloc (.cells #[.int .i64 0,.slice none 0 0,.slice none 0 0] 38)).alloc (.cells #[.int .i64 0,.slice none 0 0] 24)).alloc (.cells #[.int .i64 0,.slice none 0 0,.slice none 0 0] 38)).frozen? ⟨w.heap.size+1+1+1+1+1+1,2,none⟩=false:=F1.out.free 6 2 rfl
 go_enter Tryz.func26,Tryz.ntmps26
 go_upto_region 2 with fail
 generalize (((((((w.alloc (.cells #[.int .i64 nx,.slice qa L.length qc] 24)).alloc (.cells #[.int .i64 cnt,.slice sa S.length sc,.slice ka K.length kc] 38)).alloc (.cells #[.string nm,.int .i64 ix,.slice ca chs.length cc,.slice pa pth.length pc] 43)).alloc (.cells #[.int .i64 0,.slice none 0 0] 24)).alloc (.cells #[.int .i64 0,.slice none 0 0,.slice none 0 0] 38)).alloc (.cells #[.int .i64 0,.slice none 0 0] 24)).alloc (.cells #[.int .i64 0,.slice none 0 0,.slice none 0 0] 38))=w1 at*
 clear x50 Tq x51 Tt x60 Tv x61 Tw x62 Tx
 obtain⟨x00,x01⟩:=F1.out.Dw rfl
 go_wp2_with fail
 refine(HVQ.out w1 F1.out.under).mono ?_
 rintro e w2 ⟨rfl,hb2⟩
 have F2:=zh (F1.out.step hb2)
 (try clear x00 x01);(try clear Tq);(try clear x50);(try clear Tt);(try clear x51);(try clear Tv);(try clear x60);(try clear Tw);(try clear x61);(try clear Tx);(try clear x62)
 clear hb2
 cases QB with
 | false =>
   have HE:=zh (show R=(Own.Queue.none,Own.Ak.none,1) by rw[HR.out];rfl)
   obtain⟨x30,x31,Cz,C8⟩:=F2.out.GZ rfl
   obtain⟨x40,x41,x42,CY,CZ,Da⟩:=F2.out.LX rfl
   obtain⟨x50,x51⟩:=F2.out.eF rfl
   obtain⟨x60,x61,x62⟩:=F2.out.eG rfl
   have HXN:=zh (zi x60)
   go_wp2_with fail
   refine Lex.zn (fun k=>k=w.heap.size+1+1+1+1+1+1) [1] 3 [3] ?_
   simp only[Lex.AA,zd]
   go_wp2_with fail
   refine Lex.Mid.intro (fun k hk _=>by
    have h3:k≠w.heap.size+1+1+1:=by omega
    rw[Ad,Ad,zo h3,zo h3]) ?_
   go_wp2_with fail
   refine Lex.zk ⟨⟨rfl,HXN.out⟩,trivial⟩ ?_
   go_wp2_with fail
   have g1:=F2.out.put 3 0 (.int .i64 0) rfl
   have g2:=g1.put 3 1 (.slice none 0 0) rfl
   have g3:=g2.put 4 0 (.int .i64 0) rfl
   have g4:=g3.put 4 1 (.slice none 0 0) rfl
   have G2:=(g4.put 4 2 (.slice none 0 0) rfl).drew
   clear g1 g2 g3 g4
   refine BH rfl rfl rfl rfl (Ab (G2.at1 3 rfl) Tryz.underlying24 rfl Ao) (Ab (G2.at1 4 rfl) Tryz.underlying38 rfl Am) ?_
   rw[HQ.out,HE.out]
   exact⟨⟨_,_,_,rfl,⟨_,rfl,Ag.nil _ _⟩,Ag.nil _ _,Ag.nil _ _⟩,G2.under⟩
 | true=>
 obtain⟨x10,x11,x12⟩:=F2.out.JU rfl
 go_wp2_with fail
 refine(HVO.out w2 F2.out.under).mono ?_
 rintro e w3 ⟨rfl,hb3⟩
 have F3:=zh (F2.out.step hb3)
 (try clear x00 x01);(try clear x10 x11 x12);(try clear x30 x31 Cz C8);(try clear x40 x41 x42 CY CZ Da);(try clear Tq);(try clear x50);(try clear Tt);(try clear x51);(try clear Tv);(try clear x60);(try clear Tw);(try clear x61);(try clear Tx);(try clear x62)
 clear hb3
 cases OB with
 | false =>
   have HE:=zh (show R=(Own.Queue.none,Own.Ak.none,1) by rw[HR.out];rfl)
   obtain⟨x30,x31,Cz,C8⟩:=F3.out.GZ rfl
   obtain⟨x40,x41,x42,CY,CZ,Da⟩:=F3.out.LX rfl
   obtain⟨x50,x51⟩:=F3.out.eF rfl
   obtain⟨x60,x61,x62⟩:=F3.out.eG rfl
   have HXN:=zh (zi x60)
   go_wp2_with fail
   refine Lex.zn (fun k=>k=w.heap.size+1+1+1+1+1+1) [1] 3 [3] ?_
   simp only[Lex.AA,zd]
   go_wp2_with fail
   refine Lex.Mid.intro (fun k hk _=>by
    have h3:k≠w.heap.size+1+1+1:=by omega
    rw[Ad,Ad,zo h3,zo h3]) ?_
   go_wp2_with fail
   refine Lex.zk ⟨⟨rfl,HXN.out⟩,trivial⟩ ?_
   go_wp2_with fail
   have g1:=F3.out.put 3 0 (.int .i64 0) rfl
   have g2:=g1.put 3 1 (.slice none 0 0) rfl
   have g3:=g2.put 4 0 (.int .i64 0) rfl
   have g4:=g3.put 4 1 (.slice none 0 0) rfl
   have G2:=(g4.put 4 2 (.slice none 0 0) rfl).drew
   clear g1 g2 g3 g4
   refine BH rfl rfl rfl rfl (Ab (G2.at1 3 rfl) Tryz.underlying24 rfl Ao) (Ab (G2.at1 4 rfl) Tryz.underlying38 rfl Am) ?_
   rw[HQ.out,HE.out]
   exact⟨⟨_,_,_,rfl,⟨_,rfl,Ag.nil _ _⟩,Ag.nil _ _,Ag.nil _ _⟩,G2.under⟩
 | true=>
 have hr:=HR.out
 rw[if_neg (show ¬ (true&&true)=false by decide)] at hr
 obtain⟨x00,x01⟩:=F3.out.Dw rfl
 have HR1:=zh hr;clear hr HR
 go_wp2_with fail
 refine(Vu nx id (.slice qa L.length qc) L w3 (HP.out.below F3.out.under) (by omega)).mono ?_
 rintro e w4 ⟨⟨i,rfl,hi⟩,hb4⟩
 have F4:=zh (F3.out.step hb4)
 (try clear x00 x01);(try clear x10 x11 x12);(try clear x30 x31 Cz C8);(try clear x40 x41 x42 CY CZ Da);(try clear Tq);(try clear x50);(try clear Tt);(try clear x51);(try clear Tv);(try clear x60);(try clear Tw);(try clear x61);(try clear Tx);(try clear x62)
 clear hb4
 rcases hi with ⟨rfl,hf,_⟩|⟨j,hj,rfl,hf,hpj,_⟩
 ·have HE:=zh (show R=(Own.Queue.none,Own.Ak.none,6) by rw[HR1.out,hf])
  clear hf
  obtain⟨x30,x31,Cz,C8⟩:=F4.out.GZ rfl
  obtain⟨x40,x41,x42,CY,CZ,Da⟩:=F4.out.LX rfl
  obtain⟨x50,x51⟩:=F4.out.eF rfl
  obtain⟨x60,x61,x62⟩:=F4.out.eG rfl
  have HXN:=zh (zi x60)
  go_wp2_with fail
  refine Lex.zn (fun k=>k=w.heap.size+1+1+1+1+1+1) [1] 3 [3] ?_
  simp only[Lex.AA,zd]
  go_wp2_with fail
  refine Lex.Mid.intro (fun k hk _=>by
   have h3:k≠w.heap.size+1+1+1:=by omega
   rw[Ad,Ad,zo h3,zo h3]) ?_
  go_wp2_with fail
  refine Lex.zk ⟨⟨rfl,HXN.out⟩,trivial⟩ ?_
  go_wp2_with fail
  have g1:=F4.out.put 3 0 (.int .i64 0) rfl
  have g2:=g1.put 3 1 (.slice none 0 0) rfl
  have g3:=g2.put 4 0 (.int .i64 0) rfl
  have g4:=g3.put 4 1 (.slice none 0 0) rfl
  have G2:=(g4.put 4 2 (.slice none 0 0) rfl).drew
  clear g1 g2 g3 g4
  refine BH rfl rfl rfl rfl (Ab (G2.at1 3 rfl) Tryz.underlying24 rfl Ao) (Ab (G2.at1 4 rfl) Tryz.underlying38 rfl Am) ?_
  rw[HQ.out,HE.out]
  exact⟨⟨_,_,_,rfl,⟨_,rfl,Ag.nil _ _⟩,Ag.nil _ _,Ag.nil _ _⟩,G2.under⟩
 have dj:decide ((j:Int)<0)=false:=zf
 have hr:=HR1.out
 rw[hf] at hr
 have HR2:=zh hr
 obtain⟨b,o',u,ha,hbl,e0,e1,e2,e3,e4,e5,huv⟩:=Own.A9.cells (HP.out.below F4.out.under) hj
 have hlj:=HLV.out L[j] (List.getElem_mem hj)
 obtain⟨hpk,Jb,hnx⟩:=HQP.out (by first|rfl|trivial) L[j] (List.getElem_mem hj)
 have Ye:=Own.POK.of hpk
 obtain⟨x,hx⟩:∃ x,x=L[j]:=⟨_,rfl⟩
 have hr:=HR2.out
 rw[<- hx] at e0 e1 e2 e3 e4 huv hlj hr Ye Jb
 obtain⟨ua,uc,rfl⟩:=huv.len
 have hcp:=Fz x (.slice ua x.Al.length uc) w4 huv hlj.1
 obtain⟨pid,ppa,pdi,pop,pex,V⟩:=x
 dsimp only at e0 e1 e2 e3 e4 huv hlj hcp hr Ye Jb
 have HCP:=zh hcp;have HR3:=zh hr;have HX:=zh hx;have ZX:=zh Ye
 obtain⟨x00,x01⟩:=F4.out.Dw rfl
 subst ha
 clear hcp hr hx hf hpj huv HR1 HR2 hpk Ye
 go_wp2_with fail
 refine HCP.out.mono ?_
 rintro e w5 ⟨v',rfl,hov,hb5⟩
 obtain⟨va',vm',vc',rfl⟩:=Ac hov
 obtain rfl:=Bt hov
 have P6:=zh (show Ap w5 _ [(46,#[.int .i64 pid,.string ppa,.string pdi,.int .i64 pop,.int .i64 pex,.slice va' V.length vc'])] from((BL.nil w5).push 46 #[.int .i64 pid,.string ppa,.string pdi,.int .i64 pop,.int .i64 pex,.slice va' V.length vc']).boxes)
 have zdc:=hb5.size
 have hw5:w.heap.size+7<=w5.heap.size:=Nat.le_trans F4.out.size hb5.size
 have F6:=zh (F4.out.step (hb5.trans (P6.out.under.mono hb5.size)))
 have HOV:=zh (own_below hov P6.out.under)
 clear hov hb5 e0 e1 e2 e3 e4 e5
 (try clear x00 x01)
 go_upto_region 8 with fail
 generalize (w5.alloc (.cells #[.int .i64 pid,.string ppa,.string pdi,.int .i64 pop,.int .i64 pex,.slice va' V.length vc'] 46))=w6 at*
 have hw6:w5.heap.size+1<=w6.heap.size:=P6.out.size
 obtain⟨x10,x11,x12⟩:=F6.out.JU rfl
 have z01:w6.cell? ⟨w5.heap.size,1,none⟩=some (.string ppa):=P6.out.cell 0 1 rfl rfl
 go_wp2_with fail
 refine(oD.out ppa w6 F6.out.under (by have:ppa.size<=64:=ZX.out.path;omega)).mono ?_
 rintro e w7 hap
 (try clear x00 x01);(try clear x10 x11 x12);(try clear x30 x31 Cz C8);(try clear x40 x41 x42 CY CZ Da);(try clear Tq);(try clear x50);(try clear Tt);(try clear x51);(try clear Tv);(try clear x60);(try clear Tw);(try clear x61);(try clear Tx);(try clear x62)
 clear z01
 have hr4:=HR3.out
 cases hA:AU ppa with
 | none =>
   rw[hA] at hap hr4
   obtain⟨rfl,hb7⟩:=hap
   have HE:=zh hr4
   have hb8:Below w6.heap.size w6 (w7.alloc (.cells #[.string ⟨#[]⟩,.slice none 0 0,.int .i64 0] 70)):=hb7.trans (((Below.refl w7.heap.size w7).alloc (Nat.le_refl _) _).mono hb7.size)
   have F8:=zh (F6.out.step hb8)
   clear hr4 hA HR3 hb7 hb8
   go_upto_region 9 with fail
   generalize (w7.alloc (.cells #[.string ⟨#[]⟩,.slice none 0 0,.int .i64 0] 70))=w8 at*
   obtain⟨x30,x31,Cz,C8⟩:=F8.out.GZ rfl
   obtain⟨x40,x41,x42,CY,CZ,Da⟩:=F8.out.LX rfl
   obtain⟨x50,x51⟩:=F8.out.eF rfl
   obtain⟨x60,x61,x62⟩:=F8.out.eG rfl
   have HXN:=zh (zi x60)
   go_wp2_with fail
   refine Lex.zn (fun k=>k=w.heap.size+1+1+1+1+1+1) [1] 3 [3] ?_
   simp only[Lex.AA,zd]
   go_wp2_with fail
   refine Lex.Mid.intro (fun k hk _=>by
    have h3:k≠w.heap.size+1+1+1:=by omega
    rw[Ad,Ad,zo h3,zo h3]) ?_
   go_wp2_with fail
   refine Lex.zk ⟨⟨rfl,HXN.out⟩,trivial⟩ ?_
   go_wp2_with fail
   have g1:=F8.out.put 3 0 (.int .i64 0) rfl
   have g2:=g1.put 3 1 (.slice none 0 0) rfl
   have g3:=g2.put 4 0 (.int .i64 0) rfl
   have g4:=g3.put 4 1 (.slice none 0 0) rfl
   have G2:=(g4.put 4 2 (.slice none 0 0) rfl).drew
   clear g1 g2 g3 g4
   refine BH rfl rfl rfl rfl (Ab (G2.at1 3 rfl) Tryz.underlying24 rfl Ao) (Ab (G2.at1 4 rfl) Tryz.underlying38 rfl Am) ?_
   rw[HQ.out,HE.out]
   exact⟨⟨_,_,_,rfl,⟨_,rfl,Ag.nil _ _⟩,Ag.nil _ _,Ag.nil _ _⟩,G2.under⟩
 | some sp=>
 rw[hA] at hap hr4
 obtain⟨⟨mv,rfl,RX⟩,hb7⟩:=hap
 obtain⟨Fp,M,th⟩:=sp
 dsimp only at RX hr4 ⊢
 obtain⟨ma,mm,mc,rfl⟩:=Ac RX
 obtain rfl:=Bt RX
 have hMl:M.length<=3000000:=by
  rcases zb1.out ppa (by first|rfl|trivial) with h|⟨sp,hsp,h⟩
  ·rw[hA] at h;cases h
  ·rw[hA] at h
   have h:=Option.some.inj h
   have:=(HLM.out sp hsp).1
   rw[<- h] at this
   exact this
 have hb8:Below w7.heap.size w7 (w7.alloc (.cells #[.string Fp,.slice ma M.length mc,.int .i64 th] 70)):=zb
 have hs8:=At.new w7 70 #[.string Fp,.slice ma M.length mc,.int .i64 th]
 have hm8:Own.Ar (w7.alloc (.cells #[.string Fp,.slice ma M.length mc,.int .i64 th] 70)) (.slice ma M.length mc) M:=Ck (enc:=Own.Ie) (fun _=>rfl) (fun _=>rfl) (Bz.own (own_below RX hb8)) rfl (fun _ _=>trivial)
 have pI:=hb7.trans (hb8.mono hb7.size)
 have zdd:=hb7.size
 obtain⟨SB,hSB⟩:∃ SB,SB=w7.heap.size:=⟨_,rfl⟩
 have hsb:w6.heap.size<=SB:=by rw[hSB];exact hb7.size
 have F8:=zh (F6.out.step pI);have P8:=zh (P6.out.step pI);have tT:=zh (own_below HOV.out pI);have HM8:=zh hm8;have S8:=zh hs8;have HR4:=zh hr4;have HA:=zh hA;have HSB:=zh hSB
 clear RX hb7 hb8 hs8 hm8 pI hr4 hA HR3 hSB
 go_upto_region 9 with fail
 rw[<- HSB.out] at S8 ⊢
 generalize (w7.alloc (.cells #[.string Fp,.slice ma M.length mc,.int .i64 th] 70))=w8 at*
 clear HSB
 go_wp2_with fail
 have hz8:SB<w8.heap.size:=S8.out.lt
 go_loopw [19,20] (fun who i wr=>∃ (k:Nat) (v:Value),k<=M.length/\who=v/\i=.int .i64 k/\wr.ownsRow w8.heap.size 73 2 v (Own.Kl nm (M.take k)).length ((Own.Kl nm (M.take k)).flatMap Own.Ie)/\Below w8.heap.size w8 wr) (fun _ i _=>M.length-(intOf i).toNat)
 case atStart=>exact⟨0,_,by omega,rfl,rfl,⟨rfl,.inl ⟨rfl,rfl⟩⟩,Below.refl _ _⟩
 case round=>
  obtain⟨k,v,hk,rfl,rfl,hown,hbr⟩:=hrel
  obtain⟨W,hW⟩:∃ W,W=Own.Kl nm (M.take k):=⟨_,rfl⟩
  have hWl:W.length<=M.length:=by
   have:=Own.mD nm (M.take k)
   rw[List.length_take] at this
   rw[hW];omega
  rw[<- hW] at hown
  obtain⟨wa,wm,wc,rfl⟩:=Ac hown
  obtain rfl:=Bt hown
  have SR:=zh (S8.out.below hbr hz8);have HBR:=zh hbr;have HO:=zh hown;have FR:=zh (F8.out.step hbr);have HMR:=zh (HM8.out.below hbr);have HW:=zh hW;have PR:=zh (P8.out.step hbr);have HVR:=zh (own_below tT.out hbr)
  have hwr:=hbr.size
  clear hown hbr hW
  obtain⟨s0,s1,s2⟩:=SR.out.c3
  by_cases hlt:k<M.length
  case neg=>
   have hke:k=M.length:=by omega
   have dk:decide ((k:Int)<M.length)=false:=zf
   have HWF:=zh (show W=Own.Kl nm M by rw[HW.out,hke,List.take_length])
   clear hke HW
   go_upto_region 17 with fail
   have hpk:=ZX.out
   obtain⟨MSG,ZY⟩:∃ m,m=Own.AX ⟨pid,ppa,pdi,pop,pex,V⟩ ag:=⟨_,rfl⟩
   have hms:MSG.size<=140737488350000:=by
    have h1:ppa.size<=64:=hpk.path
    have h2:pdi.size=32:=hpk.dig
    have h3:=Cod.BS pid.toNat;have h4:=Cod.BS ppa.size;have h5:=Cod.BS pdi.size
    rw[ZY]
    unfold Own.AX Cod.text Sig.b1
    simp only[ByteArray.size_append]
    have:∀ x:UInt8,(⟨#[x]⟩:ByteArray).size=1:=fun _=>rfl
    rw[this]
    omega
   have GY:=fun W=>Ki ⟨pid,ppa,pdi,pop,pex,V⟩ ag (.slice va' V.length vc') W hpk.id0 (by show pid<_;omega) (by have:ppa.size<=64:=hpk.path;show ppa.size<=_;omega) (by have:pdi.size=32:=hpk.dig;show pdi.size<=_;omega)
   have hr6:=HR4.out
   simp only[<- ZY] at GY hr6
   have pJ:=fun(mv lv:Value) Wc (hWc:Below w.heap.size w Wc) hm hA=>Nl (fun k=>w.heap.size<=k/\k<Wc.heap.size) ⟨cnt,S,K⟩ ⟨Fp,W,1⟩ MSG [⟨nm,⟨ix,chs,pth⟩⟩] (.slice sa S.length sc) (.slice ka K.length kc) mv lv Wc (fun k hk=>hk.2)
    (((HSS.out.mono (fun k _ hl => show ¬ (w.heap.size ≤ k ∧ k < Wc.heap.size) by omega))).below hWc) (((HKK.out.mono (fun k _ hl => show ¬ (w.heap.size ≤ k ∧ k < Wc.heap.size) by omega))).below hWc) hm hA (zJ.out (by first | rfl | trivial)) (by show K.length + 1 ≤ _;omega) (by show W.length ≤ _;omega) hms (fun x hx => by
      rw[List.mem_singleton.1 hx];exact⟨hal.2.1,hal.2.2⟩)
   have fZ:=zH.out Fp M th MSG
   rw[<- HWF.out] at fZ
   simp only[fZ] at pJ
   try dsimp only at GY pJ
   have kM:=zh GY;have zK:=zh pJ;have HR6:=zh hr6
   have hw0:=zI.out Fp M th MSG
   rw[<- HWF.out] at hw0
   have HW0:=zh hw0
   have P9:=kI.out ⟨Fp,M,th⟩ MSG
   have HE0:=zh P9
   clear GY pJ hr6 ZY hpk fZ hw0 P9 HR4 zH zI kI
   obtain⟨x10,x11,x12⟩:=FR.out.JU rfl
   obtain⟨x20,x21,x22,x23⟩:=FR.out.SF rfl
   obtain⟨z00,z01,z02,z03,z04,z05⟩:=PR.out.MP rfl
   have h1l:w.heap.size+1<wr.heap.size:=FR.out.lt (i:=1) (by show 1<7;omega)
   have h2l:w.heap.size+1+1<wr.heap.size:=FR.out.lt (i:=2) (by show 2<7;omega)
   have hsl:SB<wr.heap.size:=SR.out.lt
   have HX1:=zh (zi x10)
   have HX2:=zh (zi s0)
   have HX3:=zh (zi x20)
   refine Lex.Df (fun q=>q=w.heap.size+1\/q=SB\/q=w.heap.size+1+1) [0,2,8] [9,14] 16 [.pure 7,.call,.pure 1,.new,.call,.pure 3,.new] [1] (by kernel_rfl) (by kernel_rfl) (by kernel_rfl) ?_
   simp only[Lex.FD,Lex.AA,zd]
   have BD:=zh (show Below wr.heap.size wr wr.drew from(Below.refl _ _).drew)
   have ZD:=zh (show wr.drew.heap.size=wr.heap.size by rw[Ad])
   go_wp2_with fail
   refine Lex.Hg.intro ?_
   intro q4 hg4
   have BE4:=zh (BD.out.trans (hg4.mono BD.out.size));have BX4:=zh hg4
   clear hg4 s0 s1 s2
   (try clear x00 x01);(try clear x10 x11 x12);(try clear x20 x21 x22 x23);(try clear x30 x31 Cz C8);(try clear x40 x41 x42 CY CZ Da);(try clear Tq);(try clear x50);(try clear Tt);(try clear x51);(try clear Tv);(try clear x60);(try clear Tw);(try clear x61);(try clear Tx);(try clear x62)
   (try clear z00);(try clear z01);(try clear z02);(try clear z03);(try clear z04);(try clear z05)
   go_wp2_with fail
   refine(kM.out _).mono ?_
   rintro e q5 ⟨rfl,hb5⟩
   have BE5:=zh (BE4.out.trans (hb5.mono BE4.out.size));have BX5:=zh (BX4.out.trans (hb5.mono BX4.out.size));have BB:=zh hb5
   have FQ:=zh (FR.out.step BE5.out)
   clear hb5
   obtain⟨x20,x21,x22,x23⟩:=FQ.out.SF rfl
   go_wp2_with fail
   refine Lex.KP.intro (fun q _ hql=>BX5.out.block _ hql) (Lex.Kept.of_below BB.out) ?_
   go_wp2_with fail
   refine Lex.Hg.intro ?_
   intro q6 hq6
   go_wp2_with fail
   refine Lex.Ni.intro (fun q7 hg7 hk7 ho7=>?_)
   have hs7:=hk7.at_
   obtain⟨gb,hgb⟩:∃ g,g=q6.heap.size:=⟨_,rfl⟩
   rw[<- hgb] at hs7
   have BE7:=zh (BE5.out.trans (hg7.mono BE5.out.size));have BX7:=zh (BX5.out.trans (hg7.mono BX5.out.size));have GB:=zh hs7
   rw[<- hgb]
   clear hg7 hk7 ho7 hs7 hgb hq6
   (try clear x00 x01);(try clear x10 x11 x12);(try clear x20 x21 x22 x23);(try clear x30 x31 Cz C8);(try clear x40 x41 x42 CY CZ Da);(try clear Tq);(try clear x50);(try clear Tt);(try clear x51);(try clear Tv);(try clear x60);(try clear Tw);(try clear x61);(try clear Tx);(try clear x62)
   intro q8 hg8
   have gu:=GB.out.below hg8 GB.out.lt
   have pK:=BE7.out.trans (hg8.mono BE7.out.size)
   have BE8:=zh pK;have BX8:=zh (BX7.out.trans (hg8.mono BX7.out.size))
   have hw8:Below w.heap.size w q8:=FR.out.under.trans (pK.mono FR.out.under.size)
   have happ:Own.MQ q8 (.slice (some ⟨gb,0,none⟩) 1 1) [⟨nm,⟨ix,chs,pth⟩⟩]:=by
    refine⟨_,_,rfl,fun i hi=>?_⟩
    have hi0:i=0:=by simpa using hi
    subst hi0
    refine⟨gb,0,.slice ca chs.length cc,.slice pa pth.length pc,rfl,gu.lt,?_,?_,?_,?_,HCS.out.below hw8,HPS.out.below hw8,HCAP.out⟩
    ·exact gu.cell 0
    ·exact gu.cell 1
    ·exact gu.cell 2
    ·exact gu.cell 3
   have hwho:Own.Ar q8 (.slice wa W.length wc) W:=Ck (enc:=Own.Ie) (fun _=>rfl) (fun _=>rfl) (Bz.own (own_below HO.out pK)) rfl (fun _ _=>trivial)
   have Um:=zh (zK.out _ _ q8 hw8 hwho happ)
   have HWX:=zh hw8
   clear gu hg8 pK happ hwho hw8 zK
   go_wp2_with fail
   refine Um.out.mono ?_
   rintro e q9 pO
   cases hU:UR ⟨Fp,M,th⟩ MSG with
   | error ec =>
     have hec:=HE0.out ec hU
     rw[hU] at pO
     obtain⟨rfl,hb9⟩:=pO
     have hr7:=HR6.out
     rw[hU] at hr7
     have HE:=zh hr7
     have BE9:=zh (BE8.out.trans (hb9.mono BE8.out.size));have BX9:=zh (BX8.out.trans (hb9.mono BX8.out.size));have BB9:=zh hb9
     clear hb9 hr7 hU HE0 HR6 Um
     unfold Own.nobody
     go_wp2_with fail
     refine Lex.KP.intro (fun q _ hql=>BX9.out.block _ hql) (Lex.Kept.of_below BB9.out) ?_
     go_wp2_with fail
     refine Lex.Hg.intro ?_
     intro q10 Yt
     go_wp2_with fail
     refine Lex.Ni.intro (fun q11 Gv XY ZQ=>?_)
     have RP:=XY.at_
     obtain⟨go,hgo⟩:∃ g,g=q10.heap.size:=⟨_,rfl⟩
     have zL:go+1<=q8.heap.size\/q9.heap.size<=go:=by
      have:=ZQ (q8.heap.size,q9.heap.size) List.mem_cons_self
      simpa [hgo] using this
     have uK:wr.drew.heap.size<=go:=by rw[hgo];exact Yt
     have ay:wr.heap.size<=go:=by rw[<- ZD.out];exact uK
     rw[<- hgo] at RP
     have kF:=zh (BE9.out.trans (Gv.mono BE9.out.size));have fE:=zh (BX9.out.trans (Gv.mono BX9.out.size));have bP:=zh Gv;have HGO:=zh RP
     rw[<- hgo]
     clear Gv XY ZQ RP hgo Yt
     have s0:=HGO.out.cell 0;have s1:=HGO.out.cell 1;have s2:=HGO.out.cell 2;have s3:=HGO.out.free 0;have s4:=HGO.out.free 1;have s5:=HGO.out.free 2
     simp only[zg] at s0 s1 s2
     go_wp2_with fail
     refine Lex.Mid.intro (fun q _ hql=>by
      have h3:q≠go:=by omega
      rw[zo h3,zo h3,zo h3]
      exact fE.out.block _ hql) ?_
     go_wp2_with fail
     refine Lex.zk ⟨⟨.inl rfl,HX1.out⟩,⟨.inr (.inl rfl),HX2.out⟩,⟨.inr (.inr rfl),HX3.out⟩,trivial⟩ ?_
     have FQ:=zh (FR.out.step (((kF.out.setCell (p:=⟨go,0,none⟩) ay (.int .i64 0)).setCell (p:=⟨go,1,none⟩) ay (.slice none 0 0)).setCell (p:=⟨go,2,none⟩) ay (.slice none 0 0)))
     clear HX1 HX2 HX3 s0 s1 s2 s3 s4 s5
     go_upto_region 18 with fail
     generalize ((q11.setCell ⟨go,0,none⟩ (.int .i64 0)).setCell ⟨go,1,none⟩ (.slice none 0 0)).setCell ⟨go,2,none⟩ (.slice none 0 0)=q12 at*
     obtain⟨x30,x31,Cz,C8⟩:=FQ.out.GZ rfl
     obtain⟨x40,x41,x42,CY,CZ,Da⟩:=FQ.out.LX rfl
     obtain⟨x50,x51⟩:=FQ.out.eF rfl
     obtain⟨x60,x61,x62⟩:=FQ.out.eG rfl
     have HXN:=zh (zi x60)
     go_wp2_with fail
     refine Lex.zn (fun k=>k=w.heap.size+1+1+1+1+1+1) [1] 5 [4,1] ?_
     simp only[Lex.AA,zd]
     go_wp2_with fail
     refine Lex.Mid.intro (fun k hk _=>by
      have h3:k≠w.heap.size+1+1+1:=by omega
      rw[Ad,Ad,zo h3,zo h3]) ?_
     go_wp2_with fail
     refine Lex.Mid.intro (fun k hk _=>by
      have h3:k≠w.heap.size+1+1+1:=by omega
      have h4:k≠w.heap.size+1+1+1+1:=by omega
      rw[Ad,Ad,zo h4,zo h4,zo h4,zo h3,zo h3]) ?_
     go_wp2_with fail
     refine Lex.zk ⟨⟨rfl,HXN.out⟩,trivial⟩ ?_
     go_wp2_with fail
     have g1:=FQ.out.put 3 0 (.int .i64 0) rfl
     have g2:=g1.put 3 1 (.slice none 0 0) rfl
     have g3:=g2.put 4 0 (.int .i64 0) rfl
     have g4:=g3.put 4 1 (.slice none 0 0) rfl
     have G2:=(g4.put 4 2 (.slice none 0 0) rfl).drew
     clear g1 g2 g3 g4
     refine BH rfl rfl rfl rfl (Ab (G2.at1 3 rfl) Tryz.underlying24 rfl Ao) (Ab (G2.at1 4 rfl) Tryz.underlying38 rfl Am) ?_
     rw[HQ.out,HE.out]
     exact⟨⟨_,_,_,rfl,⟨_,rfl,Ag.nil _ _⟩,Ag.nil _ _,Ag.nil _ _⟩,G2.under⟩
   | ok mk =>
     obtain⟨mm,K1⟩:=mk
     have hw0:=HW0.out mm K1 hU
     rw[hU] at pO
     obtain⟨⟨sv9,kv9,rfl,hS9,hK9⟩,hb9⟩:=pO
     have hr7:=HR6.out
     rw[hU] at hr7
     dsimp only at hr7
     obtain⟨sa9,sc9,rfl⟩:=hS9.len
     obtain⟨ka9,kc9,rfl⟩:=hK9.len
     have HR7:=zh hr7;have HW1:=zh hw0
     have HS9:=zh (hS9.mono (G:=fun k=>¬ (w.heap.size<=k/\k<q8.heap.size)/\k<q9.heap.size) (fun k h hl=>⟨h,hl⟩));have HK9:=zh (hK9.mono (G:=fun k=>¬ (w.heap.size<=k/\k<q8.heap.size)/\k<q9.heap.size) (fun k h hl=>⟨h,hl⟩))
     have BE9:=zh (BE8.out.trans (hb9.mono BE8.out.size));have BX9:=zh (BX8.out.trans (hb9.mono BX8.out.size));have BB9:=zh hb9
     clear hb9 hr7 hU HE0 HR6 Um hw0 HW0 hS9 hK9
     go_wp2_with fail
     refine Lex.KP.intro (fun q _ hql=>BX9.out.block _ hql) (Lex.Kept.of_below BB9.out) ?_
     go_wp2_with fail
     refine Lex.Hg.intro ?_
     intro q10 Yt
     go_wp2_with fail
     refine Lex.Ni.intro (fun q11 Gv XY ZQ=>?_)
     have RP:=XY.at_
     obtain⟨go,hgo⟩:∃ g,g=q10.heap.size:=⟨_,rfl⟩
     have zL:go+1<=q8.heap.size\/q9.heap.size<=go:=by
      have:=ZQ (q8.heap.size,q9.heap.size) List.mem_cons_self
      simpa [hgo] using this
     have uK:wr.drew.heap.size<=go:=by rw[hgo];exact Yt
     have ay:wr.heap.size<=go:=by rw[<- ZD.out];exact uK
     rw[<- hgo] at RP
     have kF:=zh (BE9.out.trans (Gv.mono BE9.out.size));have fE:=zh (BX9.out.trans (Gv.mono BX9.out.size));have bP:=zh Gv;have HGO:=zh RP
     rw[<- hgo]
     clear Gv XY ZQ RP hgo Yt
     have s0:=HGO.out.cell 0;have s1:=HGO.out.cell 1;have s2:=HGO.out.cell 2;have s3:=HGO.out.free 0;have s4:=HGO.out.free 1;have s5:=HGO.out.free 2
     simp only[zg] at s0 s1 s2
     go_wp2_with fail
     refine Lex.Mid.intro (fun q _ hql=>by
      have h3:q≠go:=by omega
      rw[zo h3,zo h3,zo h3]
      exact fE.out.block _ hql) ?_
     go_wp2_with fail
     refine Lex.zk ⟨⟨.inl rfl,HX1.out⟩,⟨.inr (.inl rfl),HX2.out⟩,⟨.inr (.inr rfl),HX3.out⟩,trivial⟩ ?_
     have hbq:=((kF.out.setCell (p:=⟨go,0,none⟩) ay (.int .i64 cnt)).setCell (p:=⟨go,1,none⟩) ay (.slice sa9 S.length sc9)).setCell (p:=⟨go,2,none⟩) ay (.slice ka9 K1.length kc9)
     have qX:=((HGO.out.set 0 (.int .i64 cnt)).set 1 (.slice sa9 S.length sc9)).set 2 (.slice ka9 K1.length kc9)
     have aA:∀ k,k≠go->(((q11.setCell ⟨go,0,none⟩ (.int .i64 cnt)).setCell ⟨go,1,none⟩ (.slice sa9 S.length sc9)).setCell ⟨go,2,none⟩ (.slice ka9 K1.length kc9)).heap[k]? = q11.heap[k]? :=fun k h3=>by
      rw[zo h3,zo h3,zo h3]
     have zM:=(HS9.out.below bP.out).keep (w':=((q11.setCell ⟨go,0,none⟩ (.int .i64 cnt)).setCell ⟨go,1,none⟩ (.slice sa9 S.length sc9)).setCell ⟨go,2,none⟩ (.slice ka9 K1.length kc9)) (by simp[World.setCell]) (fun k h _=>aA k (by omega))
     have zN:=(HK9.out.below bP.out).keep (w':=((q11.setCell ⟨go,0,none⟩ (.int .i64 cnt)).setCell ⟨go,1,none⟩ (.slice sa9 S.length sc9)).setCell ⟨go,2,none⟩ (.slice ka9 K1.length kc9)) (by simp[World.setCell]) (fun k h _=>aA k (by omega))
     have hq12:(((q11.setCell ⟨go,0,none⟩ (.int .i64 cnt)).setCell ⟨go,1,none⟩ (.slice sa9 S.length sc9)).setCell ⟨go,2,none⟩ (.slice ka9 K1.length kc9)).heap.size=q11.heap.size:=by simp[World.setCell]
     have zbT:q9.heap.size<=q11.heap.size:=bP.out.size
     have FQ:=zh (FR.out.step hbq);have PQ:=zh (PR.out.step hbq);have VQ:=zh (own_below HVR.out hbq);have WQ:=zh (own_below HO.out hbq);have GQ:=zh qX;have SQ:=zh zM;have KQ:=zh zN
     have yJ:q9.heap.size<=(((q11.setCell ⟨go,0,none⟩ (.int .i64 cnt)).setCell ⟨go,1,none⟩ (.slice sa9 S.length sc9)).setCell ⟨go,2,none⟩ (.slice ka9 K1.length kc9)).heap.size:=by omega
     clear HX1 HX2 HX3 s0 s1 s2 s3 s4 s5 hbq qX aA zM zN hq12
     go_upto_region 18 with fail
     generalize ((q11.setCell ⟨go,0,none⟩ (.int .i64 cnt)).setCell ⟨go,1,none⟩ (.slice sa9 S.length sc9)).setCell ⟨go,2,none⟩ (.slice ka9 K1.length kc9)=q12 at*
     have zde:go<q12.heap.size:=GQ.out.lt
     have hWp:0<W.length:=(List.getElem?_eq_some_iff.1 HW1.out).1
     obtain⟨gw,gwc,hgw,mF⟩:=CO WQ.out hWp
     cases hgw
     have zdf:q12.cell? ⟨gw,1,none⟩=some (.string mm.pub):=mF 1 _ (by
      have hw1:=HW1.out
      cases W with
      | nil=>cases hw1
      | cons y W' =>
        have:y=mm:=by simpa using hw1
        subst this
        rfl)
     have hpk:=ZX.out
     have hvc:Own.Br q12 (.slice va' V.length vc') V:=Own.KF VQ.out rfl
     have hput:=fun W2 (hb:Below q12.heap.size q12 W2)=>(show Calls Tryz.prog 70 #[.slice va' V.length vc',.agg #[.string nm,.string mm.pub,.bool ag]] W2 _ from ZC (.slice va' V.length vc') V ⟨nm,mm.pub,ag⟩ W2 (hvc.below hb) hpk.srt (by have:V.length<=1024:=hpk.len;omega))
     have zb2:(Own.DY Own.Vote.name ⟨nm,mm.pub,ag⟩ V).length<=1025:=by
      rw[<- Own.CW]
      have h1:=Own.GK (f:=Own.Vote.name) ⟨nm,mm.pub,ag⟩ V
      rw[Own.CW,h1,List.length_append,List.length_cons,List.length_take,List.length_drop]
      have:V.length<=1024:=hpk.len
      omega
     have hr8:=HR7.out
     rw[Own.CW] at hr8
     obtain⟨NV,hNV⟩:∃ NV,NV=Own.DY Own.Vote.name ⟨nm,mm.pub,ag⟩ V:=⟨_,rfl⟩
     simp only[<- hNV] at hput zb2 hr8
     have zO:=zh hput;have HR8:=zh hr8
     clear mF hvc hput hr8 hNV HR7 HW1 hpk
     obtain⟨x20,x21,x22,x23⟩:=FQ.out.SF rfl
     have z05:q12.cell? ⟨w5.heap.size,5,none⟩=some (.slice va' V.length vc'):=PQ.out.cell 0 5 rfl rfl
     have zb3:q12.frozen? ⟨w5.heap.size,5,none⟩=false:=PQ.out.free 0 5 rfl
     have ZP:=zh (zi z05)
     go_upto_region 20 with fail
     refine Lex.zl ?_
     go_wp2_with fail
     refine(zO.out _ (by first|exact Below.refl _ _|exact(Below.refl _ _).drew)).mono ?_
     rintro e q13 ⟨nv,rfl,hon,kQ⟩
     have Ea : Below q12.heap.size q12 q13:=(Below.refl q12.heap.size q12).drew.trans kQ
     rw[Ad] at hon
     obtain⟨na,nl,nc,rfl⟩:=Ac hon
     obtain rfl:=Bt hon
     have zdg:w5.heap.size+1<=wr.heap.size:=by omega
     have zbU:wr.heap.size<=q12.heap.size:=by
      have h1:wr.heap.size<=q9.heap.size:=BE9.out.size
      omega
     have zQ:go≠w5.heap.size:=by omega
     have zdh:wr.heap.size<=q8.heap.size:=BE8.out.size
     have FS:=zh ((FQ.out.step Ea).over ((Below.refl _ _).setCell (p:=⟨w5.heap.size,5,none⟩) (by show w.heap.size+7<=w5.heap.size;omega) (.slice na NV.length nc)))
     have PS:=zh ((PQ.out.step Ea).put 0 5 (.slice na NV.length nc) rfl)
     have VY:∀ k,k≠w5.heap.size->(q13.setCell ⟨w5.heap.size,5,none⟩ (.slice na NV.length nc)).heap[k]? = q13.heap[k]? :=fun k h=>zo h
     have qY:=Az hon
     have NS:=zh (Aq hon (w':=q13.setCell ⟨w5.heap.size,5,none⟩ (.slice na NV.length nc)) (fun k hk=>VY k (by have:=qY k hk;omega)))
     have GS:=zh ((GQ.out.below Ea GQ.out.lt).far (p:=⟨w5.heap.size,5,none⟩) zQ (.slice na NV.length nc))
     have kS:(q13.setCell ⟨w5.heap.size,5,none⟩ (.slice na NV.length nc)).heap.size=q13.heap.size:=by simp[World.setCell]
     have zbV:=Ea.size
     have SS:=zh ((SQ.out.below Ea).keep (w':=q13.setCell ⟨w5.heap.size,5,none⟩ (.slice na NV.length nc)) (by omega) (fun k h _=>VY k (by omega)))
     have KS:=zh ((KQ.out.below Ea).keep (w':=q13.setCell ⟨w5.heap.size,5,none⟩ (.slice na NV.length nc)) (by omega) (fun k h _=>VY k (by omega)))
     have zbW:q9.heap.size<=(q13.setCell ⟨w5.heap.size,5,none⟩ (.slice na NV.length nc)).heap.size:=by omega
     have zb4:q12.heap.size<=(q13.setCell ⟨w5.heap.size,5,none⟩ (.slice na NV.length nc)).heap.size:=by omega
     have zz:=(PQ.out.step Ea).cell 0 5 rfl rfl;have zf:=(PQ.out.step Ea).free 0 5 rfl
     (try simp only[Nat.add_zero] at zz zf)
     clear hon kQ Ea VY qY kS zO ZP
     (try clear x00 x01);(try clear x10 x11 x12);(try clear x20 x21 x22 x23);(try clear x30 x31 Cz C8);(try clear x40 x41 x42 CY CZ Da);(try clear Tq);(try clear x50);(try clear Tt);(try clear x51);(try clear Tv);(try clear x60);(try clear Tw);(try clear x61);(try clear Tx);(try clear x62)
     (try clear z00);(try clear z01);(try clear z02);(try clear z03);(try clear z04);(try clear zb3);(try clear z05)
     go_wp2_with fail
     refine Lex.ze ?_
     clear zz zf
     go_upto_region 21 with fail
     generalize q13.setCell ⟨w5.heap.size,5,none⟩ (.slice na NV.length nc)=q14 at*
     have P14:=zh (show Ap w5 q14 [(46,#[.int .i64 pid,.string ppa,.string pdi,.int .i64 pop,.int .i64 pex,.slice na NV.length nc])] from PS.out)
     clear PS PQ
     have z05:q14.cell? ⟨w5.heap.size,5,none⟩=some (.slice na NV.length nc):=P14.out.cell 0 5 rfl rfl
     by_cases hbig:1024<NV.length
     ·have d1:decide ((1024:Int)<(NV.length:Int))=true:=zt
      have HE:=zh (show R=(Own.Queue.none,Own.Ak.none,7) by rw[HR8.out,if_pos hbig])
      clear hbig
      obtain⟨x30,x31,Cz,C8⟩:=FS.out.GZ rfl
      obtain⟨x40,x41,x42,CY,CZ,Da⟩:=FS.out.LX rfl
      obtain⟨x50,x51⟩:=FS.out.eF rfl
      obtain⟨x60,x61,x62⟩:=FS.out.eG rfl
      have HXN:=zh (zi x60)
      go_wp2_with fail
      refine Lex.zn (fun k=>k=w.heap.size+1+1+1+1+1+1) [1] 3 [3] ?_
      simp only[Lex.AA,zd]
      go_wp2_with fail
      refine Lex.Mid.intro (fun k hk _=>by
       have h3:k≠w.heap.size+1+1+1:=by omega
       rw[Ad,Ad,zo h3,zo h3]) ?_
      go_wp2_with fail
      refine Lex.zk ⟨⟨rfl,HXN.out⟩,trivial⟩ ?_
      go_wp2_with fail
      have g1:=FS.out.put 3 0 (.int .i64 0) rfl
      have g2:=g1.put 3 1 (.slice none 0 0) rfl
      have g3:=g2.put 4 0 (.int .i64 0) rfl
      have g4:=g3.put 4 1 (.slice none 0 0) rfl
      have G2:=(g4.put 4 2 (.slice none 0 0) rfl).drew
      clear g1 g2 g3 g4
      refine BH rfl rfl rfl rfl (Ab (G2.at1 3 rfl) Tryz.underlying24 rfl Ao) (Ab (G2.at1 4 rfl) Tryz.underlying38 rfl Am) ?_
      rw[HQ.out,HE.out]
      exact⟨⟨_,_,_,rfl,⟨_,rfl,Ag.nil _ _⟩,Ag.nil _ _,Ag.nil _ _⟩,G2.under⟩
     have d1:decide ((1024:Int)<(NV.length:Int))=false:=zf
     have hr9:=HR8.out
     rw[if_neg hbig] at hr9
     have HR9:=zh hr9
     clear hr9 hbig HR8
     obtain⟨x00,x01⟩:=FS.out.Dw rfl
     have HWO:=zh (Rz nx (-1) (.slice (some ⟨b,o',none⟩) L.length qc) L q14 (HP.out.below FS.out.under) (by omega) (fun x hx=>(HLV.out x hx).1))
     go_wp2_with fail
     refine HWO.out.mono ?_
     rintro e q15 ⟨⟨v15,rfl,hpo⟩,NG⟩
     rw[Own.Uq L (-1) (by decide)] at hpo
     obtain⟨oa,oc,rfl⟩:=hpo.one
     have uL:Below q15.heap.size q15 (q15.alloc (.cells #[.int .i64 nx,.slice oa L.length oc] 24)):=zb
     have uM:=At.new q15 24 #[.int .i64 nx,.slice oa L.length oc]
     have hbb:=NG.trans (uL.mono NG.size)
     obtain⟨gq,hgq⟩:∃ g,g=q15.heap.size:=⟨_,rfl⟩
     have zdi:q14.heap.size<=gq:=by rw[hgq];exact NG.size
     have FT:=zh (FS.out.step hbb);have PT:=zh (P14.out.step hbb);have NT:=zh (own_below NS.out hbb);have GT:=zh (GS.out.below hbb GS.out.lt);have ST:=zh (SS.out.below hbb);have KT:=zh (KS.out.below hbb);have PO:=zh (hpo.below uL)
     have zb5:=hbb.size
     rw[<- hgq] at uM
     have QT:=zh uM
     have HGQ:=zh hgq
     clear hpo NG uL hbb uM hgq HWO FS P14 NS GS SS KS
     (try clear x00 x01);(try clear x10 x11 x12);(try clear x20 x21 x22 x23);(try clear x30 x31 Cz C8);(try clear x40 x41 x42 CY CZ Da);(try clear Tq);(try clear x50);(try clear Tt);(try clear x51);(try clear Tv);(try clear x60);(try clear Tw);(try clear x61);(try clear Tx);(try clear x62)
     clear z05
     go_upto_region 24 with fail
     rw[<- HGQ.out]
     generalize q15.alloc (.cells #[.int .i64 nx,.slice oa L.length oc] 24)=q16 at*
     clear HGQ
     obtain⟨css,hc1,hc2,hc3⟩:=PO.out
     have h6:∀ cs∈css,cs.length=6:=fun cs hc=>by
      obtain⟨i,hi,rfl⟩:=List.mem_iff_getElem.1 hc
      exact(hc3 i (by omega) hi).1
     have hfl:=Own.Gl css h6
     obtain⟨gr,grc,hgr,hrc⟩:=CO hc2 (by omega)
     cases hgr
     have zbX:q14.heap.size<=gr:=Az hc2 gr rfl
     obtain⟨cur,hcur⟩:=Dx hc2 rfl
     have zdj:gr<q16.heap.size:=hcur.lt
     have ex:∀ i,i<css.flatten.length->∃ y,q16.cell? ⟨gr,i,none⟩=some y:=fun i hi=>⟨_,hrc i _ (List.getElem?_eq_getElem hi)⟩
     obtain⟨y0,t0⟩:=ex (j*6) (by omega)
     obtain⟨y1,t1⟩:=ex (j*6+1) (by omega)
     obtain⟨y2,t2⟩:=ex (j*6+2) (by omega)
     obtain⟨y3,t3⟩:=ex (j*6+3) (by omega)
     obtain⟨y4,t4⟩:=ex (j*6+4) (by omega)
     obtain⟨y5,t5⟩:=ex (j*6+5) (by omega)
     have f0:=hcur.free (j*6);have f1:=hcur.free (j*6+1);have f2:=hcur.free (j*6+2);have f3:=hcur.free (j*6+3);have f4:=hcur.free (j*6+4);have f5:=hcur.free (j*6+5)
     obtain⟨v0,v1⟩:=QT.out.c2
     obtain⟨z00,z01,z02,z03,z04,z05⟩:=PT.out.MP rfl
     (try simp only[Nat.add_zero] at z00 z01 z02 z03 z04 z05)
     have hqr:gq≠gr:=QT.out.ne hcur (by decide)
     have hnr:=hcur.own_ne NT.out (by decide)
     have hvl:Ag 3 Own.Jj (fun k=>k≠gr) q16 (.slice na NV.length nc) NV:=Ck (enc:=Own.BP) (fun _=>rfl) (fun _=>rfl) (Bz.own NT.out) rfl (fun k hk e=>hnr (by rw[hk,e]))
     have PU:=zh (PO.out.set hj (Own.Db ⟨pid,ppa,pdi,pop,pex,V⟩ NV) (.slice na NV.length nc) hvl)
     clear hc1 hc2 hc3 h6 hfl hrc hcur ex css hnr hvl
     go_upto_region 25 with fail
     clear z00 z01 z02 z03 z04 z05 t0 t1 t2 t3 t4 t5 f0 f1 f2 f3 f4 f5 v0 v1
     have zR:((((((q16.setCell ⟨gr,j*6,none⟩ (.int .i64 pid)).setCell ⟨gr,j*6+1,none⟩ (.string ppa)).setCell ⟨gr,j*6+2,none⟩ (.string pdi)).setCell ⟨gr,j*6+3,none⟩ (.int .i64 pop)).setCell ⟨gr,j*6+4,none⟩ (.int .i64 pex)).setCell ⟨gr,j*6+5,none⟩ (.slice na NV.length nc))=Own.Tp q16 gr j (Own.Db ⟨pid,ppa,pdi,pop,pex,V⟩ NV) (.slice na NV.length nc):=rfl
     rw[zR]
     have Sg:=fun k h=>Own.Mf q16 gr j (Own.Db ⟨pid,ppa,pdi,pop,pex,V⟩ NV) (.slice na NV.length nc) k h
     have zb6:=Own.Ot q16 gr j (Own.Db ⟨pid,ppa,pdi,pop,pex,V⟩ NV) (.slice na NV.length nc)
     have Dq:=Own.av q16 gr j (Own.Db ⟨pid,ppa,pdi,pop,pex,V⟩ NV) (.slice na NV.length nc) (w.heap.size+7) (by omega)
     clear zR
     generalize Own.Tp q16 gr j (Own.Db ⟨pid,ppa,pdi,pop,pex,V⟩ NV) (.slice na NV.length nc)=q17 at*
     have FU:=zh (FT.out.over Dq)
     have GU:=zh (show At q17 go 38 #[.int .i64 cnt,.slice sa9 S.length sc9,.slice ka9 K1.length kc9] by unfold At;rw[Sg go (by omega)];exact GT.out)
     have QU:=zh (show At q17 gq 24 #[.int .i64 nx,.slice (some ⟨gr,0,none⟩) L.length oc] by unfold At;rw[Sg gq hqr];exact QT.out)
     have SU:=zh (ST.out.keep (w':=q17) (by omega) (fun k h _=>Sg k (by omega)))
     have KU:=zh (KT.out.keep (w':=q17) (by omega) (fun k h _=>Sg k (by omega)))
     have hset:=Own.Nr L j hj (oF.out (by first|rfl|trivial)) NV
     rw[<- HX.out] at hset
     have uN:=HR9.out
     rw[hset] at uN
     have HE:=zh uN
     clear Sg zb6 Dq FT GT QT ST KT PT NT PO hset uN HR9
     obtain⟨v0,v1⟩:=QU.out.c2;obtain⟨g0,g1,g2⟩:=GU.out.c3
     have HXG:=zh (zi g0)
     obtain⟨x30,x31,Cz,C8⟩:=FU.out.GZ rfl
     obtain⟨x40,x41,x42,CY,CZ,Da⟩:=FU.out.LX rfl
     have zdk:w.heap.size+7<=go:=by omega
     go_wp2_with fail
     refine Lex.zn (fun k=>k=go) [1] 3 [3] ?_
     simp only[Lex.AA,zd]
     go_wp2_with fail
     refine Lex.Mid.intro (fun k hk _=>by
      have h3:k≠w.heap.size+1+1+1:=by omega
      rw[Ad,Ad,zo h3,zo h3]) ?_
     go_wp2_with fail
     refine Lex.zk ⟨⟨rfl,HXG.out⟩,trivial⟩ ?_
     go_wp2_with fail
     have u1:=FU.out.put 3 0 (.int .i64 nx) rfl
     have u2:=u1.put 3 1 (.slice (some ⟨gr,0,none⟩) L.length oc) rfl
     have u3:=u2.put 4 0 (.int .i64 cnt) rfl
     have u4:=u3.put 4 1 (.slice sa9 S.length sc9) rfl
     have u5:=(u4.put 4 2 (.slice ka9 K1.length kc9) rfl)
     have G2:=u5.drew
     refine BH rfl rfl rfl rfl (Ab (G2.at1 3 rfl) Tryz.underlying24 rfl Ao) (Ab (G2.at1 4 rfl) Tryz.underlying38 rfl Am) ?_
     rw[HQ.out,HE.out]
     have mG:∀ k,k≠w.heap.size+1+1+1->k≠w.heap.size+1+1+1+1->(((((q17.setCell ⟨w.heap.size+3,0,none⟩ (.int .i64 nx)).setCell ⟨w.heap.size+3,1,none⟩ (.slice (some ⟨gr,0,none⟩) L.length oc)).setCell ⟨w.heap.size+4,0,none⟩ (.int .i64 cnt)).setCell ⟨w.heap.size+4,1,none⟩ (.slice sa9 S.length sc9)).setCell ⟨w.heap.size+4,2,none⟩ (.slice ka9 K1.length kc9)).heap[k]? = q17.heap[k]? :=fun k h3 h4=>by
      have h3' : k≠w.heap.size+3:=by omega
      have h4' : k≠w.heap.size+4:=by omega
      rw[zo h4',zo h4',zo h4',zo h3',zo h3']
     have hn3:Own.Ez q17 (w.heap.size+3):=Own.Ez.at_ (FU.out.at1 3 rfl) rfl
     have hn4:Own.Ez (((q17.setCell ⟨w.heap.size+3,0,none⟩ (.int .i64 nx)).setCell ⟨w.heap.size+3,1,none⟩ (.slice (some ⟨gr,0,none⟩) L.length oc))) (w.heap.size+4):=Own.Ez.at_ (u2.at1 4 rfl) rfl
     have hp1:=Own.A9.store PU.out hn3 (w':=((q17.setCell ⟨w.heap.size+3,0,none⟩ (.int .i64 nx)).setCell ⟨w.heap.size+3,1,none⟩ (.slice (some ⟨gr,0,none⟩) L.length oc))) (by simp[World.setCell]) (fun k h=>by rw[zo h,zo h])
     have hp2:=Own.A9.store hp1 hn4 (w':=((((q17.setCell ⟨w.heap.size+3,0,none⟩ (.int .i64 nx)).setCell ⟨w.heap.size+3,1,none⟩ (.slice (some ⟨gr,0,none⟩) L.length oc)).setCell ⟨w.heap.size+4,0,none⟩ (.int .i64 cnt)).setCell ⟨w.heap.size+4,1,none⟩ (.slice sa9 S.length sc9)).setCell ⟨w.heap.size+4,2,none⟩ (.slice ka9 K1.length kc9)) (by simp[World.setCell]) (fun k h=>by rw[zo h,zo h,zo h])
     have hs2:=SU.out.keep (w':=((((q17.setCell ⟨w.heap.size+3,0,none⟩ (.int .i64 nx)).setCell ⟨w.heap.size+3,1,none⟩ (.slice (some ⟨gr,0,none⟩) L.length oc)).setCell ⟨w.heap.size+4,0,none⟩ (.int .i64 cnt)).setCell ⟨w.heap.size+4,1,none⟩ (.slice sa9 S.length sc9)).setCell ⟨w.heap.size+4,2,none⟩ (.slice ka9 K1.length kc9)) (by simp[World.setCell]) (fun k h _=>mG k (by omega) (by omega))
     have hk2:=KU.out.keep (w':=((((q17.setCell ⟨w.heap.size+3,0,none⟩ (.int .i64 nx)).setCell ⟨w.heap.size+3,1,none⟩ (.slice (some ⟨gr,0,none⟩) L.length oc)).setCell ⟨w.heap.size+4,0,none⟩ (.int .i64 cnt)).setCell ⟨w.heap.size+4,1,none⟩ (.slice sa9 S.length sc9)).setCell ⟨w.heap.size+4,2,none⟩ (.slice ka9 K1.length kc9)) (by simp[World.setCell]) (fun k h _=>mG k (by omega) (by omega))
     refine⟨⟨_,_,_,rfl,⟨_,rfl,?_⟩,?_,?_⟩,G2.under⟩
     ·have:=hp2.below (Below.refl _ _).drew
      simpa [Own.Db] using this
     ·exact(hs2.mono (fun _ _ _=>trivial)).below (Below.refl _ _).drew
     ·exact(hk2.mono (fun _ _ _=>trivial)).below (Below.refl _ _).drew
  have dk:decide ((k:Int)<M.length)=true:=zt
  have htk:=Own.fT nm M k hlt
  rw[<- HW.out] at htk
  obtain⟨mb,mo,rfl,hmb,m0,m1⟩:=Own.Ar.cells HMR.out hlt
  obtain⟨X,hX⟩:∃ X,X=M[k]:=⟨_,rfl⟩
  rw[<- hX] at m0 m1 htk
  obtain⟨xn,xp⟩:=X
  dsimp only at m0 m1 htk
  have HTK:=zh htk
  clear htk hX
  obtain⟨x20,x21,x22,x23⟩:=FR.out.SF rfl
  have BD:=zh (show Below wr.heap.size wr wr.drew from(Below.refl _ _).drew)
  cases hq:(xn.toList==nm.toList) with
  | false =>
    have hne:¬ xn=nm:=fun e=>by rw[e] at hq;simp at hq
    rw[if_neg hne] at HTK
    clear hne
    go_upto_region 15 with fail
    refine Lex.zl ?_
    go_wp2_with fail
    refine Lex.ze ?_
    go_wp2_with fail
    refine⟨⟨k+1,.slice wa W.length wc,by omega,rfl,by go_num,?_,HBR.out.drew⟩,by simp[intOf];omega⟩
    rw[HTK.out]
    exact own_below HO.out BD.out
  | true =>
    have heq:xn=nm:=by
     have:=beq_iff_eq.1 hq
     exact Own.toList_inj this
    rw[if_pos heq] at HTK
    clear heq
    have HBD:=zh (HBR.out.drew);have HOD:=zh (own_below HO.out BD.out)
    have M0:=zh (show wr.drew.cell? ⟨mb,mo+k*2,none⟩=some (.string xn) from m0);have M1:=zh (show wr.drew.cell? ⟨mb,mo+k*2+1,none⟩=some (.string xp) from m1)
    have T1:=zh (show wr.drew.cell? ⟨SB,1,none⟩=some (.slice (some ⟨mb,mo,none⟩) M.length mc) from s1)
    go_upto_region 15 with fail
    refine Lex.zl ?_
    go_wp2_with fail
    refine Lex.ze ?_
    go_upto_region 16 with fail
    clear m0 m1 s0 s1 s2
    (try clear x00 x01);(try clear x10 x11 x12);(try clear x20 x21 x22 x23);(try clear x30 x31 Cz C8);(try clear x40 x41 x42 CY CZ Da);(try clear Tq);(try clear x50);(try clear Tt);(try clear x51);(try clear Tv);(try clear x60);(try clear Tw);(try clear x61);(try clear Tx);(try clear x62)
    have hz:w8.heap.size<=wr.drew.heap.size:=HBD.out.size
    generalize wr.drew=wd at*
    have m0:=M0.out;have m1:=M1.out;have s1:=T1.out
    have hb8:Below wd.heap.size wd (wd.alloc (.cells #[.string xn,.string xp] 73)):=zb
    have hrw:=Bv wd 73 #[.string xn,.string xp] 2 1 1 rfl
    have hwz:w8.heap.size<=(wd.alloc (.cells #[.string xn,.string xp] 73)).heap.size:=Nat.le_trans hz hb8.size
    have HRW:=zh hrw;have HO8:=zh (own_below HOD.out hb8);have HB8:=zh (HBD.out.trans (hb8.mono hz));have HWZ:=zh hwz
    clear hb8 hrw hwz
    go_wp2_with (at_builtin;go_must (refine Ai GD rfl _ _ rfl w8.heap.size W.length (.slice wa W.length wc) (W.flatMap Own.Ie) rfl HO8.out (.slice (some ⟨wd.heap.size,0,none⟩) 1 1) 1 [.string xn,.string xp] rfl HRW.out (by intro u hu;simp at hu;rcases hu with rfl|rfl<;>rfl) (by omega) (by omega) HWZ.out ?_);intro v9 w9 ho9 hg9 hw9;obtain⟨ya,ym,yc,rfl⟩:=Ac ho9;have HO9:=zh ho9;have HB9:=zh (Bc HB8.out HWZ.out HO8.out hg9);clear ho9 hg9 hw9)
    refine⟨⟨k+1,.slice ya ym yc,by omega,rfl,by go_num,?_,HB9.out⟩,by simp[intOf];omega⟩
    rw[HTK.out,List.length_append,List.flatMap_append]
    exact HO9.out
namespace Own
theorem mH (q:Queue)(o:Ak)(id:Int)(ag:Bool)(ap:AZ)(h1:q.props.length<=1000000)(h2:∀ x∈q.props,x.Al.length<=3000000)(h3:o.spaces.length<=3000000)(h4:o.keys.length<=800000)(h5:∀ x∈o.spaces,x.members.length<=3000000):
 (Gm q o id ag ap).1.props.length<=1000000/\(∀ x∈(Gm q o id ag ap).1.props,x.Al.length<=3000000)/\(Gm q o id ag ap).2.1.spaces.length<=3000000/\(Gm q o id ag ap).2.1.keys.length<=800001/\∀ x∈(Gm q o id ag ap).2.1.spaces,x.members.length<=3000000:=by
 have z:∀ c:Int,((Queue.none,Ak.none,c):Queue × Ak × Int).1.props.length<=1000000/\(∀ x∈((Queue.none,Ak.none,c):Queue × Ak × Int).1.props,x.Al.length<=3000000)/\((Queue.none,Ak.none,c):Queue × Ak × Int).2.1.spaces.length<=3000000/\((Queue.none,Ak.none,c):Queue × Ak × Int).2.1.keys.length<=800001/\∀ x∈((Queue.none,Ak.none,c):Queue × Ak × Int).2.1.spaces,x.members.length<=3000000:=
  fun c=>⟨by simp[Queue.none],(fun x hx=>by simp[Queue.none] at hx),by simp[Ak.none],by simp[Ak.none],(fun x hx=>by simp[Ak.none] at hx)⟩
 unfold Gm
 split;exact z _
 split;exact z _
 split;exact z _
 split;exact z _
 split;exact z _
 split;exact z _
 split;exact z _
 rename_i hlv
 have hu:=bG o.keys
 refine⟨by show(MK _ _).length<=_;unfold MK;rw[List.length_map];exact h1,fun x hx=>?_,h3,Nat.le_trans (hu _) (by omega),h5⟩
 obtain⟨y,hy,rfl⟩:=List.mem_map.1 hx
 dsimp only
 split
 ·show(BI _ _).length<=_;omega
 ·exact h2 y hy
end Own
structure VA (w:World) (qv sv kv cv pv:Value) (q:Own.Queue) (o:Own.Ak) (ap:Own.AZ):Prop where
 P:Own.A9 w qv q.props
 S:Own.AJ w sv o.spaces
 K:Own.Bo w kv o.keys
 C:Ay w cv ap.sig.chains
 D:Ay w pv ap.sig.path
theorem VA.below {w w' : World}{qv sv kv cv pv:Value}{q:Own.Queue}{o:Own.Ak}{ap:Own.AZ}(h:VA w qv sv kv cv pv q o ap)(hb:Below w.heap.size w w'):VA w' qv sv kv cv pv q o ap:=
 ⟨h.P.below hb,h.S.below hb,h.K.below hb,h.C.below hb,h.D.below hb⟩
theorem LZ.single {w:World}{ap:Own.AZ}{ca pa:Option Addr}{cn cc pn pc:Nat}(hc:Ay w (.slice ca cn cc) ap.sig.chains)(hd:Ay w (.slice pa pn pc) ap.sig.path)(h1:cn<=cc)(h2:pn<=pc):
 Own.LZ (w.alloc (.cells #[.string ap.name,.int .i64 ap.sig.index,.slice ca cn cc,.slice pa pn pc] 43)) (.slice (some ⟨w.heap.size,0,none⟩) 1 1) [ap]:=by
 have hb:Below w.heap.size w (w.alloc (.cells #[.string ap.name,.int .i64 ap.sig.index,.slice ca cn cc,.slice pa pn pc] 43)):=zb
 have ha:=At.new w 43 #[.string ap.name,.int .i64 ap.sig.index,.slice ca cn cc,.slice pa pn pc]
 refine⟨_,_,rfl,fun i hi=>?_⟩
 have:i=0:=by simpa using hi
 subst this
 exact⟨w.heap.size,0,_,_,rfl,ha.lt,ha.cell 0,ha.cell 1,ha.cell 2,ha.cell 3,hc.below hb,hd.below hb,⟨_,_,_,rfl,h1⟩,⟨_,_,_,rfl,h2⟩⟩
theorem aB (q:Own.Queue)(o:Own.Ak)(id:Int)(ag:Bool)(ap:Own.AZ)(p:Own.Aa)(qv sv kv cv pv uv:Value)(w:World)(hM:Fe w)(hP:Own.A9 w qv q.props)(hS:Own.AJ w sv o.spaces)(hK:Own.Bo w kv o.keys)(hC:Ay w cv ap.sig.chains)(hD:Ay w pv ap.sig.path)(hcc:CS cv)(hcd:CS pv)(hV:Own.Br w uv p.Al)
 (hql:q.props.length<=140737488355328) (hqv:∀ p∈q.props,p.Al.length<=140737488355328/\p.path.size<=140737488355328/\p.digest.size<=140737488355328/\∀ v∈p.Al,v.name.size<=140737488355328/\v.pub.size<=140737488355328)
 (hls:o.spaces.length<=140737488355328) (hlk:o.keys.length<=140737488355328) (hlm:∀ s∈o.spaces,s.members.length<=140737488355328)
 (zS:∀ x∈ap.sig.chains++ap.sig.path,x.size<=140737488355328) (hal:ap.name.size<=140737488355328/\ap.sig.chains.length<=140737488355328/\ap.sig.path.length<=140737488355328)
 (Jb:p.id<9223372036854775808) (hps:p.path.size<=140737488355328) (hpd:p.digest.size<=140737488355328):
 Calls Tryz.prog 4 #[.agg #[.int .i64 q.next,qv],.agg #[.int .i64 o.count,sv,kv],.int .i64 id,.bool ag,.agg #[.string ap.name,.int .i64 ap.sig.index,cv,pv],.agg #[.int .i64 p.id,.string p.path,.string p.digest,.int .i64 p.opened,.int .i64 p.expires,uv]] w fun e w' => e=.returned (.bool true)/\Below w.heap.size w w':=by
 obtain⟨qa,qc,rfl⟩:=hP.len
 obtain⟨sa,sc,rfl⟩:=hS.len
 obtain⟨ka,kc,rfl⟩:=hK.len
 obtain⟨ua,uc,rfl⟩:=hV.len
 obtain⟨ca,cn,cc,rfl,hcn⟩:=hcc
 obtain⟨da,dn,dc,rfl,hdn⟩:=hcd
 have F1:=zh (show Ap w _ [(24,#[.int .i64 q.next,.slice qa q.props.length qc]),(38,#[.int .i64 o.count,.slice sa o.spaces.length sc,.slice ka o.keys.length kc]),(43,#[.string ap.name,.int .i64 ap.sig.index,.slice ca cn cc,.slice da dn dc]),(46,#[.int .i64 p.id,.string p.path,.string p.digest,.int .i64 p.opened,.int .i64 p.expires,.slice ua p.Al.length uc])] from(((((BL.nil w).push 24 #[.int .i64 q.next,.slice qa q.props.length qc]).push 38 #[.int .i64 o.count,.slice sa o.spaces.length sc,.slice ka o.keys.length kc]).push 43 #[.string ap.name,.int .i64 ap.sig.index,.slice ca cn cc,.slice da dn dc]).push 46 #[.int .i64 p.id,.string p.path,.string p.digest,.int .i64 p.opened,.int .i64 p.expires,.slice ua p.Al.length uc]).boxes)
 have haw:=fun W (hW:Fe W)=>Yn W hW
 have zV:=zh haw;have HMX:=zh hM
 have L0:=zh ((VA.mk hP hS hK hC hD).below F1.out.under);have HB0:=zh F1.out.under
 have HCN:=zh hcn;have HDN:=zh hdn;have zW:=zh zS;have HAL:=zh hal;have uO:=zh Jb;have HPS:=zh hps;have HPD:=zh hpd
 have HLS:=zh hls;have HLK:=zh hlk;have HLM:=zh hlm;have HQL:=zh hql;have HQV:=zh hqv
 clear haw hM hP hS hK hC hD hV hcn hdn zS hal Jb hps hpd hls hlk hlm hql hqv
 go_enter Tryz.func4,Tryz.ntmps4
 go_upto_region 1 with fail
 generalize (((w.alloc (.cells #[.int .i64 q.next,.slice qa q.props.length qc] 24)).alloc (.cells #[.int .i64 o.count,.slice sa o.spaces.length sc,.slice ka o.keys.length kc] 38)).alloc (.cells #[.string ap.name,.int .i64 ap.sig.index,.slice ca cn cc,.slice da dn dc] 43)).alloc (.cells #[.int .i64 p.id,.string p.path,.string p.digest,.int .i64 p.opened,.int .i64 p.expires,.slice ua p.Al.length uc] 46)=w0 at*
 go_wp2_with fail
 refine(zV.out _ (HMX.out.below HB0.out)).mono ?_
 rintro e w1 ⟨rfl,hb⟩
 have L1:=zh (L0.out.below hb);have HB1:=zh (HB0.out.trans (hb.mono HB0.out.size));have F2:=zh (F1.out.step hb)
 clear hb zV L0 HB0 F1
 obtain⟨x00,x01⟩:=F2.out.Dw rfl
 have HFQ:=zh (ZB q _ w1 L1.out.P HQL.out HQV.out)
 go_wp2_with fail
 refine HFQ.out.mono ?_
 rintro e w2 ⟨b,rfl,hfq,hb⟩
 have L2:=zh (L1.out.below hb);have HB2:=zh (HB1.out.trans (hb.mono HB1.out.size));have F3:=zh (F2.out.step hb)
 clear hb L1 HB1 HFQ F2
 (try clear x00 x01)
 cases b with
 | false =>
   clear hfq
   go_wp2_with fail
   go_ret
   exact⟨rfl,HB2.out⟩
 | true=>
 have hfq:=hfq rfl
 have HFQ:=zh hfq
 clear hfq
 obtain⟨x10,x11,x12⟩:=F3.out.JU rfl
 have HFO:=zh (ZA o _ _ w2 L2.out.S L2.out.K HLS.out HLK.out HLM.out)
 go_wp2_with fail
 refine HFO.out.mono ?_
 rintro e w3 ⟨b,rfl,hfo,hb⟩
 have L3:=zh (L2.out.below hb);have HB3:=zh (HB2.out.trans (hb.mono HB2.out.size));have F4:=zh (F3.out.step hb)
 clear hb L2 HB2 HFO F3
 (try clear x00 x01);(try clear x10 x11 x12)
 cases b with
 | false =>
   clear hfo
   go_wp2_with fail
   go_ret
   exact⟨rfl,HB3.out⟩
 | true=>
 have hfo:=hfo rfl
 have HFO:=zh hfo
 clear hfo
 obtain⟨x20,x21,x22,x23⟩:=F4.out.SF rfl
 have HFA:=zh (KO _ [ap] _ (LZ.single L3.out.C L3.out.D HCN.out HDN.out) (by show 1<=140737488355328;decide) (fun a ha=>by rw[List.mem_singleton.1 ha];exact zW.out))
 have hba:Below w3.heap.size w3 (w3.alloc (.cells #[.string ap.name,.int .i64 ap.sig.index,.slice ca cn cc,.slice da dn dc] 43)):=zb
 have HBA:=zh hba;clear hba
 go_wp2_with fail
 refine HFA.out.mono ?_
 rintro e w4 ⟨b,rfl,hfa,hb⟩
 have hb:=HBA.out.trans (hb.mono HBA.out.size)
 have L4:=zh (L3.out.below hb);have HB4:=zh (HB3.out.trans (hb.mono HB3.out.size));have F5:=zh (F4.out.step hb)
 clear hb L3 HB3 HFA F4 HBA
 (try clear x00 x01);(try clear x10 x11 x12);(try clear x20 x21 x22 x23)
 cases b with
 | false =>
   clear hfa
   go_wp2_with fail
   go_ret
   exact⟨rfl,HB4.out⟩
 | true=>
 have hfa:=hfa rfl
 have HFA:=zh hfa
 clear hfa
 obtain⟨x30,x31,x32,x33,x34,x35⟩:=F5.out.rX rfl
 have hps:=HPS.out;have hpd:=HPD.out
 by_cases h1:300<(p.path.size:Int)+(p.digest.size:Int)
 ·have d1:decide (300<(p.path.size:Int)+(p.digest.size:Int))=true:=decide_eq_true h1
  have d1' : decide (300<p.path.size+p.digest.size)=true:=zt
  go_wp2_with fail
  go_ret
  exact⟨rfl,HB4.out⟩
 have d1:decide (300<(p.path.size:Int)+(p.digest.size:Int))=false:=decide_eq_false h1
 have d1' : decide (300<p.path.size+p.digest.size)=false:=zf
 have HP2:=zh (show p.path.size<=1000000/\p.digest.size<=1000000 from⟨by omega,by omega⟩)
 have hq1:q.props.length<=1000000:=by have:=HFQ.out.1;omega
 have hq2:∀ x∈q.props,x.Al.length<=3000000/\x.path.size<=140737488355328:=fun x hx=>by
  have h1:=(HFQ.out.2 x hx).1
  have h2:=(HFQ.out.2 x hx).2.1
  exact⟨by omega,by omega⟩
 have ho1:o.spaces.length<=3000000:=by have:=HFO.out.1;omega
 have ho3:o.keys.length<=800000:=by have:=HFO.out.2.1;omega
 have ho2:∀ x∈o.spaces,x.members.length<=3000000/\x.pre.size<=140737488355000:=fun x hx=>by
  have h1:=(HFO.out.2.2.1 x hx).1
  have h2:=(HFO.out.2.2.1 x hx).2.1
  exact⟨by omega,by omega⟩
 have HQ1:=zh hq1;have HQ2:=zh hq2;have HO1:=zh ho1;have HO2:=zh ho2;have HO3:=zh ho3
 clear hq1 hq2 ho1 ho2 ho3 HFQ HFO HFA HLS HLK HLM HQL HQV HPS HPD zW HCN
 obtain⟨R,hR⟩:∃ R,Own.Gm q o id ag ap=R:=⟨_,rfl⟩
 have HR:=zh hR
 clear hR
 go_upto_region 5 with fail
 clear d1 d1' h1 hps hpd
 have X3:=zh (zi x30)
 have hlt3:w.heap.size+1+1+1<w4.heap.size:=F5.out.lt (i:=3) (by show 3<4;omega)
 have zX:=zh hlt3;clear hlt3
 have bd:Below w4.heap.size w4 w4.drew:=(Below.refl _ _).drew
 have BD:=zh bd;clear bd
 (try clear x00 x01);(try clear x10 x11 x12);(try clear x20 x21 x22 x23);(try clear x30 x31 x32 x33 x34 x35)
 obtain⟨x30,x31,x32,x33,x34,x35⟩:=F5.out.rX rfl
 obtain⟨MS,hMS⟩:∃ M,Own.AX p ag=M:=⟨_,rfl⟩
 have HMS:=zh hMS;clear hMS
 go_cut [56] (fun c wx=>c=.bool false/\Below w4.heap.size w4 wx)
 case first=>
  by_cases hp0:0<=p.id
  ·have d0:decide (0<=p.id)=true:=decide_eq_true hp0
   have hm1:=Hf p ag (.slice ua p.Al.length uc) w4.drew hp0 uO.out HP2.out.1 HP2.out.2
   have hm2:=fun W=>Ki p ag (.slice ua p.Al.length uc) W hp0 uO.out HP2.out.1 HP2.out.2
   rw[HMS.out] at hm1
   rw[HMS.out] at hm2
   have HM1:=zh hm1;have HM2:=zh hm2
   clear hm1 hm2 hp0
   go_wp2_with fail
   refine Lex.zm (fun k=>k=w.heap.size+1+1+1) [7] 8 [7] ?_
   simp only[Lex.AA,zd]
   go_wp2_with fail
   refine HM1.out.mono ?_
   rintro e w5 ⟨rfl,hb⟩
   have BX:=zh (BD.out.trans (hb.mono BD.out.size));have F6:=zh (F5.out.step BX.out)
   clear hb HM1
   (try clear x00 x01);(try clear x10 x11 x12);(try clear x20 x21 x22 x23);(try clear x30 x31 x32 x33 x34 x35)
   go_wp2_with fail
   refine Lex.Mid.intro (fun k hk _=>by rw[hk];exact BX.out.block _ zX.out) ?_
   obtain⟨x30,x31,x32,x33,x34,x35⟩:=F6.out.rX rfl
   go_wp2_with fail
   refine(HM2.out _).mono ?_
   rintro e w6 ⟨rfl,hb⟩
   have BY:=zh (BX.out.trans (hb.mono BX.out.size))
   clear hb HM2
   (try clear x00 x01);(try clear x10 x11 x12);(try clear x20 x21 x22 x23);(try clear x30 x31 x32 x33 x34 x35)
   go_wp2_with fail
   refine Lex.zk ⟨⟨rfl,X3.out⟩,trivial⟩ ?_
   go_wp2_with fail
   go_meet
   exact⟨rfl,BY.out⟩
  ·have d0:decide (0<=p.id)=false:=decide_eq_false hp0
   clear hp0
   go_wp2_with fail
   refine Lex.zm (fun k=>k=w.heap.size+1+1+1) [7] 8 [7] ?_
   simp only[Lex.AA,zd]
   go_wp2_with fail
   refine Lex.Mid.intro (fun k _ _=>rfl) ?_
   go_wp2_with fail
   refine Lex.zk ⟨trivial,trivial⟩ ?_
   go_wp2_with fail
   go_meet
   exact⟨rfl,BD.out⟩
 case rest=>
  obtain⟨rfl,hb⟩:=hcut
  obtain⟨w7,hw7⟩:∃ w7,w7=wc:=⟨_,rfl⟩
  subst hw7
  (try clear x00 x01);(try clear x10 x11 x12);(try clear x20 x21 x22 x23);(try clear x30 x31 x32 x33 x34 x35)
  have L7:=zh (L4.out.below hb);have HB7:=zh (HB4.out.trans (hb.mono HB4.out.size));have F7:=zh (F5.out.step hb)
  clear hb L4 HB4 F5 BD HP2 uO HMS X3 zX
  go_upto_region 7 with fail
  obtain⟨x00,x01⟩:=F7.out.Dw rfl
  obtain⟨x10,x11,x12⟩:=F7.out.JU rfl
  obtain⟨x20,x21,x22,x23⟩:=F7.out.SF rfl
  have HMG:=zh (RU q o id ag ap _ _ _ _ _ w7 (HMX.out.below HB7.out) L7.out.P L7.out.S L7.out.K L7.out.C L7.out.D ⟨_,_,_,rfl,HDN.out⟩ HQ1.out (fun x hx=>(HQ2.out x hx).1) HO1.out HO3.out (fun x hx=>(HO2.out x hx).1) HAL.out)
  go_wp2_with fail
  refine HMG.out.mono ?_
  rintro e wxa ⟨⟨qvx,svx,kvx,rfl,⟨qpx,rfl,hqc⟩,hsc,hkc⟩,hb⟩
  rw[HR.out] at hqc hsc hkc
  rw[HR.out]
  obtain⟨qax,qcx,rfl⟩:=hqc.len
  obtain⟨sax,scx,rfl⟩:=hsc.len
  obtain⟨kax,kcx,rfl⟩:=hkc.len
  have zY:=zh hqc;have zZ:=zh hsc;have zaa:=zh hkc;have BC:=zh hb
  clear hqc hsc hkc hb HMG
  (try clear x00 x01);(try clear x10 x11 x12);(try clear x20 x21 x22 x23);(try clear x30 x31 x32 x33 x34 x35)
  go_upto_region 8 with fail
  obtain⟨hm,hb⟩:=LS.two zZ.out zaa.out zY.out
  obtain⟨gBx,hgB⟩:∃ g,g=wxa.heap.size+1:=⟨_,rfl⟩
  obtain⟨gAx,hgA⟩:∃ g,g=wxa.heap.size:=⟨_,rfl⟩
  rw[<- hgB] at hm ⊢
  rw[<- hgA] at hm ⊢
  have BWx:=zh (BC.out.trans (hb.mono BC.out.size))
  have Mx:=zh hm;have Lx:=zh (L7.out.below BWx.out);have HBx:=zh (HB7.out.trans (BWx.out.mono HB7.out.size));have Fx:=zh (F7.out.step BWx.out)
  clear hm hb hgA hgB BC zY zZ zaa
  generalize (wxa.alloc (.cells #[.int .i64 R.1.next,.slice qax R.1.props.length qcx] 24)).alloc (.cells #[.int .i64 R.2.1.count,.slice sax R.2.1.spaces.length scx,.slice kax R.2.1.keys.length kcx] 38)=wx at*
  obtain⟨x00,x01⟩:=Fx.out.Dw rfl
  obtain⟨x10,x11,x12⟩:=Fx.out.JU rfl
  obtain⟨x20,x21,x22,x23⟩:=Fx.out.SF rfl
  have HMG:=zh (Yz q o id ag ap _ _ _ _ _ wx Lx.out.P Lx.out.S Lx.out.K Lx.out.C Lx.out.D ⟨_,_,_,rfl,HDN.out⟩ HQ1.out HQ2.out (Nat.le_trans HO1.out (by decide)) HO3.out HO2.out HAL.out)
  go_wp2_with fail
  refine HMG.out.mono ?_
  rintro e wya ⟨⟨qvy,svy,kvy,rfl,⟨qpy,rfl,hqc⟩,hsc,hkc⟩,hb⟩
  rw[HR.out] at hqc hsc hkc
  rw[HR.out]
  obtain⟨qay,qcy,rfl⟩:=hqc.len
  obtain⟨say,scy,rfl⟩:=hsc.len
  obtain⟨kay,kcy,rfl⟩:=hkc.len
  have zab:=zh hqc;have zac:=zh hsc;have zad:=zh hkc;have BC:=zh hb
  clear hqc hsc hkc hb HMG
  (try clear x00 x01);(try clear x10 x11 x12);(try clear x20 x21 x22 x23);(try clear x30 x31 x32 x33 x34 x35)
  go_upto_region 9 with fail
  obtain⟨hm,hb⟩:=LS.two zac.out zad.out zab.out
  obtain⟨gBy,hgB⟩:∃ g,g=wya.heap.size+1:=⟨_,rfl⟩
  obtain⟨gAy,hgA⟩:∃ g,g=wya.heap.size:=⟨_,rfl⟩
  rw[<- hgB] at hm ⊢
  rw[<- hgA] at hm ⊢
  have BWy:=zh (BC.out.trans (hb.mono BC.out.size))
  have My:=zh hm;have Ly:=zh (Lx.out.below BWy.out);have HBy:=zh (HBx.out.trans (BWy.out.mono HBx.out.size));have Fy:=zh (Fx.out.step BWy.out)
  clear hm hb hgA hgB BC zab zac zad
  generalize (wya.alloc (.cells #[.int .i64 R.1.next,.slice qay R.1.props.length qcy] 24)).alloc (.cells #[.int .i64 R.2.1.count,.slice say R.2.1.spaces.length scy,.slice kay R.2.1.keys.length kcy] 38)=wy at*
  have Mx2:=zh (Mx.out.below BWy.out)
  clear Mx BWx BWy Lx HBx Fx L7 HB7 F7 Ly Fy
  have hrl:=Own.mH q o id ag ap HQ1.out (fun x hx=>(HQ2.out x hx).1) HO1.out HO3.out (fun x hx=>(HO2.out x hx).1)
  rw[HR.out] at hrl
  have HRL:=zh hrl
  clear hrl
  obtain⟨q0c,q1c⟩:=Mx2.out.atQ.c2;obtain⟨q0d,q1d⟩:=My.out.atQ.c2
  have HSM:=zh (Yv R.1 _ _ wy Mx2.out.ps My.out.ps (Nat.le_trans HRL.out.1 (by decide)) (fun x hx=>Nat.le_trans (HRL.out.2.1 x hx) (by decide)))
  go_wp2_with fail
  refine HSM.out.mono ?_
  rintro e w8 ⟨rfl,hb⟩
  have HB8:=zh (HBy.out.trans (hb.mono HBy.out.size));have Mx8:=zh (Mx2.out.below hb);have My8:=zh (My.out.below hb)
  clear hb q0c q1c q0d q1d HSM HBy Mx2 My
  obtain⟨o0c,o1c,o2c⟩:=Mx8.out.atO.c3;obtain⟨o0d,o1d,o2d⟩:=My8.out.atO.c3
  have HSO:=zh (Yw R.2.1 _ _ _ _ w8 Mx8.out.sp My8.out.sp Mx8.out.ks My8.out.ks (Nat.le_trans HRL.out.2.2.1 (by decide)) (Nat.le_trans HRL.out.2.2.2.1 (by decide)) (fun x hx=>Nat.le_trans (HRL.out.2.2.2.2 x hx) (by decide)))
  go_wp2_with fail
  refine HSO.out.mono ?_
  rintro e w9 ⟨rfl,hb⟩
  have HB9:=zh (HB8.out.trans (hb.mono HB8.out.size))
  clear hb o0c o1c o2c o0d o1d o2d HSO HB8 Mx8 My8
  go_wp2_with fail
  go_ret
  exact⟨rfl,HB9.out⟩
end
section
open Go Go.ChangeShapes Go.WideShapes Go.RowKit Go.Maps
section
variable {H:Type} {enc:TypeId × Value->H}
theorem Gu {a:Assume}{C:Checked}{os:Os}{f:FuncId}{fn:Func}{s:ChangeSpec}{conds:List PathCond}{apart fresh handsOn again:Bool}{X:World->Array Value->Prop}
 (hX:∀ (w w' : World) (args:Array Value),w.heap=w'.heap->X w args->X w' args)
 (own:ownKnob C.prog.godebug=none) (started:os.Started) (noInit:C.prog.inits.idxOf? f=none) (hfn:C.prog.funcs[f]? = some fn)
 (witness : ∃ (w : World) (tape : Tape) (i : Input),w.os = os ∧ (w.forCall tape i).Shaped C.prog ∧ i.vars = [] ∧ Input.okWide C.prog (w.forCall tape i) .any w.heap.size f i ∧
   ((s.pre enc C.prog fn conds apart (w.forCall tape i).memory i.args/\X (w.forCall tape i).memory i.args)/\sizedMet enc C.prog fn (OpenSpec.ofChange s) apart (w.forCall tape i).memory i.args)/\a.holds C.prog (lone (Frame.enter C.prog f i.args .normal) [] (w.forCall tape i)))
 (contract : ∀ (W : World) (base : Nat) (args : Array Value) (ds gs : List (DataW H)) (before : List MemPlace),
   (∀ (j:Nat) t v,fn.params[j]? = some t->args[j]? = some v->Value.okWide C.prog W .any base t v)->
   DataW.Whole enc C.prog fn.params.toList s.vars apart W args.toList ds gs before->
   conds.all (PathCond.test C.prog ⟨fn.params.toList,ds,s.plain.varTypes C.prog,gs⟩)=true->
   (DataW.weightsEach C.prog (fn.params.toList++s.plain.varTypes C.prog) (ds++gs)).all (· <= reachBytes)=true->X W args->W.ShapedOpen C.prog->
   a.holds C.prog (lone (Frame.enter C.prog f args .normal) [] W)->
   Calls C.prog f args W fun e W' => ∃ v,e=.returned v/\s.post enc C.prog fn apart fresh handsOn again W args v W'):
 ReturnsInHanded a C os f .any (fun w args=>(s.pre enc C.prog fn conds apart w args/\X w args)/\sizedMet enc C.prog fn (OpenSpec.ofChange s) apart w args) (s.post enc C.prog fn apart fresh handsOn again):=by
 refine returnsInHanded_of_calls own started noInit witness ?_
 intro w tape i _ hsh _ hok hpre hholds
 obtain⟨_,_,_,fn',hfn',_,_,_,_,hval⟩:=hok
 have e:fn' = fn:=Option.some.inj (hfn'.symm.trans hfn)
 subst e
 obtain⟨⟨⟨ds,gs,before,hw,hc⟩,hx⟩,hz⟩:=hpre
 have hw':=DataW.Whole.of_heap (w':=w.forCall tape i) (by rfl) hw
 refine(contract (w.forCall tape i) w.heap.size i.args ds gs before hval hw' hc (hz.weights hw) (hX _ _ _ (by rfl) hx) hsh hholds).mono fun e W' ⟨v,he,hp⟩=>?_
 subst he
 exact ChangeSpec.post_blind hp
theorem pQ {W:World}(h:W.ShapedOpen Tryz.prog):Fe W:=
 Go.Proofs.cell_of_shapedOpen_int (zero:=#[.int .i64 0]) (t:=3) h (of_decide_eq_true (by kernel_rfl)) (by kernel_rfl) rfl (by kernel_rfl) (by kernel_rfl) Tryz.underlying3
end
end
section
open Go Go.RowKit Go.Maps
theorem Ay.opened {w:World}{a:Addr}{len cap:Nat}{ss:List ByteArray}(h:∀ i,i<ss.length->w.cell? (a.add i)=some (.string (ss.getD i ByteArray.empty)))(hl:len<=ss.length):Ay w (.slice (some a) len cap) (ss.take len):=by
 have e:(ss.take len).length=len:=by rw[List.length_take];omega
 by_cases h0:len=0
 ·exact⟨_,_,by rw[e],.inl (by rw[e];exact h0)⟩
 ·obtain⟨b,o,sp⟩:=a
  cases sp with
  | none =>
    refine⟨_,_,by rw[e],.inr ⟨b,o,rfl,fun j hj=>?_⟩⟩
    rw[e] at hj
    have:=h j (by omega)
    have e2:(⟨b,o,none⟩:Addr).add j=⟨b,o+j,none⟩:=by unfold Addr.add;split<;>simp_all
    rw[e2] at this
    rw[this]
    have:(ss.take len).getD j ⟨#[]⟩=ss.getD j ByteArray.empty:=by simp[List.getD_eq_getElem?_getD,List.getElem?_take,hj];rfl
    rw[this]
  | some p =>
    exfalso
    have:=h 0 (by omega)
    unfold World.cell? Addr.add at this
    simp at this
    split at this<;>simp_all
open Go.ChangeShapes in
theorem Nu {H:Type}{P:Program}{e:TypeId} : ∀ (ss:List ByteArray),(DataW.weightsAll P e (strs (H:=H) ss)).all (· <= reachBytes)=true->∀ s∈ss,s.size<=reachBytes
 | [],_,_,h=>by cases h
 | x :: l,h,s,hs => by
   have e1:DataW.weightsAll P e (strs (H:=H) (x::l))=[x.data.toList.length]++DataW.weightsAll P e (strs (H:=H) l):=rfl
   rw[e1,List.all_append,Bool.and_eq_true] at h
   rcases List.mem_cons.1 hs with rfl|hs
   ·have:=h.1
    simp only[List.all_cons,List.all_nil,Bool.and_true,decide_eq_true_eq] at this
    rw[Array.length_toList] at this
    exact this
   ·exact Nu l h.2 s hs
theorem VZ:Tryz.prog.bytesOf 9=16:=by kernel_rfl
open Go.ChangeShapes Go.WideShapes in
theorem pR {H:Type}{enc:TypeId × Value->H}{W:World}{a:Option Addr}{len cap:Nat}{d:DataW H}{p:List MemPlace}(h:DataW.Trod enc Tryz.prog W 0 (fun _=>true) true 39 (.slice a len cap) d p)
 (hz:(d.weights Tryz.prog 39).all (· <= reachBytes)=true):∃ xs:List ByteArray,Ay W (.slice a len cap) xs/\(∀ z∈xs,z.size<=140737488355328)/\xs.length<=140737488355328:=by
 obtain⟨fuel,hf⟩:=h
 rcases open_strings Tryz.underlying39 Tryz.underlying9 (by kernel_rfl) hf with ⟨hcs,_⟩|⟨a',len',cap',ss,hcs,_,hl,hm,hn,hx2,hcell,_⟩
 ·have e:Value.slice a len cap=.slice none 0 0:=by simpa [Value.cells] using hcs
  rw[e]
  exact⟨[],⟨none,0,rfl,.inl rfl⟩,(fun z hz=>by cases hz),Nat.zero_le _⟩
 ·have e:Value.slice a len cap=.slice (some a') len' cap':=by simpa [Value.cells] using hcs
  rw[e]
  have hn' : ss.length=cap':=by simpa using hn
  have hd:d=.slice (strs (ss.take len')) (strs (ss.drop len')):=(Prod.mk.inj hx2).1
  rw[hd] at hz
  have hw:(DataW.slice (strs (H:=H) (ss.take len')) (strs (ss.drop len'))).weights Tryz.prog 39=((strs (H:=H) (ss.take len')).length+(strs (H:=H) (ss.drop len')).length)*Tryz.prog.bytesOf 9::(DataW.weightsAll Tryz.prog 9 (strs (H:=H) (ss.take len'))++DataW.weightsAll Tryz.prog 9 (strs (H:=H) (ss.drop len'))):=by
   simp only[DataW.weights,Tryz.underlying39]
  rw[hw,List.all_cons,List.all_append,Bool.and_eq_true,Bool.and_eq_true,VZ] at hz
  obtain⟨h1,h2,_⟩:=hz
  have e1:(strs (H:=H) (ss.take len')).length=len':=by unfold strs;rw[List.length_map,List.length_take];omega
  rw[e1] at h1
  have h1':=of_decide_eq_true h1
  unfold reachBytes at h1'
  refine⟨ss.take len',Ay.opened hcell (by omega),fun z hz2=>?_,?_⟩
  ·have:=Nu _ h2 z hz2
   unfold reachBytes at this
   omega
  ·rw[List.length_take]
   omega
end
section
open Go Go.ChangeShapes Go.WideShapes Go.RowKit Go.Maps
section
variable {H:Type} {enc:TypeId × Value->H}
theorem Km {P:Program}{e:TypeId}{p:Nat->Bool} : ∀ l:List (DataW H),(DataW.weightsAll P e l).all p=true->∀ d∈l,(d.weights P e).all p=true
 | [],_,_,h=>by cases h
 | x :: l,h,d,hd => by
   have e1:DataW.weightsAll P e (x::l)=x.weights P e++DataW.weightsAll P e l:=rfl
   rw[e1,List.all_append,Bool.and_eq_true] at h
   rcases List.mem_cons.1 hd with rfl|hd
   ·exact h.1
   ·exact Km l h.2 d hd
theorem pU {α : Type}{R:Elem α}{Good : α -> Prop}{T S:TypeId}{size B:Nat}(hu:Tryz.prog.underlying S=some (.slice T))(hsz:Tryz.prog.cellsOf T=size)(hby:Tryz.prog.bytesOf T=B)(hB:1<=B)(hs1:1<=size){W:World}
 (mI:∀ (n:Nat) (cs:List Value) (x:DataW H × List MemPlace),cs.length=size->DataW.trod enc Tryz.prog W 0 (fun _=>true) true n T cs=some x->(x.1.weights Tryz.prog T).all (· <= reachBytes)=true->∃ o,R Own.IE W cs o/\Good o)
 {v:Value} {d:DataW H} {ps:List MemPlace} (h:DataW.Trod enc Tryz.prog W 0 (fun _=>true) true S v d ps) (hsl:∃ b len cap,v=.slice b len cap) (hz:(d.weights Tryz.prog S).all (· <= reachBytes)=true):
 ∃ l:List α,Ag size R Own.IE W v l/\(∀ o∈l,Good o)/\l.length<=140737488355328:=by
 obtain⟨a0,rU,cap0,rfl⟩:=hsl
 obtain⟨n,hy⟩:=h
 rcases Deep.open_slice hu hy with ⟨hcs,_⟩|⟨a,len,cap,m,k,D,Pl,hcs,_,hl,_,hm,hx,hc⟩
 ·have e:Value.slice a0 rU cap0=.slice none 0 0:=by simpa [Value.cells] using hcs
  rw[e]
  exact⟨[],Ag.nil _ _,(fun z hz=>by cases hz),Nat.zero_le _⟩
 ·have e:Value.slice a0 rU cap0=.slice (some a) len cap:=by simpa [Value.cells] using hcs
  rw[e]
  have hm' : m=cap:=by rw[hm];rfl
  have hd:=(Prod.mk.inj hx).1
  rw[hd] at hz
  have hw:(DataW.slice ((List.range len).map D) ((List.range (m-len)).map fun j=>D (len+j))).weights Tryz.prog S=
   (((List.range len).map D).length + ((List.range (m - len)).map fun j => D (len + j)).length) * Tryz.prog.bytesOf T ::
     (DataW.weightsAll Tryz.prog T ((List.range len).map D)++DataW.weightsAll Tryz.prog T ((List.range (m-len)).map fun j=>D (len+j))):=by
   simp only[DataW.weights,hu]
  rw[hw,List.all_cons,List.all_append,Bool.and_eq_true,Bool.and_eq_true,hby] at hz
  obtain⟨h1,h2,_⟩:=hz
  have h1':=of_decide_eq_true h1
  unfold reachBytes at h1'
  rw[List.length_map,List.length_range] at h1'
  have hlen' : len<=140737488355328:=by
   have:=Nat.mul_le_mul_left (len+((List.range (m-len)).map fun j=>D (len+j)).length) hB
   omega
  have each:∀ i,i<len->∃ (cs:List Value) (o : α),cs.length=size/\(∀ j,j<size->W.cell? (a.add (i*size+j))=cs[j]?)/\R Own.IE W cs o/\Good o:=by
   intro i hi
   obtain⟨cs',g1,g2⟩:=hc i (by omega)
   rw[hsz] at g1
   obtain⟨_,hlen,hcell⟩:=World.cells?_some g1
   have hzi:=Km _ h2 (D i) (List.mem_map.2 ⟨i,List.mem_range.2 hi,rfl⟩)
   obtain⟨o,q1,q2⟩:=mI _ cs' _ hlen g2 hzi
   exact⟨cs',o,hlen,fun j hj=>by rw[<- Deep.add_add];exact hcell j hj,q1,q2⟩
  by_cases h0:len=0
  ·subst h0
   exact⟨[],Ag.nil _ _,(fun z hz=>by cases hz),Nat.zero_le _⟩
  have ho0:Nonempty α :=by
   obtain⟨_,o,_⟩:=each 0 (by omega)
   exact⟨o⟩
  obtain⟨O,hO⟩:∃ O:Nat -> α,∀ i,i<len->∃ cs:List Value,cs.length=size/\(∀ j,j<size->W.cell? (a.add (i*size+j))=cs[j]?)/\R Own.IE W cs (O i)/\Good (O i):=by
   refine⟨fun i=>if h:i<len then (each i h).choose_spec.choose else Classical.choice ho0,fun i hi=>?_⟩
   simp only[dif_pos hi]
   exact⟨_,(each i hi).choose_spec.choose_spec⟩
  have el:((List.range len).map O).length=len:=by rw[List.length_map,List.length_range]
  refine⟨(List.range len).map O,⟨_,_,by rw[el],.inr ?_⟩,?_,by rw[el];exact hlen'⟩
  ·obtain⟨b,o,sp⟩:=a
   obtain⟨cs0,l0,hcell,_⟩:=hO 0 (by omega)
   have hc0:=hcell 0 (by omega)
   have hsome:∃ u,cs0[0]? = some u:=⟨cs0[0]'(by omega),List.getElem?_eq_getElem (by omega)⟩
   obtain⟨u,hu0⟩:=hsome
   rw[hu0] at hc0
   cases sp with
   | some p =>
     exfalso
     unfold World.cell? Addr.add at hc0
     simp at hc0
     split at hc0<;>simp_all
   | none =>
     have ad:∀ q,(⟨b,o,none⟩:Addr).add q=⟨b,o+q,none⟩:=fun q=>by unfold Addr.add;split<;>simp_all
     refine⟨b,o,rfl,trivial,?_,?_⟩
     ·rw[ad] at hc0
      exact block_lt hc0
     ·intro i hi
      rw[el] at hi
      obtain⟨cs,k0,k1,k2,_⟩:=hO i hi
      simp only[List.getElem_map,List.getElem_range]
      refine⟨cs,k0,fun j u hj=>?_,k2⟩
      have hjl:j<cs.length:=(List.getElem?_eq_some_iff.1 hj).1
      have:=k1 j (by omega)
      rw[ad,hj] at this
      rw[Nat.add_assoc]
      exact this
  ·intro o ho
   obtain⟨i,hi,rfl⟩:=List.mem_map.1 ho
   obtain⟨_,_,_,_,q⟩:=hO i (List.mem_range.1 hi)
   exact q
end
end
section
open Go Go.ChangeShapes Go.WideShapes Go.RowKit Go.Maps
section
variable {H:Type} {enc:TypeId × Value->H}
theorem Y3 {P:Program}{w:World}{base:Nat}{spare:Nat->Bool}{held:Bool}{t0 t1 t2 t3 t4 t5:TypeId}{args:Array Value}{ds:List (DataW H)}{ps:List MemPlace}(h:DataW.TrodAll enc P w base spare held [t0,t1,t2,t3,t4,t5] args.toList ds ps):
 ∃ v0 v1 v2 v3 v4 v5 d0 d1 d2 d3 d4 d5 p0 p1 p2 p3 p4 p5,args=#[v0,v1,v2,v3,v4,v5]/\ds=[d0,d1,d2,d3,d4,d5]/\ps=p0++p1++p2++p3++p4++p5/\DataW.Trod enc P w base spare held t0 v0 d0 p0/\DataW.Trod enc P w base spare held t1 v1 d1 p1/\DataW.Trod enc P w base spare held t2 v2 d2 p2/\DataW.Trod enc P w base spare held t3 v3 d3 p3/\DataW.Trod enc P w base spare held t4 v4 d4 p4/\DataW.Trod enc P w base spare held t5 v5 d5 p5:=by
 obtain⟨v0,vs0,d0,ds0,p0,q0,hargs,rfl,rfl,g0,r0⟩:=trodAll_cons h
 obtain⟨v1,vs1,d1,ds1,p1,q1,rfl,rfl,rfl,g1,r1⟩:=trodAll_cons r0
 obtain⟨v2,vs2,d2,ds2,p2,q2,rfl,rfl,rfl,g2,r2⟩:=trodAll_cons r1
 obtain⟨v3,vs3,d3,ds3,p3,q3,rfl,rfl,rfl,g3,r3⟩:=trodAll_cons r2
 obtain⟨v4,vs4,d4,ds4,p4,q4,rfl,rfl,rfl,g4,r4⟩:=trodAll_cons r3
 obtain⟨v5,vs5,d5,ds5,p5,q5,rfl,rfl,rfl,g5,r5⟩:=trodAll_cons r4
 obtain⟨rfl,rfl,rfl⟩:=trodAll_nil r5
 exact⟨v0,v1,v2,v3,v4,v5,d0,d1,d2,d3,d4,d5,p0,p1,p2,p3,p4,p5,by cases args;simp_all,rfl,by simp,g0,g1,g2,g3,g4,g5⟩
theorem zae {x:Int}(h:(Lit.int .i64 x).wf=true):x<9223372036854775808:=by
 simp[Lit.wf,IntKind.has] at h
 have h2:IntKind.i64.max=9223372036854775807:=by decide
 omega
theorem U1:Tryz.prog.cellsOf 3=1:=by kernel_rfl
theorem Il:Tryz.prog.cellsOf 9=1:=by kernel_rfl
theorem uP:Tryz.prog.cellsOf 4=1:=by kernel_rfl
def Wd (m:Own.Member):Prop:=m.name.size<=140737488355328/\m.pub.size<=140737488355328
def uQ (k:Own.KeyUse):Prop:=k.pub.size<=140737488355328/\(Lit.int .i64 k.next).wf=true
def mJ (v:Own.Vote):Prop:=v.name.size<=140737488355328/\v.pub.size<=140737488355328
theorem Dr {s:ByteArray}(h:s.data.toList.length<=reachBytes):s.size<=140737488355328:=by
 unfold reachBytes at h
 have e:s.size=s.data.toList.length:=by rw[Array.length_toList];rfl
 omega
theorem Y4 {W:World}(n:Nat)(cs:List Value)(x:DataW H × List MemPlace)(hl:cs.length=2)(hy:DataW.trod enc Tryz.prog W 0 (fun _=>true) true n 73 cs=some x)(hz:(x.1.weights Tryz.prog 73).all (· <= reachBytes)=true):
 ∃ o,Own.Cb Own.IE W cs o/\Wd o:=by
 match cs,hl with
 | [c0,c1],_ =>
   obtain⟨y0,y1,m,he,_,u0,u1⟩:=ChangeShapes.trod_struct2 Tryz.underlying73 hy
   simp only[Il,List.drop,List.take] at u0 u1
   obtain⟨s,hs,rfl,_⟩:=DataW.trod_string Tryz.underlying9 u0
   obtain⟨t,ht,rfl,_⟩:=DataW.trod_string Tryz.underlying9 u1
   simp only[List.cons.injEq,and_true] at hs ht
   subst hs;subst ht
   have hw:x.1.weights Tryz.prog 73=[s.data.toList.length,t.data.toList.length]:=by
    rw[he]
    simp only[DataW.weights,Tryz.underlying73]
    rfl
   rw[hw] at hz
   simp only[List.all_cons,List.all_nil,Bool.and_true,Bool.and_eq_true,decide_eq_true_eq] at hz
   exact⟨⟨s,t⟩,rfl,Dr hz.1,Dr hz.2⟩
theorem mK {W:World}(n:Nat)(cs:List Value)(x:DataW H × List MemPlace)(hl:cs.length=2)(hy:DataW.trod enc Tryz.prog W 0 (fun _=>true) true n 91 cs=some x)(hz:(x.1.weights Tryz.prog 91).all (· <= reachBytes)=true):
 ∃ o,Own.ML Own.IE W cs o/\uQ o:=by
 match cs,hl with
 | [c0,c1],_ =>
   obtain⟨y0,y1,m,he,_,u0,u1⟩:=ChangeShapes.trod_struct2 Tryz.underlying91 hy
   simp only[Il,U1,List.drop,List.take] at u0 u1
   obtain⟨s,hs,rfl,_⟩:=DataW.trod_string Tryz.underlying9 u0
   obtain⟨t,ht,rfl,wt⟩:=DataW.trod_int Tryz.underlying3 u1
   simp only[List.cons.injEq,and_true] at hs ht
   subst hs;subst ht
   have hw:x.1.weights Tryz.prog 91=[s.data.toList.length]:=by
    rw[he]
    simp only[DataW.weights,Tryz.underlying91]
    rfl
   rw[hw] at hz
   simp only[List.all_cons,List.all_nil,Bool.and_true,decide_eq_true_eq] at hz
   exact⟨⟨s,t⟩,rfl,Dr hz,wt⟩
theorem gy {W:World}(n:Nat)(cs:List Value)(x:DataW H × List MemPlace)(hl:cs.length=3)(hy:DataW.trod enc Tryz.prog W 0 (fun _=>true) true n 82 cs=some x)(hz:(x.1.weights Tryz.prog 82).all (· <= reachBytes)=true):
 ∃ o,Own.Jj Own.IE W cs o/\mJ o:=by
 match cs,hl with
 | [c0,c1,c2],_ =>
   obtain⟨y0,y1,y2,m,he,_,u0,u1,u2⟩:=Deep.trod_struct3 Tryz.underlying82 hy
   simp only[Il,uP,List.drop,List.take] at u0 u1 u2
   obtain⟨s,hs,rfl,_⟩:=DataW.trod_string Tryz.underlying9 u0
   obtain⟨t,ht,rfl,_⟩:=DataW.trod_string Tryz.underlying9 u1
   obtain⟨b,hb,rfl⟩:=DataW.trod_bool Tryz.underlying4 u2
   simp only[List.cons.injEq,and_true] at hs ht hb
   subst hs;subst ht;subst hb
   have hw:x.1.weights Tryz.prog 82=[s.data.toList.length,t.data.toList.length]:=by
    rw[he]
    simp only[DataW.weights,Tryz.underlying82]
    rfl
   rw[hw] at hz
   simp only[List.all_cons,List.all_nil,Bool.and_true,Bool.and_eq_true,decide_eq_true_eq] at hz
   exact⟨⟨s,t,b⟩,rfl,Dr hz.1,Dr hz.2⟩
theorem U2 {W:World}{S T:TypeId}(hu:Tryz.prog.underlying S=some (.slice T)){n:Nat}{v:Value}{x:DataW H × List MemPlace}(hy:DataW.trod enc Tryz.prog W 0 (fun _=>true) true n S [v]=some x):∃ b len cap,v=.slice b len cap:=by
 rcases Deep.open_slice hu hy with ⟨hcs,_⟩|⟨a,len,cap,m,k,D,Pl,hcs,_⟩
 ·exact⟨none,0,0,by simpa using hcs⟩
 ·exact⟨_,len,cap,by simpa using hcs⟩
theorem Kn {α : Type}{R:Elem α}{Good : α -> Prop}{T S:TypeId}{size B:Nat}(hu:Tryz.prog.underlying S=some (.slice T))(hsz:Tryz.prog.cellsOf T=size)(hby:Tryz.prog.bytesOf T=B)(hB:1<=B)(hs1:1<=size){W:World}
 (mI:∀ (n:Nat) (cs:List Value) (x:DataW H × List MemPlace),cs.length=size->DataW.trod enc Tryz.prog W 0 (fun _=>true) true n T cs=some x->(x.1.weights Tryz.prog T).all (· <= reachBytes)=true->∃ o,R Own.IE W cs o/\Good o)
 {n:Nat} {v:Value} {x:DataW H × List MemPlace} (hy:DataW.trod enc Tryz.prog W 0 (fun _=>true) true n S [v]=some x) (hz:(x.1.weights Tryz.prog S).all (· <= reachBytes)=true):
 ∃ l:List α,Ag size R Own.IE W v l/\(∀ o∈l,Good o)/\l.length<=140737488355328:=by
 obtain⟨b,len,cap,rfl⟩:=U2 hu hy
 exact pU (ps:=x.2) hu hsz hby hB hs1 mI ⟨n,hy⟩ ⟨b,len,cap,rfl⟩ hz
theorem Y5 {W:World}{n:Nat}{v:Value}{x:DataW H × List MemPlace}(hy:DataW.trod enc Tryz.prog W 0 (fun _=>true) true n 68 [v]=some x)(hz:(x.1.weights Tryz.prog 68).all (· <= reachBytes)=true):∃ l,Own.Ar W v l/\(∀ o∈l,Wd o)/\l.length<=140737488355328:=
 Kn (B:=32) Tryz.underlying68 (by kernel_rfl) (by kernel_rfl) (by decide) (by decide) Y4 hy hz
theorem mM {W:World}{n:Nat}{v:Value}{x:DataW H × List MemPlace}(hy:DataW.trod enc Tryz.prog W 0 (fun _=>true) true n 36 [v]=some x)(hz:(x.1.weights Tryz.prog 36).all (· <= reachBytes)=true):∃ l,Own.Bo W v l/\(∀ o∈l,uQ o)/\l.length<=140737488355328:=
 Kn (B:=24) Tryz.underlying36 (by kernel_rfl) (by kernel_rfl) (by decide) (by decide) mK hy hz
theorem gB {W:World}{n:Nat}{v:Value}{x:DataW H × List MemPlace}(hy:DataW.trod enc Tryz.prog W 0 (fun _=>true) true n 44 [v]=some x)(hz:(x.1.weights Tryz.prog 44).all (· <= reachBytes)=true):∃ l,Own.Br W v l/\(∀ o∈l,mJ o)/\l.length<=140737488355328:=
 Kn (B:=40) Tryz.underlying44 (by kernel_rfl) (by kernel_rfl) (by decide) (by decide) gy hy hz
theorem gD:Tryz.prog.cellsOf 68=1:=by kernel_rfl
theorem pV:Tryz.prog.cellsOf 44=1:=by kernel_rfl
theorem mO:Tryz.prog.cellsOf 35=1:=by kernel_rfl
theorem Y6:Tryz.prog.cellsOf 22=1:=by kernel_rfl
theorem gF:Tryz.prog.cellsOf 36=1:=by kernel_rfl
def aC (s:Own.Space):Prop:=s.pre.size<=140737488355328/\(Lit.int .i64 s.threshold).wf=true/\(∀ m∈s.members,Wd m)/\s.members.length<=140737488355328
def bQ (p:Own.Aa):Prop:=((Lit.int .i64 p.id).wf=true/\(Lit.int .i64 p.opened).wf=true/\(Lit.int .i64 p.expires).wf=true)/\p.path.size<=140737488355328/\p.digest.size<=140737488355328/\(∀ v∈p.Al,mJ v)/\p.Al.length<=140737488355328
theorem aD {W:World}(n:Nat)(cs:List Value)(x:DataW H × List MemPlace)(hl:cs.length=3)(hy:DataW.trod enc Tryz.prog W 0 (fun _=>true) true n 70 cs=some x)(hz:(x.1.weights Tryz.prog 70).all (· <= reachBytes)=true):
 ∃ o,Own.CB Own.IE W cs o/\aC o:=by
 match cs,hl with
 | [c0,c1,c2],_ =>
   obtain⟨y0,y1,y2,m,he,_,u0,u1,u2⟩:=Deep.trod_struct3 Tryz.underlying70 hy
   simp only[Il,U1,gD,List.drop,List.take] at u0 u1 u2
   obtain⟨s,hs,rfl,_⟩:=DataW.trod_string Tryz.underlying9 u0
   obtain⟨t,ht,rfl,wt⟩:=DataW.trod_int Tryz.underlying3 u2
   simp only[List.cons.injEq,and_true] at hs ht
   subst hs;subst ht
   have hw:x.1.weights Tryz.prog 70=s.data.toList.length::(y1.1.weights Tryz.prog 68++[]):=by
    rw[he]
    simp only[DataW.weights,Tryz.underlying70]
    rfl
   rw[hw] at hz
   simp only[List.all_cons,List.append_nil,Bool.and_eq_true,decide_eq_true_eq] at hz
   obtain⟨l,h1,h2,h3⟩:=Y5 u1 hz.2
   exact⟨⟨s,l,t⟩,⟨c1,rfl,h1⟩,Dr hz.1,wt,h2,h3⟩
theorem U3 {W:World}(n:Nat)(cs:List Value)(x:DataW H × List MemPlace)(hl:cs.length=6)(hy:DataW.trod enc Tryz.prog W 0 (fun _=>true) true n 46 cs=some x)(hz:(x.1.weights Tryz.prog 46).all (· <= reachBytes)=true):
 ∃ o,Own.Lc Own.IE W cs o/\bQ o:=by
 match cs,hl with
 | [c0,c1,c2,c3,c4,c5],_ =>
   obtain⟨xs,m,_,rfl,_,hlen,hf⟩:=DataW.trod_struct Tryz.underlying46 hy
   match xs,hlen with
   | [y0,y1,y2,y3,y4,y5],_ =>
     have u0:=hf 0 _ rfl;have u1:=hf 1 _ rfl;have u2:=hf 2 _ rfl;have u3:=hf 3 _ rfl;have u4:=hf 4 _ rfl;have u5:=hf 5 _ rfl
     change DataW.trod enc Tryz.prog W 0 (fun _=>true) true m 3 (List.take (Tryz.prog.cellsOf 3) (List.drop 0 [c0,c1,c2,c3,c4,c5]))=some y0 at u0
     change DataW.trod enc Tryz.prog W 0 (fun _=>true) true m 9 (List.take (Tryz.prog.cellsOf 9) (List.drop 1 [c0,c1,c2,c3,c4,c5]))=some y1 at u1
     change DataW.trod enc Tryz.prog W 0 (fun _=>true) true m 9 (List.take (Tryz.prog.cellsOf 9) (List.drop 2 [c0,c1,c2,c3,c4,c5]))=some y2 at u2
     change DataW.trod enc Tryz.prog W 0 (fun _=>true) true m 3 (List.take (Tryz.prog.cellsOf 3) (List.drop 3 [c0,c1,c2,c3,c4,c5]))=some y3 at u3
     change DataW.trod enc Tryz.prog W 0 (fun _=>true) true m 3 (List.take (Tryz.prog.cellsOf 3) (List.drop 4 [c0,c1,c2,c3,c4,c5]))=some y4 at u4
     change DataW.trod enc Tryz.prog W 0 (fun _=>true) true m 44 (List.take (Tryz.prog.cellsOf 44) (List.drop 5 [c0,c1,c2,c3,c4,c5]))=some y5 at u5
     simp only[Il,U1,pV,List.drop,List.take] at u0 u1 u2 u3 u4 u5
     obtain⟨a,ha,e0,wa⟩:=DataW.trod_int Tryz.underlying3 u0
     obtain⟨b,hb,e1,_⟩:=DataW.trod_string Tryz.underlying9 u1
     obtain⟨c,hc,e2,_⟩:=DataW.trod_string Tryz.underlying9 u2
     obtain⟨d,hd,e3,wd⟩:=DataW.trod_int Tryz.underlying3 u3
     obtain⟨e,hee,e4,we⟩:=DataW.trod_int Tryz.underlying3 u4
     have ha' : c0=.int .i64 a:=by simpa using ha
     have hb' : c1=.string b:=by simpa using hb
     have hc' : c2=.string c:=by simpa using hc
     have hd' : c3=.int .i64 d:=by simpa using hd
     have he' : c4=.int .i64 e:=by simpa using hee
     subst ha';subst hb';subst hc';subst hd';subst he'
     have hw:(DataW.agg ([y0,y1,y2,y3,y4,y5].map (·.1))).weights Tryz.prog 46=b.data.toList.length::c.data.toList.length::(y5.1.weights Tryz.prog 44++[]):=by
      simp only[DataW.weights,Tryz.underlying46,e0,e1,e2,e3,e4,List.map_cons,List.map_nil]
      rfl
     rw[hw] at hz
     simp only[List.all_cons,List.append_nil,Bool.and_eq_true,decide_eq_true_eq] at hz
     obtain⟨l,h1,h2,h3⟩:=gB u5 hz.2.2
     exact⟨⟨a,b,c,d,e,l⟩,⟨c5,rfl,h1⟩,⟨wa,wd,we⟩,Dr hz.1,Dr hz.2.1,h2,h3⟩
theorem aF {W:World}{n:Nat}{v:Value}{x:DataW H × List MemPlace}(hy:DataW.trod enc Tryz.prog W 0 (fun _=>true) true n 35 [v]=some x)(hz:(x.1.weights Tryz.prog 35).all (· <= reachBytes)=true):∃ l,Own.AJ W v l/\(∀ o∈l,aC o)/\l.length<=140737488355328:=
 Kn (B:=48) Tryz.underlying35 (by kernel_rfl) (by kernel_rfl) (by decide) (by decide) aD hy hz
theorem gG {W:World}{n:Nat}{v:Value}{x:DataW H × List MemPlace}(hy:DataW.trod enc Tryz.prog W 0 (fun _=>true) true n 22 [v]=some x)(hz:(x.1.weights Tryz.prog 22).all (· <= reachBytes)=true):∃ l,Own.A9 W v l/\(∀ o∈l,bQ o)/\l.length<=140737488355328:=
 Kn (B:=80) Tryz.underlying22 (by kernel_rfl) (by kernel_rfl) (by decide) (by decide) U3 hy hz
theorem pW:Tryz.prog.cellsOf 24=2:=by kernel_rfl
theorem mP:Tryz.prog.cellsOf 38=3:=by kernel_rfl
theorem mQ {W:World}{base:Nat}{v:Value}{d:DataW H}{ps:List MemPlace}(hval:Value.okWide Tryz.prog W .any base 24 v)(h:DataW.Trod enc Tryz.prog W 0 (fun _=>true) true 24 v d ps)(hz:(d.weights Tryz.prog 24).all (· <= reachBytes)=true):
 ∃ (q:Own.Queue) (u:Value),v=.agg #[.int .i64 q.next,u]/\Own.A9 W u q.props/\(Lit.int .i64 q.next).wf=true/\(∀ p∈q.props,bQ p)/\q.props.length<=140737488355328:=by
 obtain⟨cs,rfl,hs⟩:=okWide_struct Tryz.underlying24 hval
 rw[pW] at hs
 match cs,hs with
 | ⟨[c0,c1]⟩,_ =>
   obtain⟨n,hy⟩:=h
   obtain⟨y0,y1,m,he,_,u0,u1⟩:=ChangeShapes.trod_struct2 Tryz.underlying24 hy
   simp only[U1,Y6,Value.cells,List.drop,List.take] at u0 u1
   obtain⟨a,ha,rfl,wa⟩:=DataW.trod_int Tryz.underlying3 u0
   simp only[List.cons.injEq,and_true] at ha
   subst ha
   have hd:d=.agg [.lit (.int .i64 a),y1.1]:=(Prod.mk.inj he).1
   have hw:(DataW.agg [.lit (.int .i64 a),y1.1]).weights Tryz.prog 24=y1.1.weights Tryz.prog 22++[]:=by
    simp only[DataW.weights,Tryz.underlying24]
    rfl
   rw[hd,hw,List.append_nil] at hz
   obtain⟨l,h1,h2,h3⟩:=gG u1 hz
   exact⟨⟨a,l⟩,c1,rfl,h1,wa,h2,h3⟩
theorem gH {W:World}{base:Nat}{v:Value}{d:DataW H}{ps:List MemPlace}(hval:Value.okWide Tryz.prog W .any base 38 v)(h:DataW.Trod enc Tryz.prog W 0 (fun _=>true) true 38 v d ps)(hz:(d.weights Tryz.prog 38).all (· <= reachBytes)=true):
 ∃ (o:Own.Ak) (u k:Value),v=.agg #[.int .i64 o.count,u,k]/\Own.AJ W u o.spaces/\Own.Bo W k o.keys/\(Lit.int .i64 o.count).wf=true/\(∀ s∈o.spaces,aC s)/\(∀ k∈o.keys,uQ k)/\o.spaces.length<=140737488355328/\o.keys.length<=140737488355328:=by
 obtain⟨cs,rfl,hs⟩:=okWide_struct Tryz.underlying38 hval
 rw[mP] at hs
 match cs,hs with
 | ⟨[c0,c1,c2]⟩,_ =>
   obtain⟨n,hy⟩:=h
   obtain⟨y0,y1,y2,m,he,_,u0,u1,u2⟩:=Deep.trod_struct3 Tryz.underlying38 hy
   simp only[U1,mO,gF,Value.cells,List.drop,List.take] at u0 u1 u2
   obtain⟨a,ha,rfl,wa⟩:=DataW.trod_int Tryz.underlying3 u0
   simp only[List.cons.injEq,and_true] at ha
   subst ha
   have hd:d=.agg [.lit (.int .i64 a),y1.1,y2.1]:=(Prod.mk.inj he).1
   have hw:(DataW.agg [.lit (.int .i64 a),y1.1,y2.1]).weights Tryz.prog 38=y1.1.weights Tryz.prog 35++(y2.1.weights Tryz.prog 36++[]):=by
    simp only[DataW.weights,Tryz.underlying38]
    rfl
   rw[hd,hw,List.append_nil,List.all_append,Bool.and_eq_true] at hz
   obtain⟨l,h1,h2,h3⟩:=aF u1 hz.1
   obtain⟨k,g1,g2,g3⟩:=mM u2 hz.2
   exact⟨⟨a,l,k⟩,c1,c2,rfl,h1,g1,wa,h2,g2,h3,g3⟩
theorem uR:Tryz.prog.cellsOf 39=1:=by kernel_rfl
theorem Y7:Tryz.prog.cellsOf 41=3:=by kernel_rfl
theorem aG:Tryz.prog.cellsOf 43=4:=by kernel_rfl
theorem bR {W:World}{S T:TypeId}(hu:Tryz.prog.underlying S=some (.slice T)){n:Nat}{v:Value}{x:DataW H × List MemPlace}(hy:DataW.trod enc Tryz.prog W 0 (fun _=>true) true n S [v]=some x):CS v:=by
 rcases Deep.open_slice hu hy with ⟨hcs,_⟩|⟨a,len,cap,m,k,D,Pl,hcs,_,hl,_⟩
 ·exact⟨none,0,0,by simpa using hcs,Nat.le_refl _⟩
 ·exact⟨_,len,cap,by simpa using hcs,hl⟩
theorem Y8 {W:World}{n:Nat}{v:Value}{x:DataW H × List MemPlace}(hy:DataW.trod enc Tryz.prog W 0 (fun _=>true) true n 39 [v]=some x)(hz:(x.1.weights Tryz.prog 39).all (· <= reachBytes)=true):∃ xs:List ByteArray,Ay W v xs/\(∀ z∈xs,z.size<=140737488355328)/\xs.length<=140737488355328:=by
 obtain⟨b,len,cap,rfl⟩:=U2 Tryz.underlying39 hy
 exact pR (p:=x.2) ⟨n,hy⟩ hz
theorem Y9 {W:World}{base:Nat}{v:Value}{d:DataW H}{ps:List MemPlace}(hval:Value.okWide Tryz.prog W .any base 43 v)(h:DataW.Trod enc Tryz.prog W 0 (fun _=>true) true 43 v d ps)(hz:(d.weights Tryz.prog 43).all (· <= reachBytes)=true):
 ∃ (p:Own.AZ) (u k:Value),v=.agg #[.string p.name,.int .i64 p.sig.index,u,k]/\Ay W u p.sig.chains/\Ay W k p.sig.path/\p.name.size<=140737488355328/\(Lit.int .i64 p.sig.index).wf=true/\(∀ s∈p.sig.chains,s.size<=140737488355328)/\(∀ k∈p.sig.path,k.size<=140737488355328)/\p.sig.chains.length<=140737488355328/\p.sig.path.length<=140737488355328/\CS u/\CS k:=by
 obtain⟨cs,rfl,hs⟩:=okWide_struct Tryz.underlying43 hval
 rw[aG] at hs
 match cs,hs with
 | ⟨[c0,c1,c2,c3]⟩,_ =>
   obtain⟨n,hy⟩:=h
   obtain⟨y0,y1,m,he,_,u0,u1⟩:=ChangeShapes.trod_struct2 Tryz.underlying43 hy
   simp only[Il,Y7,Value.cells,List.drop,List.take] at u0 u1
   obtain⟨s,hs,rfl,_⟩:=DataW.trod_string Tryz.underlying9 u0
   obtain⟨z0,z1,z2,m2,he2,_,g0,g1,g2⟩:=Deep.trod_struct3 Tryz.underlying41 u1
   simp only[U1,uR,List.drop,List.take] at g0 g1 g2
   obtain⟨a,ha,rfl,wa⟩:=DataW.trod_int Tryz.underlying3 g0
   simp only[List.cons.injEq,and_true] at hs ha
   subst hs;subst ha
   have hd2:y1.1=.agg [.lit (.int .i64 a),z1.1,z2.1]:=by rw[he2]
   have hd:d=.agg [.lit (.string s.data.toList),.agg [.lit (.int .i64 a),z1.1,z2.1]]:=by rw[<- hd2];exact(Prod.mk.inj he).1
   have hw:(DataW.agg [.lit (.string s.data.toList),.agg [.lit (.int .i64 a),z1.1,z2.1]]).weights Tryz.prog 43=s.data.toList.length::((z1.1.weights Tryz.prog 39++(z2.1.weights Tryz.prog 39++[]))++[]):=by
    simp only[DataW.weights,Tryz.underlying43]
    rfl
   rw[hd,hw] at hz
   simp only[List.all_cons,List.append_nil,List.all_append,Bool.and_eq_true,decide_eq_true_eq] at hz
   obtain⟨l,h1,h2,h3⟩:=Y8 g1 hz.2.1
   obtain⟨k,k1,k2,k3⟩:=Y8 g2 hz.2.2
   exact⟨⟨s,⟨a,l,k⟩⟩,c2,c3,rfl,h1,k1,Dr hz.1,wa,h2,k2,h3,k3,bR Tryz.underlying39 g1,bR Tryz.underlying39 g2⟩
theorem aH:Tryz.prog.cellsOf 46=6:=by kernel_rfl
theorem pX {W:World}{base:Nat}{v:Value}{d:DataW H}{ps:List MemPlace}(hval:Value.okWide Tryz.prog W .any base 46 v)(h:DataW.Trod enc Tryz.prog W 0 (fun _=>true) true 46 v d ps)(hz:(d.weights Tryz.prog 46).all (· <= reachBytes)=true):
 ∃ (p:Own.Aa) (u:Value),v=.agg #[.int .i64 p.id,.string p.path,.string p.digest,.int .i64 p.opened,.int .i64 p.expires,u]/\Own.Br W u p.Al/\bQ p:=by
 obtain⟨cs,rfl,hs⟩:=okWide_struct Tryz.underlying46 hval
 rw[aH] at hs
 match cs,hs with
 | ⟨[c0,c1,c2,c3,c4,c5]⟩,_ =>
   obtain⟨n,hy⟩:=h
   simp only[Value.cells] at hy
   obtain⟨p,⟨u,hu,hv⟩,hg⟩:=U3 n [c0,c1,c2,c3,c4,c5] (d,ps) rfl hy hz
   refine⟨p,u,?_,hv,hg⟩
   rw[hu]
end
end
section
open Go Go.ChangeShapes Go.WideShapes Go.ChangeAt Go.RowKit
theorem YA:ownKnob Tryz.prog.godebug=none:=by kernel_rfl
theorem GV:laidOutB Tryz.prog=true:=by kernel_rfl
theorem Tz (os:Os)(started:os.Started)(H:Type)(enc:TypeId × Value->H):
 ReturnsInHanded {} Tryz.checked os 4 .any (fun w args=>(Rows.reviewVotesSpec.pre enc Tryz.prog Tryz.f4 Rows.reviewVotesRow.domain false w args/\laidMetH Tryz.prog Rows.reviewVotesRow.laid w)/\sizedMet enc Tryz.prog Tryz.f4 (OpenSpec.ofChange Rows.reviewVotesSpec) false w args)
  (Rows.reviewVotesSpec.post enc Tryz.prog Tryz.f4 false true false false):=by
 refine Gu (C:=Tryz.checked) (X:=fun w _=>laidMetH Tryz.prog Rows.reviewVotesRow.laid w) (fun _ _ _ hh h=>h.of_heap hh) YA started (by kernel_rfl) Tryz.func4
  (ChangeSpec.witness_shaped (enc :=enc) (C :=Tryz.checked) (os :=os) (X :=fun w _ => laidMetH Tryz.prog Rows.reviewVotesRow.laid w) false (World.laidAll Tryz.prog os Rows.reviewVotesRow.laid) #[.agg #[.int .i64 0,.slice none 0 0],.agg #[.int .i64 0,.slice none 0 0,.slice none 0 0],.int .i64 0,.bool false,.agg #[.string ⟨#[]⟩,.int .i64 0,.slice none 0 0,.slice none 0 0],.agg #[.int .i64 0,.string ⟨#[]⟩,.string ⟨#[]⟩,.int .i64 0,.int .i64 0,.slice none 0 0]] 8 (World.laidAll_os _ _ _)
    (World.shaped_of_ZipB (by kernel_rfl) (by kernel_rfl)) (by kernel_rfl) (by kernel_rfl) (by kernel_rfl)
    (by rw[MakeChecks.laidMetH_plain _ _ _ (by kernel_rfl)];exact laidMet_laidAll _ (by kernel_rfl) (by kernel_rfl))) ?_
 intro W base args ds gs before hval0 hW _ hz0 _ hsh _
 have hM:=pQ hsh
 have hval:∀ (j:Nat) t v,Tryz.f4.params[j]? = some t->args[j]? = some v->Value.okWide Tryz.prog W .any base t v:=hval0
 have hW':=hW
 obtain⟨p,q,hA0,hV,rfl,_,_⟩:=hW
 have hA:DataW.TrodAll enc Tryz.prog W 0 (fun _=>true) true Tryz.f4.params.toList args.toList ds p:=hA0
 rw[Tryz.params4] at hA hval
 obtain⟨v0,v1,v2,v3,v4,v5,d0,d1,d2,d3,d4,d5,p0,p1,p2,p3,p4,p5,rfl,rfl,rfl,h0,h1,h2,h3,h4,h5⟩:=Y3 hA
 obtain⟨rfl,rfl⟩:=trodVars_none hV
 obtain⟨x2,rfl,rfl,rfl,wx2⟩:=open_int Tryz.underlying3 (hval 2 3 v2 rfl rfl) h2
 have hx2 : -9223372036854775808<=x2/\x2<9223372036854775808:=by
  have:=wx2
  simp[Lit.wf,IntKind.has] at this
  have h1:IntKind.i64.min = -9223372036854775808:=by decide
  have h2:IntKind.i64.max=9223372036854775807:=by decide
  omega
 obtain⟨x3,rfl,rfl,rfl⟩:=open_bool Tryz.underlying4 (hval 3 4 v3 rfl rfl) h3
 have e0:DataW.weightsEach Tryz.prog (Tryz.f4.params.toList++Rows.reviewVotesSpec.plain.varTypes Tryz.prog) ([d0,d1,DataW.lit (.int .i64 x2),DataW.lit (.bool x3),d4,d5]++[])=d0.weights Tryz.prog 24++(d1.weights Tryz.prog 38++(d4.weights Tryz.prog 43++(d5.weights Tryz.prog 46++[]))):=by
  rw[Tryz.params4]
  rfl
 have hz0:=e0 ▸ hz0
 simp only[List.all_append,List.all_nil,Bool.and_true,Bool.and_eq_true] at hz0
 have g0:=h0
 obtain⟨q0,u0,rfl,zb7,zdl,pY,zb8⟩:=mQ (hval 0 24 v0 rfl rfl) h0 hz0.1
 have g1:=h1
 obtain⟨o1,u1,k1,rfl,zb9,hok1,Pj,zbA,zdm,zbB,zbC⟩:=gH (hval 1 38 v1 rfl rfl) h1 hz0.2.1
 have g4:=h4
 obtain⟨a4,u4,k4,rfl,zbD,zbE,zbF,zdn,zbG,zbH,zbI,zbJ,zbK,zbL⟩:=Y9 (hval 4 43 v4 rfl rfl) h4 hz0.2.2.1
 have g5:=h5
 obtain⟨p5p,u5,rfl,zbM,uS⟩:=pX (hval 5 46 v5 rfl rfl) h5 hz0.2.2.2
 have e1:Rows.reviewVotesSpec.fn H ([d0,d1,.lit (.int .i64 x2),.lit (.bool x3),d4,d5]++[]) = { results:=[.lit (.bool true)],args:=[d0,d1,.lit (.int .i64 x2),.lit (.bool x3),d4,d5] } :=by simp[Rows.reviewVotesSpec]
 refine(aB q0 o1 x2 x3 a4 p5p _ _ _ _ _ _ W hM zb7 zb9 hok1 zbD zbE zbK zbL zbM zb8 (fun p hp=>⟨(pY p hp).2.2.2.2,(pY p hp).2.1,(pY p hp).2.2.1,(pY p hp).2.2.2.1⟩) zbB zbC (fun s hs=>(zbA s hs).2.2.2) (fun x hx=>(List.mem_append.1 hx).elim (zbG x) (zbH x)) ⟨zbF,zbI,zbJ⟩ (zae uS.1.1) uS.2.1 uS.2.2.1).mono fun e W' ⟨he,hb⟩=>?_
 subst he
 refine⟨_,rfl,_,_,_,[],p0++(p1++([]++([]++(p4++(p5++[]))))),[],by simpa using hW',?_,?_,?_,hb.frame _,fun h=>by cases h⟩
 ·rw[e1];exact trodAll_mk1 (shut_bool Tryz.underlying4 true)
 ·rw[e1];exact(trodAll_cons_mk (Below.trod GV (by kernel_rfl) (of_decide_eq_true (by kernel_rfl)) h0 hb (fun z hz=>hW'.lt z (by simp[hz]))) (trodAll_cons_mk (Below.trod GV (by kernel_rfl) (of_decide_eq_true (by kernel_rfl)) h1 hb (fun z hz=>hW'.lt z (by simp[hz]))) (trodAll_cons_mk (shut_int Tryz.underlying3 wx2) (trodAll_cons_mk (shut_bool Tryz.underlying4 x3) (trodAll_cons_mk (Below.trod GV (by kernel_rfl) (of_decide_eq_true (by kernel_rfl)) h4 hb (fun z hz=>hW'.lt z (by simp[hz]))) (trodAll_cons_mk (Below.trod GV (by kernel_rfl) (of_decide_eq_true (by kernel_rfl)) h5 hb (fun z hz=>hW'.lt z (by simp[hz]))) trodAll_mk0))))))
 ·rw[e1];rfl
theorem Wh:Rows.ReviewVotesSaid:=
 OpenClaim.holds_of_wide 4 Tryz.f4 rfl rfl rfl rfl rfl rfl rfl ⟨rfl,rfl,rfl,rfl,rfl⟩ rfl rfl rfl rfl rfl (by kernel_rfl) Tryz.func4 (by kernel_rfl)
  (of_decide_eq_true (by kernel_rfl)) (by unfold Func.isWrapper;first|(rw[if_pos (by decide +kernel)];kernel_rfl)|(rw[if_neg (by decide +kernel)];exact⟨rfl,rfl⟩))
  (fun os started H enc _=>Tz os started H enc)
theorem rvotes_card:Rows.ReviewVotesCardSaid:=
 Claim7.holds_tied_plain_at .later [] [.data,.pinned] true Rows.reviewVotesCard.stood.harness false Wh (fun _ h=>by cases h) (by kernel_rfl) (fun _ h=>by cases h) reviewVotes_row_tie rfl ⟨rfl,rfl⟩ (by kernel_rfl) rfl
  (fun f fn hf hfn => by
    obtain rfl : f = 4 := Option.some.inj ((show Tryz.prog.funcNamed "modcert/modcertlaw54.ReviewVotes" = some 4 by kernel_rfl).symm.trans hf) |>.symm
    obtain rfl:fn=Tryz.f4:=(Option.some.inj (Tryz.func4.symm.trans hfn)).symm
    exact⟨by kernel_rfl,fun j t ht=>by
     rw[Tryz.params4] at ht
     have hm:t∈[24,38,3,4,43,46]:=by simpa using Array.mem_of_getElem? ht
     have hall:([24,38,3,4,43,46].all fun u => !Tryz.prog.wantsStandIn u)=true:=by kernel_rfl
     exact(show Tryz.prog.wantsStandIn t=false by simpa using List.all_eq_true.1 hall t hm)⟩)
  (by kernel_rfl)
end
end Go.Proofs.YtnijhlphcjjpbaaGreatDoor
