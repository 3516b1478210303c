/- The program's reviews: whether a proposal of a queue is agreed; The reference's reviews: which proposals are agreed; The reviews, of the reference and of the program: a proposal is merged; The program's reviews: a copy of all proposals, each with its own row of votes; Rows of proposals with one vote more or another one; what a vote returns; The program's reviews: a vote; The laws' state: the owners and the queue in their boxes; The laws' example, plainly. -/
import Derived.Test.YtnijhlphcjjpbaaGreatDoorShkMg1
import Derived.Test.YtnijhlphcjjpbaaGreatDoorShkMg4
import Derived.Test.YtnijhlphcjjpbaaGreatDoorShkMg5
import Derived.Test.YtnijhlphcjjpbaaGreatDoorShkMg6
set_option linter.unusedVariables false
set_option linter.unusedSimpArgs false
set_option maxRecDepth 100000
set_option maxHeartbeats 16000000
namespace Go.Proofs.YtnijhlphcjjpbaaGreatDoor
section
open Go Go.RowKit Go.Maps
theorem rvAgreedX_any (q:Own.Queue) (o:Own.Owners) (id:Int) (pv sv kv:Value) (w:World) (hM:MaxL w) (hP:Own.PropsC w pv q.props) (hS:Own.SpacesC w sv o.spaces) (hK:Own.KeysC w kv o.keys) (hlp:q.props.length<=1000000) (hlv:∀ p∈q.props,p.votes.length<=3000000) (hls:o.spaces.length<=140737488355328) (hlk:o.keys.length<=140737488355328) (hlm:∀ s∈o.spaces,s.members.length<=140737488355328):
 Calls Tryz.prog 30 #[.agg #[.int .i64 q.next,pv],.agg #[.int .i64 o.count,sv,kv],.int .i64 id] w fun e w' => e=.returned (.bool (Own.agreed q o id))/\Below w.heap.size w w' :=by
 obtain⟨R,hR⟩:∃ R,R=Own.agreed q o id:=⟨_,rfl⟩
 rw[<- hR]
 unfold Own.agreed at hR
 obtain⟨pa,pc,rfl⟩:=hP.len
 obtain⟨sa,sc,rfl⟩:=hS.len
 obtain⟨ka,kc,rfl⟩:=hK.len
 obtain⟨nx,L⟩:=q
 dsimp only at*
 have hb1:Below w.heap.size w ((w.alloc (.cells #[.int .i64 nx,.slice pa L.length pc] 24)).alloc (.cells #[.int .i64 o.count,.slice sa o.spaces.length sc,.slice ka o.keys.length kc] 38)):=((Below.refl _ _).alloc (Nat.le_refl _) _).alloc (by simp) _
 have a0:=(At.new w 24 #[.int .i64 nx,.slice pa L.length pc]).alloc (.cells #[.int .i64 o.count,.slice sa o.spaces.length sc,.slice ka o.keys.length kc] 38)
 have a1:=At.new1 w (.cells #[.int .i64 nx,.slice pa L.length pc] 24) 38 #[.int .i64 o.count,.slice sa o.spaces.length sc,.slice ka o.keys.length kc]
 have hfd:=rvFind_any nx id _ L _ (hP.below hb1) (by omega)
 have HFD:=zh hfd;have HB:=zh hb1;have A0:=zh a0;have A1:=zh a1;have HM:=zh (hM.below hb1);have HP:=zh (hP.below hb1);have HS:=zh (hS.below hb1);have HK:=zh (hK.below hb1);have HLV:=zh hlv;have HLM:=zh hlm;have HR:=zh hR
 clear hfd hb1 a0 a1 hM hP hS hK hlv hlm hR
 go_enter Tryz.func30,Tryz.ntmps30
 go_wp2_with fail
 refine HFD.out.mono ?_
 rintro e w2 ⟨⟨i,rfl,hi⟩,hb2⟩
 have a0:=A0.out.below hb2 A0.out.lt;have a1:=A1.out.below hb2 A1.out.lt
 obtain⟨x0,x1⟩:=a0.c2;obtain⟨y0,y1,y2⟩:=a1.c3
 have B2:=zh (HB.out.trans (hb2.mono HB.out.size));have A02:=zh a0;have A12:=zh a1;have M2:=zh (HM.out.below hb2);have P2:=zh (HP.out.below hb2);have S2:=zh (HS.out.below hb2);have K2:=zh (HK.out.below hb2)
 have hfi:(i<0/\Own.findP L id=none)\/∃ j:Nat,∃ hj:j<L.length,i=(j:Int)/\Own.findP L id=some L[j]:=hi.find
 clear hi hb2 a0 a1 A0 A1 HM HP HS HK HB HFD
 go_upto_region 2 with fail
 rcases hfi with ⟨hi,hn⟩ | ⟨j,hj,rfl,hn⟩
 ·have di:decide (0<=i)=false:=decide_eq_false (by omega)
  have e:R=false:=by rw[HR.out,hn]
  have HE:=zh e;clear e hn
  have D2:=zh B2.out.drew
  refine Lex.wp_region_lex (by kernel_rfl) (by kernel_rfl) ?_
  go_wp2_with fail
  refine Lex.Ends.intro (by kernel_rfl) ?_
  go_wp2_with fail
  go_ret
  exact⟨by rw[HE.out];rfl,D2.out⟩
 ·have di:decide (0<=(j:Int))=true:=decide_eq_true (by omega)
  have e:R=(Own.queueOK ⟨nx,L⟩&&Own.ownersOK o&&Own.agreedP L[j] o):=by rw[HR.out,hn]
  have HR2:=zh e;clear e hn HR
  refine Lex.wp_region_lex (by kernel_rfl) (by kernel_rfl) ?_
  go_wp2_with fail
  have d2:Below w2.heap.size w2 w2.drew:=(Below.refl _ _).drew
  refine(rvValid_any ⟨nx,L⟩ _ w2.drew (M2.out.below d2) (P2.out.below d2) (by show L.length<=_;omega) (fun p hp=>by have:=HLV.out p hp;omega)).mono ?_
  rintro e w3 ⟨rfl,hb3⟩
  have b23:=d2.trans (hb3.mono (Nat.le_of_eq rfl))
  have a0:=A02.out.below b23 A02.out.lt;have a1:=A12.out.below b23 A12.out.lt
  clear x0 x1 y0 y1 y2
  obtain⟨x0,x1⟩:=a0.c2;obtain⟨y0,y1,y2⟩:=a1.c3
  have B3:=zh (B2.out.trans (b23.mono B2.out.size));have A03:=zh a0;have A13:=zh a1;have M3:=zh (M2.out.below b23);have P3:=zh (P2.out.below b23);have S3:=zh (S2.out.below b23);have K3:=zh (K2.out.below b23)
  clear b23 hb3 a0 a1 d2 A02 A12 M2 P2 S2 K2 B2
  cases hq:Own.queueOK ⟨nx,L⟩ with
  | false =>
    have e:R=false:=by rw[HR2.out,hq];rfl
    have HE:=zh e;clear e
    go_wp2_with fail
    refine Lex.Ends.intro (by kernel_rfl) ?_
    go_wp2_with fail
    go_ret
    exact⟨by rw[HE.out];rfl,B3.out⟩
  | true=>
  go_wp2_with fail
  refine(owValid_any o _ _ w3 M3.out S3.out K3.out hls hlk HLM.out).mono ?_
  rintro e w4 ⟨rfl,hb4⟩
  have a0:=A03.out.below hb4 A03.out.lt;have a1:=A13.out.below hb4 A13.out.lt
  clear x0 x1 y0 y1 y2
  obtain⟨x0,x1⟩:=a0.c2;obtain⟨y0,y1,y2⟩:=a1.c3
  have B4:=zh (B3.out.trans (hb4.mono B3.out.size));have M4:=zh (M3.out.below hb4);have S4:=zh (S3.out.below hb4);have K4:=zh (K3.out.below hb4)
  have hp4:=P3.out.below hb4
  clear hb4 a0 a1 A03 A13 M3 P3 S3 K3 B3
  cases ho:Own.ownersOK o with
  | false =>
    have e:R=false:=by rw[HR2.out,hq,ho];rfl
    have HE:=zh e;clear e
    go_wp2_with fail
    refine Lex.Ends.intro (by kernel_rfl) ?_
    go_wp2_with fail
    go_ret
    exact⟨by rw[HE.out];rfl,B4.out⟩
  | true=>
  have e:R=Own.agreedP L[j] o:=by rw[HR2.out,hq,ho];rfl
  have HE:=zh e;clear e
  obtain⟨b,o',u,ha,hbl,e0,e1,e2,e3,e4,e5,huv⟩:=Own.PropsC.cells hp4 hj
  subst ha
  have hlk2:=HLV.out L[j] (List.getElem_mem hj)
  obtain⟨ua,uc,rfl⟩:=huv.len
  have hag:=rvAgreed_any L[j] o _ _ _ w4 M4.out huv S4.out K4.out (by omega) hls hlk HLM.out
  obtain⟨x,hx⟩:∃ x,x=L[j]:=⟨_,rfl⟩
  rw[<- hx] at e0 e1 e2 e3 e4 e5 hag HE
  obtain⟨pid,ppa,pdi,pop,pex,pvs⟩:=x
  dsimp only at e0 e1 e2 e3 e4 e5 hag
  have HAG:=zh hag
  clear hag huv hp4 hx
  go_wp2_with fail
  refine HAG.out.mono ?_
  rintro e w5 ⟨rfl,hb5⟩
  rw[<- HE.out]
  have B5:=zh (B4.out.trans (hb5.mono B4.out.size))
  clear hb5
  go_wp2_with fail
  refine Lex.Ends.intro (by kernel_rfl) ?_
  go_wp2_with fail
  go_ret
  exact⟨rfl,B5.out⟩
end
section
open Go Go.RowKit Go.Maps
namespace Own
theorem from_chain:∀ (l pre:List Member) (p:Option Member),pre.getLast? = p->membersFrom pre l=true->chainOK (fun _=>true) (fun x y:Member=>lessB x.name y.name) p l=true
 | [],_,_,_,_=>rfl
 | m :: l,pre,p,hp,h => by
   have h' : (memberOK pre m&&membersFrom (pre++[m]) l)=true:=h
   obtain⟨h1,h2⟩:=Bool.and_eq_true_iff.1 h'
   have ih:=from_chain l (pre++[m]) (some m) (by simp) h2
   unfold memberOK at h1
   rw[hp] at h1
   have h3:=(Bool.and_eq_true_iff.1 h1).2
   cases p with
   | none =>
     show(true&&true&&chainOK _ _ (some m) l)=true
     rw[ih];rfl
   | some x =>
     show(true&&lessB x.name m.name&&chainOK _ _ (some m) l)=true
     have h3:lessB x.name m.name=true:=h3
     rw[ih,h3];rfl
theorem members_srt {l:List Member} (h:membersOK l=true):Srt Member.name l:=by
 unfold membersOK at h
 simp only[Bool.and_eq_true] at h
 exact(srt_of_chain (f:=Member.name) (from_chain l [] none rfl h.2)).1
theorem authority_ok {o:Owners} {s:ByteArray} {x:Space} (h:authority o s=some x):spaceOK x=true:=by
 obtain⟨h1,_,_,h4⟩:=authority_some h
 exact(OK.of h1).sp x h4
theorem authS_srt (o:Owners) (s:ByteArray):Srt Member.name (authS (authority o s)).members:=by
 cases h:authority o s with
 | none=>exact List.Pairwise.nil
 | some x =>
   have:=authority_ok h
   unfold spaceOK at this
   simp only[Bool.and_eq_true] at this
   exact members_srt this.1.1.2
theorem same_once {M:List Member} (hs:Srt Member.name M) (x:Member) (k:Nat) (hk:k<M.length) (h:sameM x M[k]=true):(M.take k).any (sameM x)=false:=by
 rw[List.any_eq_false]
 intro y hy h2
 obtain⟨i,hi,rfl⟩:=List.getElem_of_mem hy
 have hik:i<k:=by rw[List.length_take] at hi;omega
 rw[List.getElem_take] at h2
 unfold sameM at h h2
 simp only[Bool.and_eq_true,decide_eq_true_eq] at h h2
 have:=(List.pairwise_iff_getElem.1 hs) i k (by omega) hk hik
 rw[<- h2.1,<- h.1,lessB_irrefl] at this
 cases this
end Own
theorem r54Agreed_any (q:Own.Queue) (o:Own.Owners) (id:Int) (qv sv kv:Value) (w:World) (hP:Own.PropsC w qv q.props) (hS:Own.SpacesC w sv o.spaces) (hK:Own.KeysC w kv o.keys)
 (hlp:q.props.length<=1000000) (hlv:∀ x∈q.props,x.votes.length<=3000000/\x.path.size<=140737488355328) (hls:o.spaces.length<=140737488355328) (hlk:o.keys.length<=140737488355328) (hlm:∀ x∈o.spaces,x.members.length<=140737488355328/\x.pre.size<=140737488355000):
 Calls Tryz.prog 31 #[.agg #[.int .i64 q.next,qv],.agg #[.int .i64 o.count,sv,kv],.int .i64 id] w fun e w' => e=.returned (.bool (Own.agreed q o id))/\Below w.heap.size w w' :=by
 obtain⟨R,hR⟩:∃ R,R=Own.agreed q o id:=⟨_,rfl⟩
 rw[<- hR]
 unfold Own.agreed Own.findP at hR
 obtain⟨qa,qc,rfl⟩:=hP.len
 obtain⟨sa,sc,rfl⟩:=hS.len
 obtain⟨ka,kc,rfl⟩:=hK.len
 have hvq:=fun W (hW:Below w.heap.size w W)=>r54Valid_any q (.slice qa q.props.length qc) W (hP.below hW) (by omega) (fun p hp=>by have:=hlv p hp;omega)
 have hvo:=fun W (hW:Below w.heap.size w W)=>r53Valid_any o (.slice sa o.spaces.length sc) (.slice ka o.keys.length kc) W (hS.below hW) (hK.below hW) hls hlk (fun x hx=>by have:=hlm x hx;omega)
 have hau:=fun(s:ByteArray) (hs:s.size<=140737488355328) W (hW:Below w.heap.size w W)=>(r53Authority_any o s (.slice sa o.spaces.length sc) (.slice ka o.keys.length kc) W (hS.below hW) (hK.below hW) hls hlk hlm hs).mono (fun e w' h=>Own.AuthPost.vals h)
 obtain⟨QB,hQB⟩:∃ b,b=Own.queueOK q:=⟨_,rfl⟩
 obtain⟨OB,hOB⟩:∃ b,b=Own.ownersOK o:=⟨_,rfl⟩
 simp only[<- hQB,<- hOB] at hvq hvo hR
 have hmb:∀ s,(Own.authS (Own.authority o s)).members.length<=140737488355328:=fun s=>by
  cases hh:Own.authority o s with
  | none=>exact Nat.zero_le _
  | some x=>exact(hlm x (Own.authority_some hh).2.2.2).1
 have hag:=fun p=>Own.agreedP_eq p o
 have hsr:=fun s=>Own.authS_srt o s
 obtain⟨AU,hAU⟩:∃ AU,AU=Own.authority o:=⟨_,rfl⟩
 simp only[<- hAU] at hau hmb hag hsr
 obtain⟨AG,hAG⟩:∃ AG:Own.Proposal->Bool,AG=fun p=>Own.agreedP p o:=⟨_,rfl⟩
 have hag2:∀ p:Own.Proposal,AG p=((p.votes.filter (Own.counts (Own.authS (AU p.path)))).all (·.agrees)&&((AU p.path).isSome&&decide ((Own.authS (AU p.path)).threshold<=((p.votes.filter (Own.counts (Own.authS (AU p.path)))).length:Int)))):=fun p=>by rw[hAG];exact hag p
 have hR2:R=match q.props.find? (fun p=>decide (p.id=id)) with
  | none=>false
  | some p=>QB&&OB&&AG p:=by rw[hR,hAG];cases q.props.find? (fun p=>decide (p.id=id)) <;> rfl
 obtain⟨nx,L⟩:=q
 obtain⟨cnt,S,K⟩:=o
 dsimp only at*
 have HVQ:=zh hvq;have HVO:=zh hvo;have HAUC:=zh hau;have HMB:=zh hmb;have HAG:=zh hag2;have HSR:=zh hsr;have HR:=zh hR2;have HP:=zh hP;have HLV:=zh hlv
 clear hvq hvo hau hmb hag hag2 hsr hR hR2 hS hK hlm hQB hOB hAU hAG hP hlv
 have F1:=zh (show Boxes w ((w.alloc (.cells #[.int .i64 nx,.slice qa L.length qc] 24)).alloc (.cells #[.int .i64 cnt,.slice sa S.length sc,.slice ka K.length kc] 38)) [(24,#[.int .i64 nx,.slice qa L.length qc]),(38,#[.int .i64 cnt,.slice sa S.length sc,.slice ka K.length kc])] from(((Fresh.nil w).push 24 #[.int .i64 nx,.slice qa L.length qc]).push 38 #[.int .i64 cnt,.slice sa S.length sc,.slice ka K.length kc]).boxes)
 have x00:((w.alloc (.cells #[.int .i64 nx,.slice qa L.length qc] 24)).alloc (.cells #[.int .i64 cnt,.slice sa S.length sc,.slice ka K.length kc] 38)).cell? ⟨w.heap.size,0,none⟩=some (.int .i64 nx):=F1.out.cell 0 0 rfl rfl
 have x01:((w.alloc (.cells #[.int .i64 nx,.slice qa L.length qc] 24)).alloc (.cells #[.int .i64 cnt,.slice sa S.length sc,.slice ka K.length kc] 38)).cell? ⟨w.heap.size,1,none⟩=some (.slice qa L.length qc):=F1.out.cell 0 1 rfl rfl
 go_enter Tryz.func31,Tryz.ntmps31
 go_wp2_with fail
 generalize ((w.alloc (.cells #[.int .i64 nx,.slice qa L.length qc] 24)).alloc (.cells #[.int .i64 cnt,.slice sa S.length sc,.slice ka K.length kc] 38))=w1 at*
 refine(r54index_any nx id (.slice qa L.length qc) L w1 (HP.out.below F1.out.under) (by omega)).mono ?_
 rintro e w2 ⟨⟨i,rfl,hi⟩,hb2⟩
 have F2:=zh (F1.out.step hb2)
 (try clear x00);(try clear x01);(try clear x10);(try clear x11);(try clear x12)
 obtain⟨x00,x01⟩:=F2.out.d0_2 rfl
 clear hb2
 have HI:=zh hi
 clear hi
 go_wp2_with fail
 refine(HVQ.out w2 F2.out.under).mono ?_
 rintro e w3 ⟨rfl,hb3⟩
 have F3:=zh (F2.out.step hb3)
 (try clear x00);(try clear x01);(try clear x10);(try clear x11);(try clear x12)
 obtain⟨x10,x11,x12⟩:=F3.out.d1_3 rfl
 clear hb3
 cases QB with
 | false =>
   have e:R=false:=by rw[HR.out];split <;> rfl
   have HE:=zh e;clear e
   go_wp2_with fail
   go_ret
   exact⟨by rw[HE.out];rfl,F3.out.under⟩
 | true=>
 go_wp2_with fail
 refine(HVO.out w3 F3.out.under).mono ?_
 rintro e w4 ⟨rfl,hb4⟩
 have F4:=zh (F3.out.step hb4)
 (try clear x00);(try clear x01);(try clear x10);(try clear x11);(try clear x12)
 obtain⟨x00,x01⟩:=F4.out.d0_2 rfl
 obtain⟨x10,x11,x12⟩:=F4.out.d1_3 rfl
 clear hb4
 cases OB with
 | false =>
   have e:R=false:=by rw[HR.out];split <;> rfl
   have HE:=zh e;clear e
   go_wp2_with fail
   go_ret
   exact⟨by rw[HE.out];rfl,F4.out.under⟩
 | true=>
 rcases HI.out with ⟨rfl,hf,_⟩ | ⟨j,hj,rfl,hf,_,_⟩
 ·have e:R=false:=by rw[HR.out,hf]
  have HE:=zh e;clear e hf
  go_wp2_with fail
  go_ret
  exact⟨by rw[HE.out];rfl,F4.out.under⟩
 have dj:decide ((j:Int)<0)=false:=decide_eq_false (by omega)
 have hr:=HR.out
 rw[hf] at hr
 obtain⟨b,o',u,ha,hbl,e0,e1,e2,e3,e4,e5,huv⟩:=Own.PropsC.cells (HP.out.below F4.out.under) hj
 have hlj:=HLV.out L[j] (List.getElem_mem hj)
 obtain⟨x,hx⟩:∃ x,x=L[j]:=⟨_,rfl⟩
 rw[<- hx] at e0 e1 e2 e3 e4 huv hlj hr
 have hag:=HAG.out x
 have hmb:=HMB.out x.path;have hsr:=HSR.out x.path
 have hauc:=HAUC.out x.path hlj.2
 obtain⟨ua,uc,rfl⟩:=huv.len
 obtain⟨pid,ppa,pdi,pop,pex,V⟩:=x
 dsimp only at e0 e1 e2 e3 e4 huv hlj hag hmb hsr hauc
 obtain⟨A,hA⟩:∃ A,A=AU ppa:=⟨_,rfl⟩
 rw[<- hA] at hag hmb hsr hauc
 obtain⟨⟨spre,M,th⟩,hS'⟩:∃ s,s=Own.authS A:=⟨_,rfl⟩
 rw[<- hS'] at hag hmb hsr hauc
 obtain⟨ok,hok⟩:∃ b,b=A.isSome:=⟨_,rfl⟩
 rw[<- hok] at hag hauc
 dsimp only at hag hmb hsr hauc
 have hr2:R=AG ⟨pid,ppa,pdi,pop,pex,V⟩:=hr
 rw[hag] at hr2
 subst ha
 have P5:=zh (show Boxes w4 (w4.alloc (.cells #[.int .i64 pid,.string ppa,.string pdi,.int .i64 pop,.int .i64 pex,.slice ua V.length uc] 46)) [(46,#[.int .i64 pid,.string ppa,.string pdi,.int .i64 pop,.int .i64 pex,.slice ua V.length uc])] from((Fresh.nil w4).push 46 #[.int .i64 pid,.string ppa,.string pdi,.int .i64 pop,.int .i64 pex,.slice ua V.length uc]).boxes)
 have F5:=zh (F4.out.step P5.out.under)
 have HV:=zh huv;have HR2:=zh hr2;have HSR2:=zh hsr;have HAUC2:=zh (hauc _ F5.out.under)
 clear hr hag hr2 hsr hauc hA hS' hok hx hf huv HR HAG HMB HSR HAUC
 go_upto_region 5 with fail
 generalize (w4.alloc (.cells #[.int .i64 pid,.string ppa,.string pdi,.int .i64 pop,.int .i64 pex,.slice ua V.length uc] 46))=w5 at*
 (try clear x00);(try clear x01);(try clear x10);(try clear x11);(try clear x12)
 obtain⟨x10,x11,x12⟩:=F5.out.d1_3 rfl
 have z01:w5.cell? ⟨w4.heap.size,1,none⟩=some (.string ppa):=P5.out.cell 0 1 rfl rfl
 clear e0 e1 e2 e3 e4 e5
 go_wp2_with fail
 refine HAUC2.out.mono ?_
 rintro e w6 ⟨⟨mv,rfl,hmm⟩,hb6⟩
 obtain⟨ma,mc,rfl⟩:=hmm.len
 have T7:=zh (show Boxes w6 (w6.alloc (.cells #[.string spre,.slice ma M.length mc,.int .i64 th] 70)) [(70,#[.string spre,.slice ma M.length mc,.int .i64 th])] from((Fresh.nil w6).push 70 #[.string spre,.slice ma M.length mc,.int .i64 th]).boxes)
 have b57:=hb6.trans (T7.out.under.mono hb6.size)
 have P7:=zh (P5.out.step b57);have F7:=zh (F5.out.step b57);have HM7:=zh (hmm.below T7.out.under);have HV7:=zh (HV.out.below (P7.out.under))
 (try clear x00);(try clear x01);(try clear x10);(try clear x11);(try clear x12)
 (try clear z01);(try clear z05)
 clear hb6 b57 hmm HAUC2 HV
 cases ok with
 | false =>
   have e:R=false:=by rw[HR2.out];simp
   have HE:=zh e;clear e
   go_wp2_with fail
   go_ret
   exact⟨by rw[HE.out];rfl,F7.out.under⟩
 | true=>
 have hr3:=HR2.out
 rw[Bool.true_and] at hr3
 obtain⟨CN,hCN⟩:∃ CN,CN=Own.counts ⟨spre,M,th⟩:=⟨_,rfl⟩
 rw[<- hCN] at hr3
 have hcn:∀ x:Own.Vote,CN x=M.any (Own.sameM ⟨x.name,x.pub⟩):=fun x=>by rw[hCN,Own.counts_same]
 have HCN:=zh hcn;have HR3:=zh hr3
 clear hCN hcn hr3 HR2
 go_upto_region 9 with fail
 generalize (w6.alloc (.cells #[.string spre,.slice ma M.length mc,.int .i64 th] 70))=w7 at*
 go_wp2_with fail
 go_loopw [11,12] (fun n i wr=>∃ k:Nat,k<=V.length/\i=.int .i64 k/\n=.int .i64 (((V.take k).filter CN).length:Nat)/\((V.take k).filter CN).all (·.agrees)=true/\Below w7.heap.size w7 wr) (fun n i _=>V.length - (intOf i).toNat)
 case atStart=>exact⟨0,by omega,rfl,rfl,rfl,Below.refl _ _⟩
 case round=>
  obtain⟨k,hk,rfl,rfl,hall,hb⟩:=hrel
  have P8:=zh (P7.out.step hb);have T8:=zh (T7.out.step hb);have F8:=zh (F7.out.step hb);have HBW:=zh hb
  obtain⟨N,hN⟩:∃ N:Nat,N=((V.take k).filter CN).length:=⟨_,rfl⟩
  rw[<- hN]
  have hNk:N<=k:=by
   rw[hN]
   have:=List.length_filter_le CN (List.take k V)
   have h2:(List.take k V).length=k:=by rw[List.length_take];omega
   omega
  by_cases hlt:k<V.length
  case neg=>
   have hke:k=V.length:=by omega
   have dk:decide ((k:Int)<V.length)=false:=decide_eq_false (by omega)
   rw[hke,List.take_length] at hall hN
   have e:R=decide (th<=(N:Int)):=by rw[HR3.out,hall,<- hN,Bool.true_and]
   have HE:=zh e
   clear e hall hN hke hb
   have z05:wr.cell? ⟨w4.heap.size,5,none⟩=some (.slice ua V.length uc):=P8.out.cell 0 5 rfl rfl
   have y02:wr.cell? ⟨w6.heap.size,2,none⟩=some (.int .i64 th):=T8.out.cell 0 2 rfl rfl
   go_wp2_with fail
   go_ret
   exact⟨by rw[HE.out];rfl,F8.out.under⟩
  have dk:decide ((k:Int)<V.length)=true:=decide_eq_true (by omega)
  obtain⟨b2,o2,ha,hbl2,e0,e1,e2⟩:=Own.VotesC.cells (HV7.out.below hb) hlt
  subst ha
  have htk:(V.take (k+1)).filter CN=(V.take k).filter CN++(if CN V[k]=true then [V[k]] else []):=by
   have e:List.filter CN [V[k]]=if CN V[k]=true then [V[k]] else []:=by cases h:CN V[k] <;> simp[h]
   rw[List.take_succ_eq_append_getElem hlt,List.filter_append,e]
  have hbad:CN V[k]=true->V[k].agrees=false->R=false:=fun h1 h2=>by
   rw[HR3.out]
   have:(V.filter CN).all (·.agrees)=false:=by
    rw[List.all_eq_false]
    exact⟨V[k],List.mem_filter.2 ⟨List.getElem_mem hlt,h1⟩,by rw[h2];decide⟩
   rw[this,Bool.false_and]
  have hcn:=HCN.out V[k]
  obtain⟨x,hx⟩:∃ x,x=V[k]:=⟨_,rfl⟩
  rw[<- hx] at e0 e1 e2 htk hbad hcn
  obtain⟨xn,xp,xa⟩:=x
  dsimp only at e0 e1 e2 hcn hbad
  obtain⟨C,hC⟩:∃ C,C=CN ⟨xn,xp,xa⟩:=⟨_,rfl⟩
  rw[<- hC] at hbad htk hcn
  have HTK:=zh htk;have HBAD:=zh hbad;have HC:=zh hcn;have HN:=zh hN;have HALL:=zh hall
  clear htk hbad hcn hN hall hC hx hb
  have z05:wr.cell? ⟨w4.heap.size,5,none⟩=some (.slice (some ⟨b2,o2,none⟩) V.length uc):=P8.out.cell 0 5 rfl rfl
  go_upto_region 13 with fail
  (try clear z05)
  obtain⟨w8,hw8⟩:∃ w8,w8=wr:=⟨_,rfl⟩
  subst hw8
  have e0' :=zh e0;have e1' :=zh e1;have e2' :=zh e2
  clear e0 e1 e2
  go_loopw [11,13] (fun n i wr=>∃ m:Nat,m<=M.length/\i=.int .i64 m/\n=.int .i64 ((N+(if (M.take m).any (Own.sameM ⟨xn,xp⟩)=true then 1 else 0):Nat):Int)/\((M.take m).any (Own.sameM ⟨xn,xp⟩)=true->xa=true)/\Below w8.heap.size w8 wr) (fun n i _=>M.length - (intOf i).toNat)
  case atStart=>exact⟨0,by omega,rfl,rfl,(fun h=>by cases h),Below.refl _ _⟩
  case round=>
   obtain⟨m,hm,rfl,rfl,hag,hb⟩:=hrel
   have P9:=zh (P8.out.step hb);have T9:=zh (T8.out.step hb);have F9:=zh (F8.out.step hb);have HB9:=zh hb
   have e0:=(hb.cell (p:=⟨b2,o2+k*3,none⟩) (Nat.lt_of_lt_of_le hbl2 (Nat.le_refl _))).trans e0'.out
   have e1:=(hb.cell (p:=⟨b2,o2+k*3+1,none⟩) hbl2).trans e1'.out
   have e2:=(hb.cell (p:=⟨b2,o2+k*3+2,none⟩) hbl2).trans e2'.out
   have z05:wr.cell? ⟨w4.heap.size,5,none⟩=some (.slice (some ⟨b2,o2,none⟩) V.length uc):=P9.out.cell 0 5 rfl rfl
   have y01:wr.cell? ⟨w6.heap.size,1,none⟩=some (.slice ma M.length mc):=T9.out.cell 0 1 rfl rfl
   obtain⟨AN,hAN⟩:∃ b,b=(M.take m).any (Own.sameM ⟨xn,xp⟩):=⟨_,rfl⟩
   rw[<- hAN] at hag ⊢
   obtain⟨Z,hZ⟩:∃ Z:Nat,Z=N+(if AN=true then 1 else 0):=⟨_,rfl⟩
   rw[<- hZ]
   have hZ1:Z<=N+1:=by rw[hZ];split <;> omega
   have HZ:=zh hZ
   clear hZ
   by_cases hml:m<M.length
   case neg=>
    have hme:m=M.length:=by omega
    have dm:decide ((m:Int)<M.length)=false:=decide_eq_false (by omega)
    have hCA:C=AN:=by rw[HC.out,hAN,hme,List.take_length]
    have htk:=HTK.out
    rw[hCA] at htk
    have HALL2:=zh (show((V.take (k+1)).filter CN).all (·.agrees)=true by
     rw[htk,List.all_append,HALL.out,Bool.true_and]
     cases AN with
     | true=>rw[if_pos rfl,hag rfl];rfl
     | false=>rfl)
    have HLEN:=zh (show Z=((V.take (k+1)).filter CN).length by
     rw[HZ.out,htk,List.length_append,<- HN.out]
     cases AN <;> rfl)
    have HBX:=zh (HBW.out.trans (HB9.out.mono HBW.out.size))
    clear hAN hCA htk hag hb hme
    go_wp2_with fail
    refine⟨⟨k+1,by omega,by go_num,by rw[HLEN.out],HALL2.out,HBX.out⟩,by simp[intOf];omega⟩
   have dm:decide ((m:Int)<M.length)=true:=decide_eq_true (by omega)
   obtain⟨mb,mo,hma,hmbl,m0,m1⟩:=Own.MembersC.cells (HM7.out.below (HBW.out.trans (hb.mono HBW.out.size))) hml
   subst hma
   have hst:(M.take (m+1)).any (Own.sameM ⟨xn,xp⟩)=(AN || (decide (M[m].name=xn)&&decide (M[m].pub=xp))):=by
    rw[List.take_succ_eq_append_getElem hml,List.any_append,<- hAN]
    unfold Own.sameM
    simp[eq_comm]
   have honce:(decide (M[m].name=xn)&&decide (M[m].pub=xp))=true->AN=false:=fun h=>by
    rw[hAN]
    refine Own.same_once HSR2.out ⟨xn,xp⟩ m hml ?_
    unfold Own.sameM
    simp only[Bool.and_eq_true,decide_eq_true_eq] at h ⊢
    exact⟨h.1.symm,h.2.symm⟩
   have hyes:(decide (M[m].name=xn)&&decide (M[m].pub=xp))=true->C=true:=fun h=>by
    rw[HC.out]
    refine List.any_eq_true.2 ⟨M[m],List.getElem_mem hml,?_⟩
    unfold Own.sameM
    simp only[Bool.and_eq_true,decide_eq_true_eq] at h ⊢
    exact⟨h.1.symm,h.2.symm⟩
   have hq1:(M[m].name.toList==xn.toList)=decide (M[m].name=xn):=bytes_beq
   have hq2:(M[m].pub.toList==xp.toList)=decide (M[m].pub=xp):=bytes_beq
   rw[<- hq1,<- hq2] at hst honce hyes
   obtain⟨mn,hmn⟩:∃ x,x=M[m].name:=⟨_,rfl⟩
   obtain⟨mp,hmp⟩:∃ x,x=M[m].pub:=⟨_,rfl⟩
   rw[<- hmn] at m0 hst honce hyes
   rw[<- hmp] at m1 hst honce hyes
   have HST:=zh hst;have HON:=zh honce;have HYES:=zh hyes;have HAG:=zh hag;have HB10:=zh hb.drew;have F10:=zh F9.out.drew
   clear hst honce hyes hq1 hq2 hmn hmp hAN hag hb
   have hN2:N+1<=3000001:=by omega
   cases hc1:(mn.toList==xn.toList) with
   | false =>
     have HS2:=zh (show(M.take (m+1)).any (Own.sameM ⟨xn,xp⟩)=AN by rw[HST.out,hc1,Bool.false_and,Bool.or_false])
     go_wp2_with fail
     refine Lex.wp_region_lex (by kernel_rfl) (by kernel_rfl) ?_
     go_wp2_with fail
     refine Lex.Ends.intro (by kernel_rfl) ?_
     go_wp2_with fail
     exact⟨⟨m+1,by omega,by go_num,by rw[HS2.out,<- HZ.out],by rw[HS2.out];exact HAG.out,HB10.out⟩,by simp[intOf];omega⟩
   | true =>
     cases hc2:(mp.toList==xp.toList) with
     | false =>
       have HS2:=zh (show(M.take (m+1)).any (Own.sameM ⟨xn,xp⟩)=AN by rw[HST.out,hc2,Bool.and_false,Bool.or_false])
       go_wp2_with fail
       refine Lex.wp_region_lex (by kernel_rfl) (by kernel_rfl) ?_
       go_wp2_with fail
       refine Lex.Ends.intro (by kernel_rfl) ?_
       go_wp2_with fail
       exact⟨⟨m+1,by omega,by go_num,by rw[HS2.out,<- HZ.out],by rw[HS2.out];exact HAG.out,HB10.out⟩,by simp[intOf];omega⟩
     | true =>
       have hAF:=HON.out (by rw[hc1,hc2];rfl)
       have HS2:=zh (show(M.take (m+1)).any (Own.sameM ⟨xn,xp⟩)=true by rw[HST.out,hc1,hc2,Bool.and_self,Bool.or_true])
       have hCT:=HYES.out (by rw[hc1,hc2];rfl)
       subst hAF
       have HZ2:=zh (show Z=N by have:=HZ.out;simpa using this)
       cases xa with
       | false =>
         have HE:=zh (HBAD.out hCT rfl)
         clear hCT
         go_wp2_with fail
         refine Lex.wp_region_lex (by kernel_rfl) (by kernel_rfl) ?_
         go_wp2_with fail
         refine Lex.Ends.intro (by kernel_rfl) ?_
         go_wp2_with fail
         go_ret
         exact⟨by rw[HE.out];rfl,F10.out.under⟩
       | true =>
         clear hCT
         go_wp2_with fail
         refine Lex.wp_region_lex (by kernel_rfl) (by kernel_rfl) ?_
         go_wp2_with fail
         refine Lex.Ends.intro (by kernel_rfl) ?_
         go_wp2_with fail
         exact⟨⟨m+1,by omega,by go_num,by rw[HS2.out,if_pos rfl,<- HZ2.out];go_num,(by first | exact fun _=>trivial | exact fun _=>rfl),HB10.out⟩,by simp[intOf];omega⟩
end
section
open Go Go.RowKit Go.Maps
def MergePost (w:World) (R:Own.Queue × Own.Proposal × Int) (e:Ending) (w' : World):Prop:=
 (∃ qv pv,e=.returned (.tuple #[qv,.agg #[.int .i64 R.2.1.id,.string R.2.1.path,.string R.2.1.digest,.int .i64 R.2.1.opened,.int .i64 R.2.1.expires,pv],.int .i64 R.2.2])/\Own.QueueC w' qv R.1/\Own.VotesC w' pv R.2.1.votes)/\Below w.heap.size w w'
theorem Own.POwn.props {B:Nat} {w:World} {v:Value} {L:List Own.Proposal} (h:Own.POwn B w v L):Own.PropsC w v L:=h.list (fun _ _ _=>trivial)
theorem Own.votes_own {w:World} {B n:Nat} {v:Value} {l:List Own.Vote} (h:w.ownsRow B 82 3 v n (l.flatMap Own.encV)) (hn:n=l.length):Own.VotesC w v l:=Own.VotesC.of (RowsC.own h) hn
theorem r54Merge_any (q:Own.Queue) (o:Own.Owners) (size id:Int) (qv sv kv:Value) (w:World) (hP:Own.PropsC w qv q.props) (hS:Own.SpacesC w sv o.spaces) (hK:Own.KeysC w kv o.keys)
 (hlp:q.props.length<=1000000) (hlv:∀ x∈q.props,x.votes.length<=3000000/\x.path.size<=140737488355328) (hls:o.spaces.length<=140737488355328) (hlk:o.keys.length<=140737488355328) (hlm:∀ x∈o.spaces,x.members.length<=140737488355328/\x.pre.size<=140737488355000):
 Calls Tryz.prog 29 #[.agg #[.int .i64 q.next,qv],.agg #[.int .i64 o.count,sv,kv],.int .i64 size,.int .i64 id] w (MergePost w (Own.merge q o size id)):=by
 obtain⟨R,hR⟩:∃ R,R=Own.merge q o size id:=⟨_,rfl⟩
 obtain⟨Q,hQ⟩:∃ Q,Q=MergePost w R:=⟨_,rfl⟩
 rw[<- hR,<- hQ]
 have HQ:=zh hQ;clear hQ
 have hids:Own.queueOK q=true->q.props.Pairwise fun x y=>x.id<y.id:=fun h=>Own.queue_ids h
 have hagd:∀ x:Own.Proposal,q.props.find? (fun p=>decide (p.id=id))=some x->Own.queueOK q=true->Own.ownersOK o=true->Own.agreed q o id=Own.agreedP x o:=fun x h1 h2 h3=>by
  unfold Own.agreed Own.findP
  rw[h1,h2,h3]
  rfl
 unfold Own.merge Own.findP Own.without at hR
 obtain⟨qa,qc,rfl⟩:=hP.len
 obtain⟨sa,sc,rfl⟩:=hS.len
 obtain⟨ka,kc,rfl⟩:=hK.len
 have hvq:=fun W (hW:Below w.heap.size w W)=>r54Valid_any q (.slice qa q.props.length qc) W (hP.below hW) (by omega) (fun p hp=>by have:=hlv p hp;omega)
 have hvo:=fun W (hW:Below w.heap.size w W)=>r53Valid_any o (.slice sa o.spaces.length sc) (.slice ka o.keys.length kc) W (hS.below hW) (hK.below hW) hls hlk (fun x hx=>by have:=hlm x hx;omega)
 have hagc:=fun W (hW:Below w.heap.size w W)=>r54Agreed_any q o id (.slice qa q.props.length qc) (.slice sa o.spaces.length sc) (.slice ka o.keys.length kc) W (hP.below hW) (hS.below hW) (hK.below hW) hlp hlv hls hlk hlm
 obtain⟨QB,hQB⟩:∃ b,b=Own.queueOK q:=⟨_,rfl⟩
 obtain⟨OB,hOB⟩:∃ b,b=Own.ownersOK o:=⟨_,rfl⟩
 obtain⟨AG,hAG⟩:∃ b,b=Own.agreed q o id:=⟨_,rfl⟩
 simp only[<- hQB,<- hOB,<- hAG] at hvq hvo hR hagc hids hagd
 obtain⟨AP,hAP⟩:∃ AP:Own.Proposal->Bool,AP=fun p=>Own.agreedP p o:=⟨_,rfl⟩
 have hap:∀ p,Own.agreedP p o=AP p:=fun p=>by rw[hAP]
 simp only[hap] at hR hagd
 obtain⟨nx,L⟩:=q
 obtain⟨cnt,S,K⟩:=o
 dsimp only at*
 have HVQ:=zh hvq;have HVO:=zh hvo;have HAGC:=zh hagc;have HIDS:=zh hids;have HAGD:=zh hagd;have HR:=zh hR;have HP:=zh hP;have HLV:=zh hlv
 clear hvq hvo hagc hids hagd hR hS hK hlm hQB hOB hAG hAP hap hP hlv
 have F1:=zh (show Boxes w ((((w.alloc (.cells #[.int .i64 nx,.slice qa L.length qc] 24)).alloc (.cells #[.int .i64 cnt,.slice sa S.length sc,.slice ka K.length kc] 38)).alloc (.cells #[.int .i64 0,.slice none 0 0] 24)).alloc (.cells #[.int .i64 0,.string ⟨#[]⟩,.string ⟨#[]⟩,.int .i64 0,.int .i64 0,.slice none 0 0] 46)) [(24,#[.int .i64 nx,.slice qa L.length qc]),(38,#[.int .i64 cnt,.slice sa S.length sc,.slice ka K.length kc]),(24,#[.int .i64 0,.slice none 0 0]),(46,#[.int .i64 0,.string ⟨#[]⟩,.string ⟨#[]⟩,.int .i64 0,.int .i64 0,.slice none 0 0])] from(((((Fresh.nil w).push 24 #[.int .i64 nx,.slice qa L.length qc]).push 38 #[.int .i64 cnt,.slice sa S.length sc,.slice ka K.length kc]).push 24 #[.int .i64 0,.slice none 0 0]).push 46 #[.int .i64 0,.string ⟨#[]⟩,.string ⟨#[]⟩,.int .i64 0,.int .i64 0,.slice none 0 0]).boxes)
 have x00:((((w.alloc (.cells #[.int .i64 nx,.slice qa L.length qc] 24)).alloc (.cells #[.int .i64 cnt,.slice sa S.length sc,.slice ka K.length kc] 38)).alloc (.cells #[.int .i64 0,.slice none 0 0] 24)).alloc (.cells #[.int .i64 0,.string ⟨#[]⟩,.string ⟨#[]⟩,.int .i64 0,.int .i64 0,.slice none 0 0] 46)).cell? ⟨w.heap.size,0,none⟩=some (.int .i64 nx):=F1.out.cell 0 0 rfl rfl
 have x01:((((w.alloc (.cells #[.int .i64 nx,.slice qa L.length qc] 24)).alloc (.cells #[.int .i64 cnt,.slice sa S.length sc,.slice ka K.length kc] 38)).alloc (.cells #[.int .i64 0,.slice none 0 0] 24)).alloc (.cells #[.int .i64 0,.string ⟨#[]⟩,.string ⟨#[]⟩,.int .i64 0,.int .i64 0,.slice none 0 0] 46)).cell? ⟨w.heap.size,1,none⟩=some (.slice qa L.length qc):=F1.out.cell 0 1 rfl rfl
 go_enter Tryz.func29,Tryz.ntmps29
 go_wp2_with fail
 generalize ((((w.alloc (.cells #[.int .i64 nx,.slice qa L.length qc] 24)).alloc (.cells #[.int .i64 cnt,.slice sa S.length sc,.slice ka K.length kc] 38)).alloc (.cells #[.int .i64 0,.slice none 0 0] 24)).alloc (.cells #[.int .i64 0,.string ⟨#[]⟩,.string ⟨#[]⟩,.int .i64 0,.int .i64 0,.slice none 0 0] 46))=w1 at*
 refine(HVQ.out w1 F1.out.under).mono ?_
 rintro e w2 ⟨rfl,hb2⟩
 have F2:=zh (F1.out.step hb2)
 (try clear x00);(try clear x01);(try clear x10);(try clear x11);(try clear x12);(try clear x20f);(try clear x20);(try clear x21f);(try clear x21);(try clear x30f);(try clear x30);(try clear x31f);(try clear x31);(try clear x32f);(try clear x32);(try clear x33f);(try clear x33);(try clear x34f);(try clear x34);(try clear x35f);(try clear x35)
 clear hb2
 cases QB with
 | false =>
   have HE:=zh (show R=(Own.Queue.none,Own.Proposal.none,1) by rw[HR.out];rfl)
   obtain⟨x20,x21,x20f,x21f⟩:=F2.out.e2_2 rfl
   obtain⟨x30,x31,x32,x33,x34,x35,x30f,x31f,x32f,x33f,x34f,x35f⟩:=F2.out.e3_6 rfl
   go_wp2_with fail
   have g1:=F2.out.put 2 0 (.int .i64 0) rfl
   have g2:=g1.put 2 1 (.slice none 0 0) rfl
   have g3:=g2.put 3 0 (.int .i64 0) rfl
   have g4:=g3.put 3 1 (.string ⟨#[]⟩) rfl
   have g5:=g4.put 3 2 (.string ⟨#[]⟩) rfl
   have g6:=g5.put 3 3 (.int .i64 0) rfl
   have g7:=g6.put 3 4 (.int .i64 0) rfl
   have G2:=g7.put 3 5 (.slice none 0 0) rfl
   clear g1 g2 g3 g4 g5 g6 g7
   refine done_cct rfl rfl rfl rfl (load_row (G2.at1 2 rfl) Tryz.underlying24 rfl info_Queue) (load_row (G2.at1 3 rfl) Tryz.underlying46 rfl info_Proposal) ?_
   rw[HQ.out,HE.out]
   exact⟨⟨_,_,rfl,⟨_,rfl,ListF.nil _ _⟩,ListF.nil _ _⟩,G2.under⟩
 | true=>
 obtain⟨x10,x11,x12⟩:=F2.out.d1_3 rfl
 go_wp2_with fail
 refine(HVO.out w2 F2.out.under).mono ?_
 rintro e w3 ⟨rfl,hb3⟩
 have F3:=zh (F2.out.step hb3)
 (try clear x00);(try clear x01);(try clear x10);(try clear x11);(try clear x12);(try clear x20f);(try clear x20);(try clear x21f);(try clear x21);(try clear x30f);(try clear x30);(try clear x31f);(try clear x31);(try clear x32f);(try clear x32);(try clear x33f);(try clear x33);(try clear x34f);(try clear x34);(try clear x35f);(try clear x35)
 clear hb3
 cases OB with
 | false =>
   have HE:=zh (show R=(Own.Queue.none,Own.Proposal.none,1) by rw[HR.out];rfl)
   obtain⟨x20,x21,x20f,x21f⟩:=F3.out.e2_2 rfl
   obtain⟨x30,x31,x32,x33,x34,x35,x30f,x31f,x32f,x33f,x34f,x35f⟩:=F3.out.e3_6 rfl
   go_wp2_with fail
   have g1:=F3.out.put 2 0 (.int .i64 0) rfl
   have g2:=g1.put 2 1 (.slice none 0 0) rfl
   have g3:=g2.put 3 0 (.int .i64 0) rfl
   have g4:=g3.put 3 1 (.string ⟨#[]⟩) rfl
   have g5:=g4.put 3 2 (.string ⟨#[]⟩) rfl
   have g6:=g5.put 3 3 (.int .i64 0) rfl
   have g7:=g6.put 3 4 (.int .i64 0) rfl
   have G2:=g7.put 3 5 (.slice none 0 0) rfl
   clear g1 g2 g3 g4 g5 g6 g7
   refine done_cct rfl rfl rfl rfl (load_row (G2.at1 2 rfl) Tryz.underlying24 rfl info_Queue) (load_row (G2.at1 3 rfl) Tryz.underlying46 rfl info_Proposal) ?_
   rw[HQ.out,HE.out]
   exact⟨⟨_,_,rfl,⟨_,rfl,ListF.nil _ _⟩,ListF.nil _ _⟩,G2.under⟩
 | true=>
 have hr:=HR.out
 rw[if_neg (show ¬ (true&&true)=false by decide)] at hr
 obtain⟨x00,x01⟩:=F3.out.d0_2 rfl
 have HR1:=zh hr;clear hr HR
 go_wp2_with fail
 refine(r54index_any nx id (.slice qa L.length qc) L w3 (HP.out.below F3.out.under) (by omega)).mono ?_
 rintro e w4 ⟨⟨i,rfl,hi⟩,hb4⟩
 have F4:=zh (F3.out.step hb4)
 (try clear x00);(try clear x01);(try clear x10);(try clear x11);(try clear x12);(try clear x20f);(try clear x20);(try clear x21f);(try clear x21);(try clear x30f);(try clear x30);(try clear x31f);(try clear x31);(try clear x32f);(try clear x32);(try clear x33f);(try clear x33);(try clear x34f);(try clear x34);(try clear x35f);(try clear x35)
 clear hb4
 rcases hi with ⟨rfl,hf,_⟩ | ⟨j,hj,rfl,hf,hpj,_⟩
 ·have HE:=zh (show R=(Own.Queue.none,Own.Proposal.none,6) by rw[HR1.out,hf])
  clear hf
  obtain⟨x20,x21,x20f,x21f⟩:=F4.out.e2_2 rfl
  obtain⟨x30,x31,x32,x33,x34,x35,x30f,x31f,x32f,x33f,x34f,x35f⟩:=F4.out.e3_6 rfl
  go_wp2_with fail
  have g1:=F4.out.put 2 0 (.int .i64 0) rfl
  have g2:=g1.put 2 1 (.slice none 0 0) rfl
  have g3:=g2.put 3 0 (.int .i64 0) rfl
  have g4:=g3.put 3 1 (.string ⟨#[]⟩) rfl
  have g5:=g4.put 3 2 (.string ⟨#[]⟩) rfl
  have g6:=g5.put 3 3 (.int .i64 0) rfl
  have g7:=g6.put 3 4 (.int .i64 0) rfl
  have G2:=g7.put 3 5 (.slice none 0 0) rfl
  clear g1 g2 g3 g4 g5 g6 g7
  refine done_cct rfl rfl rfl rfl (load_row (G2.at1 2 rfl) Tryz.underlying24 rfl info_Queue) (load_row (G2.at1 3 rfl) Tryz.underlying46 rfl info_Proposal) ?_
  rw[HQ.out,HE.out]
  exact⟨⟨_,_,rfl,⟨_,rfl,ListF.nil _ _⟩,ListF.nil _ _⟩,G2.under⟩
 have dj:decide ((j:Int)<0)=false:=decide_eq_false (by omega)
 have hid:L[j].id=id:=of_decide_eq_true hpj
 have hsk:=Own.skip_id L j hj (HIDS.out (by first | rfl | trivial))
 rw[hid] at hsk
 have hr:=HR1.out
 rw[hf,<- hsk] at hr
 obtain⟨b,o',u,ha,hbl,e0,e1,e2,e3,e4,e5,huv⟩:=Own.PropsC.cells (HP.out.below F4.out.under) hj
 have hlj:=HLV.out L[j] (List.getElem_mem hj)
 have hagx:=HAGD.out L[j] hf (by first | rfl | trivial) (by first | rfl | trivial)
 obtain⟨x,hx⟩:∃ x,x=L[j]:=⟨_,rfl⟩
 rw[<- hx] at e0 e1 e2 e3 e4 huv hlj hr hagx
 obtain⟨ua,uc,rfl⟩:=huv.len
 have hcp:=r54copyProposal_any x (.slice ua x.votes.length uc) w4 huv hlj.1
 obtain⟨pid,ppa,pdi,pop,pex,V⟩:=x
 dsimp only at e0 e1 e2 e3 e4 huv hlj hagx hcp hr
 rw[<- hagx] at hr
 have HCP:=zh hcp;have HR2:=zh hr
 obtain⟨x00,x01⟩:=F4.out.d0_2 rfl
 subst ha
 clear hcp hr hagx hx hf hpj hid hsk huv HR1 HAGD
 go_wp2_with fail
 refine HCP.out.mono ?_
 rintro e w5 ⟨v',rfl,hov,hb5⟩
 obtain⟨va',vm',vc',rfl⟩:=own_slice hov
 obtain rfl:=own_len hov
 have P6:=zh (show Boxes w5 (w5.alloc (.cells #[.int .i64 pid,.string ppa,.string pdi,.int .i64 pop,.int .i64 pex,.slice va' V.length vc'] 46)) [(46,#[.int .i64 pid,.string ppa,.string pdi,.int .i64 pop,.int .i64 pex,.slice va' V.length vc'])] from((Fresh.nil w5).push 46 #[.int .i64 pid,.string ppa,.string pdi,.int .i64 pop,.int .i64 pex,.slice va' V.length vc']).boxes)
 have hw5:w.heap.size+4<=w5.heap.size:=Nat.le_trans F4.out.size hb5.size
 have F6:=zh (F4.out.step (hb5.trans (P6.out.under.mono hb5.size)))
 have HOV:=zh (own_below hov P6.out.under)
 clear hov hb5 e0 e1 e2 e3 e4 e5
 (try clear x00);(try clear x01)
 go_upto_region 7 with fail
 generalize (w5.alloc (.cells #[.int .i64 pid,.string ppa,.string pdi,.int .i64 pop,.int .i64 pex,.slice va' V.length vc'] 46))=w6 at*
 have z04:w6.cell? ⟨w5.heap.size,4,none⟩=some (.int .i64 pex):=P6.out.cell 0 4 rfl rfl
 by_cases hxs:pex<=size
 ·have dx:decide (pex<=size)=true:=decide_eq_true hxs
  have HE:=zh (show R=(Own.Queue.none,Own.Proposal.none,8) by rw[HR2.out,if_pos hxs])
  clear hxs
  obtain⟨x20,x21,x20f,x21f⟩:=F6.out.e2_2 rfl
  obtain⟨x30,x31,x32,x33,x34,x35,x30f,x31f,x32f,x33f,x34f,x35f⟩:=F6.out.e3_6 rfl
  go_wp2_with fail
  have g1:=F6.out.put 2 0 (.int .i64 0) rfl
  have g2:=g1.put 2 1 (.slice none 0 0) rfl
  have g3:=g2.put 3 0 (.int .i64 0) rfl
  have g4:=g3.put 3 1 (.string ⟨#[]⟩) rfl
  have g5:=g4.put 3 2 (.string ⟨#[]⟩) rfl
  have g6:=g5.put 3 3 (.int .i64 0) rfl
  have g7:=g6.put 3 4 (.int .i64 0) rfl
  have G2:=g7.put 3 5 (.slice none 0 0) rfl
  clear g1 g2 g3 g4 g5 g6 g7
  refine done_cct rfl rfl rfl rfl (load_row (G2.at1 2 rfl) Tryz.underlying24 rfl info_Queue) (load_row (G2.at1 3 rfl) Tryz.underlying46 rfl info_Proposal) ?_
  rw[HQ.out,HE.out]
  exact⟨⟨_,_,rfl,⟨_,rfl,ListF.nil _ _⟩,ListF.nil _ _⟩,G2.under⟩
 have dx:decide (pex<=size)=false:=decide_eq_false hxs
 have hr3:=HR2.out
 rw[if_neg hxs] at hr3
 have HR3:=zh hr3
 clear hr3 hxs HR2
 obtain⟨x00,x01⟩:=F6.out.d0_2 rfl
 obtain⟨x10,x11,x12⟩:=F6.out.d1_3 rfl
 go_wp2_with fail
 refine(HAGC.out w6 F6.out.under).mono ?_
 rintro e w7 ⟨rfl,hb7⟩
 have F7:=zh (F6.out.step hb7);have P7:=zh (P6.out.step hb7);have HOV7:=zh (own_below HOV.out hb7)
 (try clear x00);(try clear x01);(try clear x10);(try clear x11);(try clear x12);(try clear x20f);(try clear x20);(try clear x21f);(try clear x21);(try clear x30f);(try clear x30);(try clear x31f);(try clear x31);(try clear x32f);(try clear x32);(try clear x33f);(try clear x33);(try clear x34f);(try clear x34);(try clear x35f);(try clear x35)
 (try clear z00);(try clear z01);(try clear z02);(try clear z03);(try clear z04);(try clear z05)
 clear hb7
 cases AG with
 | false =>
   have HE:=zh (show R=(Own.Queue.none,Own.Proposal.none,20) by rw[HR3.out,if_pos rfl])
   obtain⟨x20,x21,x20f,x21f⟩:=F7.out.e2_2 rfl
   obtain⟨x30,x31,x32,x33,x34,x35,x30f,x31f,x32f,x33f,x34f,x35f⟩:=F7.out.e3_6 rfl
   go_wp2_with fail
   have g1:=F7.out.put 2 0 (.int .i64 0) rfl
   have g2:=g1.put 2 1 (.slice none 0 0) rfl
   have g3:=g2.put 3 0 (.int .i64 0) rfl
   have g4:=g3.put 3 1 (.string ⟨#[]⟩) rfl
   have g5:=g4.put 3 2 (.string ⟨#[]⟩) rfl
   have g6:=g5.put 3 3 (.int .i64 0) rfl
   have g7:=g6.put 3 4 (.int .i64 0) rfl
   have G2:=g7.put 3 5 (.slice none 0 0) rfl
   clear g1 g2 g3 g4 g5 g6 g7
   refine done_cct rfl rfl rfl rfl (load_row (G2.at1 2 rfl) Tryz.underlying24 rfl info_Queue) (load_row (G2.at1 3 rfl) Tryz.underlying46 rfl info_Proposal) ?_
   rw[HQ.out,HE.out]
   exact⟨⟨_,_,rfl,⟨_,rfl,ListF.nil _ _⟩,ListF.nil _ _⟩,G2.under⟩
 | true=>
 have HE:=zh (show R=(⟨nx,Own.skipL (j:Int) L⟩,⟨pid,ppa,pdi,pop,pex,V⟩,0) by rw[HR3.out,if_neg (by decide)])
 obtain⟨x00,x01⟩:=F7.out.d0_2 rfl
 obtain⟨z00,z01,z02,z03,z04,z05⟩:=P7.out.d0_6 rfl
 have hpl:w5.heap.size<w7.heap.size:=P7.out.lt (i:=0) (by show 0<1;omega)
 have HX0:=zh (show(w7.cell? ⟨w5.heap.size,0,none⟩).isSome=true by rw[z00];rfl)
 have HWO:=zh (r54without_any nx (j:Int) (.slice (some ⟨b,o',none⟩) L.length qc) L w7.drew (HP.out.below (F7.out.under.trans ((Below.refl w7.heap.size w7).drew.mono F7.out.under.size))) (by omega) (fun x hx=>(HLV.out x hx).1))
 have hwp:w.heap.size+4<=w5.heap.size:=hw5
 go_wp2_with fail
 refine Lex.wp_region_lexN (fun j=>j=w5.heap.size) [3] 5 [3,2] (by kernel_rfl) (by kernel_rfl) (by kernel_rfl) ?_
 simp only[Lex.wpCuts,List.take_succ_cons,List.take_zero,List.drop_succ_cons,List.drop_zero]
 go_wp2_with fail
 refine HWO.out.mono ?_
 rintro e w8 ⟨⟨v8,rfl,hpo⟩,hb8⟩
 rw[drew_heap] at hpo
 obtain⟨wa,wc,rfl⟩:=hpo.one
 have hb8' : Below w7.heap.size w7 w8:=(Below.refl w7.heap.size w7).drew.trans hb8
 have F8:=zh (F7.out.step hb8');have P8:=zh (P7.out.step hb8');have HOV8:=zh (own_below HOV7.out hb8');have HB8:=zh hb8';have HPO:=zh hpo
 (try clear x00);(try clear x01);(try clear x10);(try clear x11);(try clear x12);(try clear x20f);(try clear x20);(try clear x21f);(try clear x21);(try clear x30f);(try clear x30);(try clear x31f);(try clear x31);(try clear x32f);(try clear x32);(try clear x33f);(try clear x33);(try clear x34f);(try clear x34);(try clear x35f);(try clear x35)
 (try clear z00);(try clear z01);(try clear z02);(try clear z03);(try clear z04);(try clear z05)
 clear hb8 hb8' hpo
 obtain⟨x20,x21,x20f,x21f⟩:=F8.out.e2_2 rfl
 obtain⟨x30,x31,x32,x33,x34,x35,x30f,x31f,x32f,x33f,x34f,x35f⟩:=F8.out.e3_6 rfl
 obtain⟨z00,z01,z02,z03,z04,z05⟩:=P8.out.d0_6 rfl
 go_wp2_with fail
 refine Lex.Mid.intro (fun j hj _=>by rw[hj];exact HB8.out.block _ hpl) ?_
 go_wp2_with fail
 refine Lex.Mid.intro (fun j hj _=>by
  have h3:j≠w.heap.size+1+1:=by subst hj;omega
  rw[heap_setCell_other _ _ _ _ h3,heap_setCell_other _ _ _ _ h3,hj]
  exact HB8.out.block _ hpl) ?_
 go_wp2_with fail
 refine Lex.EndsN.intro (by kernel_rfl) ⟨⟨rfl,HX0.out⟩,trivial⟩ ?_
 go_wp2_with fail
 have g1:=F8.out.put 2 0 (.int .i64 nx) rfl
 have g2:=g1.put 2 1 (.slice wa (Own.skipL (j:Int) L).length wc) rfl
 have g3:=g2.put 3 0 (.int .i64 pid) rfl
 have g4:=g3.put 3 1 (.string ppa) rfl
 have g5:=g4.put 3 2 (.string pdi) rfl
 have g6:=g5.put 3 3 (.int .i64 pop) rfl
 have g7:=g6.put 3 4 (.int .i64 pex) rfl
 have G2:=g7.put 3 5 (.slice va' V.length vc') rfl
 clear g1 g2 g3 g4 g5 g6 g7
 refine done_cct rfl rfl rfl rfl (load_row (G2.at1 2 rfl) Tryz.underlying24 rfl info_Queue) (load_row (G2.at1 3 rfl) Tryz.underlying46 rfl info_Proposal) ?_
 rw[HQ.out,HE.out]
 have hup:=own_up HOV8.out
 have hz8:w.heap.size+4<=w4.heap.size:=F4.out.size
 refine⟨⟨_,_,rfl,⟨_,rfl,?_⟩,?_⟩,G2.under⟩
 ·refine Own.POwn.props (HPO.out.keep (by simp[World.setCell]) (fun k hk _=>?_))
  have h7:=F7.out.size
  have h7:w.heap.size+4<=w7.heap.size:=h7
  have k2:k≠w.heap.size+1+1:=by omega
  have k3:k≠w.heap.size+1+1+1:=by omega
  rw[heap_setCell_other _ _ _ _ k3,heap_setCell_other _ _ _ _ k3,heap_setCell_other _ _ _ _ k3,heap_setCell_other _ _ _ _ k3,heap_setCell_other _ _ _ _ k3,heap_setCell_other _ _ _ _ k3,heap_setCell_other _ _ _ _ k2,heap_setCell_other _ _ _ _ k2]
 ·refine Own.votes_own (own_keep HOV8.out (fun k hk=>?_)) rfl
  have:=hup k hk
  have k2:k≠w.heap.size+1+1:=by omega
  have k3:k≠w.heap.size+1+1+1:=by omega
  rw[heap_setCell_other _ _ _ _ k3,heap_setCell_other _ _ _ _ k3,heap_setCell_other _ _ _ _ k3,heap_setCell_other _ _ _ _ k3,heap_setCell_other _ _ _ _ k3,heap_setCell_other _ _ _ _ k3,heap_setCell_other _ _ _ _ k2,heap_setCell_other _ _ _ _ k2]
theorem rvMerge_any (q:Own.Queue) (o:Own.Owners) (size id:Int) (qv sv kv:Value) (w:World) (hMx:MaxL w) (hP:Own.PropsC w qv q.props) (hS:Own.SpacesC w sv o.spaces) (hK:Own.KeysC w kv o.keys)
 (hlp:q.props.length<=1000000) (hlv:∀ x∈q.props,x.votes.length<=3000000) (hls:o.spaces.length<=140737488355328) (hlk:o.keys.length<=140737488355328) (hlm:∀ x∈o.spaces,x.members.length<=140737488355328):
 Calls Tryz.prog 28 #[.agg #[.int .i64 q.next,qv],.agg #[.int .i64 o.count,sv,kv],.int .i64 size,.int .i64 id] w (MergePost w (Own.merge q o size id)):=by
 obtain⟨R,hR⟩:∃ R,R=Own.merge q o size id:=⟨_,rfl⟩
 obtain⟨Q,hQ⟩:∃ Q,Q=MergePost w R:=⟨_,rfl⟩
 rw[<- hR,<- hQ]
 have HQ:=zh hQ;clear hQ
 unfold Own.merge Own.findP Own.without at hR
 obtain⟨qa,qc,rfl⟩:=hP.len
 obtain⟨sa,sc,rfl⟩:=hS.len
 obtain⟨ka,kc,rfl⟩:=hK.len
 have hvq:=fun W (hW:Below w.heap.size w W)=>rvValid_any q (.slice qa q.props.length qc) W (hMx.below hW) (hP.below hW) (by omega) (fun p hp=>by have:=hlv p hp;omega)
 have hvo:=fun W (hW:Below w.heap.size w W)=>owValid_any o (.slice sa o.spaces.length sc) (.slice ka o.keys.length kc) W (hMx.below hW) (hS.below hW) (hK.below hW) hls hlk hlm
 have hagc:=fun(p:Own.Proposal) v W (hW:Below w.heap.size w W) (hv:Own.VotesC W v p.votes) (hl:p.votes.length<=140737488355328)=>rvAgreed_any p o v (.slice sa o.spaces.length sc) (.slice ka o.keys.length kc) W (hMx.below hW) hv (hS.below hW) (hK.below hW) hl hls hlk hlm
 obtain⟨QB,hQB⟩:∃ b,b=Own.queueOK q:=⟨_,rfl⟩
 obtain⟨OB,hOB⟩:∃ b,b=Own.ownersOK o:=⟨_,rfl⟩
 simp only[<- hQB,<- hOB] at hvq hvo hR
 obtain⟨AP,hAP⟩:∃ AP:Own.Proposal->Bool,AP=fun p=>Own.agreedP p o:=⟨_,rfl⟩
 have hap:∀ p,Own.agreedP p o=AP p:=fun p=>by rw[hAP]
 simp only[hap] at hR hagc
 obtain⟨nx,L⟩:=q
 obtain⟨cnt,S,K⟩:=o
 dsimp only at*
 have HVQ:=zh hvq;have HVO:=zh hvo;have HAGC:=zh hagc;have HR:=zh hR;have HP:=zh hP;have HLV:=zh hlv
 clear hvq hvo hagc hR hS hK hlm hQB hOB hAP hap hP hlv hMx
 have F1:=zh (show Boxes w (((((w.alloc (.cells #[.int .i64 nx,.slice qa L.length qc] 24)).alloc (.cells #[.int .i64 cnt,.slice sa S.length sc,.slice ka K.length kc] 38)).alloc (.cells #[.int .i64 id] 3)).alloc (.cells #[.int .i64 0,.slice none 0 0] 24)).alloc (.cells #[.int .i64 0,.string ⟨#[]⟩,.string ⟨#[]⟩,.int .i64 0,.int .i64 0,.slice none 0 0] 46)) [(24,#[.int .i64 nx,.slice qa L.length qc]),(38,#[.int .i64 cnt,.slice sa S.length sc,.slice ka K.length kc]),(3,#[.int .i64 id]),(24,#[.int .i64 0,.slice none 0 0]),(46,#[.int .i64 0,.string ⟨#[]⟩,.string ⟨#[]⟩,.int .i64 0,.int .i64 0,.slice none 0 0])] from((((((Fresh.nil w).push 24 #[.int .i64 nx,.slice qa L.length qc]).push 38 #[.int .i64 cnt,.slice sa S.length sc,.slice ka K.length kc]).push 3 #[.int .i64 id]).push 24 #[.int .i64 0,.slice none 0 0]).push 46 #[.int .i64 0,.string ⟨#[]⟩,.string ⟨#[]⟩,.int .i64 0,.int .i64 0,.slice none 0 0]).boxes)
 have x00:(((((w.alloc (.cells #[.int .i64 nx,.slice qa L.length qc] 24)).alloc (.cells #[.int .i64 cnt,.slice sa S.length sc,.slice ka K.length kc] 38)).alloc (.cells #[.int .i64 id] 3)).alloc (.cells #[.int .i64 0,.slice none 0 0] 24)).alloc (.cells #[.int .i64 0,.string ⟨#[]⟩,.string ⟨#[]⟩,.int .i64 0,.int .i64 0,.slice none 0 0] 46)).cell? ⟨w.heap.size,0,none⟩=some (.int .i64 nx):=F1.out.cell 0 0 rfl rfl
 have x01:(((((w.alloc (.cells #[.int .i64 nx,.slice qa L.length qc] 24)).alloc (.cells #[.int .i64 cnt,.slice sa S.length sc,.slice ka K.length kc] 38)).alloc (.cells #[.int .i64 id] 3)).alloc (.cells #[.int .i64 0,.slice none 0 0] 24)).alloc (.cells #[.int .i64 0,.string ⟨#[]⟩,.string ⟨#[]⟩,.int .i64 0,.int .i64 0,.slice none 0 0] 46)).cell? ⟨w.heap.size,1,none⟩=some (.slice qa L.length qc):=F1.out.cell 0 1 rfl rfl
 have x20:(((((w.alloc (.cells #[.int .i64 nx,.slice qa L.length qc] 24)).alloc (.cells #[.int .i64 cnt,.slice sa S.length sc,.slice ka K.length kc] 38)).alloc (.cells #[.int .i64 id] 3)).alloc (.cells #[.int .i64 0,.slice none 0 0] 24)).alloc (.cells #[.int .i64 0,.string ⟨#[]⟩,.string ⟨#[]⟩,.int .i64 0,.int .i64 0,.slice none 0 0] 46)).cell? ⟨w.heap.size+1+1,0,none⟩=some (.int .i64 id):=F1.out.cell 2 0 rfl rfl
 go_enter Tryz.func28,Tryz.ntmps28
 go_wp2_with fail
 generalize (((((w.alloc (.cells #[.int .i64 nx,.slice qa L.length qc] 24)).alloc (.cells #[.int .i64 cnt,.slice sa S.length sc,.slice ka K.length kc] 38)).alloc (.cells #[.int .i64 id] 3)).alloc (.cells #[.int .i64 0,.slice none 0 0] 24)).alloc (.cells #[.int .i64 0,.string ⟨#[]⟩,.string ⟨#[]⟩,.int .i64 0,.int .i64 0,.slice none 0 0] 46))=w1 at*
 refine(rvFind_any nx id (.slice qa L.length qc) L w1 (HP.out.below F1.out.under) (by omega)).mono ?_
 rintro e w2 ⟨⟨i,rfl,hi⟩,hb2⟩
 have F2:=zh (F1.out.step hb2);have HI:=zh hi
 (try clear x00);(try clear x01);(try clear x10);(try clear x11);(try clear x12);(try clear x20f);(try clear x20);(try clear x30f);(try clear x30);(try clear x31f);(try clear x31);(try clear x40f);(try clear x40);(try clear x41f);(try clear x41);(try clear x42f);(try clear x42);(try clear x43f);(try clear x43);(try clear x44f);(try clear x44);(try clear x45f);(try clear x45)
 clear hb2 hi
 obtain⟨x00,x01⟩:=F2.out.d0_2 rfl
 go_wp2_with fail
 refine(HVQ.out w2 F2.out.under).mono ?_
 rintro e w3 ⟨rfl,hb3⟩
 have F3:=zh (F2.out.step hb3)
 (try clear x00);(try clear x01);(try clear x10);(try clear x11);(try clear x12);(try clear x20f);(try clear x20);(try clear x30f);(try clear x30);(try clear x31f);(try clear x31);(try clear x40f);(try clear x40);(try clear x41f);(try clear x41);(try clear x42f);(try clear x42);(try clear x43f);(try clear x43);(try clear x44f);(try clear x44);(try clear x45f);(try clear x45)
 clear hb3
 cases QB with
 | false =>
   have HE:=zh (show R=(Own.Queue.none,Own.Proposal.none,1) by rw[HR.out];rfl)
   obtain⟨x30,x31,x30f,x31f⟩:=F3.out.e3_2 rfl
   obtain⟨x40,x41,x42,x43,x44,x45,x40f,x41f,x42f,x43f,x44f,x45f⟩:=F3.out.e4_6 rfl
   go_wp2_with fail
   have g1:=F3.out.put 3 0 (.int .i64 0) rfl
   have g2:=g1.put 3 1 (.slice none 0 0) rfl
   have g3:=g2.put 4 0 (.int .i64 0) rfl
   have g4:=g3.put 4 1 (.string ⟨#[]⟩) rfl
   have g5:=g4.put 4 2 (.string ⟨#[]⟩) rfl
   have g6:=g5.put 4 3 (.int .i64 0) rfl
   have g7:=g6.put 4 4 (.int .i64 0) rfl
   have G2:=g7.put 4 5 (.slice none 0 0) rfl
   clear g1 g2 g3 g4 g5 g6 g7
   refine done_cct rfl rfl rfl rfl (load_row (G2.at1 3 rfl) Tryz.underlying24 rfl info_Queue) (load_row (G2.at1 4 rfl) Tryz.underlying46 rfl info_Proposal) ?_
   rw[HQ.out,HE.out]
   exact⟨⟨_,_,rfl,⟨_,rfl,ListF.nil _ _⟩,ListF.nil _ _⟩,G2.under⟩
 | true=>
 obtain⟨x10,x11,x12⟩:=F3.out.d1_3 rfl
 go_wp2_with fail
 refine(HVO.out w3 F3.out.under).mono ?_
 rintro e w4 ⟨rfl,hb4⟩
 have F4:=zh (F3.out.step hb4)
 (try clear x00);(try clear x01);(try clear x10);(try clear x11);(try clear x12);(try clear x20f);(try clear x20);(try clear x30f);(try clear x30);(try clear x31f);(try clear x31);(try clear x40f);(try clear x40);(try clear x41f);(try clear x41);(try clear x42f);(try clear x42);(try clear x43f);(try clear x43);(try clear x44f);(try clear x44);(try clear x45f);(try clear x45)
 clear hb4
 cases OB with
 | false =>
   have HE:=zh (show R=(Own.Queue.none,Own.Proposal.none,1) by rw[HR.out];rfl)
   obtain⟨x30,x31,x30f,x31f⟩:=F4.out.e3_2 rfl
   obtain⟨x40,x41,x42,x43,x44,x45,x40f,x41f,x42f,x43f,x44f,x45f⟩:=F4.out.e4_6 rfl
   go_wp2_with fail
   have g1:=F4.out.put 3 0 (.int .i64 0) rfl
   have g2:=g1.put 3 1 (.slice none 0 0) rfl
   have g3:=g2.put 4 0 (.int .i64 0) rfl
   have g4:=g3.put 4 1 (.string ⟨#[]⟩) rfl
   have g5:=g4.put 4 2 (.string ⟨#[]⟩) rfl
   have g6:=g5.put 4 3 (.int .i64 0) rfl
   have g7:=g6.put 4 4 (.int .i64 0) rfl
   have G2:=g7.put 4 5 (.slice none 0 0) rfl
   clear g1 g2 g3 g4 g5 g6 g7
   refine done_cct rfl rfl rfl rfl (load_row (G2.at1 3 rfl) Tryz.underlying24 rfl info_Queue) (load_row (G2.at1 4 rfl) Tryz.underlying46 rfl info_Proposal) ?_
   rw[HQ.out,HE.out]
   exact⟨⟨_,_,rfl,⟨_,rfl,ListF.nil _ _⟩,ListF.nil _ _⟩,G2.under⟩
 | true=>
 have hr:=HR.out
 rw[if_neg (show ¬ (true&&true)=false by decide)] at hr
 have HR1:=zh hr;clear hr HR
 rcases HI.out with ⟨rfl,hf,_⟩ | ⟨j,hj,rfl,hf,hpj,_⟩
 ·have HE:=zh (show R=(Own.Queue.none,Own.Proposal.none,6) by rw[HR1.out,hf])
  clear hf
  obtain⟨x30,x31,x30f,x31f⟩:=F4.out.e3_2 rfl
  obtain⟨x40,x41,x42,x43,x44,x45,x40f,x41f,x42f,x43f,x44f,x45f⟩:=F4.out.e4_6 rfl
  go_wp2_with fail
  have g1:=F4.out.put 3 0 (.int .i64 0) rfl
  have g2:=g1.put 3 1 (.slice none 0 0) rfl
  have g3:=g2.put 4 0 (.int .i64 0) rfl
  have g4:=g3.put 4 1 (.string ⟨#[]⟩) rfl
  have g5:=g4.put 4 2 (.string ⟨#[]⟩) rfl
  have g6:=g5.put 4 3 (.int .i64 0) rfl
  have g7:=g6.put 4 4 (.int .i64 0) rfl
  have G2:=g7.put 4 5 (.slice none 0 0) rfl
  clear g1 g2 g3 g4 g5 g6 g7
  refine done_cct rfl rfl rfl rfl (load_row (G2.at1 3 rfl) Tryz.underlying24 rfl info_Queue) (load_row (G2.at1 4 rfl) Tryz.underlying46 rfl info_Proposal) ?_
  rw[HQ.out,HE.out]
  exact⟨⟨_,_,rfl,⟨_,rfl,ListF.nil _ _⟩,ListF.nil _ _⟩,G2.under⟩
 have dj:decide ((j:Int)<0)=false:=decide_eq_false (by omega)
 have hr:=HR1.out
 rw[hf] at hr
 obtain⟨b,o',u,ha,hbl,e0,e1,e2,e3,e4,e5,huv⟩:=Own.PropsC.cells (HP.out.below F4.out.under) hj
 have hlj:=HLV.out L[j] (List.getElem_mem hj)
 obtain⟨x,hx⟩:∃ x,x=L[j]:=⟨_,rfl⟩
 rw[<- hx] at e0 e1 e2 e3 e4 huv hlj hr
 obtain⟨ua,uc,rfl⟩:=huv.len
 have hb5:Below w4.heap.size w4 w4.drew:=(Below.refl w4.heap.size w4).drew
 have hagc:=HAGC.out x (.slice ua x.votes.length uc) w4.drew (F4.out.under.trans (hb5.mono F4.out.under.size)) (huv.below hb5) (by omega)
 have hcp:=fun W (hW:Below w4.heap.size w4 W)=>rvCopied_any x (.slice ua x.votes.length uc) W (huv.below hW) hlj
 obtain⟨pid,ppa,pdi,pop,pex,V⟩:=x
 dsimp only at e0 e1 e2 e3 e4 huv hlj hagc hcp hr
 obtain⟨AG,hAG⟩:∃ b,b=AP ⟨pid,ppa,pdi,pop,pex,V⟩:=⟨_,rfl⟩
 rw[<- hAG] at hr hagc
 have HCP:=zh hcp;have HR2:=zh hr;have HAG:=zh hagc
 have hbb:w.heap.size+5<=w4.heap.size:=F4.out.size
 have hnl:b<w.heap.size:=by
  obtain⟨_,_,_,ha',hbl',_⟩:=Own.PropsC.cells HP.out hj
  rw[ha] at ha'
  cases ha'
  exact hbl'
 obtain⟨x00,x01⟩:=F4.out.d0_2 rfl
 subst ha
 clear hcp hr hagc hx hf hpj huv HR1 hAG HAGC hb5
 by_cases hxs:pex<=size
 ·have dx:decide (pex<=size)=true:=decide_eq_true hxs
  have HE:=zh (show R=(Own.Queue.none,Own.Proposal.none,8) by rw[HR2.out,if_pos hxs])
  clear hxs
  (try clear x00);(try clear x01)
  obtain⟨x00,x01⟩:=F4.out.d0_2 rfl
  obtain⟨x30,x31,x30f,x31f⟩:=F4.out.e3_2 rfl
  obtain⟨x40,x41,x42,x43,x44,x45,x40f,x41f,x42f,x43f,x44f,x45f⟩:=F4.out.e4_6 rfl
  go_wp2_with fail
  have g1:=F4.out.put 3 0 (.int .i64 0) rfl
  have g2:=g1.put 3 1 (.slice none 0 0) rfl
  have g3:=g2.put 4 0 (.int .i64 0) rfl
  have g4:=g3.put 4 1 (.string ⟨#[]⟩) rfl
  have g5:=g4.put 4 2 (.string ⟨#[]⟩) rfl
  have g6:=g5.put 4 3 (.int .i64 0) rfl
  have g7:=g6.put 4 4 (.int .i64 0) rfl
  have G2:=g7.put 4 5 (.slice none 0 0) rfl
  clear g1 g2 g3 g4 g5 g6 g7
  refine done_cct rfl rfl rfl rfl (load_row (G2.at1 3 rfl) Tryz.underlying24 rfl info_Queue) (load_row (G2.at1 4 rfl) Tryz.underlying46 rfl info_Proposal) ?_
  rw[HQ.out,HE.out]
  exact⟨⟨_,_,rfl,⟨_,rfl,ListF.nil _ _⟩,ListF.nil _ _⟩,G2.under⟩
 have dx:decide (pex<=size)=false:=decide_eq_false hxs
 have hr3:=HR2.out
 rw[if_neg hxs] at hr3
 have HR3:=zh hr3
 clear hr3 hxs HR2
 (try clear x00);(try clear x01)
 obtain⟨x00,x01⟩:=F4.out.d0_2 rfl
 obtain⟨x10,x11,x12⟩:=F4.out.d1_3 rfl
 go_wp2_with fail
 refine Lex.wp_region_lex (by kernel_rfl) (by kernel_rfl) ?_
 go_wp2_with fail
 refine HAG.out.mono ?_
 rintro e w7 ⟨rfl,hb7⟩
 have hb7' : Below w4.heap.size w4 w7:=(Below.refl w4.heap.size w4).drew.trans hb7
 have F7:=zh (F4.out.step hb7');have HB7:=zh hb7'
 (try clear x00);(try clear x01);(try clear x10);(try clear x11);(try clear x12);(try clear x20f);(try clear x20);(try clear x30f);(try clear x30);(try clear x31f);(try clear x31);(try clear x40f);(try clear x40);(try clear x41f);(try clear x41);(try clear x42f);(try clear x42);(try clear x43f);(try clear x43);(try clear x44f);(try clear x44);(try clear x45f);(try clear x45)
 go_wp2_with fail
 refine Lex.Ends.intro (by kernel_rfl) ?_
 cases AG with
 | false =>
   have HE:=zh (show R=(Own.Queue.none,Own.Proposal.none,20) by rw[HR3.out,if_pos rfl])
   clear e0 e1 e2 e3 e4 e5 hb7 hb7'
   obtain⟨x30,x31,x30f,x31f⟩:=F7.out.e3_2 rfl
   obtain⟨x40,x41,x42,x43,x44,x45,x40f,x41f,x42f,x43f,x44f,x45f⟩:=F7.out.e4_6 rfl
   go_wp2_with fail
   have g1:=F7.out.put 3 0 (.int .i64 0) rfl
   have g2:=g1.put 3 1 (.slice none 0 0) rfl
   have g3:=g2.put 4 0 (.int .i64 0) rfl
   have g4:=g3.put 4 1 (.string ⟨#[]⟩) rfl
   have g5:=g4.put 4 2 (.string ⟨#[]⟩) rfl
   have g6:=g5.put 4 3 (.int .i64 0) rfl
   have g7:=g6.put 4 4 (.int .i64 0) rfl
   have G2:=g7.put 4 5 (.slice none 0 0) rfl
   clear g1 g2 g3 g4 g5 g6 g7
   refine done_cct rfl rfl rfl rfl (load_row (G2.at1 3 rfl) Tryz.underlying24 rfl info_Queue) (load_row (G2.at1 4 rfl) Tryz.underlying46 rfl info_Proposal) ?_
   rw[HQ.out,HE.out]
   exact⟨⟨_,_,rfl,⟨_,rfl,ListF.nil _ _⟩,ListF.nil _ _⟩,G2.under⟩
 | true=>
 have HE:=zh (show R=(⟨nx,L.filter fun p => !decide (p.id=id)⟩,⟨pid,ppa,pdi,pop,pex,V⟩,0) by rw[HR3.out,if_neg (by decide)])
 have hbl7:b<w7.heap.size:=Nat.lt_of_lt_of_le hbl hb7'.size
 replace e0:=(hb7'.cell (p:=⟨b,o' + j*6,none⟩) hbl).trans e0
 replace e1:=(hb7'.cell (p:=⟨b,o' + j*6+1,none⟩) hbl).trans e1
 replace e2:=(hb7'.cell (p:=⟨b,o' + j*6+2,none⟩) hbl).trans e2
 replace e3:=(hb7'.cell (p:=⟨b,o' + j*6+3,none⟩) hbl).trans e3
 replace e4:=(hb7'.cell (p:=⟨b,o' + j*6+4,none⟩) hbl).trans e4
 replace e5:=(hb7'.cell (p:=⟨b,o' + j*6+5,none⟩) hbl).trans e5
 obtain⟨x00,x01⟩:=F7.out.d0_2 rfl
 have x20:w7.cell? ⟨w.heap.size+1+1,0,none⟩=some (.int .i64 id):=F7.out.cell 2 0 rfl rfl
 have hq7:w.heap.size<w7.heap.size:=F7.out.lt (i:=0) (by show 0<5;omega)
 have h2l:w.heap.size+1+1<w7.heap.size:=F7.out.lt (i:=2) (by show 2<5;omega)
 have HX0:=zh (show(w7.cell? ⟨w.heap.size,1,none⟩).isSome=true by rw[x01];rfl)
 have HX1:=zh (show(w7.cell? ⟨b,o' + j*6,none⟩).isSome=true by rw[e0];rfl)
 have hd7:Below w7.heap.size w7 w7.drew:=(Below.refl w7.heap.size w7).drew
 have hkp:=rvKept_any 73 #[.pointer (some ⟨w.heap.size+1+1,0,none⟩)] (by intros;rfl) (fun p:Own.Proposal => !decide (p.id=id)) nx (.slice (some ⟨b,o',none⟩) L.length qc) L w7.drew (HP.out.below (F7.out.under.trans (hd7.mono F7.out.under.size))) hlp HLV.out (fun W x u hb=>rvMerge1_any x u _ id W (((hd7.trans hb).cell (p:=⟨w.heap.size+1+1,0,none⟩) h2l).trans x20))
 have HKP:=zh hkp
 clear hkp hb7 hb7' hd7
 go_wp2_with fail
 refine Lex.wp_region_lexN (fun k=>k=w.heap.size\/k=b) [4,7] 8 [3] (by kernel_rfl) (by kernel_rfl) (by kernel_rfl) ?_
 simp only[Lex.wpCuts,List.take_succ_cons,List.take_zero,List.drop_succ_cons,List.drop_zero]
 go_wp2_with fail
 refine HKP.out.mono ?_
 rintro e w8 ⟨⟨v8,rfl,hpo⟩,hb8⟩
 rw[drew_heap] at hpo
 obtain⟨wa,wc,rfl⟩:=hpo.one
 obtain⟨NL,hNL⟩:∃ NL,NL=L.filter fun p => !decide (p.id=id):=⟨_,rfl⟩
 rw[<- hNL] at hpo HE ⊢
 have hb8' : Below w7.heap.size w7 w8:=(Below.refl w7.heap.size w7).drew.trans hb8
 have F8:=zh (F7.out.step hb8');have HB8:=zh hb8';have HPO:=zh hpo
 (try clear x00);(try clear x01);(try clear x10);(try clear x11);(try clear x12);(try clear x20f);(try clear x20);(try clear x30f);(try clear x30);(try clear x31f);(try clear x31);(try clear x40f);(try clear x40);(try clear x41f);(try clear x41);(try clear x42f);(try clear x42);(try clear x43f);(try clear x43);(try clear x44f);(try clear x44);(try clear x45f);(try clear x45)
 replace e0:=(hb8'.cell (p:=⟨b,o' + j*6,none⟩) hbl7).trans e0
 replace e1:=(hb8'.cell (p:=⟨b,o' + j*6+1,none⟩) hbl7).trans e1
 replace e2:=(hb8'.cell (p:=⟨b,o' + j*6+2,none⟩) hbl7).trans e2
 replace e3:=(hb8'.cell (p:=⟨b,o' + j*6+3,none⟩) hbl7).trans e3
 replace e4:=(hb8'.cell (p:=⟨b,o' + j*6+4,none⟩) hbl7).trans e4
 replace e5:=(hb8'.cell (p:=⟨b,o' + j*6+5,none⟩) hbl7).trans e5
 have HC8:=zh (HCP.out w8 (HB7.out.trans (hb8'.mono HB7.out.size)))
 clear hb8 hb8' hpo hNL
 obtain⟨x00,x01⟩:=F8.out.d0_2 rfl
 go_wp2_with fail
 refine Lex.Mid.intro (fun k hk _=>by rcases hk with hk | hk <;> (rw[hk];exact HB8.out.block _ (by assumption))) ?_
 go_wp2_with fail
 refine HC8.out.mono ?_
 rintro e w9 ⟨v',rfl,hov,hb9⟩
 obtain⟨va',vm',vc',rfl⟩:=own_slice hov
 obtain rfl:=own_len hov
 have F9:=zh (F8.out.step hb9);have HOV:=zh hov;have HP9:=zh (HPO.out.below hb9)
 (try clear x00);(try clear x01);(try clear x10);(try clear x11);(try clear x12);(try clear x20f);(try clear x20);(try clear x30f);(try clear x30);(try clear x31f);(try clear x31);(try clear x40f);(try clear x40);(try clear x41f);(try clear x41);(try clear x42f);(try clear x42);(try clear x43f);(try clear x43);(try clear x44f);(try clear x44);(try clear x45f);(try clear x45)
 clear hb9 hov e0 e1 e2 e3 e4 e5
 obtain⟨x30,x31,x30f,x31f⟩:=F9.out.e3_2 rfl
 obtain⟨x40,x41,x42,x43,x44,x45,x40f,x41f,x42f,x43f,x44f,x45f⟩:=F9.out.e4_6 rfl
 go_wp2_with fail
 refine Lex.EndsN.intro (by kernel_rfl) ⟨⟨.inl rfl,HX0.out⟩,⟨.inr rfl,HX1.out⟩,trivial⟩ ?_
 go_wp2_with fail
 have g1:=F9.out.put 3 0 (.int .i64 nx) rfl
 have g2:=g1.put 3 1 (.slice wa NL.length wc) rfl
 have g3:=g2.put 4 0 (.int .i64 pid) rfl
 have g4:=g3.put 4 1 (.string ppa) rfl
 have g5:=g4.put 4 2 (.string pdi) rfl
 have g6:=g5.put 4 3 (.int .i64 pop) rfl
 have g7:=g6.put 4 4 (.int .i64 pex) rfl
 have G2:=g7.put 4 5 (.slice va' V.length vc') rfl
 clear g1 g2 g3 g4 g5 g6 g7
 refine done_cct rfl rfl rfl rfl (load_row (G2.at1 3 rfl) Tryz.underlying24 rfl info_Queue) (load_row (G2.at1 4 rfl) Tryz.underlying46 rfl info_Proposal) ?_
 rw[HQ.out,HE.out]
 have hup:=own_up HOV.out
 have h7:w.heap.size+5<=w7.heap.size:=F7.out.size
 have h8:w.heap.size+5<=w8.heap.size:=F8.out.size
 refine⟨⟨_,_,rfl,⟨_,rfl,?_⟩,?_⟩,G2.under⟩
 ·refine Own.POwn.props (HP9.out.keep (by simp[World.setCell]) (fun k hk _=>?_))
  have k2:k≠w.heap.size+1+1+1:=by omega
  have k3:k≠w.heap.size+1+1+1+1:=by omega
  rw[heap_setCell_other _ _ _ _ k3,heap_setCell_other _ _ _ _ k3,heap_setCell_other _ _ _ _ k3,heap_setCell_other _ _ _ _ k3,heap_setCell_other _ _ _ _ k3,heap_setCell_other _ _ _ _ k3,heap_setCell_other _ _ _ _ k2,heap_setCell_other _ _ _ _ k2]
 ·refine Own.votes_own (own_keep HOV.out (fun k hk=>?_)) rfl
  have:=hup k hk
  have k2:k≠w.heap.size+1+1+1:=by omega
  have k3:k≠w.heap.size+1+1+1+1:=by omega
  rw[heap_setCell_other _ _ _ _ k3,heap_setCell_other _ _ _ _ k3,heap_setCell_other _ _ _ _ k3,heap_setCell_other _ _ _ _ k3,heap_setCell_other _ _ _ _ k3,heap_setCell_other _ _ _ _ k3,heap_setCell_other _ _ _ _ k2,heap_setCell_other _ _ _ _ k2]
end
section
open Go Go.RowKit Go.Maps
namespace Own
def cellsS (L:List Proposal) (us:List Value):List Value:=(List.zipWith encP L us).flatten
structure SOwn (B:Nat) (w:World) (v:Value) (L:List Proposal) (us:List Value):Prop where
 len:us.length=L.length
 row:w.ownsRow B 46 6 v L.length (cellsS L us)
 votes:∀ i (h:i<L.length) (h' : i<us.length),w.ownsRow B 82 3 us[i] L[i].votes.length (L[i].votes.flatMap encV)
 apart:us.Pairwise fun a b=>∀ k,a.ownBlock=some k->b.ownBlock≠some k
theorem SOwn.nil (B:Nat) (w:World):SOwn B w (.slice none 0 0) [] []:=⟨rfl,⟨rfl,.inl ⟨rfl,rfl⟩⟩,fun i h=>absurd h (by simp),List.Pairwise.nil⟩
theorem SOwn.below {B:Nat} {w w' : World} {v:Value} {L:List Proposal} {us:List Value} (h:SOwn B w v L us) (hb:Below w.heap.size w w'):SOwn B w' v L us:=
 ⟨h.len,own_below h.row hb,fun i h1 h2=>own_below (h.votes i h1 h2) hb,h.apart⟩
theorem SOwn.keep {B:Nat} {w w' : World} {v:Value} {L:List Proposal} {us:List Value} (h:SOwn B w v L us) (hk:∀ k,B<=k->k<w.heap.size->w'.heap[k]? = w.heap[k]?):SOwn B w' v L us:=
 ⟨h.len,own_keep h.row (fun k e=>hk k (own_up h.row k e) (own_lt' h.row k e)),fun i h1 h2=>own_keep (h.votes i h1 h2) (fun k e=>hk k (own_up (h.votes i h1 h2) k e) (own_lt' (h.votes i h1 h2) k e)),h.apart⟩
theorem cellsS_snoc (L:List Proposal) (us:List Value) (x:Proposal) (u:Value) (h:us.length=L.length):cellsS (L++[x]) (us++[u])=cellsS L us++encP x u:=by
 unfold cellsS
 rw[List.zipWith_append h.symm]
 simp
theorem SOwn.push {B:Nat} {w w' : World} {v v' u:Value} {L:List Proposal} {x:Proposal} {us:List Value} (h:SOwn B w v L us) (hu:w.ownsRow B 82 3 u x.votes.length (x.votes.flatMap encV)) (hd:∀ i (h:i<us.length) k,us[i].ownBlock=some k->u.ownBlock≠some k)
 (hv:w'.ownsRow B 46 6 v' (L.length+1) (cellsS L us++encP x u)) (hg:w.grownBy w' v.ownBlock):SOwn B w' v' (L++[x]) (us++[u]):=by
 have hkeep:∀ {z:Value} {n:Nat} {xs:List Value},w.ownsRow B 82 3 z n xs->w'.ownsRow B 82 3 z n xs:=fun hz=>own_keep hz (fun k e=>hg.block k (own_lt' hz k e) (fun e' => own_dis hz h.row (by decide) k e e'.symm))
 refine⟨by simp[h.len],?_,fun i h1 h2=>?_,?_⟩
 ·rw[cellsS_snoc _ _ _ _ h.len,List.length_append]
  exact hv
 ·by_cases hi:i<L.length
  ·rw[List.getElem_append_left hi,List.getElem_append_left (by rw[h.len];exact hi)]
   exact hkeep (h.votes i hi (by rw[h.len];exact hi))
  ·have e:i=L.length:=by simp at h1;omega
   subst e
   rw[List.getElem_append_right (Nat.le_refl _),List.getElem_append_right (by rw[h.len];exact Nat.le_refl _)]
   simp only[h.len,Nat.sub_self,List.getElem_cons_zero]
   exact hkeep hu
 ·refine List.pairwise_append.2 ⟨h.apart,List.pairwise_singleton _ _,fun a ha b hb k hk=>?_⟩
  have hb:b=u:=by simpa using hb
  subst hb
  obtain⟨i,hi,rfl⟩:=List.getElem_of_mem ha
  exact hd i hi k hk
theorem SOwn.one {B:Nat} {w:World} {v:Value} {L:List Proposal} {us:List Value} (h:SOwn B w v L us):∃ a c,v=.slice a L.length c:=by
 obtain⟨a,m,c,rfl⟩:=own_slice h.row
 obtain rfl:=own_len h.row
 exact⟨a,c,rfl⟩
theorem SOwn.props {B:Nat} {w:World} {v:Value} {L:List Proposal} {us:List Value} (h:SOwn B w v L us):PropsC w v L:=by
 refine ListF.of_rows (css:=List.zipWith encP L us) (RowsC.own h.row) rfl (by simp[h.len]) (fun _ _=>trivial) (fun i hi hi' => ?_)
 have h2:i<us.length:=by rw[h.len];exact hi
 rw[List.getElem_zipWith]
 exact⟨rfl,us[i],rfl,votes_own (h.votes i hi h2) rfl⟩
end Own
theorem rvKeptS_any (nx:Int) (pv:Value) (l:List Own.Proposal) (w:World) (hP:Own.PropsC w pv l) (hl:l.length<=1000000) (hlv:∀ x∈l,x.votes.length<=3000000):
 Calls Tryz.prog 42 #[.agg #[.int .i64 nx,pv],.func (.func 43) #[] #[]] w fun e w' => (∃ v' us,e=.returned (.agg #[.int .i64 nx,v'])/\Own.SOwn (w.heap.size+3) w' v' l us)/\Below w.heap.size w w' :=by
 obtain⟨a,c,rfl⟩:=hP.len
 have F1:=zh (show Boxes w (((w.alloc (.cells #[.int .i64 nx,.slice a l.length c] 24)).alloc (.cells #[.int .i64 0,.slice none 0 0] 24)).alloc (.cells #[.int .i64 nx,.slice none 0 0] 24)) [(24,#[.int .i64 nx,.slice a l.length c]),(24,#[.int .i64 0,.slice none 0 0]),(24,#[.int .i64 nx,.slice none 0 0])] from((((Fresh.nil w).push 24 #[.int .i64 nx,.slice a l.length c]).push 24 #[.int .i64 0,.slice none 0 0]).push 24 #[.int .i64 nx,.slice none 0 0]).boxes)
 have HL:=zh hP;have HLV:=zh hlv
 clear hP hlv
 have x00:(((w.alloc (.cells #[.int .i64 nx,.slice a l.length c] 24)).alloc (.cells #[.int .i64 0,.slice none 0 0] 24)).alloc (.cells #[.int .i64 nx,.slice none 0 0] 24)).cell? ⟨w.heap.size,0,none⟩=some (.int .i64 nx):=F1.out.cell 0 0 rfl rfl
 have x01:(((w.alloc (.cells #[.int .i64 nx,.slice a l.length c] 24)).alloc (.cells #[.int .i64 0,.slice none 0 0] 24)).alloc (.cells #[.int .i64 nx,.slice none 0 0] 24)).cell? ⟨w.heap.size,1,none⟩=some (.slice a l.length c):=F1.out.cell 0 1 rfl rfl
 go_enter Tryz.func42,Tryz.ntmps42
 go_upto_region 2 with fail
 generalize (((w.alloc (.cells #[.int .i64 nx,.slice a l.length c] 24)).alloc (.cells #[.int .i64 0,.slice none 0 0] 24)).alloc (.cells #[.int .i64 nx,.slice none 0 0] 24))=w1 at*
 go_wp2_with fail
 (try clear x00);(try clear x01);(try clear x10f);(try clear x10);(try clear x11f);(try clear x11);(try clear x20f);(try clear x20);(try clear x21f);(try clear x21)
 go_loopw [14] (fun i wr=>∃ (k:Nat) (v:Value) (us:List Value),k<=l.length/\i=.int .i64 k/\Boxes w wr [(24,#[.int .i64 nx,.slice a l.length c]),(24,#[.int .i64 0,.slice none 0 0]),(24,#[.int .i64 nx,v])]/\Own.SOwn (w.heap.size+3) wr v (l.take k) us) (fun i _=>l.length - (intOf i).toNat)
 case atStart=>exact⟨0,_,[],by omega,rfl,F1.out,Own.SOwn.nil _ _⟩
 case round=>
  obtain⟨k,v,us,hk,rfl,hbx,hpo⟩:=hrel
  obtain⟨L,hL⟩:∃ L,L=l.take k:=⟨_,rfl⟩
  rw[<- hL] at hpo
  have hLM:L.length<=1000000:=by rw[hL,List.length_take];omega
  obtain⟨va,vc,rfl⟩:=hpo.one
  have G1:=zh hbx;have HPO:=zh hpo
  clear hbx hpo
  by_cases hlt:k<l.length
  case neg=>
   obtain⟨x10,x11,x10f,x11f⟩:=G1.out.e1_2 rfl
   obtain⟨x20,x21⟩:=G1.out.d2_2 rfl
   have hke:k=l.length:=by omega
   have dk:decide ((k:Int)<l.length)=false:=decide_eq_false (by omega)
   have HL2:=zh (show L=l by rw[hL,hke,List.take_length])
   clear hke hL
   go_wp2_with fail
   have G2:=((G1.out.put 1 0 (.int .i64 nx) rfl).put 1 1 (.slice va L.length vc) rfl)
   refine done_c rfl rfl (load_row (G2.at1 1 rfl) Tryz.underlying24 rfl info_Queue) ⟨⟨_,us,rfl,?_⟩,G2.under⟩
   rw[<- HL2.out]
   exact HPO.out.keep (fun k hk _=>by
    have hk1:k≠w.heap.size+1:=by omega
    rw[heap_setCell_other _ _ _ _ hk1,heap_setCell_other _ _ _ _ hk1])
  have dk:decide ((k:Int)<l.length)=true:=decide_eq_true (by omega)
  have HTK:=zh (show l.take (k+1)=L++[l[k]] by rw[List.take_succ_eq_append_getElem hlt,<- hL])
  clear hL
  obtain⟨b,o,u,ha,hbl,e0,e1,e2,e3,e4,e5,huv⟩:=Own.PropsC.cells (HL.out.below G1.out.under) hlt
  subst ha
  have hlk:=HLV.out l[k] (List.getElem_mem hlt)
  obtain⟨x,hx⟩:∃ x,x=l[k]:=⟨_,rfl⟩
  rw[<- hx] at e0 e1 e2 e3 e4 huv hlk
  obtain⟨ua,uc,rfl⟩:=huv.len
  have hcp:=fun W (hW:Below wr.heap.size wr W)=>rvCopied_any x (.slice ua x.votes.length uc) W (huv.below hW) hlk
  have hall:=fun W=>rvAll_any x (.slice ua x.votes.length uc) W
  have HCP:=zh hcp;have HX:=zh hx;have HALL:=zh hall
  obtain⟨pid,ppa,pdi,pop,pex,pvs⟩:=x
  dsimp only at e0 e1 e2 e3 e4 HCP HALL
  clear hx hcp hall huv
  have P5:=zh (show Boxes wr (wr.alloc (.cells #[.int .i64 pid,.string ppa,.string pdi,.int .i64 pop,.int .i64 pex,.slice ua pvs.length uc] 46)) [(46,#[.int .i64 pid,.string ppa,.string pdi,.int .i64 pop,.int .i64 pex,.slice ua pvs.length uc])] from((Fresh.nil wr).push 46 #[.int .i64 pid,.string ppa,.string pdi,.int .i64 pop,.int .i64 pex,.slice ua pvs.length uc]).boxes)
  have G5:=zh (G1.out.step P5.out.under);have HPO5:=zh (HPO.out.below P5.out.under)
  go_upto_region 5 with fail
  generalize (wr.alloc (.cells #[.int .i64 pid,.string ppa,.string pdi,.int .i64 pop,.int .i64 pex,.slice ua pvs.length uc] 46))=w5 at*
  obtain⟨z00,z01,z02,z03,z04,z05⟩:=P5.out.d0_6 rfl
  clear e0 e1 e2 e3 e4 e5
  go_wp2_with fail
  refine(HALL.out w5).mono ?_
  rintro e w6 ⟨rfl,hb6⟩
  have P6:=zh (P5.out.step hb6);have G6:=zh (G5.out.step hb6);have HPO6:=zh (HPO5.out.below hb6)
  (try clear z00);(try clear z01);(try clear z02);(try clear z03);(try clear z04);(try clear z05)
  clear hb6
  obtain⟨z00,z01,z02,z03,z04,z05⟩:=P6.out.d0_6 rfl
  obtain⟨x20,x21,x20f,x21f⟩:=G6.out.e2_2 rfl
  have hol:w.heap.size+1+1<w6.heap.size:=G6.out.lt (i:=2) (by show 2<3;omega)
  have hwz:w.heap.size+3<=w6.heap.size:=G6.out.size
  have HXS:=zh (show(w6.cell? ⟨w.heap.size+1+1,1,none⟩).isSome=true by rw[x21];rfl)
  have HCP6:=zh (HCP.out w6.drew (P6.out.under.trans ((Below.refl w6.heap.size w6).drew.mono P6.out.under.size)))
  go_wp2_with fail
  refine Lex.wp_region_lexN (fun j=>j=w.heap.size+1+1) [1] 5 [4] (by kernel_rfl) (by kernel_rfl) (by kernel_rfl) ?_
  simp only[Lex.wpCuts,List.take_succ_cons,List.take_zero,List.drop_succ_cons,List.drop_zero]
  go_wp2_with fail
  refine HCP6.out.mono ?_
  rintro e w7 ⟨v',rfl,hov,hb7⟩
  rw[drew_heap] at hov
  obtain⟨va',vm',vc',rfl⟩:=own_slice hov
  have hb7' : Below w6.heap.size w6 w7:=(Below.refl w6.heap.size w6).drew.trans hb7
  have G7:=zh (G6.out.step hb7');have HB7:=zh hb7';have HOV:=zh hov;have HPO7:=zh (HPO6.out.below hb7')
  (try clear z00);(try clear z01);(try clear z02);(try clear z03);(try clear z04);(try clear z05)
  (try clear x00);(try clear x01);(try clear x10f);(try clear x10);(try clear x11f);(try clear x11);(try clear x20f);(try clear x20);(try clear x21f);(try clear x21)
  obtain⟨x20,x21,x20f,x21f⟩:=G7.out.e2_2 rfl
  clear hb7 hb7' hov
  go_wp2_with fail
  refine Lex.Mid.intro (fun j hj _=>by rw[hj];exact HB7.out.block _ hol) ?_
  have hrw:=(rows_new w7 46 #[.int .i64 pid,.string ppa,.string pdi,.int .i64 pop,.int .i64 pex,.slice va' vm' vc'] 6 1 1 rfl)
  have hb78:Below w7.heap.size w7 (w7.alloc (.cells #[.int .i64 pid,.string ppa,.string pdi,.int .i64 pop,.int .i64 pex,.slice va' vm' vc'] 46)):=(Below.refl _ _).alloc (Nat.le_refl _) _
  have h67:=HB7.out.size
  have HPO8:=zh (HPO7.out.below hb78);have HRW:=zh hrw;have G8:=zh (G7.out.step hb78);have HOV8:=zh (own_base (own_below HOV.out hb78) hwz)
  have hdis:∀ i (h:i<us.length) k,us[i].ownBlock=some k->(Value.slice va' vm' vc').ownBlock≠some k:=fun i h k hk e=>by
   have hi:i<L.length:=by rw[<- HPO6.out.len];exact h
   have h1:=Own.own_lt' (HPO6.out.votes i hi h) k hk
   have h2:=own_up HOV.out k e
   omega
  have HDIS:=zh hdis
  clear hrw hb78 hdis
  go_wp2_with (at_builtin;go_must (refine wp_append_rows elemProps rfl _ _ rfl (w.heap.size+3) L.length (.slice va L.length vc) (Own.cellsS L us) rfl HPO8.out.row (.slice (some ⟨w7.heap.size,0,none⟩) 1 1) 1 [.int .i64 pid,.string ppa,.string pdi,.int .i64 pop,.int .i64 pex,.slice va' vm' vc'] rfl HRW.out (by intro u hu;simp at hu;rcases hu with rfl | rfl | rfl | rfl | rfl | rfl <;> rfl) (by omega) (by omega) (by rw[World.size_alloc];omega) ?_);intro v9 w9 ho9 hg9 hw9;obtain⟨ya,ym,yc,rfl⟩:=own_slice ho9;have HP9:=zh (Own.SOwn.push (x:=⟨pid,ppa,pdi,pop,pex,pvs⟩) HPO8.out HOV8.out HDIS.out ho9 hg9);have G9:=zh (G8.out.far (Nat.le_refl _) (own_up HPO8.out.row) hg9);have y20:w9.cell? ⟨w.heap.size+1+1,0,none⟩=some (.int .i64 nx):=G9.out.cell 2 0 rfl rfl;have y20f:w9.frozen? ⟨w.heap.size+1+1,0,none⟩=false:=G9.out.free 2 0 rfl;have y21:w9.cell? ⟨w.heap.size+1+1,1,none⟩=some (.slice va L.length vc):=G9.out.cell 2 1 rfl rfl;have y21f:w9.frozen? ⟨w.heap.size+1+1,1,none⟩=false:=G9.out.free 2 1 rfl;clear ho9 hg9 hw9)
  refine Lex.EndsN.intro (by kernel_rfl) ⟨⟨rfl,HXS.out⟩,trivial⟩ ?_
  go_wp2_with fail
  refine⟨⟨k+1,.slice ya ym yc,us++[.slice va' vm' vc'],by omega,by go_num,G9.out.put 2 1 (.slice ya ym yc) rfl,?_⟩,by simp[intOf];omega⟩
  rw[HTK.out,<- HX.out]
  exact HP9.out.keep (fun k hk _=>heap_setCell_other _ _ _ _ (by show k≠w.heap.size+1+1;omega))
end
section
open Go Go.RowKit Go.Maps
theorem own_put {w:World} {base g n cap size:Nat} {e:TypeId} {xs:List Value} (h:w.ownsRow base e size (.slice (some ⟨g,0,none⟩) n cap) n xs) (i:Nat) (hi:i<xs.length) (u:Value):(w.setCell ⟨g,i,none⟩ u).ownsRow base e size (.slice (some ⟨g,0,none⟩) n cap) n (xs.set i u):=by
 obtain⟨ys,h1,h2,h3,h4,h5,h6⟩:=own_cur h
 refine own_of_at (cur:=xs.set i u++ys) ?_ h2 h3 h4 (by simpa using h5) (by rw[List.take_append_of_le_length (by rw[List.length_set,h6];exact Nat.le_refl _),List.take_of_length_le (by rw[List.length_set,h6];exact Nat.le_refl _)])
 have:=h1.set i u
 rwa [List.setIfInBounds_toArray,List.set_append_left _ _ hi] at this
namespace Own
def withV (p:Proposal) (nv:List Vote):Proposal:=⟨p.id,p.path,p.digest,p.opened,p.expires,nv⟩
theorem SOwn.turn {B:Nat} {w w' : World} {v u' : Value} {L:List Proposal} {us:List Value} (h:SOwn B w v L us) {i:Nat} (hi:i<L.length) {nv:List Vote}
 (hrow:w'.ownsRow B 46 6 v L.length (cellsS (L.set i (withV L[i] nv)) (us.set i u'))) (hu:w'.ownsRow B 82 3 u' nv.length (nv.flatMap encV))
 (hother:∀ j (hj:j<L.length) (hj' : j<us.length),j≠i->w'.ownsRow B 82 3 us[j] L[j].votes.length (L[j].votes.flatMap encV))
 (hap:∀ j (hj:j<us.length),j≠i->∀ k,us[j].ownBlock=some k->u'.ownBlock≠some k):SOwn B w' v (L.set i (withV L[i] nv)) (us.set i u'):=by
 refine⟨by simp[h.len],by rw[List.length_set];exact hrow,fun j h1 h2=>?_,?_⟩
 ·rw[List.length_set] at h1 h2
  by_cases hji:j=i
  ·subst hji
   rw[List.getElem_set_self,List.getElem_set_self]
   exact hu
  ·rw[List.getElem_set_ne (fun e=>hji e.symm),List.getElem_set_ne (fun e=>hji e.symm)]
   exact hother j h1 h2 hji
 ·rw[List.pairwise_iff_getElem]
  intro a b ha hb hab k hk
  rw[List.length_set] at ha hb
  by_cases hai:i=a
  ·subst hai
   rw[List.getElem_set_self] at hk
   rw[List.getElem_set_ne (by omega)]
   intro e
   exact hap b hb (by omega) k e hk
  ·rw[List.getElem_set_ne hai] at hk
   by_cases hbi:i=b
   ·subst hbi
    rw[List.getElem_set_self]
    exact hap a ha (by omega) k hk
   ·rw[List.getElem_set_ne hbi]
    exact(List.pairwise_iff_getElem.1 h.apart) a b ha hb hab k hk
theorem zip_set (L:List Proposal):∀ (us:List Value) (i:Nat) (hi:i<L.length) (_:us.length=L.length) (nv:List Vote) (u' : Value),cellsS (L.set i (withV L[i] nv)) (us.set i u')=(cellsS L us).set (i*6+5) u' :=by
 induction L with
 | nil=>intro us i hi;cases hi
 | cons x L ih =>
   intro us i hi hl nv u'
   cases us with
   | nil=>cases hl
   | cons z us =>
     cases i with
     | zero=>rfl
     | succ i =>
       have hi' : i<L.length:=by simpa using hi
       have:=ih us i hi' (by simpa using hl) nv u'
       unfold cellsS at this ⊢
       show encP x z++(List.zipWith encP (L.set i (withV L[i] nv)) (us.set i u')).flatten=(encP x z++(List.zipWith encP L us).flatten).set ((i+1)*6+5) u'
       rw[this,List.set_append_right _ _ (by show 6<=_;omega)]
       congr 2
       show i*6+5=(i+1)*6+5 - 6
       omega
theorem zip_same (L:List Proposal):∀ (us:List Value) (i:Nat) (hi:i<L.length) (hi' : i<us.length) (_:us.length=L.length) (nv:List Vote),cellsS (L.set i (withV L[i] nv)) us=cellsS L us:=by
 induction L with
 | nil=>intro us i hi;cases hi
 | cons x L ih =>
   intro us i hi hi' hl nv
   cases us with
   | nil=>cases hl
   | cons z us =>
     cases i with
     | zero=>rfl
     | succ i =>
       have hi2:i<L.length:=by simpa using hi
       have:=ih us i hi2 (by simpa using hi') (by simpa using hl) nv
       unfold cellsS at this ⊢
       show encP x z++(List.zipWith encP (L.set i (withV L[i] nv)) us).flatten=encP x z++(List.zipWith encP L us).flatten
       rw[this]
theorem zip_get (L:List Proposal):∀ (us:List Value) (i:Nat) (hi:i<L.length) (hi' : i<us.length) (c:Nat) (_:c<6),(cellsS L us)[i*6+c]? = (encP L[i] us[i])[c]? :=by
 induction L with
 | nil=>intro us i hi;cases hi
 | cons x L ih =>
   intro us i hi hi' c hc
   cases us with
   | nil=>cases hi'
   | cons z us =>
     have hl:(encP x z).length=6:=rfl
     cases i with
     | zero =>
       show(encP x z++cellsS L us)[0*6+c]? = _
       rw[Nat.zero_mul,Nat.zero_add,List.getElem?_append_left (by omega)]
       rfl
     | succ i =>
       have:=ih us i (by simpa using hi) (by simpa using hi') c hc
       show(encP x z++cellsS L us)[(i+1)*6+c]? = (encP (L[i]'(by simpa using hi)) (us[i]'(by simpa using hi')))[c]?
       rw[<- this,List.getElem?_append_right (by omega),hl]
       congr 1
       omega
theorem zip_len (L:List Proposal):∀ (us:List Value),us.length=L.length->(cellsS L us).length=L.length*6:=by
 induction L with
 | nil=>intro us _;simp[cellsS]
 | cons x L ih =>
   intro us hl
   cases us with
   | nil=>cases hl
   | cons z us =>
     have:=ih us (by simpa using hl)
     unfold cellsS at this ⊢
     show(encP x z++(List.zipWith encP L us).flatten).length=_
     rw[List.length_append,this]
     show 6+L.length*6=(L.length+1)*6
     omega
theorem setP_set:∀ (L:List Proposal) (i:Nat) (hi:i<L.length) (_:L.Pairwise fun x y=>x.id<y.id) (nv:List Vote),setP L (withV L[i] nv)=L.set i (withV L[i] nv)
 | [],i,hi,_,_=>by cases hi
 | x :: L,0,hi,hp,nv => by
   obtain⟨h1,_⟩:=List.pairwise_cons.1 hp
   have e:setP (x::L) (withV x nv)=withV x nv::L:=by
    unfold setP
    rw[List.map_cons,if_pos (show x.id=(withV x nv).id from rfl)]
    congr 1
    have:∀ y∈L,(if y.id=(withV x nv).id then withV x nv else y)=y:=fun y hy=>if_neg (by have:=h1 y hy;show ¬ y.id=x.id;omega)
    rw[List.map_congr_left this,List.map_id']
   exact e
 | x :: L,i + 1,hi,hp,nv => by
   obtain⟨h1,h2⟩:=List.pairwise_cons.1 hp
   have hi' : i<L.length:=by simpa using hi
   have ih:=setP_set L i hi' h2 nv
   have:=h1 _ (List.getElem_mem hi')
   have e:setP (x::L) (withV L[i] nv)=x::setP L (withV L[i] nv):=by
    unfold setP
    rw[List.map_cons,if_neg (by show ¬ x.id=L[i].id;omega)]
   show setP (x::L) (withV L[i] nv)=x::L.set i (withV L[i] nv)
   rw[e,ih]
end Own
def VotePost (w:World) (R:Own.Queue × Own.Owners × Int) (e:Ending) (w' : World):Prop:=
 (∃ qv sv kv,e=.returned (.tuple #[qv,.agg #[.int .i64 R.2.1.count,sv,kv],.int .i64 R.2.2])/\Own.QueueC w' qv R.1/\Own.SpacesC w' sv R.2.1.spaces/\Own.KeysC w' kv R.2.1.keys)/\Below w.heap.size w w'
namespace Own
theorem queue_prop {q:Queue} (h:queueOK q=true) {p:Proposal} (hp:p∈q.props):proposalOK p=true/\p.id<q.next/\q.next<=1099511627776:=by
 unfold queueOK late at h
 simp only[Bool.and_eq_true,decide_eq_true_eq] at h
 have:=chainOK_mem h.2 p hp
 simp only[Bool.and_eq_true,decide_eq_true_eq] at this
 exact⟨this.1,this.2,h.1.1.2⟩
structure POK (p:Proposal):Prop where
 id0:0<=p.id
 path:p.path.size<=64
 dig:p.digest.size=32
 len:p.votes.length<=1024
 srt:Srt Vote.name p.votes
theorem POK.of {p:Proposal} (h:proposalOK p=true):POK p:=by
 unfold proposalOK Sig.digest at h
 simp only[Bool.and_eq_true,decide_eq_true_eq] at h
 obtain⟨⟨⟨⟨⟨h1,h2⟩,h3⟩,_⟩,h5⟩,h6⟩:=h
 refine⟨h1,?_,h3,h5,(srt_of_chain (f:=Vote.name) h6).1⟩
 unfold pathOK at h2
 simp only[Bool.and_eq_true,decide_eq_true_eq] at h2
 exact h2.1.2
end Own
namespace Own
theorem hit_lt {α : Type} {f : α -> ByteArray} {t:ByteArray} {l:List α} (h:hitB f t l=true):posB f t l<l.length:=by
 unfold hitB at h
 cases hq:l[posB f t l]? with
 | none=>rw[hq] at h;cases h
 | some y=>exact(List.getElem?_eq_some_iff.1 hq).1
theorem vflat_get:∀ (V:List Vote) (i:Nat) (hi:i<V.length) (c:Nat) (_:c<3),(V.flatMap encV)[i*3+c]? = (encV V[i])[c]?
 | [],i,hi,_,_=>by cases hi
 | x :: V,0,_,c,hc => by
   rw[List.flatMap_cons,Nat.zero_mul,Nat.zero_add,List.getElem?_append_left (by show c<3;exact hc)]
   rfl
 | x :: V,i + 1,hi,c,hc => by
   rw[List.flatMap_cons,List.getElem?_append_right (by show 3<=_;omega)]
   have:=vflat_get V i (by simpa using hi) c hc
   show(V.flatMap encV)[(i+1)*3+c - 3]? = _
   rw[show(i+1)*3+c - 3=i*3+c by omega,this]
   rfl
theorem vflat_len (V:List Vote):(V.flatMap encV).length=V.length*3:=by
 induction V with
 | nil=>rfl
 | cons x V ih=>rw[List.flatMap_cons,List.length_append,ih,List.length_cons];show 3+_=_;omega
theorem vflat_set:∀ (V:List Vote) (i:Nat) (_:i<V.length) (x:Vote),(V.set i x).flatMap encV=(((V.flatMap encV).set (i*3) (.string x.name)).set (i*3+1) (.string x.pub)).set (i*3+2) (.bool x.agrees)
 | [],i,hi,_=>by cases hi
 | y::V,0,_,x=>rfl
 | y :: V,i + 1,hi,x => by
   have ih:=vflat_set V i (by simpa using hi) x
   show(y::V.set i x).flatMap encV=_
   have hl:(encV y).length=3:=rfl
   rw[List.flatMap_cons,List.flatMap_cons,ih,List.set_append_right _ _ (by omega),List.set_append_right _ _ (by omega),List.set_append_right _ _ (by omega),hl,show(i+1)*3 - 3=i*3 by omega,show(i+1)*3+1 - 3=i*3+1 by omega,show(i+1)*3+2 - 3=i*3+2 by omega]
end Own
namespace Own
theorem SOwn.ne {B:Nat} {w:World} {v:Value} {L:List Proposal} {us:List Value} (h:SOwn B w v L us) {i j:Nat} (hi:i<us.length) (hj:j<us.length) (hij:i≠j):∀ k,us[i].ownBlock=some k->us[j].ownBlock≠some k:=by
 intro k hk
 rcases Nat.lt_or_ge i j with hlt | hge
 ·exact(List.pairwise_iff_getElem.1 h.apart) i j hi hj hlt k hk
 ·intro hk2
  exact(List.pairwise_iff_getElem.1 h.apart) j i hj hi (by omega) k hk2 hk
theorem vflat_ins (V:List Vote) (i:Nat) (x:Vote):(V.flatMap encV).take (i*3)++(encV x++(V.flatMap encV).drop (i*3))=(V.take i++x::V.drop i).flatMap encV:=by
 have h:∀ (V:List Vote) (i:Nat),(V.flatMap encV).take (i*3)=(V.take i).flatMap encV/\(V.flatMap encV).drop (i*3)=(V.drop i).flatMap encV:=by
  intro V
  induction V with
  | nil=>intro i;simp
  | cons y V ih =>
    intro i
    cases i with
    | zero=>simp
    | succ i =>
      obtain⟨h1,h2⟩:=ih i
      have hl:(encV y).length=3:=rfl
      rw[List.flatMap_cons,List.take_append,List.drop_append,hl,show(i+1)*3 - 3=i*3 by omega,h1,h2,List.take_of_length_le (by omega),List.drop_of_length_le (by omega)]
      exact⟨rfl,rfl⟩
 rw[(h V i).1,(h V i).2,List.flatMap_append,List.flatMap_cons]
theorem SOwn.same {B:Nat} {w w' : World} {g cap ub uc:Nat} {L:List Proposal} {us:List Value} {j:Nat} {V nv:List Vote} (h:SOwn B w (.slice (some ⟨g,0,none⟩) L.length cap) L us) (hj:j<L.length) (hju:j<us.length) (hue:us[j]=.slice (some ⟨ub,0,none⟩) V.length uc)
 (hu:w'.ownsRow B 82 3 (.slice (some ⟨ub,0,none⟩) V.length uc) nv.length (nv.flatMap encV)) (hw:w.ownsRow B 82 3 (.slice (some ⟨ub,0,none⟩) V.length uc) V.length (V.flatMap encV)) (hk:∀ k,k≠ub->w'.heap[k]? = w.heap[k]?):SOwn B w' (.slice (some ⟨g,0,none⟩) L.length cap) (L.set j (withV L[j] nv)) us:=by
 have hgu:g≠ub:=fun e=>own_dis h.row hw (by decide) g rfl (by rw[e];rfl)
 have e:us.set j (.slice (some ⟨ub,0,none⟩) V.length uc)=us:=by rw[<- hue];exact List.set_getElem_self hju
 have ht:=SOwn.turn (u' :=.slice (some ⟨ub,0,none⟩) V.length uc) (nv:=nv) h hj (w' :=w') ?_ hu (fun i hi hi' hij=>own_keep (h.votes i hi hi') (fun k hkk=>hk k (fun e2=>h.ne hi' hju hij k hkk (by rw[hue,e2];rfl)))) (fun i hi hij k hkk=>by
  have:=h.ne hi hju hij k hkk
  rwa [hue] at this)
 ·rwa [e] at ht
 ·rw[e,zip_same L us j hj hju h.len nv]
  exact own_keep h.row (fun k hkk=>hk k (by cases hkk;exact hgu))
end Own
end
section
open Go Go.RowKit Go.Maps
theorem rvVote_any (q:Own.Queue) (o:Own.Owners) (id:Int) (ag:Bool) (ap:Own.Approval) (qv sv kv cv pv:Value) (w:World) (hMx:MaxL w) (hP:Own.PropsC w qv q.props) (hS:Own.SpacesC w sv o.spaces) (hK:Own.KeysC w kv o.keys) (hcs:StrsC w cv ap.sig.chains) (hps:StrsC w pv ap.sig.path) (hcap:CapOK pv)
 (hlp:q.props.length<=1000000) (hlv:∀ x∈q.props,x.votes.length<=3000000) (hls:o.spaces.length<=3000000) (hlk:o.keys.length<=800000) (hlm:∀ x∈o.spaces,x.members.length<=3000000)
 (hal:ap.name.size<=140737488355328/\ap.sig.chains.length<=140737488355328/\ap.sig.path.length<=140737488355328):
 Calls Tryz.prog 25 #[.agg #[.int .i64 q.next,qv],.agg #[.int .i64 o.count,sv,kv],.int .i64 id,.bool ag,.agg #[.string ap.name,.int .i64 ap.sig.index,cv,pv]] w (VotePost w (Own.vote q o id ag ap)):=by
 obtain⟨R,hR⟩:∃ R,R=Own.vote q o id ag ap:=⟨_,rfl⟩
 obtain⟨Q,hQ⟩:∃ Q,Q=VotePost w R:=⟨_,rfl⟩
 rw[<- hR,<- hQ]
 have HQ:=zh hQ;clear hQ
 unfold Own.vote Own.findP at hR
 obtain⟨qa,qc,rfl⟩:=hP.len
 obtain⟨sa,sc,rfl⟩:=hS.len
 obtain⟨ka,kc,rfl⟩:=hK.len
 obtain⟨ca,cc,rfl⟩:=hcs.len
 obtain⟨pa,pc,rfl⟩:=hps.len
 have hvq:=fun W (hW:Below w.heap.size w W)=>rvValid_any q (.slice qa q.props.length qc) W (hMx.below hW) (hP.below hW) (by omega) (fun p hp=>by have:=hlv p hp;omega)
 have hvo:=fun W (hW:Below w.heap.size w W)=>owValid_any o (.slice sa o.spaces.length sc) (.slice ka o.keys.length kc) W (hMx.below hW) (hS.below hW) (hK.below hW) (by omega) (by omega) (fun x hx=>by have:=hlm x hx;omega)
 have hau:=fun(s:ByteArray) W (hW:Below w.heap.size w W)=>owAuthorityX_any o s (.slice sa o.spaces.length sc) (.slice ka o.keys.length kc) W (hMx.below hW) (hS.below hW) (hK.below hW) (by omega) (by omega) (fun x hx=>by have:=hlm x hx;omega)
 have hus:=fun(X:Nat->Prop) (s:Own.Space) (path msg:ByteArray) (ma:Option Addr) (mc:Nat) W (hW:Below w.heap.size w W) (hXw:∀ k,X k->w.heap.size<=k) (hX:∀ k,X k->k<W.heap.size) hm hmc hauth hmsg=>rvUsed_any X o s path msg ap (.slice sa o.spaces.length sc) (.slice ka o.keys.length kc) (.slice ca ap.sig.chains.length cc) (.slice pa ap.sig.path.length pc) ma mc W hX (hMx.below hW) ((hS.mono (G:=fun k=>¬ X k) (fun k _ hk h=>by have:=hXw k h;omega)).below hW) (hK.below hW) hm hmc (hcs.below hW) (hps.below hW) hcap hauth hlk hmsg hal
 have hqp:=fun(h:Own.queueOK q=true) (p:Own.Proposal) (hp:p∈q.props)=>Own.queue_prop h hp
 have hids:Own.queueOK q=true->q.props.Pairwise fun x y=>x.id<y.id:=fun h=>Own.queue_ids h
 obtain⟨QB,hQB⟩:∃ b,b=Own.queueOK q:=⟨_,rfl⟩
 obtain⟨OB,hOB⟩:∃ b,b=Own.ownersOK o:=⟨_,rfl⟩
 simp only[<- hQB,<- hOB] at hvq hvo hR hqp hids
 obtain⟨nx,L⟩:=q
 dsimp only at*
 obtain⟨AU,hAU⟩:∃ AU,AU=Own.authority o:=⟨_,rfl⟩
 obtain⟨UR,hUR⟩:∃ UR:Own.Space->ByteArray->Except Int (Own.Member × List Own.KeyUse),UR=fun s m=>Own.usedR o s m ap:=⟨_,rfl⟩
 have hur:∀ s m,Own.usedR o s m ap=UR s m:=fun s m=>by rw[hUR]
 have herr:∀ s m c,UR s m=.error c->(c==0)=false:=fun s m c h=>by
  rw[<- hur] at h
  unfold Own.usedR at h
  split at h
  ·cases h;rfl
  ·split at h
   ·split at h
    ·cases h;rfl
    ·cases h
   ·cases h;rfl
 have HERR:=zh herr;clear herr
 have hR2:R=if (QB&&OB)=false then (Own.Queue.none,Own.Owners.none,1) else match L.find? (fun p=>decide (p.id=id)) with
  | none=>(Own.Queue.none,Own.Owners.none,6)
  | some p => match AU p.path with
    | none=>(Own.Queue.none,Own.Owners.none,6)
    | some s => match UR s (Own.messageOf p ag) with
      | .error c=>(Own.Queue.none,Own.Owners.none,c)
      | .ok (m,K)=>if 1024<(Own.putVote p.votes ⟨ap.name,m.pub,ag⟩).length then (Own.Queue.none,Own.Owners.none,7) else (⟨nx,Own.setP L (Own.withV p (Own.putVote p.votes ⟨ap.name,m.pub,ag⟩))⟩,{ o with keys:=K },0):=by
  rw[hR,hAU]
  split
  ·rfl
  ·cases L.find? (fun p=>decide (p.id=id)) with
   | none=>rfl
   | some p =>
     dsimp only
     cases Own.authority o p.path with
     | none=>rfl
     | some s =>
       dsimp only
       rw[<- hur]
       unfold Own.usedR
       cases Own.find s.members ap.name with
       | none=>rfl
       | some m =>
         dsimp only
         cases hv:Sig.verify m.pub (Own.messageOf p ag) ap.sig with
         | false=>rfl
         | true =>
           by_cases hi:ap.sig.index<Own.nextOf o.keys m.pub
           ·simp[hi]
           ·simp only[Bool.true_eq_false,hi,if_false,if_true]
            rfl
 simp only[<- hAU,hur] at hau hus
 have HVQ:=zh hvq;have HVO:=zh hvo;have HAUC:=zh hau;have HUS:=zh hus;have HQP:=zh hqp;have HIDS:=zh hids;have HR:=zh hR2;have HP:=zh hP;have HLV:=zh hlv;have HMX:=zh hMx;have HAU:=zh hAU
 have HSS:=zh hS;have HKK:=zh hK
 clear hvq hvo hau hus hqp hids hR hR2 hS hK hlm hQB hOB hAU hUR hur hP hlv hMx hcs hps hcap
 obtain⟨nm,⟨ix,chs,pth⟩⟩:=ap
 obtain⟨cnt,S,K⟩:=o
 dsimp only at*
 have F1:=zh (show Boxes w (((((w.alloc (.cells #[.int .i64 nx,.slice qa L.length qc] 24)).alloc (.cells #[.int .i64 cnt,.slice sa S.length sc,.slice ka K.length kc] 38)).alloc (.cells #[.string nm,.int .i64 ix,.slice ca chs.length cc,.slice pa pth.length pc] 43)).alloc (.cells #[.int .i64 0,.slice none 0 0] 24)).alloc (.cells #[.int .i64 0,.slice none 0 0,.slice none 0 0] 38)) [(24,#[.int .i64 nx,.slice qa L.length qc]),(38,#[.int .i64 cnt,.slice sa S.length sc,.slice ka K.length kc]),(43,#[.string nm,.int .i64 ix,.slice ca chs.length cc,.slice pa pth.length pc]),(24,#[.int .i64 0,.slice none 0 0]),(38,#[.int .i64 0,.slice none 0 0,.slice none 0 0])] from((((((Fresh.nil w).push 24 #[.int .i64 nx,.slice qa L.length qc]).push 38 #[.int .i64 cnt,.slice sa S.length sc,.slice ka K.length kc]).push 43 #[.string nm,.int .i64 ix,.slice ca chs.length cc,.slice pa pth.length pc]).push 24 #[.int .i64 0,.slice none 0 0]).push 38 #[.int .i64 0,.slice none 0 0,.slice none 0 0]).boxes)
 have x00:(((((w.alloc (.cells #[.int .i64 nx,.slice qa L.length qc] 24)).alloc (.cells #[.int .i64 cnt,.slice sa S.length sc,.slice ka K.length kc] 38)).alloc (.cells #[.string nm,.int .i64 ix,.slice ca chs.length cc,.slice pa pth.length pc] 43)).alloc (.cells #[.int .i64 0,.slice none 0 0] 24)).alloc (.cells #[.int .i64 0,.slice none 0 0,.slice none 0 0] 38)).cell? ⟨w.heap.size,0,none⟩=some (.int .i64 nx):=F1.out.cell 0 0 rfl rfl
 have x01:(((((w.alloc (.cells #[.int .i64 nx,.slice qa L.length qc] 24)).alloc (.cells #[.int .i64 cnt,.slice sa S.length sc,.slice ka K.length kc] 38)).alloc (.cells #[.string nm,.int .i64 ix,.slice ca chs.length cc,.slice pa pth.length pc] 43)).alloc (.cells #[.int .i64 0,.slice none 0 0] 24)).alloc (.cells #[.int .i64 0,.slice none 0 0,.slice none 0 0] 38)).cell? ⟨w.heap.size,1,none⟩=some (.slice qa L.length qc):=F1.out.cell 0 1 rfl rfl
 go_enter Tryz.func25,Tryz.ntmps25
 go_wp2_with fail
 generalize (((((w.alloc (.cells #[.int .i64 nx,.slice qa L.length qc] 24)).alloc (.cells #[.int .i64 cnt,.slice sa S.length sc,.slice ka K.length kc] 38)).alloc (.cells #[.string nm,.int .i64 ix,.slice ca chs.length cc,.slice pa pth.length pc] 43)).alloc (.cells #[.int .i64 0,.slice none 0 0] 24)).alloc (.cells #[.int .i64 0,.slice none 0 0,.slice none 0 0] 38))=w1 at*
 refine(HVQ.out w1 F1.out.under).mono ?_
 rintro e w2 ⟨rfl,hb2⟩
 have F2:=zh (F1.out.step hb2)
 (try clear x00);(try clear x01);(try clear x10);(try clear x11);(try clear x12);(try clear x20);(try clear x21);(try clear x22);(try clear x23);(try clear x30f);(try clear x30);(try clear x31f);(try clear x31);(try clear x40f);(try clear x40);(try clear x41f);(try clear x41);(try clear x42f);(try clear x42)
 clear hb2
 cases QB with
 | false =>
   have HE:=zh (show R=(Own.Queue.none,Own.Owners.none,1) by rw[HR.out];rfl)
   obtain⟨x30,x31,x30f,x31f⟩:=F2.out.e3_2 rfl
   obtain⟨x40,x41,x42,x40f,x41f,x42f⟩:=F2.out.e4_3 rfl
   go_wp2_with fail
   have g1:=F2.out.put 3 0 (.int .i64 0) rfl
   have g2:=g1.put 3 1 (.slice none 0 0) rfl
   have g3:=g2.put 4 0 (.int .i64 0) rfl
   have g4:=g3.put 4 1 (.slice none 0 0) rfl
   have G2:=g4.put 4 2 (.slice none 0 0) rfl
   clear g1 g2 g3 g4
   refine done_cct rfl rfl rfl rfl (load_row (G2.at1 3 rfl) Tryz.underlying24 rfl info_Queue) (load_row (G2.at1 4 rfl) Tryz.underlying38 rfl info_Owners) ?_
   rw[HQ.out,HE.out]
   exact⟨⟨_,_,_,rfl,⟨_,rfl,ListF.nil _ _⟩,ListF.nil _ _,ListF.nil _ _⟩,G2.under⟩
 | true=>
 obtain⟨x10,x11,x12⟩:=F2.out.d1_3 rfl
 go_wp2_with fail
 refine(HVO.out w2 F2.out.under).mono ?_
 rintro e w3 ⟨rfl,hb3⟩
 have F3:=zh (F2.out.step hb3)
 (try clear x00);(try clear x01);(try clear x10);(try clear x11);(try clear x12);(try clear x20);(try clear x21);(try clear x22);(try clear x23);(try clear x30f);(try clear x30);(try clear x31f);(try clear x31);(try clear x40f);(try clear x40);(try clear x41f);(try clear x41);(try clear x42f);(try clear x42)
 clear hb3
 cases OB with
 | false =>
   have HE:=zh (show R=(Own.Queue.none,Own.Owners.none,1) by rw[HR.out];rfl)
   obtain⟨x30,x31,x30f,x31f⟩:=F3.out.e3_2 rfl
   obtain⟨x40,x41,x42,x40f,x41f,x42f⟩:=F3.out.e4_3 rfl
   go_wp2_with fail
   have g1:=F3.out.put 3 0 (.int .i64 0) rfl
   have g2:=g1.put 3 1 (.slice none 0 0) rfl
   have g3:=g2.put 4 0 (.int .i64 0) rfl
   have g4:=g3.put 4 1 (.slice none 0 0) rfl
   have G2:=g4.put 4 2 (.slice none 0 0) rfl
   clear g1 g2 g3 g4
   refine done_cct rfl rfl rfl rfl (load_row (G2.at1 3 rfl) Tryz.underlying24 rfl info_Queue) (load_row (G2.at1 4 rfl) Tryz.underlying38 rfl info_Owners) ?_
   rw[HQ.out,HE.out]
   exact⟨⟨_,_,_,rfl,⟨_,rfl,ListF.nil _ _⟩,ListF.nil _ _,ListF.nil _ _⟩,G2.under⟩
 | true=>
 have hr:=HR.out
 rw[if_neg (show ¬ (true&&true)=false by decide)] at hr
 obtain⟨x00,x01⟩:=F3.out.d0_2 rfl
 have HR1:=zh hr;clear hr HR
 go_wp2_with fail
 refine(rvFind_any nx id (.slice qa L.length qc) L w3 (HP.out.below F3.out.under) (by omega)).mono ?_
 rintro e w4 ⟨⟨i,rfl,hi⟩,hb4⟩
 have F4:=zh (F3.out.step hb4)
 (try clear x00);(try clear x01);(try clear x10);(try clear x11);(try clear x12);(try clear x20);(try clear x21);(try clear x22);(try clear x23);(try clear x30f);(try clear x30);(try clear x31f);(try clear x31);(try clear x40f);(try clear x40);(try clear x41f);(try clear x41);(try clear x42f);(try clear x42)
 clear hb4
 rcases hi with ⟨rfl,hf,_⟩ | ⟨j,hj,rfl,hf,hpj,_⟩
 ·have HE:=zh (show R=(Own.Queue.none,Own.Owners.none,6) by rw[HR1.out,hf])
  clear hf
  obtain⟨x30,x31,x30f,x31f⟩:=F4.out.e3_2 rfl
  obtain⟨x40,x41,x42,x40f,x41f,x42f⟩:=F4.out.e4_3 rfl
  go_wp2_with fail
  have g1:=F4.out.put 3 0 (.int .i64 0) rfl
  have g2:=g1.put 3 1 (.slice none 0 0) rfl
  have g3:=g2.put 4 0 (.int .i64 0) rfl
  have g4:=g3.put 4 1 (.slice none 0 0) rfl
  have G2:=g4.put 4 2 (.slice none 0 0) rfl
  clear g1 g2 g3 g4
  refine done_cct rfl rfl rfl rfl (load_row (G2.at1 3 rfl) Tryz.underlying24 rfl info_Queue) (load_row (G2.at1 4 rfl) Tryz.underlying38 rfl info_Owners) ?_
  rw[HQ.out,HE.out]
  exact⟨⟨_,_,_,rfl,⟨_,rfl,ListF.nil _ _⟩,ListF.nil _ _,ListF.nil _ _⟩,G2.under⟩
 have dj:decide ((j:Int)<0)=false:=decide_eq_false (by omega)
 have hr:=HR1.out
 rw[hf] at hr
 have HR2:=zh hr
 obtain⟨x00,x01⟩:=F4.out.d0_2 rfl
 clear hr hf hpj HR1
 go_wp2_with fail
 refine(rvKeptS_any nx (.slice qa L.length qc) L w4 (HP.out.below F4.out.under) hlp HLV.out).mono ?_
 rintro e w5 ⟨⟨v5,us,rfl,hso⟩,hb5⟩
 obtain⟨g,cap,rfl,_⟩:=own_cell hso.row (by omega)
 have O6:=zh (show Boxes w5 (w5.alloc (.cells #[.int .i64 nx,.slice (some ⟨g,0,none⟩) L.length cap] 24)) [(24,#[.int .i64 nx,.slice (some ⟨g,0,none⟩) L.length cap])] from((Fresh.nil w5).push 24 #[.int .i64 nx,.slice (some ⟨g,0,none⟩) L.length cap]).boxes)
 have F6:=zh (F4.out.step (hb5.trans (O6.out.under.mono hb5.size)));have SO6:=zh (hso.below O6.out.under);have hso5:=hso
 have hz5:w.heap.size+5<=w4.heap.size:=F4.out.size
 have hz45:=hb5.size
 (try clear x00);(try clear x01);(try clear x10);(try clear x11);(try clear x12);(try clear x20);(try clear x21);(try clear x22);(try clear x23);(try clear x30f);(try clear x30);(try clear x31f);(try clear x31);(try clear x40f);(try clear x40);(try clear x41f);(try clear x41);(try clear x42f);(try clear x42)
 clear hb5 hso
 go_upto_region 7 with fail
 generalize (w5.alloc (.cells #[.int .i64 nx,.slice (some ⟨g,0,none⟩) L.length cap] 24))=w6 at*
 have hju:j<us.length:=by rw[SO6.out.len];exact hj
 have hcc:∀ i x,(Own.cellsS L us)[i]? = some x->w6.cell? ⟨g,i,none⟩=some x:=by
  obtain⟨g',cap',e,h⟩:=own_cell SO6.out.row (by omega)
  cases e
  exact h
 have hvj:=SO6.out.votes j hj hju
 have hvj5:=hso5.votes j hj (by rw[hso5.len];exact hj)
 obtain⟨ua,um,uc,hue⟩:=own_slice hvj
 rw[hue] at hvj hvj5
 obtain rfl:=own_len hvj
 have hgl:g<w6.heap.size:=Own.own_lt' SO6.out.row g rfl
 have hgu:w4.heap.size+3<=g:=own_up SO6.out.row g rfl
 obtain⟨hpk,hpid,hnx⟩:=HQP.out (by first | rfl | trivial) L[j] (List.getElem_mem hj)
 have hpok:=Own.POK.of hpk
 have c0:=hcc (j*6) _ (Own.zip_get L us j hj hju 0 (by omega))
 have c1:=hcc (j*6+1) _ (Own.zip_get L us j hj hju 1 (by omega))
 have c2:=hcc (j*6+2) _ (Own.zip_get L us j hj hju 2 (by omega))
 have c3:=hcc (j*6+3) _ (Own.zip_get L us j hj hju 3 (by omega))
 have c4:=hcc (j*6+4) _ (Own.zip_get L us j hj hju 4 (by omega))
 have c5:=hcc (j*6+5) _ (Own.zip_get L us j hj hju 5 (by omega))
 rw[hue] at c5
 obtain⟨x,hx⟩:∃ x,x=L[j]:=⟨_,rfl⟩
 have hr:=HR2.out
 rw[<- hx] at c0 c1 c2 c3 c4 c5 hvj hvj5 hpok hpid hr
 obtain⟨pid,ppa,pdi,pop,pex,V⟩:=x
 dsimp only at c0 c1 c2 c3 c4 c5 hvj hvj5 hpok hpid hr
 have HX:=zh hx;have HUE:=zh hue;have HVJ:=zh hvj;have HVJ5:=zh hvj5;have HG5:=zh hso5.row;have HPOK:=zh hpok;have HR3:=zh hr
 obtain⟨x10,x11,x12⟩:=F6.out.d1_3 rfl
 have hz6:w5.heap.size+1<=w6.heap.size:=O6.out.size
 clear hx hue hvj hvj5 hso5 hr HR2 hcc hpk
 have z01:w6.cell? ⟨w5.heap.size,1,none⟩=some (.slice (some ⟨g,0,none⟩) L.length cap):=O6.out.cell 0 1 rfl rfl
 go_upto_region 8 with fail
 clear z01
 have hau6:=fun W (hW:Below w6.heap.size w6 W)=>HAUC.out ppa W (F6.out.under.trans (hW.mono F6.out.under.size))
 have hr4:=HR3.out
 cases hA:AU ppa with
 | none =>
   rw[hA] at hr4
   simp only[hA] at hau6
   have HE:=zh hr4;have HA6:=zh hau6
   clear hr4 hau6 hA HR3
   refine Lex.wp_region_hav (fun _=>False) [] [9] 11 [.pure 5,.call,.pure 3,.new] [1] (by kernel_rfl) (by kernel_rfl) (by kernel_rfl) ?_
   simp only[Lex.wpHav,Lex.wpCuts,List.take_succ_cons,List.take_zero,List.drop_succ_cons,List.drop_zero]
   have BD6:=zh (show Below w6.heap.size w6 w6.drew from(Below.refl _ _).drew)
   have ZD6:=zh (show w6.drew.heap.size=w6.heap.size by rw[drew_heap])
   go_wp2_with fail
   refine Lex.PEnd.intro ?_
   intro w6a hga
   have HBa:=zh (BD6.out.trans (hga.mono BD6.out.size))
   clear hga
   (try clear x00);(try clear x01);(try clear x10);(try clear x11);(try clear x12);(try clear x20);(try clear x21);(try clear x22);(try clear x23);(try clear x30f);(try clear x30);(try clear x31f);(try clear x31);(try clear x40f);(try clear x40);(try clear x41f);(try clear x41);(try clear x42f);(try clear x42)
   clear c0 c1 c2 c3 c4 c5
   go_wp2_with fail
   refine(HA6.out w6a HBa.out).mono ?_
   rintro e w7 ⟨rfl,hb7⟩
   have HB7:=zh (HBa.out.trans (hb7.mono HBa.out.size));have BB7:=zh hb7
   clear hb7
   go_wp2_with fail
   refine Lex.CEnd.intro (fun k hk _=>hk.elim) (Lex.Kept.of_below BB7.out) ?_
   go_wp2_with fail
   refine Lex.PEnd.intro ?_
   intro w7a hw7a
   go_wp2_with fail
   refine Lex.NEnd.intro (fun w7b hg hk _=>?_)
   have hs7:=hk.at_
   obtain⟨SB,hSB⟩:∃ SB,SB=w7a.heap.size:=⟨_,rfl⟩
   have hsb:w6.heap.size<=SB:=by rw[hSB,<- ZD6.out];exact hw7a
   rw[<- hSB] at hs7 ⊢
   have hb7:=HB7.out.trans (hg.mono HB7.out.size)
   have s0:=hs7.cell 0;have s1:=hs7.cell 1;have s2:=hs7.cell 2;have s3:=hs7.free 0;have s4:=hs7.free 1;have s5:=hs7.free 2
   simp only[List.getElem?_toArray,List.getElem?_cons_zero,List.getElem?_cons_succ] at s0 s1 s2
   have F8:=zh (F6.out.step (((hb7.setCell (p:=⟨SB,0,none⟩) hsb (.string ⟨#[]⟩)).setCell (p:=⟨SB,1,none⟩) hsb (.slice none 0 0)).setCell (p:=⟨SB,2,none⟩) hsb (.int .i64 0)))
   clear hg hk hb7 hs7 hSB hw7a
   go_wp2_with fail
   refine Lex.Mid.intro (fun k hk _=>hk.elim) ?_
   go_wp2_with fail
   refine Lex.EndsN.intro (by kernel_rfl) trivial ?_
   clear s0 s1 s2 s3 s4 s5
   generalize ((w7b.setCell ⟨SB,0,none⟩ (.string ⟨#[]⟩)).setCell ⟨SB,1,none⟩ (.slice none 0 0)).setCell ⟨SB,2,none⟩ (.int .i64 0)=w8 at*
   obtain⟨x30,x31,x30f,x31f⟩:=F8.out.e3_2 rfl
   obtain⟨x40,x41,x42,x40f,x41f,x42f⟩:=F8.out.e4_3 rfl
   go_wp2_with fail
   have g1:=F8.out.put 3 0 (.int .i64 0) rfl
   have g2:=g1.put 3 1 (.slice none 0 0) rfl
   have g3:=g2.put 4 0 (.int .i64 0) rfl
   have g4:=g3.put 4 1 (.slice none 0 0) rfl
   have G2:=g4.put 4 2 (.slice none 0 0) rfl
   clear g1 g2 g3 g4
   refine done_cct rfl rfl rfl rfl (load_row (G2.at1 3 rfl) Tryz.underlying24 rfl info_Queue) (load_row (G2.at1 4 rfl) Tryz.underlying38 rfl info_Owners) ?_
   rw[HQ.out,HE.out]
   exact⟨⟨_,_,_,rfl,⟨_,rfl,ListF.nil _ _⟩,ListF.nil _ _,ListF.nil _ _⟩,G2.under⟩
 | some sp =>
   rw[hA] at hr4
   simp only[hA] at hau6
   have HR5:=zh hr4;have HA6:=zh hau6;have HSA:=zh hA
   obtain⟨spre,M,th⟩:=sp
   dsimp only at HA6 HR5
   clear hr4 hau6 hA HR3
   refine Lex.wp_region_hav (fun _=>False) [] [9] 11 [.pure 5,.call,.pure 3,.new] [1] (by kernel_rfl) (by kernel_rfl) (by kernel_rfl) ?_
   simp only[Lex.wpHav,Lex.wpCuts,List.take_succ_cons,List.take_zero,List.drop_succ_cons,List.drop_zero]
   have BD6:=zh (show Below w6.heap.size w6 w6.drew from(Below.refl _ _).drew)
   have ZD6:=zh (show w6.drew.heap.size=w6.heap.size by rw[drew_heap])
   go_wp2_with fail
   refine Lex.PEnd.intro ?_
   intro w6a hga
   have HBa:=zh (BD6.out.trans (hga.mono BD6.out.size))
   clear hga
   (try clear x00);(try clear x01);(try clear x10);(try clear x11);(try clear x12);(try clear x20);(try clear x21);(try clear x22);(try clear x23);(try clear x30f);(try clear x30);(try clear x31f);(try clear x31);(try clear x40f);(try clear x40);(try clear x41f);(try clear x41);(try clear x42f);(try clear x42)
   go_wp2_with fail
   refine(HA6.out w6a HBa.out).mono ?_
   rintro e w7 ⟨⟨mv,rfl,hov⟩,hb7⟩
   dsimp only at hov
   obtain⟨ma,mm,mc,rfl⟩:=own_slice hov
   obtain rfl:=own_len hov
   have hov:=own_base hov HBa.out.size
   have HB7:=zh (HBa.out.trans (hb7.mono HBa.out.size));have BB7:=zh hb7
   have hmc:M.length<=mc:=by
    obtain⟨_,⟨h0,hn⟩ | ⟨_,_,_,h0,_,_,h1,_⟩⟩:=hov
    ·injection h0 with _ q1 q2
     omega
    ·injection h0 with _ q1 q2
     omega
   have HOV:=zh hov
   clear hb7 hov
   go_wp2_with fail
   refine Lex.CEnd.intro (fun k hk _=>hk.elim) (Lex.Kept.of_below BB7.out) ?_
   go_wp2_with fail
   refine Lex.PEnd.intro ?_
   intro w7a hw7a
   go_wp2_with fail
   refine Lex.NEnd.intro (fun w7b hg hk ho=>?_)
   have hs7:=hk.at_
   obtain⟨SB,hSB⟩:∃ SB,SB=w7a.heap.size:=⟨_,rfl⟩
   have hsb:w6.heap.size<=SB:=by rw[hSB,<- ZD6.out];exact hw7a
   rw[<- hSB] at hs7 ⊢
   have hb7:=HB7.out.trans (hg.mono HB7.out.size)
   have hov7:=own_below HOV.out hg
   have hne:=hs7.own_ne hov7 (by decide)
   have s0:=hs7.cell 0;have s1:=hs7.cell 1;have s2:=hs7.cell 2;have s3:=hs7.free 0;have s4:=hs7.free 1;have s5:=hs7.free 2
   simp only[List.getElem?_toArray,List.getElem?_cons_zero,List.getElem?_cons_succ] at s0 s1 s2
   have hb8:=(((hb7.setCell (p:=⟨SB,0,none⟩) hsb (.string spre)).setCell (p:=⟨SB,1,none⟩) hsb (.slice ma M.length mc)).setCell (p:=⟨SB,2,none⟩) hsb (.int .i64 th))
   have hs8:At (((w7b.setCell ⟨SB,0,none⟩ (.string spre)).setCell ⟨SB,1,none⟩ (.slice ma M.length mc)).setCell ⟨SB,2,none⟩ (.int .i64 th)) SB 70 #[.string spre,.slice ma M.length mc,.int .i64 th]:=((hs7.set 0 (.string spre)).set 1 (.slice ma M.length mc)).set 2 (.int .i64 th)
   have hm8:ListF 2 Own.RMember (fun k=>w6.heap.size<=k/\k≠SB/\k<(((w7b.setCell ⟨SB,0,none⟩ (.string spre)).setCell ⟨SB,1,none⟩ (.slice ma M.length mc)).setCell ⟨SB,2,none⟩ (.int .i64 th)).heap.size) (((w7b.setCell ⟨SB,0,none⟩ (.string spre)).setCell ⟨SB,1,none⟩ (.slice ma M.length mc)).setCell ⟨SB,2,none⟩ (.int .i64 th)) (.slice ma M.length mc) M:=
    rows_flat (enc:=Own.encM) (fun _=>rfl) (fun _=>rfl) (RowsC.own (own_keep hov7 (fun k hk=>by
     have h2:k≠SB:=fun e=>hne (by rw[hk,e])
     rw[heap_setCell_other _ _ _ _ h2,heap_setCell_other _ _ _ _ h2,heap_setCell_other _ _ _ _ h2]))) rfl (fun k hk=>by
     have h1:=own_up hov7 k hk
     have h2:=Own.own_lt' hov7 k hk
     refine⟨h1,fun e=>hne (by rw[hk,e]),?_⟩
     simp only[World.setCell,Array.size_modify]
     exact h2)
   have F8:=zh (F6.out.step hb8);have O8:=zh (O6.out.step hb8);have SO8:=zh (SO6.out.below hb8);have HB8:=zh hb8;have S8:=zh hs8;have HM8:=zh hm8
   clear hg hk ho hb7 hs7 hSB hw7a hb8 hs8 hm8 hov7 hne HOV HBa HB7 BB7
   go_wp2_with fail
   refine Lex.Mid.intro (fun k hk _=>hk.elim) ?_
   go_wp2_with fail
   refine Lex.EndsN.intro (by kernel_rfl) trivial ?_
   clear s0 s1 s2 s3 s4 s5
   generalize ((w7b.setCell ⟨SB,0,none⟩ (.string spre)).setCell ⟨SB,1,none⟩ (.slice ma M.length mc)).setCell ⟨SB,2,none⟩ (.int .i64 th)=w8 at*
   go_upto_region 11 with fail
   have c0' :=(HB8.out.cell (p:=⟨g,j*6,none⟩) hgl).trans c0
   have c1' :=(HB8.out.cell (p:=⟨g,j*6+1,none⟩) hgl).trans c1
   have c2' :=(HB8.out.cell (p:=⟨g,j*6+2,none⟩) hgl).trans c2
   have c3' :=(HB8.out.cell (p:=⟨g,j*6+3,none⟩) hgl).trans c3
   have c4' :=(HB8.out.cell (p:=⟨g,j*6+4,none⟩) hgl).trans c4
   have c5' :=(HB8.out.cell (p:=⟨g,j*6+5,none⟩) hgl).trans c5
   obtain⟨s0,s1,s2⟩:=S8.out.c3
   (try clear x00);(try clear x01);(try clear x10);(try clear x11);(try clear x12);(try clear x20);(try clear x21);(try clear x22);(try clear x23);(try clear x30f);(try clear x30);(try clear x31f);(try clear x31);(try clear x40f);(try clear x40);(try clear x41f);(try clear x41);(try clear x42f);(try clear x42)
   obtain⟨x10,x11,x12⟩:=F8.out.d1_3 rfl
   have h1l:w.heap.size+1<w8.heap.size:=F8.out.lt (i:=1) (by show 1<5;omega)
   have h2l:w.heap.size+1+1<w8.heap.size:=F8.out.lt (i:=2) (by show 2<5;omega)
   have hsl:SB<w8.heap.size:=S8.out.lt
   have hgl8:g<w8.heap.size:=Nat.lt_of_lt_of_le hgl HB8.out.size
   have hz68:=HB8.out.size
   have HC5:=zh c5'
   have HX1:=zh (show(w8.cell? ⟨w.heap.size+1,0,none⟩).isSome=true by rw[x10];rfl)
   have HX2:=zh (show(w8.cell? ⟨SB,0,none⟩).isSome=true by rw[s0];rfl)
   have HX3:=zh (show(w8.cell? ⟨g,j*6+1,none⟩).isSome=true by rw[c1'];rfl)
   have HX4:=zh (show(w8.cell? ⟨w.heap.size+1+1,0,none⟩).isSome=true by rw[F8.out.cell 2 0 rfl rfl];rfl)
   have hpk:=HPOK.out
   obtain⟨MSG,hMSG⟩:∃ m,m=Own.messageOf ⟨pid,ppa,pdi,pop,pex,V⟩ ag:=⟨_,rfl⟩
   have hms:MSG.size<=9223372036854775000:=by
    have h1:ppa.size<=64:=hpk.path
    have h2:pdi.size=32:=hpk.dig
    have h3:=Cod.uns_le pid.toNat;have h4:=Cod.uns_le ppa.size;have h5:=Cod.uns_le pdi.size
    rw[hMSG]
    unfold Own.messageOf Cod.text Sig.b1
    simp only[ByteArray.size_append]
    have:∀ x:UInt8,(⟨#[x]⟩:ByteArray).size=1:=fun _=>rfl
    rw[this]
    omega
   have hmsg:=fun W=>rvMessage_any ⟨pid,ppa,pdi,pop,pex,V⟩ ag (.slice ua V.length uc) W hpk.id0 (by show pid<_;omega) (by have:ppa.size<=64:=hpk.path;show ppa.size<=_;omega) (by have:pdi.size=32:=hpk.dig;show pdi.size<=_;omega)
   have hr6:=HR5.out
   simp only[<- hMSG] at hmsg hr6
   have hus:=fun(X:Nat->Prop) W (hW:Below w8.heap.size w8 W) (hXw:∀ k,X k->w.heap.size<=k) (hX:∀ k,X k->k<W.heap.size) (hXm:∀ k,w6.heap.size<=k/\k≠SB/\k<w8.heap.size->¬ X k)=>HUS.out X ⟨spre,M,th⟩ ppa MSG ma mc W (F8.out.under.trans (hW.mono F8.out.under.size)) hXw hX ((HM8.out.below hW).mono (fun k hk _=>hXm k hk)) hmc HSA.out hms
   dsimp only at hus
   have HMSG:=zh hmsg;have HUSED:=zh hus;have HR6:=zh hr6
   have herr:=HERR.out ⟨spre,M,th⟩ MSG
   clear hmsg hus hr6 hMSG hpk c0 c1 c2 c3 c4 c5
   cases hU:UR ⟨spre,M,th⟩ MSG with
   | error ec =>
     have hec:=herr ec hU
     simp only[hU] at HUSED HR6
     clear herr hU
     have BD8:=zh (show Below w8.heap.size w8 w8.drew from(Below.refl _ _).drew)
     have ZD8:=zh (show w8.drew.heap.size=w8.heap.size by rw[drew_heap])
     refine Lex.wp_region_hav (fun k=>k=w.heap.size+1\/k=SB\/k=g\/k=w.heap.size+1+1) [0,1,5,11] [17] 20 [.pure 10,.call,.pure 1,.call,.pure 4,.new] [1] (by kernel_rfl) (by kernel_rfl) (by kernel_rfl) ?_
     simp only[Lex.wpHav,Lex.wpCuts,List.take_succ_cons,List.take_zero,List.drop_succ_cons,List.drop_zero]
     go_wp2_with fail
     refine Lex.PEnd.intro ?_
     intro w8a hga
     have HBa:=zh (BD8.out.trans (hga.mono BD8.out.size));have HXa:=zh hga
     clear hga
     (try clear x00);(try clear x01);(try clear x10);(try clear x11);(try clear x12);(try clear x20);(try clear x21);(try clear x22);(try clear x23);(try clear x30f);(try clear x30);(try clear x31f);(try clear x31);(try clear x40f);(try clear x40);(try clear x41f);(try clear x41);(try clear x42f);(try clear x42)
     clear c0' c1' c2' c3' c4' c5' s0 s1 s2
     go_wp2_with fail
     refine(HMSG.out _).mono ?_
     rintro e w9 ⟨rfl,hb9⟩
     have F9:=zh (F8.out.step (HBa.out.trans (hb9.mono HBa.out.size)));have HB9:=zh (HBa.out.trans (hb9.mono HBa.out.size));have HX9:=zh (HXa.out.trans (hb9.mono HXa.out.size));have BB9:=zh hb9
     clear hb9
     obtain⟨x20,x21,x22,x23⟩:=F9.out.d2_4 rfl
     go_wp2_with fail
     refine Lex.CEnd.intro (fun k _ hkl=>HX9.out.block _ hkl) (Lex.Kept.of_below BB9.out) ?_
     go_wp2_with fail
     refine Lex.PEnd.intro ?_
     intro w9a hga
     have HB9a:=zh (HB9.out.trans (hga.mono HB9.out.size));have HX9a:=zh (HX9.out.trans (hga.mono HX9.out.size))
     clear hga HBa HXa HB9 HX9 BB9
     (try clear x00);(try clear x01);(try clear x10);(try clear x11);(try clear x12);(try clear x20);(try clear x21);(try clear x22);(try clear x23);(try clear x30f);(try clear x30);(try clear x31f);(try clear x31);(try clear x40f);(try clear x40);(try clear x41f);(try clear x41);(try clear x42f);(try clear x42)
     go_wp2_with fail
     refine(HUSED.out (fun k=>(w.heap.size<=k/\k<w6.heap.size)\/(w8.heap.size<=k/\k<w9a.heap.size)) w9a HB9a.out (fun k hk=>by have:=F8.out.size;omega) (fun k hk=>by have:=HB9a.out.size;omega) (fun k hk=>by omega)).mono ?_
     rintro e w9r ⟨rfl,hb10⟩
     unfold Own.nobody
     have HB9r:=zh (HB9a.out.trans (hb10.mono HB9a.out.size));have HX9r:=zh (HX9a.out.trans (hb10.mono HX9a.out.size));have BB9r:=zh hb10
     clear hb10
     go_wp2_with fail
     refine Lex.CEnd.intro (fun k _ hkl=>HX9r.out.block _ hkl) (Lex.Kept.of_below BB9r.out) ?_
     go_wp2_with fail
     refine Lex.PEnd.intro ?_
     intro w9s hw9s
     go_wp2_with fail
     refine Lex.NEnd.intro (fun w10 hg10 hk10 ho10=>?_)
     have hn10:=hk10.at_
     obtain⟨NB,hNB⟩:∃ NB,NB=w9s.heap.size:=⟨_,rfl⟩
     have hNBo:NB+1<=w9a.heap.size\/w9r.heap.size<=NB:=by
      have:=ho10 (w9a.heap.size,w9r.heap.size) List.mem_cons_self
      simpa [hNB] using this
     have hNBw:w8.heap.size<=NB:=by rw[hNB,<- ZD8.out];exact hw9s
     rw[<- hNB] at hn10 ⊢
     have HB10:=zh (HB9r.out.trans (hg10.mono HB9r.out.size));have HX10:=zh (HX9r.out.trans (hg10.mono HX9r.out.size))
     have hs10:At (((w10.setCell ⟨NB,0,none⟩ (.int .i64 0)).setCell ⟨NB,1,none⟩ (.slice none 0 0)).setCell ⟨NB,2,none⟩ (.slice none 0 0)) NB 38 #[(.int .i64 0),(.slice none 0 0),(.slice none 0 0)]:=((hn10.set 0 (.int .i64 0)).set 1 (.slice none 0 0)).set 2 (.slice none 0 0)
     have HBN:=zh (((HB10.out.setCell (p:=⟨NB,0,none⟩) hNBw (.int .i64 0)).setCell (p:=⟨NB,1,none⟩) hNBw (.slice none 0 0)).setCell (p:=⟨NB,2,none⟩) hNBw (.slice none 0 0))
     have n0:=hn10.cell 0;have n1:=hn10.cell 1;have n2:=hn10.cell 2;have n3:=hn10.free 0;have n4:=hn10.free 1;have n5:=hn10.free 2
     simp only[List.getElem?_toArray,List.getElem?_cons_zero,List.getElem?_cons_succ] at n0 n1 n2
     have hkp:∀ k,k≠NB->(((w10.setCell ⟨NB,0,none⟩ (.int .i64 0)).setCell ⟨NB,1,none⟩ (.slice none 0 0)).setCell ⟨NB,2,none⟩ (.slice none 0 0)).heap[k]? = w10.heap[k]? :=fun k hk=>by
      rw[heap_setCell_other _ _ _ _ hk,heap_setCell_other _ _ _ _ hk,heap_setCell_other _ _ _ _ hk]
     clear hs10 hn10 hNB hg10 hk10 ho10 hw9s hkp
     go_wp2_with fail
     refine Lex.Mid.intro (fun k _ hkl=>by
      have h3:k≠NB:=by have:=ZD8.out;omega
      rw[heap_setCell_other _ _ _ _ h3,heap_setCell_other _ _ _ _ h3,heap_setCell_other _ _ _ _ h3]
      exact HX10.out.block _ hkl) ?_
     go_wp2_with fail
     clear n0 n1 n2 n3 n4 n5
     generalize ((w10.setCell ⟨NB,0,none⟩ (.int .i64 0)).setCell ⟨NB,1,none⟩ (.slice none 0 0)).setCell ⟨NB,2,none⟩ (.slice none 0 0)=w11 at*
     refine Lex.EndsN.intro (by kernel_rfl) ⟨⟨.inl rfl,HX1.out⟩,⟨.inr (.inl rfl),HX2.out⟩,⟨.inr (.inr (.inl rfl)),HX3.out⟩,⟨.inr (.inr (.inr rfl)),HX4.out⟩,trivial⟩ ?_
     have F11:=zh (F8.out.step HBN.out)
     have HE:=zh HR6.out
     obtain⟨x30,x31,x30f,x31f⟩:=F11.out.e3_2 rfl
     obtain⟨x40,x41,x42,x40f,x41f,x42f⟩:=F11.out.e4_3 rfl
     go_wp2_with fail
     have g1:=F11.out.put 3 0 (.int .i64 0) rfl
     have g2:=g1.put 3 1 (.slice none 0 0) rfl
     have g3:=g2.put 4 0 (.int .i64 0) rfl
     have g4:=g3.put 4 1 (.slice none 0 0) rfl
     have G2:=g4.put 4 2 (.slice none 0 0) rfl
     clear g1 g2 g3 g4
     refine done_cct rfl rfl rfl rfl (load_row (G2.at1 3 rfl) Tryz.underlying24 rfl info_Queue) (load_row (G2.at1 4 rfl) Tryz.underlying38 rfl info_Owners) ?_
     rw[HQ.out,HE.out]
     exact⟨⟨_,_,_,rfl,⟨_,rfl,ListF.nil _ _⟩,ListF.nil _ _,ListF.nil _ _⟩,G2.under⟩
   | ok mk =>
     simp only[hU] at HUSED HR6
     clear herr hU
     obtain⟨mm,K1⟩:=mk
     dsimp only at HUSED HR6
     have BD8:=zh (show Below w8.heap.size w8 w8.drew from(Below.refl _ _).drew)
     have ZD8:=zh (show w8.drew.heap.size=w8.heap.size by rw[drew_heap])
     refine Lex.wp_region_hav (fun k=>k=w.heap.size+1\/k=SB\/k=g\/k=w.heap.size+1+1) [0,1,5,11] [17] 20 [.pure 10,.call,.pure 1,.call,.pure 4,.new] [1] (by kernel_rfl) (by kernel_rfl) (by kernel_rfl) ?_
     simp only[Lex.wpHav,Lex.wpCuts,List.take_succ_cons,List.take_zero,List.drop_succ_cons,List.drop_zero]
     go_wp2_with fail
     refine Lex.PEnd.intro ?_
     intro w8a hga
     have HBa:=zh (BD8.out.trans (hga.mono BD8.out.size));have HXa:=zh hga
     clear hga
     (try clear x00);(try clear x01);(try clear x10);(try clear x11);(try clear x12);(try clear x20);(try clear x21);(try clear x22);(try clear x23);(try clear x30f);(try clear x30);(try clear x31f);(try clear x31);(try clear x40f);(try clear x40);(try clear x41f);(try clear x41);(try clear x42f);(try clear x42)
     clear c0' c1' c2' c3' c4' c5' s0 s1 s2
     go_wp2_with fail
     refine(HMSG.out _).mono ?_
     rintro e w9 ⟨rfl,hb9⟩
     have F9:=zh (F8.out.step (HBa.out.trans (hb9.mono HBa.out.size)));have HB9:=zh (HBa.out.trans (hb9.mono HBa.out.size));have HX9:=zh (HXa.out.trans (hb9.mono HXa.out.size));have BB9:=zh hb9
     clear hb9
     obtain⟨x20,x21,x22,x23⟩:=F9.out.d2_4 rfl
     go_wp2_with fail
     refine Lex.CEnd.intro (fun k _ hkl=>HX9.out.block _ hkl) (Lex.Kept.of_below BB9.out) ?_
     go_wp2_with fail
     refine Lex.PEnd.intro ?_
     intro w9a hga
     have HB9a:=zh (HB9.out.trans (hga.mono HB9.out.size));have HX9a:=zh (HX9.out.trans (hga.mono HX9.out.size))
     clear hga HBa HXa HB9 HX9 BB9
     (try clear x00);(try clear x01);(try clear x10);(try clear x11);(try clear x12);(try clear x20);(try clear x21);(try clear x22);(try clear x23);(try clear x30f);(try clear x30);(try clear x31f);(try clear x31);(try clear x40f);(try clear x40);(try clear x41f);(try clear x41);(try clear x42f);(try clear x42)
     go_wp2_with fail
     refine(HUSED.out (fun k=>(w.heap.size<=k/\k<w6.heap.size)\/(w8.heap.size<=k/\k<w9a.heap.size)) w9a HB9a.out (fun k hk=>by have:=F8.out.size;omega) (fun k hk=>by have:=HB9a.out.size;omega) (fun k hk=>by omega)).mono ?_
     rintro e w9r ⟨⟨sv',kv',rfl,hrs0,hrk0⟩,hb10⟩
     dsimp only at hrs0 hrk0
     obtain⟨sa',sc',rfl⟩:=hrs0.len
     obtain⟨ka',kc',rfl⟩:=hrk0.len
     have HB9r:=zh (HB9a.out.trans (hb10.mono HB9a.out.size));have HX9r:=zh (HX9a.out.trans (hb10.mono HX9a.out.size));have BB9r:=zh hb10
     clear hb10
     go_wp2_with fail
     refine Lex.CEnd.intro (fun k _ hkl=>HX9r.out.block _ hkl) (Lex.Kept.of_below BB9r.out) ?_
     go_wp2_with fail
     refine Lex.PEnd.intro ?_
     intro w9s hw9s
     go_wp2_with fail
     refine Lex.NEnd.intro (fun w10 hg10 hk10 ho10=>?_)
     have hn10:=hk10.at_
     obtain⟨NB,hNB⟩:∃ NB,NB=w9s.heap.size:=⟨_,rfl⟩
     have hNBo:NB+1<=w9a.heap.size\/w9r.heap.size<=NB:=by
      have:=ho10 (w9a.heap.size,w9r.heap.size) List.mem_cons_self
      simpa [hNB] using this
     have hNBw:w8.heap.size<=NB:=by rw[hNB,<- ZD8.out];exact hw9s
     rw[<- hNB] at hn10 ⊢
     have HB10:=zh (HB9r.out.trans (hg10.mono HB9r.out.size));have HX10:=zh (HX9r.out.trans (hg10.mono HX9r.out.size))
     have hrs:=(hrs0.mono (G:=fun k=>¬ ((w.heap.size<=k/\k<w6.heap.size)\/k=NB)) (fun k hk hl=>by omega)).below hg10
     have hrk:=(hrk0.mono (G:=fun k=>¬ ((w.heap.size<=k/\k<w6.heap.size)\/k=NB)) (fun k hk hl=>by omega)).below hg10
     have hs10:At (((w10.setCell ⟨NB,0,none⟩ (.int .i64 cnt)).setCell ⟨NB,1,none⟩ (.slice sa' S.length sc')).setCell ⟨NB,2,none⟩ (.slice ka' K1.length kc')) NB 38 #[(.int .i64 cnt),(.slice sa' S.length sc'),(.slice ka' K1.length kc')]:=((hn10.set 0 (.int .i64 cnt)).set 1 (.slice sa' S.length sc')).set 2 (.slice ka' K1.length kc')
     have HBN:=zh (((HB10.out.setCell (p:=⟨NB,0,none⟩) hNBw (.int .i64 cnt)).setCell (p:=⟨NB,1,none⟩) hNBw (.slice sa' S.length sc')).setCell (p:=⟨NB,2,none⟩) hNBw (.slice ka' K1.length kc'))
     have n0:=hn10.cell 0;have n1:=hn10.cell 1;have n2:=hn10.cell 2;have n3:=hn10.free 0;have n4:=hn10.free 1;have n5:=hn10.free 2
     simp only[List.getElem?_toArray,List.getElem?_cons_zero,List.getElem?_cons_succ] at n0 n1 n2
     have hkp:∀ k,k≠NB->(((w10.setCell ⟨NB,0,none⟩ (.int .i64 cnt)).setCell ⟨NB,1,none⟩ (.slice sa' S.length sc')).setCell ⟨NB,2,none⟩ (.slice ka' K1.length kc')).heap[k]? = w10.heap[k]? :=fun k hk=>by
      rw[heap_setCell_other _ _ _ _ hk,heap_setCell_other _ _ _ _ hk,heap_setCell_other _ _ _ _ hk]
     have hsz:w10.heap.size<=(((w10.setCell ⟨NB,0,none⟩ (.int .i64 cnt)).setCell ⟨NB,1,none⟩ (.slice sa' S.length sc')).setCell ⟨NB,2,none⟩ (.slice ka' K1.length kc')).heap.size:=by simp[World.setCell]
     have N11:=zh hs10
     have RS11:=zh ((hrs.keep hsz (fun k hk _=>hkp k (fun e=>hk (.inr e)))).mono (G:=fun k=>¬ (w.heap.size<=k/\k<w6.heap.size)/\k≠NB) (fun k hk _=>⟨fun h=>hk (.inl h),fun h=>hk (.inr h)⟩))
     have RK11:=zh ((hrk.keep hsz (fun k hk _=>hkp k (fun e=>hk (.inr e)))).mono (G:=fun k=>¬ (w.heap.size<=k/\k<w6.heap.size)/\k≠NB) (fun k hk _=>⟨fun h=>hk (.inl h),fun h=>hk (.inr h)⟩))
     clear hs10 hn10 hNB hrs hrk hrs0 hrk0 hkp hsz hg10 hk10 ho10 hw9s
     go_wp2_with fail
     refine Lex.Mid.intro (fun k _ hkl=>by
      have h3:k≠NB:=by have:=ZD8.out;omega
      rw[heap_setCell_other _ _ _ _ h3,heap_setCell_other _ _ _ _ h3,heap_setCell_other _ _ _ _ h3]
      exact HX10.out.block _ hkl) ?_
     go_wp2_with fail
     clear n0 n1 n2 n3 n4 n5
     generalize ((w10.setCell ⟨NB,0,none⟩ (.int .i64 cnt)).setCell ⟨NB,1,none⟩ (.slice sa' S.length sc')).setCell ⟨NB,2,none⟩ (.slice ka' K1.length kc')=w11 at*
     refine Lex.EndsN.intro (by kernel_rfl) ⟨⟨.inl rfl,HX1.out⟩,⟨.inr (.inl rfl),HX2.out⟩,⟨.inr (.inr (.inl rfl)),HX3.out⟩,⟨.inr (.inr (.inr rfl)),HX4.out⟩,trivial⟩ ?_
     clear HX1 HX2 HX3 HX4 h1l h2l hsl HMSG HUSED HB10 HB9a HB9r HX10 HX9r HX9a BB9r F9 BD8 ZD8 hNBo
     have F11:=zh (F8.out.step HBN.out);have O11:=zh (O8.out.step HBN.out);have SO11:=zh (SO8.out.below HBN.out)
     have hz8:w.heap.size+5<=w6.heap.size:=F6.out.size
     have hz11:=HBN.out.size
     have HV11:=zh (own_below (own_below HVJ.out HB8.out) HBN.out)
     have HC511:=zh ((HBN.out.cell (p:=⟨g,j*6+5,none⟩) hgl8).trans HC5.out)
     have hgl11:g<w11.heap.size:=Nat.lt_of_lt_of_le hgl8 HBN.out.size
     have hnb11:=N11.out.lt
     clear F6 F8 O6 O8 SO6 SO8 HB8 HBN HC5 HUS HAUC HVQ HVO HQP HA6 HM8 S8 HERR HSS HKK HMX
     obtain⟨x20,x21,x22,x23⟩:=F11.out.d2_4 rfl
     have B12:=zh (show Boxes w11 (w11.alloc (.cells #[.string nm,.string mm.pub,.bool ag] 82)) [(82,#[.string nm,.string mm.pub,.bool ag])] from((Fresh.nil w11).push 82 #[.string nm,.string mm.pub,.bool ag]).boxes)
     go_upto_region 15 with fail
     generalize (w11.alloc (.cells #[.string nm,.string mm.pub,.bool ag] 82))=w12 at*
     have F12:=zh (F11.out.step B12.out.under);have O12:=zh (O11.out.step B12.out.under);have SO12:=zh (SO11.out.below B12.out.under);have N12:=zh (N11.out.below B12.out.under hnb11)
     have RS12:=zh (RS11.out.below B12.out.under);have RK12:=zh (RK11.out.below B12.out.under);have HV12:=zh (own_below HV11.out B12.out.under)
     have hc5:=(B12.out.under.cell (p:=⟨g,j*6+5,none⟩) hgl11).trans HC511.out
     (try clear x00);(try clear x01);(try clear x10);(try clear x11);(try clear x12);(try clear x20);(try clear x21);(try clear x22);(try clear x23);(try clear x30f);(try clear x30);(try clear x31f);(try clear x31);(try clear x40f);(try clear x40);(try clear x41f);(try clear x41);(try clear x42f);(try clear x42)
     have x20:w12.cell? ⟨w.heap.size+1+1,0,none⟩=some (.string nm):=F12.out.cell 2 0 rfl rfl
     have hpk:=HPOK.out
     have hbs:=bsVotes_any (.slice ua V.length uc) V nm w12.drew (Own.votes_own (own_below HV12.out (Below.refl _ _).drew) rfl) hpk.srt (by have:V.length<=1024:=hpk.len;omega)
     obtain⟨Pn,hPn⟩:∃ Pn,Pn=Own.posB Own.Vote.name nm V:=⟨_,rfl⟩
     obtain⟨HIT,hHIT⟩:∃ b,b=Own.hitB Own.Vote.name nm V:=⟨_,rfl⟩
     rw[<- hPn,<- hHIT] at hbs
     have HBS:=zh hbs;have HPN:=zh hPn;have HHIT:=zh hHIT
     clear hbs hPn hHIT hpk F11 O11 SO11 RS11 RK11 HV11 HC511 N11
     go_wp2_with fail
     refine Lex.wp_region_lex (by kernel_rfl) (by kernel_rfl) ?_
     go_wp2_with fail
     refine HBS.out.mono ?_
     rintro e w13 ⟨rfl,hb13⟩
     have hb13' : Below w12.heap.size w12 w13:=(Below.refl w12.heap.size w12).drew.trans hb13
     have hz12:=B12.out.under.size
     have hc513:=(hb13'.cell (p:=⟨g,j*6+5,none⟩) (Nat.lt_of_lt_of_le hgl11 hz12)).trans hc5
     have F13:=zh (F12.out.step hb13');have O13:=zh (O12.out.step hb13');have SO13:=zh (SO12.out.below hb13');have N13:=zh (N12.out.below hb13' N12.out.lt);have B13:=zh (B12.out.step hb13')
     have RS13:=zh (RS12.out.below hb13');have RK13:=zh (RK12.out.below hb13');have HV13:=zh (own_below HV12.out hb13')
     have hz13:=hb13'.size
     (try clear x00);(try clear x01);(try clear x10);(try clear x11);(try clear x12);(try clear x20);(try clear x21);(try clear x22);(try clear x23);(try clear x30f);(try clear x30);(try clear x31f);(try clear x31);(try clear x40f);(try clear x40);(try clear x41f);(try clear x41);(try clear x42f);(try clear x42)
     clear hb13 hb13' hc5 HBS F12 O12 SO12 N12 B12 RS12 RK12 HV12
     go_wp2_with fail
     refine Lex.Ends.intro (by kernel_rfl) ?_
     have hlen:V.length<=1024:=HPOK.out.len
     cases HIT with
     | true =>
       have hPl:=Own.hit_lt HHIT.out.symm
       rw[<- HPN.out] at hPl
       obtain⟨ub,uc',hue,hvc⟩:=own_cell HV13.out (by omega)
       cases hue
       have d0:=hvc (Pn*3) _ (Own.vflat_get V Pn hPl 0 (by omega))
       have d1:=hvc (Pn*3+1) _ (Own.vflat_get V Pn hPl 1 (by omega))
       have d2:=hvc (Pn*3+2) _ (Own.vflat_get V Pn hPl 2 (by omega))
       obtain⟨cur,hat⟩:=own_at HV13.out rfl
       have d3:=hat.free (Pn*3);have d4:=hat.free (Pn*3+1);have d5:=hat.free (Pn*3+2)
       obtain⟨v00,v01,v02⟩:=B13.out.d0_3 rfl
       clear hvc hat
       go_wp2_with fail
       refine Lex.wp_region_lex (by kernel_rfl) (by kernel_rfl) ?_
       go_wp2_with fail
       refine Lex.Ends.intro (by kernel_rfl) ?_
       have hkk:∀ k,k≠ub->((((w13.setCell ⟨ub,Pn*3,none⟩ (.string nm)).setCell ⟨ub,Pn*3+1,none⟩ (.string mm.pub)).setCell ⟨ub,Pn*3+2,none⟩ (.bool ag)).drew).heap[k]? = w13.heap[k]? :=fun k hk=>by
        rw[drew_heap,heap_setCell_other _ _ _ _ hk,heap_setCell_other _ _ _ _ hk,heap_setCell_other _ _ _ _ hk]
       have hvl:=Own.vflat_len V
       have p3:=own_put (own_put (own_put HV13.out (Pn*3) (by omega) (.string nm)) (Pn*3+1) (by rw[List.length_set];omega) (.string mm.pub)) (Pn*3+2) (by rw[List.length_set,List.length_set];omega) (.bool ag)
       have hvs:=Own.vflat_set V Pn hPl ⟨nm,mm.pub,ag⟩
       dsimp only at hvs
       rw[<- hvs] at p3
       have p4:=own_keep (w' :=(((w13.setCell ⟨ub,Pn*3,none⟩ (.string nm)).setCell ⟨ub,Pn*3+1,none⟩ (.string mm.pub)).setCell ⟨ub,Pn*3+2,none⟩ (.bool ag)).drew) p3 (fun _ _=>by rw[drew_heap])
       have hubg:w6.heap.size<=ub\/ub<w6.heap.size:=by omega
       have hub0:w4.heap.size+3<=ub:=own_up HV13.out ub rfl
       have hubl:ub<w13.heap.size:=Own.own_lt' HV13.out ub rfl
       have hub6:ub<w6.heap.size:=Own.own_lt' HVJ.out ub rfl
       have hso:=Own.SOwn.same (nv:=V.set Pn ⟨nm,mm.pub,ag⟩) SO13.out hj hju (V:=V) (by rw[HUE.out,<- HX.out]) (by rw[List.length_set];exact p4) HV13.out hkk
       have hnb:NB≠ub:=by omega
       have ho5:ub≠w5.heap.size:=by
        have hh:=Own.own_lt' HVJ5.out ub rfl
        omega
       have SOT:=zh hso
       have F15:=zh (F13.out.keep (((F13.out.under.setCell (p:=⟨ub,Pn*3,none⟩) (by show w.heap.size<=ub;omega) (.string nm)).setCell (p:=⟨ub,Pn*3+1,none⟩) (by show w.heap.size<=ub;omega) (.string mm.pub)).setCell (p:=⟨ub,Pn*3+2,none⟩) (by show w.heap.size<=ub;omega) (.bool ag)).drew (by rw[drew_heap];simp[World.setCell]) (fun k _ hk=>hkk k (by have hk:k<w.heap.size+5:=hk;omega)))
       have N15:=zh (N13.out.keep (hkk NB hnb))
       have O15a:=zh (show At w13 w5.heap.size 24 #[.int .i64 nx,.slice (some ⟨g,0,none⟩) L.length cap] from O13.out.at1 0 rfl);have O15:=zh (O15a.out.keep (hkk w5.heap.size (fun e=>ho5 e.symm)))
       have hsz:w13.heap.size<=((((w13.setCell ⟨ub,Pn*3,none⟩ (.string nm)).setCell ⟨ub,Pn*3+1,none⟩ (.string mm.pub)).setCell ⟨ub,Pn*3+2,none⟩ (.bool ag)).drew).heap.size:=by rw[drew_heap];simp[World.setCell]
       have RS15:=zh (RS13.out.keep hsz (fun k hk _=>hkk k (fun e=>hk.1 (by omega))))
       have RK15:=zh (RK13.out.keep hsz (fun k hk _=>hkk k (fun e=>hk.1 (by omega))))
       have hput:Own.putVote V ⟨nm,mm.pub,ag⟩=V.set Pn ⟨nm,mm.pub,ag⟩:=by
        rw[Own.putVote_put,Own.putB_eq,<- HHIT.out,<- HPN.out,if_pos rfl,List.set_eq_take_append_cons_drop,if_pos hPl]
       have HE:=zh (show R=(⟨nx,L.set j (Own.withV L[j] (V.set Pn ⟨nm,mm.pub,ag⟩))⟩,⟨cnt,S,K1⟩,0) by
        rw[HR6.out,hput,if_neg (by rw[List.length_set];omega),HX.out,Own.setP_set L j hj (HIDS.out (by first | rfl | trivial))])
       clear d0 d1 d2 d3 d4 d5 hkk p3 p4 hvs hso hsz hput hc513 v00 v01 v02
       generalize (((w13.setCell ⟨ub,Pn*3,none⟩ (.string nm)).setCell ⟨ub,Pn*3+1,none⟩ (.string mm.pub)).setCell ⟨ub,Pn*3+2,none⟩ (.bool ag)).drew=w15 at*
       obtain⟨o0,o1⟩:=O15.out.c2;obtain⟨n0,n1,n2⟩:=N15.out.c3
       obtain⟨x30,x31,x30f,x31f⟩:=F15.out.e3_2 rfl
       obtain⟨x40,x41,x42,x40f,x41f,x42f⟩:=F15.out.e4_3 rfl
       have HXN:=zh (show(w15.cell? ⟨NB,0,none⟩).isSome=true by rw[n0];rfl)
       go_wp2_with fail
       refine Lex.wp_region_lexN (fun k=>k=NB) [1] 3 [3] (by kernel_rfl) (by kernel_rfl) (by kernel_rfl) ?_
       simp only[Lex.wpCuts,List.take_succ_cons,List.take_zero,List.drop_succ_cons,List.drop_zero]
       go_wp2_with fail
       refine Lex.Mid.intro (fun k hk _=>by
        have h3:k≠w.heap.size+1+1+1:=by rw[hk];omega
        rw[drew_heap,drew_heap,heap_setCell_other _ _ _ _ h3,heap_setCell_other _ _ _ _ h3]) ?_
       go_wp2_with fail
       refine Lex.EndsN.intro (by kernel_rfl) ⟨⟨rfl,HXN.out⟩,trivial⟩ ?_
       go_wp2_with fail
       have g1:=F15.out.put 3 0 (.int .i64 nx) rfl
       have g2:=g1.put 3 1 (.slice (some ⟨g,0,none⟩) L.length cap) rfl
       have g3:=g2.put 4 0 (.int .i64 cnt) rfl
       have g4:=g3.put 4 1 (.slice sa' S.length sc') rfl
       have g5:=g4.put 4 2 (.slice ka' K1.length kc') rfl
       have G2:=g5.drew
       clear g1 g2 g3 g4 g5
       refine done_cct rfl rfl rfl rfl (load_row (G2.at1 3 rfl) Tryz.underlying24 rfl info_Queue) (load_row (G2.at1 4 rfl) Tryz.underlying38 rfl info_Owners) ?_
       rw[HQ.out,HE.out]
       have hst:∀ k,k≠w.heap.size+1+1+1->k≠w.heap.size+1+1+1+1->((((((w15.setCell ⟨w.heap.size+1+1+1,0,none⟩ (.int .i64 nx)).setCell ⟨w.heap.size+1+1+1,1,none⟩ (.slice (some ⟨g,0,none⟩) L.length cap)).setCell ⟨w.heap.size+1+1+1+1,0,none⟩ (.int .i64 cnt)).setCell ⟨w.heap.size+1+1+1+1,1,none⟩ (.slice sa' S.length sc')).setCell ⟨w.heap.size+1+1+1+1,2,none⟩ (.slice ka' K1.length kc')).drew).heap[k]? = w15.heap[k]? :=fun k h3 h4=>by
        rw[drew_heap,heap_setCell_other _ _ _ _ h4,heap_setCell_other _ _ _ _ h4,heap_setCell_other _ _ _ _ h4,heap_setCell_other _ _ _ _ h3,heap_setCell_other _ _ _ _ h3]
       have hsz:w15.heap.size<=((((((w15.setCell ⟨w.heap.size+1+1+1,0,none⟩ (.int .i64 nx)).setCell ⟨w.heap.size+1+1+1,1,none⟩ (.slice (some ⟨g,0,none⟩) L.length cap)).setCell ⟨w.heap.size+1+1+1+1,0,none⟩ (.int .i64 cnt)).setCell ⟨w.heap.size+1+1+1+1,1,none⟩ (.slice sa' S.length sc')).setCell ⟨w.heap.size+1+1+1+1,2,none⟩ (.slice ka' K1.length kc')).drew).heap.size:=by rw[drew_heap];simp[World.setCell]
       refine⟨⟨_,_,_,rfl,⟨_,rfl,?_⟩,?_,?_⟩,G2.under⟩
       ·exact(SOT.out.keep (fun k hk _=>hst k (by omega) (by omega))).props
       ·exact(RS15.out.keep hsz (fun k hk _=>hst k (fun e=>hk.1 (by omega)) (fun e=>hk.1 (by omega)))).mono (fun _ _ _=>trivial)
       ·exact(RK15.out.keep hsz (fun k hk _=>hst k (fun e=>hk.1 (by omega)) (fun e=>hk.1 (by omega)))).mono (fun _ _ _=>trivial)
     | false =>
       have hput:Own.putVote V ⟨nm,mm.pub,ag⟩=V.take Pn++⟨nm,mm.pub,ag⟩::V.drop Pn:=by
        rw[Own.putVote_put,Own.putB_eq,<- HHIT.out,<- HPN.out,if_neg Bool.false_ne_true,Nat.add_zero]
       have hPle:Pn<=V.length:=by rw[HPN.out];exact Own.posB_le _ _
       have hnl:(V.take Pn++(⟨nm,mm.pub,ag⟩:Own.Vote)::V.drop Pn).length=V.length+1:=by
        rw[List.length_append,List.length_take,List.length_cons,List.length_drop];omega
       by_cases h1024:V.length=1024
       ·have d1:((V.length:Int)==1024)=true:=beq_iff_eq.2 (by omega)
        have HE:=zh (show R=(Own.Queue.none,Own.Owners.none,7) by rw[HR6.out,hput,if_pos (by rw[hnl];omega)])
        clear hput hnl h1024
        obtain⟨x30,x31,x30f,x31f⟩:=F13.out.e3_2 rfl
        obtain⟨x40,x41,x42,x40f,x41f,x42f⟩:=F13.out.e4_3 rfl
        go_wp2_with fail
        have g1:=F13.out.put 3 0 (.int .i64 0) rfl
        have g2:=g1.put 3 1 (.slice none 0 0) rfl
        have g3:=g2.put 4 0 (.int .i64 0) rfl
        have g4:=g3.put 4 1 (.slice none 0 0) rfl
        have G2:=g4.put 4 2 (.slice none 0 0) rfl
        clear g1 g2 g3 g4
        refine done_cct rfl rfl rfl rfl (load_row (G2.at1 3 rfl) Tryz.underlying24 rfl info_Queue) (load_row (G2.at1 4 rfl) Tryz.underlying38 rfl info_Owners) ?_
        rw[HQ.out,HE.out]
        exact⟨⟨_,_,_,rfl,⟨_,rfl,ListF.nil _ _⟩,ListF.nil _ _,ListF.nil _ _⟩,G2.under⟩
       have d1:((V.length:Int)==1024)=false:=beq_eq_false_iff_ne.2 (by omega)
       have HE:=zh (show R=(⟨nx,L.set j (Own.withV L[j] (V.take Pn++⟨nm,mm.pub,ag⟩::V.drop Pn))⟩,⟨cnt,S,K1⟩,0) by
        rw[HR6.out,hput,if_neg (by rw[hnl];omega),HX.out,Own.setP_set L j hj (HIDS.out (by first | rfl | trivial))])
       have HNL:=zh hnl
       clear hput hnl h1024
       obtain⟨v00,v01,v02⟩:=B13.out.d0_3 rfl
       have hba:Below w13.heap.size w13 (w13.alloc (.cells #[.string nm,.string mm.pub,.bool ag] 82)).drew:=((Below.refl _ _).alloc (Nat.le_refl _) _).drew
       have hnv:=(At.new w13 82 #[.string nm,.string mm.pub,.bool ag]).drew
       have hz14:(w13.alloc (.cells #[.string nm,.string mm.pub,.bool ag] 82)).drew.heap.size=w13.heap.size+1:=by rw[drew_heap];exact World.size_alloc _ _
       have hvl13:∀ k,(Value.slice ua V.length uc).ownBlock=some k->w4.heap.size+3<=k/\k<w6.heap.size/\k≠w5.heap.size:=fun k hk=>⟨own_up HVJ.out k hk,Own.own_lt' HVJ.out k hk,by have:=Own.own_lt' HVJ5.out k hk;omega⟩
       have hins:=insVotes_any (w4.heap.size+3) V.length Pn w13.heap.size (.slice ua V.length uc) (V.flatMap Own.encV) [.string nm,.string mm.pub,.bool ag] _ (own_below HV13.out hba) (Own.one_V V) hPle (by omega) rfl hnv (by intro u hu;simp at hu;rcases hu with rfl | rfl | rfl <;> rfl) (fun e=>by have:=(hvl13 _ e).2.1;omega) (by rw[hz14];omega)
       have HINS:=zh hins;have HBA14:=zh hba;have HZ14:=zh hz14;have HVL:=zh hvl13
       clear hins hnv hba hz14 hvl13
       go_wp2_with fail
       refine Lex.wp_region_lex (by kernel_rfl) (by kernel_rfl) ?_
       go_wp2_with fail
       refine HINS.out.mono ?_
       rintro e w14 ⟨v',rfl,ho0,hg14,hx14⟩
       have hfl:=Own.vflat_ins V Pn ⟨nm,mm.pub,ag⟩
       have ho14:w14.ownsRow (w4.heap.size+3) 82 3 v' (V.length+1) ((V.take Pn++(⟨nm,mm.pub,ag⟩:Own.Vote)::V.drop Pn).flatMap Own.encV):=by rw[<- hfl];exact ho0
       obtain⟨va',vm',vc',rfl⟩:=own_slice ho14
       obtain rfl:=own_len ho14
       have hgua:(Value.slice ua V.length uc).ownBlock≠some g:=fun e=>own_dis HV13.out SO13.out.row (by decide) g e rfl
       have hkeep14:∀ k,k<w13.heap.size->(Value.slice ua V.length uc).ownBlock≠some k->w14.heap[k]? = w13.heap[k]? :=fun k hk hne=>(hg14.block k (by rw[HZ14.out];omega) (fun e=>hne e.symm)).trans (HBA14.out.block k hk)
       have hgl13:g<w13.heap.size:=Own.own_lt' SO13.out.row g rfl
       have r14:w14.ownsRow (w4.heap.size+3) 46 6 (.slice (some ⟨g,0,none⟩) L.length cap) L.length (Own.cellsS L us):=own_keep SO13.out.row (fun k hk=>by cases hk;exact hkeep14 g hgl13 hgua)
       obtain⟨curg,hatg⟩:=own_at r14 (g:=g) rfl
       have f5:=hatg.free (j*6+5)
       have q5:w14.cell? ⟨g,j*6+5,none⟩=some (.slice ua V.length uc):=(cell_same (hkeep14 g hgl13 hgua)).trans hc513
       have hz1314:w13.heap.size<=w14.heap.size:=by have:=hg14.size;rw[HZ14.out] at this;omega
       have HO14:=zh ho14;have HR14:=zh r14;have HK14:=zh hkeep14;have HX14:=zh hx14;have HG14:=zh hg14
       clear ho0 hg14 hx14 hfl ho14 r14 hatg hkeep14 hc513 HINS v00 v01 v02
       go_wp2_with fail
       refine Lex.Ends.intro (by kernel_rfl) ?_
       have hgl14:g<w14.heap.size:=Nat.lt_of_lt_of_le hgl13 hz1314
       have hkk:∀ k,k<w13.heap.size->(Value.slice ua V.length uc).ownBlock≠some k->k≠g->(w14.setCell ⟨g,j*6+5,none⟩ (.slice va' (V.length+1) vc')).heap[k]? = w13.heap[k]? :=fun k hk hne hkg=>(heap_setCell_other _ _ _ _ hkg).trans (HK14.out k hk hne)
       have hlc:=Own.zip_len L us SO13.out.len
       have r15:=own_put HR14.out (j*6+5) (by rw[hlc];omega) (.slice va' (V.length+1) vc')
       rw[<- Own.zip_set L us j hj SO13.out.len (V.take Pn++(⟨nm,mm.pub,ag⟩:Own.Vote)::V.drop Pn)] at r15
       have hv'g:(Value.slice va' (V.length+1) vc').ownBlock≠some g:=fun e=>own_dis HO14.out HR14.out (by decide) g e rfl
       have hu15:(w14.setCell ⟨g,j*6+5,none⟩ (.slice va' (V.length+1) vc')).ownsRow (w4.heap.size+3) 82 3 (.slice va' (V.length+1) vc') (V.take Pn++(⟨nm,mm.pub,ag⟩:Own.Vote)::V.drop Pn).length ((V.take Pn++(⟨nm,mm.pub,ag⟩:Own.Vote)::V.drop Pn).flatMap Own.encV):=by
        rw[HNL.out]
        exact own_keep HO14.out (fun k hk=>heap_setCell_other _ _ _ _ (show k≠g from fun e=>hv'g (e ▸ hk)))
       have huej:us[j]=.slice ua V.length uc:=by rw[HUE.out,<- HX.out]
       have hso:=Own.SOwn.turn SO13.out hj (u' :=.slice va' (V.length+1) vc') (nv:=V.take Pn++(⟨nm,mm.pub,ag⟩:Own.Vote)::V.drop Pn) r15 hu15 (fun i hi hi' hij=>own_keep (SO13.out.votes i hi hi') (fun k hk=>hkk k (Own.own_lt' (SO13.out.votes i hi hi') k hk) (by have:=SO13.out.ne hi' hju hij k hk;rwa [huej] at this) (fun e=>own_dis (SO13.out.votes i hi hi') SO13.out.row (by decide) k hk (by rw[e];rfl)))) (fun i hi' hij k hk=>by
        have hi:i<L.length:=by rw[<- SO13.out.len];exact hi'
        rcases HX14.out with h | h
        ·rw[h]
         have:=SO13.out.ne hi' hju hij k hk
         rwa [huej] at this
        ·rw[h]
         intro e
         have h1:=Own.own_lt' (SO13.out.votes i hi hi') k hk
         have h2:=Option.some.inj e
         have h3:=HZ14.out
         omega)
       have hgr:w4.heap.size+3<=g:=hgu
       have hvl:=HVL.out
       have hsz:w13.heap.size<=(w14.setCell ⟨g,j*6+5,none⟩ (.slice va' (V.length+1) vc')).heap.size:=by
        have:(w14.setCell ⟨g,j*6+5,none⟩ (.slice va' (V.length+1) vc')).heap.size=w14.heap.size:=by simp[World.setCell]
        omega
       have hbw:Below w.heap.size w (w14.setCell ⟨g,j*6+5,none⟩ (.slice va' (V.length+1) vc')):=by
        have h1:Below w.heap.size w w14:=(F13.out.under.trans (HBA14.out.mono F13.out.under.size)).grown HG14.out (by have:=HZ14.out;have:=F13.out.under.size;omega) (fun k hk=>by have:=(hvl k hk).1;omega)
        exact h1.setCell (p:=⟨g,j*6+5,none⟩) (by show w.heap.size<=g;omega) _
       have SOT:=zh hso
       have hg5:g≠w5.heap.size:=by
        have:=Own.own_lt' HG5.out g rfl
        omega
       have F15:=zh (F13.out.keep hbw hsz (fun k h1 h2=>hkk k (by have:=F13.out.size;have h2:k<w.heap.size+5:=h2;have h3:w.heap.size+5<=w13.heap.size:=this;omega) (fun e=>by have:=(hvl k e).1;have h2:k<w.heap.size+5:=h2;omega) (fun e=>by have h2:k<w.heap.size+5:=h2;omega)))
       have hnbv:(Value.slice ua V.length uc).ownBlock≠some NB:=fun e=>by have:=(hvl _ e).2.1;omega
       have N15:=zh (N13.out.keep (hkk NB N13.out.lt hnbv (by omega)))
       have O15a:=zh (show At w13 w5.heap.size 24 #[.int .i64 nx,.slice (some ⟨g,0,none⟩) L.length cap] from O13.out.at1 0 rfl);have O15:=zh (O15a.out.keep (hkk w5.heap.size O15a.out.lt (fun e=>(hvl _ e).2.2 rfl) (fun e=>hg5 e.symm)))
       have RS15:=zh (RS13.out.keep hsz (fun k hk hl=>hkk k hl (fun e=>hk.1 (by have:=hvl k e;omega)) (fun e=>hk.1 (by omega))))
       have RK15:=zh (RK13.out.keep hsz (fun k hk hl=>hkk k hl (fun e=>hk.1 (by have:=hvl k e;omega)) (fun e=>hk.1 (by omega))))
       clear f5 q5 hkk r15 hu15 huej hso hsz hbw hvl hv'g hlc
       generalize w14.setCell ⟨g,j*6+5,none⟩ (.slice va' (V.length+1) vc')=w15 at*
       obtain⟨o0,o1⟩:=O15.out.c2;obtain⟨n0,n1,n2⟩:=N15.out.c3
       obtain⟨x30,x31,x30f,x31f⟩:=F15.out.e3_2 rfl
       obtain⟨x40,x41,x42,x40f,x41f,x42f⟩:=F15.out.e4_3 rfl
       have HXN:=zh (show(w15.cell? ⟨NB,0,none⟩).isSome=true by rw[n0];rfl)
       go_wp2_with fail
       refine Lex.wp_region_lexN (fun k=>k=NB) [1] 3 [3] (by kernel_rfl) (by kernel_rfl) (by kernel_rfl) ?_
       simp only[Lex.wpCuts,List.take_succ_cons,List.take_zero,List.drop_succ_cons,List.drop_zero]
       go_wp2_with fail
       refine Lex.Mid.intro (fun k hk _=>by
        have h3:k≠w.heap.size+1+1+1:=by rw[hk];omega
        rw[drew_heap,drew_heap,heap_setCell_other _ _ _ _ h3,heap_setCell_other _ _ _ _ h3]) ?_
       go_wp2_with fail
       refine Lex.EndsN.intro (by kernel_rfl) ⟨⟨rfl,HXN.out⟩,trivial⟩ ?_
       go_wp2_with fail
       have g1:=F15.out.put 3 0 (.int .i64 nx) rfl
       have g2:=g1.put 3 1 (.slice (some ⟨g,0,none⟩) L.length cap) rfl
       have g3:=g2.put 4 0 (.int .i64 cnt) rfl
       have g4:=g3.put 4 1 (.slice sa' S.length sc') rfl
       have g5:=g4.put 4 2 (.slice ka' K1.length kc') rfl
       have G2:=g5.drew
       clear g1 g2 g3 g4 g5
       refine done_cct rfl rfl rfl rfl (load_row (G2.at1 3 rfl) Tryz.underlying24 rfl info_Queue) (load_row (G2.at1 4 rfl) Tryz.underlying38 rfl info_Owners) ?_
       rw[HQ.out,HE.out]
       have hst:∀ k,k≠w.heap.size+1+1+1->k≠w.heap.size+1+1+1+1->((((((w15.setCell ⟨w.heap.size+1+1+1,0,none⟩ (.int .i64 nx)).setCell ⟨w.heap.size+1+1+1,1,none⟩ (.slice (some ⟨g,0,none⟩) L.length cap)).setCell ⟨w.heap.size+1+1+1+1,0,none⟩ (.int .i64 cnt)).setCell ⟨w.heap.size+1+1+1+1,1,none⟩ (.slice sa' S.length sc')).setCell ⟨w.heap.size+1+1+1+1,2,none⟩ (.slice ka' K1.length kc')).drew).heap[k]? = w15.heap[k]? :=fun k h3 h4=>by
        rw[drew_heap,heap_setCell_other _ _ _ _ h4,heap_setCell_other _ _ _ _ h4,heap_setCell_other _ _ _ _ h4,heap_setCell_other _ _ _ _ h3,heap_setCell_other _ _ _ _ h3]
       have hsz:w15.heap.size<=((((((w15.setCell ⟨w.heap.size+1+1+1,0,none⟩ (.int .i64 nx)).setCell ⟨w.heap.size+1+1+1,1,none⟩ (.slice (some ⟨g,0,none⟩) L.length cap)).setCell ⟨w.heap.size+1+1+1+1,0,none⟩ (.int .i64 cnt)).setCell ⟨w.heap.size+1+1+1+1,1,none⟩ (.slice sa' S.length sc')).setCell ⟨w.heap.size+1+1+1+1,2,none⟩ (.slice ka' K1.length kc')).drew).heap.size:=by rw[drew_heap];simp[World.setCell]
       refine⟨⟨_,_,_,rfl,⟨_,rfl,?_⟩,?_,?_⟩,G2.under⟩
       ·exact(SOT.out.keep (fun k hk _=>hst k (by omega) (by omega))).props
       ·exact(RS15.out.keep hsz (fun k hk _=>hst k (fun e=>hk.1 (by omega)) (fun e=>hk.1 (by omega)))).mono (fun _ _ _=>trivial)
       ·exact(RK15.out.keep hsz (fun k hk _=>hst k (fun e=>hk.1 (by omega)) (fun e=>hk.1 (by omega)))).mono (fun _ _ _=>trivial)
end
section
open Go Go.RowKit Go.Maps
structure LS (w:World) (gO gQ:Nat) (o:Own.Owners) (q:Own.Queue) (sa:Option Addr) (sc:Nat) (ka:Option Addr) (kc:Nat) (qa:Option Addr) (qc:Nat):Prop where
 atO:At w gO 38 #[.int .i64 o.count,.slice sa o.spaces.length sc,.slice ka o.keys.length kc]
 atQ:At w gQ 24 #[.int .i64 q.next,.slice qa q.props.length qc]
 sp:Own.SpacesC w (.slice sa o.spaces.length sc) o.spaces
 ks:Own.KeysC w (.slice ka o.keys.length kc) o.keys
 ps:Own.PropsC w (.slice qa q.props.length qc) q.props
section
variable {w w' : World} {gO gQ:Nat} {o o' : Own.Owners} {q q' : Own.Queue} {sa ka qa sa' ka' qa' : Option Addr} {sc kc qc sc' kc' qc' : Nat}
theorem LS.below (h:LS w gO gQ o q sa sc ka kc qa qc) (hb:Below w.heap.size w w'):LS w' gO gQ o q sa sc ka kc qa qc:=
 ⟨h.atO.below hb h.atO.lt,h.atQ.below hb h.atQ.lt,h.sp.below hb,h.ks.below hb,h.ps.below hb⟩
theorem LS.ne (h:LS w gO gQ o q sa sc ka kc qa qc):gO≠gQ:=h.atO.ne h.atQ (by decide)
def lsW (w:World) (gO gQ:Nat) (o:Own.Owners) (q:Own.Queue) (sa:Option Addr) (sc:Nat) (ka:Option Addr) (kc:Nat) (qa:Option Addr) (qc:Nat):World:=
 ((((w.setCell ⟨gQ,0,none⟩ (.int .i64 q.next)).setCell ⟨gQ,1,none⟩ (.slice qa q.props.length qc)).setCell ⟨gO,0,none⟩ (.int .i64 o.count)).setCell ⟨gO,1,none⟩ (.slice sa o.spaces.length sc)).setCell ⟨gO,2,none⟩ (.slice ka o.keys.length kc)
theorem LS.put (h:LS w gO gQ o q sa sc ka kc qa qc) (hs:Own.SpacesC w (.slice sa' o'.spaces.length sc') o'.spaces) (hk:Own.KeysC w (.slice ka' o'.keys.length kc') o'.keys) (hp:Own.PropsC w (.slice qa' q'.props.length qc') q'.props):
 LS (lsW w gO gQ o' q' sa' sc' ka' kc' qa' qc') gO gQ o' q' sa' sc' ka' kc' qa' qc' :=by
 have hne:=h.ne
 have hq0:=h.atQ
 have hq1:=(hq0.set 0 (.int .i64 q'.next)).set 1 (.slice qa' q'.props.length qc')
 have ho1:=(h.atO.far (p:=⟨gQ,0,none⟩) (by simp;omega) (.int .i64 q'.next)).far (p:=⟨gQ,1,none⟩) (by simp;omega) (.slice qa' q'.props.length qc')
 have n0:Own.NoStr w gQ:=Own.NoStr.at_ hq0 rfl
 have n1:Own.NoStr ((w.setCell ⟨gQ,0,none⟩ (.int .i64 q'.next)).setCell ⟨gQ,1,none⟩ (.slice qa' q'.props.length qc')) gO:=Own.NoStr.at_ ho1 rfl
 have hz1:w.heap.size<=((w.setCell ⟨gQ,0,none⟩ (.int .i64 q'.next)).setCell ⟨gQ,1,none⟩ (.slice qa' q'.props.length qc')).heap.size:=by simp[World.setCell]
 have k1:∀ k,k≠gQ->((w.setCell ⟨gQ,0,none⟩ (.int .i64 q'.next)).setCell ⟨gQ,1,none⟩ (.slice qa' q'.props.length qc')).heap[k]? = w.heap[k]? :=fun k hk=>by rw[heap_setCell_other _ _ _ _ hk,heap_setCell_other _ _ _ _ hk]
 have s1:=Own.SpacesC.store hs n0 hz1 k1
 have s2:=Own.KeysC.store hk n0 hz1 k1
 have s3:=Own.PropsC.store hp n0 hz1 k1
 unfold lsW
 generalize (w.setCell ⟨gQ,0,none⟩ (.int .i64 q'.next)).setCell ⟨gQ,1,none⟩ (.slice qa' q'.props.length qc')=w1 at*
 have hz2:w1.heap.size<=(((w1.setCell ⟨gO,0,none⟩ (.int .i64 o'.count)).setCell ⟨gO,1,none⟩ (.slice sa' o'.spaces.length sc')).setCell ⟨gO,2,none⟩ (.slice ka' o'.keys.length kc')).heap.size:=by simp[World.setCell]
 have k2:∀ k,k≠gO->(((w1.setCell ⟨gO,0,none⟩ (.int .i64 o'.count)).setCell ⟨gO,1,none⟩ (.slice sa' o'.spaces.length sc')).setCell ⟨gO,2,none⟩ (.slice ka' o'.keys.length kc')).heap[k]? = w1.heap[k]? :=fun k hk=>by rw[heap_setCell_other _ _ _ _ hk,heap_setCell_other _ _ _ _ hk,heap_setCell_other _ _ _ _ hk]
 exact⟨((ho1.set 0 _).set 1 _).set 2 _,((hq1.far (p:=⟨gO,0,none⟩) (by simp;omega) _).far (p:=⟨gO,1,none⟩) (by simp;omega) _).far (p:=⟨gO,2,none⟩) (by simp;omega) _,Own.SpacesC.store s1 n1 hz2 k2,Own.KeysC.store s2 n1 hz2 k2,Own.PropsC.store s3 n1 hz2 k2⟩
theorem lsW_other (w:World) (gO gQ:Nat) (o:Own.Owners) (q:Own.Queue) (sa:Option Addr) (sc:Nat) (ka:Option Addr) (kc:Nat) (qa:Option Addr) (qc:Nat) (k:Nat) (h1:k≠gO) (h2:k≠gQ):(lsW w gO gQ o q sa sc ka kc qa qc).heap[k]? = w.heap[k]? :=by
 unfold lsW
 rw[heap_setCell_other _ _ _ _ h1,heap_setCell_other _ _ _ _ h1,heap_setCell_other _ _ _ _ h1,heap_setCell_other _ _ _ _ h2,heap_setCell_other _ _ _ _ h2]
theorem lsW_below (w:World) (gO gQ:Nat) (o:Own.Owners) (q:Own.Queue) (sa:Option Addr) (sc:Nat) (ka:Option Addr) (kc:Nat) (qa:Option Addr) (qc:Nat) {B:Nat} (h1:B<=gO) (h2:B<=gQ):Below B w (lsW w gO gQ o q sa sc ka kc qa qc):=
 (((((Below.refl B w).setCell (p:=⟨gQ,0,none⟩) h2 _).setCell (p:=⟨gQ,1,none⟩) h2 _).setCell (p:=⟨gO,0,none⟩) h1 _).setCell (p:=⟨gO,1,none⟩) h1 _).setCell (p:=⟨gO,2,none⟩) h1 _
structure Fits (o:Own.Owners) (q:Own.Queue):Prop where
 lp:q.props.length<=1000000
 lv:∀ x∈q.props,x.votes.length<=3000000
 ls:o.spaces.length<=3000000
 lk:o.keys.length<=800000
 lm:∀ x∈o.spaces,x.members.length<=3000000
theorem LS.vote (h:LS w gO gQ o q sa sc ka kc qa qc) (hM:MaxL w) (hf:Fits o q) (id:Int) (ag:Bool) (ap:Own.Approval) {n1 n2:Nat} {B:Nat} {cv pv:Value} (hc:w.ownsRow B 9 1 cv n1 (ap.sig.chains.map Value.string)) (hp:w.ownsRow B 9 1 pv n2 (ap.sig.path.map Value.string)) (e1:n1=ap.sig.chains.length) (e2:n2=ap.sig.path.length)
 (hal:ap.name.size<=140737488355328/\ap.sig.chains.length<=140737488355328/\ap.sig.path.length<=140737488355328) {R:Own.Queue × Own.Owners × Int} (hR:Own.vote q o id ag ap=R):
 Calls Tryz.prog 25 #[.agg #[.int .i64 q.next,.slice qa q.props.length qc],.agg #[.int .i64 o.count,.slice sa o.spaces.length sc,.slice ka o.keys.length kc],.int .i64 id,.bool ag,.agg #[.string ap.name,.int .i64 ap.sig.index,cv,pv]] w fun e w' => ∃ sa' sc' ka' kc' qa' qc',
  e=.returned (.tuple #[.agg #[.int .i64 R.1.next,.slice qa' R.1.props.length qc'],.agg #[.int .i64 R.2.1.count,.slice sa' R.2.1.spaces.length sc',.slice ka' R.2.1.keys.length kc'],.int .i64 R.2.2])/\Own.SpacesC w' (.slice sa' R.2.1.spaces.length sc') R.2.1.spaces/\Own.KeysC w' (.slice ka' R.2.1.keys.length kc') R.2.1.keys/\Own.PropsC w' (.slice qa' R.1.props.length qc') R.1.props/\Below w.heap.size w w' :=by
 subst e1 e2
 refine(rvVote_any q o id ag ap _ _ _ cv pv w hM h.ps h.sp h.ks (StrsC.own hc) (StrsC.own hp) (CapOK.own hp) hf.lp hf.lv hf.ls hf.lk hf.lm hal).mono ?_
 rintro e w' ⟨⟨qv,sv,kv,rfl,⟨pv',rfl,h1⟩,h2,h3⟩,hb⟩
 rw[hR] at h1 h2 h3 ⊢
 obtain⟨a1,c1,rfl⟩:=h1.len
 obtain⟨a2,c2,rfl⟩:=h2.len
 obtain⟨a3,c3,rfl⟩:=h3.len
 exact⟨a2,c2,a3,c3,a1,c1,rfl,h2,h3,h1,hb⟩
end
theorem LS.two {w:World} {o:Own.Owners} {q:Own.Queue} {sa ka qa:Option Addr} {sc kc qc:Nat} (hs:Own.SpacesC w (.slice sa o.spaces.length sc) o.spaces) (hk:Own.KeysC w (.slice ka o.keys.length kc) o.keys) (hp:Own.PropsC w (.slice qa q.props.length qc) q.props):
 LS ((w.alloc (.cells #[.int .i64 q.next,.slice qa q.props.length qc] 24)).alloc (.cells #[.int .i64 o.count,.slice sa o.spaces.length sc,.slice ka o.keys.length kc] 38)) (w.heap.size+1) w.heap.size o q sa sc ka kc qa qc/\Below w.heap.size w ((w.alloc (.cells #[.int .i64 q.next,.slice qa q.props.length qc] 24)).alloc (.cells #[.int .i64 o.count,.slice sa o.spaces.length sc,.slice ka o.keys.length kc] 38)):=by
 have hb:Below w.heap.size w ((w.alloc (.cells #[.int .i64 q.next,.slice qa q.props.length qc] 24)).alloc (.cells #[.int .i64 o.count,.slice sa o.spaces.length sc,.slice ka o.keys.length kc] 38)):=((Below.refl _ _).alloc (Nat.le_refl _) _).alloc (by simp) _
 exact⟨⟨At.new1 w (.cells #[.int .i64 q.next,.slice qa q.props.length qc] 24) 38 #[.int .i64 o.count,.slice sa o.spaces.length sc,.slice ka o.keys.length kc],(At.new w 24 #[.int .i64 q.next,.slice qa q.props.length qc]).alloc (.cells #[.int .i64 o.count,.slice sa o.spaces.length sc,.slice ka o.keys.length kc] 38),hs.below hb,hk.below hb,hp.below hb⟩,hb⟩
end
section
open Go
namespace Own
theorem nextOf_nil (p:ByteArray):nextOf [] p=0:=rfl
def vt (b:Nat) (ag:Bool):Vote:=⟨(mem54 b).name,(mem54 b).pub,ag⟩
theorem put0 (b:Nat) (x:Bool):putVote [] (vt b x)=[vt b x]:=rfl
theorem put1 {a b:Nat} (h:a<b) (hb:b<8) (x y:Bool):putVote [vt a x] (vt b y)=[vt a x,vt b y]:=by
 unfold putVote putVote
 rw[if_pos (show lessB (vt a x).name (vt b y).name=true from name_lt h hb)]
theorem put2 {a b c:Nat} (h:a<c) (h' : b<c) (hc:c<8) (x y z:Bool):putVote [vt a x,vt b y] (vt c z)=[vt a x,vt b y,vt c z]:=by
 unfold putVote putVote putVote
 rw[if_pos (show lessB (vt a x).name (vt c z).name=true from name_lt h hc),if_pos (show lessB (vt b y).name (vt c z).name=true from name_lt h' hc)]
theorem fits54 {n:Nat} {th nx:Int} {K:List KeyUse} {L:List Proposal} (hn:n<=8) (hK:K.length<=1000) (hL:L.length<=10) (hV:∀ p∈L,p.votes.length<=1000):Fits (own54 (space54 n th) K) ⟨nx,L⟩:=
 ⟨by show L.length ≤ _;omega,fun x hx => by have :=hV x hx;omega,by show 1 ≤ 3000000;omega,by show K.length ≤ _;omega,fun x hx => by
   have:x=space54 n th:=by simpa [own54] using hx
   rw[this]
   show(mems54 n).length<=_
   rw[mems54_len];omega⟩
theorem use_len1 (K:List KeyUse) (x:KeyUse):(use K x).length<=K.length+1:=by rw[use_put];exact putB_len _ _ _
structure AwP (q0 q1 q2 q3:Queue) (o0 o1 o2 o3:Owners) (p m:Proposal):Prop where
 o0e:o0=⟨0,[space54 3 2],[]⟩
 sub:submit ⟨5,[]⟩ 10 3 ⟨#[97,47,98]⟩ (Lane.seedB 1)=(q0,5,0)
 q0p:q0.props=[p]
 id0:0<=p.id
 id1:p.id<9223372036854775808
 pl:p.path.size<=1000000
 dl:p.digest.size<=1000000
 ok0:queueOK q0=true
 v1:vote q0 o0 5 true (ballot54 0 0 p true)=(q1,o1,0)
 a1:agreed q1 o1 5=false
 v2:vote q1 o1 5 true (ballot54 1 0 p true)=(q2,o2,0)
 a2:agreed q2 o2 5=true
 v3:vote q2 o2 5 false (ballot54 2 0 p false)=(q3,o3,0)
 a3:agreed q3 o3 5=false
 m13:merge q2 o2 13 5=(.none,.none,8)
 m12:merge q2 o2 12 5=(⟨6,[]⟩,m,0)
 mid:m.id=5
 wd:withdraw q2 5=(⟨6,[]⟩,0)
 ex:expire q2 13=⟨6,[]⟩
 f0:Fits o0 q0
 f1:Fits o1 q1
 f2:Fits o2 q2
 f3:Fits o3 q3
theorem awP:∃ q0 q1 q2 q3 o0 o1 o2 o3 p m,AwP q0 q1 q2 q3 o0 o1 o2 o3 p m:=by
 have hp:PropOK (prop54 5 ⟨#[97,47,98]⟩ (Lane.seedB 1) 10 3):=prop54_ok (by decide) (by decide) (by decide) (by decide) (digest_seed 1) (by decide) (by decide)
 have hsub:=submit_empty (nx:=5) (size:=10) (window:=3) (path:=⟨#[97,47,98]⟩) (dg:=Lane.seedB 1) (by decide) (by decide) (by decide) (digest_seed 1) (by decide) (by decide)
 have hpid:(prop54 5 ⟨#[97,47,98]⟩ (Lane.seedB 1) 10 3).id=5:=rfl
 have hpx:(prop54 5 ⟨#[97,47,98]⟩ (Lane.seedB 1) 10 3).expires=13:=rfl
 have hpv:withVs (prop54 5 ⟨#[97,47,98]⟩ (Lane.seedB 1) 10 3) []=prop54 5 ⟨#[97,47,98]⟩ (Lane.seedB 1) 10 3:=rfl
 have hpd:(prop54 5 ⟨#[97,47,98]⟩ (Lane.seedB 1) 10 3).digest.size=32:=seedB_size 1
 have hpp:(prop54 5 ⟨#[97,47,98]⟩ (Lane.seedB 1) 10 3).path.size=3:=rfl
 generalize prop54 5 ⟨#[97,47,98]⟩ (Lane.seedB 1) 10 3=p at*
 have hV0:=VInv.nil
 have hV1:=hV0.put (by simp) (vt 0 true) (name_ok 0)
 have hM1:=(ByMem.nil 3).put (b:=0) (by omega) true
 rw[show(⟨(mem54 0).name,(mem54 0).pub,true⟩:Vote)=vt 0 true from rfl] at hM1
 rw[put0] at hV1 hM1
 have hV2:=hV1.put (by simp) (vt 1 true) (name_ok 1)
 have hM2:=hM1.put (b:=1) (by omega) true
 rw[show(⟨(mem54 1).name,(mem54 1).pub,true⟩:Vote)=vt 1 true from rfl] at hM2
 rw[put1 (by omega) (by omega)] at hV2 hM2
 have hV3:=hV2.put (by simp) (vt 2 false) (name_ok 2)
 have hM3:=hM2.put (b:=2) (by omega) false
 rw[show(⟨(mem54 2).name,(mem54 2).pub,false⟩:Vote)=vt 2 false from rfl] at hM3
 rw[put2 (by omega) (by omega) (by omega)] at hV3 hM3
 have hK0:=KInv.nil
 have hK1:=hK0.use 0 1 (by decide) (by decide)
 have hK2:=hK1.use 1 1 (by decide) (by decide)
 have hK3:=hK2.use 2 1 (by decide) (by decide)
 have n1:nextOf (use [] ⟨(mem54 0).pub,1⟩) (mem54 1).pub=0:=by
  rw[nextOf_use hK0.srt,if_neg (pub_ne (a:=0) (b:=1) (by omega) (by omega) (by omega)),nextOf_nil]
 have n2:nextOf (use (use [] ⟨(mem54 0).pub,1⟩) ⟨(mem54 1).pub,1⟩) (mem54 2).pub=0:=by
  rw[nextOf_use hK1.srt,if_neg (pub_ne (a:=1) (b:=2) (by omega) (by omega) (by omega)),nextOf_use hK0.srt,if_neg (pub_ne (a:=0) (b:=2) (by omega) (by omega) (by omega)),nextOf_nil]
 have l1:=use_len1 [] ⟨(mem54 0).pub,1⟩
 have l2:=use_len1 (use [] ⟨(mem54 0).pub,1⟩) ⟨(mem54 1).pub,1⟩
 have l3:=use_len1 (use (use [] ⟨(mem54 0).pub,1⟩) ⟨(mem54 1).pub,1⟩) ⟨(mem54 2).pub,1⟩
 simp only[List.length_nil] at l1
 refine⟨⟨6,[withVs p []]⟩,⟨6,[withVs p [vt 0 true]]⟩,⟨6,[withVs p [vt 0 true,vt 1 true]]⟩,⟨6,[withVs p [vt 0 true,vt 1 true,vt 2 false]]⟩,own54 (space54 3 2) [],own54 (space54 3 2) (use [] ⟨(mem54 0).pub,1⟩),own54 (space54 3 2) (use (use [] ⟨(mem54 0).pub,1⟩) ⟨(mem54 1).pub,1⟩),own54 (space54 3 2) (use (use (use [] ⟨(mem54 0).pub,1⟩) ⟨(mem54 1).pub,1⟩) ⟨(mem54 2).pub,1⟩),p,withVs p [vt 0 true,vt 1 true],?_⟩
 refine { o0e:=rfl,sub:=by rw[hsub,hpv];rfl,q0p:=by show[withVs p []]=[p];rw[hpv],id0:=by omega,id1:=by omega,pl:=by omega,dl:=by omega,ok0:=queue_one (by decide) (by decide) (prop_ok hp hV0) (by show p.id<6;omega),v1:=?_,a1:=?_,v2:=?_,a2:=?_,v3:=?_,a3:=?_,m13:=?_,m12:=?_,mid:=hpid,wd:=?_,ex:=?_,f0:=?_,f1:=?_,f2:=?_,f3:=?_ }
 ·have:=vote54 (n:=3) (b:=0) (i:=0) (th:=2) (nx:=6) (ag:=true) (by omega) (by decide) (by decide) hK0 hp hV0 (by simp) (by omega) (by decide) (by omega) (by omega) (Int.le_refl _)
  rw[hpid] at this
  exact this
 ·have:=agreed54 (n:=3) (th:=2) (nx:=6) (by omega) (by decide) (by decide) hK1 hp hV1 hM1 (by omega) (by decide)
  rw[hpid] at this
  exact this
 ·have:=vote54 (n:=3) (b:=1) (i:=0) (th:=2) (nx:=6) (ag:=true) (by omega) (by decide) (by decide) hK1 hp hV1 (by simp) (by omega) (by decide) (by omega) (by omega) (by rw[n1];exact Int.le_refl _)
  rw[hpid,show(⟨(mem54 1).name,(mem54 1).pub,true⟩:Vote)=vt 1 true from rfl,put1 (by omega) (by omega)] at this
  exact this
 ·have:=agreed54 (n:=3) (th:=2) (nx:=6) (by omega) (by decide) (by decide) hK2 hp hV2 hM2 (by omega) (by decide)
  rw[hpid] at this
  exact this
 ·have:=vote54 (n:=3) (b:=2) (i:=0) (th:=2) (nx:=6) (ag:=false) (by omega) (by decide) (by decide) hK2 hp hV2 (by simp) (by omega) (by decide) (by omega) (by omega) (by rw[n2];exact Int.le_refl _)
  rw[hpid,show(⟨(mem54 2).name,(mem54 2).pub,false⟩:Vote)=vt 2 false from rfl,put2 (by omega) (by omega) (by omega)] at this
  exact this
 ·have:=agreed54 (n:=3) (th:=2) (nx:=6) (by omega) (by decide) (by decide) hK3 hp hV3 hM3 (by omega) (by decide)
  rw[hpid] at this
  exact this
 ·have:=mergeOK54 (n:=3) (th:=2) (nx:=6) (size:=13) (by omega) (by decide) (by decide) hK2 hp hV2 hM2 (by omega) (by decide)
  rw[hpid,hpx] at this
  exact this
 ·have:=mergeOK54 (n:=3) (th:=2) (nx:=6) (size:=12) (by omega) (by decide) (by decide) hK2 hp hV2 hM2 (by omega) (by decide)
  rw[hpid,hpx] at this
  exact this
 ·have:=withdraw54 (nx:=6) hp hV2 (by omega) (by decide)
  rw[hpid] at this
  exact this
 ·exact expire54 (nx:=6) hp hV2 (by omega) (by decide) (by omega)
 ·exact fits54 (by omega) (by simp) (by simp) (fun x hx=>by rw[List.mem_singleton.1 hx];simp[withVs])
 ·exact fits54 (by omega) (by omega) (by simp) (fun x hx=>by rw[List.mem_singleton.1 hx];simp[withVs])
 ·exact fits54 (by omega) (by omega) (by simp) (fun x hx=>by rw[List.mem_singleton.1 hx];simp[withVs])
 ·exact fits54 (by omega) (by omega) (by simp) (fun x hx=>by rw[List.mem_singleton.1 hx];simp[withVs])
end Own
end
end Go.Proofs.YtnijhlphcjjpbaaGreatDoor
