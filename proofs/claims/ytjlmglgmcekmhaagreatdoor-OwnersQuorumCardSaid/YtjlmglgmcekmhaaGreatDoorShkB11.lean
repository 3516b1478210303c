/- The program's operations on owners: their messages. -/
import Derived.Test.YtjlmglgmcekmhaaGreatDoorShkB10
set_option linter.unusedVariables false
set_option linter.unusedSimpArgs false
set_option maxRecDepth 100000
set_option maxHeartbeats 8000000
namespace Go.Proofs.YtjlmglgmcekmhaaGreatDoor
section
open Go Go.RowKit Go.Maps
namespace Own
theorem GL {op:Op}(h:LU op):(Dj op).size<=2000:=by
 obtain⟨k0,k4,hpre,hal,hml,hms,t0,t8,hnm,hpb⟩:=h
 have h1:=Cod.Co op.kind.toNat
 have h2:=Cz op.pre
 have h3:=Cod.Co op.members.length
 have h4:=iJ op.members hms op.members.length
 rw[List.take_length] at h4
 have h5:=Cod.Co op.threshold.toNat
 have h6:=Cz op.name
 have h7:=Cz op.pub
 unfold Dj
 simp only[Sha.Ah]
 omega
end Own
theorem Mr (o:Own.Ar)(op:Own.Op)(sv kv mv av:Value)(w:World)(hM:IY w)(hs:∃ a n c,sv=.slice a n c)(hk:∃ a n c,kv=.slice a n c)(hm:Own.Ag w mv op.members)(ha:∃ a c,av=.slice a op.Aa.length c)(hl:op.members.length<=140737488355328):
 Calls Tryz.prog 16 #[.agg #[.int .i64 o.count,sv,kv],Own.opV op mv av] w fun e w' => e=.returned (.tuple #[.string (Own.Bc o op).1,.int .i64 (Own.Bc o op).2])/\Below w.heap.size w w':=by
 obtain⟨R,hR⟩:∃ R,R=Own.Bc o op:=⟨_,rfl⟩
 rw[<- hR]
 unfold Own.Bc at hR
 obtain⟨cnt,hcnt⟩:∃ c,c=o.count:=⟨_,rfl⟩
 rw[<- hcnt] at hR ⊢
 obtain⟨sa,sn,sc,rfl⟩:=hs
 obtain⟨ka,kn,kc,rfl⟩:=hk
 obtain⟨ma,mc,rfl⟩:=hm.len
 obtain⟨aa,ac,rfl⟩:=ha
 have HR:=zh hR
 clear hR hcnt
 have F1:=zh (show Aw w _ [(25,#[.int .i64 cnt,.slice sa sn sc,.slice ka kn kc]),(29,#[.int .i64 op.kind,.string op.pre,.slice ma op.members.length mc,.int .i64 op.threshold,.string op.name,.string op.pub,.slice aa op.Aa.length ac])] from(((Dm.nil w).push 25 #[.int .i64 cnt,.slice sa sn sc,.slice ka kn kc]).push 29 #[.int .i64 op.kind,.string op.pre,.slice ma op.members.length mc,.int .i64 op.threshold,.string op.name,.string op.pub,.slice aa op.Aa.length ac]).boxes)
 have hcf:=fun W (hW:Below w.heap.size w W)=>J9 op (.slice ma op.members.length mc) (.slice aa op.Aa.length ac) W (hM.below hW) (hm.below hW) ⟨_,_,rfl⟩ hl
 have hcb:=fun(hz:Own.LU op) W (hW:Below w.heap.size w W)=>QS op (.slice ma op.members.length mc) (.slice aa op.Aa.length ac) W (hm.below hW) ⟨_,_,rfl⟩ hz
 unfold Own.opV at hcf hcb
 have HCF:=zh hcf;have HCB:=zh hcb
 unfold Own.opV
 clear hM hm hcf hcb
 have x00:((w.alloc (.cells #[.int .i64 cnt,.slice sa sn sc,.slice ka kn kc] 25)).alloc (.cells #[.int .i64 op.kind,.string op.pre,.slice ma op.members.length mc,.int .i64 op.threshold,.string op.name,.string op.pub,.slice aa op.Aa.length ac] 29)).cell? ⟨w.heap.size,0,none⟩=some (.int .i64 cnt):=F1.out.cell 0 0 rfl rfl
 have x10:((w.alloc (.cells #[.int .i64 cnt,.slice sa sn sc,.slice ka kn kc] 25)).alloc (.cells #[.int .i64 op.kind,.string op.pre,.slice ma op.members.length mc,.int .i64 op.threshold,.string op.name,.string op.pub,.slice aa op.Aa.length ac] 29)).cell? ⟨w.heap.size+1,0,none⟩=some (.int .i64 op.kind):=F1.out.cell 1 0 rfl rfl
 have x11:((w.alloc (.cells #[.int .i64 cnt,.slice sa sn sc,.slice ka kn kc] 25)).alloc (.cells #[.int .i64 op.kind,.string op.pre,.slice ma op.members.length mc,.int .i64 op.threshold,.string op.name,.string op.pub,.slice aa op.Aa.length ac] 29)).cell? ⟨w.heap.size+1,1,none⟩=some (.string op.pre):=F1.out.cell 1 1 rfl rfl
 have x12:((w.alloc (.cells #[.int .i64 cnt,.slice sa sn sc,.slice ka kn kc] 25)).alloc (.cells #[.int .i64 op.kind,.string op.pre,.slice ma op.members.length mc,.int .i64 op.threshold,.string op.name,.string op.pub,.slice aa op.Aa.length ac] 29)).cell? ⟨w.heap.size+1,2,none⟩=some (.slice ma op.members.length mc):=F1.out.cell 1 2 rfl rfl
 have x13:((w.alloc (.cells #[.int .i64 cnt,.slice sa sn sc,.slice ka kn kc] 25)).alloc (.cells #[.int .i64 op.kind,.string op.pre,.slice ma op.members.length mc,.int .i64 op.threshold,.string op.name,.string op.pub,.slice aa op.Aa.length ac] 29)).cell? ⟨w.heap.size+1,3,none⟩=some (.int .i64 op.threshold):=F1.out.cell 1 3 rfl rfl
 have x14:((w.alloc (.cells #[.int .i64 cnt,.slice sa sn sc,.slice ka kn kc] 25)).alloc (.cells #[.int .i64 op.kind,.string op.pre,.slice ma op.members.length mc,.int .i64 op.threshold,.string op.name,.string op.pub,.slice aa op.Aa.length ac] 29)).cell? ⟨w.heap.size+1,4,none⟩=some (.string op.name):=F1.out.cell 1 4 rfl rfl
 have x15:((w.alloc (.cells #[.int .i64 cnt,.slice sa sn sc,.slice ka kn kc] 25)).alloc (.cells #[.int .i64 op.kind,.string op.pre,.slice ma op.members.length mc,.int .i64 op.threshold,.string op.name,.string op.pub,.slice aa op.Aa.length ac] 29)).cell? ⟨w.heap.size+1,5,none⟩=some (.string op.pub):=F1.out.cell 1 5 rfl rfl
 have x16:((w.alloc (.cells #[.int .i64 cnt,.slice sa sn sc,.slice ka kn kc] 25)).alloc (.cells #[.int .i64 op.kind,.string op.pre,.slice ma op.members.length mc,.int .i64 op.threshold,.string op.name,.string op.pub,.slice aa op.Aa.length ac] 29)).cell? ⟨w.heap.size+1,6,none⟩=some (.slice aa op.Aa.length ac):=F1.out.cell 1 6 rfl rfl
 go_enter Tryz.func16,Tryz.ntmps16
 by_cases h0:cnt<0
 ·have d0:decide (cnt<0)=true:=decide_eq_true h0
  have HE:=zh (show R=(⟨#[]⟩,1) by rw[HR.out,decide_eq_false (show ¬ 0<=cnt by omega)];rfl)
  go_wp2_with fail
  go_ret2
  exact⟨by rw[HE.out];rfl,F1.out.under⟩
 have d0:decide (cnt<0)=false:=decide_eq_false h0
 by_cases h4:1099511627776<cnt
 ·have d4:decide ((1099511627776:Int)<cnt)=true:=decide_eq_true h4
  have HE:=zh (show R=(⟨#[]⟩,1) by rw[HR.out,decide_eq_true (show 0<=cnt by omega),decide_eq_false (show ¬ cnt<=Own.late by unfold Own.late;omega)];rfl)
  go_wp2_with fail
  go_ret2
  exact⟨by rw[HE.out];rfl,F1.out.under⟩
 have d4:decide ((1099511627776:Int)<cnt)=false:=decide_eq_false h4
 go_upto_region 1 with fail
 generalize ((w.alloc (.cells #[.int .i64 cnt,.slice sa sn sc,.slice ka kn kc] 25)).alloc (.cells #[.int .i64 op.kind,.string op.pre,.slice ma op.members.length mc,.int .i64 op.threshold,.string op.name,.string op.pub,.slice aa op.Aa.length ac] 29))=w1 at*
 go_wp2_with fail
 refine(HCF.out w1 F1.out.under).mono ?_
 rintro e w2 ⟨rfl,hb2⟩
 have F2:=zh (F1.out.step hb2);clear hb2
 (try clear x00);(try clear x10);(try clear x11);(try clear x12);(try clear x13);(try clear x14);(try clear x15);(try clear x16)
 have x00:w2.cell? ⟨w.heap.size,0,none⟩=some (.int .i64 cnt):=F2.out.cell 0 0 rfl rfl
 obtain⟨x10,x11,x12,x13,x14,x15,x16⟩:=F2.out.LW rfl
 cases hok:Own.Ez op with
 | false =>
   have HE:=zh (show R=(⟨#[]⟩,1) by rw[HR.out,hok,Bool.and_false];rfl)
   clear hok
   go_wp2_with fail
   go_ret2
   exact⟨by rw[HE.out];rfl,F2.out.under⟩
 | true=>
 have hz:=Own.LU.of hok
 have hbz:=Own.GL hz
 obtain⟨n,rfl⟩:∃ n:Nat,cnt=n:=⟨cnt.toNat,by omega⟩
 have HE0:=zh (show R=(Sig.b1 12++(Cod.uns n++Own.Dj op),0) by
  rw[HR.out,hok,decide_eq_true (show(0:Int)<=(n:Int) by omega),decide_eq_true (show(n:Int)<=Own.late by unfold Own.late;omega)]
  rfl)
 have wU:=zh (HCB.out hz)
 clear hok HR HCB hz
 have hlt:w.heap.size+1<w2.heap.size:=F2.out.lt (i:=1) (by show 1<2;omega)
 have X1:=zh (zi x10)
 go_upto_region 3 with fail
 refine Lex.zn (fun i=>i=w.heap.size+1) [4] 6 [3,3] ?_
 simp only[Lex.Br,zd]
 go_wp2_with fail
 refine(EM n _ (by omega)).mono ?_
 rintro e w3 ⟨rfl,hb3⟩
 have B3:=zh (show Below w2.heap.size w2 w3 from(Below.refl w2.heap.size w2).drew.trans hb3)
 have F3:=zh (F2.out.step B3.out);clear hb3
 (try clear x00);(try clear x10);(try clear x11);(try clear x12);(try clear x13);(try clear x14);(try clear x15);(try clear x16)
 obtain⟨x10,x11,x12,x13,x14,x15,x16⟩:=F3.out.LW rfl
 obtain⟨U,hU⟩:∃ U,U=Cod.uns n:=⟨_,rfl⟩
 rw[<- hU] at HE0 ⊢
 have zU:U.size<=10:=by rw[hU];exact Cod.Co n
 clear hU
 obtain⟨T,hT⟩:∃ T:ByteArray,T=⟨#[12]⟩:=⟨_,rfl⟩
 have zT:T.size=1:=by rw[hT];rfl
 have HT:=zh hT;clear hT
 go_wp2_with fail
 refine Lex.Mid.intro (fun i hi hl=>by subst hi;exact B3.out.block _ hl) ?_
 go_wp2_with fail
 refine(wU.out w3 F3.out.under).mono ?_
 rintro e w4 ⟨rfl,hb4⟩
 have B4:=zh (B3.out.trans (hb4.mono B3.out.size))
 have F4:=zh (F2.out.step B4.out);clear hb4
 (try clear x00);(try clear x10);(try clear x11);(try clear x12);(try clear x13);(try clear x14);(try clear x15);(try clear x16)
 obtain⟨V,hV⟩:∃ V,V=Own.Dj op:=⟨_,rfl⟩
 rw[<- hV] at HE0 hbz ⊢
 clear hV
 go_wp2_with fail
 refine Lex.Mid.intro (fun i hi hl=>by subst hi;exact B4.out.block _ hl) ?_
 go_wp2_with fail
 refine Lex.zk ⟨⟨rfl,X1.out⟩,trivial⟩ ?_
 go_wp2_with fail
 go_ret2
 refine⟨?_,F4.out.under⟩
 rw[HE0.out]
 unfold Sig.b1
 rw[ByteArray.append_assoc]
 rfl
namespace Own
theorem Ms:∀ (A:List Space) (ua:List Value) (B:List Space) (ub:List Value),ua.length=A.length->AO (A++B) (ua++ub)=AO A ua++AO B ub:=fun A ua B ub h=>by
 unfold AO
 rw[List.zipWith_append h.symm,List.flatten_append]
theorem EO:∀ (S:List Space) (us:List Value),us.length=S.length->∀ i,(AO S us).take (i*3)=AO (S.take i) (us.take i)/\(AO S us).drop (i*3)=AO (S.drop i) (us.drop i)
 | [],[],_,i=>by simp[AO]
 | [],_::_,h,_=>by cases h
 | _::_,[],h,_=>by cases h
 | s :: S,u :: us,h,i => by
   cases i with
   | zero=>exact⟨by simp[AO],by simp⟩
   | succ i =>
     obtain⟨h1,h2⟩:=EO S us (by simpa using h) i
     have hl:(encS s u).length=3:=rfl
     have e:AO (s::S) (u::us)=encS s u++AO S us:=rfl
     rw[e,List.take_append,List.drop_append,hl,show(i+1)*3-3=i*3 by omega,h1,h2,List.take_of_length_le (by omega),List.drop_of_length_le (by omega),List.take_succ_cons,List.take_succ_cons,List.drop_succ_cons,List.drop_succ_cons]
     exact⟨rfl,rfl⟩
theorem Qh {B:Nat}{w:World}{v:Value}{S:List Space}{us:List Value}{F:Nat->Prop}(hl:us.length=S.length)(hr:w.ownsRow B 39 3 v S.length (AO S us))(hF:∀ k,v.ownBlock=some k->F k)(hm:∀ i (h:i<S.length) (h' : i<us.length),Au 2 Eh F w us[i] S[i].members):Au 3 Fw F w v S:=by
 refine Au.Ry (css:=List.zipWith encS S us) (Bh.own hr) rfl (by simp[hl]) hF (fun i hi hi' => ?_)
 have h2:i<us.length:=by rw[hl];exact hi
 rw[List.getElem_zipWith]
 exact⟨rfl,us[i],rfl,hm i hi h2⟩
theorem Cg.mem_grown {B:Nat}{w w' : World}{v:Value}{S:List Space}{us:List Value}(h:Cg B w v S us)(hk:∀ k,k<w.heap.size->v.ownBlock≠some k->w'.heap[k]? = w.heap[k]?){F:Nat->Prop}(hF:∀ k,B<=k->F k)(i:Nat)(hi:i<S.length)(hi' : i<us.length):Au 2 Eh F w' us[i] S[i].members:=by
 have hm:=h.Ih i hi hi'
 have hm' : w'.ownsRow B 76 2 us[i] S[i].members.length (S[i].members.flatMap CU):=Af hm (fun k e=>hk k (FI hm k e) (fun e2=>Iz hm h.row (by decide) k e e2))
 exact Cy (enc:=CU) (fun _=>rfl) (fun _=>rfl) (Bh.own hm') rfl (fun k hk=>hF k (Al hm' k hk))
theorem Cg.ins {B B' : Nat}{w w' : World}{v v' u:Value}{S:List Space}{us:List Value}{x:Space}{i:Nat}(h:Cg B w v S us)(hi:i<=S.length)(hr:w'.ownsRow B' 39 3 v' (S.length+1) ((AO S us).take (i*3)++(encS x u++(AO S us).drop (i*3))))(hk:∀ k,k<w.heap.size->v.ownBlock≠some k->w'.heap[k]? = w.heap[k]?)
 {F:Nat->Prop} (hF:∀ k,B<=k->F k) (hv:∀ k,v'.ownBlock=some k->F k) (hu:Au 2 Eh F w' u x.members):Au 3 Fw F w' v' (S.take i++x::S.drop i):=by
 have hiu:i<=us.length:=by rw[h.len];exact hi
 have hl:(us.take i++u::us.drop i).length=(S.take i++x::S.drop i).length:=by simp[h.len]
 have hz:(S.take i++x::S.drop i).length=S.length+1:=by simp;omega
 have hc:AO (S.take i++x::S.drop i) (us.take i++u::us.drop i)=(AO S us).take (i*3)++(encS x u++(AO S us).drop (i*3)):=by
  rw[Ms _ _ _ _ (by simp[h.len]),(EO S us h.len i).1,(EO S us h.len i).2]
  rfl
 refine Qh (us:=us.take i++u::us.drop i) hl (by rw[hz,hc];exact hr) hv (fun j hj hj' => ?_)
 by_cases h1:j<i
 ·rw[List.getElem_append_left (by simp;omega),List.getElem_append_left (by simp;omega),List.getElem_take,List.getElem_take]
  exact h.mem_grown hk hF j (by omega) (by omega)
 ·have e1:(us.take i).length=i:=by simp;omega
  have e2:(S.take i).length=i:=by simp;omega
  rw[List.getElem_append_right (by omega),List.getElem_append_right (by omega)]
  simp only[e1,e2]
  by_cases h2:j=i
  ·subst h2
   simp only[Nat.sub_self,List.getElem_cons_zero]
   exact hu
  ·obtain⟨q,hq⟩:∃ q,j-i=q+1:=⟨j-i-1,by omega⟩
   simp only[hq,List.getElem_cons_succ,List.getElem_drop]
   exact h.mem_grown hk hF (i+q) (by rw[hz] at hj;omega) (by rw[hl,hz] at hj';rw[h.len];omega)
theorem Cg.del {B B' : Nat}{w w' : World}{v v' : Value}{S:List Space}{us:List Value}{i:Nat}(h:Cg B w v S us)(hi:i<S.length)(hr:w'.ownsRow B' 39 3 v' (S.length-1) ((AO S us).take (i*3)++(AO S us).drop ((i+1)*3)))(hk:∀ k,k<w.heap.size->v.ownBlock≠some k->w'.heap[k]? = w.heap[k]?)
 {F:Nat->Prop} (hF:∀ k,B<=k->F k) (hv:∀ k,v'.ownBlock=some k->F k):Au 3 Fw F w' v' (S.take i++S.drop (i+1)):=by
 have hl:(us.take i++us.drop (i+1)).length=(S.take i++S.drop (i+1)).length:=by simp[h.len]
 have hz:(S.take i++S.drop (i+1)).length=S.length-1:=by simp;omega
 have hc:AO (S.take i++S.drop (i+1)) (us.take i++us.drop (i+1))=(AO S us).take (i*3)++(AO S us).drop ((i+1)*3):=by
  rw[Ms _ _ _ _ (by simp[h.len]),(EO S us h.len i).1,(EO S us h.len (i+1)).2]
 refine Qh (us:=us.take i++us.drop (i+1)) hl (by rw[hz,hc];exact hr) hv (fun j hj hj' => ?_)
 have hul:=h.len
 by_cases h1:j<i
 ·rw[List.getElem_append_left (by simp;omega),List.getElem_append_left (by simp;omega),List.getElem_take,List.getElem_take]
  exact h.mem_grown hk hF j (by omega) (by omega)
 ·have e1:(us.take i).length=i:=by simp;omega
  have e2:(S.take i).length=i:=by simp;omega
  rw[List.getElem_append_right (by omega),List.getElem_append_right (by omega)]
  simp only[e1,e2,List.getElem_drop]
  exact h.mem_grown hk hF (i+1+(j-i)) (by rw[hz] at hj;omega) (by rw[hl,hz] at hj';omega)
def Vw (w:World)(g i:Nat)(x:Space)(u:Value):World:=((w.setCell ⟨g,i*3,none⟩ (.string x.pre)).setCell ⟨g,i*3+1,none⟩ u).setCell ⟨g,i*3+2,none⟩ (.int .i64 x.threshold)
theorem Uo (w:World)(g i:Nat)(x:Space)(u:Value){k:Nat}(h:k≠g):(Vw w g i x u).heap[k]? = w.heap[k]? :=by
 unfold Vw
 rw[zo h,zo h,zo h]
theorem nX (w:World)(g i:Nat)(x:Space)(u:Value):(Vw w g i x u).heap.size=w.heap.size:=by simp[Vw,World.setCell]
theorem Cg.put {B g c:Nat}{w:World}{S:List Space}{us:List Value}{i:Nat}(h:Cg B w (.slice (some ⟨g,0,none⟩) S.length c) S us)(hi:i<S.length)(x:Space)(u:Value){F:Nat->Prop}(hF:∀ k,B<=k->F k)(hu:Au 2 Eh (fun k=>F k/\k≠g) w u x.members):
 Au 3 Fw F (Vw w g i x u) (.slice (some ⟨g,0,none⟩) S.length c) (S.set i x):=by
 have hcl:=J5 S us h.len
 have hgB:B<=g:=Al h.row g rfl
 have hr:(Vw w g i x u).ownsRow B 39 3 (.slice (some ⟨g,0,none⟩) S.length c) (S.set i x).length (AO (S.set i x) (us.set i u)):=by
  rw[List.length_set,Nj S us i hi h.len x u]
  unfold Vw
  exact Ig (Ig (Ig h.row _ (by omega) _) _ (by rw[List.length_set];omega) _) _ (by rw[List.length_set,List.length_set];omega) _
 have e:S.length=(S.set i x).length:=by rw[List.length_set]
 rw[e] at hr ⊢
 refine Qh (us:=us.set i u) (by simp[h.len]) (by rw[<- e] at hr ⊢;exact hr) (fun k hk=>by cases hk;exact hF g hgB) (fun j hj hj' => ?_)
 rw[List.length_set] at hj hj'
 by_cases hij:i=j
 ·subst hij
  rw[List.getElem_set_self,List.getElem_set_self]
  exact(hu.keep (by rw[nX];exact Nat.le_refl _) (fun k hk _=>Uo w g i x u hk.2)).mono (fun k hk _=>hk.1)
 ·rw[List.getElem_set_ne hij,List.getElem_set_ne hij]
  exact h.mem_grown (fun k _ hk=>Uo w g i x u (fun e=>hk (by rw[e];rfl))) hF j hj hj'
def Ii (s:Space)(M:List Member):Space:=⟨s.pre,M,s.threshold⟩
theorem QV:∀ (S:List Space) (us:List Value) (i:Nat) (hi:i<S.length) (M:List Member),AO (S.set i (Ii S[i] M)) us=AO S us
 | [],_,i,hi,_=>by cases hi
 | s :: S,[],i,_,_ => by
   cases i<;>rfl
 | s::S,u::us,0,_,_=>rfl
 | s :: S,u :: us,i + 1,hi,M => by
   have hi2:i<S.length:=by simpa using hi
   have:=QV S us i hi2 M
   show encS s u++AO (S.set i (Ii S[i] M)) us=encS s u++AO S us
   rw[this]
theorem Cg.turn {B:Nat}{w w' : World}{v:Value}{S:List Space}{us:List Value}{i:Nat}(h:Cg B w v S us)(hi:i<S.length)(hi' : i<us.length){M:List Member}(hM:w'.ownsRow B 76 2 us[i] M.length (M.flatMap CU))(hk:∀ k,us[i].ownBlock≠some k->w'.heap[k]? = w.heap[k]?):Cg B w' v (S.set i (Ii S[i] M)) us:=by
 refine⟨by simp[h.len],?_,fun j hj hj' => ?_,h.apart⟩
 ·rw[List.length_set,QV S us i hi M]
  exact Af h.row (fun k e=>hk k (fun e2=>Iz (h.Ih i hi hi') h.row (by decide) k e2 e))
 ·rw[List.length_set] at hj
  by_cases hij:i=j
  ·subst hij
   rw[List.getElem_set_self]
   exact hM
  ·rw[List.getElem_set_ne hij]
   refine Af (h.Ih j hj hj') (fun k e=>hk k (fun e2=>?_))
   rcases Nat.lt_or_ge i j with g|g
   ·exact(List.pairwise_iff_getElem.1 h.apart) i j hi' hj' g k e2 e
   ·exact(List.pairwise_iff_getElem.1 h.apart) j i hj' hi' (by omega) k e e2
theorem WR (M:List Member):(M.flatMap CU).length=M.length*2:=by
 induction M with
 | nil=>rfl
 | cons x M ih=>rw[List.flatMap_cons,List.length_append,ih,List.length_cons];show 2+_=_;omega
theorem WS:∀ (M:List Member) (i:Nat) (hi:i<M.length) (c:Nat) (_:c<2),(M.flatMap CU)[i*2+c]? = (CU M[i])[c]?
 | [],i,hi,_,_=>by cases hi
 | x :: M,0,_,c,hc => by
   rw[List.flatMap_cons,Nat.zero_mul,Nat.zero_add,List.getElem?_append_left (by show c<2;exact hc)]
   rfl
 | x :: M,i + 1,hi,c,hc => by
   rw[List.flatMap_cons,List.getElem?_append_right (by show 2<=_;omega)]
   have:=WS M i (by simpa using hi) c hc
   show(M.flatMap CU)[(i+1)*2+c-2]? = _
   rw[show(i+1)*2+c-2=i*2+c by omega,this]
   rfl
theorem WT:∀ (M:List Member) (i:Nat) (hi:i<M.length) (p:ByteArray),(M.set i ⟨M[i].name,p⟩).flatMap CU=(M.flatMap CU).set (i*2+1) (.string p)
 | [],i,hi,_=>by cases hi
 | x::M,0,_,p=>rfl
 | x :: M,i + 1,hi,p => by
   have hi2:i<M.length:=by simpa using hi
   have ih:=WT M i hi2 p
   show CU x++(M.set i ⟨M[i].name,p⟩).flatMap CU=(CU x++M.flatMap CU).set ((i+1)*2+1) (.string p)
   rw[ih,List.set_append_right _ _ (by show 2<=_;omega)]
   congr 2
   show i*2+1=(i+1)*2+1-2
   omega
end Own
namespace Lex
section
variable {P:Program} {ops:Array Oper} {Q:Exit->Act->World->Prop}
abbrev Grown (w w' : World):Prop:=Below w.heap.size w w'
structure Kept (lo:Nat) (w1 w' : World):Prop where
 size:w1.heap.size<=w'.heap.size
 block:∀ b,lo<=b->b<w1.heap.size->w'.heap[b]? = w1.heap[b]?
theorem Kept.refl (lo:Nat)(w:World):Kept lo w w:=⟨Nat.le_refl _,fun _ _ _=>rfl⟩
theorem Kept.of_below {lo:Nat}{w w' : World}(h:Below w.heap.size w w'):Kept lo w w':=⟨h.size,fun b _ hb=>h.block b hb⟩
theorem Kept.grown {lo:Nat}{w1 w w' : World}(h:Kept lo w1 w)(hg:Grown w w'):Kept lo w1 w' :=
 ⟨Nat.le_trans h.size hg.size,fun b h1 h2=>(hg.block b (Nat.lt_of_lt_of_le h2 h.size)).trans (h.block b h1 h2)⟩
theorem Kept.kept {lo st:Nat}{w1 w w' : World}(h:Kept lo w1 w)(hs:st<=lo)(hg:Kept st w w'):Kept lo w1 w' :=
 ⟨Nat.le_trans h.size hg.size,fun b h1 h2=>(hg.block b (Nat.le_trans hs h1) (Nat.lt_of_lt_of_le h2 h.size)).trans (h.block b h1 h2)⟩
theorem Kept.at_ {w w' : World}{cs:Array Value}{t:TypeId}(h:Kept w.heap.size (w.alloc (.cells cs t)) w'):At w' w.heap.size t cs:=by
 have:=At.new w t cs
 unfold At at this ⊢
 rw[h.block _ (Nat.le_refl _) (by simp),this]
def Off (iv:List (Nat × Nat))(lo hi:Nat):Prop:=∀ x∈iv,hi<=x.1\/x.2<=lo
def Bd (st:Nat)(iv:List (Nat × Nat))(w:World):Prop:=st<=w.heap.size/\∀ x∈iv,x.2<=w.heap.size
theorem DR {w w' : World}(h:Grown w w'):More w w':=fun i o hi=>by
 rw[h.block i (Array.getElem?_eq_some_iff.1 hi).1]
 exact hi
theorem Makes.below {α : Type}{s:Sem α}{w w' : World}{a : α}(h:Makes P s)(hr:s.run P w=.ok a w'):Below w.heap.size w w':=by
 induction s generalizing w w' with
 | pure x =>
   simp only[Sem.run,Result.ok.injEq] at hr
   obtain⟨rfl,rfl⟩:=hr
   exact Below.refl _ _
 | program k ih=>exact ih P h hr
 | mark m k ih=>exact ih h hr
 | halt h0=>simp[Sem.run] at hr
 | load m ad k ih =>
   simp only[Sem.run] at hr
   split at hr
   ·exact ih _ (h _) hr
   ·split at hr
    ·exact ih _ (h _) hr
    ·simp at hr
 | getObj r k ih =>
   simp only[Sem.run] at hr
   split at hr
   ·simp at hr
   ·exact ih _ (h _) hr
   ·simp at hr
 | new o k ih =>
   simp only[Sem.run] at hr
   have h1:Below w.heap.size w { w with heap:=w.heap.push o } :=⟨rfl,rfl,rfl,by simp,fun k hk=>by
    show(w.heap.push o)[k]? = _
    rw[Array.getElem?_push]
    simp[Nat.ne_of_lt hk]⟩
   exact h1.trans ((ih _ (h _) hr).mono h1.size)
 | store m ad v k ih=>exact h.elim
 | shape r k ih=>exact h.elim
 | freeze ad n k ih=>exact h.elim
 | frozen ad k ih=>exact h.elim
 | setObj r o k ih=>exact h.elim
 | choose q k ih =>
   simp only[Sem.run] at hr
   split at hr
   ·exact((h _).run hr).elim
   ·exact((h _).run hr).elim
 | sys c k ih=>exact h.elim
theorem Qi {s:Sem Value}(h:Makes P s){n:Next}{w w' : World}(hr:(s >>= fun x=>pure (.value x):Sem Next).run P w=.ok n w'):Below w.heap.size w w':=by
 obtain⟨v,rfl,hv⟩:=Nw hr
 exact h.below hv
theorem tL {o:Oper}{ρ : Operand->Value}(hk:kind P o=2){n:Next}{w w' : World}(hr:(execOp ρ o).run P w=.ok n w'):Below w.heap.size w w':=by
 obtain⟨dst,op,type,pos,after,guard⟩:=o
 cases op<;>simp only[kind] at hk<;>try (exact absurd hk (by decide))
 case alloc t=>exact Qi (Qw _) hr
 case box t x=>exact Qi (VJ _ _) hr
 case buildSlice t n ps=>exact Qi (IE _ _ _) hr
 all_goals (split at hk<;>cases hk)
theorem Yl.Yz {o:Oper}{a:Act}{w w' : World}{v:Value}(h:Yl P ops o a w v w')(hk:kind P o=2):Below w.heap.size w w':=by
 rcases h with ⟨_,hr⟩|⟨_,_,rfl⟩
 ·exact tL hk hr
 ·exact Below.refl _ _
theorem Uq {a a' : Act}{k:Nat}{o:Oper}(hk:ops[k]? = some o)(hkd:kind P o=0)(hg:GH P ops a' = true)(hsame:needs o=true->∀ t,t∈o.looksAt ops->a'.tmps[t]? = a.tmps[t]?):
 Region.wanted o (yielded ops a.tmps)=true->Quiet P (execOp a.eval o):=by
 intro hw
 refine quiet_of hkd ?_
 cases hn:needs o with
 | false=>exact Pj hn _
 | true =>
   replace hsame:=hsame hn
   have hg1:=Array.all_eq_true_iff_forall_mem.1 hg o (Array.mem_of_getElem? hk)
   have hev:∀ x∈o.op.operands,a'.eval x=a.eval x:=fun x hx=>IG fun t e=>hsame t (by
    subst e
    exact List.mem_append_left _ (List.mem_filterMap.2 ⟨.tmp t,by simpa using hx,rfl⟩))
   have hwn:Region.wanted o (yielded ops a'.tmps)=Region.wanted o (yielded ops a.tmps):=by
    unfold Region.wanted
    cases hgd:o.guard with
    | none=>rfl
    | some gw =>
      obtain⟨g,want⟩:=gw
      have:yielded ops a'.tmps g=yielded ops a.tmps g:=by
       unfold yielded
       cases hd:(ops[g]?).bind (·.dst) with
       | none=>rfl
       | some t =>
         have:=hsame t (by simp[Oper.looksAt,hgd,hd])
         simp[this]
      simp only[this]
   rw[hkd,hwn,hw] at hg1
   simp at hg1
   rw[<- ME o hev]
   exact hg1
theorem kL {B:Nat->Prop}{w0:World}{fl:List Nat}{a a' : Act}{k:Nat}{o:Oper}(hk:ops[k]? = some o)(hkd:kind P o=1)(hm:k∈fl)(hin:allIn B w0 ops a' fl)
 (hsame:∀ t,t∈o.looksAt ops->a'.tmps[t]? = a.tmps[t]?):Region.wanted o (yielded ops a.tmps)=true->Xx P (Same B w0) (execOp a.eval o):=by
 intro hw
 have hev:∀ x∈o.op.operands,a'.eval x=a.eval x:=fun x hx=>IG fun t e=>hsame t (by
  subst e
  exact List.mem_append_left _ (List.mem_filterMap.2 ⟨.tmp t,by simpa using hx,rfl⟩))
 have hwn:Region.wanted o (yielded ops a'.tmps)=Region.wanted o (yielded ops a.tmps):=by
  unfold Region.wanted
  cases hgd:o.guard with
  | none=>rfl
  | some gw =>
    obtain⟨g,want⟩:=gw
    have:yielded ops a'.tmps g=yielded ops a.tmps g:=by
     unfold yielded
     cases hd:(ops[g]?).bind (·.dst) with
     | none=>rfl
     | some t =>
       have:=hsame t (by simp[Oper.looksAt,hgd,hd])
       simp[this]
    simp only[this]
 have h1:=Sk hin k hm o hk (by rw[hwn];exact hw)
 refine jB hkd ?_
 obtain⟨dst,op,type,pos,after,guard⟩:=o
 cases op<;>simp only[inB] at h1 ⊢
 case load t x=>rw[<- hev x (by simp[Op.operands])];exact h1
/-! ### The walk -/
def plain (P:Program)(ops:Array Oper)(i:Nat):Bool:=match ops[i]? with|some o=>kind P o==0 || kind P o==1|none=>false
def wpG (P:Program)(ops:Array Oper)(Q:Exit->Act->World->Prop)(S:World->Prop)(m:Nat)(fa:List Nat)(st:Nat):List Nat->List (Nat × Nat)->World->Act->World->Prop
 | [],_,wr,a,w=>w=wr/\Q .normal a w
 | i :: l,iv,wr,a,w =>
   if (i::l).any (fun x=>fa.contains x)=false then w=wr/\wpS P ops Q S m (i::l) a w
   else if fa.contains i=true then w=wr/\∀ w0,st<=w0.heap.size->wpOp P ops Q i (fun a1 w1=>∀ w',Grown w w' -> Kept w0.heap.size w1 w' -> Off iv w0.heap.size w1.heap.size->wpG P ops Q S m fa st l ((w0.heap.size,w1.heap.size)::iv) w' a1 w') a w0
   else if plain P ops i=true then wpOp P ops Q i (fun a1 w1=>wpG P ops Q S m fa st l iv wr a1 w1) a w
   else w=wr/\∀ w',Grown w w' -> wpOp P ops Q i (fun a1 w1=>S w1/\Kept st w' w1/\wpG P ops Q S m fa st l ((w'.heap.size,w1.heap.size)::iv) w1 a1 w1) a w'
section
variable {S:World->Prop} {m:Nat} {fa:List Nat} {st:Nat} {i:Nat} {l:List Nat} {iv:List (Nat × Nat)} {wr w:World} {a:Act}
theorem Df (h:l.any (fun x=>fa.contains x)=false):wpG P ops Q S m fa st l iv wr a w↔w=wr/\wpS P ops Q S m l a w:=by
 cases l with
 | nil=>exact Iff.rfl
 | cons i l=>unfold wpG;rw[if_pos h]
theorem Gq (h:fa.contains i=true):wpG P ops Q S m fa st (i::l) iv wr a w↔w=wr/\∀ w0,st<=w0.heap.size->wpOp P ops Q i (fun a1 w1=>∀ w',Grown w w' -> Kept w0.heap.size w1 w' -> Off iv w0.heap.size w1.heap.size->wpG P ops Q S m fa st l ((w0.heap.size,w1.heap.size)::iv) w' a1 w') a w0:=by
 conv=>lhs;unfold wpG
 rw[if_neg (by simp only[List.any_cons,h,Bool.true_or];decide),if_pos h]
theorem GY (h0:(i::l).any (fun x=>fa.contains x)=true)(h1:fa.contains i=false)(h:plain P ops i=true):wpG P ops Q S m fa st (i::l) iv wr a w↔wpOp P ops Q i (fun a1 w1=>wpG P ops Q S m fa st l iv wr a1 w1) a w:=by
 conv=>lhs;unfold wpG
 rw[if_neg (by rw[h0];decide),if_neg (by rw[h1];decide),if_pos h]
theorem Ef (h0:(i::l).any (fun x=>fa.contains x)=true)(h1:fa.contains i=false)(h:plain P ops i=false):wpG P ops Q S m fa st (i::l) iv wr a w↔w=wr/\∀ w',Grown w w' -> wpOp P ops Q i (fun a1 w1=>S w1/\Kept st w' w1/\wpG P ops Q S m fa st l ((w'.heap.size,w1.heap.size)::iv) w1 a1 w1) a w':=by
 conv=>lhs;unfold wpG
 rw[if_neg (by rw[h0];decide),if_neg (by rw[h1];decide),if_neg (by rw[h];decide)]
end
theorem Ur {S:World->Prop}{m:Nat}{fa:List Nat}{st:Nat} : ∀ (l:List Nat) (iv iv2:List (Nat × Nat)) (wr:World) (a:Act) (w:World),(∀ x∈iv,x∈iv2)->wpG P ops Q S m fa st l iv wr a w->wpG P ops Q S m fa st l iv2 wr a w
 | [],_,_,_,_,_,_,h=>h
 | i :: l,iv,iv2,wr,a,w,hs,h => by
   cases h0:(i::l).any (fun x=>fa.contains x) with
   | false=>rw[Df h0] at h ⊢;exact h
   | true =>
     cases h1:fa.contains i with
     | true =>
       rw[Gq h1] at h ⊢
       refine⟨h.1,fun w0 hw0=>wpOp_mono (fun a1 w1 hh w' hg hk ho=>?_) (h.2 w0 hw0)⟩
       exact Ur l _ _ _ _ _ (fun x hx=>by
        rcases List.mem_cons.1 hx with rfl|hx
        ·exact List.mem_cons_self
        ·exact List.mem_cons_of_mem _ (hs x hx)) (hh w' hg hk fun x hx=>ho x (hs x hx))
     | false =>
       cases h2:plain P ops i with
       | true =>
         rw[GY h0 h1 h2] at h ⊢
         exact wpOp_mono (fun a1 w1 hh=>Ur l _ _ _ _ _ hs hh) h
       | false =>
         rw[Ef h0 h1 h2] at h ⊢
         refine⟨h.1,fun w' hg=>wpOp_mono (fun a1 w1 hh=>⟨hh.1,hh.2.1,?_⟩) (h.2 w' hg)⟩
         exact Ur l _ _ _ _ _ (fun x hx=>by
          rcases List.mem_cons.1 hx with rfl|hx
          ·exact List.mem_cons_self
          ·exact List.mem_cons_of_mem _ (hs x hx)) hh.2.2
/-! ### The condition -/
def CW (P:Program)(ops:Array Oper)(fl fa:List Nat)(a b:Nat):Bool:=
 match ops[a]?,ops[b]? with
 | some oa,some ob => oa.apart ops ob && (if fa.contains b then true else if fa.contains a then kind P ob == 0 || (kind P ob == 1 && fl.contains b)
    else kind P ob==0 || kind P oa==0 || (kind P oa==1&&kind P ob==1) || (kind P oa==1&&fl.contains a) || (kind P ob==1&&fl.contains b))
 | _,_=>false
def Y3 (P:Program)(ops:Array Oper)(fl fa:List Nat)(m:Nat):Bool:=
 Region.noSelect ops&&
 Js ops (fun a b=>decide (b<m)&&CW P ops fl fa a b) ops.size ops.size 0 0&&
 ((List.range ops.size).all fun k => match ops[k]? with
   | some o => !needs o || (List.range ops.size).all fun i=>decide (i<k) || (match ops[i]? with|some o' => (match o'.dst with|some t => !(o.looksAt ops).contains t|none=>true)|none=>true)
   | none=>true)&&
 (fl.all fun k => match ops[k]? with
   | some o=>(List.range ops.size).all fun i=>decide (i<k) || (match ops[i]? with|some o' => (match o'.dst with|some t => !(o.looksAt ops).contains t|none=>true)|none=>true)
   | none=>true)&&
 (fa.all fun k=>decide (k<m)&&match ops[k]? with|some o=>kind P o==2|none=>false)
structure OkF (P:Program) (ops:Array Oper) (fl fa:List Nat) (m:Nat):Prop where
 sel:∀ (j:Nat) (o:Oper) (cs:Array SelectCase) (b:Bool),ops[j]? = some o->o.op≠.select cs b
 top:∀ (b:Nat) (ob:Oper),ops[b]? = some ob->∀ e∈ob.after,Region.binds .any e=true->e.on<b
 pair:∀ b a,b<ops.size->a<b->waits ops ops.size b a=true\/(b<m/\CW P ops fl fa a b=true)
 keep:∀ (k:Nat) (o:Oper),ops[k]? = some o->needs o=true\/k∈fl->∀ i,k<=i->∀ (o' : Oper),ops[i]? = some o' -> ∀ t,o'.dst=some t->t ∉ o.looksAt ops
 float:∀ k,fa.contains k=true->k<m/\∀ o,ops[k]? = some o->kind P o=2
theorem QW {fl fa:List Nat}{m:Nat}(h:Y3 P ops fl fa m=true):OkF P ops fl fa m:=by
 simp only[Y3,Bool.and_eq_true,List.all_eq_true,List.mem_range] at h
 obtain⟨⟨⟨⟨h1,h2⟩,h3⟩,h4⟩,h5⟩:=h
 refine⟨fun j o cs b hj=>Region.noSelect_spec h1 j o cs b hj,fun b ob hb e he hbi=>?_,fun b a hb ha=>?_,fun k o hk hn i hki o' hi t ht=>?_,fun k hk=>?_⟩
 ·exact(BU h2 hb).1 e he hbi
 ·have:=(BU h2 (Array.getElem?_eq_getElem hb)).2 a ha
  simpa using this
 ·have hkl:k<ops.size:=(Array.getElem?_eq_some_iff.1 hk).1
  have hil:i<ops.size:=(Array.getElem?_eq_some_iff.1 hi).1
  have key:((List.range ops.size).all fun i=>decide (i<k) || (match ops[i]? with|some o' => (match o'.dst with|some t => !(o.looksAt ops).contains t|none=>true)|none=>true))=true:=by
   rcases hn with hn|hn
   ·have:=h3 k hkl
    rw[hk] at this
    simpa [hn] using this
   ·have:=h4 k hn
    rw[hk] at this
    exact this
  simp only[List.all_eq_true,List.mem_range] at key
  have:=key i hil
  rw[hi] at this
  simp only[ht,Bool.or_eq_true,decide_eq_true_eq] at this
  rcases this with this|this
  ·omega
  ·simpa using this
 ·have hm:k∈fa:=by simpa using hk
  obtain⟨q1,q2⟩:=h5 k hm
  refine⟨by simpa using q1,fun o ho=>?_⟩
  rw[ho] at q2
  simpa using q2
theorem OkF.apart {fl fa:List Nat}{a b:Nat}{oa ob:Oper}(h:CW P ops fl fa a b=true)(ha:ops[a]? = some oa)(hb:ops[b]? = some ob):oa.apart ops ob=true:=by
 simp only[CW,ha,hb,Bool.and_eq_true] at h
 exact h.1
/-! ### The walk comes to an end -/
section
variable {B:Nat->Prop} {wS:World} {fl fa:List Nat} {m st:Nat}
theorem bL {α : Type}{x a b : α}{l:List α}(h:x∈a::b::l):x∈b::a::l:=by
 rcases List.mem_cons.1 h with rfl|h
 ·exact List.mem_cons_of_mem _ List.mem_cons_self
 ·rcases List.mem_cons.1 h with rfl|h
  ·exact List.mem_cons_self
  ·exact List.mem_cons_of_mem _ (List.mem_cons_of_mem _ h)
theorem Qj {i:Nat}{l:List Nat}{o:Oper}(hi:ops[i]? = some o){a a1 a' : Act}(hR:Rch a o.dst a1)(ht:∀ t,(∀ j∈l,∀ o,ops[j]? = some o->o.dst≠some t)->a'.tmps[t]? = a1.tmps[t]?):
 ∀ t,(∀ j∈i::l,∀ o,ops[j]? = some o->o.dst≠some t)->a'.tmps[t]? = a.tmps[t]? :=fun t hn=>by
 obtain⟨v,ds,rfl⟩:=hR
 rw[ht t fun j hj o ho=>hn j (by simp[hj]) o ho]
 have:=hn i (by simp) _ hi
 cases hd:o.dst with
 | none=>rfl
 | some d =>
   have hne:d≠t:=fun e=>this (by rw[hd,e])
   simp[Act.put,Array.getElem?_setIfInBounds_ne hne]
theorem Bd.push {st:Nat}{iv:List (Nat × Nat)}{w w1:World}{lo:Nat}(h:Bd st iv w)(h1:w.heap.size<=w1.heap.size):Bd st ((lo,w1.heap.size)::iv) w1:=
 ⟨Nat.le_trans h.1 h1,fun x hx => by
   rcases List.mem_cons.1 hx with rfl|hx
   ·exact Nat.le_refl _
   ·exact Nat.le_trans (h.2 x hx) h1⟩
theorem Bd.off {st:Nat}{iv:List (Nat × Nat)}{w:World}{hi:Nat}(h:Bd st iv w):Off iv w.heap.size hi:=fun x hx=>.inr (h.2 x hx)
theorem OI (hA:OkF P ops fl fa m):∀ (l:List Nat) (iv:List (Nat × Nat)) (wr:World) (a:Act) (w:World),(∀ i∈l,i<ops.size)->(l.any (fun x=>fa.contains x)=true->Bd st iv wr)->wpG P ops (Ac P ops B wS fl Q) (Same B wS) m fa st l iv wr a w->
 ∃ a',(GH P ops a' = true/\allIn B wS ops a' fl)/\∀ t,(∀ i∈l,∀ o,ops[i]? = some o->o.dst≠some t)->a'.tmps[t]? = a.tmps[t]?
 | [],iv,wr,a,w,_,_,h=>⟨a,⟨h.2.2.1,h.2.2.2.1⟩,fun _ _=>rfl⟩
 | i :: l,iv,wr,a,w,hl,hb,h => by
   have hQ:Dh (Ac P ops B wS fl Q):=Ac.Bg
   obtain⟨o,hi⟩:∃ o,ops[i]? = some o:=⟨_,Array.getElem?_eq_getElem (hl i (by simp))⟩
   cases h0:(i::l).any (fun x=>fa.contains x) with
   | false =>
     obtain⟨rfl,h'⟩:=(Df h0).1 h
     have h2:=Ch (fun e a w he=>Bw he) _ _ _ (Im _ _ _ h')
     obtain⟨a',w',⟨_,hg,hin,_⟩,ht⟩:=fin (Q:=fun _ a w=>allIn B wS ops a fl/\Q .normal a w) (i::l) a w hl h2
     exact⟨a',⟨hg,hin⟩,ht⟩
   | true =>
     have hbd:=hb h0
     cases h1:fa.contains i with
     | true =>
       obtain⟨rfl,h'⟩:=(Gq h1).1 h
       have hkd:=(hA.float i h1).2 o hi
       obtain⟨v,w1,hy,hK⟩:=D6 hQ hi (fun _=>GD hkd) (h' w hbd.1)
       have hb2:=hy.Yz hkd
       obtain⟨a',he,ht⟩:=OI hA l _ w1 _ w1 (fun j hj=>hl j (by simp[hj])) (fun _=>hbd.push hb2.size) (hK w1 hb2 (Kept.refl _ _) hbd.off)
       exact⟨a',he,Qj hi (Rch.Hu a o.dst v) ht⟩
     | false =>
       cases h2:plain P ops i with
       | true =>
         obtain⟨a1,w1,hR,hK⟩:=FE hQ hi ((GY h0 h1 h2).1 h)
         obtain⟨a',he,ht⟩:=OI hA l iv wr a1 w1 (fun j hj=>hl j (by simp[hj])) (fun _=>hbd) hK
         exact⟨a',he,Qj hi hR ht⟩
       | false =>
         obtain⟨rfl,h'⟩:=(Ef h0 h1 h2).1 h
         obtain⟨a1,w1,hR,_,hk,hK⟩:=FE hQ hi (h' w (Below.refl _ _))
         obtain⟨a',he,ht⟩:=OI hA l _ w1 a1 w1 (fun j hj=>hl j (by simp[hj])) (fun _=>hbd.push hk.size) hK
         exact⟨a',he,Qj hi hR ht⟩
theorem JC (hA:OkF P ops fl fa m){i:Nat}{oi:Oper}(hi:ops[i]? = some oi)(hif:fa.contains i=true){rest:List Nat} : ∀ (ks:List Nat) (iv:List (Nat × Nat)) (wr:World) (a:Act) (w:World),(∀ x∈ks++i::rest,x<ops.size)->(∀ k∈ks,CW P ops fl fa k i=true)->Bd st iv wr->
 wpG P ops (Ac P ops B wS fl Q) (Same B wS) m fa st (ks++i::rest) iv wr a w->∀ wq,st<=wq.heap.size->∃ v w1,Yl P ops oi a wq v w1
 | [],iv,wr,a,w,hl,hp,hbd,h => fun wq hwq => by
   obtain⟨rfl,h'⟩:=(Gq hif).1 h
   obtain⟨v,w1,hy,_⟩:=D6 (Ac.Bg) hi (fun _=>GD ((hA.float i hif).2 oi hi)) (h' wq hwq)
   exact⟨v,w1,hy⟩
 | k :: ks,iv,wr,a,w,hl,hp,hbd,h => fun wq hwq => by
   have hQ:Dh (Ac P ops B wS fl Q):=Ac.Bg
   obtain⟨ok,hk⟩:∃ o,ops[k]? = some o:=⟨_,Array.getElem?_eq_getElem (hl k (by simp))⟩
   have hap:=Oper.apart_spec (OkF.apart (hp k (by simp)) hk hi)
   have hsel:∀ cs b,oi.op≠.select cs b:=fun cs b=>hA.sel i oi cs b hi
   have h0:(k::(ks++i::rest)).any (fun x=>fa.contains x)=true:=by
    simp only[List.any_cons,List.any_append,hif,Bool.true_or,Bool.or_true]
   have back:∀ a1,Rch a ok.dst a1->(∃ v w1,Yl P ops oi a1 wq v w1)->∃ v w1,Yl P ops oi a wq v w1:=fun a1 hR ⟨v,w1,hy⟩=>by
    have he:=hR.exec (o:=oi) (ops:=ops) hsel hap.1
    exact⟨v,w1,hy.same ⟨he.1.symm,he.2.symm⟩⟩
   have hl' : ∀ x∈ks++i::rest,x<ops.size:=fun x hx=>hl x (by simp at hx ⊢;right;exact hx)
   have hp' : ∀ x∈ks,CW P ops fl fa x i=true:=fun x hx=>hp x (by simp[hx])
   have h:wpG P ops (Ac P ops B wS fl Q) (Same B wS) m fa st (k::(ks++i::rest)) iv wr a w:=h
   cases h1:fa.contains k with
   | true =>
     obtain⟨rfl,h'⟩:=(Gq h1).1 h
     have hkd:=(hA.float k h1).2 ok hk
     obtain⟨v,w1,hy,hK⟩:=D6 hQ hk (fun _=>GD hkd) (h' w hbd.1)
     have hb2:=hy.Yz hkd
     exact back _ (Rch.Hu a ok.dst v) (JC hA hi hif ks _ w1 _ w1 hl' hp' (hbd.push hb2.size) (hK w1 hb2 (Kept.refl _ _) hbd.off) wq hwq)
   | false =>
     cases h2:plain P ops k with
     | true =>
       obtain⟨a1,w1,hR,hK⟩:=FE hQ hk ((GY h0 h1 h2).1 h)
       exact back _ hR (JC hA hi hif ks iv wr a1 w1 hl' hp' hbd hK wq hwq)
     | false =>
       obtain⟨rfl,h'⟩:=(Ef h0 h1 h2).1 h
       obtain⟨a1,w1,hR,_,hkp,hK⟩:=FE hQ hk (h' w (Below.refl _ _))
       exact back _ hR (JC hA hi hif ks _ w1 a1 w1 hl' hp' (hbd.push hkp.size) hK wq hwq)
/-! ### Steps -/
theorem Ij (hA:OkF P ops fl fa m){k:Nat}{ok:Oper}{L:List Nat}{iv:List (Nat × Nat)}{a:Act}{w:World}(hk:ops[k]? = some ok)(hkp:plain P ops k=true)(hkf:fa.contains k=false)(hl:∀ x∈k::L,x<ops.size)(hs:(k::L).Pairwise (· < ·))
 (hS:Same B wS w) (hb:(k::L).any (fun x=>fa.contains x)=true->Bd st iv w) (h:wpG P ops (Ac P ops B wS fl Q) (Same B wS) m fa st (k::L) iv w a w):
 (∃ v,Yl P ops ok a w v w/\(∀ w2,More w w2->Yl P ops ok a w2 v w2)/\(kind P ok=0\/k∈fl->∀ w2,Same B wS w2->Yl P ops ok a w2 v w2)/\wpG P ops (Ac P ops B wS fl Q) (Same B wS) m fa st L iv w (a.put ok.dst v) w):=by
 obtain⟨a',⟨hg,hin⟩,ht⟩:=OI hA (k::L) iv w a w hl hb h
 have hsame:needs ok=true\/k∈fl->∀ t,t∈ok.looksAt ops->a'.tmps[t]? = a.tmps[t]? :=fun hn t hm=>ht t fun j hj o' ho' e=>hA.keep k ok hk hn j (by
  rcases List.mem_cons.1 hj with h|h
  ·omega
  ·have:=(List.pairwise_cons.1 hs).1 j h;omega) o' ho' t e hm
 have hkd:kind P ok=0\/kind P ok=1:=by simpa [plain,hk] using hkp
 have hq0:kind P ok=0->Region.wanted ok (yielded ops a.tmps)=true->Quiet P (execOp a.eval ok):=fun h0=>Uq hk h0 hg (fun hn=>hsame (.inl hn))
 have hre:Region.wanted ok (yielded ops a.tmps)=true->Reads P (execOp a.eval ok):=fun hw=>by
  rcases hkd with h0|h1
  ·intro n w w' hr
   obtain⟨q1,q2,q3⟩:=hq0 h0 hw n w w' hr
   exact⟨q1,q2,fun w2 _=>q3 w2⟩
  ·exact CG h1
 have hcore:∃ v w',Yl P ops ok a w v w' /\ (∀ w'',w'' = w->w' = w'' -> wpG P ops (Ac P ops B wS fl Q) (Same B wS) m fa st L iv w (a.put ok.dst v) w''):=by
  cases h0:(k::L).any (fun x=>fa.contains x) with
  | false =>
    have hL:L.any (fun x=>fa.contains x)=false:=by
     simp only[List.any_cons,Bool.or_eq_false_iff] at h0
     exact h0.2
    obtain⟨_,h⟩:=(Df h0).1 h
    obtain⟨v,w',hy,hK⟩:=D6 Ac.Bg hk (fun hw=>(hre hw).news) (show wpOp P ops _ k (fun a' w' => (k<m->Same B wS w')/\wpS P ops (Ac P ops B wS fl Q) (Same B wS) m L a' w') a w from h)
    refine⟨v,w',hy,fun w'' e1 e2=>(Df hL).2 ⟨e1,?_⟩⟩
    rw[<- e2]
    exact hK.2
  | true =>
    obtain⟨v,w',hy,hK⟩:=D6 Ac.Bg hk (fun hw=>(hre hw).news) ((GY h0 hkf hkp).1 h)
    exact⟨v,w',hy,fun w'' _ e2=>by rw[<- e2];exact hK⟩
 obtain⟨v,w',hy,hK⟩:=hcore
 obtain⟨rfl,hm⟩:=hy.reads hre
 refine⟨v,hy,hm,fun hc=>?_,hK _ rfl rfl⟩
 have hf:Region.wanted ok (yielded ops a.tmps)=true->Xx P (Same B wS) (execOp a.eval ok):=by
  rcases hc with hc|hc
  ·exact fun hw=>(hq0 hc hw).LK
  ·rcases hkd with h0|h1
   ·exact fun hw=>(hq0 h0 hw).LK
   ·exact kL hk h1 hc hin (hsame (.inr hc))
 exact(hy.LK hS hf).2
theorem LG {k:Nat}{ok:Oper}{L:List Nat}{iv:List (Nat × Nat)}{a:Act}{w:World}{v:Value}(hk:ops[k]? = some ok)(hkp:plain P ops k=true)(hkf:fa.contains k=false)(hS:Same B wS w)(hy:Yl P ops ok a w v w)
 (h:wpG P ops (Ac P ops B wS fl Q) (Same B wS) m fa st L iv w (a.put ok.dst v) w):wpG P ops (Ac P ops B wS fl Q) (Same B wS) m fa st (k::L) iv w a w:=by
 cases h0:(k::L).any (fun x=>fa.contains x) with
 | false =>
   have hL:L.any (fun x=>fa.contains x)=false:=by
    simp only[List.any_cons,Bool.or_eq_false_iff] at h0
    exact h0.2
   refine(Df h0).2 ⟨rfl,?_⟩
   show wpOp P ops _ k (fun a' w' => (k<m->Same B wS w')/\wpS P ops (Ac P ops B wS fl Q) (Same B wS) m L a' w') a w
   exact Yl.mk hk hy ⟨fun _=>hS,((Df hL).1 h).2⟩
 | true=>exact(GY h0 hkf hkp).2 (Yl.mk hk hy h)
theorem QY {k:Nat}{L:List Nat}{iv:List (Nat × Nat)}{a:Act}{w:World}(hkp:plain P ops k=false)(hkf:fa.contains k=false)
 (h:∀ w',Grown w w' -> wpOp P ops (Ac P ops B wS fl Q) k (fun a1 w1=>Same B wS w1/\Kept st w' w1/\wpG P ops (Ac P ops B wS fl Q) (Same B wS) m fa st L ((w'.heap.size,w1.heap.size)::iv) w1 a1 w1) a w'):
 wpG P ops (Ac P ops B wS fl Q) (Same B wS) m fa st (k::L) iv w a w:=by
 cases h0:(k::L).any (fun x=>fa.contains x) with
 | false =>
   have hL:L.any (fun x=>fa.contains x)=false:=by
    simp only[List.any_cons,Bool.or_eq_false_iff] at h0
    exact h0.2
   refine(Df h0).2 ⟨rfl,?_⟩
   show wpOp P ops _ k (fun a' w' => (k<m->Same B wS w')/\wpS P ops (Ac P ops B wS fl Q) (Same B wS) m L a' w') a w
   exact wpOp_mono (fun a1 w1 hh=>⟨fun _=>hh.1,((Df hL).1 hh.2.2).2⟩) (h w (Below.refl _ _))
 | true=>exact(Ef h0 hkf hkp).2 ⟨rfl,h⟩
theorem early (hA:OkF P ops fl fa m){i:Nat}{oi:Oper}(hi:ops[i]? = some oi)(hif:fa.contains i=true){rest:List Nat}{v:Value}{w0 w1:World}(hw0:st<=w0.heap.size):∀ (ks:List Nat) (iv:List (Nat × Nat)) (a:Act) (w:World),(∀ x∈ks++i::rest,x<ops.size)->(ks++i::rest).Pairwise (· < ·)->
 (∀ k∈ks,CW P ops fl fa k i=true)->Same B wS w->Bd st iv w->Yl P ops oi a w0 v w1->Kept w0.heap.size w1 w->Off iv w0.heap.size w1.heap.size->wpG P ops (Ac P ops B wS fl Q) (Same B wS) m fa st (ks++i::rest) iv w a w->
 wpG P ops (Ac P ops B wS fl Q) (Same B wS) m fa st (ks++rest) ((w0.heap.size,w1.heap.size)::iv) w (a.put oi.dst v) w
 | [],iv,a,w,hl,hs,hp,hS,hbd,hy,hkw,ho,h => by
   obtain⟨_,h⟩:=(Gq hif).1 h
   obtain⟨v',w1',hy',hK⟩:=D6 Ac.Bg hi (fun _=>GD ((hA.float i hif).2 oi hi)) (h w0 hw0)
   obtain⟨rfl,rfl⟩:=hy'.det hy
   exact hK w (Below.refl _ _) hkw ho
 | k :: ks,iv,a,w,hl,hs,hp,hS,hbd,hy,hkw,ho,h => by
   obtain⟨ok,hk⟩:∃ o,ops[k]? = some o:=⟨_,Array.getElem?_eq_getElem (hl k (by simp))⟩
   have hap:=Oper.apart_spec (OkF.apart (hp k (by simp)) hk hi)
   have I5:∀ cs b,oi.op≠.select cs b:=fun cs b=>hA.sel i oi cs b hi
   have JL:∀ cs b,ok.op≠.select cs b:=fun cs b=>hA.sel k ok cs b hk
   have hds:∀ t,oi.dst=some t->ok.dst≠some t:=fun t ht hk' => hap.2.1 t hk' ht
   have hs':=List.pairwise_cons.1 hs
   have hl' : ∀ x∈ks++i::rest,x<ops.size:=fun x hx=>hl x (by simp at hx ⊢;right;exact hx)
   have hp' : ∀ x∈ks,CW P ops fl fa x i=true:=fun x hx=>hp x (by simp[hx])
   have h0:(k::(ks++i::rest)).any (fun x=>fa.contains x)=true:=by
    simp only[List.any_cons,List.any_append,hif,Bool.true_or,Bool.or_true]
   have h:wpG P ops (Ac P ops B wS fl Q) (Same B wS) m fa st (k::(ks++i::rest)) iv w a w:=h
   show wpG P ops (Ac P ops B wS fl Q) (Same B wS) m fa st (k::(ks++rest)) ((w0.heap.size,w1.heap.size)::iv) w (a.put oi.dst v) w
   cases h1:fa.contains k with
   | true =>
     obtain⟨_,h⟩:=(Gq h1).1 h
     refine(Gq h1).2 ⟨rfl,fun wk hwk=>Jr Ac.Bg hk JL hap.2.2 hds (h wk hwk) fun a1 w1k hR hK w' hg hkp hoff=>?_⟩
     have he:=hR.exec (o:=oi) (ops:=ops) I5 hap.1
     have hx:=hoff (w0.heap.size,w1.heap.size) List.mem_cons_self
     have h3:=early hA hi hif hw0 ks ((wk.heap.size,w1k.heap.size)::iv) a1 w' hl' hs'.2 hp' (hS.more (DR hg))
      ⟨Nat.le_trans hbd.1 hg.size,fun x hx => by
        rcases List.mem_cons.1 hx with rfl|hx
        ·exact hkp.size
        ·exact Nat.le_trans (hbd.2 x hx) hg.size⟩
      (hy.same he) (hkw.grown hg) (fun x hx' => by
        rcases List.mem_cons.1 hx' with rfl|hx'
        ·exact hx.symm
        ·exact ho x hx') (hK w' hg hkp fun x hx=>hoff x (List.mem_cons_of_mem _ hx))
     exact Ur _ _ _ _ _ _ (fun x hx=>bL hx) h3
   | false =>
     cases h2:plain P ops k with
     | true =>
       obtain⟨vk,hyk,hmk,_,hK⟩:=Ij hA hk h2 h1 hl hs hS (fun _=>hbd) h
       have he:=(Rch.Hu a ok.dst vk).exec (o:=oi) (ops:=ops) I5 hap.1
       have hek:=(Rch.Hu a oi.dst v).exec (o:=ok) (ops:=ops) JL hap.2.2
       have h3:=early hA hi hif hw0 ks iv (a.put ok.dst vk) w hl' hs'.2 hp' hS hbd (hy.same he) hkw ho hK
       refine LG hk h2 h1 hS (hyk.same hek) ?_
       rw[Act.put_comm a v vk hds]
       exact h3
     | false =>
       obtain⟨_,h⟩:=(Ef h0 h1 h2).1 h
       refine QY h2 h1 fun w' hg=>Jr Ac.Bg hk JL hap.2.2 hds (h w' hg) fun a1 w1k hR hK=>?_
       obtain⟨hS1,hkp,hK⟩:=hK
       have he:=hR.exec (o:=oi) (ops:=ops) I5 hap.1
       have zcQ:=hkw.grown hg
       have h3:=early hA hi hif hw0 ks ((w'.heap.size,w1k.heap.size)::iv) a1 w1k hl' hs'.2 hp' hS1
        ⟨Nat.le_trans hbd.1 (Nat.le_trans hg.size hkp.size),fun x hx => by
          rcases List.mem_cons.1 hx with rfl|hx
          ·exact Nat.le_refl _
          ·exact Nat.le_trans (hbd.2 x hx) (Nat.le_trans hg.size hkp.size)⟩
        (hy.same he) (zcQ.kept hw0 hkp) (fun x hx' => by
          rcases List.mem_cons.1 hx' with rfl|hx'
          ·exact .inl zcQ.size
          ·exact ho x hx') hK
       exact⟨hS1,hkp,Ur _ _ _ _ _ _ (fun x hx=>bL hx) h3⟩
theorem iK (hA:OkF P ops fl fa m){i:Nat}(him:i<m)(hif:fa.contains i=false){rest:List Nat} : ∀ (ks:List Nat) (a:Act) (w:World),(∀ k∈ks,fa.contains k=false)->Same B wS w->(∀ x∈ks++i::rest,x<ops.size)->(ks++i::rest).Pairwise (· < ·)->
 (∀ k∈ks,CW P ops fl fa k i=true)->wpS P ops (Ac P ops B wS fl Q) (Same B wS) m (ks++i::rest) a w->wpS P ops (Ac P ops B wS fl Q) (Same B wS) m (i::(ks++rest)) a w
 | [],_,_,_,_,_,_,_,h=>h
 | k :: ks,a,w,hkf,hS,hl,hs,hp,h => by
   have hs':=List.pairwise_cons.1 hs
   have h0:=Im _ _ _ h
   have hki:k<i:=hs'.1 i (by simp)
   have h:wpOp P ops (Ac P ops B wS fl Q) k (fun a' w' => (k<m->Same B wS w')/\wpS P ops (Ac P ops B wS fl Q) (Same B wS) m (ks++i::rest) a' w') a w:=h
   have h1:wpOp P ops (Ac P ops B wS fl Q) k (fun a' w' => Same B wS w' /\ wpS P ops (Ac P ops B wS fl Q) (Same B wS) m (i::(ks++rest)) a' w') a w:=
    wpOp_mono (fun a' w' hh=>⟨hh.1 (by omega),iK hA him hif ks a' w' (fun x hx=>hkf x (by simp[hx])) (hh.1 (by omega)) (fun x hx=>hl x (by simp at hx ⊢;right;exact hx)) hs'.2 (fun x hx=>hp x (by simp[hx])) hh.2⟩) h
   have hkl:k<ops.size:=hl k (by simp)
   have hil:i<ops.size:=hl i (by simp)
   obtain⟨ok,hk⟩:∃ o,ops[k]? = some o:=⟨_,Array.getElem?_eq_getElem hkl⟩
   obtain⟨oi,hi⟩:∃ o,ops[i]? = some o:=⟨_,Array.getElem?_eq_getElem hil⟩
   have hpk:=hp k (by simp)
   simp only[CW,hk,hi,hif,hkf k (by simp),if_false,Bool.false_eq_true,Bool.and_eq_true,Bool.or_eq_true,beq_iff_eq,List.contains_iff_mem] at hpk
   obtain⟨hap,hc⟩:=hpk
   have h2:wpOp P ops (Ac P ops B wS fl Q) k (fun a' w' => Same B wS w' /\ wpOp P ops (Ac P ops B wS fl Q) i (fun a'' w'' => Same B wS w'' /\ wpS P ops (Ac P ops B wS fl Q) (Same B wS) m (ks++rest) a'' w'') a' w') a w:=
    wpOp_mono (fun a' w' hh=>⟨hh.1,wpOp_mono (fun a'' w'' h3=>⟨h3.1 him,h3.2⟩) (show wpOp P ops _ i (fun a'' w'' => (i<m->Same B wS w'')/\wpS P ops _ (Same B wS) m (ks++rest) a'' w'') a' w' from hh.2)⟩) h1
   have FX:∀ x∈k::ks++i::rest,∀ o',ops[x]? = some o' -> (needs oi=true\/i∈fl)->∀ t,o'.dst=some t->t ∉ oi.looksAt ops:=fun x hx o' ho' hn t ht=>by
    by_cases hxi:i<=x
    ·exact hA.keep i oi hi hn x hxi o' ho' t ht
    ·have hxm : x ∈ k :: ks :=by
      rcases List.mem_append.1 hx with h|h
      ·exact h
      ·rcases List.mem_cons.1 h with h|h
       ·omega
       ·have:=(List.pairwise_append.1 hs).2.1
        have:=(List.pairwise_cons.1 this).1 x h
        omega
     exact(Oper.apart_spec (OkF.apart (hp x hxm) ho' hi)).1 t ht
   have FY:∀ x∈k::ks++i::rest,∀ o',ops[x]? = some o' -> (needs ok=true\/k∈fl)->∀ t,o'.dst=some t->t ∉ ok.looksAt ops:=fun x hx o' ho' hn t ht=>by
    refine hA.keep k ok hk hn x ?_ o' ho' t ht
    rcases List.mem_cons.1 hx with h|h
    ·omega
    ·have:=hs'.1 x h;omega
   have h0g:wpOps P ops (Ends P ops (fun _ a w=>allIn B wS ops a fl/\Q .normal a w)) (k::ks++i::rest) a w:=Ch (fun e a w he=>Bw he) _ _ _ h0
   have h3:=qj (S:=Same B wS) Ac.Bg hk hi hap (fun cs b=>hA.sel k ok cs b hk) (fun cs b=>hA.sel i oi cs b hi) hS ?_ h2
   ·show wpOp P ops _ i (fun a' w' => (i<m->Same B wS w')/\wpS P ops _ (Same B wS) m (k::(ks++rest)) a' w') a w
    refine wpOp_mono (fun a' w' hh=>⟨fun _=>hh.1,?_⟩) h3
    show wpOp P ops _ k (fun a'' w'' => (k<m->Same B wS w'')/\wpS P ops _ (Same B wS) m (ks++rest) a'' w'') a' w'
    exact wpOp_mono (fun a'' w'' h4=>⟨fun _=>h4.1,h4.2⟩) hh.2
   ·rcases hc with (((hc|hc)|⟨hc1,hc2⟩)|⟨hc,hm⟩)|⟨hc,hm⟩
    ·have hq:=BP (l:=k::ks++i::rest) hl h0g hi hc fun hn x hx o' ho' t ht=>FX x hx o' ho' (.inl hn) t ht
     exact .inl ⟨fun hw=>(hq hw).LK,fun hw=>(hq hw).news⟩
    ·have hq:=BP (l:=k::ks++i::rest) hl h0g hk hc fun hn x hx o' ho' t ht=>FY x hx o' ho' (.inl hn) t ht
     exact .inr (.inl ⟨fun hw=>(hq hw).LK,fun hw=>(hq hw).news⟩)
    ·exact .inr (.inr ⟨fun _=>CG hc1,fun _=>Cw (.inl hc2)⟩)
    ·exact .inr (.inl ⟨IJ (l:=k::ks++i::rest) hl h0 hk hc hm fun x hx o' ho' t ht=>FY x hx o' ho' (.inr hm) t ht,fun _=>Cw (.inl hc)⟩)
    ·exact .inl ⟨IJ (l:=k::ks++i::rest) hl h0 hi hc hm fun x hx o' ho' t ht=>FX x hx o' ho' (.inr hm) t ht,fun _=>Cw (.inl hc)⟩
theorem Rz {l:List Nat}(h:l.any (fun x=>fa.contains x)=false):∀ x∈l,fa.contains x=false:=by
 intro x hx
 have:=List.any_eq_false.1 h x hx
 simpa using this
theorem kM {l l' : List Nat}(hs:∀ x∈l',x∈l)(h:l.any (fun x=>fa.contains x)=false):l'.any (fun x=>fa.contains x)=false:=
 List.any_eq_false.2 fun x hx=>by rw[Rz h x (hs x hx)];decide
theorem Us (hA:OkF P ops fl fa m){i:Nat}{oi:Oper}(hi:ops[i]? = some oi)(hip:plain P ops i=true)(hif:fa.contains i=false){rest:List Nat} : ∀ (ks:List Nat) (iv:List (Nat × Nat)) (a:Act) (w:World),(∀ x∈ks++i::rest,x<ops.size)->(ks++i::rest).Pairwise (· < ·)->
 (∀ k∈ks,i<m/\CW P ops fl fa k i=true)->Same B wS w->((ks++i::rest).any (fun x=>fa.contains x)=true->Bd st iv w)->wpG P ops (Ac P ops B wS fl Q) (Same B wS) m fa st (ks++i::rest) iv w a w->
 ∃ v,Yl P ops oi a w v w/\((∀ k∈ks,plain P ops k=true)\/(∀ w2,Same B wS w2->Yl P ops oi a w2 v w2))/\wpG P ops (Ac P ops B wS fl Q) (Same B wS) m fa st (ks++rest) iv w (a.put oi.dst v) w
 | [],iv,a,w,hl,hs,hp,hS,hbd,h => by
   obtain⟨v,hy,_,_,hK⟩:=Ij hA hi hip hif hl hs hS hbd h
   exact⟨v,hy,.inl (fun k hk=>by cases hk),hK⟩
 | k :: ks,iv,a,w,hl,hs,hp,hS,hbd,h => by
   obtain⟨ok,hk⟩:∃ o,ops[k]? = some o:=⟨_,Array.getElem?_eq_getElem (hl k (by simp))⟩
   obtain⟨him,hpk⟩:=hp k (by simp)
   have hap:=Oper.apart_spec (OkF.apart hpk hk hi)
   have I5:∀ cs b,oi.op≠.select cs b:=fun cs b=>hA.sel i oi cs b hi
   have JL:∀ cs b,ok.op≠.select cs b:=fun cs b=>hA.sel k ok cs b hk
   have hds:∀ t,oi.dst=some t->ok.dst≠some t:=fun t ht hk' => hap.2.1 t hk' ht
   have hs':=List.pairwise_cons.1 hs
   have hl' : ∀ x∈ks++i::rest,x<ops.size:=fun x hx=>hl x (by simp at hx ⊢;right;exact hx)
   have hp' : ∀ x∈ks,i<m/\CW P ops fl fa x i=true:=fun x hx=>hp x (by simp[hx])
   have h:wpG P ops (Ac P ops B wS fl Q) (Same B wS) m fa st (k::(ks++i::rest)) iv w a w:=h
   have hbd:(k::(ks++i::rest)).any (fun x=>fa.contains x)=true->Bd st iv w:=hbd
   obtain⟨a',⟨hg,hin⟩,ht⟩:=OI hA (k::(ks++i::rest)) iv w a w hl hbd h
   have hsame:needs oi=true\/i∈fl->∀ t,t∈oi.looksAt ops->a'.tmps[t]? = a.tmps[t]? :=fun hn t hm=>ht t fun j hj o' ho' e=>by
    by_cases hij:i<=j
    ·exact hA.keep i oi hi hn j hij o' ho' t e hm
    ·have hxm : j ∈ k :: ks :=by
      rcases List.mem_append.1 (show j∈(k::ks)++i::rest from hj) with h|h
      ·exact h
      ·rcases List.mem_cons.1 h with h|h
       ·omega
       ·have:=(List.pairwise_append.1 (show((k::ks)++i::rest).Pairwise (· < ·) from hs)).2.1
        have:=(List.pairwise_cons.1 this).1 j h
        omega
     exact(Oper.apart_spec (OkF.apart (hp j hxm).2 ho' hi)).1 t e hm
   have zcR:kind P oi=0\/(kind P oi=1/\i∈fl)->Region.wanted oi (yielded ops a.tmps)=true->Xx P (Same B wS) (execOp a.eval oi):=fun hc=>by
    rcases hc with hc|⟨hc,hm⟩
    ·exact fun hw=>(Uq hi hc hg (fun hn=>hsame (.inl hn)) hw).LK
    ·exact kL hi hc hm hin (hsame (.inr hm))
   show ∃ v,Yl P ops oi a w v w/\((∀ x∈k::ks,plain P ops x=true)\/(∀ w2,Same B wS w2->Yl P ops oi a w2 v w2))/\wpG P ops (Ac P ops B wS fl Q) (Same B wS) m fa st (k::(ks++rest)) iv w (a.put oi.dst v) w
   cases h2:plain P ops k with
   | true =>
     cases h1:fa.contains k with
     | true =>
       exfalso
       have:=(hA.float k h1).2 ok hk
       simp only[plain,hk,this] at h2
       exact absurd h2 (by decide)
     | false =>
       obtain⟨vk,hyk,hmk,hfk,hK⟩:=Ij hA hk h2 h1 hl hs hS hbd h
       have he:=(Rch.Hu a ok.dst vk).exec (o:=oi) (ops:=ops) I5 hap.1
       have zel : (ks++i::rest).any (fun x=>fa.contains x)=true->Bd st iv w:=fun hx=>hbd (by simp only[List.any_cons,hx,Bool.or_true])
       obtain⟨v,hy,hc,h3⟩:=Us hA hi hip hif ks iv (a.put ok.dst vk) w hl' hs'.2 hp' hS zel hK
       have hy':=hy.same ⟨he.1.symm,he.2.symm⟩
       have hek:=(Rch.Hu a oi.dst v).exec (o:=ok) (ops:=ops) JL hap.2.2
       refine⟨v,hy',?_,LG hk h2 h1 hS (hyk.same hek) (by rw[Act.put_comm a v vk hds];exact h3)⟩
       rcases hc with hc|hc
       ·exact .inl fun x hx => by
         rcases List.mem_cons.1 hx with rfl|hx
         ·exact h2
         ·exact hc x hx
       ·exact .inr fun w2 hw2=>(hc w2 hw2).same ⟨he.1.symm,he.2.symm⟩
   | false =>
     have hkd:¬ (kind P ok=0)/\¬ (kind P ok=1):=by simpa [plain,hk] using h2
     have hci:kind P oi=0\/(kind P oi=1/\i∈fl):=by
      simp only[CW,hk,hi,hif,if_false,Bool.false_eq_true,Bool.and_eq_true,Bool.or_eq_true,beq_iff_eq,List.contains_iff_mem,hkd.1,hkd.2,or_false,false_and,and_false,false_or] at hpk
      have:=hpk.2
      split at this
      ·simpa using this
      ·simpa [hkd.1,hkd.2] using this
     have hF:=zcR hci
     cases h0:(k::(ks++i::rest)).any (fun x=>fa.contains x) with
     | false =>
       have hsub:∀ x∈k::(ks++rest),x∈k::(ks++i::rest):=fun x hx=>by simp at hx ⊢;rcases hx with h|h|h<;>simp[h]
       obtain⟨_,h⟩:=(Df h0).1 h
       have h4:=iK hA him hif (k::ks) a w (fun x hx=>Rz h0 x (by simp at hx ⊢;rcases hx with h|h<;>simp[h])) hS hl hs (fun x hx=>(hp x hx).2) h
       obtain⟨v,w',hy,hK⟩:=D6 Ac.Bg hi (fun hw n w w' hr=>by
        rcases hci with hc|⟨hc,_⟩
        ·exact(Uq hi hc hg (fun hn=>hsame (.inl hn)) hw).news n w w' hr
        ·exact(CG hc).news n w w' hr) (show wpOp P ops _ i (fun a' w' => (i<m->Same B wS w')/\wpS P ops (Ac P ops B wS fl Q) (Same B wS) m (k::(ks++rest)) a' w') a w from h4)
       obtain⟨rfl,hall⟩:=hy.LK hS hF
       exact⟨v,hy,.inr hall,(Df (kM hsub h0)).2 ⟨rfl,hK.2⟩⟩
     | true =>
       have Je:=hbd h0
       have move:∀ {v:Value} (hall:∀ w2,Same B wS w2->Yl P ops oi a w2 v w2) (a1:Act) (w' : World) (iv' : List (Nat × Nat)),Rch a ok.dst a1->Same B wS w' -> Bd st iv' w' -> wpG P ops (Ac P ops B wS fl Q) (Same B wS) m fa st (ks++i::rest) iv' w' a1 w' ->
        wpG P ops (Ac P ops B wS fl Q) (Same B wS) m fa st (ks++rest) iv' w' (a1.put oi.dst v) w':=fun {v} hall a1 w' iv' hR hS' hb' hK=>by
        obtain⟨v',hy',_,h3⟩:=Us hA hi hip hif ks iv' a1 w' hl' hs'.2 hp' hS' (fun _=>hb') hK
        have he:=hR.exec (o:=oi) (ops:=ops) I5 hap.1
        obtain⟨rfl,_⟩:=hy'.det ((hall w' hS').same he)
        exact h3
       cases h1:fa.contains k with
       | true =>
         obtain⟨_,h⟩:=(Gq h1).1 h
         obtain⟨vk,wk,hyk,hK⟩:=D6 Ac.Bg hk (fun _=>GD ((hA.float k h1).2 ok hk)) (h w Je.1)
         have hgk:=hyk.Yz ((hA.float k h1).2 ok hk)
         have hSk:=hS.more (DR hgk)
         obtain⟨v,hy,_,_⟩:=Us hA hi hip hif ks _ (a.put ok.dst vk) wk hl' hs'.2 hp' hSk (fun _=>Je.push hgk.size) (hK wk hgk (Kept.refl _ _) Je.off)
         have he:=(Rch.Hu a ok.dst vk).exec (o:=oi) (ops:=ops) I5 hap.1
         obtain⟨_,hall⟩:=(hy.same ⟨he.1.symm,he.2.symm⟩).LK hSk hF
         refine⟨v,hall w hS,.inr hall,(Gq h1).2 ⟨rfl,fun w0 hw0=>Jr Ac.Bg hk JL hap.2.2 hds (h w0 hw0) fun a1 w1 hR hK w' hg hkp hoff=>?_⟩⟩
         refine move hall a1 w' _ hR (hS.more (DR hg)) ⟨Nat.le_trans Je.1 hg.size,fun x hx=>?_⟩ (hK w' hg hkp hoff)
         rcases List.mem_cons.1 hx with rfl|hx
         ·exact hkp.size
         ·exact Nat.le_trans (Je.2 x hx) hg.size
       | false =>
         obtain⟨_,h⟩:=(Ef h0 h1 h2).1 h
         obtain⟨a1,w1,hR,hS1,hkp,hK⟩:=FE Ac.Bg hk (h w (Below.refl _ _))
         obtain⟨v,hy,_,_⟩:=Us hA hi hip hif ks _ a1 w1 hl' hs'.2 hp' hS1 (fun _=>Je.push hkp.size) hK
         have he:=hR.exec (o:=oi) (ops:=ops) I5 hap.1
         obtain⟨_,hall⟩:=(hy.same ⟨he.1.symm,he.2.symm⟩).LK hS1 hF
         refine⟨v,hall w hS,.inr hall,QY h2 h1 fun w' hg=>Jr Ac.Bg hk JL hap.2.2 hds (h w' hg) fun a1 w1 hR hK=>?_⟩
         obtain⟨hS1,hkp,hK⟩:=hK
         refine⟨hS1,hkp,move hall a1 w1 _ hR hS1 ⟨Nat.le_trans Je.1 (Nat.le_trans hg.size hkp.size),fun x hx=>?_⟩ hK⟩
         rcases List.mem_cons.1 hx with rfl|hx
         ·exact Nat.le_refl _
         ·exact Nat.le_trans (Je.2 x hx) (Nat.le_trans hg.size hkp.size)
theorem tN (hA:OkF P ops fl fa m){i:Nat}{oi:Oper}(hi:ops[i]? = some oi)(hip:plain P ops i=false)(hif:fa.contains i=false){rest:List Nat}(hrest:rest.any (fun x=>fa.contains x)=true):∀ (ks:List Nat) (iv:List (Nat × Nat)) (a:Act) (w:World),(∀ x∈ks++i::rest,x<ops.size)->(ks++i::rest).Pairwise (· < ·)->
 (∀ k∈ks,CW P ops fl fa k i=true)->Same B wS w->Bd st iv w->wpG P ops (Ac P ops B wS fl Q) (Same B wS) m fa st (ks++i::rest) iv w a w->
 wpOp P ops (Ac P ops B wS fl Q) i (fun a1 w1=>Same B wS w1/\Kept st w w1/\wpG P ops (Ac P ops B wS fl Q) (Same B wS) m fa st (ks++rest) ((w.heap.size,w1.heap.size)::iv) w1 a1 w1) a w
 | [],iv,a,w,hl,hs,hp,hS,hbd,h=>((Ef (by simp only[List.any_cons,hrest,Bool.or_true]) hif hip).1 h).2 w (Below.refl _ _)
 | k :: ks,iv,a,w,hl,hs,hp,hS,hbd,h => by
   obtain⟨ok,hk⟩:∃ o,ops[k]? = some o:=⟨_,Array.getElem?_eq_getElem (hl k (by simp))⟩
   have hpk:=hp k (by simp)
   have hap:=Oper.apart_spec (OkF.apart hpk hk hi)
   have I5:∀ cs b,oi.op≠.select cs b:=fun cs b=>hA.sel i oi cs b hi
   have JL:∀ cs b,ok.op≠.select cs b:=fun cs b=>hA.sel k ok cs b hk
   have hs':=List.pairwise_cons.1 hs
   have hkd:¬ (kind P oi=0)/\¬ (kind P oi=1):=by simpa [plain,hi] using hip
   have hc:fa.contains k=false/\(kind P ok=0\/(kind P ok=1/\k∈fl)):=by
    simp only[CW,hk,hi,hif,if_false,Bool.false_eq_true,Bool.and_eq_true,Bool.or_eq_true,beq_iff_eq,List.contains_iff_mem,hkd.1,hkd.2,or_false,false_and,and_false,false_or] at hpk
    have:=hpk.2
    cases hfk:fa.contains k with
    | true=>rw[if_pos (by simpa using hfk)] at this;simp[hkd.1,hkd.2] at this
    | false =>
      rw[if_neg (by simpa using hfk)] at this
      exact⟨rfl,by simpa [hkd.1,hkd.2] using this⟩
   have hkp:plain P ops k=true:=by
    simp only[plain,hk,Bool.or_eq_true,beq_iff_eq]
    rcases hc.2 with h|h
    ·exact .inl h
    ·exact .inr h.1
   obtain⟨vk,hyk,_,hfk,hK⟩:=Ij hA hk hkp hc.1 hl hs hS (fun _=>hbd) h
   have hall :=hfk (by rcases hc.2 with h | h
                       ·exact .inl h
                       ·exact .inr h.2)
   have h3:=tN hA hi hip hif hrest ks iv (a.put ok.dst vk) w (fun x hx=>hl x (by simp at hx ⊢;right;exact hx)) hs'.2 (fun x hx=>hp x (by simp[hx])) hS hbd hK
   refine Sc Ac.Bg hi I5 hap.1 hap.2.1 h3 fun a1 w1 hR hK1=>?_
   have he:=hR.exec (o:=ok) (ops:=ops) JL hap.2.2
   exact⟨hK1.1,hK1.2.1,LG hk hkp hc.1 hK1.1 ((hall w1 hK1.1).same he) hK1.2.2⟩
theorem bM (hA:OkF P ops fl fa m):∀ (l:List Nat) (iv:List (Nat × Nat)) (a:Act) (w w2:World),(∀ x∈l,x<ops.size)->l.Pairwise (· < ·)->Same B wS w->(l.any (fun x=>fa.contains x)=true->Bd st iv w)->Grown w w2->l.any (fun x=>fa.contains x)=true->
 wpG P ops (Ac P ops B wS fl Q) (Same B wS) m fa st l iv w a w->wpG P ops (Ac P ops B wS fl Q) (Same B wS) m fa st l iv w2 a w2
 | [],iv,a,w,w2,_,_,_,_,_,h0,_=>by cases h0
 | k :: l,iv,a,w,w2,hl,hs,hS,hbd,hg,h0,h => by
   obtain⟨ok,hk⟩:∃ o,ops[k]? = some o:=⟨_,Array.getElem?_eq_getElem (hl k (by simp))⟩
   cases h1:fa.contains k with
   | true =>
     obtain⟨_,h⟩:=(Gq h1).1 h
     exact(Gq h1).2 ⟨rfl,fun w0 hw0=>wpOp_mono (fun a1 w1 hh w' hg' hkp ho=>hh w' (hg.trans (hg'.mono hg.size)) hkp ho) (h w0 hw0)⟩
   | false =>
     cases h2:plain P ops k with
     | true =>
       obtain⟨v,hy,hm,_,hK⟩:=Ij hA hk h2 h1 hl hs hS hbd h
       have hL:l.any (fun x=>fa.contains x)=true:=by rw[List.any_cons,h1,Bool.false_or] at h0;exact h0
       exact LG hk h2 h1 (hS.more (DR hg)) (hm w2 (DR hg)) (bM hA l iv _ w w2 (fun x hx=>hl x (by simp[hx])) (List.pairwise_cons.1 hs).2 hS (fun _=>hbd h0) hg hL hK)
     | false =>
       obtain⟨_,h⟩:=(Ef h0 h1 h2).1 h
       exact(Ef h0 h1 h2).2 ⟨rfl,fun w' hg' => h w' (hg.trans (hg'.mono hg.size))⟩
/-! ### Any order -/
theorem bN (hA:OkF P ops fl fa m):∀ (fuel:Nat) (l:List Nat) (listed:Array Bool) (iv:List (Nat × Nat)) (a:Act) (w:World),l.length=fuel->listed.size=ops.size->Closed ops listed->
 l.Pairwise (· < ·)->(∀ x,x∈l↔x<ops.size/\listed.getD x false=false)->((∃ x∈l,x<m)->Same B wS w)->(l.any (fun x=>fa.contains x)=true->Bd st iv w)->wpG P ops (Ac P ops B wS fl Q) (Same B wS) m fa st l iv w a w->wpAny P .any ops (Ac P ops B wS fl Q) fuel listed a w
 | 0,l,listed,iv,a,w,hlen,hsz,hcl,hs,hm,_,_,h => by
   have hl0:l=[]:=List.eq_nil_of_length_eq_zero hlen
   subst hl0
   refine⟨?_,h.2⟩
   refine List.eq_nil_iff_forall_not_mem.2 fun j hj=>?_
   obtain⟨h0,o,ho,_⟩:=mem_ready.1 hj
   have hjl:j<ops.size:=(Array.getElem?_eq_some_iff.1 ho).1
   have:=(hm j).2 ⟨hjl,getD_both h0⟩
   cases this
 | fuel + 1,l,listed,iv,a,w,hlen,hsz,hcl,hs,hm,hSl,hbd,h => by
   have both:∀ x,x<ops.size->listed.getD x false=false->listed.getD x true=false:=fun x hx hf=>getD_in (by omega) hf
   refine⟨fun hr=>?_,fun i hi=>?_⟩
   ·exfalso
    cases l with
    | nil=>cases hlen
    | cons k l =>
      have hm0:=(hm k).1 (by simp)
      obtain⟨o,ho⟩:∃ o,ops[k]? = some o:=⟨_,Array.getElem?_eq_getElem hm0.1⟩
      have:k∈Region.ready .any ops listed:=mem_ready.2 ⟨both k hm0.1 hm0.2,o,ho,fun e he hb=>by
       have hlt:=hA.top k o ho e he hb
       cases hx:listed.getD e.on false with
       | true=>rfl
       | false =>
         have hin:=(hm e.on).2 ⟨by omega,hx⟩
         rcases List.mem_cons.1 hin with h1|h1
         ·omega
         ·have:=(List.pairwise_cons.1 hs).1 _ h1
          omega⟩
      rw[hr] at this
      cases this
   ·obtain⟨hun,oi,hoi,hall⟩:=mem_ready.1 hi
    have hil:i<ops.size:=(Array.getElem?_eq_some_iff.1 hoi).1
    have hin:i∈l:=(hm i).2 ⟨hil,getD_both hun⟩
    obtain⟨ks,rest,rfl⟩:=List.append_of_mem hin
    have hpw:=List.pairwise_append.1 hs
    have hlt:∀ x∈ks++i::rest,x<ops.size:=fun x hx=>((hm x).1 hx).1
    have hks:∀ k∈ks,i<m/\CW P ops fl fa k i=true:=fun k hk=>by
     have hki:k<i:=hpw.2.2 k hk i (by simp)
     rcases hA.pair i k hil hki with hw|hp
     ·have:=Di hcl ops.size i k oi hoi hall hw
      have hk2:=((hm k).1 (by simp[hk])).2
      rw[hk2] at this
      cases this
     ·exact hp
    have hfr:wpOp P ops (Ac P ops B wS fl Q) i (fun a' w' => (i<m->Same B wS w')/\∃ iv',((ks++rest).any (fun x=>fa.contains x)=true->Bd st iv' w')/\wpG P ops (Ac P ops B wS fl Q) (Same B wS) m fa st (ks++rest) iv' w' a' w') a w:=by
     cases h0:(ks++i::rest).any (fun x=>fa.contains x) with
     | false =>
       obtain⟨_,h⟩:=(Df h0).1 h
       have hn:(ks++rest).any (fun x=>fa.contains x)=false:=kM (fun x hx=>by simp at hx ⊢;rcases hx with h|h<;>simp[h]) h0
       have h4:wpS P ops (Ac P ops B wS fl Q) (Same B wS) m (i::(ks++rest)) a w:=by
        cases ks with
        | nil=>exact h
        | cons k ks =>
          have him:=(hks k (by simp)).1
          exact iK hA him (Rz h0 i (by simp)) (k::ks) a w (fun x hx=>Rz h0 x (by simp at hx ⊢;rcases hx with h|h<;>simp[h])) (hSl ⟨i,hin,him⟩) hlt hs (fun x hx=>(hks x hx).2) h
       exact wpOp_mono (fun a1 w1 hh=>⟨hh.1,iv,(fun hx=>by rw[hn] at hx;cases hx),(Df hn).2 ⟨rfl,hh.2⟩⟩) (show wpOp P ops _ i (fun a' w' => (i<m->Same B wS w')/\wpS P ops (Ac P ops B wS fl Q) (Same B wS) m (ks++rest) a' w') a w from h4)
     | true =>
       have Je:=hbd h0
       have hmem:∃ x∈ks++i::rest,x<m:=by
        obtain⟨x,hx,hxf⟩:=List.any_eq_true.1 h0
        exact⟨x,hx,(hA.float x hxf).1⟩
       have hS:=hSl hmem
       cases hif:fa.contains i with
       | true =>
         obtain⟨v,w1,hy⟩:=JC hA hoi hif ks iv w a w hlt (fun k hk=>(hks k hk).2) Je h w Je.1
         have hg:=hy.Yz ((hA.float i hif).2 oi hoi)
         refine Yl.mk hoi hy ⟨fun _=>hS.more (DR hg),(w.heap.size,w1.heap.size)::iv,fun _=>Je.push hg.size,?_⟩
         have grow:wpG P ops (Ac P ops B wS fl Q) (Same B wS) m fa st (ks++i::rest) iv w1 a w1:=bM hA (ks++i::rest) iv a w w1 hlt hs hS (fun _=>Je) hg h0 h
         exact early hA hoi hif Je.1 ks iv a w1 hlt hs (fun k hk=>(hks k hk).2) (hS.more (DR hg)) ⟨Nat.le_trans Je.1 hg.size,fun x hx=>Nat.le_trans (Je.2 x hx) hg.size⟩ hy (Kept.refl _ _) Je.off grow
       | false =>
         cases hip:plain P ops i with
         | true =>
           obtain⟨v,hy,_,hK⟩:=Us hA hoi hip hif ks iv a w hlt hs hks hS hbd h
           exact Yl.mk hoi hy ⟨fun _=>hS,iv,fun _=>Je,hK⟩
         | false =>
           have hrest:rest.any (fun x=>fa.contains x)=true:=by
            have hkn:∀ k∈ks,fa.contains k=false:=fun k hk=>by
             obtain⟨ok,hok⟩:∃ o,ops[k]? = some o:=⟨_,Array.getElem?_eq_getElem (hlt k (by simp[hk]))⟩
             have hpk:=(hks k hk).2
             have hkd:¬ (kind P oi=0)/\¬ (kind P oi=1):=by simpa [plain,hoi] using hip
             cases hfk:fa.contains k with
             | false=>rfl
             | true =>
               simp only[CW,hok,hoi,hif,if_false,Bool.false_eq_true,Bool.and_eq_true,Bool.or_eq_true,beq_iff_eq,List.contains_iff_mem,hkd.1,hkd.2,or_false,false_and,and_false,false_or] at hpk
               have:=hpk.2
               rw[if_pos (by simpa using hfk)] at this
               simp[hkd.1,hkd.2] at this
            obtain⟨x,hx,hxf⟩:=List.any_eq_true.1 h0
            refine List.any_eq_true.2 ⟨x,?_,hxf⟩
            rcases List.mem_append.1 hx with h1|h1
            ·rw[hkn x h1] at hxf;cases hxf
            ·rcases List.mem_cons.1 h1 with rfl|h1
             ·rw[hif] at hxf;cases hxf
             ·exact h1
           refine wpOp_mono (fun a1 w1 hh=>⟨fun _=>hh.1,_,fun _=>Je.push hh.2.1.size,hh.2.2⟩) (tN hA hoi hip hif hrest ks iv a w hlt hs (fun k hk=>(hks k hk).2) hS Je h)
    refine wpOp_mono (fun a' w' hh=>?_) hfr
    obtain⟨hS',iv',hb',hK⟩:=hh
    refine bN hA fuel (ks++rest) _ iv' a' w' (by simp at hlen ⊢;omega) (by simp[hsz]) ?_ ?_ ?_ ?_ hb' hK
    ·intro j o ho hl e he hb
     by_cases hij:i=j
     ·subst hij
      have:o=oi:=Option.some.inj (ho.symm.trans hoi)
      subst this
      exact getD_set_true (hall e he hb)
     ·refine getD_set_true (hcl j o ho ?_ e he hb)
      rw[getD_set_ne false (by exact hij)] at hl
      exact hl
    ·exact List.pairwise_append.2 ⟨hpw.1,(List.pairwise_cons.1 hpw.2.1).2,fun x hx y hy=>hpw.2.2 x hx y (by simp[hy])⟩
    ·intro x
     have hx:=hm x
     have hne:x∈ks++rest->i≠x:=by
      intro hxm e
      subst e
      rcases List.mem_append.1 hxm with h1|h1
      ·have:=hpw.2.2 i h1 i (by simp)
       omega
      ·have:=(List.pairwise_cons.1 hpw.2.1).1 i h1
       omega
     constructor
     ·intro hxm
      have h1:=hx.1 (by simp at hxm ⊢;rcases hxm with h|h<;>simp[h])
      exact⟨h1.1,by rw[getD_set_ne false (hne hxm)];exact h1.2⟩
     ·rintro⟨h1,h2⟩
      by_cases hix:i=x
      ·subst hix
       simp[hsz,h1] at h2
      ·rw[getD_set_ne false hix] at h2
       have:=hx.2 ⟨h1,h2⟩
       simp at this ⊢
       rcases this with h|h|h
       ·exact .inl h
       ·exact absurd h.symm hix
       ·exact .inr h
    ·rintro⟨x,hx,hxm⟩
     refine hS' ?_
     rcases List.mem_append.1 hx with h1|h1
     ·exact(hks x h1).1
     ·have:=(List.pairwise_cons.1 hpw.2.1).1 x h1
      omega
/-! ### The walk in pieces -/
theorem upS (hA:OkF P ops fl fa m):∀ (l:List Nat) (a:Act) (w:World),(∀ x∈l,x<ops.size)->l.Pairwise (· < ·)->((∃ x∈l,x<m)->Same B wS w)->
 wpC P ops (Ac P ops B wS fl Q) (Same B wS) m l a w->wpS P ops (Ac P ops B wS fl Q) (Same B wS) m l a w
 | [],_,_,_,_,_,h=>h
 | i :: l,a,w,hl,hs,hS,h => by
   have h0:=Rq _ _ _ h
   have hs':=List.pairwise_cons.1 hs
   obtain⟨o,hi⟩:∃ o,ops[i]? = some o:=⟨_,Array.getElem?_eq_getElem (hl i (by simp))⟩
   have h:wpOp P ops (Ac P ops B wS fl Q) i (fun a' w' => (i<m->wild P ops i=true->Same B wS w')/\wpC P ops (Ac P ops B wS fl Q) (Same B wS) m l a' w') a w:=h
   show wpOp P ops (Ac P ops B wS fl Q) i (fun a' w' => (i<m->Same B wS w')/\wpS P ops (Ac P ops B wS fl Q) (Same B wS) m l a' w') a w
   have Sl:∀ a' w',(i<m->Same B wS w')->wpC P ops (Ac P ops B wS fl Q) (Same B wS) m l a' w' -> wpS P ops (Ac P ops B wS fl Q) (Same B wS) m l a' w':=fun a' w' hS' hh=>
    upS hA l a' w' (fun x hx=>hl x (by simp[hx])) hs'.2 (fun⟨x,hx,hxm⟩=>hS' (by have:=hs'.1 x hx;omega)) hh
   by_cases him:i<m
   ·have hSw:=hS ⟨i,by simp,him⟩
    by_cases hwd:wild P ops i=true
    ·exact wpOp_mono (fun a' w' hh=>⟨fun hm=>hh.1 hm hwd,Sl a' w' (fun hm=>hh.1 hm hwd) hh.2⟩) h
    ·have hn : Region.wanted o (yielded ops a.tmps) = true → Nv P (execOp a.eval o) :=by
      simp only[wild,hi,Bool.and_eq_true,bne_iff_ne,ne_eq,not_and,Classical.not_not] at hwd
      intro hw
      by_cases h0k:kind P o=0
      ·have h0g:wpOps P ops (Ends P ops (fun _ a w=>allIn B wS ops a fl/\Q .normal a w)) (i::l) a w:=Ch (fun e a w he=>Bw he) _ _ _ h0
       exact(BP hl h0g hi h0k (fun hn x hx o' ho' t ht=>hA.keep i o hi (.inl hn) x (by
        rcases List.mem_cons.1 hx with h|h
        ·omega
        ·have:=hs'.1 x h;omega) o' ho' t ht) hw).news
      ·by_cases h1k:kind P o=1
       ·exact(CG h1k).news
       ·exact GD (hwd ⟨h0k,h1k⟩)
     obtain⟨v,w',hy,hc,hh⟩:=D6 Ac.Bg hi hn h
     have Zq : Same B wS w':=hSw.more (hy.more hn)
     exact Yl.mk hi hy ⟨fun _=>Zq,Sl _ _ (fun _=>Zq) hh⟩
   ·exact wpOp_mono (fun a' w' hh=>⟨fun hm=>absurd hm him,Sl a' w' (fun hm=>absurd hm him) hh.2⟩) h
end
inductive Pc where
 | pure (n:Nat)
 | call
 | new
def Qk (w:World)(K:Act->Prop):Exit->Act->World->Prop:=fun e a1 w1=>e=.normal/\w1=w/\K a1
def Vx (S:World->Prop)(st:Nat)(w' : World)(K:Act->World->Prop):Exit->Act->World->Prop:=fun e a1 w1=>e=.normal/\S w1/\Kept st w' w1/\K a1 w1
def Ql (w w0:World)(iv:List (Nat × Nat))(K:Act->World->World->Prop):Exit->Act->World->Prop:=fun e a1 w1=>e=.normal/\∀ w',Grown w w' -> Kept w0.heap.size w1 w' -> Off iv w0.heap.size w1.heap.size->K a1 w1 w'
theorem Qk.intro {w:World}{K:Act->Prop}{a:Act}(h:K a):Qk w K .normal a w:=⟨rfl,rfl,h⟩
theorem Vx.intro {S:World->Prop}{st:Nat}{w' : World}{K:Act->World->Prop}{a:Act}{w:World}(hS:S w)(hk:Kept st w' w)(h:K a w):Vx S st w' K .normal a w:=⟨rfl,hS,hk,h⟩
theorem Ql.intro {w w0 w1:World}{iv:List (Nat × Nat)}{K:Act->World->World->Prop}{a:Act}(h:∀ w',Grown w w' -> Kept w0.heap.size w1 w' -> Off iv w0.heap.size w1.heap.size->K a w1 w'):Ql w w0 iv K .normal a w1:=⟨rfl,h⟩
def Jf (P:Program)(ops:Array Oper)(Q:Exit->Act->World->Prop)(S:World->Prop)(st:Nat)(cs:List Nat):List Pc->List Oper->List (Nat × Nat)->Act->World->Prop
 | [],l,_,a,w=>Br P ops Q S cs l a w
 | .pure n::ps,l,iv,a,w=>wpList P ops (Qk w (fun a1=>Jf P ops Q S st cs ps (l.drop n) iv a1 w)) (l.take n) a w
 | .call::ps,l,iv,a,w=>∀ w',Grown w w' -> wpList P ops (Vx S st w' (fun a1 w1=>Jf P ops Q S st cs ps (l.drop 1) ((w'.heap.size,w1.heap.size)::iv) a1 w1)) (l.take 1) a w'
 | .new::ps,l,iv,a,w=>∀ w0,st<=w0.heap.size->wpList P ops (Ql w w0 iv (fun a1 w1 w' => Jf P ops Q S st cs ps (l.drop 1) ((w0.heap.size,w1.heap.size)::iv) a1 w')) (l.take 1) a w0
def Mt (P:Program)(ops:Array Oper)(m:Nat)(fa:List Nat)(cs:List Nat):List Pc->Nat->Nat->Bool
 | [],n,k => !((List.range' k n).any fun x=>fa.contains x)&&Q5 P ops m cs n k
 | .pure c::ps,n,k=>decide (c<=n)&&((List.range c).all fun j=>plain P ops (k+j) && !fa.contains (k+j))&&((List.range' (k+c) (n-c)).any fun x=>fa.contains x)&&Mt P ops m fa cs ps (n-c) (k+c)
 | .call::ps,n,k=>decide (0<n) && !plain P ops k && !fa.contains k&&((List.range' k n).any fun x=>fa.contains x)&&Mt P ops m fa cs ps (n-1) (k+1)
 | .new::ps,n,k=>decide (0<n)&&fa.contains k&&Mt P ops m fa cs ps (n-1) (k+1)
theorem WU {S:World->Prop}{m:Nat}{fa:List Nat}{st:Nat}{iv:List (Nat × Nat)}{wr:World}{K:Act->Prop}{L:List Nat}(hL:L.any (fun x=>fa.contains x)=true)(hK:∀ a,K a->wpG P ops Q S m fa st L iv wr a wr):∀ (l:List Oper) (k:Nat) (a:Act) (w:World),w=wr\/l≠[]->(∀ j,j<l.length->l[j]? = ops[k+j]?)->((List.range l.length).all fun j=>plain P ops (k+j) && !fa.contains (k+j))=true->
 wpList P ops (fun e a1 w1=>e=.normal/\w1=wr/\K a1) l a w->wpG P ops Q S m fa st (List.range' k l.length++L) iv wr a w
 | [],k,a,w,_,_,_,h => by
   obtain⟨_,rfl,h⟩:=(h:(_:Exit)=.normal/\_/\K a)
   exact hK a h
 | o :: l,k,a,w,_,hl,hw,h => by
   have h0:ops[k]? = some o:=by simpa using (hl 0 (by simp)).symm
   have hNE:Dh (fun(e:Exit) (a1:Act) (w1:World)=>e=.normal/\w1=wr/\K a1):=fun _ _ _ he h=>he h.1
   have hh:=Fg (Q2:=Q) hNE (GR h0 h)
   simp only[List.all_eq_true,List.mem_range,List.length_cons,Bool.and_eq_true,Bool.not_eq_true'] at hw
   have hk:=hw 0 (by omega)
   simp only[Nat.add_zero] at hk
   rw[List.length_cons,List.range'_succ,List.cons_append]
   refine(GY (by simp only[List.any_cons,List.any_append,hL,Bool.or_true]) hk.2 hk.1).2 (wpOp_mono (fun a1 w1 h1=>?_) hh)
   refine WU hL hK l (k+1) a1 w1 ?_ (fun j hj=>?_) ?_ h1
   ·cases l with
    | nil=>exact .inl h1.2.1
    | cons _ _=>exact .inr (by simp)
   ·have:=hl (j+1) (by simp;omega)
    simpa [Nat.add_assoc,Nat.add_comm 1 j] using this
   ·simp only[List.all_eq_true,List.mem_range,Bool.and_eq_true,Bool.not_eq_true']
    intro j hj
    have:=hw (j+1) (by omega)
    rwa [show k+(j+1)=k+1+j from by omega] at this
section
variable {B:Nat->Prop} {wS:World} {fl fa:List Nat} {m st:Nat}
theorem OJ (hA:OkF P ops fl fa m){cs:List Nat} : ∀ (ps:List Pc) (l:List Oper) (k:Nat) (iv:List (Nat × Nat)) (a:Act) (w:World),(∀ j,j<l.length->l[j]? = ops[k+j]?)->(k+l.length=ops.size)->Same B wS w->Mt P ops m fa cs ps l.length k=true->
 Jf P ops (Ac P ops B wS fl Q) (Same B wS) st cs ps l iv a w->wpG P ops (Ac P ops B wS fl Q) (Same B wS) m fa st (List.range' k l.length) iv w a w
 | [],l,k,iv,a,w,hl,hsz,hS,hc,h => by
   simp only[Mt,Bool.and_eq_true,Bool.not_eq_true'] at hc
   refine(Df hc.1).2 ⟨rfl,upS hA _ a w (fun x hx=>?_) List.pairwise_lt_range' (fun _=>hS) (Ll cs l k a w hl hc.2 h)⟩
   have:=List.mem_range'_1.1 hx
   omega
 | .pure c :: ps,l,k,iv,a,w,hl,hsz,hS,hc,h => by
   simp only[Mt,Bool.and_eq_true,decide_eq_true_eq] at hc
   obtain⟨⟨⟨h1,h2⟩,h3⟩,h4⟩:=hc
   have hlen:(l.take c).length=c:=by simp;omega
   have hr:List.range' k l.length=List.range' k (l.take c).length++List.range' (k+c) (l.drop c).length:=by
    rw[hlen,List.length_drop,List.range'_append_1,show c+(l.length-c)=l.length from by omega]
   rw[hr]
   refine WU (K:=fun a1=>Jf P ops (Ac P ops B wS fl Q) (Same B wS) st cs ps (l.drop c) iv a1 w) (by rw[List.length_drop];exact h3) (fun a1 hk=>OJ hA ps (l.drop c) (k+c) iv a1 w (fun j hj=>?_) (by rw[List.length_drop];omega) hS (by rw[List.length_drop];exact h4) hk) (l.take c) k a w (.inl rfl) (fun j hj=>?_) (by rw[hlen];exact h2) h
   ·rw[List.getElem?_drop,hl (c+j) (by simp at hj;omega),Nat.add_assoc]
   ·rw[List.getElem?_take,if_pos (by omega),hl j (by simp at hj;omega)]
 | .call :: ps,l,k,iv,a,w,hl,hsz,hS,hc,h => by
   simp only[Mt,Bool.and_eq_true,decide_eq_true_eq,Bool.not_eq_true'] at hc
   obtain⟨⟨⟨⟨h1,h2⟩,h3⟩,h4⟩,h5⟩:=hc
   cases l with
   | nil=>simp at h1
   | cons o l =>
     have h0:ops[k]? = some o:=by simpa using (hl 0 (by simp)).symm
     rw[List.length_cons,List.range'_succ] at h4 ⊢
     refine(Ef h4 h3 h2).2 ⟨rfl,fun w' hg=>?_⟩
     have hNE:Dh (fun(e:Exit) (a1:Act) (w1:World)=>e=.normal/\Same B wS w1/\Kept st w' w1/\Jf P ops (Ac P ops B wS fl Q) (Same B wS) st cs ps l ((w'.heap.size,w1.heap.size)::iv) a1 w1):=fun _ _ _ he h=>he h.1
     refine wpOp_mono (fun a1 w1 hh=>?_) (Fg (Q2:=Ac P ops B wS fl Q) hNE (GR h0 (l:=[]) (h w' hg)))
     obtain⟨_,hS1,hk,hK⟩:=(hh:(_:Exit)=.normal/\_)
     refine⟨hS1,hk,OJ hA ps l (k+1) _ a1 w1 (fun j hj=>?_) (by simp at hsz;omega) hS1 (by simpa using h5) hK⟩
     have:=hl (j+1) (by simp;omega)
     simpa [Nat.add_assoc,Nat.add_comm 1 j] using this
 | .new :: ps,l,k,iv,a,w,hl,hsz,hS,hc,h => by
   simp only[Mt,Bool.and_eq_true,decide_eq_true_eq] at hc
   obtain⟨⟨h1,h3⟩,h5⟩:=hc
   cases l with
   | nil=>simp at h1
   | cons o l =>
     have h0:ops[k]? = some o:=by simpa using (hl 0 (by simp)).symm
     rw[List.length_cons,List.range'_succ]
     refine(Gq h3).2 ⟨rfl,fun w0 hw0=>?_⟩
     have hNE:Dh (fun(e:Exit) (a1:Act) (w1:World)=>e=.normal/\∀ w',Grown w w' -> Kept w0.heap.size w1 w' -> Off iv w0.heap.size w1.heap.size->Jf P ops (Ac P ops B wS fl Q) (Same B wS) st cs ps l ((w0.heap.size,w1.heap.size)::iv) a1 w'):=fun _ _ _ he h=>he h.1
     refine wpOp_mono (fun a1 w1 hh w' hg hk ho=>?_) (Fg (Q2:=Ac P ops B wS fl Q) hNE (GR h0 (l:=[]) (h w0 hw0)))
     obtain⟨_,hK⟩:=(hh:(_:Exit)=.normal/\_)
     refine OJ hA ps l (k+1) _ a1 w' (fun j hj=>?_) (by simp at hsz;omega) (hS.more (DR hg)) (by simpa using h5) (hK w' hg hk ho)
     have:=hl (j+1) (by simp;omega)
     simpa [Nat.add_assoc,Nat.add_comm 1 j] using this
end
theorem wW {l:List Oper}{a:Act}{w:World}(B:Nat->Prop)(fl fa:List Nat)(m:Nat)(ps:List Pc)(cs:List Nat)(hA:Y3 P l.toArray fl fa m=true)(hC:Mt P l.toArray m fa cs ps l.length 0=true)
 (h:Jf P l.toArray (Ac P l.toArray B w fl Q) (Same B w) w.heap.size cs ps l [] a w):wpAny P .any l.toArray (Ac P l.toArray B w fl Q) l.toArray.size (Array.replicate l.toArray.size false) a w:=by
 refine bN (QW hA) (st:=w.heap.size) l.toArray.size (List.range l.toArray.size) _ [] a _ (by simp) (by simp) ?_ List.pairwise_lt_range (fun x=>by
  constructor
  ·intro hx
   have:=List.mem_range.1 hx
   exact⟨this,by simp only[Array.getD_eq_getD_getElem?];simp at this ⊢;simp[this]⟩
  ·exact fun hx=>List.mem_range.2 hx.1) (fun _=>Same.refl _ _) (fun _=>⟨Nat.le_refl _,fun _ hx=>by cases hx⟩) ?_
 ·intro j o ho hl
  rw[getD_replicate_false] at hl
  cases hl
 ·rw[List.range_eq_range',show l.toArray.size=l.length from by simp]
  exact OJ (QW hA) ps l 0 [] a w (by simp) (by simp) (Same.refl _ _) hC h
theorem FJ {id:Nat}{l:List Oper}{a:Act}{w:World}(B:Nat->Prop)(fl fa:List Nat)(m:Nat)(ps:List Pc)(cs:List Nat)(hm:P.follows .mixedOrders=true)(hA:Y3 P l.toArray fl fa m=true)(hC:Mt P l.toArray m fa cs ps l.length 0=true)
 (h:Jf P l.toArray (Ac P l.toArray B w.drew fl Q) (Same B w.drew) w.drew.heap.size cs ps l [] a w.drew):(Code.region id l.toArray true).wp P Q a w:=
 Code.wp_mono (Q:=Ac P l.toArray B w.drew fl Q) (fun e a' w' he=>by obtain⟨rfl,_,_,h⟩:=he;exact h) (wp_region_any hm (wW B fl fa m ps cs hA hC h))
end
end Lex
end
section
open Go Go.RowKit Go.Maps
namespace Own
theorem Ut (o:Ar)(op:Op):(Bc o op).1.size<=3000:=by
 unfold Bc
 split
 ·rename_i h
  simp only[Bool.and_eq_true] at h
  have h1:=GL (LU.of h.2)
  have h2:=Cod.Co o.count.toNat
  have h3:(Sig.b1 12).size=1:=rfl
  dsimp only
  simp only[Sha.Ah]
  omega
 ·show(0:Nat)<=3000
  omega
theorem Lb (s:Space)(msg:ByteArray):∀ (l:List Aj) (seen:List ByteArray) (K:List KeyUse) (c:Int),Bp s msg seen K l=.error c->c≠0
 | [],_,_,c,h=>by cases h
 | a :: l,seen,K,c,h => by
   unfold Bp at h
   split at h
   ·cases h;decide
   ·split at h
    ·cases h;decide
    ·split at h
     ·split at h
      ·cases h;decide
      ·exact Lb s msg l _ _ c h
     ·cases h;decide
theorem OL (s:Space)(msg:ByteArray):∀ (l:List Aj) (seen:List ByteArray) (K K' : List KeyUse),Bp s msg seen K l=.ok K' -> K'.length<=K.length+l.length
 | [],_,_,_,h=>by cases h;exact Nat.le_refl _
 | a :: l,seen,K,K',h => by
   unfold Bp at h
   split at h
   ·cases h
   ·split at h
    ·cases h
    ·split at h
     ·split at h
      ·cases h
      ·rename_i m _ _ _ _
       have h1:=OL s msg l _ _ K' h
       rw[FH] at h1
       have h2:=IZ KeyUse.pub (⟨m.pub,a.sig.index+1⟩:KeyUse) K
       rw[List.length_cons]
       omega
     ·cases h
def Em (cnt:Int)(sv kv:Value)(op:Op)(mv av:Value)(ex:Int):Array Value:=#[.int .i64 cnt,sv,kv,.int .i64 op.kind,.string op.pre,mv,.int .i64 op.threshold,.string op.name,.string op.pub,av,.int .i64 ex]
structure Chg (B:Nat) (w:World) (g:Nat) (o:Ar) (op:Op) (ex:Int) (sv kv mv av:Value) (us:List Value):Prop where
 at_:At w g 87 (Em o.count sv kv op mv av ex)
 sp:Cg B w sv o.spaces us
 ks:w.ownsRow B 59 2 kv o.keys.length (o.keys.flatMap DL)
 ms:Au 2 Eh (fun k=>k≠g) w mv op.members
section
variable {B g:Nat} {w w' : World} {o:Ar} {op:Op} {ex:Int} {sv kv mv av:Value} {us:List Value}
theorem Chg.below (h:Chg B w g o op ex sv kv mv av us)(hb:Below w.heap.size w w'):Chg B w' g o op ex sv kv mv av us:=
 ⟨h.at_.below hb h.at_.lt,h.sp.below hb,own_below h.ks hb,h.ms.below hb⟩
theorem Chg.keys (h:Chg B w g o op ex sv kv mv av us):DJ w kv o.keys:=DJ.of (Bh.own h.ks) rfl
theorem Chg.spaces (h:Chg B w g o op ex sv kv mv av us):BH w sv o.spaces:=h.sp.list (F:=gK) (fun _ _=>trivial)
theorem Chg.Ih (h:Chg B w g o op ex sv kv mv av us):Ag w mv op.members:=h.ms.mono (fun _ _ _=>trivial)
end
def Y4 (w:World)(g:Nat)(o:Ar)(op:Op)(ex:Int)(mv av:Value)(R:Except Int (List KeyUse))(e:Ending)(w' : World):Prop:=match R with
 | .error c=>e=.returned (.int .i64 c)/\Below w.heap.size w w'
 | .ok K=>e=.returned (.int .i64 0)/\(∃ sv kv us,Chg w.heap.size w' g ⟨o.count,o.spaces,K⟩ op ex sv kv mv av us)/\Fr (fun k=>k=g) w w'
end Own
theorem Uu (B g:Nat)(o:Own.Ar)(op:Own.Op)(ex:Int)(s:Own.Space)(sv kv mv av smv:Value)(us:List Value)(w:World)(hM:IY w)(h:Own.Chg B w g o op ex sv kv mv av us)(hA:Own.I4 w av op.Aa)(hsm:Own.Ag w smv s.members)
 (hsrt:Own.Srt Own.KeyUse.pub o.keys) (hls:o.spaces.length<=3000000) (hlk:o.keys.length+op.Aa.length<=900000) (hlm:∀ s∈o.spaces,s.members.length<=3000000) (hml:s.members.length<=3000000) (hol:op.members.length<=140737488355328)
 (hal:∀ a∈op.Aa,a.name.size<=140737488355328/\a.sig.chains.length<=140737488355328/\a.sig.path.length<=140737488355328):
 Calls Tryz.prog 107 #[.pointer (some ⟨g,0,none⟩),.agg #[.string s.pre,smv,.int .i64 s.threshold]] w (Own.Y4 w g o op ex mv av (Own.AX s (Own.Bc o op).1 o.keys op.Aa)):=by
 obtain⟨R,hR⟩:∃ R,R=Own.AX s (Own.Bc o op).1 o.keys op.Aa:=⟨_,rfl⟩
 obtain⟨Q,hQ⟩:∃ Q,Q=Own.Y4 w g o op ex mv av R:=⟨_,rfl⟩
 rw[<- hR,<- hQ]
 obtain⟨sa,sc,hsv⟩:=h.sp.slice
 subst hsv
 obtain⟨ka,kn,kc,hkv⟩:=Ad h.ks
 subst hkv
 obtain rfl:=Bf h.ks
 obtain⟨ma,mc,hmv⟩:=h.ms.len
 subst hmv
 obtain⟨aa,ac,hav,_⟩:=id hA
 subst hav
 obtain⟨sma,smc,rfl⟩:=hsm.len
 have hms:=Own.Ut o op
 have Ku:=fun W (hW:Below w.heap.size w W)=>Mr o op (.slice sa o.spaces.length sc) (.slice ka o.keys.length kc) (.slice ma op.members.length mc) (.slice aa op.Aa.length ac) W (hM.below hW) ⟨_,_,_,rfl⟩ ⟨_,_,_,rfl⟩ (h.Ih.below hW) ⟨_,_,rfl⟩ hol
 have zcS:=fun(M:ByteArray) (hz:M.size<=3000) W (hW:Below w.heap.size w W)=>Ui o s M op.Aa (.slice sa o.spaces.length sc) (.slice ka o.keys.length kc) (.slice sma s.members.length smc) (.slice aa op.Aa.length ac) W (h.spaces.below hW) (h.keys.below hW) (hsm.below hW) (hA.below hW) hsrt hls hlk hlm hml (by omega) hal
 have hRK:∀ K,R=.ok K->K.length<=900000:=fun K hK=>by
  rw[hR] at hK
  unfold Own.AX at hK
  split at hK
  ·cases hK
  ·rename_i K2 he
   split at hK
   ·cases hK
   ·cases hK
    have:=Own.OL s _ _ _ _ _ he
    omega
 unfold Own.opV at Ku
 have HR:=zh hR;have HQ:=zh hQ;have H:=zh h;have zem:=zh Ku;have zen:=zh zcS;have HRK:=zh hRK
 clear hR hQ h Ku zcS hA hsm hM hsrt hlm hal hRK
 have K1:=zh (show Aw w _ [(39,#[.string s.pre,.slice sma s.members.length smc,.int .i64 s.threshold])] from((Dm.nil w).push 39 #[.string s.pre,.slice sma s.members.length smc,.int .i64 s.threshold]).boxes)
 have H1:=zh (H.out.below K1.out.under)
 go_enter Tryz.func107,Tryz.ntmps107
 go_upto_region 1 with fail
 generalize (w.alloc (.cells #[.string s.pre,.slice sma s.members.length smc,.int .i64 s.threshold] 39))=w1 at*
 have c0:=H1.out.at_.cell 0;have c1:=H1.out.at_.cell 1;have c2:=H1.out.at_.cell 2;have c3:=H1.out.at_.cell 3;have c4:=H1.out.at_.cell 4;have c5:=H1.out.at_.cell 5;have c6:=H1.out.at_.cell 6;have c7:=H1.out.at_.cell 7;have c8:=H1.out.at_.cell 8;have c9:=H1.out.at_.cell 9;have c10:=H1.out.at_.cell 10
 simp only[Own.Em,List.getElem?_toArray,List.getElem?_cons_zero,List.getElem?_cons_succ] at c0 c1 c2 c3 c4 c5 c6 c7 c8 c9 c10
 refine Lex.zl ?_
 go_wp2_with fail
 refine(zem.out _ (K1.out.under.trans ((Below.refl w1.heap.size w1).drew.mono K1.out.under.size))).mono ?_
 rintro e w2 ⟨rfl,hb2⟩
 have B2:=zh (show Below w1.heap.size w1 w2 from(Below.refl w1.heap.size w1).drew.trans hb2)
 have K2:=zh (K1.out.step B2.out);have H2:=zh (H1.out.below B2.out)
 clear hb2
 clear c0 c1 c2 c3 c4 c5 c6 c7 c8 c9 c10
 obtain⟨M,hM⟩:∃ M,M=(Own.Bc o op).1:=⟨_,rfl⟩
 rw[<- hM] at hms HR ⊢
 obtain⟨mc2,zcT⟩:∃ c,c=(Own.Bc o op).2:=⟨_,rfl⟩
 rw[<- zcT]
 clear hM zcT
 go_wp2_with fail
 refine Lex.ze ?_
 go_upto_region 2 with fail
 have c0:=H2.out.at_.cell 0;have c1:=H2.out.at_.cell 1;have c2:=H2.out.at_.cell 2;have c3:=H2.out.at_.cell 3;have c4:=H2.out.at_.cell 4;have c5:=H2.out.at_.cell 5;have c6:=H2.out.at_.cell 6;have c7:=H2.out.at_.cell 7;have c8:=H2.out.at_.cell 8;have c9:=H2.out.at_.cell 9;have c10:=H2.out.at_.cell 10
 simp only[Own.Em,List.getElem?_toArray,List.getElem?_cons_zero,List.getElem?_cons_succ] at c0 c1 c2 c3 c4 c5 c6 c7 c8 c9 c10
 obtain⟨x00,x01,x02⟩:=K2.out.Gj rfl
 refine Lex.FJ (fun _=>False) [] [15] 17 [.pure 11,.call,.pure 3,.new] [1] (by kernel_rfl) (by kernel_rfl) (by kernel_rfl) ?_
 simp only[Lex.Jf,Lex.Br,zd]
 have bd:Below w2.heap.size w2 w2.drew:=(Below.refl _ _).drew
 have BD:=zh bd
 clear bd
 go_wp2_with fail
 refine Lex.Qk.intro ?_
 intro w4 hg4
 have B4:=zh (BD.out.trans (hg4.mono BD.out.size))
 have K4:=zh (K2.out.step B4.out);have H4:=zh (H2.out.below B4.out)
 clear hg4
 (try clear x00 x01 x02)
 clear c0 c1 c2 c3 c4 c5 c6 c7 c8 c9 c10
 go_wp2_with fail
 refine(zen.out M hms w4 K4.out.under).mono ?_
 intro e w5 hpost
 obtain⟨hval,hb5⟩:=hpost
 have HB5:=zh hb5
 have B5:=zh (B4.out.trans (hb5.mono B4.out.size))
 have K5:=zh (K4.out.step hb5);have H5:=zh (H4.out.below hb5)
 clear hb5
 cases hap:Own.Bp s M [] o.keys op.Aa with
 | error c =>
   rw[hap] at hval
   have hval:e=.returned (.tuple #[Own.nobody,.int .i64 c]):=hval
   subst hval
   have hc:=Own.Lb s M _ _ _ c hap
   have HE:=zh (show R=.error c by rw[HR.out,Own.AX,hap])
   clear hap HR
   have dz:(c==(0:Int))=false:=by rw[beq_eq_false_iff_ne];exact hc
   unfold Own.nobody
   clear hc
   go_wp2_with fail
   refine Lex.Vx.intro (fun j hj _=>absurd hj id) (Lex.Kept.of_below HB5.out) ?_
   go_wp2_with fail
   refine Lex.Qk.intro ?_
   intro w6 hw6
   go_wp2_with fail
   refine Lex.Ql.intro (fun w7 hg7 hk7 ho7=>?_)
   have hs7:=hk7.at_
   have hl6:w.heap.size<=w6.heap.size:=Nat.le_trans K2.out.under.size hw6
   obtain⟨g7,hgs⟩:∃ g,g=w6.heap.size:=⟨_,rfl⟩
   rw[<- hgs] at hs7 hl6
   have tO:=zh hg7
   have B7:=zh (B5.out.trans (hg7.mono B5.out.size));have K7:=zh (K5.out.step hg7);have H7:=zh (H5.out.below hg7);have GS7:=zh hs7
   rw[<- hgs]
   clear hg7 hk7 ho7 hs7 hgs hw6
   have s0:=GS7.out.cell 0;have s1:=GS7.out.cell 1;have s2:=GS7.out.cell 2;have s3:=GS7.out.free 0;have s4:=GS7.out.free 1;have s5:=GS7.out.free 2
   simp only[zg] at s0 s1 s2
   go_wp2_with fail
   refine Lex.Mid.intro (fun j hj _=>absurd hj id) ?_
   go_wp2_with fail
   refine Lex.zk trivial ?_
   clear s0 s1 s2 s3 s4 s5
   go_wp2_with fail
   (try go_ret)
   rw[HQ.out,HE.out]
   exact⟨rfl,((K7.out.under.setCell (p:=⟨g7,0,none⟩) hl6 _).setCell (p:=⟨g7,1,none⟩) hl6 _).setCell (p:=⟨g7,2,none⟩) hl6 _⟩
 | ok L =>
   rw[hap] at hval
   have hval:if (op.Aa.length:Int)<s.threshold then e=.returned (.tuple #[Own.nobody,.int .i64 20]) else ∃ sv kv us,e=.returned (.tuple #[.agg #[.int .i64 o.count,sv,kv],.int .i64 0])/\Own.Cg w4.heap.size w5 sv o.spaces us/\w5.ownsRow w4.heap.size 59 2 kv L.length (L.flatMap Own.DL):=hval
   by_cases ht:(op.Aa.length:Int)<s.threshold
   ·rw[if_pos ht] at hval
    subst hval
    have HE:=zh (show R=.error 20 by rw[HR.out,Own.AX,hap];exact if_pos ht)
    have hc:(20:Int)≠0:=by decide
    clear hap ht HR
    have dz:(20==(0:Int))=false:=by rw[beq_eq_false_iff_ne];exact hc
    unfold Own.nobody
    clear hc
    go_wp2_with fail
    refine Lex.Vx.intro (fun j hj _=>absurd hj id) (Lex.Kept.of_below HB5.out) ?_
    go_wp2_with fail
    refine Lex.Qk.intro ?_
    intro w6 hw6
    go_wp2_with fail
    refine Lex.Ql.intro (fun w7 hg7 hk7 ho7=>?_)
    have hs7:=hk7.at_
    have hl6:w.heap.size<=w6.heap.size:=Nat.le_trans K2.out.under.size hw6
    obtain⟨g7,hgs⟩:∃ g,g=w6.heap.size:=⟨_,rfl⟩
    rw[<- hgs] at hs7 hl6
    have tO:=zh hg7
    have B7:=zh (B5.out.trans (hg7.mono B5.out.size));have K7:=zh (K5.out.step hg7);have H7:=zh (H5.out.below hg7);have GS7:=zh hs7
    rw[<- hgs]
    clear hg7 hk7 ho7 hs7 hgs hw6
    have s0:=GS7.out.cell 0;have s1:=GS7.out.cell 1;have s2:=GS7.out.cell 2;have s3:=GS7.out.free 0;have s4:=GS7.out.free 1;have s5:=GS7.out.free 2
    simp only[zg] at s0 s1 s2
    go_wp2_with fail
    refine Lex.Mid.intro (fun j hj _=>absurd hj id) ?_
    go_wp2_with fail
    refine Lex.zk trivial ?_
    clear s0 s1 s2 s3 s4 s5
    go_wp2_with fail
    (try go_ret)
    rw[HQ.out,HE.out]
    exact⟨rfl,((K7.out.under.setCell (p:=⟨g7,0,none⟩) hl6 _).setCell (p:=⟨g7,1,none⟩) hl6 _).setCell (p:=⟨g7,2,none⟩) hl6 _⟩
   ·rw[if_neg ht] at hval
    obtain⟨sv',kv',us',rfl,hsp,hks⟩:=hval
    have HE:=zh (show R=.ok L by rw[HR.out,Own.AX,hap];exact if_neg ht)
    obtain⟨sa',sc',hsv⟩:=hsp.slice
    subst hsv
    obtain⟨ka',kn',kc',hkv⟩:=Ad hks
    subst hkv
    have SP:=zh hsp;have KS:=zh hks
    have h45:w.heap.size<=w4.heap.size:=K4.out.under.size
    clear hap ht HR hsp hks
    go_wp2_with fail
    refine Lex.Vx.intro (fun j hj _=>absurd hj id) (Lex.Kept.of_below HB5.out) ?_
    go_wp2_with fail
    refine Lex.Qk.intro ?_
    intro w6 hw6
    go_wp2_with fail
    refine Lex.Ql.intro (fun w7 hg7 hk7 ho7=>?_)
    have hs7:=hk7.at_
    have hl6:w.heap.size<=w6.heap.size:=Nat.le_trans K2.out.under.size hw6
    obtain⟨g7,hgs⟩:∃ g,g=w6.heap.size:=⟨_,rfl⟩
    rw[<- hgs] at hs7 hl6
    have tO:=zh hg7
    have B7:=zh (B5.out.trans (hg7.mono B5.out.size));have K7:=zh (K5.out.step hg7);have H7:=zh (H5.out.below hg7);have GS7:=zh hs7
    rw[<- hgs]
    clear hg7 hk7 ho7 hs7 hgs hw6
    have s0:=GS7.out.cell 0;have s1:=GS7.out.cell 1;have s2:=GS7.out.cell 2;have s3:=GS7.out.free 0;have s4:=GS7.out.free 1;have s5:=GS7.out.free 2
    simp only[zg] at s0 s1 s2
    go_wp2_with fail
    refine Lex.Mid.intro (fun j hj _=>absurd hj id) ?_
    go_wp2_with fail
    refine Lex.zk trivial ?_
    clear s0 s1 s2 s3 s4 s5
    have hne:g≠g7:=H7.out.at_.ne GS7.out (by decide)
    have HN:=zh hne
    have GST:=zh (((GS7.out.set 0 (.int .i64 o.count)).set 1 (.slice sa' o.spaces.length sc')).set 2 (.slice ka' kn' kc'))
    have HG7:=zh (((H7.out.at_.far (p:=⟨g7,0,none⟩) hne (.int .i64 o.count)).far (p:=⟨g7,1,none⟩) hne (.slice sa' o.spaces.length sc')).far (p:=⟨g7,2,none⟩) hne (.slice ka' kn' kc'))
    obtain⟨w8,hw8⟩:∃ w8,w8=((w7.setCell ⟨g7,0,none⟩ (.int .i64 o.count)).setCell ⟨g7,1,none⟩ (.slice sa' o.spaces.length sc')).setCell ⟨g7,2,none⟩ (.slice ka' kn' kc'):=⟨_,rfl⟩
    rw[<- hw8] at GST HG7 ⊢
    have xg:∀ k,k≠g7->w8.heap[k]? = w7.heap[k]? :=fun k hk=>by rw[hw8,zo hk,zo hk,zo hk]
    have hz8:w8.heap.size=w7.heap.size:=by rw[hw8];simp[World.setCell]
    have sp7:=SP.out.below tO.out
    have ks7:=own_below KS.out tO.out
    have sp8:Own.Cg w4.heap.size w8 (.slice sa' o.spaces.length sc') o.spaces us' :=
     ⟨sp7.len,Af sp7.row (fun k e=>xg k (fun e2=>GS7.out.own_ne sp7.row (by decide) (by rw[e,e2]))),fun i h1 h2=>Af (sp7.Ih i h1 h2) (fun k e=>xg k (fun e2=>GS7.out.own_ne (sp7.Ih i h1 h2) (by decide) (by rw[e,e2]))),sp7.apart⟩
    have ks8:=Af ks7 (fun k e=>xg k (fun e2=>GS7.out.own_ne ks7 (by decide) (by rw[e,e2])))
    have hgw:=H.out.at_.lt
    have zeo:g≠g7:=hne
    have ms8:=H5.out.ms
    have b8:Below w.heap.size w w8:=by
     rw[hw8]
     exact((K7.out.under.setCell (p:=⟨g7,0,none⟩) hl6 _).setCell (p:=⟨g7,1,none⟩) hl6 _).setCell (p:=⟨g7,2,none⟩) hl6 _
    have SP8:=zh sp8;have KS8:=zh ks8;have B8:=zh b8
    clear sp7 ks7 sp8 ks8 b8 xg hz8 hw8 ms8 hne zeo H7 K7 GS7 B7 H5 K5 B5 HB5 tO SP KS
    have hst:At w8 g7 25 #[.int .i64 o.count,.slice sa' o.spaces.length sc',.slice ka' kn' kc']:=GST.out
    obtain⟨s0,s1,s2⟩:=hst.c3
    have c0:=HG7.out.cell 0;have c1:=HG7.out.cell 1;have c2:=HG7.out.cell 2;have c3:=HG7.out.cell 3;have c4:=HG7.out.cell 4;have c5:=HG7.out.cell 5;have c6:=HG7.out.cell 6;have c7:=HG7.out.cell 7;have c8:=HG7.out.cell 8;have c9:=HG7.out.cell 9;have c10:=HG7.out.cell 10
    simp only[Own.Em,List.getElem?_toArray,List.getElem?_cons_zero,List.getElem?_cons_succ] at c0 c1 c2 c3 c4 c5 c6 c7 c8 c9 c10
    have z0:=HG7.out.free 0;have z1:=HG7.out.free 1;have z2:=HG7.out.free 2
    clear hst GST
    have ms8:=zh (H.out.ms.below B8.out)
    go_wp2_with fail
    (try go_ret)
    have far:∀ k,k≠g->(((w8.setCell ⟨g,0,none⟩ (.int .i64 o.count)).setCell ⟨g,1,none⟩ (.slice sa' o.spaces.length sc')).setCell ⟨g,2,none⟩ (.slice ka' kn' kc')).heap[k]? = w8.heap[k]? :=fun k hk=>by
     rw[zo hk,zo hk,zo hk]
    rw[HQ.out,HE.out]
    refine⟨rfl,⟨_,_,us',((HG7.out.set 0 _).set 1 _).set 2 _,?_,?_,?_⟩,?_⟩
    ·exact Own.Cg.base ⟨SP8.out.len,Af SP8.out.row (fun k e=>far k (fun e2=>HG7.out.own_ne SP8.out.row (by decide) (by rw[e,e2]))),fun i h1 h2=>Af (SP8.out.Ih i h1 h2) (fun k e=>far k (fun e2=>HG7.out.own_ne (SP8.out.Ih i h1 h2) (by decide) (by rw[e,e2]))),SP8.out.apart⟩ h45
    ·exact CO (Af KS8.out (fun k e=>far k (fun e2=>HG7.out.own_ne KS8.out (by decide) (by rw[e,e2])))) h45
    ·exact ms8.out.keep (by simp[World.setCell]) (fun k hk _=>far k hk)
    ·exact(((show Fr (fun k=>k=g) w w8 from Fr.of_below B8.out).setCell (p:=⟨g,0,none⟩) (.inl rfl) _).setCell (p:=⟨g,1,none⟩) (.inl rfl) _).setCell (p:=⟨g,2,none⟩) (.inl rfl) _
end
section
open Go
namespace Lex
section
variable {P:Program} {ops:Array Oper} {Q:Exit->Act->World->Prop}
def Y5 (P:Program)(ops:Array Oper)(fl:List Nat)(m:Nat):Bool:=
 Region.noSelect ops&&
 Js ops (fun a b=>BS P ops a b || (decide (b<m)&&CJ P ops fl a b)) ops.size ops.size 0 0&&
 ((List.range ops.size).all fun k => match ops[k]? with
   | some o => !needs o || (List.range ops.size).all fun i=>decide (i<k) || (match ops[i]? with|some o' => (match o'.dst with|some t => !(o.looksAt ops).contains t|none=>true)|none=>true)
   | none=>true)&&
 (fl.all fun k => match ops[k]? with
   | some o=>(List.range ops.size).all fun i=>decide (i<k) || (match ops[i]? with|some o' => (match o'.dst with|some t => !(o.looksAt ops).contains t|none=>true)|none=>true)
   | none=>true)&&
 (fl.all fun k=>decide (k<m)&&match ops[k]? with|some o=>kind P o==1|none=>false)
structure OkM (P:Program) (ops:Array Oper) (fl:List Nat) (m:Nat):Prop where
 sel:∀ (j:Nat) (o:Oper) (cs:Array SelectCase) (b:Bool),ops[j]? = some o->o.op≠.select cs b
 top:∀ (b:Nat) (ob:Oper),ops[b]? = some ob->∀ e∈ob.after,Region.binds .any e=true->e.on<b
 pair:∀ b a,b<ops.size->a<b->waits ops ops.size b a=true\/BS P ops a b=true\/(b<m/\CJ P ops fl a b=true)
 keep:∀ (k:Nat) (o:Oper),ops[k]? = some o->needs o=true\/k∈fl->∀ i,k<=i->∀ (o' : Oper),ops[i]? = some o' -> ∀ t,o'.dst=some t->t ∉ o.looksAt ops
 flm:∀ k∈fl,k<m/\∀ o,ops[k]? = some o->kind P o=1
theorem bO {fl:List Nat}{m:Nat}(h:Y5 P ops fl m=true):OkM P ops fl m:=by
 simp only[Y5,Bool.and_eq_true,List.all_eq_true,List.mem_range] at h
 obtain⟨⟨⟨⟨h1,h2⟩,h3⟩,h4⟩,h5⟩:=h
 refine⟨fun j o cs b hj=>Region.noSelect_spec h1 j o cs b hj,fun b ob hb e he hbi=>?_,fun b a hb ha=>?_,fun k o hk hn i hki o' hi t ht=>?_,fun k hk=>?_⟩
 ·exact(BU h2 hb).1 e he hbi
 ·have:=(BU h2 (Array.getElem?_eq_getElem hb)).2 a ha
  simpa using this
 ·have hkl:k<ops.size:=(Array.getElem?_eq_some_iff.1 hk).1
  have hil:i<ops.size:=(Array.getElem?_eq_some_iff.1 hi).1
  have key:((List.range ops.size).all fun i=>decide (i<k) || (match ops[i]? with|some o' => (match o'.dst with|some t => !(o.looksAt ops).contains t|none=>true)|none=>true))=true:=by
   rcases hn with hn|hn
   ·have:=h3 k hkl
    rw[hk] at this
    simpa [hn] using this
   ·have:=h4 k hn
    rw[hk] at this
    exact this
  simp only[List.all_eq_true,List.mem_range] at key
  have:=key i hil
  rw[hi] at this
  simp only[ht,Bool.or_eq_true,decide_eq_true_eq] at this
  rcases this with this|this
  ·omega
  ·simpa using this
 ·obtain⟨q1,q2⟩:=h5 k hk
  refine⟨by simpa using q1,fun o ho=>?_⟩
  rw[ho] at q2
  simpa using q2
theorem tQ {fl:List Nat}{a b:Nat}(h:BS P ops a b=true):CJ P ops fl a b=true:=by
 unfold BS at h
 unfold CJ
 split at h
 ·rename_i oa ob ha hb
  simp only[ha,hb,Bool.and_eq_true,Bool.or_eq_true] at h ⊢
  refine⟨h.1,.inl (.inl ?_)⟩
  simpa [or_assoc] using h.2
 ·cases h
theorem nY {fl:List Nat}{a b:Nat}(h:CJ P ops fl a b=true)(ha' : a ∉ fl)(hb' : b ∉ fl):BS P ops a b=true:=by
 unfold CJ at h
 unfold BS
 split at h
 ·rename_i oa ob ha hb
  simp only[ha,hb,Bool.and_eq_true,Bool.or_eq_true,List.contains_iff_mem,ha',hb',and_false,or_false] at h ⊢
  refine⟨h.1,?_⟩
  simpa [or_assoc] using h.2
 ·cases h
theorem JE {a b:Nat}{oa ob:Oper}(h:BS P ops a b=true)(ha:ops[a]? = some oa)(hb:ops[b]? = some ob):oa.apart ops ob=true/\(kind P ob=0\/kind P oa=0\/(kind P oa=1/\(kind P ob=1\/kind P ob=2))):=by
 simp only[BS,ha,hb,Bool.and_eq_true,Bool.or_eq_true,beq_iff_eq] at h
 exact⟨h.1,by simpa [or_assoc] using h.2⟩
section
variable {B:Nat->Prop} {w0:World} {fl:List Nat} {m:Nat}
theorem iL (hA:OkM P ops fl m){i:Nat}{rest:List Nat} : ∀ (ks:List Nat) (a:Act) (w:World),(∀ x∈ks++i::rest,x<ops.size)->(ks++i::rest).Pairwise (· < ·)->
 (∀ k∈ks,BS P ops k i=true)->wpOps P ops (Ac P ops B w0 fl Q) (ks++i::rest) a w->wpOps P ops (Ac P ops B w0 fl Q) (i::(ks++rest)) a w
 | [],_,_,_,_,_,h=>h
 | k :: ks,a,w,hl,hs,hp,h => by
   have hs':=List.pairwise_cons.1 hs
   have h0:=h
   rw[List.cons_append,wpOps_cons] at h
   have h1:wpOp P ops (Ac P ops B w0 fl Q) k (fun a' w' => wpOps P ops (Ac P ops B w0 fl Q) (i::(ks++rest)) a' w') a w:=
    wpOp_mono (fun a' w' hh=>iL hA ks a' w' (fun x hx=>hl x (by simp at hx ⊢;right;exact hx)) hs'.2 (fun x hx=>hp x (by simp[hx])) hh) h
   have hkl:k<ops.size:=hl k (by simp)
   have hil:i<ops.size:=hl i (by simp)
   obtain⟨ok,hk⟩:∃ o,ops[k]? = some o:=⟨_,Array.getElem?_eq_getElem hkl⟩
   obtain⟨oi,hi⟩:∃ o,ops[i]? = some o:=⟨_,Array.getElem?_eq_getElem hil⟩
   obtain⟨hap,hc⟩:=JE (hp k (by simp)) hk hi
   have h0g:wpOps P ops (Ends P ops (fun _ a w=>allIn B w0 ops a fl/\Q .normal a w)) (k::ks++i::rest) a w:=Ch (fun e a w he=>Bw he) _ _ _ h0
   have h2:wpOp P ops (Ac P ops B w0 fl Q) k (fun a' w' => wpOp P ops (Ac P ops B w0 fl Q) i (wpOps P ops (Ac P ops B w0 fl Q) (ks++rest)) a' w') a w:=
    wpOp_mono (fun a' w' hh=>by rw[wpOps_cons] at hh;exact hh) h1
   show wpOps P ops (Ac P ops B w0 fl Q) (i::(k::(ks++rest))) a w
   rw[wpOps_cons]
   refine wpOp_mono (fun a' w' hh=>?_) (swap Ac.Bg hk hi hap (fun cs b=>hA.sel k ok cs b hk) (fun cs b=>hA.sel i oi cs b hi) ?_ h2)
   ·rw[wpOps_cons];exact hh
   ·rcases hc with hc|hc|⟨hc1,hc2⟩
    ·refine .inl (BP (l:=k::ks++i::rest) hl h0g hi hc fun hn x hx o' ho' t ht=>?_)
     by_cases hxi:i<=x
     ·exact hA.keep i oi hi (.inl hn) x hxi o' ho' t ht
     ·have hxm : x ∈ k :: ks :=by
       rcases List.mem_append.1 hx with h|h
       ·exact h
       ·rcases List.mem_cons.1 h with h|h
        ·omega
        ·have:=(List.pairwise_append.1 hs).2.1
         have:=(List.pairwise_cons.1 this).1 x h
         omega
      exact(Oper.apart_spec (JE (hp x hxm) ho' hi).1).1 t ht
    ·refine .inr (.inl (BP (l:=k::ks++i::rest) hl h0g hk hc fun hn x hx o' ho' t ht=>?_))
     refine hA.keep k ok hk (.inl hn) x ?_ o' ho' t ht
     rcases List.mem_cons.1 hx with h|h
     ·omega
     ·have:=hs'.1 x h;omega
    ·exact .inr (.inr ⟨fun _=>CG hc1,fun _=>Cw hc2⟩)
theorem Y7 (hA:OkM P ops fl m){i:Nat}{oi:Oper}(hi:ops[i]? = some oi)(hip:kind P oi=0\/kind P oi=1)(him:m<=i){rest:List Nat} : ∀ (ks:List Nat) (a:Act) (w:World),(∀ x∈ks++i::rest,x<ops.size)->(ks++i::rest).Pairwise (· < ·)->
 (∀ k∈ks,BS P ops k i=true)->wpS P ops (Ac P ops B w0 fl Q) (Same B w0) m (ks++i::rest) a w->
 ∃ v,Yl P ops oi a w v w/\(kind P oi=0->∀ w2,Yl P ops oi a w2 v w2)/\(∀ w2,More w w2->Yl P ops oi a w2 v w2)/\wpS P ops (Ac P ops B w0 fl Q) (Same B w0) m (ks++rest) (a.put oi.dst v) w
 | [],a,w,hl,hs,hp,h => by
   have h0:=Im _ _ _ h
   have h0g:wpOps P ops (Ends P ops (fun _ a w=>allIn B w0 ops a fl/\Q .normal a w)) (i::rest) a w:=Ch (fun e a w he=>Bw he) _ _ _ h0
   have hq:kind P oi=0->Region.wanted oi (yielded ops a.tmps)=true->Quiet P (execOp a.eval oi):=fun hc=>BP (l:=i::rest) hl h0g hi hc fun hn x hx o' ho' t ht=>hA.keep i oi hi (.inl hn) x (by
    rcases List.mem_cons.1 hx with h|h
    ·omega
    ·have:=(List.pairwise_cons.1 hs).1 x h;omega) o' ho' t ht
   have hre:Region.wanted oi (yielded ops a.tmps)=true->Reads P (execOp a.eval oi):=fun hw=>by
    rcases hip with hc|hc
    ·intro n w w' hr
     obtain⟨q1,q2,q3⟩:=hq hc hw n w w' hr
     exact⟨q1,q2,fun w2 _=>q3 w2⟩
    ·exact CG hc
   have h:wpOp P ops (Ac P ops B w0 fl Q) i (fun a' w' => (i<m->Same B w0 w')/\wpS P ops (Ac P ops B w0 fl Q) (Same B w0) m rest a' w') a w:=h
   obtain⟨v,w',hy,_,hK⟩:=D6 Ac.Bg hi (fun hw=>(hre hw).news) h
   obtain⟨rfl,hm⟩:=hy.reads hre
   exact⟨v,hy,fun hc=>(hy.quiet (hq hc)).2,hm,hK⟩
 | k :: ks,a,w,hl,hs,hp,h => by
   have hs':=List.pairwise_cons.1 hs
   obtain⟨ok,hk⟩:∃ o,ops[k]? = some o:=⟨_,Array.getElem?_eq_getElem (hl k (by simp))⟩
   obtain⟨hap,hc⟩:=JE (hp k (by simp)) hk hi
   have hap:=Oper.apart_spec hap
   have I5:∀ cs b,oi.op≠.select cs b:=fun cs b=>hA.sel i oi cs b hi
   have JL:∀ cs b,ok.op≠.select cs b:=fun cs b=>hA.sel k ok cs b hk
   have hds:∀ t,oi.dst=some t->ok.dst≠some t:=fun t ht hk' => hap.2.1 t hk' ht
   have hl' : ∀ x∈ks++i::rest,x<ops.size:=fun x hx=>hl x (by simp at hx ⊢;right;exact hx)
   have hp' : ∀ x∈ks,BS P ops x i=true:=fun x hx=>hp x (by simp[hx])
   have h0g:wpOps P ops (Ends P ops (fun _ a w=>allIn B w0 ops a fl/\Q .normal a w)) (k::ks++i::rest) a w:=Ch (fun e a w he=>Bw he) _ _ _ (Im _ _ _ h)
   have h:wpOp P ops (Ac P ops B w0 fl Q) k (fun a' w' => (k<m->Same B w0 w')/\wpS P ops (Ac P ops B w0 fl Q) (Same B w0) m (ks++i::rest) a' w') a w:=h
   have done:∀ v,(∀ a1 w1,Rch a ok.dst a1->wpS P ops (Ac P ops B w0 fl Q) (Same B w0) m (ks++i::rest) a1 w1->wpS P ops (Ac P ops B w0 fl Q) (Same B w0) m (ks++rest) (a1.put oi.dst v) w1)->wpS P ops (Ac P ops B w0 fl Q) (Same B w0) m (k::(ks++rest)) (a.put oi.dst v) w:=fun v hv=>by
    show wpOp P ops (Ac P ops B w0 fl Q) k (fun a' w' => (k<m->Same B w0 w')/\wpS P ops (Ac P ops B w0 fl Q) (Same B w0) m (ks++rest) a' w') (a.put oi.dst v) w
    exact Jr Ac.Bg hk JL hap.2.2 hds h fun a1 w1 hR hh=>⟨hh.1,hv a1 w1 hR hh.2⟩
   have two:kind P oi=0->_:=fun hc0=>(show ∃ v,Yl P ops oi a w v w/\(kind P oi=0->∀ w2,Yl P ops oi a w2 v w2)/\(∀ w2,More w w2->Yl P ops oi a w2 v w2)/\wpS P ops (Ac P ops B w0 fl Q) (Same B w0) m (k::(ks++rest)) (a.put oi.dst v) w by
    obtain⟨a1,w1,hR,hh⟩:=FE Ac.Bg hk h
    obtain⟨v,hy,hy0,_,_⟩:=Y7 hA hi hip him ks a1 w1 hl' hs'.2 hp' hh.2
    have he:=hR.exec (o:=oi) (ops:=ops) I5 hap.1
    have hall:∀ w2,Yl P ops oi a w2 v w2:=fun w2=>(hy0 hc0 w2).same ⟨he.1.symm,he.2.symm⟩
    refine⟨v,hall w,fun _=>hall,fun w2 _=>hall w2,done v fun a2 w2 hR2 hh2=>?_⟩
    obtain⟨v2,hy2,_,_,hK2⟩:=Y7 hA hi hip him ks a2 w2 hl' hs'.2 hp' hh2
    have he2:=hR2.exec (o:=oi) (ops:=ops) I5 hap.1
    obtain⟨rfl,_⟩:=hy2.det ((hall w2).same he2)
    exact hK2)
   have three:kind P ok=0\/kind P ok=1->_:=fun hkd=>(show ∃ v,Yl P ops oi a w v w/\(kind P oi=0->∀ w2,Yl P ops oi a w2 v w2)/\(∀ w2,More w w2->Yl P ops oi a w2 v w2)/\wpS P ops (Ac P ops B w0 fl Q) (Same B w0) m (k::(ks++rest)) (a.put oi.dst v) w by
    have hre:Region.wanted ok (yielded ops a.tmps)=true->Reads P (execOp a.eval ok):=fun hw=>by
     rcases hkd with hc|hc
     ·intro n w w' hr
      obtain⟨q1,q2,q3⟩:=BP (l:=k::ks++i::rest) hl h0g hk hc (fun hn x hx o' ho' t ht=>hA.keep k ok hk (.inl hn) x (by
       rcases List.mem_cons.1 hx with h|h
       ·omega
       ·have:=hs'.1 x h;omega) o' ho' t ht) hw n w w' hr
      exact⟨q1,q2,fun w2 _=>q3 w2⟩
     ·exact CG hc
    obtain⟨vk,w1,hyk,hSk,hh⟩:=D6 Ac.Bg hk (fun hw=>(hre hw).news) h
    obtain⟨rfl,_⟩:=hyk.reads hre
    obtain⟨v,hy,hy0,hym,hK⟩:=Y7 hA hi hip him ks _ w1 hl' hs'.2 hp' hh
    have he:=(Rch.Hu a ok.dst vk).exec (o:=oi) (ops:=ops) I5 hap.1
    have hek:=(Rch.Hu a oi.dst v).exec (o:=ok) (ops:=ops) JL hap.2.2
    refine⟨v,hy.same ⟨he.1.symm,he.2.symm⟩,fun hc w2=>(hy0 hc w2).same ⟨he.1.symm,he.2.symm⟩,fun w2 hw2=>(hym w2 hw2).same ⟨he.1.symm,he.2.symm⟩,?_⟩
    show wpOp P ops (Ac P ops B w0 fl Q) k (fun a' w' => (k<m->Same B w0 w')/\wpS P ops (Ac P ops B w0 fl Q) (Same B w0) m (ks++rest) a' w') (a.put oi.dst v) w1
    exact Yl.mk hk (hyk.same hek) ⟨hSk,by rw[Act.put_comm a v vk hds];exact hK⟩)
   rcases hc with hc|hc|⟨hc,_⟩
   ·exact two hc
   ·exact three (.inl hc)
   ·exact three (.inr hc)
theorem tT (hA:OkM P ops fl m){i:Nat}(him:i<m){rest:List Nat} : ∀ (ks:List Nat) (a:Act) (w:World),Same B w0 w->(∀ x∈ks++i::rest,x<ops.size)->(ks++i::rest).Pairwise (· < ·)->
 (∀ k∈ks,CJ P ops fl k i=true)->wpS P ops (Ac P ops B w0 fl Q) (Same B w0) m (ks++i::rest) a w->wpS P ops (Ac P ops B w0 fl Q) (Same B w0) m (i::(ks++rest)) a w
 | [],_,_,_,_,_,_,h=>h
 | k :: ks,a,w,hS,hl,hs,hp,h => by
   have hsel:=hA.sel
   have hkeep:=hA.keep
   have hs':=List.pairwise_cons.1 hs
   have h0:=Im _ _ _ h
   have hki:k<i:=hs'.1 i (by simp)
   have h:wpOp P ops (Ac P ops B w0 fl Q) k (fun a' w' => (k<m->Same B w0 w')/\wpS P ops (Ac P ops B w0 fl Q) (Same B w0) m (ks++i::rest) a' w') a w:=h
   have h1:wpOp P ops (Ac P ops B w0 fl Q) k (fun a' w' => Same B w0 w' /\ wpS P ops (Ac P ops B w0 fl Q) (Same B w0) m (i::(ks++rest)) a' w') a w:=
    wpOp_mono (fun a' w' hh=>⟨hh.1 (by omega),tT hA him ks a' w' (hh.1 (by omega)) (fun x hx=>hl x (by simp at hx ⊢;right;exact hx)) hs'.2 (fun x hx=>hp x (by simp[hx])) hh.2⟩) h
   have hkl:k<ops.size:=hl k (by simp)
   have hil:i<ops.size:=hl i (by simp)
   obtain⟨ok,hk⟩:∃ o,ops[k]? = some o:=⟨_,Array.getElem?_eq_getElem hkl⟩
   obtain⟨oi,hi⟩:∃ o,ops[i]? = some o:=⟨_,Array.getElem?_eq_getElem hil⟩
   have hpk:=hp k (by simp)
   simp only[CJ,hk,hi,Bool.and_eq_true,Bool.or_eq_true,beq_iff_eq,List.contains_iff_mem] at hpk
   obtain⟨hap,hc⟩:=hpk
   have h2:wpOp P ops (Ac P ops B w0 fl Q) k (fun a' w' => Same B w0 w' /\ wpOp P ops (Ac P ops B w0 fl Q) i (fun a'' w'' => Same B w0 w'' /\ wpS P ops (Ac P ops B w0 fl Q) (Same B w0) m (ks++rest) a'' w'') a' w') a w:=
    wpOp_mono (fun a' w' hh=>⟨hh.1,wpOp_mono (fun a'' w'' h3=>⟨h3.1 him,h3.2⟩) (show wpOp P ops _ i (fun a'' w'' => (i<m->Same B w0 w'')/\wpS P ops _ (Same B w0) m (ks++rest) a'' w'') a' w' from hh.2)⟩) h1
   have FX:∀ x∈k::ks++i::rest,∀ o',ops[x]? = some o' -> (needs oi=true\/i∈fl)->∀ t,o'.dst=some t->t ∉ oi.looksAt ops:=fun x hx o' ho' hn t ht=>by
    by_cases hxi:i<=x
    ·exact hkeep i oi hi hn x hxi o' ho' t ht
    ·have hxm : x ∈ k :: ks :=by
      rcases List.mem_append.1 hx with h|h
      ·exact h
      ·rcases List.mem_cons.1 h with h|h
       ·omega
       ·have:=(List.pairwise_append.1 hs).2.1
        have:=(List.pairwise_cons.1 this).1 x h
        omega
     have hpx:=hp x hxm
     simp only[CJ,ho',hi,Bool.and_eq_true] at hpx
     exact(Oper.apart_spec hpx.1).1 t ht
   have FY:∀ x∈k::ks++i::rest,∀ o',ops[x]? = some o' -> (needs ok=true\/k∈fl)->∀ t,o'.dst=some t->t ∉ ok.looksAt ops:=fun x hx o' ho' hn t ht=>by
    refine hkeep k ok hk hn x ?_ o' ho' t ht
    rcases List.mem_cons.1 hx with h|h
    ·omega
    ·have:=hs'.1 x h;omega
   have h0g:wpOps P ops (Ends P ops (fun _ a w=>allIn B w0 ops a fl/\Q .normal a w)) (k::ks++i::rest) a w:=Ch (fun e a w he=>Bw he) _ _ _ h0
   have h3:=qj (S:=Same B w0) Ac.Bg hk hi hap (fun cs b=>hsel k ok cs b hk) (fun cs b=>hsel i oi cs b hi) hS ?_ h2
   ·show wpOp P ops _ i (fun a' w' => (i<m->Same B w0 w')/\wpS P ops _ (Same B w0) m (k::(ks++rest)) a' w') a w
    refine wpOp_mono (fun a' w' hh=>⟨fun _=>hh.1,?_⟩) h3
    show wpOp P ops _ k (fun a'' w'' => (k<m->Same B w0 w'')/\wpS P ops _ (Same B w0) m (ks++rest) a'' w'') a' w'
    exact wpOp_mono (fun a'' w'' h4=>⟨fun _=>h4.1,h4.2⟩) hh.2
   ·rcases hc with (((hc|hc)|⟨hc1,hc2⟩)|⟨hc,hm⟩)|⟨hc,hm⟩
    ·have hq:=BP (l:=k::ks++i::rest) hl h0g hi hc fun hn x hx o' ho' t ht=>FX x hx o' ho' (.inl hn) t ht
     exact .inl ⟨fun hw=>(hq hw).LK,fun hw=>(hq hw).news⟩
    ·have hq:=BP (l:=k::ks++i::rest) hl h0g hk hc fun hn x hx o' ho' t ht=>FY x hx o' ho' (.inl hn) t ht
     exact .inr (.inl ⟨fun hw=>(hq hw).LK,fun hw=>(hq hw).news⟩)
    ·exact .inr (.inr ⟨fun _=>CG hc1,fun _=>Cw hc2⟩)
    ·exact .inr (.inl ⟨IJ (l:=k::ks++i::rest) hl h0 hk hc hm fun x hx o' ho' t ht=>FY x hx o' ho' (.inr hm) t ht,fun _=>Cw (.inl hc)⟩)
    ·exact .inl ⟨IJ (l:=k::ks++i::rest) hl h0 hi hc hm fun x hx o' ho' t ht=>FX x hx o' ho' (.inr hm) t ht,fun _=>Cw (.inl hc)⟩
theorem bP (hA:OkM P ops fl m):∀ (fuel:Nat) (l:List Nat) (listed:Array Bool) (a:Act) (w:World),l.length=fuel->listed.size=ops.size->Closed ops listed->
 l.Pairwise (· < ·)->(∀ x,x∈l↔x<ops.size/\listed.getD x false=false)->(∀ x∈l,x ∉ fl)->wpOps P ops (Ac P ops B w0 fl Q) l a w->wpAny P .any ops (Ac P ops B w0 fl Q) fuel listed a w
 | 0,l,listed,a,w,hlen,hsz,hcl,hs,hm,_,h => by
   have hl0:l=[]:=List.eq_nil_of_length_eq_zero hlen
   subst hl0
   refine⟨?_,h⟩
   refine List.eq_nil_iff_forall_not_mem.2 fun j hj=>?_
   obtain⟨h0,o,ho,_⟩:=mem_ready.1 hj
   have hjl:j<ops.size:=(Array.getElem?_eq_some_iff.1 ho).1
   have:=(hm j).2 ⟨hjl,getD_both h0⟩
   cases this
 | fuel + 1,l,listed,a,w,hlen,hsz,hcl,hs,hm,hnf,h => by
   have both:∀ x,x<ops.size->listed.getD x false=false->listed.getD x true=false:=fun x hx hf=>getD_in (by omega) hf
   refine⟨fun hr=>?_,fun i hi=>?_⟩
   ·exfalso
    cases l with
    | nil=>cases hlen
    | cons k l =>
      have hm0:=(hm k).1 (by simp)
      obtain⟨o,ho⟩:∃ o,ops[k]? = some o:=⟨_,Array.getElem?_eq_getElem hm0.1⟩
      have:k∈Region.ready .any ops listed:=mem_ready.2 ⟨both k hm0.1 hm0.2,o,ho,fun e he hb=>by
       have hlt:=hA.top k o ho e he hb
       cases hx:listed.getD e.on false with
       | true=>rfl
       | false =>
         have hin:=(hm e.on).2 ⟨by omega,hx⟩
         rcases List.mem_cons.1 hin with h1|h1
         ·omega
         ·have:=(List.pairwise_cons.1 hs).1 _ h1
          omega⟩
      rw[hr] at this
      cases this
   ·obtain⟨hun,oi,hoi,hall⟩:=mem_ready.1 hi
    have hil:i<ops.size:=(Array.getElem?_eq_some_iff.1 hoi).1
    have hin:i∈l:=(hm i).2 ⟨hil,getD_both hun⟩
    obtain⟨ks,rest,rfl⟩:=List.append_of_mem hin
    have hpw:=List.pairwise_append.1 hs
    have hlt:∀ x∈ks++i::rest,x<ops.size:=fun x hx=>((hm x).1 hx).1
    have hks:∀ k∈ks,BS P ops k i=true\/(i<m/\CJ P ops fl k i=true):=fun k hk=>by
     have hki:k<i:=hpw.2.2 k hk i (by simp)
     rcases hA.pair i k hil hki with hw|hp
     ·have:=Di hcl ops.size i k oi hoi hall hw
      have hk2:=((hm k).1 (by simp[hk])).2
      rw[hk2] at this
      cases this
     ·exact hp
    have tV:∀ k∈ks,BS P ops k i=true:=fun k hk=>by
     rcases hks k hk with h|⟨_,h⟩
     ·exact h
     ·exact nY h (hnf k (by simp[hk])) (hnf i (by simp))
    have hfr:=iL hA ks a w hlt hs tV h
    rw[wpOps_cons] at hfr
    refine wpOp_mono (fun a' w' hh=>?_) hfr
    refine bP hA fuel (ks++rest) _ a' w' (by simp at hlen ⊢;omega) (by simp[hsz]) ?_ ?_ ?_ (fun x hx=>hnf x (by simp at hx ⊢;rcases hx with h|h<;>simp[h])) hh
    ·intro j o ho hl e he hb
     by_cases hij:i=j
     ·subst hij
      have:o=oi:=Option.some.inj (ho.symm.trans hoi)
      subst this
      exact getD_set_true (hall e he hb)
     ·refine getD_set_true (hcl j o ho ?_ e he hb)
      rw[getD_set_ne false (by exact hij)] at hl
      exact hl
    ·exact List.pairwise_append.2 ⟨hpw.1,(List.pairwise_cons.1 hpw.2.1).2,fun x hx y hy=>hpw.2.2 x hx y (by simp[hy])⟩
    ·intro x
     have hx:=hm x
     have hne:x∈ks++rest->i≠x:=by
      intro hxm e
      subst e
      rcases List.mem_append.1 hxm with h1|h1
      ·have:=hpw.2.2 i h1 i (by simp)
       omega
      ·have:=(List.pairwise_cons.1 hpw.2.1).1 i h1
       omega
     constructor
     ·intro hxm
      have h1:=hx.1 (by simp at hxm ⊢;rcases hxm with h|h<;>simp[h])
      exact⟨h1.1,by rw[getD_set_ne false (hne hxm)];exact h1.2⟩
     ·rintro⟨h1,h2⟩
      by_cases hix:i=x
      ·subst hix
       simp[hsz,h1] at h2
      ·rw[getD_set_ne false hix] at h2
       have:=hx.2 ⟨h1,h2⟩
       simp at this ⊢
       rcases this with h|h|h
       ·exact .inl h
       ·exact absurd h.symm hix
       ·exact .inr h
theorem bQ (hA:OkM P ops fl m)(zcU:∀ x∈fl,∀ i,m<=i->∀ oi,ops[i]? = some oi->kind P oi=2->False):∀ (fuel:Nat) (l:List Nat) (listed:Array Bool) (a:Act) (w:World),l.length=fuel->listed.size=ops.size->Closed ops listed->
 l.Pairwise (· < ·)->(∀ x,x∈l↔x<ops.size/\listed.getD x false=false)->((∃ x∈l,x<m)->Same B w0 w)->wpS P ops (Ac P ops B w0 fl Q) (Same B w0) m l a w->wpAny P .any ops (Ac P ops B w0 fl Q) fuel listed a w
 | 0,l,listed,a,w,hlen,hsz,hcl,hs,hm,_,h => by
   have hl0:l=[]:=List.eq_nil_of_length_eq_zero hlen
   subst hl0
   refine⟨?_,h⟩
   refine List.eq_nil_iff_forall_not_mem.2 fun j hj=>?_
   obtain⟨h0,o,ho,_⟩:=mem_ready.1 hj
   have hjl:j<ops.size:=(Array.getElem?_eq_some_iff.1 ho).1
   have:=(hm j).2 ⟨hjl,getD_both h0⟩
   cases this
 | fuel + 1,l,listed,a,w,hlen,hsz,hcl,hs,hm,hSl,h => by
   have both:∀ x,x<ops.size->listed.getD x false=false->listed.getD x true=false:=fun x hx hf=>getD_in (by omega) hf
   refine⟨fun hr=>?_,fun i hi=>?_⟩
   ·exfalso
    cases l with
    | nil=>cases hlen
    | cons k l =>
      have hm0:=(hm k).1 (by simp)
      obtain⟨o,ho⟩:∃ o,ops[k]? = some o:=⟨_,Array.getElem?_eq_getElem hm0.1⟩
      have:k∈Region.ready .any ops listed:=mem_ready.2 ⟨both k hm0.1 hm0.2,o,ho,fun e he hb=>by
       have hlt:=hA.top k o ho e he hb
       cases hx:listed.getD e.on false with
       | true=>rfl
       | false =>
         have hin:=(hm e.on).2 ⟨by omega,hx⟩
         rcases List.mem_cons.1 hin with h1|h1
         ·omega
         ·have:=(List.pairwise_cons.1 hs).1 _ h1
          omega⟩
      rw[hr] at this
      cases this
   ·obtain⟨hun,oi,hoi,hall⟩:=mem_ready.1 hi
    have hil:i<ops.size:=(Array.getElem?_eq_some_iff.1 hoi).1
    have hin:i∈l:=(hm i).2 ⟨hil,getD_both hun⟩
    obtain⟨ks,rest,rfl⟩:=List.append_of_mem hin
    have hpw:=List.pairwise_append.1 hs
    have hlt:∀ x∈ks++i::rest,x<ops.size:=fun x hx=>((hm x).1 hx).1
    have hks:∀ k∈ks,BS P ops k i=true\/(i<m/\CJ P ops fl k i=true):=fun k hk=>by
     have hki:k<i:=hpw.2.2 k hk i (by simp)
     rcases hA.pair i k hil hki with hw|hp
     ·have:=Di hcl ops.size i k oi hoi hall hw
      have hk2:=((hm k).1 (by simp[hk])).2
      rw[hk2] at this
      cases this
     ·exact hp
    have hfr:wpOp P ops (Ac P ops B w0 fl Q) i (fun a' w' => (((∃ x∈ks++rest,x<m)->Same B w0 w')/\wpS P ops (Ac P ops B w0 fl Q) (Same B w0) m (ks++rest) a' w')\/((∀ x∈ks++rest,x ∉ fl)/\wpOps P ops (Ac P ops B w0 fl Q) (ks++rest) a' w')) a w:=by
     have hgt:∀ x∈rest,i<x:=fun x hx=>(List.pairwise_cons.1 hpw.2.1).1 x hx
     by_cases him:i<m
     ·have h4 : wpS P ops (Ac P ops B w0 fl Q) (Same B w0) m (i :: (ks ++ rest)) a w :=by
       cases ks with
       | nil=>exact h
       | cons k ks =>
         exact tT hA him (k::ks) a w (hSl ⟨i,hin,him⟩) hlt hs (fun x hx=>by
          rcases hks x hx with h|⟨_,h⟩
          ·exact tQ h
          ·exact h) h
      exact wpOp_mono (fun a1 w1 hh=>.inl ⟨fun _=>hh.1 him,hh.2⟩) (show wpOp P ops _ i (fun a' w' => (i<m->Same B w0 w')/\wpS P ops (Ac P ops B w0 fl Q) (Same B w0) m (ks++rest) a' w') a w from h4)
     ·have tV : ∀ k ∈ ks,BS P ops k i = true :=fun k hk => by
       rcases hks k hk with h|⟨h,_⟩
       ·exact h
       ·exact absurd h him
      by_cases hip:kind P oi=0\/kind P oi=1
      ·obtain⟨v,hy,_,_,hK⟩:=Y7 hA hoi hip (by omega) ks a w hlt hs tV h
       exact Yl.mk hoi hy (.inl ⟨fun⟨x,hx,hxm⟩=>hSl ⟨x,(by simp at hx ⊢;rcases hx with h|h<;>simp[h]),hxm⟩,hK⟩)
      ·have hq:=iL hA ks a w hlt hs tV (Im _ _ _ h)
       rw[wpOps_cons] at hq
       refine wpOp_mono (fun a1 w1 hh=>.inr ⟨fun x hx hf=>?_,hh⟩) hq
       rcases List.mem_append.1 hx with h1|h1
       ·obtain⟨ox,hox⟩:∃ o,ops[x]? = some o:=⟨_,Array.getElem?_eq_getElem (hlt x (by simp[h1]))⟩
        have hk1:=(hA.flm x hf).2 ox hox
        obtain⟨_,hc⟩:=JE (tV x h1) hox hoi
        rcases hc with hc|hc|⟨_,hc⟩
        ·exact hip (.inl hc)
        ·omega
        ·rcases hc with hc|hc
         ·exact hip (.inr hc)
         ·have h2:=(hA.flm x hf).1
          exact zcU x hf i (by omega) oi hoi hc
       ·have:=hgt x h1
        have:=(hA.flm x hf).1
        omega
    refine wpOp_mono (fun a' w' hh=>?_) hfr
    rcases hh with ⟨hS',hK⟩|⟨hnf,hK⟩
    ·refine bQ hA zcU fuel (ks++rest) _ a' w' (by simp at hlen ⊢;omega) (by simp[hsz]) ?_ ?_ ?_ hS' hK
     ·intro j o ho hl e he hb
      by_cases hij:i=j
      ·subst hij
       have:o=oi:=Option.some.inj (ho.symm.trans hoi)
       subst this
       exact getD_set_true (hall e he hb)
      ·refine getD_set_true (hcl j o ho ?_ e he hb)
       rw[getD_set_ne false (by exact hij)] at hl
       exact hl
     ·exact List.pairwise_append.2 ⟨hpw.1,(List.pairwise_cons.1 hpw.2.1).2,fun x hx y hy=>hpw.2.2 x hx y (by simp[hy])⟩
     ·intro x
      have hx:=hm x
      have hne:x∈ks++rest->i≠x:=by
       intro hxm e
       subst e
       rcases List.mem_append.1 hxm with h1|h1
       ·have:=hpw.2.2 i h1 i (by simp)
        omega
       ·have:=(List.pairwise_cons.1 hpw.2.1).1 i h1
        omega
      constructor
      ·intro hxm
       have h1:=hx.1 (by simp at hxm ⊢;rcases hxm with h|h<;>simp[h])
       exact⟨h1.1,by rw[getD_set_ne false (hne hxm)];exact h1.2⟩
      ·rintro⟨h1,h2⟩
       by_cases hix:i=x
       ·subst hix
        simp[hsz,h1] at h2
       ·rw[getD_set_ne false hix] at h2
        have:=hx.2 ⟨h1,h2⟩
        simp at this ⊢
        rcases this with h|h|h
        ·exact .inl h
        ·exact absurd h.symm hix
        ·exact .inr h
    ·refine bP hA fuel (ks++rest) _ a' w' (by simp at hlen ⊢;omega) (by simp[hsz]) ?_ ?_ ?_ hnf hK
     ·intro j o ho hl e he hb
      by_cases hij:i=j
      ·subst hij
       have:o=oi:=Option.some.inj (ho.symm.trans hoi)
       subst this
       exact getD_set_true (hall e he hb)
      ·refine getD_set_true (hcl j o ho ?_ e he hb)
       rw[getD_set_ne false (by exact hij)] at hl
       exact hl
     ·exact List.pairwise_append.2 ⟨hpw.1,(List.pairwise_cons.1 hpw.2.1).2,fun x hx y hy=>hpw.2.2 x hx y (by simp[hy])⟩
     ·intro x
      have hx:=hm x
      have hne:x∈ks++rest->i≠x:=by
       intro hxm e
       subst e
       rcases List.mem_append.1 hxm with h1|h1
       ·have:=hpw.2.2 i h1 i (by simp)
        omega
       ·have:=(List.pairwise_cons.1 hpw.2.1).1 i h1
        omega
      constructor
      ·intro hxm
       have h1:=hx.1 (by simp at hxm ⊢;rcases hxm with h|h<;>simp[h])
       exact⟨h1.1,by rw[getD_set_ne false (hne hxm)];exact h1.2⟩
      ·rintro⟨h1,h2⟩
       by_cases hix:i=x
       ·subst hix
        simp[hsz,h1] at h2
       ·rw[getD_set_ne false hix] at h2
        have:=hx.2 ⟨h1,h2⟩
        simp at this ⊢
        rcases this with h|h|h
        ·exact .inl h
        ·exact absurd h.symm hix
        ·exact .inr h
theorem upM (hA:OkM P ops fl m):∀ (l:List Nat) (a:Act) (w:World),(∀ x∈l,x<ops.size)->l.Pairwise (· < ·)->((∃ x∈l,x<m)->Same B w0 w)->
 wpC P ops (Ac P ops B w0 fl Q) (Same B w0) m l a w->wpS P ops (Ac P ops B w0 fl Q) (Same B w0) m l a w
 | [],_,_,_,_,_,h=>h
 | i :: l,a,w,hl,hs,hS,h => by
   have h0:=Rq _ _ _ h
   have hs':=List.pairwise_cons.1 hs
   obtain⟨o,hi⟩:∃ o,ops[i]? = some o:=⟨_,Array.getElem?_eq_getElem (hl i (by simp))⟩
   have h:wpOp P ops (Ac P ops B w0 fl Q) i (fun a' w' => (i<m->wild P ops i=true->Same B w0 w')/\wpC P ops (Ac P ops B w0 fl Q) (Same B w0) m l a' w') a w:=h
   show wpOp P ops (Ac P ops B w0 fl Q) i (fun a' w' => (i<m->Same B w0 w')/\wpS P ops (Ac P ops B w0 fl Q) (Same B w0) m l a' w') a w
   have Sl:∀ a' w',(i<m->Same B w0 w')->wpC P ops (Ac P ops B w0 fl Q) (Same B w0) m l a' w' -> wpS P ops (Ac P ops B w0 fl Q) (Same B w0) m l a' w':=fun a' w' hS' hh=>
    upM hA l a' w' (fun x hx=>hl x (by simp[hx])) hs'.2 (fun⟨x,hx,hxm⟩=>hS' (by have:=hs'.1 x hx;omega)) hh
   by_cases him:i<m
   ·have hSw:=hS ⟨i,by simp,him⟩
    by_cases hwd:wild P ops i=true
    ·exact wpOp_mono (fun a' w' hh=>⟨fun hm=>hh.1 hm hwd,Sl a' w' (fun hm=>hh.1 hm hwd) hh.2⟩) h
    ·have hn : Region.wanted o (yielded ops a.tmps) = true → Nv P (execOp a.eval o) :=by
      simp only[wild,hi,Bool.and_eq_true,bne_iff_ne,ne_eq,not_and,Classical.not_not] at hwd
      intro hw
      by_cases h0k:kind P o=0
      ·have h0g:wpOps P ops (Ends P ops (fun _ a w=>allIn B w0 ops a fl/\Q .normal a w)) (i::l) a w:=Ch (fun e a w he=>Bw he) _ _ _ h0
       exact(BP hl h0g hi h0k (fun hn x hx o' ho' t ht=>hA.keep i o hi (.inl hn) x (by
        rcases List.mem_cons.1 hx with h|h
        ·omega
        ·have:=hs'.1 x h;omega) o' ho' t ht) hw).news
      ·by_cases h1k:kind P o=1
       ·exact(CG h1k).news
       ·exact GD (hwd ⟨h0k,h1k⟩)
     obtain⟨v,w',hy,hc,hh⟩:=D6 Ac.Bg hi hn h
     have Zq : Same B w0 w':=hSw.more (hy.more hn)
     exact Yl.mk hi hy ⟨fun _=>Zq,Sl _ _ (fun _=>Zq) hh⟩
   ·exact wpOp_mono (fun a' w' hh=>⟨fun hm=>absurd hm him,Sl a' w' (fun hm=>absurd hm him) hh.2⟩) h
end
def zq (P:Program)(ops:Array Oper)(m:Nat):Bool:=(List.range ops.size).all fun i=>decide (i<m) || (match ops[i]? with|some o=>kind P o != 2|none=>true)
theorem Uv {id:Nat}{l:List Oper}{a:Act}{w:World}(B:Nat->Prop)(fl:List Nat)(m:Nat)(cs:List Nat)(hm:P.follows .mixedOrders=true)(hA:(Y5 P l.toArray fl m&&zq P l.toArray m)=true)(hC:Q5 P l.toArray m cs l.length 0=true)
 (h:Br P l.toArray (Ac P l.toArray B w.drew fl Q) (Same B w.drew) cs l a w.drew):(Code.region id l.toArray true).wp P Q a w:=by
 rw[Bool.and_eq_true] at hA
 obtain⟨hA,hN⟩:=hA
 have hA:=bO hA
 refine Code.wp_mono (Q:=Ac P l.toArray B w.drew fl Q) (fun e a' w' he=>by obtain⟨rfl,_,_,h⟩:=he;exact h) (wp_region_any hm ?_)
 have hlt:∀ x∈List.range l.toArray.size,x<l.toArray.size:=fun x hx=>List.mem_range.1 hx
 refine bQ hA (fun x _ i hi oi hoi hk=>?_) l.toArray.size (List.range l.toArray.size) _ a _ (by simp) (by simp) ?_ List.pairwise_lt_range (fun x=>by
  constructor
  ·intro hx
   have:=List.mem_range.1 hx
   exact⟨this,by simp only[Array.getD_eq_getD_getElem?];simp at this ⊢;simp[this]⟩
  ·exact fun hx=>List.mem_range.2 hx.1) (fun _=>Same.refl _ _) ?_
 ·have hil:i<l.toArray.size:=(Array.getElem?_eq_some_iff.1 hoi).1
  have:=(List.all_eq_true.1 hN) i (List.mem_range.2 hil)
  rw[hoi] at this
  simp[hk] at this
  omega
 ·intro j o ho hl
  rw[getD_replicate_false] at hl
  cases hl
 ·refine upM hA _ _ _ hlt List.pairwise_lt_range (fun _=>Same.refl _ _) ?_
  rw[List.range_eq_range',show l.toArray.size=l.length from by simp]
  exact Ll cs l 0 a _ (by simp) hC h
end
end Lex
section
open Go
theorem Lex.zm{P:Program}{id:Nat}{l:List Oper}{Q:Exit->Act->World->Prop}{a:Act}{w:World}(B:Nat->Prop)(fl:List Nat)(m:Nat)(cs:List Nat)(h:Lex.Br P l.toArray (Lex.Ac P l.toArray B w.drew fl Q) (Lex.Same B w.drew) cs l a w.drew)(hm:P.follows .mixedOrders=true:=by kernel_rfl)(hA:(Lex.Y5 P l.toArray fl m&&Lex.zq P l.toArray m)=true:=by kernel_rfl)(hC:Lex.Q5 P l.toArray m cs l.length 0=true:=by kernel_rfl):(Code.region id l.toArray true).wp P Q a w:=Lex.Uv B fl m cs hm hA hC h
end
end
section
open Go Go.RowKit Go.Maps
structure RS where
 a:Nat
 e:Int
def stN (s:ByteArray)(r:RS):Nat × RS:=if r.e=0 then (match Cod.rdN s r.a with|some (v,b)=>(v,⟨b,0⟩)|none=>(0,⟨r.a,9⟩)) else (0,r)
def stT (s:ByteArray)(r:RS):ByteArray × RS:=if r.e=0 then (match Cod.rdT s r.a with|some (v,b)=>(v,⟨b,0⟩)|none=>(⟨#[]⟩,⟨r.a,9⟩)) else (⟨#[]⟩,r)
def stC (s:ByteArray)(m:Int)(r:RS):Nat × RS:=if r.e=0 then (match rdC s m r.a with|some (v,b)=>(v,⟨b,0⟩)|none=>(0,⟨r.a,9⟩)) else (0,r)
def stL (s:ByteArray)(r:RS):List ByteArray × RS:=if r.e=0 then (match Cod.Bu s r.a with|some (v,b)=>(v,⟨b,0⟩)|none=>([],⟨r.a,9⟩)) else ([],r)
theorem Qm {s:ByteArray}{r:RS}(h:r.a<=s.size):(stN s r).2.a<=s.size:=by
 unfold stN
 split
 ·cases hr:Cod.rdN s r.a with
  | none=>exact h
  | some y=>exact(Cod.FP hr).2.1
 ·exact h
theorem Gs {s:ByteArray}{r:RS}(h:r.a<=s.size):(stT s r).2.a<=s.size:=by
 unfold stT
 split
 ·cases hr:Cod.rdT s r.a with
  | none=>exact h
  | some y=>exact(Cod.Ns hr).2.1
 ·exact h
theorem bR {s:ByteArray}{m:Int}{a v b:Nat}(h:rdC s m a=some (v,b)):Cod.rdN s a=some (v,b)/\(v:Int)<=m:=by
 unfold rdC at h
 cases hr:Cod.rdN s a with
 | none=>rw[hr] at h;cases h
 | some y =>
   obtain⟨v',b'⟩:=y
   simp only[hr] at h
   split at h
   ·cases h;exact⟨rfl,by assumption⟩
   ·cases h
theorem YA {s:ByteArray}{m:Int}{r:RS}(h:r.a<=s.size):(stC s m r).2.a<=s.size:=by
 unfold stC
 split
 ·cases hr:rdC s m r.a with
  | none=>exact h
  | some y=>exact(Cod.FP (bR hr).1).2.1
 ·exact h
theorem bS {s:ByteArray}{m:Nat}{r:RS} : (stC s m r).1<=m:=by
 unfold stC
 split
 ·cases hr:rdC s m r.a with
  | none=>exact Nat.zero_le _
  | some y =>
    have:=(bR hr).2
    show y.1<=m
    omega
 ·exact Nat.zero_le _
theorem YC {s:ByteArray}{r:RS}(h:r.a<=s.size):(stL s r).2.a<=s.size:=by
 unfold stL
 split
 ·cases hr:Cod.Bu s r.a with
  | none=>exact h
  | some y=>exact(Cod.Nt hr).2.1
 ·exact h
theorem za4 {s:ByteArray}{r:RS} : (stN s r).1<9223372036854775808:=by
 unfold stN
 split
 ·cases hr:Cod.rdN s r.a with
  | none=>show(0:Nat)<9223372036854775808;decide
  | some y=>exact(Cod.FP hr).2.2.2
 ·show(0:Nat)<9223372036854775808
  decide
theorem tX {s:ByteArray}{r:RS} : (stT s r).1.size<=s.size:=by
 unfold stT
 split
 ·cases hr:Cod.rdT s r.a with
  | none=>exact Nat.zero_le _
  | some y =>
    have h:=Cod.Ns hr
    have e:=congrArg ByteArray.size h.2.2
    rw[ByteArray.size_extract] at e
    unfold Cod.text at e
    rw[Sha.Ah] at e
    show y.1.size<=_
    omega
 ·exact Nat.zero_le _
theorem kN {s:ByteArray}{r:RS} : (stL s r).1.length<=s.size:=by
 unfold stL
 split
 ·cases hr:Cod.Bu s r.a with
  | none=>exact Nat.zero_le _
  | some y =>
    have h:=Cod.Nt hr
    have e:=congrArg ByteArray.size h.2.2
    rw[ByteArray.size_extract] at e
    unfold Cod.texts at e
    rw[Sha.Ah] at e
    have:=Cod.Zd y.1
    show y.1.length<=_
    omega
 ·exact Nat.zero_le _
def vI (n:Nat):Value:=.int .i64 n
theorem iM (rb:Nat)(s:ByteArray)(r:RS)(w:World)(h:At w rb 157 (rdV s r.a r.e))(ha:r.a<=s.size)(hs:s.size<=1000000):
 Calls Tryz.prog 81 #[.pointer (some ⟨rb,0,none⟩)] w fun e w' => e=.returned (vI (stN s r).1)/\Az rb w w' (rdV s (stN s r).2.a (stN s r).2.e):=by
 by_cases he:r.e=0
 ·rw[he] at h
  refine(iF rb s r.a w h ha (by omega)).mono ?_
  intro e w' hp
  unfold stN
  rw[if_pos he]
  cases hr:Cod.rdN s r.a with
  | none=>rw[hr] at hp;exact hp
  | some y=>rw[hr] at hp;exact hp
 ·refine(Ul rb s r.a r.e he w h).mono ?_
  rintro e _ ⟨rfl,rfl⟩
  unfold stN
  rw[if_neg he]
  exact⟨rfl,Az.refl h⟩
theorem iN (rb:Nat)(s:ByteArray)(r:RS)(w:World)(h:At w rb 157 (rdV s r.a r.e))(ha:r.a<=s.size)(hs:s.size<=1000000):
 Calls Tryz.prog 82 #[.pointer (some ⟨rb,0,none⟩)] w fun e w' => e=.returned (Value.string (stT s r).1)/\Az rb w w' (rdV s (stT s r).2.a (stT s r).2.e):=by
 by_cases he:r.e=0
 ·rw[he] at h
  refine(iG rb s r.a w h ha (by omega)).mono ?_
  intro e w' hp
  unfold stT
  rw[if_pos he]
  cases hr:Cod.rdT s r.a with
  | none=>rw[hr] at hp;exact hp
  | some y=>rw[hr] at hp;exact hp
 ·refine(Um rb s r.a r.e he w h).mono ?_
  rintro e _ ⟨rfl,rfl⟩
  unfold stT
  rw[if_neg he]
  exact⟨rfl,Az.refl h⟩
theorem Qo (rb:Nat)(s:ByteArray)(r:RS)(w:World){n:Nat}{r' : RS}(hv:stN s r=(n,r'))(h:At w rb 157 (rdV s r.a r.e))(ha:r.a<=s.size)(hs:s.size<=1000000):
 Calls Tryz.prog 81 #[.pointer (some ⟨rb,0,none⟩)] w fun e w' => e=.returned (.int .i64 n)/\Az rb w w' (rdV s r'.a r'.e):=by
 have:=iM rb s r w h ha hs
 rw[hv] at this
 exact this
theorem GZ (rb:Nat)(s:ByteArray)(r:RS)(w:World){x:ByteArray}{r' : RS}(hv:stT s r=(x,r'))(h:At w rb 157 (rdV s r.a r.e))(ha:r.a<=s.size)(hs:s.size<=1000000):
 Calls Tryz.prog 82 #[.pointer (some ⟨rb,0,none⟩)] w fun e w' => e=.returned (.string x)/\Az rb w w' (rdV s r'.a r'.e):=by
 have:=iN rb s r w h ha hs
 rw[hv] at this
 exact this
theorem Az.of_below {rb:Nat}{w w' : World}{s:ByteArray}{a:Nat}{e:Int}(h:At w rb 157 (rdV s a e))(hb:Below w.heap.size w w'):Az rb w w' (rdV s a e):=⟨h.below hb h.lt,Fr.of_below hb⟩
theorem bT (rb:Nat)(s:ByteArray)(m:Int)(r:RS)(w:World)(h:At w rb 157 (rdV s r.a r.e))(ha:r.a<=s.size)(hs:s.size<=1000000):
 Calls Tryz.prog 83 #[.pointer (some ⟨rb,0,none⟩),.int .i64 m] w fun e w' => e=.returned (.int .i64 (stC s m r).1)/\Az rb w w' (rdV s (stC s m r).2.a (stC s m r).2.e):=by
 by_cases he:r.e=0
 ·rw[he] at h
  refine(bE rb s r.a m w h ha (by omega)).mono ?_
  intro e w' hp
  unfold stC
  rw[if_pos he]
  cases hr:rdC s m r.a with
  | none=>rw[hr] at hp;exact hp
  | some y=>rw[hr] at hp;exact hp
 ·refine(bF rb s r.a m r.e he w h).mono ?_
  rintro e _ ⟨rfl,hb⟩
  unfold stC
  rw[if_neg he]
  exact⟨rfl,Az.of_below h hb⟩
theorem bU (rb:Nat)(s:ByteArray)(r:RS)(w:World)(h:At w rb 157 (rdV s r.a r.e))(ha:r.a<=s.size)(hs:s.size<=1000000):
 Calls Tryz.prog 84 #[.pointer (some ⟨rb,0,none⟩)] w fun e w' => ∃ v,e=.returned v/\Am w' v (stL s r).1/\Er v/\(∀ k,v.ownBlock=some k->w.heap.size<=k)/\Az rb w w' (rdV s (stL s r).2.a (stL s r).2.e):=by
 by_cases he:r.e=0
 ·rw[he] at h
  refine(bH rb s r.a w h ha hs).mono ?_
  intro e w' hp
  unfold stL
  rw[if_pos he]
  cases hr:Cod.Bu s r.a with
  | none =>
    rw[hr] at hp
    obtain⟨h1,h2⟩:=hp
    exact⟨_,h1,⟨_,_,rfl,.inl rfl⟩,⟨_,_,_,rfl,Nat.le_refl _⟩,(fun k hk=>by cases hk),h2⟩
  | some y =>
    rw[hr] at hp
    obtain⟨c,d,h1,⟨h2,h3⟩,h4,h5⟩:=hp
    exact⟨_,h1,h2,⟨_,_,_,rfl,h3⟩,h4,h5⟩
 ·refine(bI rb s r.a r.e he w h).mono ?_
  rintro e _ ⟨rfl,hb⟩
  unfold stL
  rw[if_neg he]
  exact⟨_,rfl,⟨_,_,rfl,.inl rfl⟩,⟨_,_,_,rfl,Nat.le_refl _⟩,(fun k hk=>by cases hk),Az.of_below h hb⟩
theorem Uw (rb:Nat)(s:ByteArray)(m:Int)(r:RS)(w:World){n:Nat}{r' : RS}(hv:stC s m r=(n,r'))(h:At w rb 157 (rdV s r.a r.e))(ha:r.a<=s.size)(hs:s.size<=1000000):
 Calls Tryz.prog 83 #[.pointer (some ⟨rb,0,none⟩),.int .i64 m] w fun e w' => e=.returned (.int .i64 n)/\Az rb w w' (rdV s r'.a r'.e):=by
 have:=bT rb s m r w h ha hs
 rw[hv] at this
 exact this
theorem Ux (rb:Nat)(s:ByteArray)(r:RS)(w:World){l:List ByteArray}{r' : RS}(hv:stL s r=(l,r'))(h:At w rb 157 (rdV s r.a r.e))(ha:r.a<=s.size)(hs:s.size<=1000000):
 Calls Tryz.prog 84 #[.pointer (some ⟨rb,0,none⟩)] w fun e w' => ∃ v,e=.returned v/\Am w' v l/\Er v/\(∀ k,v.ownBlock=some k->w.heap.size<=k)/\Az rb w w' (rdV s r'.a r'.e):=by
 have:=bU rb s r w h ha hs
 rw[hv] at this
 exact this
namespace Own
def Cr (s:ByteArray):Nat->RS->List Member × RS
 | 0,r=>([],r)
 | n + 1,r =>
   (⟨(stT s r).1,(stT s (stT s r).2).1⟩::(Cr s n (stT s (stT s r).2).2).1,(Cr s n (stT s (stT s r).2).2).2)
def DX (s:ByteArray)(r:RS):Sig.T × RS:=(⟨(stN s r).1,(stL s (stN s r).2).1,(stL s (stL s (stN s r).2).2).1⟩,(stL s (stL s (stN s r).2).2).2)
def Ct (s:ByteArray):Nat->RS->List Aj × RS
 | 0,r=>([],r)
 | n+1,r=>(⟨(stT s r).1,(DX s (stT s r).2).1⟩::(Ct s n (DX s (stT s r).2).2).1,(Ct s n (DX s (stT s r).2).2).2)
theorem QZ (s:ByteArray):∀ (n:Nat) (r:RS),Cr s (n+1) r=((Cr s n r).1++[⟨(stT s (Cr s n r).2).1,(stT s (stT s (Cr s n r).2).2).1⟩],(stT s (stT s (Cr s n r).2).2).2)
 | 0,r=>rfl
 | n + 1,r => by
   have h:=QZ s n (stT s (stT s r).2).2
   show(_::(Cr s (n+1) (stT s (stT s r).2).2).1,(Cr s (n+1) (stT s (stT s r).2).2).2)=_
   rw[h]
   rfl
theorem Uy (s:ByteArray):∀ (n:Nat) (r:RS),Ct s (n+1) r=((Ct s n r).1++[⟨(stT s (Ct s n r).2).1,(DX s (stT s (Ct s n r).2).2).1⟩],(DX s (stT s (Ct s n r).2).2).2)
 | 0,r=>rfl
 | n + 1,r => by
   have h:=Uy s n (DX s (stT s r).2).2
   show(_::(Ct s (n+1) (DX s (stT s r).2).2).1,(Ct s (n+1) (DX s (stT s r).2).2).2)=_
   rw[h]
   rfl
theorem Nk (s:ByteArray):∀ (n:Nat) (r:RS),(Cr s n r).1.length=n
 | 0,_=>rfl
 | n+1,r=>by show(Cr s n _).1.length+1=n+1;rw[Nk s n]
theorem WW (s:ByteArray):∀ (n:Nat) (r:RS),(Ct s n r).1.length=n
 | 0,_=>rfl
 | n+1,r=>by show(Ct s n _).1.length+1=n+1;rw[WW s n]
theorem Qp (s:ByteArray):∀ (n:Nat) (r:RS),r.a<=s.size->(Cr s n r).2.a<=s.size
 | 0,_,h=>h
 | n+1,r,h=>Qp s n _ (Gs (Gs h))
theorem tY {s:ByteArray}{r:RS}(h:r.a<=s.size):(DX s r).2.a<=s.size:=YC (YC (Qm h))
theorem Uz (s:ByteArray):∀ (n:Nat) (r:RS),r.a<=s.size->(Ct s n r).2.a<=s.size
 | 0,_,h=>h
 | n+1,r,h=>Uz s n _ (tY (Gs h))
/-! ### after an error -/
section
variable {s:ByteArray} {r:RS}
theorem kP (h:r.e≠0):stN s r=(0,r):=by unfold stN;rw[if_neg h]
theorem JF (h:r.e≠0):stT s r=(⟨#[]⟩,r):=by unfold stT;rw[if_neg h]
theorem YD {m:Int}(h:r.e≠0):stC s m r=(0,r):=by unfold stC;rw[if_neg h]
theorem OM (h:r.e≠0):stL s r=([],r):=by unfold stL;rw[if_neg h]
theorem WX (h:r.e≠0):(DX s r).2=r:=by
 unfold DX
 rw[kP h]
 dsimp only
 rw[OM h]
 dsimp only
 rw[OM h]
end
theorem Nl {s:ByteArray} : ∀ (n:Nat) {r:RS},r.e≠0->(Cr s n r).2=r
 | 0,_,_=>rfl
 | n + 1,r,h => by
   show(Cr s n (stT s (stT s r).2).2).2=r
   rw[JF h]
   dsimp only
   rw[JF h]
   exact Nl n h
theorem Qq {s:ByteArray} : ∀ (n:Nat) {r:RS},r.e≠0->(Ct s n r).2=r
 | 0,_,_=>rfl
 | n + 1,r,h => by
   show(Ct s n (DX s (stT s r).2).2).2=r
   rw[JF h]
   dsimp only
   rw[WX h]
   exact Qq n h
/-! ### read,or an error -/
section
variable {s:ByteArray} {a:Nat}
theorem iO:stN s ⟨a,0⟩=match Cod.rdN s a with|some (v,b)=>(v,⟨b,0⟩)|none=>(0,⟨a,9⟩):=by unfold stN;rw[if_pos rfl]<;>(cases Cod.rdN s a<;>rfl)
theorem Qr:stT s ⟨a,0⟩=match Cod.rdT s a with|some (v,b)=>(v,⟨b,0⟩)|none=>(⟨#[]⟩,⟨a,9⟩):=by unfold stT;rw[if_pos rfl]<;>(cases Cod.rdT s a<;>rfl)
theorem tZ {m:Int} : stC s m ⟨a,0⟩=match rdC s m a with|some (v,b)=>(v,⟨b,0⟩)|none=>(0,⟨a,9⟩):=by unfold stC;rw[if_pos rfl]<;>(cases rdC s m a<;>rfl)
theorem uf:stL s ⟨a,0⟩=match Cod.Bu s a with|some (v,b)=>(v,⟨b,0⟩)|none=>([],⟨a,9⟩):=by unfold stL;rw[if_pos rfl]<;>(cases Cod.Bu s a<;>rfl)
end
def Bad (r:RS):Prop:=r.e=9
theorem Bad.ne {r:RS}(h:Bad r):r.e≠0:=by rw[show r.e=9 from h];decide
theorem WY {s:ByteArray} : ∀ (n a:Nat),(match J2 s n a with|some (l,b)=>Cr s n ⟨a,0⟩=(l,⟨b,0⟩)|none=>Bad (Cr s n ⟨a,0⟩).2)
 | 0,a=>rfl
 | n + 1,a => by
   unfold J2 Cr
   rw[Qr]
   cases h1:Cod.rdT s a with
   | none =>
     dsimp only
     have hb:Bad (⟨a,9⟩:RS):=rfl
     rw[JF hb.ne]
     dsimp only
     rw[Nl n hb.ne]
     exact hb
   | some y =>
     obtain⟨nm,b⟩:=y
     dsimp only
     rw[Qr]
     cases h2:Cod.rdT s b with
     | none =>
       dsimp only
       have hb:Bad (⟨b,9⟩:RS):=rfl
       rw[Nl n hb.ne]
       exact hb
     | some y =>
       obtain⟨pb,c⟩:=y
       dsimp only
       have ih:=WY (s:=s) n c
       cases h3:J2 s n c with
       | none =>
         rw[h3] at ih
         exact ih
       | some y =>
         obtain⟨l,d⟩:=y
         rw[h3] at ih
         have ih' : Cr s n ⟨c,0⟩=(l,⟨d,0⟩):=ih
         rw[ih']
theorem ug {s:ByteArray}(a:Nat):(match Wu s a with|some (x,b)=>DX s ⟨a,0⟩=(x,⟨b,0⟩)|none=>Bad (DX s ⟨a,0⟩).2):=by
 unfold Wu DX
 rw[iO]
 cases h1:Cod.rdN s a with
 | none =>
   dsimp only
   have hb:Bad (⟨a,9⟩:RS):=rfl
   rw[OM hb.ne]
   dsimp only
   rw[OM hb.ne]
   exact hb
 | some y =>
   obtain⟨i,b⟩:=y
   dsimp only
   rw[uf]
   cases h2:Cod.Bu s b with
   | none =>
     dsimp only
     have hb:Bad (⟨b,9⟩:RS):=rfl
     rw[OM hb.ne]
     exact hb
   | some y =>
     obtain⟨ch,c⟩:=y
     dsimp only
     rw[uf]
     cases h3:Cod.Bu s c with
     | none=>exact rfl
     | some y =>
       obtain⟨pa,d⟩:=y
       rfl
theorem bV {s:ByteArray} : ∀ (n a:Nat),(match Oi s n a with|some (l,b)=>Ct s n ⟨a,0⟩=(l,⟨b,0⟩)|none=>Bad (Ct s n ⟨a,0⟩).2)
 | 0,a=>rfl
 | n + 1,a => by
   unfold Oi Ct
   rw[Qr]
   cases h1:Cod.rdT s a with
   | none =>
     dsimp only
     have hb:Bad (⟨a,9⟩:RS):=rfl
     rw[WX hb.ne]
     rw[Qq n hb.ne]
     exact hb
   | some y =>
     obtain⟨nm,b⟩:=y
     dsimp only
     have hs:=ug (s:=s) b
     cases h2:Wu s b with
     | none =>
       rw[h2] at hs
       have hb:Bad (DX s ⟨b,0⟩).2:=hs
       dsimp only
       rw[Qq n hb.ne]
       exact hb
     | some y =>
       obtain⟨sg,c⟩:=y
       rw[h2] at hs
       have hs' : DX s ⟨b,0⟩=(sg,⟨c,0⟩):=hs
       rw[hs']
       dsimp only
       have ih:=bV (s:=s) n c
       cases h3:Oi s n c with
       | none =>
         rw[h3] at ih
         exact ih
       | some y =>
         obtain⟨l,d⟩:=y
         rw[h3] at ih
         have ih' : Ct s n ⟨c,0⟩=(l,⟨d,0⟩):=ih
         rw[ih']
structure uh (s:ByteArray) where
 k:Nat × RS
 pre:ByteArray × RS
 n:Nat × RS
 ms:List Member × RS
 t:Nat × RS
 nm:ByteArray × RS
 pb:ByteArray × RS
 m:Nat × RS
 aps:List Aj × RS
def stOp (s:ByteArray):uh s:=
 let k:=stN s ⟨0,0⟩
 let pre:=stT s k.2
 let n:=stC s 8 pre.2
 let ms:=Cr s n.1 n.2
 let t:=stN s ms.2
 let nm:=stT s t.2
 let pb:=stT s nm.2
 let m:=stC s 8 pb.2
 ⟨k,pre,n,ms,t,nm,pb,m,Ct s m.1 m.2⟩
def uh.op {s:ByteArray}(x:uh s):Op:=⟨x.k.1,x.pre.1,x.ms.1,x.t.1,x.nm.1,x.pb.1,x.aps.1⟩
theorem zu {s:ByteArray}(pb:ByteArray × RS)(h:Bad pb.2):Bad (Ct s (stC s 8 pb.2).1 (stC s 8 pb.2).2).2:=by
 rw[YD h.ne]
 exact h
theorem uj {s:ByteArray}(nm:ByteArray × RS)(h:Bad nm.2):Bad (Ct s (stC s 8 (stT s nm.2).2).1 (stC s 8 (stT s nm.2).2).2).2:=by
 rw[JF h.ne]
 exact zu (s:=s) (⟨#[]⟩,nm.2) h
theorem zw {s:ByteArray}(t:Nat × RS)(h:Bad t.2):Bad (Ct s (stC s 8 (stT s (stT s t.2).2).2).1 (stC s 8 (stT s (stT s t.2).2).2).2).2:=by
 rw[JF h.ne]
 exact uj (s:=s) (⟨#[]⟩,t.2) h
theorem U0 {s:ByteArray}(r:RS)(h:Bad r):Bad (Ct s (stC s 8 (stT s (stT s (stN s r).2).2).2).1 (stC s 8 (stT s (stT s (stN s r).2).2).2).2).2:=by
 rw[kP h.ne]
 exact zw (s:=s) (0,r) h
theorem xu (s:ByteArray):(match mZ s with|some (op,e)=>(stOp s).op=op/\(stOp s).aps.2=⟨e,0⟩|none=>Bad (stOp s).aps.2):=by
 unfold stOp mZ uh.op
 dsimp only
 rw[iO]
 cases h1:Cod.rdN s 0 with
 | none =>
   dsimp only
   have hb:Bad (⟨0,9⟩:RS):=rfl
   rw[JF hb.ne]
   dsimp only
   rw[YD hb.ne]
   exact U0 _ hb
 | some y =>
   obtain⟨k,a1⟩:=y
   dsimp only
   rw[Qr]
   cases h2:Cod.rdT s a1 with
   | none =>
     dsimp only
     have hb:Bad (⟨a1,9⟩:RS):=rfl
     rw[YD hb.ne]
     exact U0 _ hb
   | some y =>
     obtain⟨pre,a2⟩:=y
     dsimp only
     rw[tZ]
     unfold rdC
     cases h3:Cod.rdN s a2 with
     | none=>exact U0 _ (rfl:Bad (⟨a2,9⟩:RS))
     | some y =>
       obtain⟨n,a3⟩:=y
       dsimp only
       by_cases hn:8<n
       ·rw[if_pos hn,if_neg (show ¬ ((n:Int)<=8) by omega)]
        exact U0 _ (rfl:Bad (⟨a2,9⟩:RS))
       rw[if_neg hn,if_pos (show(n:Int)<=8 by omega)]
       dsimp only
       have hm:=WY (s:=s) n a3
       cases h4:J2 s n a3 with
       | none =>
         rw[h4] at hm
         exact U0 _ hm
       | some y =>
         obtain⟨ms,a4⟩:=y
         rw[h4] at hm
         have hm' : Cr s n ⟨a3,0⟩=(ms,⟨a4,0⟩):=hm
         rw[hm']
         dsimp only
         rw[iO]
         cases h5:Cod.rdN s a4 with
         | none=>exact zw (s:=s) (0,⟨a4,9⟩) rfl
         | some y =>
           obtain⟨t,a5⟩:=y
           dsimp only
           rw[Qr]
           cases h6:Cod.rdT s a5 with
           | none=>exact uj (s:=s) (⟨#[]⟩,⟨a5,9⟩) rfl
           | some y =>
             obtain⟨nm,a6⟩:=y
             dsimp only
             rw[Qr]
             cases h7:Cod.rdT s a6 with
             | none=>exact zu (s:=s) (⟨#[]⟩,⟨a6,9⟩) rfl
             | some y =>
               obtain⟨pb,a7⟩:=y
               dsimp only
               rw[tZ]
               unfold rdC
               cases h8:Cod.rdN s a7 with
               | none=>exact(rfl:Bad (⟨a7,9⟩:RS))
               | some y =>
                 obtain⟨m,a8⟩:=y
                 dsimp only
                 by_cases hn8:8<m
                 ·rw[if_pos hn8,if_neg (show ¬ ((m:Int)<=8) by omega)]
                  exact(rfl:Bad (⟨a7,9⟩:RS))
                 rw[if_neg hn8,if_pos (show(m:Int)<=8 by omega)]
                 dsimp only
                 have ha:=bV (s:=s) m a8
                 cases h9:Oi s m a8 with
                 | none =>
                   rw[h9] at ha
                   exact ha
                 | some y =>
                   obtain⟨aps,a9⟩:=y
                   rw[h9] at ha
                   have ha' : Ct s m ⟨a8,0⟩=(aps,⟨a9,0⟩):=ha
                   rw[ha']
                   exact⟨rfl,rfl⟩
theorem x9 (s:ByteArray):(stOp s).aps.2.a<=s.size:=
 Uz s _ _ (YA (Gs (Gs (Qm (Qp s _ _ (YA (Gs (Qm (Nat.zero_le _)))))))))
theorem uq (s:ByteArray):Oj s=if El s (stOp s).aps.2.a (stOp s).aps.2.e=0/\Gh (stOp s).op=true then ((stOp s).op,0) else (.none,9):=by
 have h:=xu s
 have hl:=x9 s
 unfold Oj
 cases h1:mZ s with
 | none =>
   rw[h1] at h
   have hb:(stOp s).aps.2.e=9:=h
   rw[if_neg]
   intro hx
   have:=hx.1
   unfold El at this
   rw[hb] at this
   rw[if_neg (by intro h;cases h.1)] at this
   cases this
 | some y =>
   obtain⟨op,e⟩:=y
   rw[h1] at h
   obtain⟨ho,he⟩:=h
   rw[ho,he]
   rw[he] at hl
   dsimp only at hl ⊢
   by_cases hs:e=s.size
   ·rw[decide_eq_true hs]
    have:El s e 0=0:=by unfold El;rw[if_neg (by omega)]
    rw[this]
    cases hf:Gh op<;>simp
   ·rw[decide_eq_false hs]
    have:El s e 0=9:=by unfold El;rw[if_pos ⟨rfl,by omega⟩]
    rw[this]
    simp
end Own
end
section
open Go Go.RowKit Go.Maps
namespace Own
theorem JG (l:List ByteArray)(h:∀ x∈l,x.size=32):(Cod.texts l).size<=10+42*l.length:=by
 have h1:=Cod.Co l.length
 have h2:∀ l:List ByteArray,(∀ x∈l,x.size=32)->(Cod.cat (l.map Cod.text)).size<=42*l.length:=by
  intro l
  induction l with
  | nil=>intro _;exact Nat.le_refl _
  | cons x l ih =>
    intro h
    have h3:=Cz x
    have h4:=h x List.mem_cons_self
    have h5:=ih (fun y hy=>h y (List.mem_cons_of_mem _ hy))
    show(Cod.text x++Cod.cat (l.map Cod.text)).size<=_
    rw[Sha.Ah,List.length_cons]
    omega
 have h3:=h2 l h
 unfold Cod.texts
 rw[Sha.Ah]
 omega
def Lc (s:Sig.T):ByteArray × Int:=if D8 s=true then (BF s,0) else (⟨#[]⟩,1)
theorem iP {s:Sig.T}(h:D8 s=true):(BF s).size<=4000:=by
 unfold D8 at h
 simp only[Bool.and_eq_true,decide_eq_true_eq] at h
 obtain⟨⟨⟨⟨h0,h1⟩,h2⟩,h3⟩,h4⟩:=h
 have a:=JG s.chains (fun x hx=>of_decide_eq_true (List.all_eq_true.1 h3 x hx))
 have b:=JG s.path (fun x hx=>of_decide_eq_true (List.all_eq_true.1 h4 x hx))
 have c:=Cod.Co s.index.toNat
 unfold BF
 rw[Sha.Ah,Sha.Ah]
 omega
end Own
theorem bW (s:Sig.T)(cv pv:Value)(w:World)(hc:Am w cv s.chains)(hp:Am w pv s.path)(hi:s.index<9223372036854775808)(hl:s.chains.length<=140737488355328)(hlp:s.path.length<=140737488355328):
 Calls Tryz.prog 76 #[.agg #[.int .i64 s.index,cv,pv]] w fun e w' => e=.returned (.tuple #[.string (Own.Lc s).1,.int .i64 (Own.Lc s).2])/\Below w.heap.size w w':=by
 obtain⟨R,hR⟩:∃ R,R=Own.Lc s:=⟨_,rfl⟩
 rw[<- hR]
 unfold Own.Lc Own.D8 at hR
 obtain⟨ca,cc,rfl⟩:=hc.len
 obtain⟨pa,pc,rfl⟩:=hp.len
 have HR:=zh hR;clear hR
 have F1:=zh (show Aw w _ [(70,#[.int .i64 s.index,.slice ca s.chains.length cc,.slice pa s.path.length pc])] from((Dm.nil w).push 70 #[.int .i64 s.index,.slice ca s.chains.length cc,.slice pa s.path.length pc]).boxes)
 have HC:=zh (hc.below F1.out.under);have HP:=zh (hp.below F1.out.under)
 clear hc hp
 go_enter Tryz.func76,Tryz.ntmps76
 go_upto_region 1 with fail
 generalize (w.alloc (.cells #[.int .i64 s.index,.slice ca s.chains.length cc,.slice pa s.path.length pc] 70))=w1 at*
 obtain⟨x00,x01,x02⟩:=F1.out.Gj rfl
 by_cases i1:s.index<0
 ·have e1:decide (s.index<0)=true:=decide_eq_true i1
  have HE:=zh (show R=(⟨#[]⟩,1) by rw[HR.out,decide_eq_false (show ¬ 0<=s.index by omega)];rfl)
  go_wp2_with fail
  go_ret2
  exact⟨by rw[HE.out];rfl,F1.out.under⟩
 have e1:decide (s.index<0)=false:=decide_eq_false i1
 by_cases i3:s.chains.length=67
 case neg=>
  have e3:((s.chains.length:Int) != 67)=true:=by rw[bne_iff_ne];omega
  have HE:=zh (show R=(⟨#[]⟩,1) by rw[HR.out,decide_eq_false i3];simp)
  go_wp2_with fail
  go_ret2
  exact⟨by rw[HE.out];rfl,F1.out.under⟩
 have e3:((s.chains.length:Int) != 67)=false:=by rw[bne_eq_false_iff_eq];omega
 by_cases i4:s.path.length<=6
 case neg=>
  have e4:decide ((6:Int)<(s.path.length:Int))=true:=zt
  have HE:=zh (show R=(⟨#[]⟩,1) by rw[HR.out,decide_eq_false i4];simp)
  go_wp2_with fail
  go_ret2
  exact⟨by rw[HE.out];rfl,F1.out.under⟩
 have e4:decide ((6:Int)<(s.path.length:Int))=false:=zf
 have I3:=zh i3;clear i3
 go_wp2_with fail
 refine(Iw 126 #[] Tryz.call126 (fun x => !Sig.digest x) _ s.chains _ (fun W x=>MW x W) HC.out hl).mono ?_
 rintro e _ ⟨rfl,q,rfl⟩
 rw[Iy]
 have hbq:Below w1.heap.size w1 (w1.drewN q):=below_drewN (Below.refl _ _) q
 have F2:=zh (F1.out.step hbq);have HC2:=zh (HC.out.below hbq);have HP2:=zh (HP.out.below hbq)
 clear hbq HC HP
 generalize w1.drewN q=w2 at*
 (try clear x00 x01 x02)
 obtain⟨x00,x01,x02⟩:=F2.out.Gj rfl
 cases hall:s.chains.all Sig.digest with
 | false =>
   have HE:=zh (show R=(⟨#[]⟩,1) by rw[HR.out,hall];simp)
   clear hall
   go_wp2_with fail
   go_ret2
   exact⟨by rw[HE.out];rfl,F2.out.under⟩
 | true=>
 go_wp2_with fail
 refine(Iw 126 #[] Tryz.call126 (fun x => !Sig.digest x) _ s.path _ (fun W x=>MW x W) HP2.out hlp).mono ?_
 rintro e _ ⟨rfl,q,rfl⟩
 rw[Iy]
 have hbq:Below w2.heap.size w2 (w2.drewN q):=below_drewN (Below.refl _ _) q
 have F3:=zh (F2.out.step hbq);have HC3:=zh (HC2.out.below hbq);have HP3:=zh (HP2.out.below hbq)
 clear hbq HC2 HP2
 generalize w2.drewN q=w3 at*
 (try clear x00 x01 x02)
 obtain⟨x00,x01,x02⟩:=F3.out.Gj rfl
 cases QG:s.path.all Sig.digest with
 | false =>
   have HE:=zh (show R=(⟨#[]⟩,1) by rw[HR.out,QG];simp)
   clear QG hall
   go_wp2_with fail
   go_ret2
   exact⟨by rw[HE.out];rfl,F3.out.under⟩
 | true=>
 obtain⟨n,hn⟩:∃ n:Nat,s.index=n:=⟨s.index.toNat,by omega⟩
 have hz1:∀ x∈s.chains,x.size=32:=fun x hx=>of_decide_eq_true (List.all_eq_true.1 hall x hx)
 have hz2:∀ x∈s.path,x.size=32:=fun x hx=>of_decide_eq_true (List.all_eq_true.1 QG x hx)
 have t1:(Cod.texts s.chains).size<=3000:=by have:=Own.JG s.chains hz1;have:=I3.out;omega
 have t2:=Own.JG s.path hz2
 have t0:=Cod.Co n
 have HE:=zh (show R=(Cod.uns n++(Cod.texts s.chains++Cod.texts s.path),0) by
  rw[HR.out,hall,QG,decide_eq_true I3.out,decide_eq_true i4,decide_eq_true (show 0<=s.index by omega),if_pos (by simp)]
  unfold Own.BF
  rw[hn]
  rfl)
 rw[hn] at x00 hi e1
 have Z1:=zh hz1;have Z2:=zh hz2
 clear hall QG hz1 hz2 HR hn
 have y1:(w3.cell? ⟨w.heap.size,1,none⟩).isSome=true:=by rw[x01];rfl
 have y2:(w3.cell? ⟨w.heap.size,2,none⟩).isSome=true:=by rw[x02];rfl
 have Y1:=zh y1;have Y2:=zh y2
 clear y1 y2
 have hl3:w.heap.size<w3.heap.size:=F3.out.lt (i:=0) (by simp)
 have hat:At (w3.drew.alloc (.cells #[.int .i64 (n:Int)] 3)) w3.heap.size 3 (([n]).map fun n:Nat=>Value.int .i64 (n:Int)).toArray:=At.new w3.drew 3 #[.int .i64 (n:Int)]
 have HNM:=zh (NJ w3.heap.size [n] _ hat (fun x hx=>by rcases List.mem_singleton.1 hx with rfl;omega) (by show 1<=1000;omega))
 clear hat
 go_wp2_with fail
 refine Lex.zn (fun k=>k=w.heap.size) [5,9] 11 [4,3,4] ?_
 simp only[Lex.Br,zd]
 go_wp2_with fail
 refine HNM.out.mono ?_
 rintro e w4 ⟨rfl,hb4⟩
 have B4:=zh (show Below w3.heap.size w3 w4 from((Below.refl w3.heap.size w3).drew.alloc (Nat.le_refl _) _).trans (hb4.mono (by simp)))
 have F4:=zh (F3.out.step B4.out);clear hb4
 (try clear x00 x01 x02)
 obtain⟨x00,x01,x02⟩:=F4.out.Gj rfl
 have hu:Cod.cat ([n].map Cod.uns)=Cod.uns n:=Qg _
 rw[hu]
 clear hu
 obtain⟨U,hU⟩:∃ U,U=Cod.uns n:=⟨_,rfl⟩
 rw[<- hU] at t0 HE ⊢
 clear hU
 go_wp2_with fail
 refine Lex.Mid.intro (fun k hk hkl=>by rw[hk];exact B4.out.block _ hl3) ?_
 go_wp2_with fail
 refine(Un _ s.chains _ (HC3.out.below B4.out) (fun x hx=>by rw[Z1.out x hx];omega) (by have:=I3.out;omega) (by omega)).mono ?_
 rintro e w5 ⟨rfl,hb5⟩
 have B5:=zh (B4.out.trans (hb5.mono B4.out.size))
 have F5:=zh (F3.out.step B5.out);clear hb5
 (try clear x00 x01 x02)
 obtain⟨x00,x01,x02⟩:=F5.out.Gj rfl
 obtain⟨T1,hT1⟩:∃ T,T=Cod.texts s.chains:=⟨_,rfl⟩
 rw[<- hT1] at t1 HE ⊢
 clear hT1
 go_wp2_with fail
 refine Lex.Mid.intro (fun k hk hkl=>by rw[hk];exact B5.out.block _ hl3) ?_
 go_wp2_with fail
 refine(Un _ s.path _ (HP3.out.below B5.out) (fun x hx=>by rw[Z2.out x hx];omega) (by omega) (by omega)).mono ?_
 rintro e w6 ⟨rfl,hb6⟩
 have B6:=zh (B5.out.trans (hb6.mono B5.out.size))
 have F6:=zh (F3.out.step B6.out);clear hb6
 obtain⟨T2,hT2⟩:∃ T,T=Cod.texts s.path:=⟨_,rfl⟩
 rw[<- hT2] at t2 HE ⊢
 clear hT2
 (try clear x00 x01 x02)
 go_wp2_with fail
 refine Lex.Mid.intro (fun k hk hkl=>by rw[hk];exact B6.out.block _ hl3) ?_
 go_wp2_with fail
 refine Lex.zk ⟨⟨rfl,Y1.out⟩,⟨rfl,Y2.out⟩,trivial⟩ ?_
 go_wp2_with fail
 (try go_ret2)
 exact⟨by rw[HE.out,ByteArray.append_assoc];rfl,F6.out.under⟩
namespace Own
def EP:List Aj->Nat
 | []=>0
 | a::l=>a.name.size+EP l
theorem RB:∀ (l:List Aj),(∀ a∈l,D8 a.sig=true)->(Cod.cat (l.map AL)).size<=EP l+4010*l.length
 | [],_=>Nat.le_refl _
 | a :: l,h => by
   have h1:=RB l (fun x hx=>h x (List.mem_cons_of_mem _ hx))
   have h2:=iP (h a List.mem_cons_self)
   have h3:=Cz a.name
   show((Cod.text a.name++BF a.sig)++Cod.cat (l.map AL)).size<=a.name.size+EP l+4010*(l.length+1)
   rw[Sha.Ah,Sha.Ah]
   omega
theorem Nn:∀ (l:List Aj) (k:Nat),EP (l.take k)<=EP l
 | [],k=>by simp[EP]
 | a::l,0=>Nat.zero_le _
 | a :: l,k + 1 => by
   have:=Nn l k
   show a.name.size+EP (l.take k)<=a.name.size+EP l
   omega
theorem WZ:∀ {l:List Aj} {a:Aj},a∈l->a.name.size<=EP l
 | [],_,h=>by cases h
 | b :: l,a,h => by
   rcases List.mem_cons.1 h with rfl|h
   ·exact Nat.le_add_right _ _
   ·have:=WZ h
    show _<=b.name.size+EP l
    omega
theorem xA (l:List Aj)(k:Nat)(hk:k<l.length):Cod.cat ((l.take (k+1)).map AL)=Cod.cat ((l.take k).map AL)++AL l[k]:=by
 rw[List.take_succ_eq_append_getElem hk,List.map_append,List.map_cons,List.map_nil,Ia]
end Own
theorem OQ (op:Own.Op)(mv av:Value)(w:World)(hM:IY w)(hm:Own.Ag w mv op.members)(hA:Own.I4 w av op.Aa)(hml:op.members.length<=140737488355328)(hsum:Own.EP op.Aa<=140737488000000)
 (hal:∀ a∈op.Aa,a.sig.index<9223372036854775808/\a.sig.chains.length<=140737488355328/\a.sig.path.length<=140737488355328):
 Calls Tryz.prog 24 #[Own.opV op mv av] w fun e w' => e=.returned (.tuple #[.string (Own.Du op).1,.int .i64 (Own.Du op).2])/\Below w.heap.size w w':=by
 obtain⟨R,hR⟩:∃ R,R=Own.Du op:=⟨_,rfl⟩
 rw[<- hR]
 unfold Own.Du Own.Gh at hR
 obtain⟨ma,mc,rfl⟩:=hm.len
 obtain⟨aa,ac,rfl,hap⟩:=id hA
 clear hap
 have HR:=zh hR;clear hR
 have F1:=zh (show Aw w _ [(29,#[.int .i64 op.kind,.string op.pre,.slice ma op.members.length mc,.int .i64 op.threshold,.string op.name,.string op.pub,.slice aa op.Aa.length ac])] from((Dm.nil w).push 29 #[.int .i64 op.kind,.string op.pre,.slice ma op.members.length mc,.int .i64 op.threshold,.string op.name,.string op.pub,.slice aa op.Aa.length ac]).boxes)
 have hcf:=fun W (hW:Below w.heap.size w W)=>J9 op (.slice ma op.members.length mc) (.slice aa op.Aa.length ac) W (hM.below hW) (hm.below hW) ⟨_,_,rfl⟩ hml
 have hcb:=fun(hz:Own.LU op) W (hW:Below w.heap.size w W)=>QS op (.slice ma op.members.length mc) (.slice aa op.Aa.length ac) W (hm.below hW) ⟨_,_,rfl⟩ hz
 unfold Own.opV at hcf hcb ⊢
 have HCF:=zh hcf;have HCB:=zh hcb;have HA:=zh hA;have HAL:=zh hal
 clear hM hm hcf hcb hA hal
 go_enter Tryz.func24,Tryz.ntmps24
 go_upto_region 1 with fail
 generalize (w.alloc (.cells #[.int .i64 op.kind,.string op.pre,.slice ma op.members.length mc,.int .i64 op.threshold,.string op.name,.string op.pub,.slice aa op.Aa.length ac] 29))=w1 at*
 obtain⟨x00,x01,x02,x03,x04,x05,x06⟩:=F1.out.KH rfl
 go_wp2_with fail
 refine(HCF.out w1 F1.out.under).mono ?_
 rintro e w2 ⟨rfl,hb2⟩
 have F2:=zh (F1.out.step hb2);clear hb2
 (try clear x00 x01 x02 x03 x04 x05 x06)
 obtain⟨x00,x01,x02,x03,x04,x05,x06⟩:=F2.out.KH rfl
 cases hok:Own.Ez op with
 | false =>
   have HE:=zh (show R=(⟨#[]⟩,1) by rw[HR.out,hok];rfl)
   clear hok
   go_wp2_with fail
   go_ret2
   exact⟨by rw[HE.out];rfl,F2.out.under⟩
 | true=>
 have hz:=Own.LU.of hok
 have hbz:=Own.GL hz
 have zeC:=hz.al
 have wU:=zh (HCB.out hz)
 have HR2:=zh (show R=if (op.Aa.all fun a=>Own.D8 a.sig)=true then (Own.Dj op++(Cod.uns op.Aa.length++Cod.cat (op.Aa.map Own.AL)),0) else (⟨#[]⟩,1) by rw[HR.out,hok];simp)
 clear hok hz HR
 have Y1:=zh (zi x06)
 have hl2:w.heap.size<w2.heap.size:=F2.out.lt (i:=0) (by simp)
 obtain⟨X,hX⟩:∃ X,X=Own.Dj op:=⟨_,rfl⟩
 rw[<- hX] at hbz HR2 wU
 clear hX
 go_wp2_with fail
 refine Lex.zn (fun k=>k=w.heap.size) [3] 5 [2] ?_
 simp only[Lex.Br,zd]
 go_wp2_with fail
 refine(wU.out _ (F2.out.under.trans ((Below.refl w2.heap.size w2).drew.mono F2.out.under.size))).mono ?_
 rintro e w3 ⟨rfl,hb3⟩
 have B3:=zh (show Below w2.heap.size w2 w3 from(Below.refl w2.heap.size w2).drew.trans hb3)
 have F3:=zh (F2.out.step B3.out);clear hb3
 (try clear x00 x01 x02 x03 x04 x05 x06)
 obtain⟨x00,x01,x02,x03,x04,x05,x06⟩:=F3.out.KH rfl
 go_wp2_with fail
 refine Lex.Mid.intro (fun k hk hkl=>by rw[hk];exact B3.out.block _ hl2) ?_
 go_wp2_with fail
 refine(EM op.Aa.length _ (by omega)).mono ?_
 rintro e w4 ⟨rfl,hb4⟩
 have F4:=zh (F3.out.step hb4);clear hb4
 (try clear x00 x01 x02 x03 x04 x05 x06)
 obtain⟨x00,x01,x02,x03,x04,x05,x06⟩:=F4.out.KH rfl
 obtain⟨U,hU⟩:∃ U,U=Cod.uns op.Aa.length:=⟨_,rfl⟩
 rw[<- hU] at HR2 ⊢
 have zU:U.size<=10:=by rw[hU];exact Cod.Co _
 clear hU
 go_wp2_with fail
 refine Lex.zk ⟨⟨rfl,Y1.out⟩,trivial⟩ ?_
 obtain⟨Y,hY⟩:∃ Y,Y=X++U:=⟨_,rfl⟩
 have zY:Y.size<=2010:=by rw[hY,Sha.Ah];omega
 have HR3:=zh (show R=if (op.Aa.all fun a=>Own.D8 a.sig)=true then (Y++Cod.cat (op.Aa.map Own.AL),0) else (⟨#[]⟩,1) by rw[HR2.out,hY,ByteArray.append_assoc])
 rw[<- hY]
 clear hY HR2
 go_wp2_with fail
 (try clear x00 x01 x02 x03 x04 x05 x06)
 go_loopw [22,4] (fun i s wr=>∃ k:Nat,k<=op.Aa.length/\i=.int .i64 k/\s=.string (Y++Cod.cat ((op.Aa.take k).map Own.AL))/\(∀ a∈op.Aa.take k,Own.D8 a.sig=true)/\Below w.heap.size w wr) (fun i _ _=>op.Aa.length-(intOf i).toNat)
 case atStart=>exact⟨0,by omega,rfl,by rw[List.take_zero];show _=Value.string (Y++⟨#[]⟩);rw[Qg],by simp,F4.out.under⟩
 case round=>
  obtain⟨k,hk,rfl,rfl,hs,hb⟩:=hrel
  have hsz:=Own.RB (op.Aa.take k) hs
  have hnt:=Own.Nn op.Aa k
  rw[List.length_take,Nat.min_eq_left hk] at hsz
  by_cases hlt:k<op.Aa.length
  case neg=>
   have hke:k=op.Aa.length:=by omega
   have dk:decide ((k:Int)<(op.Aa.length:Int))=false:=zf
   rw[hke,List.take_length] at hs
   have HE:=zh (show R=(Y++Cod.cat ((op.Aa.take k).map Own.AL),0) by rw[HR3.out,if_pos (List.all_eq_true.2 hs),hke,List.take_length])
   have HB:=zh hb
   clear hs hb hke hsz hnt
   go_wp2_with fail
   go_ret2
   exact⟨by rw[HE.out];rfl,HB.out⟩
  have dk:decide ((k:Int)<(op.Aa.length:Int))=true:=zt
  obtain⟨a',c',hv,hcells⟩:=HA.out.below hb
  cases hv
  obtain⟨b,q,cv,pv,ha,hbl,e0,e1,e2,e3,hcv,hpv,_⟩:=hcells k hlt
  subst ha
  clear hcells
  obtain⟨z1,z2,z3⟩:=HAL.out op.Aa[k] (List.getElem_mem hlt)
  have hnx:=Own.xA op.Aa k hlt
  have hnm:=Own.WZ (List.getElem_mem hlt)
  have hall:(op.Aa.all fun a=>Own.D8 a.sig)=true->Own.D8 op.Aa[k].sig=true:=fun h=>List.all_eq_true.1 h _ (List.getElem_mem hlt)
  have hs2:Own.D8 op.Aa[k].sig=true->∀ a∈op.Aa.take (k+1),Own.D8 a.sig=true:=fun h a ha=>by
   rw[List.take_succ_eq_append_getElem hlt] at ha
   rcases List.mem_append.1 ha with h1|h1
   ·exact hs a h1
   ·rw[List.mem_singleton.1 h1];exact h
  have htot:Own.D8 op.Aa[k].sig=true->(Y++Cod.cat ((op.Aa.take (k+1)).map Own.AL)).size<=140737488200000:=fun h=>by
   have h1:=Own.RB _ (hs2 h)
   have h2:=Own.Nn op.Aa (k+1)
   rw[List.length_take,Nat.min_eq_left (by omega)] at h1
   rw[Sha.Ah]
   omega
  obtain⟨Z,hZ⟩:∃ Z,Z=Y++Cod.cat ((op.Aa.take k).map Own.AL):=⟨_,rfl⟩
  rw[hnx,<- ByteArray.append_assoc,<- hZ] at htot
  rw[<- ByteArray.append_right_inj Y,<- ByteArray.append_assoc,<- hZ] at hnx
  rw[<- hZ]
  obtain⟨A,hAe⟩:∃ A,A=op.Aa[k]:=⟨_,rfl⟩
  rw[<- hAe] at e0 e1 hcv hpv z1 z2 z3 hnx hnm hall hs2 htot
  obtain⟨an,sg⟩:=A
  obtain⟨ix,cs,ps⟩:=sg
  dsimp only at e0 e1 hcv hpv z1 z2 z3 hnx hnm hall hs2 htot
  obtain⟨ca,cc,rfl⟩:=hcv.len
  obtain⟨pa,pc,rfl⟩:=hpv.len
  have HB:=zh hb;have HNX:=zh hnx;have vM:=zh hall;have HS2:=zh hs2;have HT:=zh htot;have HCV:=zh hcv;have HPV:=zh hpv
  clear hb hnx hall hs2 htot hcv hpv hs hZ hAe hsz hnt
  have K1:=zh (show Aw wr _ [(72,#[.string an,.int .i64 ix,.slice ca cs.length cc,.slice pa ps.length pc])] from((Dm.nil wr).push 72 #[.string an,.int .i64 ix,.slice ca cs.length cc,.slice pa ps.length pc]).boxes)
  go_upto_region 7 with fail
  generalize (wr.alloc (.cells #[.string an,.int .i64 ix,.slice ca cs.length cc,.slice pa ps.length pc] 72))=w6 at*
  obtain⟨y00,y01,y02,y03⟩:=K1.out.zca rfl
  clear e0 e1 e2 e3
  have hse:=bW ⟨ix,cs,ps⟩ (.slice ca cs.length cc) (.slice pa ps.length pc) w6 (HCV.out.below K1.out.under) (HPV.out.below K1.out.under) z1 z2 z3
  dsimp only at hse
  have HSE:=zh hse
  clear hse
  go_wp2_with fail
  refine HSE.out.mono ?_
  rintro e w7 ⟨rfl,hb7⟩
  have K7:=zh (K1.out.step hb7)
  clear hb7 HSE
  (try clear y00 y01 y02 y03)
  obtain⟨y00,y01,y02,y03⟩:=K7.out.zca rfl
  cases hso:Own.D8 ⟨ix,cs,ps⟩ with
  | false =>
    have e1:Own.Lc ⟨ix,cs,ps⟩=(⟨#[]⟩,1):=by unfold Own.Lc;rw[hso];rfl
    rw[e1]
    have HE:=zh (show R=(⟨#[]⟩,1) by
     rw[HR3.out,if_neg]
     intro h
     rw[vM.out h] at hso
     cases hso)
    clear hso e1
    go_wp2_with fail
    go_ret2
    exact⟨by rw[HE.out];rfl,(HB.out.trans (K7.out.under.mono HB.out.size))⟩
  | true=>
  have e1:Own.Lc ⟨ix,cs,ps⟩=(Own.BF ⟨ix,cs,ps⟩,0):=by unfold Own.Lc;rw[hso];rfl
  rw[e1]
  have hto:=HT.out hso
  have hs3:=HS2.out hso
  unfold Own.AL at hto
  rw[Sha.Ah,Sha.Ah] at hto
  dsimp only at hto ⊢
  have hn3:Y++Cod.cat ((op.Aa.take (k+1)).map Own.AL)=Z++(Cod.text an++Own.BF ⟨ix,cs,ps⟩):=HNX.out
  obtain⟨S,hS⟩:∃ S,S=Own.BF ⟨ix,cs,ps⟩:=⟨_,rfl⟩
  rw[<- hS] at hto hn3 ⊢
  have HN3:=zh hn3;have HS3:=zh hs3
  clear hn3 hs3 hso e1 hS
  go_wp2_with fail
  refine(Fj an _ (by omega)).mono ?_
  rintro e w8 ⟨rfl,hb8⟩
  have K8:=zh (K7.out.step hb8)
  clear hb8
  (try clear y00 y01 y02 y03)
  obtain⟨T,hT⟩:∃ T,T=Cod.text an:=⟨_,rfl⟩
  rw[<- hT] at hto HN3 ⊢
  clear hT
  go_wp2_with fail
  go_round
  case measure=>simp[intOf];omega
  case rel=>exact⟨k+1,by omega,by go_num,by rw[HN3.out],HS3.out,HB.out.trans (K8.out.under.mono HB.out.size)⟩
end
end Go.Proofs.YtjlmglgmcekmhaaGreatDoor
