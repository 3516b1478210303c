/- The laws' own signed operations in package 53. -/
import Derived.Test.YtjlmglgmcekmhaaGreatDoorShkD7
set_option linter.unusedVariables false
set_option linter.unusedSimpArgs false
set_option maxRecDepth 100000
set_option maxHeartbeats 16000000
namespace Go.Proofs.YtjlmglgmcekmhaaGreatDoor
section
open Go Go.RowKit Go.Maps
namespace Own
theorem jk (f:Nat->Ai)(ks:List Nat)(k:Nat)(h:k<ks.length):(ks.take (k+1)).map f=(ks.take k).map f++[f (ks.getD k 0)]:=by
 rw[List.take_succ_eq_append_getElem h,List.map_append,List.getD_eq_getElem?_getD,List.getElem?_eq_getElem h]
 rfl
def Xa (op:Op)(l:List Ai):Op :={ op with Aa:=l }
end Own
theorem Jm (o:Own.Ao)(op:Own.Op)(i:Nat)(ks:List Nat)(sv kv mv av:Value)(ka:Option Addr)(kc:Nat)(w:World)(hM:Il w)(hi:i<2)(hs:∃ a n c,sv=.slice a n c)(hkv:∃ a n c,kv=.slice a n c)(hm:Own.Af w mv op.members)(ha:∃ a c,av=.slice a op.Aa.length c)(hl:op.members.length<=140737488355328)
 (hk:Dt w (.slice ka ks.length kc) ks) (hks:∀ b∈ks,b<256) (hkl:ks.length<=1000):
 Calls Tryz.prog 30 #[.agg #[.int .i64 o.count,sv,kv],Own.opV op mv av,.int .i64 i,.slice ka ks.length kc] w fun e w' => ∃ av',e=.returned (Own.opV (Own.Xa op (ks.map (Own.Dm i (Own.AZ o op).1))) mv av')/\Own.CJ w.heap.size w' av' (ks.map (Own.Dm i (Own.AZ o op).1))/\Below w.heap.size w w':=by
 have hmg:=fun W (hW:Below w.heap.size w W)=>KY o op sv kv mv av W (hM.below hW) hs hkv (hm.below hW) ha hl
 have hms:=Own.Sy o op
 obtain⟨msg,JF⟩:∃ m,m=(Own.AZ o op).1:=⟨_,rfl⟩
 obtain⟨code,hcode⟩:∃ m,m=(Own.AZ o op).2:=⟨_,rfl⟩
 rw[<- JF] at hms ⊢
 simp only[<- JF,<- hcode] at hmg
 have hsg:=fun b W (hb:b<256)=>TG b i msg W hb hi (by omega)
 have jl:∀ (b:Nat) W,b<256->Calls Tryz.prog 41 #[.int .u8 b,.int .i64 i,.string msg] W fun e w' => ∃ cv pv,e=.returned (.agg #[.string (Own.Dm i msg b).name,.int .i64 (Own.Dm i msg b).sig.index,cv,pv])/\w'.ownsRow W.heap.size 9 1 cv 67 ((Own.Dm i msg b).sig.chains.map Value.string)/\w'.ownsRow W.heap.size 9 1 pv 1 ((Own.Dm i msg b).sig.path.map Value.string)/\Below W.heap.size W w':=fun b W hb=>by
  have h:=hsg b W hb
  rw[show(Own.Dm i msg b).name=Own.CG b from rfl,show(Own.Dm i msg b).sig.index=(i:Int) from Own.LG _ _ _]
  exact h
 obtain⟨S,hS⟩:∃ S,S=Own.Dm i msg:=⟨_,rfl⟩
 simp only[<- hS] at jl ⊢
 have hkb:∀ k,k<ks.length->ks.getD k 0<256:=fun k hk=>hks _ (by rw[List.getD_eq_getElem?_getD,List.getElem?_eq_getElem hk];exact List.getElem_mem hk)
 obtain⟨sa,sn,sc,rfl⟩:=hs
 obtain⟨ya,yn,yc,rfl⟩:=hkv
 obtain⟨ma,mc,rfl⟩:=hm.len
 obtain⟨aa,ac,rfl⟩:=ha
 have HMG:=zh hmg;have HSG:=zh jl;have HKB:=zh hkb;have HK:=zh hk
 clear hmg hsg jl hkb hk hks hS JF hcode hM hm hms
 obtain⟨kd,pre,ms,th,nm,pb,aps⟩:=op
 unfold Own.opV Own.Xa at*
 dsimp only at*
 have F1:=zh (show Au w _ [(25,#[.int .i64 o.count,.slice sa sn sc,.slice ya yn yc]),(29,#[.int .i64 kd,.string pre,.slice ma ms.length mc,.int .i64 th,.string nm,.string pb,.slice aa aps.length ac]),(29,#[.int .i64 0,.string ⟨#[]⟩,.slice none 0 0,.int .i64 0,.string ⟨#[]⟩,.string ⟨#[]⟩,.slice none 0 0])] from((((CY.nil w).push 25 #[.int .i64 o.count,.slice sa sn sc,.slice ya yn yc]).push 29 #[.int .i64 kd,.string pre,.slice ma ms.length mc,.int .i64 th,.string nm,.string pb,.slice aa aps.length ac]).push 29 #[.int .i64 0,.string ⟨#[]⟩,.slice none 0 0,.int .i64 0,.string ⟨#[]⟩,.string ⟨#[]⟩,.slice none 0 0]).boxes)
 go_enter Tryz.func30,Tryz.ntmps30
 go_upto_region 1 with fail
 generalize (((w.alloc (.cells #[.int .i64 o.count,.slice sa sn sc,.slice ya yn yc] 25)).alloc (.cells #[.int .i64 kd,.string pre,.slice ma ms.length mc,.int .i64 th,.string nm,.string pb,.slice aa aps.length ac] 29)).alloc (.cells #[.int .i64 0,.string ⟨#[]⟩,.slice none 0 0,.int .i64 0,.string ⟨#[]⟩,.string ⟨#[]⟩,.slice none 0 0] 29))=w1 at*
 obtain⟨x00,x01,x02⟩:=F1.out.Fw rfl
 obtain⟨x10,x11,x12,x13,x14,x15,x16⟩:=F1.out.KE rfl
 go_wp2_with fail
 refine(HMG.out w1 F1.out.under).mono ?_
 rintro e w2 ⟨rfl,hb2⟩
 have F2:=zh (F1.out.step hb2);clear hb2 HMG
 (try clear x00 x01 x02);(try clear x10 x11 x12 x13 x14 x15 x16)
 have x6:w2.cell? ⟨w.heap.size+1,6,none⟩=some (.slice aa aps.length ac):=F2.out.cell 1 6 rfl rfl
 have x6f:w2.frozen? ⟨w.heap.size+1,6,none⟩=false:=F2.out.free 1 6 rfl
 go_upto_region 3 with fail
 have F3:=zh (F2.out.put 1 6 (.slice none 0 0) rfl)
 clear x6 x6f F2 F1
 generalize w2.setCell ⟨w.heap.size+1,6,none⟩ (.slice none 0 0)=w3 at*
 go_wp2
 go_loopw [22] (fun i2 wr=>∃ (k:Nat) (v:Value),k<=ks.length/\i2=.int .i64 k/\Own.CJ (w.heap.size+3) wr v ((ks.take k).map S)/\Au w wr [(25,#[.int .i64 o.count,.slice sa sn sc,.slice ya yn yc]),(29,#[.int .i64 kd,.string pre,.slice ma ms.length mc,.int .i64 th,.string nm,.string pb,v]),(29,#[.int .i64 0,.string ⟨#[]⟩,.slice none 0 0,.int .i64 0,.string ⟨#[]⟩,.string ⟨#[]⟩,.slice none 0 0])]) (fun i2 _=>ks.length-(intOf i2).toNat)
 case atStart=>exact⟨0,_,by omega,rfl,Own.CJ.nil _ _,F3.out⟩
 case round=>
  obtain⟨k,v,hk,rfl,hap,hbx⟩:=hrel
  have hlen:((ks.take k).map S).length=k:=by rw[List.length_map,List.length_take];omega
  obtain⟨va,vc,hv⟩:=hap.len
  rw[hlen] at hv
  subst hv
  have HLN:=zh hlen
  have HA:=zh hap;have G1:=zh hbx
  clear hap hbx F3 hlen
  by_cases hlt:k<ks.length
  case neg=>
   have hke:k=ks.length:=by omega
   have dk:decide ((k:Int)<ks.length)=false:=zf
   rw[hke,List.take_length] at HA;rw[hke] at G1
   clear hke
   obtain⟨x10,x11,x12,x13,x14,x15,x16⟩:=G1.out.KE rfl
   obtain⟨x20,x21,x22,x23,x24,x25,x26,FK,FL,FM,zbt,zbu,zbv,zbw⟩:=G1.out.zau rfl
   go_wp2
   have G2:=((((((G1.out.put 2 0 (.int .i64 kd) rfl).put 2 1 (.string pre) rfl).put 2 2 (.slice ma ms.length mc) rfl).put 2 3 (.int .i64 th) rfl).put 2 4 (.string nm) rfl).put 2 5 (.string pb) rfl).put 2 6 (.slice va ks.length vc) rfl
   refine Ob rfl rfl (AJ (G2.at1 2 rfl) Tryz.underlying29 rfl EX) ⟨_,rfl,?_,G2.under⟩
   exact(HA.out.keep (w':=Qc wr (w.heap.size+1+1) _ _ _ _ _ _ _) (Nat.le_of_eq (zbC _ _ _ _ _ _ _).symm) (fun k hk _=>Nv (by omega) _ _ _ _ _ _ _)).base (by omega)
  have dk:decide ((k:Int)<ks.length)=true:=zt
  have hx2:=HKB.out k hlt
  have htk:=Own.jk S ks k hlt
  obtain⟨b,q,ha,hbl,hc⟩:=Dt.cell (HK.out.below G1.out.under) hlt
  obtain⟨x,hx⟩:∃ x,x=ks.getD k 0:=⟨_,rfl⟩
  rw[<- hx] at hc hx2 htk
  subst ha
  obtain⟨A,hA⟩:∃ A,A=S x:=⟨_,rfl⟩
  rw[<- hA] at htk
  have hsx:=fun W=>HSG.out x W hx2
  simp only[<- hA] at hsx
  obtain⟨an,⟨ix,ch,pa⟩⟩:=A
  dsimp only at hsx
  have HSX:=zh hsx;have HT:=zh htk
  clear hx hsx htk hA hbl
  obtain⟨x10,x11,x12,x13,x14,x15,x16⟩:=G1.out.KE rfl
  have HX1:=zh (zi x16)
  go_wp2
  refine Lex.zn (fun j=>j=w.heap.size+1) [1] 7 [6] ?_
  simp only[Lex.Bp,zd]
  go_wp2_with fail
  refine(HSX.out _).mono ?_
  rintro e w5 ⟨cv,pv,rfl,hcv,hpv,hb5⟩
  have hb6:Below wr.heap.size wr w5:=(Below.refl wr.heap.size wr).drew.trans hb5
  obtain⟨ca,cm,cc,rfl⟩:=Ac hcv
  obtain rfl:=Ba hcv
  obtain⟨pa',pm,pc,rfl⟩:=Ac hpv
  obtain rfl:=Ba hpv
  have HB6:=zh hb6
  have HOB:=zh (G1.out.lt (i:=1) (by show 1<3;omega))
  have hwz:w.heap.size+3<=wr.heap.size:=G1.out.size
  have hb7:Below w5.heap.size w5 (w5.alloc (.cells #[.string an,.int .i64 ix,.slice ca 67 cc,.slice pa' 1 pc] 72)):=zb
  have hb8:=hb6.trans (hb7.mono hb6.size)
  have G5:=zh (G1.out.step hb8)
  obtain⟨css,e1,e2,e3⟩:=HA.out.below hb8
  rw[HLN.out] at e2
  obtain⟨tQ,z1,z2,z3⟩:=id HA.out
  have ZI:∀ j,(Value.slice va k vc).ownBlock=some j->j<wr.heap.size:=fun j hj=>Own.IZ z2 j hj
  have hsc:Own.Jq (fun j=>w.heap.size+3<=j/\(Value.slice va k vc).ownBlock≠some j) (w5.alloc (.cells #[.string an,.int .i64 ix,.slice ca 67 cc,.slice pa' 1 pc] 72)) (.slice ca 67 cc) ch:=
   Own.Jq.own (own_below hcv hb7) (fun j hj=>by
    have hj2:wr.heap.size<=j:=hj
    exact⟨by omega,fun e=>by have:=ZI j e;omega⟩)
  have hsp:Own.Jq (fun j=>w.heap.size+3<=j/\(Value.slice va k vc).ownBlock≠some j) (w5.alloc (.cells #[.string an,.int .i64 ix,.slice ca 67 cc,.slice pa' 1 pc] 72)) (.slice pa' 1 pc) pa:=
   Own.Jq.own (own_below hpv hb7) (fun j hj=>by
    have hj2:wr.heap.size<=j:=hj
    exact⟨by omega,fun e=>by have:=ZI j e;omega⟩)
  have E1:=zh e1;have E2:=zh e2;have E3:=zh e3;have HSC:=zh hsc;have HSP:=zh hsp
  have HRW:=zh (Cx w5 72 #[.string an,.int .i64 ix,.slice ca 67 cc,.slice pa' 1 pc] 4 1 1 rfl)
  have HGW:=zh (show w.heap.size+3<=(w5.alloc (.cells #[.string an,.int .i64 ix,.slice ca 67 cc,.slice pa' 1 pc] 72)).heap.size from Nat.le_trans hwz hb8.size)
  have HT2:=zh HT.out
  clear hcv hpv hb5 hb6 hb7 hb8 e1 e2 e3 tQ z1 z2 z3 ZI hsc hsp hc HA
  go_wp2
  refine Lex.Mid.intro (fun j hj _=>by rw[hj];exact HB6.out.block _ HOB.out) ?_
  go_wp2_with (at_builtin;go_must (refine Ah KX rfl _ _ rfl (w.heap.size+3) k (.slice va k vc) css.flatten rfl E2.out (.slice (some ⟨w5.heap.size,0,none⟩) 1 1) 1 [.string an,.int .i64 ix,.slice ca 67 cc,.slice pa' 1 pc] rfl HRW.out (by intro u hu;simp at hu;rcases hu with rfl|rfl|rfl|rfl<;>rfl) (by omega) (by omega) HGW.out ?_);intro v9 w9 ho9 hg9 hw9;obtain⟨ya9,ym9,yc9,rfl⟩:=Ac ho9;have AP9:=zh (Own.CJ.push (x:=⟨an,⟨ix,ch,pa⟩⟩) E1.out (by rw[HLN.out];exact E2.out) E3.out HSC.out HSP.out (by rw[HLN.out];exact ho9) hg9 hw9);have G9:=zh (G5.out.far (O:=w.heap.size+3) (Nat.le_refl _) (Ak E2.out) hg9);clear ho9 hg9 hw9;have z10:w9.cell? ⟨w.heap.size+1,0,none⟩=some (.int .i64 kd):=G9.out.cell 1 0 rfl rfl;have zbx:w9.frozen? ⟨w.heap.size+1,0,none⟩=false:=G9.out.free 1 0 rfl;have z11:w9.cell? ⟨w.heap.size+1,1,none⟩=some (.string pre):=G9.out.cell 1 1 rfl rfl;have zby:w9.frozen? ⟨w.heap.size+1,1,none⟩=false:=G9.out.free 1 1 rfl;have z12:w9.cell? ⟨w.heap.size+1,2,none⟩=some (.slice ma ms.length mc):=G9.out.cell 1 2 rfl rfl;have zbz:w9.frozen? ⟨w.heap.size+1,2,none⟩=false:=G9.out.free 1 2 rfl;have z13:w9.cell? ⟨w.heap.size+1,3,none⟩=some (.int .i64 th):=G9.out.cell 1 3 rfl rfl;have zb0:w9.frozen? ⟨w.heap.size+1,3,none⟩=false:=G9.out.free 1 3 rfl;have z14:w9.cell? ⟨w.heap.size+1,4,none⟩=some (.string nm):=G9.out.cell 1 4 rfl rfl;have zb1:w9.frozen? ⟨w.heap.size+1,4,none⟩=false:=G9.out.free 1 4 rfl;have z15:w9.cell? ⟨w.heap.size+1,5,none⟩=some (.string pb):=G9.out.cell 1 5 rfl rfl;have zb2:w9.frozen? ⟨w.heap.size+1,5,none⟩=false:=G9.out.free 1 5 rfl;have z16:w9.cell? ⟨w.heap.size+1,6,none⟩=some (.slice va k vc):=G9.out.cell 1 6 rfl rfl;have zb3:w9.frozen? ⟨w.heap.size+1,6,none⟩=false:=G9.out.free 1 6 rfl)
  refine Lex.zk ⟨⟨rfl,HX1.out⟩,trivial⟩ ?_
  go_wp2_with fail
  refine⟨⟨k+1,.slice ya9 ym9 yc9,by omega,by go_num,?_,G9.out.put 1 6 _ rfl⟩,by simp[intOf];omega⟩
  rw[HT.out]
  exact AP9.out.keep (by simp[World.setCell]) (fun j hj _=>zo (by show j≠w.heap.size+1;omega))
theorem Lb (k:Own.Space)(ma:Option Addr)(mn mc:Nat)(t:ByteArray)(w:World):Calls Tryz.prog 160 #[.agg #[.string k.pre,.slice ma mn mc,.int .i64 k.threshold],.string t] w fun e w' => e=.returned (.int .i64 (JV k.pre t))/\Below w.heap.size w w':=by
 have HB:=zh ((Below.refl w.heap.size w).alloc (Nat.le_refl _) (.cells #[.string k.pre,.slice ma mn mc,.int .i64 k.threshold] 39))
 go_enter Tryz.func160,Tryz.ntmps160
 go_wp2_with fail
 refine(RY k.pre t _).mono ?_
 rintro e w2 ⟨rfl,rfl⟩
 go_wp2
 go_ret
 exact⟨rfl,HB.out⟩
theorem Xb (v:Value)(l:List Own.Space)(t:ByteArray)(w:World)(h:Own.BF w v l)(hs:Own.Srt Own.Space.pre l)(hl:l.length<=1000000):
 Calls Tryz.prog 159 #[v,.string t,.func (.func 160) #[] #[]] w fun e w' => e=.returned (.tuple #[.int .i64 (Own.posB Own.Space.pre t l:Nat),.bool (Own.Dl Own.Space.pre t l)])/\Below w.heap.size w w':=by
 obtain⟨a,c,rfl⟩:=h.len
 have HL:=zh h;have HS:=zh hs;clear h hs
 go_enter Tryz.func159,Tryz.ntmps159
 go_wp2
 go_loopw [9,10] (fun i j wr=>∃ p q:Nat,p<=q/\∃ hq:q<=l.length,i=.int .i64 p/\j=.int .i64 q/\(∀ k (h:k<l.length),k<p->Own.Aj l[k].pre t=true)/\(∀ k (h:k<l.length),q<=k->Own.Aj l[k].pre t=false)/\Below w.heap.size w wr) (fun i j _=>(intOf j).toNat-(intOf i).toNat)
 case atStart=>exact⟨0,l.length,by omega,Nat.le_refl _,rfl,rfl,fun _ _ h=>by omega,fun _ _ h=>by omega,Below.refl _ _⟩
 case round=>
  obtain⟨p,q,hpq,hq,rfl,rfl,h1,h2,hb⟩:=hrel
  have HB:=zh hb;have H1:=zh h1;have H2:=zh h2
  by_cases hlt:p<q
  ·have dk:decide ((p:Int)<(q:Int))=true:=zt
   obtain⟨m,hm⟩:∃ m,m=(p+q)/2:=⟨_,rfl⟩
   have em:((p:Int)+(q:Int))/2=(m:Int):=by omega
   have m1:p<=m:=by omega
   have m2:m<q:=by omega
   have hml:m<l.length:=by omega
   obtain⟨b,o,mv,ha,hbl,e0,e1,e2,hmv⟩:=Own.BF.cells (HL.out.below hb) hml
   subst ha
   obtain⟨ma,mc,rfl⟩:=hmv.len
   have hlow:Own.Aj l[m].pre t=true->∀ k (h:k<l.length),k<m+1->Own.Aj l[k].pre t=true:=fun hx k hk hkm=>by
    by_cases e:k=m
    ·subst e;exact hx
    ·exact Own.Dr ((List.pairwise_iff_getElem.1 HS.out) k m hk hml (by omega)) hx
   have hhigh:Own.Aj l[m].pre t=false->∀ k (h:k<l.length),m<=k->Own.Aj l[k].pre t=false:=fun hx k hk hkm=>by
    by_cases e:k=m
    ·subst e;exact hx
    ·cases hc:Own.Aj l[k].pre t with
     | false=>rfl
     | true =>
       have:=Own.Dr ((List.pairwise_iff_getElem.1 HS.out) m k hml hk (by omega)) hc
       rw[hx] at this
       cases this
   obtain⟨ku,hku⟩:∃ x,x=l[m]:=⟨_,rfl⟩
   clear hmv
   simp only[<- hku] at hlow hhigh e0 e1 e2
   have hcall:=Lb ku ma ku.members.length mc t wr
   have sQ:=zh hlow;have lU:=zh hhigh
   clear hb h1 h2 hm hlow hhigh hku
   cases hc:Own.Aj ku.pre t with
   | true =>
     have ec:JV ku.pre t = -1:=by unfold JV;rw[hc];rfl
     rw[ec] at hcall
     clear ec
     go_wp2_with fail
     refine hcall.mono ?_
     rintro e w' ⟨rfl,hb'⟩
     go_wp2_with fail
     exact⟨⟨m+1,q,by omega,by omega,by go_num,rfl,sQ.out hc,H2.out,HB.out.trans (hb'.mono HB.out.size)⟩,by simp[intOf];omega⟩
   | false =>
     obtain⟨r,hr⟩:∃ r,r=JV ku.pre t:=⟨_,rfl⟩
     have er:0<=r:=by rw[hr];unfold JV;rw[hc];simp;split<;>decide
     rw[<- hr] at hcall
     have dr:decide (r<0)=false:=zf
     clear hr
     go_wp2_with fail
     refine hcall.mono ?_
     rintro e w' ⟨rfl,hb'⟩
     go_wp2_with fail
     exact⟨⟨p,m,by omega,by omega,rfl,rfl,H1.out,lU.out hc,HB.out.trans (hb'.mono HB.out.size)⟩,by simp[intOf];omega⟩
  ·obtain rfl:p=q:=by omega
   have dk:decide ((p:Int)<(p:Int))=false:=zf
   have hpos:=Own.Pm (f:=Own.Space.pre) t hq (fun k h=>h1 k h) (fun k h=>h2 k h)
   have lV:=zh hpos
   by_cases hpl:p<l.length
   ·have dp:decide ((p:Int)<(l.length:Int))=true:=zt
    obtain⟨b,o,mv,ha,hbl,e0,e1,e2,hmv⟩:=Own.BF.cells (HL.out.below hb) hpl
    subst ha
    obtain⟨ma,mc,rfl⟩:=hmv.len
    have hge:=h2 p hpl (Nat.le_refl _)
    have hhit:Own.Dl Own.Space.pre t l=decide (l[p].pre=t):=by unfold Own.Dl;rw[<- hpos,List.getElem?_eq_getElem hpl]
    obtain⟨ku,hku⟩:∃ x,x=l[p]:=⟨_,rfl⟩
    clear hmv
    simp only[<- hku] at hhit hge e0 e1 e2
    have hcall:=Lb ku ma ku.members.length mc t wr
    obtain⟨r,hr⟩:∃ r,r=JV ku.pre t:=⟨_,rfl⟩
    have er:(r==0)=Own.Dl Own.Space.pre t l:=by
     rw[hhit,hr];unfold JV;rw[hge]
     by_cases h:ku.pre=t
     ·simp[h]
     ·simp[h]
    rw[<- hr] at hcall
    have ER:=zh er
    clear hb h1 h2 hhit hge hku hr hpos er
    go_wp2_with fail
    refine hcall.mono ?_
    rintro e w' ⟨rfl,hb'⟩
    go_wp2
    go_ret2
    exact⟨by rw[<- ER.out,<- lV.out];rfl,HB.out.trans (hb'.mono HB.out.size)⟩
   ·have dp:decide ((p:Int)<(l.length:Int))=false:=zf
    have hhit:Own.Dl Own.Space.pre t l=false:=by unfold Own.Dl;rw[<- hpos,List.getElem?_eq_none (by omega)]
    have sS:=zh hhit
    clear hb h1 h2 hhit hpos
    go_wp2
    go_ret2
    exact⟨by rw[sS.out,<- lV.out];rfl,HB.out⟩
theorem Ke (g:Nat)(cnt ex:Int)(sv kv mv av:Value)(op:Own.Op)(w:World)(hat:At w g 87 (Own.DY cnt sv kv op mv av ex))(hm:Own.Af w mv op.members)(hl:op.members.length<=3000000):
 Calls Tryz.prog 108 #[.pointer (some ⟨g,0,none⟩)] w fun e w' => ∃ v',e=.returned (.agg #[.string op.pre,v',.int .i64 op.threshold])/\w'.ownsRow (w.heap.size+1) 76 2 v' op.members.length (op.members.flatMap Own.Cy)/\Below w.heap.size w w':=by
 obtain⟨ma,mc,rfl⟩:=hm.len
 have K1:=zh (show Au w _ [(39,#[.string ⟨#[]⟩,.slice none 0 0,.int .i64 0])] from((CY.nil w).push 39 #[.string ⟨#[]⟩,.slice none 0 0,.int .i64 0]).boxes)
 have H1:=zh (hat.below K1.out.under hat.lt);have HM:=zh (hm.below K1.out.under)
 clear hat hm
 have hz1:(w.alloc (.cells #[.string ⟨#[]⟩,.slice none 0 0,.int .i64 0] 39)).heap.size=w.heap.size+1:=by simp
 go_enter Tryz.func108,Tryz.ntmps108
 go_upto_region 1 with fail
 have HZ1:=zh hz1;clear hz1
 generalize (w.alloc (.cells #[.string ⟨#[]⟩,.slice none 0 0,.int .i64 0] 39))=w1 at*
 obtain⟨c0,c1,c2,c3,c4,c5,c6,c7,c8,c9,c10⟩:=Own.OY H1.out
 have hcp:=Em op.pre op.threshold (.slice ma op.members.length mc) op.members w1.drew (HM.out.below (Below.refl w1.heap.size w1).drew) hl
 have HCP:=zh hcp;clear hcp
 refine Lex.zl ?_
 go_wp2_with fail
 refine HCP.out.mono ?_
 rintro e w2 ⟨v',rfl,hov,hb2⟩
 have B2:=zh (show Below w1.heap.size w1 w2 from(Below.refl w1.heap.size w1).drew.trans hb2)
 have K2:=zh (K1.out.step B2.out)
 obtain⟨va,vm,vc,rfl⟩:=Ac hov
 rw[Ez,HZ1.out] at hov
 have HOV:=zh hov
 clear hov hb2
 clear c0 c1 c2 c3 c4 c5 c6 c7 c8 c9 c10
 obtain⟨x00,x01,x02,wQ,wT,wU⟩:=K2.out.wI rfl
 go_wp2
 refine Lex.ze ?_
 go_wp2
 have G2:=((K2.out.put 0 0 (.string op.pre) rfl).put 0 1 (.slice va vm vc) rfl).put 0 2 (.int .i64 op.threshold) rfl
 refine Ob rfl rfl (AJ (G2.at1 0 rfl) Tryz.underlying39 rfl EK) ⟨_,rfl,?_,G2.under⟩
 refine Ae HOV.out (fun k hk=>?_)
 have hk1:k≠w.heap.size:=by have:=Ak HOV.out k hk;omega
 rw[zo hk1,zo hk1,zo hk1]
namespace Own
theorem rF {B:Nat}{w:World}{v:Value}{S:List Space}{us:List Value}(h:Ca B w v S us):∀ u∈Az S us,u.oneCell' = true:=YD fun cs hcs u hu=>by
 obtain⟨i,hi,rfl⟩:=List.getElem_of_mem hcs
 rw[List.length_zipWith] at hi
 rw[List.getElem_zipWith] at hu
 obtain⟨a,m,c,he⟩:=Ac (h.GJ i (by omega) (by omega))
 rw[he] at hu
 simp[encS] at hu
 rcases hu with rfl|rfl|rfl<;>rfl
def SN (B g:Nat)(w w' : World)(cnt:Int)(op:Op)(ex:Int)(mv av:Value)(S:List Space)(K:List KeyUse):Prop:=
 (∃ sv kv,At w' g 87 (DY cnt sv kv op mv av ex)/\Aq 3 EI (fun k=>B<=k) w' sv S/\Aq 2 aQ (fun k=>B<=k) w' kv K)/\Fr (fun k=>k=g\/B<=k) w w'
end Own
theorem Xc (B g:Nat)(o:Own.Ao)(op:Own.Op)(ex:Int)(sv kv mv av:Value)(us:List Value)(w:World)(h:Own.Chg B w g o op ex sv kv mv av us)(hs:Own.Srt Own.Space.pre o.spaces)(hn:∀ y∈o.spaces,y.pre≠op.pre)(hl:o.spaces.length<=1000)(hml:op.members.length<=3000000)(hgB:g<B)(hB:B<=w.heap.size):
 Calls Tryz.prog 109 #[.pointer (some ⟨g,0,none⟩)] w fun e w' => e=.returned (.tuple #[])/\Own.SN B g w w' o.count op ex mv av (Own.Dj Own.Space.pre (Own.AQ op) o.spaces) o.keys:=by
 obtain⟨S',hS'⟩:∃ S',S' = Own.Dj Own.Space.pre (Own.AQ op) o.spaces:=⟨_,rfl⟩
 obtain⟨Q,hQ⟩:∃ Q,Q=fun w' => Own.SN B g w w' o.count op ex mv av S' o.keys:=⟨_,rfl⟩
 have hins:=Own.mH (f:=Own.Space.pre) (l:=o.spaces) (Own.AQ op) hn
 rw[<- hS'] at hins ⊢
 have hQ2:∀ w',Own.SN B g w w' o.count op ex mv av S' o.keys=Q w':=fun w' => by rw[hQ]
 simp only[hQ2]
 have hit:=Own.eO (f:=Own.Space.pre) (t:=op.pre) (l:=o.spaces) hn
 obtain⟨i,hi⟩:∃ i,i=Own.posB Own.Space.pre op.pre o.spaces:=⟨_,rfl⟩
 have hin:i<=o.spaces.length:=by rw[hi];exact Own.MK _ _
 have rG:S' = o.spaces.take i++Own.AQ op::o.spaces.drop i:=by rw[hins,hi];rfl
 have hbs:=fun W (hW:Below w.heap.size w W)=>Xb sv o.spaces op.pre W (h.spaces.below hW) hs (by omega)
 rw[<- hi,hit] at hbs
 obtain⟨sa,sc,hsv⟩:=h.sp.slice
 subst hsv
 obtain⟨ka,kn,kc,hkv⟩:=Ac h.ks
 subst hkv
 obtain rfl:=Ba h.ks
 obtain⟨ma,mc,hmv⟩:=h.ms.len
 subst hmv
 have hgl:=h.at_.lt
 have H:=zh h;have HBS:=zh hbs;have HQ:=zh hQ;have oZ:=zh rG
 clear h hs hn hbs hQ hQ2 hins rG hit hi hS'
 go_enter Tryz.func109,Tryz.ntmps109
 obtain⟨c0,c1,c2,c3,c4,c5,c6,c7,c8,c9,c10⟩:=Own.OY H.out.at_
 go_wp2
 refine Lex.zl ?_
 go_wp2_with fail
 refine(HBS.out _ ((Below.refl w.heap.size w).drew)).mono ?_
 rintro e w2 ⟨rfl,hb2⟩
 have B2:=zh (show Below w.heap.size w w2 from(Below.refl w.heap.size w).drew.trans hb2)
 have H2:=zh (H.out.below B2.out)
 clear hb2
 clear c0 c1 c2 c3 c4 c5 c6 c7 c8 c9 c10
 go_wp2
 refine Lex.ze ?_
 go_upto_region 1 with fail
 obtain⟨c0,c1,c2,c3,c4,c5,c6,c7,c8,c9,c10⟩:=Own.OY H2.out.at_
 have zaV:g<w2.heap.size:=Nat.lt_of_lt_of_le hgl B2.out.size
 have Y1:=zh (zi c1)
 have hz2:=B2.out.size
 refine Lex.zn (fun k=>k=g) [5] 11 [9,2] ?_
 simp only[Lex.Bp,zd]
 have HCS:=zh (Ke g o.count ex (.slice sa o.spaces.length sc) (.slice ka o.keys.length kc) (.slice ma op.members.length mc) av op w2.drew (H2.out.at_.drew) (H2.out.GJ.below (Below.refl w2.heap.size w2).drew) hml)
 go_wp2_with fail
 refine HCS.out.mono ?_
 rintro e w3 ⟨v',rfl,hov,hb3⟩
 rw[Ez] at hov
 have B3:=zh (show Below w2.heap.size w2 w3 from(Below.refl w2.heap.size w2).drew.trans hb3)
 obtain⟨va,vm,vc,rfl⟩:=Ac hov
 have H3:=zh (H2.out.below B3.out);have HOV:=zh hov
 clear hov hb3 HCS
 clear c0 c1 c2 c3 c4 c5 c6 c7 c8 c9 c10
 go_wp2
 refine Lex.Mid.intro (fun j hj hjl=>by rw[hj];exact B3.out.block _ zaV) ?_
 have hb4:Below w3.heap.size w3 (w3.alloc (.cells #[.string op.pre,.slice va vm vc,.int .i64 op.threshold] 39)):=zb
 have TI:=At.new w3 39 #[.string op.pre,.slice va vm vc,.int .i64 op.threshold]
 have B4:=zh (B3.out.trans (hb4.mono B3.out.size));have H4:=zh (H3.out.below hb4);have tV:=zh (own_below HOV.out hb4);have NA:=zh TI
 have hvb:(Value.slice sa o.spaces.length sc).ownBlock≠some w3.heap.size:=fun e=>by have:=Own.ET H3.out.sp.row _ e;omega
 have zu:B<=(w3.alloc (.cells #[.string op.pre,.slice va vm vc,.int .i64 op.threshold] 39)).heap.size:=by rw[World.size_alloc];have:=B3.out.size;omega
 have rH:=zh (TS B o.spaces.length i w3.heap.size (.slice sa o.spaces.length sc) (Own.Az o.spaces us) [.string op.pre,.slice va vm vc,.int .i64 op.threshold] _ H4.out.sp.row (Own.rF H4.out.sp) hin (by omega) rfl TI (by intro u hu;simp at hu;rcases hu with rfl|rfl|rfl<;>rfl) hvb zu)
 clear hb4 TI hvb zu B3 H3 HOV
 go_wp2_with fail
 refine rH.out.mono ?_
 generalize w3.alloc (.cells #[.string op.pre,.slice va vm vc,.int .i64 op.threshold] 39)=w4 at*
 rintro e w5 ⟨v5,rfl,ho5,hg5,_⟩
 obtain⟨wa,wm,wc,rfl⟩:=Ac ho5
 have nG:=H4.out.at_.own_ne H4.out.sp.row (by decide)
 have nH:g<w4.heap.size:=H4.out.at_.lt
 have En:At w5 g 87 (Own.DY o.count (.slice sa o.spaces.length sc) (.slice ka o.keys.length kc) op (.slice ma op.members.length mc) av ex):=(hg5.block g nH (fun e=>nG e.symm)).trans H4.out.at_
 have HBG:=zh ((hg5.block g nH (fun e=>nG e.symm)).trans (B4.out.block g zaV))
 have AT5:=zh En;have HO5:=zh ho5;have HG5:=zh hg5
 clear ho5 hg5 En rH nG NA
 obtain⟨c0,c1,c2,c3,c4,c5,c6,c7,c8,c9,c10⟩:=Own.OY AT5.out
 have z1:=AT5.out.free 1
 go_wp2
 refine Lex.Mid.intro (fun j hj _=>by rw[hj];exact HBG.out) ?_
 go_wp2
 refine Lex.zk ⟨⟨rfl,Y1.out⟩,trivial⟩ ?_
 go_wp2_with fail
 (try go_end0)
 have jm:∀ k,k<w4.heap.size->(Value.slice sa o.spaces.length sc).ownBlock≠some k->w5.heap[k]? = w4.heap[k]? :=fun k hk e=>HG5.out.block k hk (fun e2=>e e2.symm)
 have zw:w5.ownsRow (w2.heap.size+1) 76 2 (.slice va vm vc) op.members.length (op.members.flatMap Own.Cy):=Ae tV.out (fun k e=>jm k (Own.ET tV.out k e) (fun e2=>Ho tV.out H4.out.sp.row (by decide) k e e2))
 have bN:w5.ownsRow B 59 2 (.slice ka o.keys.length kc) o.keys.length (o.keys.flatMap Own.Dw):=Ae H4.out.ks (fun k e=>jm k (Own.ET H4.out.ks k e) (fun e2=>Ho H4.out.ks H4.out.sp.row (by decide) k e e2))
 have iQ:=H4.out.sp.ins (x:=Own.AQ op) (i:=i) (u:=.slice va vm vc) (w':=w5) (v':=.slice wa wm wc) hin HO5.out jm (F:=fun k=>B<=k) (fun _ h=>h) (fun k e=>Ak HO5.out k e) (Cq (enc:=Own.Cy) (fun _=>rfl) (fun _=>rfl) (Bc.own zw) rfl (fun k hk=>by have:=Ak zw k hk;omega))
 have far:∀ k,B<=k->(w5.setCell ⟨g,1,none⟩ (.slice wa wm wc)).heap[k]? = w5.heap[k]? :=fun k hk=>zo (by show k≠g;omega)
 refine⟨rfl,?_⟩
 rw[HQ.out,oZ.out]
 refine⟨⟨_,_,AT5.out.set 1 _,?_,?_⟩,?_⟩
 ·exact iQ.keep (by simp[World.setCell]) (fun k hk _=>far k hk)
 ·exact Cq (enc:=Own.Dw) (fun _=>rfl) (fun _=>rfl) (Bc.own (Ae bN (fun k e=>far k (Ak bN k e)))) rfl (fun k hk=>Ak bN k hk)
 ·have f1:Fr (fun k=>k=g\/B<=k) w w4:=Fr.of_below (B2.out.trans (B4.out.mono B2.out.size))
  exact(f1.grown HG5.out (fun k e=>.inl (.inr (Ak H4.out.sp.row k e)))).setCell (p:=⟨g,1,none⟩) (.inl (.inl rfl)) _
namespace Own
def Et (o:Ao)(op:Op):Except Int (List Space × List KeyUse):=match Fh o.spaces op with
 | .error c=>.error c
 | .ok (s,l) => match AO s (AZ o op).1 o.keys op.Aa with
   | .error c=>.error c
   | .ok K=>.ok (l,K)
structure MIn (B g:Nat) (o:Ao) (op:Op) (ex:Int) (sv kv mv av:Value) (us:List Value) (w:World):Prop where
 c:Chg B w g o op ex sv kv mv av us
 M:Il w
 A:Hq w av op.Aa
 ok:Rt o
 opk:Eh op=true
 ix:Idx (fun s=>decide (s.pre=op.pre)) o.spaces ex
 lk:o.keys.length<=800000
 al:∀ a∈op.Aa,a.name.size<=140737488355328/\a.sig.chains.length<=140737488355328/\a.sig.path.length<=140737488355328
def Dy (w:World)(g:Nat)(cnt:Int)(op:Op)(ex:Int)(mv av:Value)(R:Except Int (List Space × List KeyUse))(e:Ending)(w' : World):Prop:=match R with
 | .error c=>e=.returned (.int .i64 c)/\c≠0/\Fr (fun k=>k=g) w w'
 | .ok p=>e=.returned (.int .i64 0)/\(∃ sv kv,At w' g 87 (DY cnt sv kv op mv av ex)/\Aq 3 EI (fun k=>w.heap.size<=k) w' sv p.1/\Aq 2 aQ (fun k=>w.heap.size<=k) w' kv p.2)/\Fr (fun k=>k=g) w w'
theorem Fp {s:Space}{msg:ByteArray}{K:List KeyUse}{l:List Ai}{c:Int}(h:AO s msg K l=.error c):c≠0:=by
 unfold AO at h
 split at h
 ·rename_i c' he
  cases h
  exact JZ s msg l _ _ c he
 ·split at h
  ·cases h;decide
  ·cases h
section
variable {B g:Nat} {o:Ao} {op:Op} {ex:Int} {sv kv mv av:Value} {us:List Value} {w w' : World}
theorem MIn.below (h:MIn B g o op ex sv kv mv av us w)(hb:Below w.heap.size w w'):MIn B g o op ex sv kv mv av us w':=⟨h.c.below hb,h.M.below hb,h.A.below hb,h.ok,h.opk,h.ix,h.lk,h.al⟩
theorem MIn.app (h:MIn B g o op ex sv kv mv av us w)(s:Space)(smv:Value)(hm:Af w smv s.members)(hl:s.members.length<=3000000):
 Calls Tryz.prog 107 #[.pointer (some ⟨g,0,none⟩),.agg #[.string s.pre,smv,.int .i64 s.threshold]] w (WR w g o op ex mv av (AO s (AZ o op).1 o.keys op.Aa)):=by
 have hz:=KD.of h.opk
 exact Sz B g o op ex s sv kv mv av smv us w h.M h.c h.A hm h.ok.sD (by have:=h.ok.len;omega) (by have:=h.lk;have:=hz.al;omega) (fun x hx=>by have:=(Da (h.ok.sp x hx)).l8;omega) hl (by have:=hz.ml;omega) h.al
theorem MIn.insert {K:List KeyUse}{w0:World}{sv4 kv4:Value}{us4:List Value}(h:MIn B g o op ex sv kv mv av us w0)(hc:Chg w0.heap.size w g ⟨o.count,o.spaces,K⟩ op ex sv4 kv4 mv av us4)(hf:Fr (fun k=>k=g) w0 w)(hn:∀ y∈o.spaces,y.pre≠op.pre)(hg:g<w0.heap.size):
 Calls Tryz.prog 109 #[.pointer (some ⟨g,0,none⟩)] w fun e w' => e=.returned (.tuple #[])/\SN w0.heap.size g w w' o.count op ex mv av (Dj Space.pre (AQ op) o.spaces) K:=by
 have hz:=KD.of h.opk
 exact Xc w0.heap.size g ⟨o.count,o.spaces,K⟩ op ex sv4 kv4 mv av us4 w hc h.ok.iG hn (by have:=h.ok.len;show o.spaces.length<=1000;omega) (by have:=hz.ml;omega) hg hf.size
theorem nI {w3 w4 w5:World}{cnt:Int}{S:List Space}{K:List KeyUse}(hb:Below w.heap.size w w3)(hf:Fr (fun k=>k=g) w3 w4)(hd:SN w3.heap.size g w4 w5 cnt op ex mv av S K):
 (∃ sv kv,At w5 g 87 (DY cnt sv kv op mv av ex)/\Aq 3 EI (fun k=>w.heap.size<=k) w5 sv S/\Aq 2 aQ (fun k=>w.heap.size<=k) w5 kv K)/\Fr (fun k=>k=g) w w5:=by
 obtain⟨⟨sv,kv,h1,h2,h3⟩,h4⟩:=hd
 have hz:=hb.size
 refine⟨⟨sv,kv,h1,h2.mono (fun k hk _=>by omega),h3.mono (fun k hk _=>by omega)⟩,?_⟩
 have f1:Fr (fun k=>k=g) w w3:=Fr.of_below hb
 have f2:Fr (fun k=>k=g) w w4:=f1.trans hf (fun k hk=>.inl hk)
 exact f2.trans h4 (fun k hk=>by
  rcases hk with hk|hk
  ·exact .inl hk
  ·exact .inr (by omega))
end
end Own
theorem Zk (B g:Nat)(o:Own.Ao)(op:Own.Op)(ex:Int)(sv kv mv av:Value)(us:List Value)(w:World)(h:Own.MIn B g o op ex sv kv mv av us w)(hk:op.kind=0):
 Calls Tryz.prog 53 #[.pointer (some ⟨g,0,none⟩)] w (Own.Dy w g o.count op ex mv av (Own.Et o op)):=by
 obtain⟨R,hR⟩:∃ R,R=Own.Et o op:=⟨_,rfl⟩
 obtain⟨Q,hQ⟩:∃ Q,Q=Own.Dy w g o.count op ex mv av R:=⟨_,rfl⟩
 rw[<- hR,<- hQ]
 obtain⟨sa,sc,hsv⟩:=h.c.sp.slice
 subst hsv
 obtain⟨ka,kn,kc,hkv⟩:=Ac h.c.ks
 subst hkv
 obtain rfl:=Ba h.c.ks
 obtain⟨ma,mc,hmv⟩:=h.c.ms.len
 subst hmv
 obtain⟨aa,ac,hav,_⟩:=id h.A
 subst hav
 have hgl:=h.c.at_.lt
 have hln:=h.ok.len
 unfold Own.Et at hR
 have H:=zh h;have HR:=zh hR;have HQ:=zh hQ
 clear h hR hQ
 have hau:=fun W (hW:Below w.heap.size w W)=>FH o op.pre (.slice sa o.spaces.length sc) (.slice ka o.keys.length kc) W (H.out.c.spaces.below hW) hln (fun x hx=>by
  have:=H.out.ok.sp x hx
  unfold Own.AX Own.BI at this
  simp only[Bool.and_eq_true,decide_eq_true_eq] at this
  exact this.1.1.1.1.2)
 have HAU:=zh hau;clear hau
 have hr:=HR.out
 unfold Own.Fh at hr
 rw[if_pos hk] at hr
 have HR2:=zh hr
 clear hr HR hk
 go_enter Tryz.func53,Tryz.ntmps53
 obtain⟨c0,c1,c2,c3,c4,c5,c6,c7,c8,c9,c10⟩:=Own.OY H.out.c.at_
 go_wp2
 refine Lex.zl ?_
 go_wp2_with fail
 refine(HAU.out _ ((Below.refl w.heap.size w).drew)).mono ?_
 rintro e w2 ⟨⟨i,rfl,eZ⟩,hb2⟩
 have B2:=zh (show Below w.heap.size w w2 from(Below.refl w.heap.size w).drew.trans hb2)
 have H2:=zh (H.out.below B2.out)
 clear hb2
 clear c0 c1 c2 c3 c4 c5 c6 c7 c8 c9 c10
 obtain⟨c0,c1,c2,c3,c4,c5,c6,c7,c8,c9,c10⟩:=Own.OY H2.out.c.at_
 rcases eZ with ⟨rfl,hbn⟩|⟨j,rfl,hj,hbs⟩
 case inr=>
  have HE:=zh (show R=.error 5 by rw[HR2.out,hbs])
  have dj:decide ((0:Int)<=(j:Int))=true:=zt
  clear hbs HR2
  go_wp2
  refine Lex.ze ?_
  go_wp2
  (try go_ret)
  rw[HQ.out,HE.out]
  exact⟨rfl,by decide,Fr.of_below B2.out⟩
 have hr:=HR2.out
 rw[hbn] at hr
 have hno:=Own.YL hbn
 have HNO:=zh hno
 clear hbn hno HR2
 by_cases h64:o.spaces.length=64
 ·have d64:((o.spaces.length:Int)==64)=true:=by rw[beq_iff_eq];omega
  have HE:=zh (show R=.error 7 by rw[hr];simp only[if_pos h64])
  clear hr h64
  go_wp2
  refine Lex.ze ?_
  go_wp2
  (try go_ret)
  rw[HQ.out,HE.out]
  exact⟨rfl,by decide,Fr.of_below B2.out⟩
 have d64:((o.spaces.length:Int)==64)=false:=by rw[beq_eq_false_iff_ne];omega
 have HE0:=zh (show R=match Own.AO (Own.AQ op) (Own.AZ o op).1 o.keys op.Aa with
  | .error c=>.error c
  | .ok K=>.ok (Own.Dj Own.Space.pre (Own.AQ op) o.spaces,K) by rw[hr];simp only[if_neg h64])
 clear hr h64
 have hmz:=(Own.KD.of H.out.opk).ml
 have HCS:=zh (Ke g o.count ex (.slice sa o.spaces.length sc) (.slice ka o.keys.length kc) (.slice ma op.members.length mc) (.slice aa op.Aa.length ac) op w2 H2.out.c.at_ H2.out.c.GJ (by omega))
 go_wp2
 refine Lex.ze ?_
 go_wp2_with fail
 refine HCS.out.mono ?_
 rintro e w3 ⟨v',rfl,hov,hb3⟩
 obtain⟨va,vm,vc,rfl⟩:=Ac hov
 have B3:=zh (B2.out.trans (hb3.mono B2.out.size));have H3:=zh (H2.out.below hb3)
 have HAP:=zh (H3.out.app (Own.AQ op) (.slice va vm vc) (Own.Af.of (Bc.own hov) rfl) (by show op.members.length<=_;omega))
 clear hov hb3 HCS
 clear c0 c1 c2 c3 c4 c5 c6 c7 c8 c9 c10
 go_wp2_with fail
 refine HAP.out.mono ?_
 intro e w4 hpost
 cases hap:Own.AO (Own.AQ op) (Own.AZ o op).1 o.keys op.Aa with
 | error c =>
   rw[hap] at hpost
   obtain⟨rfl,hb4⟩:=hpost
   have hc:=Own.Fp hap
   have HE:=zh (show R=.error c by rw[HE0.out,hap])
   have dz:(c==(0:Int))=false:=by rw[beq_eq_false_iff_ne];exact hc
   have HC:=zh hc;have B4:=zh (B3.out.trans (hb4.mono B3.out.size))
   clear hap hc hb4 HE0
   go_wp2
   (try go_ret)
   rw[HQ.out,HE.out]
   exact⟨rfl,HC.out,Fr.of_below B4.out⟩
 | ok L =>
   rw[hap] at hpost
   obtain⟨rfl,⟨sv4,kv4,us4,hc4⟩,hf4⟩:=hpost
   have HE:=zh (show R=.ok (Own.Dj Own.Space.pre (Own.AQ op) o.spaces,L) by rw[HE0.out,hap])
   have HI:=zh (H3.out.insert hc4 hf4 HNO.out H3.out.c.at_.lt)
   have HF4:=zh hf4
   clear hap hc4 hf4 HE0 HAP
   go_wp2_with fail
   refine HI.out.mono ?_
   rintro e w5 ⟨rfl,hd⟩
   have HD:=zh hd
   clear hd HI
   go_wp2
   (try go_ret)
   rw[HQ.out,HE.out]
   exact⟨rfl,Own.nI B3.out HF4.out HD.out⟩
theorem SV (B g:Nat)(o:Own.Ao)(op:Own.Op)(ex:Int)(sv kv mv av:Value)(us:List Value)(w:World)(h:Own.MIn B g o op ex sv kv mv av us w)(hk:op.kind=2):
 Calls Tryz.prog 55 #[.pointer (some ⟨g,0,none⟩)] w (Own.Dy w g o.count op ex mv av (Own.Et o op)):=by
 obtain⟨R,hR⟩:∃ R,R=Own.Et o op:=⟨_,rfl⟩
 obtain⟨Q,hQ⟩:∃ Q,Q=Own.Dy w g o.count op ex mv av R:=⟨_,rfl⟩
 rw[<- hR,<- hQ]
 obtain⟨sa,sc,hsv⟩:=h.c.sp.slice
 subst hsv
 obtain⟨ka,kn,kc,hkv⟩:=Ac h.c.ks
 subst hkv
 obtain rfl:=Ba h.c.ks
 obtain⟨ma,mc,hmv⟩:=h.c.ms.len
 subst hmv
 obtain⟨aa,ac,hav,_⟩:=id h.A
 subst hav
 have hgl:=h.c.at_.lt
 have hln:=h.ok.len
 unfold Own.Et at hR
 have H:=zh h;have HR:=zh hR;have HQ:=zh hQ
 clear h hR hQ
 have hau:=fun W (hW:Below w.heap.size w W)=>FH o op.pre (.slice sa o.spaces.length sc) (.slice ka o.keys.length kc) W (H.out.c.spaces.below hW) hln (fun x hx=>by
  have:=H.out.ok.sp x hx
  unfold Own.AX Own.BI at this
  simp only[Bool.and_eq_true,decide_eq_true_eq] at this
  exact this.1.1.1.1.2)
 have HAU:=zh hau;clear hau
 have hr:=HR.out
 unfold Own.Fh Own.GA at hr
 rw[if_neg (show ¬ op.kind=0 by omega),if_neg (show ¬ op.kind=1 by omega),if_pos hk] at hr
 have HR2:=zh hr
 clear hr HR hk
 go_enter Tryz.func55,Tryz.ntmps55
 obtain⟨c0,c1,c2,c3,c4,c5,c6,c7,c8,c9,c10⟩:=Own.OY H.out.c.at_
 go_wp2
 refine Lex.zl ?_
 go_wp2_with fail
 refine(HAU.out _ ((Below.refl w.heap.size w).drew)).mono ?_
 rintro e w2 ⟨⟨i,rfl,eZ⟩,hb2⟩
 have B2:=zh (show Below w.heap.size w w2 from(Below.refl w.heap.size w).drew.trans hb2)
 have H2:=zh (H.out.below B2.out)
 clear hb2
 clear c0 c1 c2 c3 c4 c5 c6 c7 c8 c9 c10
 obtain⟨c0,c1,c2,c3,c4,c5,c6,c7,c8,c9,c10⟩:=Own.OY H2.out.c.at_
 have hix:=H2.out.ix
 rcases hix with ⟨hx,hxn,hxa⟩|⟨j,hj,hx,hxs,_,_⟩
 case inr=>
  have HE:=zh (show R=.error 5 by rw[HR2.out,hxs])
  have dj:decide ((0:Int)<=ex)=true:=zt
  clear hxs HR2 hx eZ
  go_wp2
  refine Lex.ze ?_
  go_wp2
  (try go_ret)
  rw[HQ.out,HE.out]
  exact⟨rfl,by decide,Fr.of_below B2.out⟩
 have dj:decide ((0:Int)<=ex)=false:=zf
 have hno:∀ y∈o.spaces,y.pre≠op.pre:=fun y hy=>of_decide_eq_false (hxa y hy)
 have HNO:=zh hno
 have hr:=HR2.out
 rw[hxn] at hr
 clear hxn hxa hno hx HR2
 rcases eZ with ⟨rfl,hbn⟩|⟨j,rfl,hj,hbs⟩
 case inl=>
  have HE:=zh (show R=.error 6 by rw[hr,hbn])
  clear hbn hr
  go_wp2
  refine Lex.ze ?_
  go_wp2
  (try go_ret)
  rw[HQ.out,HE.out]
  exact⟨rfl,by decide,Fr.of_below B2.out⟩
 have dn:decide ((j:Int)<0)=false:=zf
 rw[hbs] at hr
 by_cases h64:o.spaces.length=64
 ·have d64:((o.spaces.length:Int)==64)=true:=by rw[beq_iff_eq];omega
  have HE:=zh (show R=.error 7 by rw[hr];simp only[if_pos h64])
  clear hr h64 hbs
  go_wp2
  refine Lex.ze ?_
  go_wp2
  (try go_ret)
  rw[HQ.out,HE.out]
  exact⟨rfl,by decide,Fr.of_below B2.out⟩
 have d64:((o.spaces.length:Int)==64)=false:=by rw[beq_eq_false_iff_ne];omega
 have HE0:=zh (show R=match Own.AO o.spaces[j] (Own.AZ o op).1 o.keys op.Aa with
  | .error c=>.error c
  | .ok K=>.ok (Own.Dj Own.Space.pre (Own.AQ op) o.spaces,K) by rw[hr];simp only[if_neg h64])
 clear hr h64 hbs
 obtain⟨b,q,mv2,ha,hbl,e0,e1,e2,hmv⟩:=Own.BF.cells H2.out.c.spaces hj
 subst ha
 have hmo:=(Own.Da (H.out.ok.sp o.spaces[j] (List.getElem_mem hj))).l8
 obtain⟨ma2,mc2,rfl⟩:=hmv.len
 have HAP:=zh (H2.out.app o.spaces[j] _ hmv (by omega))
 obtain⟨S,hS⟩:∃ S,S=o.spaces[j]:=⟨_,rfl⟩
 simp only[<- hS] at e0 e1 e2 HAP HE0
 have B3:=B2
 clear hmv hS hmo
 go_wp2
 refine Lex.ze ?_
 go_wp2_with fail
 refine HAP.out.mono ?_
 clear c0 c1 c2 c3 c4 c5 c6 c7 c8 c9 c10
 clear e0 e1 e2
 intro e w4 hpost
 cases hap:Own.AO S (Own.AZ o op).1 o.keys op.Aa with
 | error c =>
   rw[hap] at hpost
   obtain⟨rfl,hb4⟩:=hpost
   have hc:=Own.Fp hap
   have HE:=zh (show R=.error c by rw[HE0.out,hap])
   have dz:(c==(0:Int))=false:=by rw[beq_eq_false_iff_ne];exact hc
   have HC:=zh hc;have B4:=zh (B3.out.trans (hb4.mono B3.out.size))
   clear hap hc hb4 HE0
   go_wp2
   (try go_ret)
   rw[HQ.out,HE.out]
   exact⟨rfl,HC.out,Fr.of_below B4.out⟩
 | ok L =>
   rw[hap] at hpost
   obtain⟨rfl,⟨sv4,kv4,us4,hc4⟩,hf4⟩:=hpost
   have HE:=zh (show R=.ok (Own.Dj Own.Space.pre (Own.AQ op) o.spaces,L) by rw[HE0.out,hap])
   have HI:=zh (H2.out.insert hc4 hf4 HNO.out H2.out.c.at_.lt)
   have HF4:=zh hf4
   clear hap hc4 hf4 HE0 HAP
   go_wp2_with fail
   refine HI.out.mono ?_
   rintro e w5 ⟨rfl,hd⟩
   have HD:=zh hd
   clear hd HI
   go_wp2
   (try go_ret)
   rw[HQ.out,HE.out]
   exact⟨rfl,Own.nI B3.out HF4.out HD.out⟩
end
section
open Go Go.RowKit Go.Maps
theorem Zl (B g:Nat)(o:Own.Ao)(op:Own.Op)(ex:Int)(sv kv mv av:Value)(us:List Value)(w:World)(h:Own.MIn B g o op ex sv kv mv av us w)(hk:op.kind=1):
 Calls Tryz.prog 54 #[.pointer (some ⟨g,0,none⟩)] w (Own.Dy w g o.count op ex mv av (Own.Et o op)):=by
 obtain⟨R,hR⟩:∃ R,R=Own.Et o op:=⟨_,rfl⟩
 obtain⟨Q,hQ⟩:∃ Q,Q=Own.Dy w g o.count op ex mv av R:=⟨_,rfl⟩
 rw[<- hR,<- hQ]
 obtain⟨sa,sc,hsv⟩:=h.c.sp.slice
 subst hsv
 obtain⟨ka,kn,kc,hkv⟩:=Ac h.c.ks
 subst hkv
 obtain rfl:=Ba h.c.ks
 obtain⟨ma,mc,hmv⟩:=h.c.ms.len
 subst hmv
 obtain⟨aa,ac,hav,_⟩:=id h.A
 subst hav
 have hgl:=h.c.at_.lt
 have hln:=h.ok.len
 unfold Own.Et at hR
 have H:=zh h;have HR:=zh hR;have HQ:=zh hQ
 clear h hR hQ
 have hr:=HR.out
 unfold Own.Fh Own.GA at hr
 rw[if_neg (show ¬ op.kind=0 by omega),if_pos hk] at hr
 have HR2:=zh hr
 clear hr HR hk
 go_enter Tryz.func54,Tryz.ntmps54
 obtain⟨c0,c1,c2,c3,c4,c5,c6,c7,c8,c9,c10⟩:=Own.OY H.out.c.at_
 have hix:=H.out.ix
 rcases hix with ⟨hx,hxn,_⟩|⟨j,hj,hx,hxs,hxp,_⟩
 case inl=>
  have HE:=zh (show R=.error 6 by rw[HR2.out,hxn])
  have dj:decide (ex<0)=true:=zt
  clear hxn HR2 hx
  go_wp2
  (try go_ret)
  rw[HQ.out,HE.out]
  exact⟨rfl,by decide,Fr.refl _ _⟩
 have dj:decide (ex<0)=false:=zf
 have hpre:o.spaces[j].pre=op.pre:=of_decide_eq_true hxp
 have HE0:=zh (show R=match Own.AO o.spaces[j] (Own.AZ o op).1 o.keys op.Aa with
  | .error c=>.error c
  | .ok K=>.ok (Own.Dj Own.Space.pre (Own.AQ op) o.spaces,K) by rw[HR2.out,hxs]<;>rfl)
 have zaW:=zh (Own.YK (f:=Own.Space.pre) H.out.ok.iG hj (Own.AQ op) hpre.symm)
 have HX:=zh hx
 clear hxs hxp hpre HR2 hx
 obtain⟨b,q,mv2,ha,hbl,e0,e1,e2,hmv⟩:=Own.BF.cells H.out.c.spaces hj
 subst ha
 have hmo:=(Own.Da (H.out.ok.sp o.spaces[j] (List.getElem_mem hj))).l8
 obtain⟨ma2,mc2,rfl⟩:=hmv.len
 have bO:=fun W (hW:Below w.heap.size w W)=>(H.out.below hW).app o.spaces[j] _ (hmv.below hW) (by omega)
 obtain⟨S,hS⟩:∃ S,S=o.spaces[j]:=⟨_,rfl⟩
 simp only[<- hS] at e0 e1 e2 bO HE0
 have HAP:=zh bO
 clear hmv hS hmo bO
 obtain rfl:ex=(j:Int):=HX.out
 clear HX
 go_wp2
 refine Lex.zl ?_
 go_wp2_with fail
 have B3:=zh ((Below.refl w.heap.size w).drew)
 refine(HAP.out _ B3.out).mono ?_
 clear c0 c1 c2 c3 c4 c5 c6 c7 c8 c9 c10
 clear e0 e1 e2
 intro e w4 hpost
 cases hap:Own.AO S (Own.AZ o op).1 o.keys op.Aa with
 | error c =>
   rw[hap] at hpost
   obtain⟨rfl,hb4⟩:=hpost
   have hc:=Own.Fp hap
   have HE:=zh (show R=.error c by rw[HE0.out,hap])
   have dz:(c==(0:Int))=false:=by rw[beq_eq_false_iff_ne];exact hc
   have HC:=zh hc;have B4:=zh (B3.out.trans (hb4.mono B3.out.size))
   clear hap hc hb4 HE0
   go_wp2
   refine Lex.ze ?_
   go_wp2
   (try go_ret)
   rw[HQ.out,HE.out]
   exact⟨rfl,HC.out,Fr.of_below B4.out⟩
 | ok L =>
   rw[hap] at hpost
   obtain⟨rfl,⟨sv4,kv4,us4,hc4⟩,hf4⟩:=hpost
   have HE:=zh (show R=.ok (o.spaces.set j (Own.AQ op),L) by rw[HE0.out,hap,<- zaW.out])
   have hc4:Own.Chg w.heap.size w4 g ⟨o.count,o.spaces,L⟩ op (j:Int) sv4 kv4 (.slice ma op.members.length mc) (.slice aa op.Aa.length ac) us4:=hc4
   have hf4:Fr (fun k=>k=g) w w4:=(show Fr (fun k=>k=g) w w.drew from Fr.of_below B3.out).trans hf4 (fun _ h=>.inl h)
   have hoc:=H.out.c.at_
   obtain⟨g4,cap4,hv4,Xd⟩:=Ct hc4.sp.row (show 0<o.spaces.length by omega)
   obtain⟨sa4,sc4,pR⟩:=hc4.sp.slice
   rw[hv4] at pR
   subst hv4
   obtain⟨ka4,kn4,kc4,nJ⟩:=Ac hc4.ks
   subst nJ
   have HC4:=zh hc4;have HF4:=zh hf4
   clear hap HE0 HAP pR hoc
   have nH:g<w4.heap.size:=HC4.out.at_.lt
   go_wp2
   refine Lex.ze ?_
   obtain⟨c0,c1,c2,c3,c4,c5,c6,c7,c8,c9,c10⟩:=Own.OY HC4.out.at_
   have Y1:=zh (zi c1)
   have Y10:=zh (zi c10)
   have hmz:=(Own.KD.of H.out.opk).ml
   have HCS:=zh (Ke g o.count (j:Int) _ _ _ _ op w4.drew (HC4.out.at_.drew) (HC4.out.GJ.below (Below.refl w4.heap.size w4).drew) (by omega))
   clear Xd hc4 hf4
   go_wp2
   refine Lex.zn (fun k=>k=g) [4,8] 11 [11] ?_
   simp only[Lex.Bp,zd]
   go_wp2_with fail
   refine HCS.out.mono ?_
   rintro e w5 ⟨v',rfl,hov,hb5⟩
   rw[Ez] at hov
   have B5:=zh (show Below w4.heap.size w4 w5 from(Below.refl w4.heap.size w4).drew.trans hb5)
   obtain⟨va,vm,vc,rfl⟩:=Ac hov
   have HC5:=zh (HC4.out.below B5.out);have HOV:=zh hov
   clear hov hb5 HCS
   clear c0 c1 c2 c3 c4 c5 c6 c7 c8 c9 c10
   go_wp2
   refine Lex.Mid.intro (fun k hk hkl=>by rw[hk];exact B5.out.block _ nH) ?_
   obtain⟨ys,q1,_,_,_,_,hxl⟩:=Gf HC5.out.sp.row
   have hget:=Own.Ra o.spaces us4 j hj (by rw[HC5.out.sp.len];exact hj)
   have gl:∀ c,c<3->w5.cell? ⟨g4,j*3+c,none⟩=(Own.encS o.spaces[j] (us4[j]'(by rw[HC5.out.sp.len];exact hj)))[c]? :=fun c hc=>by
    have e1:=q1.cell (j*3+c)
    have hlen:=Own.IW o.spaces us4 HC5.out.sp.len
    rw[e1,List.getElem?_toArray,List.getElem?_append_left (by rw[hlen];omega),hget c hc]
   have y0:=gl 0 (by omega);have y1:=gl 1 (by omega);have y2:=gl 2 (by omega)
   simp only[Own.encS,List.getElem?_cons_zero,List.getElem?_cons_succ,Nat.add_zero] at y0 y1 y2
   have x0:=q1.free (j*3);have x1:=q1.free (j*3+1);have x2:=q1.free (j*3+2)
   have HGL:=zh q1
   clear gl hget q1 hxl
   go_wp2
   refine Lex.zk ⟨⟨rfl,Y1.out⟩,⟨rfl,Y10.out⟩,trivial⟩ ?_
   go_wp2
   (try go_ret)
   have hne:g≠g4:=HC5.out.at_.ne HGL.out (by decide)
   have hz4:=HF4.out.size;have hz5:=B5.out.size
   have far:∀ k,k≠g4->(Own.Uf w5 g4 j (Own.AQ op) (.slice va vm vc)).heap[k]? = w5.heap[k]? :=fun k hk=>Own.Sq _ _ _ _ _ hk
   have hm5:Aq 2 Own.DU (fun k=>w.heap.size<=k/\k≠g4) w5 (.slice va vm vc) op.members:=
    Cq (enc:=Own.Cy) (fun _=>rfl) (fun _=>rfl) (Bc.own HOV.out) rfl (fun k hk=>⟨by have:=Ak HOV.out k hk;omega,fun e=>HGL.out.own_ne HOV.out (by decide) (by rw[hk,e])⟩)
   have hsp:=HC5.out.sp.put hj (Own.AQ op) (.slice va vm vc) (F:=fun k=>w.heap.size<=k) (fun _ h=>h) hm5
   have hks:=Ae (w':=Own.Uf w5 g4 j (Own.AQ op) (.slice va vm vc)) HC5.out.ks (fun k e=>far k (fun e2=>HGL.out.own_ne HC5.out.ks (by decide) (by rw[e,e2])))
   rw[HQ.out,HE.out]
   refine⟨rfl,⟨_,_,(show At (Own.Uf w5 g4 j (Own.AQ op) (.slice va vm vc)) g 87 _ from(far g hne).trans HC5.out.at_),hsp,?_⟩,?_⟩
   ·exact Cq (enc:=Own.Dw) (fun _=>rfl) (fun _=>rfl) (Bc.own hks) rfl (fun k hk=>Ak hks k hk)
   ·have hg4:w.heap.size<=g4:=Ak HC5.out.sp.row g4 rfl
    have f5:Fr (fun k=>k=g) w w5:=HF4.out.trans (Fr.of_below (F:=fun _=>False) B5.out) (fun _ h=>absurd h id)
    exact((f5.setCell (p:=⟨g4,j*3,none⟩) (.inr hg4) _).setCell (p:=⟨g4,j*3+1,none⟩) (.inr hg4) _).setCell (p:=⟨g4,j*3+2,none⟩) (.inr hg4) _
theorem Uh (x:Own.Member)(bm bc g:Nat)(mn pub:ByteArray)(w:World)(hm:w.cell? ⟨bm,0,none⟩=some (.string mn))(hc:w.cell? ⟨bc,0,none⟩=some (.pointer (some ⟨g,0,none⟩)))(hp:w.cell? ⟨g,8,none⟩=some (.string pub)):
 Calls Tryz.prog 112 (#[.agg #[.string x.name,.string x.pub]]++#[.pointer (some ⟨bm,0,none⟩),.pointer (some ⟨bc,0,none⟩)]) w fun e w' => e=.returned (.bool (!decide (x.name=mn)&&decide (x.pub=pub)))/\Below w.heap.size w w':=by
 obtain⟨R,hR⟩:∃ R,R=(!decide (x.name=mn)&&decide (x.pub=pub)):=⟨_,rfl⟩
 rw[<- hR]
 have hb1:Below w.heap.size w (w.alloc (.cells #[.string x.name,.string x.pub] 76)):=zb
 have qm:=(hb1.cell (p:=⟨bm,0,none⟩) (block_lt hm)).trans hm
 have qc:=(hb1.cell (p:=⟨bc,0,none⟩) (block_lt hc)).trans hc
 have qp:=(hb1.cell (p:=⟨g,8,none⟩) (block_lt hp)).trans hp
 have HB:=zh hb1
 clear hb1 hm hc hp
 show Calls Tryz.prog 112 #[.agg #[.string x.name,.string x.pub],.pointer (some ⟨bm,0,none⟩),.pointer (some ⟨bc,0,none⟩)] w _
 by_cases hn:x.name=mn
 ·have q1:(x.name.toList==mn.toList)=true:=by rw[bytes_beq];exact decide_eq_true hn
  have HE:=zh (show R=false by rw[hR,decide_eq_true hn];rfl)
  clear hn hR
  go_enter Tryz.func112,Tryz.ntmps112
  go_wp2
  refine Lex.zl ?_
  go_wp2
  refine Lex.ze ?_
  go_wp2
  go_ret
  exact⟨by rw[HE.out];rfl,HB.out.drew⟩
 have q1:(x.name.toList==mn.toList)=false:=by rw[bytes_beq];exact decide_eq_false hn
 by_cases hp2:x.pub=pub
 ·have q2:(x.pub.toList==pub.toList)=true:=by rw[bytes_beq];exact decide_eq_true hp2
  have HE:=zh (show R=true by rw[hR,decide_eq_false hn,decide_eq_true hp2];rfl)
  clear hn hR hp2
  go_enter Tryz.func112,Tryz.ntmps112
  go_wp2
  refine Lex.zl ?_
  go_wp2
  refine Lex.ze ?_
  go_wp2
  go_ret
  exact⟨by rw[HE.out];rfl,HB.out.drew⟩
 ·have q2:(x.pub.toList==pub.toList)=false:=by rw[bytes_beq];exact decide_eq_false hp2
  have HE:=zh (show R=false by rw[hR,decide_eq_false hn,decide_eq_false hp2];rfl)
  clear hn hR hp2
  go_enter Tryz.func112,Tryz.ntmps112
  go_wp2
  refine Lex.zl ?_
  go_wp2
  refine Lex.ze ?_
  go_wp2
  go_ret
  exact⟨by rw[HE.out];rfl,HB.out.drew⟩
theorem Ui (g:Nat)(lb:Array Value)(eg:∀ args w,(callFunc g args).run Tryz.prog w=.ok (.enter g args) w)(p:Own.Member->Bool)(v:Value)(l:List Own.Member)(w:World)(h:Own.Af w v l)(hl:l.length<=140737488355328)
 (hp:∀ (W:World) (x:Own.Member),Below w.heap.size w W->Calls Tryz.prog g (#[.agg #[.string x.name,.string x.pub]]++lb) W fun e w' => e=.returned (.bool (p x))/\Below W.heap.size W w'):
 Calls Tryz.prog 42 #[v,.func (.func g) #[] lb] w fun e w' => e=.returned (.bool (l.any p))/\Below w.heap.size w w':=by
 have HI:=zh (KV g lb eg p v l w h hl hp);clear h hp
 go_enter Tryz.func42,Tryz.ntmps42
 go_wp2_with fail
 refine HI.out.mono ?_
 rintro e w2 ⟨⟨i,rfl,hi⟩,hb⟩
 have HB:=zh hb;have HJ:=zh hi.any;clear hb hi
 go_wp2
 go_ret
 exact⟨by rw[<- HJ.out];rfl,HB.out⟩
namespace Own
def DZ (n pub:ByteArray)(k:Nat)(l:List Member):List Member:=KA n pub (l.take k)++l.drop k
theorem Iy (n pub:ByteArray)(k:Nat)(l:List Member):(DZ n pub k l).length=l.length:=by
 unfold DZ KA
 simp
 omega
theorem Zm (n pub:ByteArray)(k:Nat)(l:List Member)(hk:k<l.length)(h:k<(DZ n pub k l).length):(DZ n pub k l)[k]=l[k]:=by
 have e:(KA n pub (l.take k)).length=k:=by unfold KA;simp;omega
 have h2:(DZ n pub k l)[k]? = some l[k]:=by
  unfold DZ
  rw[List.getElem?_append_right (by omega),e,Nat.sub_self,List.getElem?_drop,Nat.add_zero,List.getElem?_eq_getElem hk]
 rw[List.getElem?_eq_getElem h] at h2
 exact Option.some.inj h2
theorem jq (n pub:ByteArray)(k:Nat)(l:List Member)(hk:k<l.length):DZ n pub (k+1) l=if l[k].name=n then (DZ n pub k l).set k ⟨l[k].name,pub⟩ else DZ n pub k l:=by
 have e:(KA n pub (l.take k)).length=k:=by unfold KA;simp;omega
 have h1:KA n pub (l.take (k+1))=KA n pub (l.take k)++[if l[k].name=n then ⟨l[k].name,pub⟩ else l[k]]:=by
  unfold KA
  rw[List.take_succ_eq_append_getElem hk,List.map_append,List.map_cons,List.map_nil]
 unfold DZ
 rw[h1]
 by_cases hn:l[k].name=n
 ·rw[if_pos hn,if_pos hn,List.set_append_right _ _ (by omega),e,Nat.sub_self,List.drop_eq_getElem_cons hk,List.set_cons_zero,List.append_assoc]
  rfl
 ·rw[if_neg hn,if_neg hn,List.append_assoc]
  conv=>rhs;rw[List.drop_eq_getElem_cons hk]
  rfl
end Own
theorem Xe (B g:Nat)(o:Own.Ao)(op:Own.Op)(ex:Int)(sv kv mv av:Value)(us:List Value)(w:World)(h:Own.MIn B g o op ex sv kv mv av us w)(hk:op.kind=4):
 Calls Tryz.prog 57 #[.pointer (some ⟨g,0,none⟩)] w (Own.Dy w g o.count op ex mv av (Own.Et o op)):=by
 obtain⟨R,hR⟩:∃ R,R=Own.Et o op:=⟨_,rfl⟩
 obtain⟨Q,hQ⟩:∃ Q,Q=Own.Dy w g o.count op ex mv av R:=⟨_,rfl⟩
 rw[<- hR,<- hQ]
 obtain⟨sa,sc,hsv⟩:=h.c.sp.slice
 subst hsv
 obtain⟨ka,kn,kc,hkv⟩:=Ac h.c.ks
 subst hkv
 obtain rfl:=Ba h.c.ks
 obtain⟨ma,mc,hmv⟩:=h.c.ms.len
 subst hmv
 obtain⟨aa,ac,hav,_⟩:=id h.A
 subst hav
 have hgl:=h.c.at_.lt
 have hln:=h.ok.len
 unfold Own.Et at hR
 have H:=zh h;have HR:=zh hR;have HQ:=zh hQ
 clear h hR hQ
 have hr:=HR.out
 unfold Own.Fh Own.GA at hr
 rw[if_neg (show ¬ op.kind=0 by omega),if_neg (show ¬ op.kind=1 by omega),if_neg (show ¬ op.kind=2 by omega),if_neg (show ¬ op.kind=3 by omega)] at hr
 have HR2:=zh hr
 clear hr HR hk
 have K1:=zh (show Au w _ [(84,#[.pointer (some ⟨g,0,none⟩)])] from((CY.nil w).push 84 #[.pointer (some ⟨g,0,none⟩)]).boxes)
 have H1:=zh (H.out.below K1.out.under)
 go_enter Tryz.func57,Tryz.ntmps57
 go_upto_region 1 with fail
 generalize (w.alloc (.cells #[.pointer (some ⟨g,0,none⟩)] 84))=w1 at*
 obtain⟨c0,c1,c2,c3,c4,c5,c6,c7,c8,c9,c10⟩:=Own.OY H1.out.c.at_
 have x00:w1.cell? ⟨w.heap.size,0,none⟩=some (.pointer (some ⟨g,0,none⟩)):=K1.out.cell 0 0 rfl rfl
 have hix:=H.out.ix
 rcases hix with ⟨hx,hxn,_⟩|⟨j,hj,hx,hxs,hxp,_⟩
 case inl=>
  have HE:=zh (show R=.error 6 by rw[HR2.out,hxn])
  have dj:decide (ex<0)=true:=zt
  clear hxn HR2 hx
  go_wp2
  (try go_ret)
  rw[HQ.out,HE.out]
  exact⟨rfl,by decide,Fr.of_below K1.out.under⟩
 have dj:decide (ex<0)=false:=zf
 have hpre:o.spaces[j].pre=op.pre:=of_decide_eq_true hxp
 have hr:=HR2.out
 rw[hxs] at hr
 have HX:=zh hx
 clear hxs hxp HR2 hx
 obtain⟨b,q,mv2,ha,hbl,e0,e1,e2,hmv⟩:=Own.BF.cells H1.out.c.spaces hj
 subst ha
 have hmk:=Own.Da (H.out.ok.sp o.spaces[j] (List.getElem_mem hj))
 have hmo:=hmk.l8
 obtain⟨ma2,mc2,rfl⟩:=hmv.len
 obtain⟨S,hS⟩:∃ S,S=o.spaces[j]:=⟨_,rfl⟩
 simp only[<- hS] at e0 e1 e2 hr hmv hmk hmo hpre
 have HMV:=zh hmv;have HS:=zh hS;have HR3:=zh hr;have HMK:=zh hmk;have TM:=zh hpre
 clear hmv hS hr hmk hpre
 obtain rfl:ex=(j:Int):=HX.out
 clear HX
 go_wp2
 refine Lex.zl ?_
 go_wp2
 refine Lex.ze ?_
 go_upto_region 4 with fail
 have T1:=zh (show Au w1 _ [(39,#[.string S.pre,.slice ma2 S.members.length mc2,.int .i64 S.threshold])] from((CY.nil w1).push 39 #[.string S.pre,.slice ma2 S.members.length mc2,.int .i64 S.threshold]).boxes)
 have T2:=zh T1.out.drew
 have bq:Below w1.heap.size w1 (w1.alloc (.cells #[.string S.pre,.slice ma2 S.members.length mc2,.int .i64 S.threshold] 39)).drew:=T2.out.under
 have K4:=zh (K1.out.step bq);have H4:=zh (H1.out.below bq);have tX:=zh (HMV.out.below bq);have BQ:=zh (K1.out.under.trans (bq.mono K1.out.under.size))
 clear c0 c1 c2 c3 c4 c5 c6 c7 c8 c9 c10
 clear bq T1 e0 e1 e2
 (try clear x00)
 generalize (w1.alloc (.cells #[.string S.pre,.slice ma2 S.members.length mc2,.int .i64 S.threshold] 39)).drew=wq at*
 obtain⟨c0,c1,c2,c3,c4,c5,c6,c7,c8,c9,c10⟩:=Own.OY H4.out.c.at_
 have x00:wq.cell? ⟨w.heap.size,0,none⟩=some (.pointer (some ⟨g,0,none⟩)):=K4.out.cell 0 0 rfl rfl
 obtain⟨t00,t01,t02⟩:=T2.out.Fw rfl
 have HMB:=zh (fun W (hW:Below wq.heap.size wq W)=>Nk S.pre S.threshold (.slice ma2 S.members.length mc2) S.members op.name W (tX.out.below hW) (by omega))
 refine Lex.EU (fun _=>False) [] [10] 12 [.pure 6,.call,.pure 3,.new] [1] (by kernel_rfl) (by kernel_rfl) (by kernel_rfl) ?_
 simp only[Lex.Iw,Lex.Bp,zd]
 go_wp2
 refine Lex.Oy.intro ?_
 intro w5 hg5
 have B5:=zh (show Below wq.heap.size wq w5 from(Below.refl wq.heap.size wq).drew.trans hg5)
 clear hg5
 (try clear x00)
 (try clear t00 t01 t02)
 clear c0 c1 c2 c3 c4 c5 c6 c7 c8 c9 c10
 go_wp2_with fail
 refine(HMB.out w5 B5.out).mono ?_
 intro e w6 hpost
 obtain⟨hval,hb6⟩:=hpost
 have HB6:=zh hb6;have B6:=zh (B5.out.trans (hb6.mono B5.out.size))
 clear hb6 B5 HMB
 cases hf:Own.find S.members op.name with
 | none =>
   rw[hf] at hval
   have hval:e=.returned (.tuple #[.agg #[.string ⟨#[]⟩,.string ⟨#[]⟩],.bool false]):=hval
   subst hval
   have HE:=zh (show R=.error 6 by rw[HR3.out,hf])
   clear hf
   go_wp2
   refine Lex.Ug.intro (fun j hj _=>absurd hj id) (Lex.Kept.of_below HB6.out) ?_
   go_wp2
   refine Lex.Oy.intro ?_
   intro w7 hw7
   go_wp2
   refine Lex.OA.intro (fun w8 hg8 hk8 ho8=>?_)
   have hs8:=hk8.at_
   have hl7:wq.heap.size<=w7.heap.size:=hw7
   obtain⟨g8,hgs⟩:∃ g,g=w7.heap.size:=⟨_,rfl⟩
   rw[<- hgs] at hs8 hl7
   have B8:=zh (B6.out.trans (hg8.mono B6.out.size));have GS8:=zh hs8
   rw[<- hgs]
   clear hg8 hk8 ho8 hs8 hgs hw7
   have s0:=GS8.out.cell 0;have s1:=GS8.out.cell 1;have s3:=GS8.out.free 0;have s4:=GS8.out.free 1
   simp only[zg] at s0 s1
   go_wp2
   refine Lex.Mid.intro (fun j hj _=>absurd hj id) ?_
   go_wp2
   refine Lex.zk trivial ?_
   clear s0 s1 s3 s4
   have b9:Below wq.heap.size wq ((w8.setCell ⟨g8,0,none⟩ (.string ⟨#[]⟩)).setCell ⟨g8,1,none⟩ (.string ⟨#[]⟩)):=(B8.out.setCell (p:=⟨g8,0,none⟩) hl7 _).setCell (p:=⟨g8,1,none⟩) hl7 _
   have at9:At ((w8.setCell ⟨g8,0,none⟩ (.string ⟨#[]⟩)).setCell ⟨g8,1,none⟩ (.string ⟨#[]⟩)) g8 76 #[(.string ⟨#[]⟩),(.string ⟨#[]⟩)]:=(GS8.out.set 0 (.string ⟨#[]⟩)).set 1 (.string ⟨#[]⟩)
   have B9:=zh b9;have A9:=zh at9
   clear b9 at9 B8 GS8 B6 HB6
   go_wp2
   (try go_ret)
   rw[HQ.out,HE.out]
   exact⟨rfl,by decide,Fr.of_below (BQ.out.trans (B9.out.mono BQ.out.size))⟩
 | some m =>
   rw[hf] at hval
   have hval:e=.returned (.tuple #[.agg #[.string m.name,.string m.pub],.bool true]):=hval
   subst hval
   have hmn:m.name=op.name:=by simpa using List.find?_some hf
   have HE1:=zh (show R=match (if S.members.any (fun x => !decide (x.name=m.name)&&decide (x.pub=op.pub)) then (.error 5:Except Int (Own.Space × List Own.Space)) else .ok (⟨S.pre,[m],1⟩,Own.Dj Own.Space.pre (Own.Wn S op.name op.pub) o.spaces)) with
    | .error c=>.error c
    | .ok (s,l) => match Own.AO s (Own.AZ o op).1 o.keys op.Aa with
      | .error c=>.error c
      | .ok K=>.ok (l,K) by rw[HR3.out,hf]<;>rfl)
   have HMN:=zh hmn
   clear hf hmn HR3
   go_wp2
   refine Lex.Ug.intro (fun j hj _=>absurd hj id) (Lex.Kept.of_below HB6.out) ?_
   go_wp2
   refine Lex.Oy.intro ?_
   intro w7 hw7
   go_wp2
   refine Lex.OA.intro (fun w8 hg8 hk8 ho8=>?_)
   have hs8:=hk8.at_
   have hl7:wq.heap.size<=w7.heap.size:=hw7
   obtain⟨g8,hgs⟩:∃ g,g=w7.heap.size:=⟨_,rfl⟩
   rw[<- hgs] at hs8 hl7
   have B8:=zh (B6.out.trans (hg8.mono B6.out.size));have GS8:=zh hs8
   rw[<- hgs]
   clear hg8 hk8 ho8 hs8 hgs hw7
   have s0:=GS8.out.cell 0;have s1:=GS8.out.cell 1;have s3:=GS8.out.free 0;have s4:=GS8.out.free 1
   simp only[zg] at s0 s1
   go_wp2
   refine Lex.Mid.intro (fun j hj _=>absurd hj id) ?_
   go_wp2
   refine Lex.zk trivial ?_
   clear s0 s1 s3 s4
   have b9:Below wq.heap.size wq ((w8.setCell ⟨g8,0,none⟩ (.string m.name)).setCell ⟨g8,1,none⟩ (.string m.pub)):=(B8.out.setCell (p:=⟨g8,0,none⟩) hl7 _).setCell (p:=⟨g8,1,none⟩) hl7 _
   have at9:At ((w8.setCell ⟨g8,0,none⟩ (.string m.name)).setCell ⟨g8,1,none⟩ (.string m.pub)) g8 76 #[(.string m.name),(.string m.pub)]:=(GS8.out.set 0 (.string m.name)).set 1 (.string m.pub)
   have B9:=zh b9;have A9:=zh at9
   clear b9 at9 B8 GS8 B6 HB6
   generalize (w8.setCell ⟨g8,0,none⟩ (.string m.name)).setCell ⟨g8,1,none⟩ (.string m.pub)=w9 at*
   have K9:=zh (K4.out.step B9.out);have H9:=zh (H4.out.below B9.out);have zx:=zh (tX.out.below B9.out);have T9:=zh (T2.out.step B9.out);have BQ9:=zh (BQ.out.trans (B9.out.mono BQ.out.size))
   clear K4 H4 tX T2 B9
   obtain⟨t00,t01,t02⟩:=T9.out.Fw rfl
   obtain⟨P,hP⟩:∃ P,P=S.members.any (fun x => !decide (x.name=m.name)&&decide (x.pub=op.pub)):=⟨_,rfl⟩
   have hcf:=Ui 112 #[.pointer (some ⟨g8,0,none⟩),.pointer (some ⟨w.heap.size,0,none⟩)] Tryz.call112 (fun x => !decide (x.name=m.name)&&decide (x.pub=op.pub)) (.slice ma2 S.members.length mc2) S.members w9 zx.out (by omega)
    (fun W x hW=>Uh x g8 w.heap.size g m.name op.pub W ((hW.cell (p:=⟨g8,0,none⟩) A9.out.lt).trans (A9.out.cell 0)) ((hW.cell (p:=⟨w.heap.size,0,none⟩) (K9.out.at1 0 rfl).lt).trans (K9.out.cell 0 0 rfl rfl)) ((hW.cell (p:=⟨g,8,none⟩) H9.out.c.at_.lt).trans (H9.out.c.at_.cell 8)))
   rw[<- hP] at hcf HE1
   have HCF:=zh hcf
   clear hcf hP
   go_wp2_with fail
   refine HCF.out.mono ?_
   rintro e w10 ⟨rfl,IY⟩
   have K10:=zh (K9.out.step IY);have H10:=zh (H9.out.below IY);have T10:=zh (T9.out.step IY);have pU:=zh (BQ9.out.trans (IY.mono BQ9.out.size));have A10:=zh (A9.out.below IY A9.out.lt)
   (try clear t00 t01 t02)
   clear IY K9 H9 zx T9 BQ9 A9 HCF
   cases P with
   | true =>
     have HE:=zh (show R=.error 5 by rw[HE1.out];rfl)
     go_wp2
     (try go_ret)
     rw[HQ.out,HE.out]
     exact⟨rfl,by decide,Fr.of_below pU.out⟩
   | false=>
   have HE0:=zh (show R=match Own.AO ⟨S.pre,[m],1⟩ (Own.AZ o op).1 o.keys op.Aa with
    | .error c=>.error c
    | .ok K=>.ok (Own.Dj Own.Space.pre (Own.Wn S op.name op.pub) o.spaces,K) by rw[HE1.out];rfl)
   clear HE1
   obtain⟨t00,t01,t02⟩:=T10.out.Fw rfl
   have x00:w10.cell? ⟨w.heap.size,0,none⟩=some (.pointer (some ⟨g,0,none⟩)):=K10.out.cell 0 0 rfl rfl
   obtain⟨a0,a1⟩:=A10.out.c2
   have Qb:Below w10.heap.size w10 (w10.alloc (.cells #[.string m.name,.string m.pub] 76)):=zb
   have hmem:Own.Af (w10.alloc (.cells #[.string m.name,.string m.pub] 76)) (.slice (some ⟨w10.heap.size,0,none⟩) 1 1) [m]:=Own.Af.of (Cx w10 76 #[.string m.name,.string m.pub] 2 1 1 rfl) rfl
   have HAP:=zh ((H10.out.below Qb).app ⟨S.pre,[m],1⟩ _ hmem (by simp))
   have B3:=zh (pU.out.trans (Qb.mono pU.out.size));have K11:=zh (K10.out.step Qb);have A11:=zh (A10.out.below Qb A10.out.lt);have HCG:=zh ((H10.out.below Qb).c.at_)
   clear Qb hmem
   go_wp2_with fail
   refine HAP.out.mono ?_
   generalize w10.alloc (.cells #[.string m.name,.string m.pub] 76)=w11 at*
   (try clear t00 t01 t02)
   (try clear x00)
   clear a0 a1 K10 H10 T10 pU A10
   intro e w4 hpost
   cases hap:Own.AO ⟨S.pre,[m],1⟩ (Own.AZ o op).1 o.keys op.Aa with
   | error c =>
     rw[hap] at hpost
     obtain⟨rfl,hb4⟩:=hpost
     have hc:=Own.Fp hap
     have HE:=zh (show R=.error c by rw[HE0.out,hap])
     have dz:(c==(0:Int))=false:=by rw[beq_eq_false_iff_ne];exact hc
     have HC:=zh hc;have B4:=zh (B3.out.trans (hb4.mono B3.out.size))
     clear hap hc hb4 HE0
     go_wp2
     (try go_ret)
     rw[HQ.out,HE.out]
     exact⟨rfl,HC.out,Fr.of_below B4.out⟩
   | ok L =>
     rw[hap] at hpost
     obtain⟨rfl,⟨sv4,kv4,us4,hc4⟩,hf4⟩:=hpost
     have hS:=HS.out
     have hput:Own.Dj Own.Space.pre (Own.Wn S op.name op.pub) o.spaces=o.spaces.set j (Own.GK o.spaces[j] (Own.DZ op.name op.pub S.members.length S.members)):=by
      rw[Own.YK (f:=Own.Space.pre) H.out.ok.iG hj (Own.Wn S op.name op.pub) (by rw[<- hS];rfl),<- hS]
      congr 1
      unfold Own.Wn Own.GK Own.DZ
      rw[List.take_length,List.drop_length,List.append_nil]
     have HE:=zh (show R=.ok (o.spaces.set j (Own.GK o.spaces[j] (Own.DZ op.name op.pub S.members.length S.members)),L) by rw[HE0.out,hap,<- hput])
     clear hap hput HE0 HAP
     have hju:j<us4.length:=by rw[hc4.sp.len];exact hj
     have Uj:=hc4.sp.GJ j hj hju
     have hm0:0<o.spaces[j].members.length:=by rw[<- hS];have:=HMK.out.l1;omega
     obtain⟨gm,zy,hvm,_⟩:=Ct Uj hm0
     obtain⟨g4,cap4,hv4,Xd⟩:=Ct hc4.sp.row (show 0<o.spaces.length by omega)
     have f1:=Xd (j*3+1) _ (Own.Ra o.spaces us4 j hj hju 1 (by omega))
     obtain⟨ka4,kn4,kc4,nJ⟩:=Ac hc4.ks
     subst hv4 nJ
     have hg8:g8≠g:=A11.out.ne HCG.out (by decide)
     have AK:=zh (hf4.at (K11.out.at1 0 rfl) (show ¬ w.heap.size+0=g by omega))
     have A4:=zh (hf4.at A11.out hg8)
     have HC4:=zh hc4;have HF4:=zh hf4
     rw[hvm,<- hS] at f1
     have HVM:=zh (show us4[j]=.slice (some ⟨gm,0,none⟩) S.members.length zy by rw[hvm,hS])
     have zb4:w11.heap.size<=gm:=Ak Uj gm (by rw[hvm];rfl)
     have zb5:gm≠g4:=fun e=>Ho Uj hc4.sp.row (by decide) gm (by rw[hvm];rfl) (by rw[e];rfl)
     have z8:gm≠g:=fun e=>hc4.at_.own_ne Uj (by decide) (by rw[hvm,e];rfl)
     have zaX:gm≠g8:=by have:=A11.out.lt;omega
     have zaY:gm≠w.heap.size:=by have:=(K11.out.at1 0 rfl).lt;omega
     have hxk:=AK.out.cell 0
     simp only[List.getElem?_toArray,List.getElem?_cons_zero,Nat.add_zero] at hxk
     obtain⟨c0,c1,c2,c3,c4,c5,c6,c7,c8,c9,c10⟩:=Own.OY HC4.out.at_
     clear hc4 hf4 Uj hm0 Xd hvm hS HCG K11 A11
     go_wp2
     refine Lex.zl ?_
     go_wp2
     refine Lex.ze ?_
     go_wp2_with fail
     clear c0 c1 c2 c3 c4 c5 c6 c7 c8 c9 c10
     clear f1 hxk
     go_loopw [64] (fun i wr=>∃ k:Nat,k<=S.members.length/\i=.int .i64 k/\Own.Ca w11.heap.size wr (.slice (some ⟨g4,0,none⟩) o.spaces.length cap4) (o.spaces.set j (Own.GK o.spaces[j] (Own.DZ op.name op.pub k S.members))) us4/\Fr (fun k=>k=gm) w4 wr) (fun i _=>S.members.length-(intOf i).toNat)
     case atStart=>
      refine⟨0,by omega,rfl,?_,(Fr.refl _ _).drew⟩
      have e:o.spaces.set j (Own.GK o.spaces[j] (Own.DZ op.name op.pub 0 S.members))=o.spaces:=by
       have e2:Own.GK o.spaces[j] (Own.DZ op.name op.pub 0 S.members)=o.spaces[j]:=by rw[HS.out];rfl
       rw[e2,List.set_getElem_self]
      rw[e]
      exact HC4.out.sp.below (Below.refl w4.heap.size w4).drew
     case round=>
      obtain⟨k,hk,rfl,hsp,hfr⟩:=hrel
      have SPR:=zh hsp;have FRR:=zh hfr
      by_cases hlt:k<S.members.length
      ·have dk:decide ((k:Int)<(S.members.length:Int))=true:=zt
       have Uj:=hsp.GJ j (by rw[List.length_set];exact hj) hju
       rw[List.getElem_set_self] at Uj
       have hmr:wr.ownsRow w11.heap.size 76 2 (.slice (some ⟨gm,0,none⟩) S.members.length zy) S.members.length ((Own.DZ op.name op.pub k S.members).flatMap Own.Cy):=by
        have h2:(Own.GK o.spaces[j] (Own.DZ op.name op.pub k S.members)).members.length=S.members.length:=Own.Iy _ _ _ _
        rw[h2,HVM.out] at Uj
        exact Uj
       have hkl:k<(Own.DZ op.name op.pub k S.members).length:=by rw[Own.Iy];exact hlt
       have hget:=Own.Zm op.name op.pub k S.members hlt hkl
       obtain⟨ys,q1,_,_,_,_,hxl⟩:=Gf hmr
       have jw:=Own.Vd (Own.DZ op.name op.pub k S.members)
       rw[Own.Iy] at jw
       have gl:∀ c,c<2->wr.cell? ⟨gm,k*2+c,none⟩=(Own.Cy S.members[k])[c]? :=fun c hc=>by
        rw[q1.cell,List.getElem?_toArray,List.getElem?_append_left (by rw[jw];omega),Own.Ve _ k hkl c hc,hget]
       have n0:=gl 0 (by omega);have n1:=gl 1 (by omega)
       simp only[Own.Cy,List.getElem?_cons_zero,List.getElem?_cons_succ,Nat.add_zero] at n0 n1
       have n2:=q1.free (k*2+1)
       have a0:=(hfr.at A4.out (fun e=>zaX e.symm)).cell 0
       have x0:=(hfr.at AK.out (fun e=>zaY (by omega))).cell 0
       have p8:=(hfr.at HC4.out.at_ (fun e=>z8 e.symm)).cell 8
       simp only[Own.DY,List.getElem?_toArray,List.getElem?_cons_zero,List.getElem?_cons_succ,Nat.add_zero] at a0 x0 p8
       have Zn:=Own.jq op.name op.pub k S.members hlt
       have HMR:=zh hmr
       obtain⟨nm,hnm⟩:∃ x,x=S.members[k].name:=⟨_,rfl⟩
       rw[<- hnm] at n0 Zn
       rw[<- HMN.out] at Zn
       clear gl q1 hmr Uj hxl jw hsp hfr
       by_cases hq:nm=m.name
       ·have q1:(nm.toList==m.name.toList)=true:=by rw[bytes_beq];exact decide_eq_true hq
        rw[if_pos hq] at Zn
        have hM:(Own.DZ m.name op.pub (k+1) S.members).flatMap Own.Cy=((Own.DZ m.name op.pub k S.members).flatMap Own.Cy).set (k*2+1) (.string op.pub):=by
         rw[Zn]
         have zA:k<(Own.DZ m.name op.pub k S.members).length:=by rw[Own.Iy];exact hlt
         have h3:=Own.Vf (Own.DZ m.name op.pub k S.members) k zA op.pub
         have h4:=Own.Zm m.name op.pub k S.members hlt zA
         rw[h4,<- hnm] at h3
         exact h3
        have HMM:=zh hM
        clear hq Zn hM hget hkl hnm
        go_wp2
        refine Lex.zl ?_
        go_wp2
        refine Lex.ze ?_
        go_wp2_with fail
        have f2:Fr (fun k=>k=gm) w4 (wr.setCell ⟨gm,k*2+1,none⟩ (.string op.pub)):=FRR.out.setCell (p:=⟨gm,k*2+1,none⟩) (.inl rfl) _
        refine⟨⟨k+1,by omega,by go_num,?_,f2.drew⟩,by simp[intOf];omega⟩
        have jw:=Own.Vd (Own.DZ op.name op.pub k S.members)
        rw[Own.Iy] at jw
        have o2:=Own.GH HMR.out (k*2+1) (by rw[jw];omega) (.string op.pub)
        rw[<- HMN.out,<- HMM.out,HMN.out] at o2
        have ht:=SPR.out.turn (i:=j) (by rw[List.length_set];exact hj) hju (M:=Own.DZ op.name op.pub (k+1) S.members) (w':=wr.setCell ⟨gm,k*2+1,none⟩ (.string op.pub)) (by rw[HVM.out,Own.Iy];exact o2) (fun k2 hk2=>zo (fun e=>hk2 (by rw[HVM.out,e];rfl)))
        have e2:(o.spaces.set j (Own.GK o.spaces[j] (Own.DZ op.name op.pub k S.members))).set j (Own.GK ((o.spaces.set j (Own.GK o.spaces[j] (Own.DZ op.name op.pub k S.members)))[j]'(by rw[List.length_set];exact hj)) (Own.DZ op.name op.pub (k+1) S.members))=o.spaces.set j (Own.GK o.spaces[j] (Own.DZ op.name op.pub (k+1) S.members)):=by
         rw[List.set_set,List.getElem_set_self]
         rfl
        have hl2:(o.spaces.set j (Own.GK o.spaces[j] (Own.DZ op.name op.pub k S.members))).length=o.spaces.length:=List.length_set
        rw[e2] at ht
        exact ht.below (Below.refl (wr.setCell ⟨gm,k*2+1,none⟩ (.string op.pub)).heap.size _).drew
       ·have q1:(nm.toList==m.name.toList)=false:=by rw[bytes_beq];exact decide_eq_false hq
        rw[if_neg hq] at Zn
        have HSU:=zh Zn
        clear hq Zn hget hkl hnm
        go_wp2
        refine Lex.zl ?_
        go_wp2
        refine Lex.ze ?_
        go_wp2_with fail
        refine⟨⟨k+1,by omega,by go_num,?_,FRR.out.drew⟩,by simp[intOf];omega⟩
        rw[<- HMN.out,HSU.out,HMN.out]
        exact SPR.out.below (Below.refl wr.heap.size wr).drew
      ·have dk:decide ((k:Int)<(S.members.length:Int))=false:=zf
       obtain rfl:k=S.members.length:=by omega
       clear hsp hfr
       go_wp2
       (try go_ret)
       have hz4:=HF4.out.size
       have oW:=B3.out.size
       have hks:=Ae HC4.out.ks (w':=wr) (fun k e=>FRR.out.keep k (Own.ET HC4.out.ks k e) (fun e2=>Ho HC4.out.ks (HC4.out.sp.GJ j hj hju) (by decide) k e (by rw[HVM.out,e2];rfl)))
       rw[HQ.out,HE.out]
       refine⟨rfl,⟨_,_,FRR.out.at HC4.out.at_ (fun e=>z8 e.symm),?_,?_⟩,?_⟩
       ·exact SPR.out.list (fun k hk=>by omega)
       ·exact Cq (enc:=Own.Dw) (fun _=>rfl) (fun _=>rfl) (Bc.own hks) rfl (fun k hk=>by have:=Ak hks k hk;omega)
       ·have f1:Fr (fun k=>k=g) w w11:=Fr.of_below B3.out
        exact(f1.trans HF4.out (fun k hk=>.inl hk)).trans FRR.out (fun k hk=>.inr (by omega))
section
variable {P:Program} {w:World} {ops:Array Oper} {rest:List Oper} {o:Oper} {a:Act} {Q:Exit->Act->World->Prop}
theorem Kg {t e:TypeId}{size bytes:Nat}(T:Nonempty (Fu P t e size bytes))(hgd:o.guard=none)(s x:Operand)(ho:o.op=.call { callee:=.builtin .append,args:=#[s,x],argTypes:=#[t,t] })
 (g n cap:Nat) (sb so m c:Nat) (hs:a.eval s=.slice (some ⟨g,0,none⟩) n cap) (hx:a.eval x=.slice (some ⟨sb,so,none⟩) m c)
 (cur:List Value) (hg:At w g e cur.toArray) (cs:List Value) (hl:cs.length=m*size)
 (hsrc:∀ (j:Nat) (v:Value),cs[j]? = some v->w.cell? ⟨sb,so+j,none⟩=some v) (h1:∀ v∈cs,v.oneCell' = true)
 (hroom:n+m<=cap) (hfit:n*size+cs.length<=cur.length)
 (h:∀ w',At w' g e (cur.take (n*size)++(cs++cur.drop (n*size+cs.length))).toArray->w.grownBy w' (some g)->w'.heap.size=w.heap.size->wpList P ops Q rest (a.put o.dst (.slice (some ⟨g,0,none⟩) (n+m) cap)) w'):wpList P ops Q (o::rest) a w:=by
 obtain⟨T⟩:=T
 have hrun:=run_append_room (P:=P) w t o.type e T.i T.under T.info g n cap cur.toArray hg ⟨sb,so,none⟩ m c cs (by rw[T.Rk];exact hl) (fun j v hj=>by
  have hadd:(⟨sb,so,none⟩:Addr).add j=⟨sb,so+j,none⟩:=by unfold Addr.add;split<;>simp_all
  rw[hadd];exact hsrc j v hj) h1 hroom (by rw[T.Rk];simpa using hfit)
 rw[T.Rk] at hrun
 refine Lib.wpList_append_run w hgd s x t t ho _ _ hs hx _ _ hrun ?_
 refine h _ ?_ ⟨rfl,rfl,rfl,by simp[World.setRow],fun k _ hne=>setRow_other w g k _ (fun e=>hne (by rw[e]))⟩ (by simp[World.setRow])
 have:=At.setRow hg (cur.take (n*size)++(cs++cur.drop (n*size+cs.length))).toArray
 simpa [List.append_assoc] using this
theorem Nw {t e:TypeId}{z:Value}{size:Nat}(ht:P.underlying t=some (.slice e))(hi:(P.info? e).map (fun i=>i.zero)=some (some z))(hzs:z.cells.toList.length=size)(hz1:∀ v∈z.cells.toList,v.oneCell' = true)
 (hgd:o.guard=none) (s:Operand) (ho:o.op=.call { callee:=.builtin .clear,args:=#[s],argTypes:=#[t] })
 (g off c:Nat) (hs:a.eval s=.slice (some ⟨g,off,none⟩) 1 c) (cur:List Value) (hg:At w g e cur.toArray) (hfit:off+size<=cur.length)
 (h:∀ w',At w' g e (cur.take off++(z.cells.toList++cur.drop (off+size))).toArray->w.grownBy w' (some g)->w'.heap.size=w.heap.size->wpList P ops Q rest (a.put o.dst (.tuple #[])) w'):wpList P ops Q (o::rest) a w:=by
 have hzv:∀ w,(zeroValue e).run P w=.ok z w:=fun w=>by
  cases hq:P.info? e with
  | none=>rw[hq] at hi;cases hi
  | some i =>
    have hz:i.zero=some z:=by simpa [hq] using hi
    simp[zeroValue,typeInfo,hq,hz]
 have hzc:(Builtin.zeroCells z.cells 1).toList=z.cells.toList:=by
  simp[Builtin.zeroCells]
  apply List.ext_getElem
  ·simp
  ·intro i h1 h2
   simp at h1 h2
   simp only[List.getElem_map,List.getElem_range,Nat.mod_eq_of_lt h2,Array.getElem_toList]
   exact getElem!_pos z.cells i h2
 have hst:=run_storeCells_at P g off e z.cells.toList 0 cur.toArray w hg (by rw[hzs];simpa using hfit) hz1
 have hrun:(Builtin.clear_ #[t] o.type #[.slice (some ⟨g,off,none⟩) 1 c]).run P w=.ok (.tuple #[]) (w.setRow g (cur.take off++(z.cells.toList++cur.drop (off+size))).toArray):=by
  simp only[Nat.add_zero,hzs] at hst
  simp[Builtin.clear_,run_underlying ht,hzv,hzc,hst]
 refine wpList_plain hgd fun K hK=>?_
 unfold Oper.wp
 simp[execOp,ho,resolve,invoke,builtin,hs,hrun,Result.andThen]
 refine hK _ _ (h _ (by simpa using At.setRow hg _) ⟨rfl,rfl,rfl,by simp[World.setRow],fun k _ hne=>setRow_other w g k _ (fun e=>hne (by rw[e]))⟩ (by simp[World.setRow]))
end
end
section
open Go Go.RowKit Go.Maps
theorem Uk (base n i j:Nat)(v:Value)(xs:List Value)(w:World)(ho:w.ownsRow base 39 3 v n xs)(h1:∀ u∈xs,u.oneCell' = true)(hij:i<j)(hji:j<=i+1)(hjn:j<=n)(hn:n<=3000000):
 Calls Tryz.prog 110 #[v,.int .i64 i,.int .i64 j] w fun e w' => ∃ v',e=.returned v' /\ w'.ownsRow base 39 3 v' (n-1) (xs.take (i*3)++xs.drop (j*3))/\w.grownBy w' v.ownBlock/\v'.ownBlock=v.ownBlock:=by
 obtain⟨q,rfl⟩:∃ q,n=q+1:=⟨n-1,by omega⟩
 have H1:=zh h1
 clear h1
 go_enter Tryz.func110,Tryz.ntmps110
 obtain⟨a,m,c,rfl⟩:=Ac ho
 obtain rfl:=Ba ho
 obtain⟨g,rfl⟩:∃ g,a=some ⟨g,0,none⟩:=by
  rcases ho.2 with ⟨h0,h5⟩|⟨g,cap,cur,h0,_⟩
  ·omega
  ·cases h0;exact⟨g,rfl⟩
 obtain⟨ys,hat,hbg,hmc,hcm,hcl,hxl⟩:=Gf ho
 have Nl:At w.drew g 39 (xs++ys).toArray:=hat
 have hcs:(xs.drop (j*3)).length=(q+1-j)*3:=by rw[List.length_drop,hxl];omega
 have hsrc:∀ so,(so=j*3\/q+1=j)->∀ (l:Nat) (u:Value),(xs.drop (j*3))[l]? = some u->w.drew.cell? ⟨g,so+l,none⟩=some u:=fun so hso l u hl=>by
  have hlt:=(List.getElem?_eq_some_iff.1 hl).1
  rw[hcs] at hlt
  rcases hso with rfl|e
  ·show w.cell? ⟨g,j*3+l,none⟩=some u
   rw[hat.cell]
   rw[List.getElem?_drop] at hl
   simp[List.getElem?_append_left (List.getElem?_eq_some_iff.1 hl).1,hl]
  ·omega
 have hfit:i*3+(xs.drop (j*3)).length<=(xs++ys).length:=by rw[hcs,hcl];omega
 obtain⟨C5,hC5⟩:∃ C5,C5=(xs++ys).take (i*3)++(xs.drop (j*3)++(xs++ys).drop (i*3+(xs.drop (j*3)).length)):=⟨_,rfl⟩
 have hl5:C5.length=c*3:=by rw[hC5];simp only[List.length_append,List.length_take,List.length_drop] at hcl hcs ⊢;omega
 have ht5:C5.take (q*3)=xs.take (i*3)++xs.drop (j*3):=by
  have e0:(xs++ys).take (i*3)=xs.take (i*3):=List.take_append_of_le_length (by omega)
  have e4:q*3=(xs.take (i*3)).length+((xs.drop (j*3)).length+0):=by rw[List.length_take,hxl,hcs];omega
  rw[hC5,e0,e4,List.take_length_add_append,List.take_length_add_append,List.take_zero,List.append_nil]
 have hf5:q*3+3<=C5.length:=by rw[hl5];omega
 have hl6:(C5.take (q*3)++((Value.agg #[.string ⟨#[]⟩,.slice none 0 0,.int .i64 0]).cells.toList++C5.drop (q*3+3))).length=c*3:=by
  have:(Value.agg #[.string ⟨#[]⟩,.slice none 0 0,.int .i64 0]).cells.toList.length=3:=by decide
  simp only[List.length_append,List.length_take,List.length_drop,this,hl5]
  omega
 have ht6:(C5.take (q*3)++((Value.agg #[.string ⟨#[]⟩,.slice none 0 0,.int .i64 0]).cells.toList++C5.drop (q*3+3))).take (q*3)=xs.take (i*3)++xs.drop (j*3):=by
  rw[List.take_append_of_le_length (by rw[List.length_take];omega),List.take_take,Nat.min_self,ht5]
 have TU:=zh Nl;have HCS:=zh hcs;have zB:=zh hfit;have HC5:=zh hC5;have HF5:=zh hf5;have HL6:=zh hl6;have HT6:=zh ht6
 have de:((i:Int)==(j:Int))=false:=by rw[beq_eq_false_iff_ne];omega
 have ci:¬ q+1=i:=by omega
 have cq:¬ c=q:=by omega
 clear ho hat Nl hcs hfit hC5 hl5 ht5 hf5 hl6 ht6
 by_cases hcj:c=j
 ·obtain rfl:q+1=j:=by omega
  have Sb:=zh (hsrc 0 (.inr rfl))
  clear hsrc
  subst hcj
  go_wp2
  refine Lex.zl ?_
  go_wp2_with (at_builtin;go_must (refine Kg DW rfl _ _ rfl g i (q+1) g (0) (0) (0) (by rfl) (by rfl) (xs++ys) TU.out (xs.drop ((q+1)*3)) (by have:=HCS.out;omega) Sb.out (fun u hu=>H1.out u (List.mem_of_mem_drop hu)) (by omega) zB.out ?_);intro w5 En hg5 hz5;rw[<- HC5.out] at En;rw[show i+(0)=q by omega];have GD:=zh En;have HG5:=zh hg5;clear En hg5 hz5)
  refine Lex.ze ?_
  go_wp2_with (refine Nw (z:=.agg #[.string ⟨#[]⟩,.slice none 0 0,.int .i64 0]) (size:=3) Tryz.underlying22 (by kernel_rfl) (by decide) (by decide) rfl _ rfl g (q*3) (1) (by rfl) C5 GD.out HF5.out ?_;intro w6 Di hg6 hz6;have Eu:=zh Di;have HG6:=zh hg6;clear Di hg6 hz6)
  go_wp2
  go_ret
  exact⟨_,rfl,D8 Eu.out hbg (by omega) hcm HL6.out HT6.out,⟨HG6.out.os.trans HG5.out.os,HG6.out.tape.trans HG5.out.tape,HG6.out.output.trans HG5.out.output,Nat.le_trans HG5.out.size HG6.out.size,fun k hk hk2=>(HG6.out.block k (Nat.lt_of_lt_of_le hk HG5.out.size) hk2).trans (HG5.out.block k hk hk2)⟩,rfl⟩
 ·have Sb:=zh (hsrc (j*3) (.inl rfl))
  clear hsrc
  go_wp2
  refine Lex.zl ?_
  go_wp2_with (at_builtin;go_must (refine Kg DW rfl _ _ rfl g i (c) g (j*3) (q+1-j) (c-j) (by rfl) (by rfl) (xs++ys) TU.out (xs.drop ((j)*3)) (by have:=HCS.out;omega) Sb.out (fun u hu=>H1.out u (List.mem_of_mem_drop hu)) (by omega) zB.out ?_);intro w5 En hg5 hz5;rw[<- HC5.out] at En;rw[show i+(q+1-j)=q by omega];have GD:=zh En;have HG5:=zh hg5;clear En hg5 hz5)
  refine Lex.ze ?_
  go_wp2_with (refine Nw (z:=.agg #[.string ⟨#[]⟩,.slice none 0 0,.int .i64 0]) (size:=3) Tryz.underlying22 (by kernel_rfl) (by decide) (by decide) rfl _ rfl g (q*3) (c-q) (by rfl) C5 GD.out HF5.out ?_;intro w6 Di hg6 hz6;have Eu:=zh Di;have HG6:=zh hg6;clear Di hg6 hz6)
  go_wp2
  go_ret
  exact⟨_,rfl,D8 Eu.out hbg (by omega) hcm HL6.out HT6.out,⟨HG6.out.os.trans HG5.out.os,HG6.out.tape.trans HG5.out.tape,HG6.out.output.trans HG5.out.output,Nat.le_trans HG5.out.size HG6.out.size,fun k hk hk2=>(HG6.out.block k (Nat.lt_of_lt_of_le hk HG5.out.size) hk2).trans (HG5.out.block k hk hk2)⟩,rfl⟩
theorem Ul (B g:Nat)(o:Own.Ao)(op:Own.Op)(ex:Int)(sv kv mv av:Value)(us:List Value)(w:World)(h:Own.MIn B g o op ex sv kv mv av us w)(hk:op.kind=3):
 Calls Tryz.prog 56 #[.pointer (some ⟨g,0,none⟩)] w (Own.Dy w g o.count op ex mv av (Own.Et o op)):=by
 obtain⟨R,hR⟩:∃ R,R=Own.Et o op:=⟨_,rfl⟩
 obtain⟨Q,hQ⟩:∃ Q,Q=Own.Dy w g o.count op ex mv av R:=⟨_,rfl⟩
 rw[<- hR,<- hQ]
 obtain⟨sa,sc,hsv⟩:=h.c.sp.slice
 subst hsv
 obtain⟨ka,kn,kc,hkv⟩:=Ac h.c.ks
 subst hkv
 obtain rfl:=Ba h.c.ks
 obtain⟨ma,mc,hmv⟩:=h.c.ms.len
 subst hmv
 obtain⟨aa,ac,hav,_⟩:=id h.A
 subst hav
 have hgl:=h.c.at_.lt
 have hln:=h.ok.len
 unfold Own.Et at hR
 have H:=zh h;have HR:=zh hR;have HQ:=zh hQ
 clear h hR hQ
 have hr:=HR.out
 unfold Own.Fh Own.GA at hr
 rw[if_neg (show ¬ op.kind=0 by omega),if_neg (show ¬ op.kind=1 by omega),if_neg (show ¬ op.kind=2 by omega),if_pos hk] at hr
 have HR2:=zh hr
 clear hr HR hk
 go_enter Tryz.func56,Tryz.ntmps56
 obtain⟨c0,c1,c2,c3,c4,c5,c6,c7,c8,c9,c10⟩:=Own.OY H.out.c.at_
 have hix:=H.out.ix
 rcases hix with ⟨hx,hxn,_⟩|⟨j,hj,hx,hxs,hxp,_⟩
 case inl=>
  have HE:=zh (show R=.error 6 by rw[HR2.out,hxn])
  have dj:decide (ex<0)=true:=zt
  clear hxn HR2 hx
  go_wp2
  (try go_ret)
  rw[HQ.out,HE.out]
  exact⟨rfl,by decide,Fr.refl _ _⟩
 have dj:decide (ex<0)=false:=zf
 have hpre:o.spaces[j].pre=op.pre:=of_decide_eq_true hxp
 have HE0:=zh (show R=match Own.AO o.spaces[j] (Own.AZ o op).1 o.keys op.Aa with
  | .error c=>.error c
  | .ok K=>.ok (Own.Na o.spaces op.pre,K) by rw[HR2.out,hxs]<;>rfl)
 have zC:=zh (show Own.Na o.spaces op.pre=o.spaces.take j++o.spaces.drop (j+1) by rw[<- hpre];exact Own.drop_at H.out.ok.iG hj)
 have HX:=zh hx
 clear hxs hxp hpre HR2 hx
 obtain⟨b,q,mv2,ha,hbl,e0,e1,e2,hmv⟩:=Own.BF.cells H.out.c.spaces hj
 subst ha
 have hmo:=(Own.Da (H.out.ok.sp o.spaces[j] (List.getElem_mem hj))).l8
 obtain⟨ma2,mc2,rfl⟩:=hmv.len
 have bO:=fun W (hW:Below w.heap.size w W)=>(H.out.below hW).app o.spaces[j] _ (hmv.below hW) (by omega)
 obtain⟨S,hS⟩:∃ S,S=o.spaces[j]:=⟨_,rfl⟩
 simp only[<- hS] at e0 e1 e2 bO HE0
 have HAP:=zh bO
 clear hmv hS hmo bO
 obtain rfl:ex=(j:Int):=HX.out
 clear HX
 go_wp2
 refine Lex.zl ?_
 go_wp2_with fail
 have B3:=zh ((Below.refl w.heap.size w).drew)
 refine(HAP.out _ B3.out).mono ?_
 clear c0 c1 c2 c3 c4 c5 c6 c7 c8 c9 c10
 clear e0 e1 e2
 intro e w4 hpost
 cases hap:Own.AO S (Own.AZ o op).1 o.keys op.Aa with
 | error c =>
   rw[hap] at hpost
   obtain⟨rfl,hb4⟩:=hpost
   have hc:=Own.Fp hap
   have HE:=zh (show R=.error c by rw[HE0.out,hap])
   have dz:(c==(0:Int))=false:=by rw[beq_eq_false_iff_ne];exact hc
   have HC:=zh hc;have B4:=zh (B3.out.trans (hb4.mono B3.out.size))
   clear hap hc hb4 HE0
   go_wp2
   refine Lex.ze ?_
   go_wp2
   (try go_ret)
   rw[HQ.out,HE.out]
   exact⟨rfl,HC.out,Fr.of_below B4.out⟩
 | ok L =>
   rw[hap] at hpost
   obtain⟨rfl,⟨sv4,kv4,us4,hc4⟩,hf4⟩:=hpost
   have HE:=zh (show R=.ok (o.spaces.take j++o.spaces.drop (j+1),L) by rw[HE0.out,hap,<- zC.out])
   have hc4:Own.Chg w.heap.size w4 g ⟨o.count,o.spaces,L⟩ op (j:Int) sv4 kv4 (.slice ma op.members.length mc) (.slice aa op.Aa.length ac) us4:=hc4
   have hf4:Fr (fun k=>k=g) w w4:=(show Fr (fun k=>k=g) w w.drew from Fr.of_below B3.out).trans hf4 (fun _ h=>.inl h)
   obtain⟨sa4,sc4,pR⟩:=hc4.sp.slice
   subst pR
   obtain⟨ka4,kn4,kc4,nJ⟩:=Ac hc4.ks
   subst nJ
   have HC4:=zh hc4;have HF4:=zh hf4
   have hrow:w4.drew.ownsRow w.heap.size 39 3 (.slice sa4 o.spaces.length sc4) o.spaces.length (Own.Az o.spaces us4):=hc4.sp.row
   have hd:=Uk w.heap.size o.spaces.length j (j+1) _ _ w4.drew hrow (Own.rF hc4.sp) (by omega) (by omega) (by omega) (by omega)
   rw[show((j+1:Nat):Int)=(j:Int)+1 by omega] at hd
   have HD:=zh hd
   clear hap HE0 HAP hd hrow hc4 hf4
   go_wp2
   refine Lex.ze ?_
   obtain⟨c0,c1,c2,c3,c4,c5,c6,c7,c8,c9,c10⟩:=Own.OY HC4.out.at_
   go_wp2
   refine Lex.zl ?_
   go_wp2_with fail
   refine HD.out.mono ?_
   rintro e w5 ⟨v5,rfl,ho5,hg5,hv5⟩
   clear c0 c1 c2 c3 c4 c5 c6 c7 c8 c9 c10
   obtain⟨wa,wm,wc,rfl⟩:=Ac ho5
   have nH:g<w4.heap.size:=HC4.out.at_.lt
   have nG:=HC4.out.at_.own_ne HC4.out.sp.row (by decide)
   have En:At w5 g 87 _:=(hg5.block g nH (fun e=>nG e.symm)).trans HC4.out.at_
   have AT5:=zh En;have HO5:=zh ho5;have HG5:=zh hg5;have HV5:=zh hv5
   clear ho5 hg5 En hv5 HD nG
   obtain⟨c0,c1,c2,c3,c4,c5,c6,c7,c8,c9,c10⟩:=Own.OY AT5.out
   have z1:=AT5.out.free 1
   go_wp2
   refine Lex.ze ?_
   go_wp2
   (try go_ret)
   have hz4:=HF4.out.size
   have jm:∀ k,k<w4.heap.size->(Value.slice sa4 o.spaces.length sc4).ownBlock≠some k->w5.heap[k]? = w4.heap[k]? :=fun k hk e=>HG5.out.block k hk (fun e2=>e e2.symm)
   have bN:=Ae (w':=w5) HC4.out.ks (fun k e=>jm k (Own.ET HC4.out.ks k e) (fun e2=>Ho HC4.out.ks HC4.out.sp.row (by decide) k e e2))
   have iQ:=HC4.out.sp.del (w':=w5) (v':=.slice wa wm wc) hj HO5.out jm (F:=fun k=>w.heap.size<=k) (fun _ h=>h) (fun k e=>Ak HO5.out k e)
   have far:∀ k,w.heap.size<=k->(w5.setCell ⟨g,1,none⟩ (.slice wa wm wc)).heap[k]? = w5.heap[k]? :=fun k hk=>zo (by show k≠g;omega)
   rw[HQ.out,HE.out]
   refine⟨rfl,⟨_,_,AT5.out.set 1 _,?_,?_⟩,?_⟩
   ·exact iQ.keep (by simp[World.setCell]) (fun k hk _=>far k hk)
   ·exact Cq (enc:=Own.Dw) (fun _=>rfl) (fun _=>rfl) (Bc.own (Ae bN (fun k e=>far k (Ak bN k e)))) rfl (fun k hk=>Ak bN k hk)
   ·exact(HF4.out.grown (show w4.grownBy w5 (Value.slice sa4 o.spaces.length sc4).ownBlock from⟨HG5.out.os,HG5.out.tape,HG5.out.output,HG5.out.size,HG5.out.block⟩) (fun k e=>.inr (Ak HC4.out.sp.row k e))).setCell (p:=⟨g,1,none⟩) (.inl rfl) _
theorem Xf (g:Nat)(lb:Array Value)(eg:∀ args w,(callFunc g args).run Tryz.prog w=.ok (.enter g args) w)(p:Own.Space->Bool)(v:Value)(l:List Own.Space)(w:World)(h:Own.BF w v l)(hl:l.length<=140737488355328)
 (hp:∀ (W:World) (x:Own.Space) (ma:Option Addr) (mc:Nat),Below w.heap.size w W->Calls Tryz.prog g (#[.agg #[.string x.pre,.slice ma x.members.length mc,.int .i64 x.threshold]]++lb) W fun e w' => e=.returned (.bool (p x))/\Below W.heap.size W w'):
 Calls Tryz.prog 51 #[v,.func (.func g) #[] lb] w fun e w' => (∃ i,e=.returned (.int .i64 i)/\Own.Idx p l i)/\Below w.heap.size w w':=by
 obtain⟨a,c,rfl⟩:=h.len
 have HL:=zh h;have HP:=zh hp;clear h hp
 go_enter Tryz.func51,Tryz.ntmps51
 go_wp2
 go_loopw [8] (fun i wr=>∃ k:Nat,∃ hk:k<=l.length,i=.int .i64 k/\(∀ j (hj:j<k),p (l[j]'(by omega))=false)/\Below w.heap.size w wr) (fun i _=>l.length-(intOf i).toNat)
 case atStart=>exact⟨0,by omega,rfl,(fun j hj=>absurd hj (by omega)),Below.refl _ _⟩
 case round=>
  obtain⟨k,hk,rfl,hn,hb⟩:=hrel
  have HBW:=zh hb;have HN:=zh hn
  by_cases hlt:k<l.length
  case neg=>
   have hke:k=l.length:=by omega
   have dk:decide ((k:Int)<l.length)=false:=zf
   have hix:=Own.Idx.miss (p:=p) (l:=l) (fun j hj=>hn j (by omega))
   have HIX:=zh hix
   clear hix hke hb hn
   go_wp2
   go_ret
   exact⟨⟨_,rfl,HIX.out⟩,HBW.out⟩
  have dk:decide ((k:Int)<l.length)=true:=zt
  obtain⟨b,o,mv,ha,hbl,e0,e1,e2,hmv⟩:=Own.BF.cells (HL.out.below hb) hlt
  subst ha
  obtain⟨ma,mc,rfl⟩:=hmv.len
  have hcall:=HP.out wr l[k] ma mc hb
  obtain⟨mn,hmn⟩:∃ x,x=l[k].members.length:=⟨_,rfl⟩
  obtain⟨pr,hpr⟩:∃ x,x=l[k].pre:=⟨_,rfl⟩
  obtain⟨th,hth⟩:∃ x,x=l[k].threshold:=⟨_,rfl⟩
  rw[<- hmn] at e1 hcall
  rw[<- hpr] at e0 hcall
  rw[<- hth] at e2 hcall
  clear hb hn hmn hpr hth hmv
  cases hq:p l[k] with
  | true =>
    rw[hq] at hcall
    have hix:=Own.Idx.hit hlt hq (HN.out)
    have HIX:=zh hix
    clear hix hq
    go_wp2_with (go_at_fn g;refine hcall.mono ?_;rintro e w' ⟨rfl,hb'⟩)
    go_ret
    exact⟨⟨_,rfl,HIX.out⟩,HBW.out.trans (hb'.mono HBW.out.size)⟩
  | false =>
    rw[hq] at hcall
    have hn2:∀ j (hj:j<k+1),p (l[j]'(by omega))=false:=fun j hj=>by
     by_cases e:j=k
     ·subst e;exact hq
     ·exact HN.out j (by omega)
    have HN2:=zh hn2
    clear hn2 hq
    go_wp2_with (go_at_fn g;refine hcall.mono ?_;rintro e w' ⟨rfl,hb'⟩)
    go_round
    case measure=>simp[intOf];omega
    case rel=>exact⟨k+1,by omega,by go_num,HN2.out,HBW.out.trans (hb'.mono HBW.out.size)⟩
theorem Xg (s:ByteArray)(ma:Option Addr)(mn mc:Nat)(th:Int)(b:Nat)(pre:ByteArray)(w:World)(hc:w.cell? ⟨b,1,none⟩=some (.string pre)):
 Calls Tryz.prog 52 (#[.agg #[.string s,.slice ma mn mc,.int .i64 th]]++#[.pointer (some ⟨b,0,none⟩)]) w fun e w' => e=.returned (.bool (decide (s=pre)))/\Below w.heap.size w w':=by
 have hb1:Below w.heap.size w (w.alloc (.cells #[.string s,.slice ma mn mc,.int .i64 th] 39)):=zb
 have qc:=(hb1.cell (p:=⟨b,1,none⟩) (block_lt hc)).trans hc
 have HB:=zh hb1
 have HE:=zh (show(s.toList==pre.toList)=decide (s=pre) from bytes_beq)
 clear hb1 hc
 show Calls Tryz.prog 52 #[.agg #[.string s,.slice ma mn mc,.int .i64 th],.pointer (some ⟨b,0,none⟩)] w _
 go_enter Tryz.func52,Tryz.ntmps52
 go_wp2
 go_ret
 exact⟨by rw[<- HE.out];rfl,HB.out⟩
namespace Own
theorem Zo {o:Ao}{op:Op}(h1:Bv o=true)(h2:Eh op=true)(h3:¬ o.count=late):Cg o op=match Et o op with
 | .error c=>(.none,c)
 | .ok p=>(⟨o.count+1,p.1,p.2⟩,0):=by
 unfold Cg Et
 rw[if_neg (by rw[h1,h2];simp),if_neg h3]
 cases Fh o.spaces op with
 | error c=>rfl
 | ok p =>
   obtain⟨s,l⟩:=p
   dsimp only
   cases AO s (AZ o op).1 o.keys op.Aa<;>rfl
def Qo (w:World)(R:Ao × Int)(e:Ending)(w' : World):Prop:=
 ((R.2 ≠ 0 ∧ R.1 = .none ∧ e = .returned (.tuple #[nobody,.int .i64 R.2])) ∨
   (R.2=0/\∃ sv kv,e=.returned (.tuple #[.agg #[.int .i64 R.1.count,sv,kv],.int .i64 0])/\Aq 3 EI (fun k=>w.heap.size<=k) w' sv R.1.spaces/\Aq 2 aQ (fun k=>w.heap.size<=k) w' kv R.1.keys))/\Below w.heap.size w w'
end Own
theorem nK {w:World}{base base' n size:Nat}{e:TypeId}{v:Value}{xs:List Value}(h:w.ownsRow base e size v n xs)(hb:base' <= base):w.ownsRow base' e size v n xs:=by
 refine⟨h.1,?_⟩
 rcases h.2 with h0|⟨g,cap,cur,h1,h2,h3⟩
 ·exact .inl h0
 ·exact .inr ⟨g,cap,cur,h1,Nat.le_trans hb h2,h3⟩
theorem PE (o:Own.Ao)(op:Own.Op)(sv kv mv av:Value)(w:World)(hM:Il w)(hS:Own.BF w sv o.spaces)(hK:Own.Du w kv o.keys)(hm:Own.Af w mv op.members)(hA:Own.Hq w av op.Aa)
 (hls:o.spaces.length<=3000000) (hlk:o.keys.length<=800000) (hlm:∀ s∈o.spaces,s.members.length<=3000000) (hml:op.members.length<=140737488355328)
 (hal:∀ a∈op.Aa,a.name.size<=140737488355328/\a.sig.chains.length<=140737488355328/\a.sig.path.length<=140737488355328):
 Calls Tryz.prog 14 #[.agg #[.int .i64 o.count,sv,kv],Own.opV op mv av] w (Own.Qo w (Own.Cg o op)):=by
 obtain⟨R,hR⟩:∃ R,R=Own.Cg o op:=⟨_,rfl⟩
 obtain⟨Q,hQ⟩:∃ Q,Q=Own.Qo w R:=⟨_,rfl⟩
 rw[<- hR,<- hQ]
 have HR:=zh hR;have HQ:=zh hQ
 clear hR hQ
 obtain⟨sa,sc,rfl⟩:=hS.len
 obtain⟨ka,kc,rfl⟩:=hK.len
 obtain⟨ma,mc,rfl⟩:=hm.len
 obtain⟨aa,ac,rfl,hap⟩:=id hA
 clear hap
 have K1:=zh (show Au w _ [(25,#[.int .i64 o.count,.slice sa o.spaces.length sc,.slice ka o.keys.length kc]),(29,#[.int .i64 op.kind,.string op.pre,.slice ma op.members.length mc,.int .i64 op.threshold,.string op.name,.string op.pub,.slice aa op.Aa.length ac]),(25,#[.int .i64 0,.slice none 0 0,.slice none 0 0])] from((((CY.nil w).push 25 #[.int .i64 o.count,.slice sa o.spaces.length sc,.slice ka o.keys.length kc]).push 29 #[.int .i64 op.kind,.string op.pre,.slice ma op.members.length mc,.int .i64 op.threshold,.string op.name,.string op.pub,.slice aa op.Aa.length ac]).push 25 #[.int .i64 0,.slice none 0 0,.slice none 0 0]).boxes)
 have hval:=fun W (hW:Below w.heap.size w W)=>JN o (.slice sa o.spaces.length sc) (.slice ka o.keys.length kc) W (hM.below hW) (hS.below hW) (hK.below hW) (by omega) (by omega) (fun s hs=>by have:=hlm s hs;omega)
 have hfm:=fun W (hW:Below w.heap.size w W)=>Ja op (.slice ma op.members.length mc) (.slice aa op.Aa.length ac) W (hM.below hW) (hm.below hW) ⟨_,_,rfl⟩ hml
 have hcp:=fun W (hW:Below w.heap.size w W)=>KW o (.slice sa o.spaces.length sc) (.slice ka o.keys.length kc) W (hS.below hW) (hK.below hW) hls (by omega) hlm
 unfold Own.opV at hfm ⊢
 have HV:=zh hval;have HF:=zh hfm;have HC:=zh hcp;have HM:=zh hM;have HS:=zh hS;have HK:=zh hK;have HMM:=zh hm;have HA:=zh hA;have HAL:=zh hal
 clear hval hfm hcp hM hS hK hm hA hal hlm
 go_enter Tryz.func14,Tryz.ntmps14
 go_upto_region 1 with fail
 generalize (((w.alloc (.cells #[.int .i64 o.count,.slice sa o.spaces.length sc,.slice ka o.keys.length kc] 25)).alloc (.cells #[.int .i64 op.kind,.string op.pre,.slice ma op.members.length mc,.int .i64 op.threshold,.string op.name,.string op.pub,.slice aa op.Aa.length ac] 29)).alloc (.cells #[.int .i64 0,.slice none 0 0,.slice none 0 0] 25))=w1 at*
 obtain⟨x00,x01,x02⟩:=K1.out.Fw rfl
 obtain⟨x10,x11,x12,x13,x14,x15,x16⟩:=K1.out.KE rfl
 obtain⟨x20,x21,x22,FK,FL,FM⟩:=K1.out.Oh rfl
 go_wp2_with fail
 refine(HV.out w1 K1.out.under).mono ?_
 rintro e w2 ⟨rfl,hb2⟩
 have K2:=zh (K1.out.step hb2)
 clear hb2
 (try clear x00 x01 x02);(try clear x10 x11 x12 x13 x14 x15 x16);(try clear x20 x21 x22 FK FL FM)
 obtain⟨x00,x01,x02⟩:=K2.out.Fw rfl
 obtain⟨x10,x11,x12,x13,x14,x15,x16⟩:=K2.out.KE rfl
 obtain⟨x20,x21,x22,FK,FL,FM⟩:=K2.out.Oh rfl
 cases hv:Own.Bv o with
 | false =>
   have HE:=zh (show R=(.none,1) by rw[HR.out,Own.Cg,if_pos (by rw[hv];rfl)])
   clear hv
   obtain⟨wx,hwx⟩:∃ x,x=w2:=⟨_,rfl⟩
   subst hwx
   have Kx:=K2
   (try clear x00 x01 x02);(try clear x10 x11 x12 x13 x14 x15 x16);(try clear x20 x21 x22 FK FL FM)
   obtain⟨x00,x01,x02⟩:=Kx.out.Fw rfl
   obtain⟨x20,x21,x22,FK,FL,FM⟩:=Kx.out.Oh rfl
   go_wp2
   have G2:=((Kx.out.put 2 0 (.int .i64 0) rfl).put 2 1 (.slice none 0 0) rfl).put 2 2 (.slice none 0 0) rfl
   refine BJ rfl rfl rfl (AJ (G2.at1 2 rfl) Tryz.underlying25 rfl Bt) ?_
   rw[HQ.out,HE.out]
   exact⟨.inl ⟨by decide,rfl,rfl⟩,G2.under⟩
 | true=>
 go_wp2_with fail
 refine(HF.out w2 K2.out.under).mono ?_
 rintro e w3 ⟨rfl,hb3⟩
 have K3:=zh (K2.out.step hb3)
 clear hb3
 (try clear x00 x01 x02);(try clear x10 x11 x12 x13 x14 x15 x16);(try clear x20 x21 x22 FK FL FM)
 obtain⟨x00,x01,x02⟩:=K3.out.Fw rfl
 obtain⟨x10,x11,x12,x13,x14,x15,x16⟩:=K3.out.KE rfl
 obtain⟨x20,x21,x22,FK,FL,FM⟩:=K3.out.Oh rfl
 obtain⟨wx,hwx⟩:∃ x,x=w3:=⟨_,rfl⟩
 cases hf:Own.Eh op with
 | false =>
   have HE:=zh (show R=(.none,1) by rw[HR.out,Own.Cg,if_pos (by rw[hf,Bool.and_false])])
   clear hv hf
   subst hwx
   have Kx:=K3
   (try clear x00 x01 x02);(try clear x10 x11 x12 x13 x14 x15 x16);(try clear x20 x21 x22 FK FL FM)
   obtain⟨x00,x01,x02⟩:=Kx.out.Fw rfl
   obtain⟨x20,x21,x22,FK,FL,FM⟩:=Kx.out.Oh rfl
   go_wp2
   have G2:=((Kx.out.put 2 0 (.int .i64 0) rfl).put 2 1 (.slice none 0 0) rfl).put 2 2 (.slice none 0 0) rfl
   refine BJ rfl rfl rfl (AJ (G2.at1 2 rfl) Tryz.underlying25 rfl Bt) ?_
   rw[HQ.out,HE.out]
   exact⟨.inl ⟨by decide,rfl,rfl⟩,G2.under⟩
 | true=>
 by_cases Vn:o.count=Own.late
 ·have HE:=zh (show R=(.none,7) by rw[HR.out,Own.Cg,if_neg (by rw[hv,hf];simp),if_pos Vn])
  have dl:(o.count==(1099511627776:Int))=true:=by rw[Vn];rfl
  clear hv hf Vn
  subst hwx
  have Kx:=K3
  (try clear x00 x01 x02);(try clear x10 x11 x12 x13 x14 x15 x16);(try clear x20 x21 x22 FK FL FM)
  obtain⟨x00,x01,x02⟩:=Kx.out.Fw rfl
  obtain⟨x20,x21,x22,FK,FL,FM⟩:=Kx.out.Oh rfl
  go_wp2
  have G2:=((Kx.out.put 2 0 (.int .i64 0) rfl).put 2 1 (.slice none 0 0) rfl).put 2 2 (.slice none 0 0) rfl
  refine BJ rfl rfl rfl (AJ (G2.at1 2 rfl) Tryz.underlying25 rfl Bt) ?_
  rw[HQ.out,HE.out]
  exact⟨.inl ⟨by decide,rfl,rfl⟩,G2.under⟩
 have dl:(o.count==(1099511627776:Int))=false:=by rw[beq_eq_false_iff_ne];exact Vn
 have HR2:=zh (HR.out.trans (Own.Zo hv hf Vn))
 have hO:=Own.Rt.iff.1 hv
 have HO:=zh hO;have HOP:=zh hf
 clear hv hf Vn hO hwx HR
 go_wp2_with fail
 have y1:(w3.cell? ⟨w.heap.size+1,0,none⟩).isSome=true:=by rw[x10];rfl
 refine Lex.zn (fun k=>k=w.heap.size+1) [2] 3 [2] ?_
 simp only[Lex.Bp,zd]
 go_wp2_with fail
 refine(HC.out w3.drew (K3.out.under.trans ((Below.refl w3.heap.size w3).drew.mono K3.out.under.size))).mono ?_
 rintro e w4 ⟨sv',kv',us,B,rfl,hc4⟩
 have B4:=zh (show Below w3.heap.size w3 w4 from(Below.refl w3.heap.size w3).drew.trans hc4.bel)
 have K4:=zh (K3.out.step B4.out)
 have C4:=zh hc4
 clear hc4
 (try clear x00 x01 x02);(try clear x10 x11 x12 x13 x14 x15 x16);(try clear x20 x21 x22 FK FL FM)
 obtain⟨x00,x01,x02⟩:=K4.out.Fw rfl
 obtain⟨x10,x11,x12,x13,x14,x15,x16⟩:=K4.out.KE rfl
 obtain⟨x20,x21,x22,FK,FL,FM⟩:=K4.out.Oh rfl
 go_wp2_with fail
 have hl3:w.heap.size+1<w3.heap.size:=K3.out.lt (i:=1) (by simp)
 refine Lex.Mid.intro (fun k hk hkl=>by rw[hk];exact B4.out.block _ hl3) ?_
 go_wp2
 refine Lex.zk ⟨⟨rfl,y1⟩,trivial⟩ ?_
 obtain⟨va,vn,vc,rfl⟩:=Ac C4.out.sp.row
 obtain rfl:=Ba C4.out.sp.row
 obtain⟨ua,un,uc,rfl⟩:=Ac C4.out.ks
 obtain rfl:=Ba C4.out.ks
 go_upto_region 6 with fail
 have hb5:Below w4.heap.size w4 (w4.alloc (.cells (Own.DY o.count (.slice va o.spaces.length vc) (.slice ua o.keys.length uc) op (.slice ma op.members.length mc) (.slice aa op.Aa.length ac) 0) 87)):=zb
 have En:=At.new w4 87 (Own.DY o.count (.slice va o.spaces.length vc) (.slice ua o.keys.length uc) op (.slice ma op.members.length mc) (.slice aa op.Aa.length ac) 0)
 unfold Own.DY at hb5 En
 have K5:=zh (K4.out.step hb5)
 have HB5:=zh hb5;have GD:=zh En
 clear hb5 En
 generalize w4.alloc (.cells #[.int .i64 o.count,.slice va o.spaces.length vc,.slice ua o.keys.length uc,.int .i64 op.kind,.string op.pre,.slice ma op.members.length mc,.int .i64 op.threshold,.string op.name,.string op.pub,.slice aa op.Aa.length ac,.int .i64 0] 87)=w5 at*
 have hz4:=K4.out.size
 have hgw:w.heap.size+3<=w4.heap.size:=by simpa using hz4
 obtain⟨g,hg⟩:∃ g,g=w4.heap.size:=⟨_,rfl⟩
 rw[<- hg] at GD hgw ⊢
 have HG:=zh hg
 clear hg hz4
 (try clear x00 x01 x02);(try clear x10 x11 x12 x13 x14 x15 x16);(try clear x20 x21 x22 FK FL FM)
 obtain⟨x00,x01,x02⟩:=K5.out.Fw rfl
 obtain⟨x10,x11,x12,x13,x14,x15,x16⟩:=K5.out.KE rfl
 obtain⟨x20,x21,x22,FK,FL,FM⟩:=K5.out.Oh rfl
 have HIX:=zh (Xf 52 #[.pointer (some ⟨w.heap.size+1,0,none⟩)] Tryz.call52 (fun s=>decide (s.pre=op.pre)) (.slice sa o.spaces.length sc) o.spaces w5 (HS.out.below K5.out.under) (by omega) (fun W x ma mc hW=>Xg x.pre ma _ mc x.threshold (w.heap.size+1) op.pre W (by rw[hW.cell (p:=⟨w.heap.size+1,1,none⟩) (block_lt x11)];exact x11)))
 have f5:=GD.out.cell 10;have f5f:=GD.out.free 10
 go_wp2_with fail
 refine HIX.out.mono ?_
 rintro e w6 ⟨⟨i,rfl,hix⟩,hb6⟩
 have Di:=GD.out.below hb6 GD.out.lt
 have K6:=zh (K5.out.step hb6)
 have HB6:=zh hb6;have Eu:=zh Di;have HI:=zh hix
 clear hb6 Di hix HIX f5 f5f
 (try clear x00 x01 x02);(try clear x10 x11 x12 x13 x14 x15 x16);(try clear x20 x21 x22 FK FL FM)
 obtain⟨x00,x01,x02⟩:=K6.out.Fw rfl
 obtain⟨x10,x11,x12,x13,x14,x15,x16⟩:=K6.out.KE rfl
 obtain⟨x20,x21,x22,FK,FL,FM⟩:=K6.out.Oh rfl
 have f6:=Eu.out.cell 10;have f6f:=Eu.out.free 10
 go_upto_region 7 with fail
 have Jo:=Eu.out.set 10 (.int .i64 i)
 have K7:=zh (K6.out.over (w':=w6.setCell ⟨g,10,none⟩ (.int .i64 i)) ((Below.refl _ _).setCell (p:=⟨g,10,none⟩) (by show w.heap.size+3<=g;exact hgw) _))
 have hb7:Below g w6 (w6.setCell ⟨g,10,none⟩ (.int .i64 i)):=(Below.refl _ _).setCell (p:=⟨g,10,none⟩) (Nat.le_refl _) _
 have hs7:(w6.setCell ⟨g,10,none⟩ (.int .i64 i)).heap.size=w6.heap.size:=by simp[World.setCell]
 have HB7:=zh hb7;have Oc:=zh Jo;have HS7:=zh hs7
 clear hb7 Jo hs7 f6 f6f
 generalize w6.setCell ⟨g,10,none⟩ (.int .i64 i)=w7 at*
 (try clear x00 x01 x02);(try clear x10 x11 x12 x13 x14 x15 x16);(try clear x20 x21 x22 FK FL FM)
 obtain⟨x00,x01,x02⟩:=K7.out.Fw rfl
 obtain⟨x10,x11,x12,x13,x14,x15,x16⟩:=K7.out.KE rfl
 obtain⟨x20,x21,x22,FK,FL,FM⟩:=K7.out.Oh rfl
 go_upto_region 8 with fail
 have hb8:Below w7.heap.size w7 (w7.alloc (.cells #[.func (.func 53) #[.pointer (some ⟨g,0,none⟩)] #[],.func (.func 54) #[.pointer (some ⟨g,0,none⟩)] #[],.func (.func 55) #[.pointer (some ⟨g,0,none⟩)] #[],.func (.func 56) #[.pointer (some ⟨g,0,none⟩)] #[],.func (.func 57) #[.pointer (some ⟨g,0,none⟩)] #[]] 90)):=zb
 have Wj:=At.new w7 90 #[.func (.func 53) #[.pointer (some ⟨g,0,none⟩)] #[],.func (.func 54) #[.pointer (some ⟨g,0,none⟩)] #[],.func (.func 55) #[.pointer (some ⟨g,0,none⟩)] #[],.func (.func 56) #[.pointer (some ⟨g,0,none⟩)] #[],.func (.func 57) #[.pointer (some ⟨g,0,none⟩)] #[]]
 have HB8:=zh hb8;have oI:=zh Wj
 clear hb8 Wj
 generalize w7.alloc (.cells #[.func (.func 53) #[.pointer (some ⟨g,0,none⟩)] #[],.func (.func 54) #[.pointer (some ⟨g,0,none⟩)] #[],.func (.func 55) #[.pointer (some ⟨g,0,none⟩)] #[],.func (.func 56) #[.pointer (some ⟨g,0,none⟩)] #[],.func (.func 57) #[.pointer (some ⟨g,0,none⟩)] #[]] 90)=w8 at*
 have K8:=zh (K7.out.step HB8.out)
 have zF:g<w7.heap.size:=Oc.out.lt
 have Ua:=zh (Oc.out.below HB8.out zF)
 have HGL:=zh (show g<w8.heap.size from Ua.out.lt)
 have hb48:Below w4.heap.size w4 w8:=by
  have e5:=HB5.out
  have e6:=HB6.out.mono e5.size
  have e7:Below w4.heap.size w6 w7:=by rw[<- HG.out];exact HB7.out
  have e8:=HB8.out.mono (show w4.heap.size<=w7.heap.size by have:=HG.out;omega)
  exact((e5.trans e6).trans e7).trans e8
 have zG:Own.Chg (w3.drew.heap.size+2) w8 g o op i (.slice va o.spaces.length vc) (.slice ua o.keys.length uc) (.slice ma op.members.length mc) (.slice aa op.Aa.length ac) us:=
  ⟨Ua.out,C4.out.sp.below hb48,nK (own_below C4.out.ks hb48) C4.out.lo,(HMM.out.mono (fun k _ hk=>by show k≠g;omega)).below K8.out.under⟩
 have hmin:Own.MIn (w3.drew.heap.size+2) g o op i (.slice va o.spaces.length vc) (.slice ua o.keys.length uc) (.slice ma op.members.length mc) (.slice aa op.Aa.length ac) us w8:=
  ⟨zG,HM.out.below K8.out.under,HA.out.below K8.out.under,HO.out,HOP.out,HI.out,hlk,HAL.out⟩
 have nL:=zh hmin
 clear hb48 zG hmin
 obtain⟨r,hr⟩:∃ r,r=w7.heap.size:=⟨_,rfl⟩
 rw[<- hr] at oI ⊢
 clear hr zF
 obtain⟨f0,f1,f2,f3,f4⟩:=oI.out.c5
 (try clear x00 x01 x02);(try clear x10 x11 x12 x13 x14 x15 x16);(try clear x20 x21 x22 FK FL FM)
 obtain⟨x00,x01,x02⟩:=K8.out.Fw rfl
 obtain⟨x10,x11,x12,x13,x14,x15,x16⟩:=K8.out.KE rfl
 obtain⟨x20,x21,x22,FK,FL,FM⟩:=K8.out.Oh rfl
 have hz:=Own.KD.of HOP.out
 have hk0:=hz.k0;have hk4:=hz.k4
 clear hz
 obtain⟨F,eg,fF,hm8⟩:∃ F,(∀ args w,(callFunc F args).run Tryz.prog w=.ok (.enter F args) w)/\w8.cell? ⟨r,op.kind.toNat,none⟩=some (.func (.func F) #[.pointer (some ⟨g,0,none⟩)] #[])/\Calls Tryz.prog F #[.pointer (some ⟨g,0,none⟩)] w8 (Own.Dy w8 g o.count op i (.slice ma op.members.length mc) (.slice aa op.Aa.length ac) (Own.Et o op)):=by
  rcases(show op.kind=0\/op.kind=1\/op.kind=2\/op.kind=3\/op.kind=4 by omega) with hk|hk|hk|hk|hk
  ·exact⟨_,Tryz.call53,by rw[hk];exact f0,Zk _ g o op i _ _ _ _ us w8 nL.out hk⟩
  ·exact⟨_,Tryz.call54,by rw[hk];exact f1,Zl _ g o op i _ _ _ _ us w8 nL.out hk⟩
  ·exact⟨_,Tryz.call55,by rw[hk];exact f2,SV _ g o op i _ _ _ _ us w8 nL.out hk⟩
  ·exact⟨_,Tryz.call56,by rw[hk];exact f3,Ul _ g o op i _ _ _ _ us w8 nL.out hk⟩
  ·exact⟨_,Tryz.call57,by rw[hk];exact f4,Xe _ g o op i _ _ _ _ us w8 nL.out hk⟩
 obtain⟨kn,hkn⟩:∃ kn,kn=op.kind.toNat:=⟨_,rfl⟩
 rw[<- hkn] at fF
 rw[show op.kind=(kn:Int) by omega] at x10
 have hk5:kn<5:=by omega
 have HM8:=zh hm8
 clear hk0 hk4 hkn hm8 f0 f1 f2 f3 f4
 go_wp2_with fail
 refine HM8.out.mono ?_
 intro e w9 hp
 clear HM8 fF eg
 cases hq:Own.Et o op with
 | error c =>
   rw[hq] at hp
   obtain⟨rfl,hc,hfr⟩:=hp
   have HE:=zh (show R=(.none,c) by rw[HR2.out,hq])
   have dz:(c==(0:Int))=false:=by rw[beq_eq_false_iff_ne];exact hc
   have K9:=zh (K8.out.over (hfr.below (B:=w.heap.size+3) (Nat.le_trans (by simp) K8.out.size) (fun k hk=>by rw[hk];exact hgw)))
   have HC9:=zh hc
   clear hq hfr hc
   obtain⟨wx,hwx⟩:∃ x,x=w9:=⟨_,rfl⟩
   subst hwx
   have Kx:=K9
   (try clear x00 x01 x02);(try clear x10 x11 x12 x13 x14 x15 x16);(try clear x20 x21 x22 FK FL FM)
   obtain⟨x00,x01,x02⟩:=Kx.out.Fw rfl
   obtain⟨x20,x21,x22,FK,FL,FM⟩:=Kx.out.Oh rfl
   go_wp2
   have G2:=((Kx.out.put 2 0 (.int .i64 0) rfl).put 2 1 (.slice none 0 0) rfl).put 2 2 (.slice none 0 0) rfl
   refine BJ rfl rfl rfl (AJ (G2.at1 2 rfl) Tryz.underlying25 rfl Bt) ?_
   rw[HQ.out,HE.out]
   exact⟨.inl ⟨HC9.out,rfl,rfl⟩,G2.under⟩
 | ok p =>
   obtain⟨S',L'⟩:=p
   rw[hq] at hp
   obtain⟨rfl,⟨sv9,kv9,iX,hs9,hk9⟩,hfr⟩:=hp
   have HE:=zh (show R=(⟨o.count+1,S',L'⟩,0) by rw[HR2.out,hq])
   have K9:=zh (K8.out.over (hfr.below (B:=w.heap.size+3) (Nat.le_trans (by simp) K8.out.size) (fun k hk=>by rw[hk];exact hgw)))
   obtain⟨sa9,sc9,rfl⟩:=hs9.len
   obtain⟨ka9,kc9,rfl⟩:=hk9.len
   have hc0:=HO.out.c0
   have hc1:o.count<=1099511627776:=HO.out.c1
   have JX:=zh iX;have HS9:=zh hs9;have HK9:=zh hk9;have HFR:=zh hfr
   clear hq hfr iX hs9 hk9
   obtain⟨c0,c1,c2,c3,c4,c5,c6,c7,c8,c9,c10⟩:=Own.OY JX.out
   have cf:=JX.out.free 0
   go_upto_region 12 with fail
   have K10:=zh (K9.out.over (w':=w9.setCell ⟨g,0,none⟩ (.int .i64 (o.count+1))) ((Below.refl _ _).setCell (p:=⟨g,0,none⟩) (by show w.heap.size+3<=g;exact hgw) _))
   have rJ:=JX.out.set 0 (.int .i64 (o.count+1))
   have Ip:∀ k,k≠g->(w9.setCell ⟨g,0,none⟩ (.int .i64 (o.count+1))).heap[k]? = w9.heap[k]? :=fun k hk=>zo hk
   have jy:(w9.setCell ⟨g,0,none⟩ (.int .i64 (o.count+1))).heap.size=w9.heap.size:=by simp[World.setCell]
   have Iq:=zh rJ;have zaZ:=zh Ip;have zba:=zh jy
   clear c0 c1 c2 c3 c4 c5 c6 c7 c8 c9 c10
   clear rJ Ip jy cf
   generalize w9.setCell ⟨g,0,none⟩ (.int .i64 (o.count+1))=w10 at*
   have c0:=Iq.out.cell 0;have c1:=Iq.out.cell 1;have c2:=Iq.out.cell 2
   simp only[Own.DY,List.getElem?_toArray,List.getElem?_cons_zero,List.getElem?_cons_succ,List.setIfInBounds_toArray,List.set_cons_zero] at c0 c1 c2
   (try clear x00 x01 x02);(try clear x10 x11 x12 x13 x14 x15 x16);(try clear x20 x21 x22 FK FL FM)
   obtain⟨x00,x01,x02⟩:=K10.out.Fw rfl
   obtain⟨x20,x21,x22,FK,FL,FM⟩:=K10.out.Oh rfl
   go_wp2
   have G2:=((K10.out.put 2 0 (.int .i64 (o.count+1)) rfl).put 2 1 (.slice sa9 S'.length sc9) rfl).put 2 2 (.slice ka9 L'.length kc9) rfl
   refine BJ rfl rfl rfl (AJ (G2.at1 2 rfl) Tryz.underlying25 rfl Bt) ?_
   rw[HQ.out,HE.out]
   have hz8:=K8.out.size
   have hg8:=HGL.out
   have far:∀ k,w8.heap.size<=k->(((w10.setCell ⟨w.heap.size+2,0,none⟩ (.int .i64 (o.count+1))).setCell ⟨w.heap.size+2,1,none⟩ (.slice sa9 S'.length sc9)).setCell ⟨w.heap.size+2,2,none⟩ (.slice ka9 L'.length kc9)).heap[k]? = w9.heap[k]? :=fun k hk=>by
    have hne:k≠w.heap.size+2:=by simp at hz8;omega
    rw[zo hne,zo hne,zo hne,zaZ.out k (by omega)]
   have hsz:w9.heap.size<=(((w10.setCell ⟨w.heap.size+2,0,none⟩ (.int .i64 (o.count+1))).setCell ⟨w.heap.size+2,1,none⟩ (.slice sa9 S'.length sc9)).setCell ⟨w.heap.size+2,2,none⟩ (.slice ka9 L'.length kc9)).heap.size:=by simp[World.setCell,zba.out]
   refine⟨.inr ⟨rfl,_,_,rfl,?_,?_⟩,G2.under⟩
   ·exact(HS9.out.keep hsz (fun k hk _=>far k hk)).mono (fun k hk _=>by simp at hz8;omega)
   ·exact(HK9.out.keep hsz (fun k hk _=>far k hk)).mono (fun k hk _=>by simp at hz8;omega)
end
section
open Go
namespace Own
def opW (op:Op)(l:List Ai):Op :={ op with Aa:=l }
theorem bP {op:Op}{l:List Ai}(h:l.length<=8):Eh (opW op l)=Eh (opW op []):=by
 have e:decide (l.length<=8)=true:=decide_eq_true h
 unfold Eh opW
 dsimp only
 rw[e]
 rfl
theorem pV {o:Ao}{op:Op}{l:List Ai}(h:l.length<=8):AZ o (opW op l)=AZ o (opW op []):=by
 unfold AZ
 rw[bP h]
 rfl
def Bg (o:Ao)(op:Op)(i:Nat)(ks:List Nat):Op:=opW op (ks.map (Dm i (AZ o (opW op [])).1))
def EY (p:ByteArray)(th:Int)(l:List Nat):Op:=⟨0,p,Bj l,th,⟨#[]⟩,⟨#[]⟩,[]⟩
theorem Lc {o:Ao}{op:Op}{i:Nat}{ks:List Nat}{s:Space}{l' : List Space}(hj:Inj ks)(ho:Bv o=true)(hop:Eh (opW op [])=true)(hc:o.count≠late)(hw:Fh o.spaces op=.ok (s,l'))(hi:i<2)(hK:KB o.keys)(hd:ks.Nodup)(hl:∀ b∈ks,b<256)(h8:ks.length<=8)
 (hf:∀ b∈ks,find s.members (CG b)=some (Yt b)/\Bf o.keys (Ej b)<=i) (ht:s.threshold<=ks.length):
 Cg o (Bg o op i ks)=(⟨o.count+1,l',ks.foldl (Jp i) o.keys⟩,0):=by
 have h8' : (ks.map (Dm i (AZ o (opW op [])).1)).length<=8:=by rw[List.length_map];exact h8
 have hw' : Fh o.spaces (Bg o op i ks)=.ok (s,l'):=hw
 have ha:AO s (AZ o (Bg o op i ks)).1 o.keys (Bg o op i ks).Aa=.ok (ks.foldl (Jp i) o.keys):=by
  have e:AZ o (Bg o op i ks)=AZ o (opW op []):=pV h8'
  rw[e]
  unfold AO
  show(match Bl s (AZ o (opW op [])).1 [] o.keys (ks.map (Dm i (AZ o (opW op [])).1)) with|.error c=>_|.ok K' => if (((ks.map (Dm i (AZ o (opW op [])).1)).length:Nat):Int)<s.threshold then _ else _)=_
  rw[Jk hi ks [] o.keys hj hK hd hl (fun b hb=>⟨(hf b hb).1,(by simp),(hf b hb).2⟩)]
  dsimp only
  rw[List.length_map,if_neg (by omega)]
 unfold Cg
 have hop' : Eh (Bg o op i ks)=true:=by unfold Bg;rw[bP h8'];exact hop
 rw[if_neg (by rw[ho,hop'];simp),if_neg hc,hw']
 dsimp only
 rw[ha]
theorem Vo (l:List Nat):(Bj l).length=l.length:=List.length_map _
theorem Kh {p:ByteArray}{th:Int}{l:List Nat}(hj:Inj l)(hp:BI p=true)(hl:Hu l)(h1:1<=l.length)(h8:l.length<=8)(ht:1<=th)(ht2:th<=l.length)(k:Int)(hk0:0<=k)(hk:k<3):Eh ⟨k,p,Bj l,th,⟨#[]⟩,⟨#[]⟩,[]⟩=true:=by
 unfold Eh U7 opName
 dsimp only
 rw[hp,if_neg (by omega),if_neg (by omega),Yv hj hl h1 h8,Vo,decide_eq_true ht,decide_eq_true ht2,decide_eq_true hk0,decide_eq_true (show k<=4 by omega)]
 rfl
theorem pW:Bv .none=true:=rfl
theorem SX {l:List Nat}(h:Hu l):l.Nodup:=h.srt.imp fun {a b} hab=>by omega
theorem bQ (p:ByteArray):Bf [] p=0:=rfl
theorem j6 {p:ByteArray}{th:Int}{l:List Nat}(hj:Inj l)(hp:BI p=true)(hl:Hu l)(h1:1<=l.length)(h8:l.length<=8)(ht:1<=th)(ht2:th<=l.length):
 Cg .none (Bg .none (EY p th l) 0 l)=(⟨1,[⟨p,Bj l,th⟩],l.foldl (Jp 0) []⟩,0):=
 Lc (o:=.none) hj pW (Kh hj hp hl h1 h8 ht ht2 0 (by omega) (by omega)) (by decide) rfl (by omega) KB.nil (SX hl) hl.lt h8 (fun b hb=>⟨Yw hl.lt hb,by rw[show Ao.none.keys=[] from rfl,bQ];omega⟩) ht2
theorem pX {p:ByteArray}{th:Int}{l:List Nat}(hj:Inj l)(hp:BI p=true)(hl:Hu l)(h1:1<=l.length)(h8:l.length<=8)(ht:1<=th)(ht2:th<=l.length):AX ⟨p,Bj l,th⟩=true:=by
 unfold AX
 dsimp only
 rw[hp,Yv hj hl h1 h8,Vo,decide_eq_true ht,decide_eq_true ht2]
 rfl
theorem pY {n:Int}{S:List Space}{K:List KeyUse}(h0:0<=n)(h1:n<=late)(hS:∀ s∈S,AX s=true)(hs:Srt Space.pre S)(hl:S.length<=64)(hK:KB K):Bv ⟨n,S,K⟩=true:=
 Rt.iff.2 ⟨h0,h1,hl,hS,hs,hK.ok,hK.srt⟩
/-! ### the example -/
def sA:ByteArray:=⟨#[97]⟩
def sAB:ByteArray:=⟨#[97,47,98]⟩
theorem rM:BI sA=true:=rfl
theorem nM:BI sAB=true:=rfl
def DR (f:Nat):Ao:=⟨1,[⟨sA,Bj [f],1⟩],[f].foldl (Jp 0) []⟩
theorem bR {f:Nat}(hf:f<256):Cg .none (Bg .none (EY sA 1 [f]) 0 [f])=(DR f,0):=j6 (Inj.one f) rM (Hu.one hf) (Nat.le_refl 1) (by simp) (by omega) (by simp)
theorem fq {f:Nat}(hf:f<256):Bv (DR f)=true:=
 pY (by omega) (by decide) (fun s hs=>by rw[List.mem_singleton.1 hs];exact pX (Inj.one f) rM (Hu.one hf) (Nat.le_refl 1) (by simp) (by omega) (by simp)) (List.pairwise_singleton _ _) (by simp) (KB.fold (by omega) KB.nil (Hu.one hf).lt)
def SY (p:ByteArray)(l:List Nat):Op:=⟨2,p,Bj l,1,⟨#[]⟩,⟨#[]⟩,[]⟩
def KF (f s:Nat):Ao:=⟨2,[⟨sA,Bj [f],1⟩,⟨sAB,Bj [s],1⟩],[f].foldl (Jp 1) ([f].foldl (Jp 0) [])⟩
theorem qb:Aj sA sAB=true:=by unfold Aj;rw[ByteArray.toList_eq,ByteArray.toList_eq];rfl
theorem qd (x:Space)(hx:x.pre=sA)(op:Op)(hk:op.kind=2)(hp:op.pre=sAB):Fh [x] op=.ok (x,[x,AQ op]):=by
 have h1:GA [x] op.pre=none:=by
  unfold GA
  rw[List.find?_cons_of_neg (by rw[hx,hp];decide)]
  rfl
 have h2:CB op.pre none [x]=some x:=by
  have:belongs sAB sA=true:=rfl
  unfold CB
  rw[hx,hp,this]
  rfl
 have h3:Dj Space.pre (AQ op) [x]=[x,AQ op]:=by
  have:Aj x.pre (AQ op).pre=true:=by rw[hx,show(AQ op).pre=op.pre from rfl,hp];exact qb
  unfold Dj
  rw[if_pos this]
  rfl
 unfold Fh
 rw[if_neg (by omega),if_neg (by omega),if_pos hk,h1,h2,h3]
 rfl
theorem Zp {f s:Nat}(hf:f<256)(hs:s<256):Cg (DR f) (Bg (DR f) (SY sAB [s]) 1 [f])=(KF f s,0):=by
 have hw:Fh (DR f).spaces (SY sAB [s])=.ok (⟨sA,Bj [f],1⟩,[⟨sA,Bj [f],1⟩,⟨sAB,Bj [s],1⟩]):=qd _ rfl _ rfl rfl
 have hop:Eh (opW (SY sAB [s]) [])=true:=Kh (Inj.one s) nM (Hu.one hs) (th:=1) (Nat.le_refl 1) (by simp) (by omega) (by simp) 2 (by omega) (by omega)
 have hc:(DR f).count≠late:=by show(1:Int)≠late;decide
 have hK:KB (DR f).keys:=KB.fold (by omega) KB.nil (Hu.one hf).lt
 have hn:Bf (DR f).keys (Ej f)<=(1:Nat):=by
  show Bf ([f].foldl (Jp 0) []) (Ej f)<=_
  rw[Ry (by omega) (fun x hx _=>List.mem_singleton.1 hx) KB.nil (Hu.one hf).lt,if_pos (by simp)]
  decide
 have h:=Lc (i:=1) (ks:=[f]) (Inj.one f) (fq hf) hop hc hw (by omega) hK (SX (Hu.one hf)) (Hu.one hf).lt (by simp) (fun b hb=>by
  rw[List.mem_singleton.1 hb]
  exact⟨Yw (Hu.one hf).lt (by simp),hn⟩) (by simp)
 rw[h]
 have e:(DR f).count+1=(2:Int):=rfl
 rw[e]
 unfold KF DR
 rfl
theorem qg {f s:Nat}(hf:f<256)(hs:s<256):Bv (KF f s)=true:=by
 have h:=Zp hf hs
 have h2:=lD (o:=DR f) (op:=Bg (DR f) (SY sAB [s]) 1 [f]) (by rw[h])
 rw[h] at h2
 exact h2.1
end Own
namespace Own
/-! ### the nearest space -/
theorem Xh {p:ByteArray}(h:belongs p sAB=true):belongs p sA=true:=by
 unfold belongs at h ⊢
 rw[Bool.or_eq_true,decide_eq_true_eq] at h
 rcases h with rfl|h
 ·rfl
 ·have h1:=List.isPrefixOf_iff_prefix.1 h
  have h2:sA.data.toList++[47] <+: sAB.data.toList++[47]:=⟨[98,47],rfl⟩
  rw[Bool.or_eq_true]
  exact .inr (List.isPrefixOf_iff_prefix.2 (h2.trans h1))
theorem zH (p:ByteArray)(x y:Space)(hx:x.pre=sA)(hy:y.pre=sAB):CB p none [x,y]=if belongs p sAB then some y else if belongs p sA then some x else none:=by
 have hd :=@Xh p
 have hz:decide (x.pre.size<y.pre.size)=true:=by rw[hx,hy];rfl
 unfold CB CB CB
 rw[hx,hy]
 cases h1:belongs p sAB with
 | true =>
   rw[hd h1]
   simp only[Bool.true_and,if_true]
   rw[hx]
   rfl
 | false =>
   cases h2:belongs p sA with
   | true=>simp
   | false=>simp
theorem nN {f s:Nat}(hf:f<256)(hs:s<256)(p:ByteArray):authority (KF f s) p=if BI p=false then none else if belongs p sAB then some ⟨sAB,Bj [s],1⟩ else if belongs p sA then some ⟨sA,Bj [f],1⟩ else none:=by
 unfold authority
 rw[qg hf hs,Bool.true_and]
 cases BI p with
 | false=>rfl
 | true =>
   rw[if_pos rfl,if_neg (by simp)]
   exact zH p _ _ rfl rfl
def jA:ByteArray:=⟨#[97,47,98,47,99]⟩
end Own
namespace Own
theorem tY (b i:Nat)(hi:i<2)(msg:ByteArray):Dq (Sig.BH (GR.DK b) i msg)=true:=by
 have h:=Yx b i hi msg
 have hp:(Sig.BH (GR.DK b) i msg).path.length=1:=by unfold Sig.BH;rfl
 generalize Sig.BH (GR.DK b) i msg=s at h hp
 generalize Ej b=p at h
 unfold Sig.verify Sig.included at h
 simp only[Bool.and_eq_true,decide_eq_true_eq] at h
 obtain⟨⟨⟨⟨⟨h1,h2⟩,h3⟩,h4⟩,h5⟩,h6⟩:=h
 unfold Dq
 rw[decide_eq_true h2,decide_eq_true h4,decide_eq_true (show s.path.length<=6 by omega),h5,h6.1.1.1.1.1.1.2]
 rfl
theorem Qp (b i:Nat)(hi:i<2)(msg:ByteArray):Dq (Dm i msg b).sig=true:=tY b i hi msg
theorem Kv (b:Nat):(CG b).size=4:=rfl
theorem Ta (b i:Nat)(msg:ByteArray):(Dm i msg b).sig.index=(i:Int):=LG _ _ _
theorem Zq {o:Ao}{op:Op}{i:Nat}{ks:List Nat}(hop:Eh (opW op [])=true)(hi:i<2)(h8:ks.length<=8):Fv (Bg o op i ks)=true:=by
 have h8' : (ks.map (Dm i (AZ o (opW op [])).1)).length<=8:=by rw[List.length_map];exact h8
 unfold Fv Bg
 rw[bP h8',hop,Bool.true_and,List.all_eq_true]
 intro a ha
 have ha:a∈ks.map (Dm i (AZ o (opW op [])).1):=ha
 obtain⟨b,_,rfl⟩:=List.mem_map.1 ha
 exact Qp b i hi _
theorem GN {o:Ao}{op:Op}{i:Nat}{ks:List Nat} : (Bg o op i ks).Aa=ks.map (Dm i (AZ o (opW op [])).1):=rfl
theorem bS (i:Nat)(msg:ByteArray):∀ ks:List Nat,Es (ks.map (Dm i msg))=4*ks.length
 | []=>rfl
 | b :: ks => by
   show(CG b).size+Es (ks.map (Dm i msg))=4*(ks.length+1)
   rw[bS i msg ks,Kv]
   omega
theorem bT {o:Ao}{op:Op}{i:Nat}{ks:List Nat}(hop:Eh (opW op [])=true)(hi:i<2)(h8:ks.length<=8):(Dh (Bg o op i ks)).2=0/\MJ (Dh (Bg o op i ks)).1=(Bg o op i ks,0)/\(Dh (Bg o op i ks)).1.size<=100000:=by
 have hf:=Zq (o:=o) hop hi h8
 have hn:=bS i (AZ o (opW op [])).1 ks
 rw[<- GN (o:=o) (op:=op) (i:=i) (ks:=ks)] at hn
 have ha:∀ a∈(Bg o op i ks).Aa,a.name.size<9223372036854775808/\a.sig.index<9223372036854775808:=fun a ha=>by
  rw[GN] at ha
  obtain⟨b,_,rfl⟩:=List.mem_map.1 ha
  rw[Ta]
  exact⟨by rw[show(Dm i (AZ o (opW op [])).1 b).name=CG b from rfl,Kv];decide,by omega⟩
 have hl:(Bg o op i ks).Aa.length=ks.length:=by rw[GN,List.length_map]
 have hs:∀ a∈(Bg o op i ks).Aa,Dq a.sig=true:=fun a ha=>by
  rw[GN] at ha
  obtain⟨b,_,rfl⟩:=List.mem_map.1 ha
  exact Qp b i hi _
 generalize Bg o op i ks=x at*
 refine⟨?_,iJ hf ha,?_⟩
 ·unfold Dh
  rw[if_pos hf]
 ·have hok:Eh x=true:=by unfold Fv at hf;exact(Bool.and_eq_true _ _ ▸ hf).1
  have h1:=Gg (KD.of hok)
  have h2:=Qm x.Aa hs
  have h3:=Cod.Ce x.Aa.length
  unfold Dh
  rw[if_pos hf]
  show(CW x++(Cod.uns x.Aa.length++Cod.cat (x.Aa.map Ay))).size<=_
  rw[Sha.Ag,Sha.Ag]
  omega
def opA:Op:=Bg (DR 1) (SY sAB [2]) 1 [1]
theorem tZ {s:Nat}(hs:s<256){p:ByteArray}(hp:BI p=true):Eh (opW (SY p [s]) [])=true:=
 Kh (Inj.one s) hp (Hu.one hs) (th:=1) (Nat.le_refl 1) (by simp) (by omega) (by simp) 2 (by omega) (by omega)
theorem jB:Cg (DR 1) opA=(KF 1 2,0):=Zp (by omega) (by omega)
theorem qj:(Dh opA).2=0/\MJ (Dh opA).1=(opA,0)/\(Dh opA).1.size<=100000:=bT (tZ (by omega) nM) (by omega) (by simp)
def bU:ByteArray:=⟨#[97,47,98,99]⟩
def sB:ByteArray:=⟨#[98]⟩
theorem uf:authority (KF 1 2) jA=some ⟨sAB,Bj [2],1⟩:=by
 rw[nN (by omega) (by omega),if_neg (by rw[show BI jA=true from rfl];decide),if_pos (show belongs jA sAB=true from rfl)]
theorem ug:authority (KF 1 2) bU=some ⟨sA,Bj [1],1⟩:=by
 rw[nN (by omega) (by omega),if_neg (by rw[show BI bU=true from rfl];decide),if_neg (by rw[show belongs bU sAB=false from rfl];decide),if_pos (show belongs bU sA=true from rfl)]
theorem uh:authority (KF 1 2) sB=none:=by
 rw[nN (by omega) (by omega),if_neg (by rw[show BI sB=true from rfl];decide),if_neg (by rw[show belongs sB sAB=false from rfl];decide),if_neg (by rw[show belongs sB sA=false from rfl];decide)]
theorem OM {f:Nat} : (DR f).keys=[⟨Ej f,1⟩]:=rfl
structure Awk (o1 o2:Ao) (M2:List Member) (OP:Op) (aps:List Ai) (EB:ByteArray) (x y:Space):Prop where
 claim:Cg .none (Bg .none (EY sA 1 (keysOf [1])) 0 (keysOf [1]))=(o1,0)
 ok1:Bv o1=true
 c1:o1.count=1
 k1:∃ k,o1.keys=[k]/\k.next=1
 m2:Bj (keysOf [2])=M2
 m2l:M2.length=1
 apd:[1].map (Dm 1 (AZ o1 ⟨2,sAB,M2,1,⟨#[]⟩,⟨#[]⟩,[]⟩).1)=aps
 op:OP=⟨2,sAB,M2,1,⟨#[]⟩,⟨#[]⟩,aps⟩
 apl:aps.length=1
 app:Cg o1 OP=(o2,0)
 au1:authority o2 jA=some x
 x1:x.pre=sAB
 au2:authority o2 bU=some y
 y1:y.pre=sA
 au3:authority o2 sB=none
 enc:Dh OP=(EB,0)
 dec:MJ EB=(OP,0)
 sz:EB.size<=100000
 all:∀ a∈aps,a.name.size<=140737488355328/\a.sig.chains.length<=140737488355328/\a.sig.path.length<=140737488355328
 idx:∀ a∈aps,a.sig.index<9223372036854775808
 sum:Es aps<=100
 s1:o1.spaces.length<=10/\o1.keys.length<=10/\∀ s∈o1.spaces,s.members.length<=10
 s2:o2.spaces.length<=10/\o2.keys.length<=10/\∀ s∈o2.spaces,s.members.length<=10
theorem nO (K:List KeyUse)(x:KeyUse):(use K x).length<=K.length+1:=by rw[EP];exact Im _ _ _
theorem jC (o:Ao)(k:Int)(p:ByteArray)(M:List Member)(t:Int)(n q:ByteArray)(i:Nat)(ks:List Nat):Bg o ⟨k,p,M,t,n,q,[]⟩ i ks=⟨k,p,M,t,n,q,ks.map (Dm i (AZ o ⟨k,p,M,t,n,q,[]⟩).1)⟩:=rfl
theorem nP (i:Nat)(hi:i<2)(msg:ByteArray)(ks:List Nat):∀ a∈ks.map (Dm i msg),a.name.size<=140737488355328/\a.sig.chains.length<=140737488355328/\a.sig.path.length<=140737488355328:=fun a ha=>by
 obtain⟨b,_,rfl⟩:=List.mem_map.1 ha
 obtain⟨_,h2,_,h4,_⟩:=Og (Qp b i hi msg)
 refine⟨?_,by omega,by omega⟩
 rw[show(Dm i msg b).name=CG b from rfl,Kv]
 decide
theorem nQ (i:Nat)(hi:i<2)(msg:ByteArray)(ks:List Nat):∀ a∈ks.map (Dm i msg),a.sig.index<9223372036854775808:=fun a ha=>by
 obtain⟨b,_,rfl⟩:=List.mem_map.1 ha
 rw[Ta]
 omega
theorem qo {op:Op}(h:(Dh op).2=0):Dh op=((Dh op).1,0):=by
 generalize Dh op=z at*
 obtain⟨z1,z2⟩:=z
 have h1:z2=0:=h
 rw[h1]
theorem nR (K:List KeyUse)(i b:Nat)(h:K.length=1):(Jp i K b).length<=10:=by
 unfold Jp
 exact Nat.le_trans (nO K _) (by rw[h];decide)
theorem nS (f:Nat):(DR f).keys.length=1:=by rw[OM];rfl
theorem jD (f s:Nat):(KF f s).keys=[f].foldl (Jp 1) (DR f).keys:=by unfold KF DR;exact Eq.refl _
theorem Ny (l:List Nat):(Bj l).length=l.length:=List.length_map _
theorem Zr (f s:Nat):(KF f s).spaces=[⟨sA,Bj [f],1⟩,⟨sAB,Bj [s],1⟩]:=by unfold KF;exact Eq.refl _
theorem Zt (f:Nat):(DR f).spaces=[⟨sA,Bj [f],1⟩]:=by unfold DR;exact Eq.refl _
theorem jE (f s:Nat):(KF f s).spaces.length<=10/\(KF f s).keys.length<=10/\∀ x∈(KF f s).spaces,x.members.length<=10:=by
 rw[Zr,jD,List.foldl_cons,List.foldl_nil]
 refine⟨Nat.le_add_left 2 8,nR _ _ _ (nS f),fun x hs=>?_⟩
 rcases List.mem_cons.1 hs with h|h
 ·rw[h]
  dsimp only
  rw[Ny]
  exact Nat.le_add_left 1 9
 ·rw[List.mem_singleton.1 h]
  dsimp only
  rw[Ny]
  exact Nat.le_add_left 1 9
theorem jF (f:Nat):(DR f).spaces.length<=10/\(DR f).keys.length<=10/\∀ x∈(DR f).spaces,x.members.length<=10:=by
 rw[Zt,OM]
 refine⟨Nat.le_add_left 1 9,Nat.le_add_left 1 9,fun x hs=>?_⟩
 rw[List.mem_singleton.1 hs]
 dsimp only
 rw[Ny]
 exact Nat.le_add_left 1 9
theorem uj:Cg .none (Bg .none (EY sA 1 (keysOf [1])) 0 (keysOf [1]))=(DR 1,0):=by
 rw[UQ (Hu.one (by omega))]
 exact bR (by omega)
theorem zI:Bj (keysOf [2])=Bj [2]:=by rw[UQ (Hu.one (by omega))]
theorem nT (f:Nat):∃ k,(DR f).keys=[k]/\k.next=1:=⟨_,OM,rfl⟩
theorem bV (f:Nat):(DR f).count=1:=rfl
theorem uq:opA=⟨2,sAB,Bj [2],1,⟨#[]⟩,⟨#[]⟩,[1].map (Dm 1 (AZ (DR 1) ⟨2,sAB,Bj [2],1,⟨#[]⟩,⟨#[]⟩,[]⟩).1)⟩:=by
 unfold opA SY
 exact jC _ _ _ _ _ _ _ _ _
theorem awk:∃ o1 o2 M2 OP aps EB x y,Awk o1 o2 M2 OP aps EB x y:=by
 have h1:=uj
 have h2:=fq (f:=1) (by omega)
 have h3:=bV 1
 have h4:=nT 1
 have h5:=zI
 have h6:=Ny [2]
 have h7:=uq
 have h8:=jB
 have h9:=qj
 have ha:=uf
 have hb:=ug
 have hc:=uh
 have hs1:=jF 1
 have hs2:=jE 1 2
 have hq1:=fun msg=>nP 1 (by omega) msg [1]
 have hq2:=fun msg=>nQ 1 (by omega) msg [1]
 have hq3:=fun msg=>bS 1 msg [1]
 generalize KF 1 2=o2 at*
 generalize DR 1=o1 at*
 generalize opA=OP at*
 generalize Bj [2]=M at*
 obtain⟨msg,JF⟩:∃ m,m=(AZ o1 ⟨2,sAB,M,1,⟨#[]⟩,⟨#[]⟩,[]⟩).1:=⟨_,rfl⟩
 rw[<- JF] at h7
 obtain⟨aps,iI⟩:∃ a,a=[1].map (Dm 1 msg):=⟨_,rfl⟩
 have hl:aps.length=1:=by rw[iI,List.length_map];rfl
 have hq1:=hq1 msg
 have hq2:=hq2 msg
 have hq3:=hq3 msg
 rw[<- iI] at h7 hq1 hq2 hq3
 have hsum:Es aps<=100:=by rw[hq3];exact Nat.le_add_left 4 96
 exact⟨o1,o2,M,OP,aps,(Dh OP).1,_,_,⟨h1,h2,h3,h4,h5,h6,by rw[<- JF,iI],h7,hl,h8,ha,rfl,hb,rfl,hc,qo h9.1,h9.2.1,h9.2.2,hq1,hq2,hsum,hs1,hs2⟩⟩
end Own
end
section
open Go Go.RowKit Go.Maps
namespace Own
def zJ (w:World)(R:Ao × Int)(e:Ending)(w' : World):Prop:=
 ∃ sv kv,e=.returned (.tuple #[.agg #[.int .i64 R.1.count,sv,kv],.int .i64 R.2])/\Aq 3 EI (fun k=>w.heap.size<=k) w' sv R.1.spaces/\Aq 2 aQ (fun k=>w.heap.size<=k) w' kv R.1.keys/\Below w.heap.size w w'
theorem Qo.val {w:World}{R:Ao × Int}{e:Ending}{w' : World}(h:Qo w R e w'):zJ w R e w':=by
 obtain⟨R1,R2⟩:=R
 obtain⟨⟨_,h2,rfl⟩|⟨h1,sv,kv,rfl,h3,h4⟩,hb⟩:=h
 ·have h2:R1=.none:=h2
  subst h2
  exact⟨_,_,rfl,Aq.nil _ _,Aq.nil _ _,hb⟩
 ·have h1:R2=0:=h1
  subst h1
  exact⟨sv,kv,rfl,h3,h4,hb⟩
theorem bW (o:Ao)(op:Op)(i:Nat)(hi:i<2)(ks:List Nat):∀ a∈(Bg o op i ks).Aa,a.name.size<=140737488355328/\a.sig.chains.length<=140737488355328/\a.sig.path.length<=140737488355328:=fun a ha=>by
 rw[GN] at ha
 obtain⟨b,_,rfl⟩:=List.mem_map.1 ha
 obtain⟨_,h2,_,h4,_⟩:=Og (Qp b i hi (AZ o (opW op [])).1)
 refine⟨?_,by omega,by omega⟩
 rw[show(Dm i (AZ o (opW op [])).1 b).name=CG b from rfl,Kv]
 decide
theorem bX (l:List Nat):(keysOf l).length<=256:=by
 unfold keysOf
 have:=List.length_filter_le (fun b=>decide (b∈l)) (List.range 256)
 simpa using this
end Own
theorem Tc (p:ByteArray)(th:Int)(l:List Nat)(a:Option Addr)(c:Nat)(w:World)(hM:Il w)(h:Dt w (.slice a l.length c) l)(hl:∀ b∈l,b<256)(h1:1<=l.length)(h12:l.length<=12):
 Calls Tryz.prog 29 #[.string p,.int .i64 th,.slice a l.length c] w (Own.zJ w (Own.Cg .none (Own.Bg .none (Own.EY p th (Own.keysOf l)) 0 (Own.keysOf l)))):=by
 have hkl:=Own.JJ l
 have hkn:=Own.bX l
 have hmb:=fun W (hW:Below w.heap.size w W)=>Ir l a c W (h.below hW) hl h1 h12
 have hcp:=fun base g n cap L W (h:Fz base W (.slice (some ⟨g,0,none⟩) n cap) n L) hn hn2 hcap ho hm=>Nf base g n cap L l W h hn hn2 hcap ho hl hm
 obtain⟨K,hK⟩:∃ K,K=Own.keysOf l:=⟨_,rfl⟩
 rw[<- hK] at hkl hkn ⊢
 simp only[<- hK] at hcp hmb
 have hsg:=fun(mv av:Value) (ka:Option Addr) (kc:Nat) W (hM:Il W) (hm:Own.Af W mv (Own.EY p th K).members) ha hk=>Jm .none (Own.EY p th K) 0 K (.slice none 0 0) (.slice none 0 0) mv av ka kc W hM (by omega) ⟨_,_,_,rfl⟩ ⟨_,_,_,rfl⟩ hm ha (by show(Own.Bj K).length<=_;rw[show(Own.Bj K).length=K.length from List.length_map _];omega) hk hkl.lt (by omega)
 have hap:=fun(mv av:Value) W (hM:Il W) (hm:Own.Af W mv (Own.Bj K)) hA=>PE .none (Own.Bg .none (Own.EY p th K) 0 K) (.slice none 0 0) (.slice none 0 0) mv av W hM (Aq.nil _ _) (Aq.nil _ _) hm hA (by decide) (by decide) (fun s hs=>by cases hs) (by show(Own.Bj K).length<=_;rw[show(Own.Bj K).length=K.length from List.length_map _];omega) (Own.bW _ _ _ (by omega) _)
 have hov:∀ mv av,Own.opV (Own.EY p th K) mv av=.agg #[.int .i64 0,.string p,mv,.int .i64 th,.string ⟨#[]⟩,.string ⟨#[]⟩,av]:=fun _ _=>rfl
 simp only[hov] at hsg
 clear hov
 obtain⟨OPS,qy⟩:∃ x,x=Own.Bg .none (Own.EY p th K) 0 K:=⟨_,rfl⟩
 have jl:∀ (mv av:Value) (ka:Option Addr) (kc:Nat) (W:World),Il W->Own.Af W mv (Own.Bj K)->(∃ a c,av=.slice a 0 c)->Dt W (.slice ka K.length kc) K->
  Calls Tryz.prog 30 #[.agg #[.int .i64 0,.slice none 0 0,.slice none 0 0],.agg #[.int .i64 0,.string p,mv,.int .i64 th,.string ⟨#[]⟩,.string ⟨#[]⟩,av],.int .i64 0,.slice ka K.length kc] W fun e w' => ∃ av',e=.returned (Own.opV OPS mv av')/\Own.CJ W.heap.size w' av' OPS.Aa/\Below W.heap.size W w':=fun mv av ka kc W hM hm ha hk=>by
  refine(hsg mv av ka kc W hM hm ha hk).mono ?_
  rintro e w' ⟨av',e1,e2,e3⟩
  rw[qy]
  exact⟨av',e1,e2,e3⟩
 rw[<- qy]
 simp only[<- qy] at hap
 obtain⟨R,hR⟩:∃ R,R=Own.Cg .none OPS:=⟨_,rfl⟩
 simp only[<- hR] at hap ⊢
 have HMB:=zh hmb;have HCP:=zh hcp;have HSG:=zh jl;have HAP:=zh hap;have HM:=zh hM;have HH:=zh h
 clear hmb hcp hsg jl hap hM h hl hK qy hR hkl
 have F1:=zh (show Au w _ [(25,#[.int .i64 0,.slice none 0 0,.slice none 0 0]),(25,#[.int .i64 0,.slice none 0 0,.slice none 0 0])] from(((CY.nil w).push 25 #[.int .i64 0,.slice none 0 0,.slice none 0 0]).push 25 #[.int .i64 0,.slice none 0 0,.slice none 0 0]).boxes)
 go_enter Tryz.func29,Tryz.ntmps29
 go_upto_region 2 with fail
 generalize ((w.alloc (.cells #[.int .i64 0,.slice none 0 0,.slice none 0 0] 25)).alloc (.cells #[.int .i64 0,.slice none 0 0,.slice none 0 0] 25))=w1 at*
 go_wp2_with fail
 refine(HMB.out w1 F1.out.under).mono ?_
 rintro e w2 ⟨mv,rfl,hm2,hb2⟩
 have F2:=zh (F1.out.step hb2)
 obtain⟨ma,mn,mc,rfl⟩:=Ac hm2
 have hmc:Own.Af w2 (.slice ma mn mc) (Own.Bj K):=Own.Af.of (Bc.own hm2) rfl
 have hm3:=HM.out.below F2.out.under
 have HMM:=zh hmc;have HM2:=zh hm3
 clear hmc hm2 hb2 hm3 F1
 go_upto_region 4 with fail
 have hb3:Below w2.heap.size w2 (w2.alloc (.cells #[.int .i64 0,.string p,.slice ma mn mc,.int .i64 th,.string ⟨#[]⟩,.string ⟨#[]⟩,.slice none 0 0] 29)):=zb
 have hat:=At.new w2 29 #[.int .i64 0,.string p,.slice ma mn mc,.int .i64 th,.string ⟨#[]⟩,.string ⟨#[]⟩,.slice none 0 0]
 have F3:=zh (F2.out.step hb3);have HAT:=zh hat;have zK:=zh (HMM.out.below hb3)
 clear hb3 hat F2 HMM HM2
 generalize w2.alloc (.cells #[.int .i64 0,.string p,.slice ma mn mc,.int .i64 th,.string ⟨#[]⟩,.string ⟨#[]⟩,.slice none 0 0] 29)=w3 at*
 obtain⟨g,hg⟩:∃ g,g=w2.heap.size:=⟨_,rfl⟩
 rw[<- hg] at HAT ⊢
 clear hg
 have c0:=HAT.out.cell 0;have c1:=HAT.out.cell 1;have c2:=HAT.out.cell 2;have c3:=HAT.out.cell 3;have c4:=HAT.out.cell 4;have c5:=HAT.out.cell 5;have c6:=HAT.out.cell 6
 simp only[zg] at c0 c1 c2 c3 c4 c5 c6
 obtain⟨x10,x11,x12⟩:=F3.out.sI rfl
 have Y1:=zh (zi x10)
 have Y2:=zh (zi c0)
 have hlt1:w.heap.size+1<w3.heap.size:=F3.out.lt (i:=1) (by show 1<2;omega)
 have hlt2:g<w3.heap.size:=HAT.out.lt
 refine Lex.zn (fun k=>k=w.heap.size+1\/k=g) [0,1,2] 11 [5,1,1,1,1] ?_
 simp only[Lex.Bp,zd]
 go_wp2_with fail
 refine(Pq a l.length c _).mono ?_
 rintro e _ ⟨rfl,rfl⟩
 have hb4:Below w3.heap.size w3 (w3.alloc (.cells #[.slice a l.length c] 66)).drew:=((Below.refl w3.heap.size w3).alloc (Nat.le_refl _) _).drew
 have B4:=zh hb4;have C4:=zh (show(w3.alloc (.cells #[.slice a l.length c] 66)).drew.cell? ⟨w3.heap.size,0,none⟩=some (.slice a l.length c) from Xq w3 (.slice a l.length c) 66);have H4:=zh (HH.out.below (F3.out.under.trans (hb4.mono F3.out.under.size)))
 clear hb4 c0 c1 c2 c3 c4 c5 c6
 (try clear x10 x11 x12)
 go_wp2_with fail
 generalize (w3.alloc (.cells #[.slice a l.length c] 66)).drew=w4 at*
 refine Lex.Mid.intro (fun k hk _=>by rcases hk with hk|hk<;>(rw[hk];exact B4.out.block _ (by omega))) ?_
 go_wp2_with fail
 refine(Pp w3.heap.size _ l _ C4.out H4.out h1 h12).mono ?_
 rintro e w5 ⟨v',L',rfl,hl',hr',ho',hm',hb5⟩
 obtain⟨gk,cap,rfl,_⟩:=Ct hr' (by omega)
 have hgc:=(dR hr').1
 have hgu:=Ak hr' gk rfl
 have B5:=zh (B4.out.trans (hb5.mono B4.out.size))
 have HR:=zh hr';have HO:=zh ho';have HMm:=zh hm'
 have hg0:w3.heap.size<=gk:=Nat.le_trans B4.out.size hgu
 clear hr' ho' hm' hb5 hgu H4 C4 B4
 go_wp2
 refine Lex.Mid.intro (fun k hk _=>by rcases hk with hk|hk<;>(rw[hk];exact B5.out.block _ (by omega))) ?_
 go_wp2_with fail
 refine(HCP.out _ gk l.length cap L' _ HR.out h1 (by omega) hgc HO.out HMm.out).mono ?_
 rintro e w6 ⟨rfl,hk,hf⟩
 have B6:=zh (B5.out.trans (hf.below B5.out.size (fun k hk=>by rw[hk];exact hg0)))
 have HK:=zh hk
 clear hk hf B5 HR HO HMm HCP hg0
 go_wp2
 refine Lex.Mid.intro (fun k hk _=>by rcases hk with hk|hk<;>(rw[hk];exact B6.out.block _ (by omega))) ?_
 go_wp2_with fail
 have F6:=zh (F3.out.step B6.out)
 refine(HSG.out (.slice ma mn mc) (.slice none 0 0) _ _ w6 (HM.out.below F6.out.under) (zK.out.below B6.out) ⟨_,_,rfl⟩ HK.out).mono ?_
 rintro e w7 ⟨av,rfl,hav,hb7⟩
 have B7:=zh (B6.out.trans (hb7.mono B6.out.size))
 have F7:=zh (F3.out.step B7.out)
 have HAV:=zh hav
 clear hav hb7 HK F6 B6
 obtain⟨V,hV⟩:∃ V,V=Own.opV OPS (.slice ma mn mc) av:=⟨_,rfl⟩
 rw[<- hV]
 have HV:=zh hV;clear hV
 go_wp2
 refine Lex.Mid.intro (fun k hk _=>by rcases hk with hk|hk<;>(rw[hk];exact B7.out.block _ (by omega))) ?_
 go_wp2_with fail
 have happ:=HAP.out (.slice ma mn mc) av w7 (HM.out.below F7.out.under) (zK.out.below B7.out) HAV.out.mG.out
 rw[<- HV.out] at happ
 refine happ.mono ?_
 intro e w8 hp
 obtain⟨sv,kv,rfl,hs8,hk8,hb8⟩:=hp.val
 have B8:=zh (B7.out.trans (hb8.mono B7.out.size))
 have F8:=zh (F7.out.step hb8)
 have hz7:w.heap.size+2<=w7.heap.size:=F7.out.size
 obtain⟨sa,sc,rfl⟩:=hs8.len
 obtain⟨ya,yc,rfl⟩:=hk8.len
 have HS8:=zh hs8;have HK8:=zh hk8
 clear hp hs8 hk8 hb8 happ B7 F7
 obtain⟨x00,x01,x02,wQ,wT,wU⟩:=F8.out.wI rfl
 obtain⟨R1,R2⟩:=R
 dsimp only at*
 go_wp2
 refine Lex.Mid.intro (fun k hk _=>by rcases hk with hk|hk<;>(rw[hk];exact B8.out.block _ (by omega))) ?_
 go_wp2
 refine Lex.zk ⟨⟨.inl rfl,Y1.out⟩,⟨.inl rfl,Y1.out⟩,⟨.inr rfl,Y2.out⟩,trivial⟩ ?_
 go_wp2
 have G2:=((F8.out.put 0 0 (.int .i64 R1.count) rfl).put 0 1 (.slice sa R1.spaces.length sc) rfl).put 0 2 (.slice ya R1.keys.length yc) rfl
 refine BJ rfl rfl rfl (AJ (G2.at1 0 rfl) Tryz.underlying25 rfl Bt) ⟨_,_,rfl,?_,?_,G2.under⟩
 ·exact (HS8.out.keep (by simp [World.setCell]) (fun k hk _ => by
   have hne:k≠w.heap.size:=by omega
   rw[zo hne,zo hne,zo hne])).mono (fun k hk _=>by omega)
 ·exact (HK8.out.keep (by simp [World.setCell]) (fun k hk _ => by
   have hne:k≠w.heap.size:=by omega
   rw[zo hne,zo hne,zo hne])).mono (fun k hk _=>by omega)
theorem Zu (s t:Sig.T)(cv pv cv2 pv2:Value)(w:World)(hc:Al w cv s.chains)(hp:Al w pv s.path)(hc2:Al w cv2 t.chains)(hp2:Al w pv2 t.path)(hl:s.chains.length<=140737488355328)(hlp:s.path.length<=140737488355328)(hl2:t.chains.length<=140737488355328)(zbb:t.path.length<=140737488355328):
 Calls Tryz.prog 143 #[.agg #[.int .i64 s.index,cv,pv],.agg #[.int .i64 t.index,cv2,pv2]] w fun e w' => e=.returned (.bool (decide (s.index=t.index)&&decide (s.chains=t.chains)&&decide (s.path=t.path)))/\Below w.heap.size w w':=by
 obtain⟨R,hR⟩:∃ R,R=(decide (s.index=t.index)&&decide (s.chains=t.chains)&&decide (s.path=t.path)):=⟨_,rfl⟩
 rw[<- hR]
 obtain⟨ca,cc,rfl⟩:=hc.len
 obtain⟨pa,pc,rfl⟩:=hp.len
 obtain⟨da,dc,rfl⟩:=hc2.len
 obtain⟨qa,qc,rfl⟩:=hp2.len
 have HR:=zh hR;clear hR
 have F1:=zh (show Au w _ [(70,#[.int .i64 s.index,.slice ca s.chains.length cc,.slice pa s.path.length pc]),(70,#[.int .i64 t.index,.slice da t.chains.length dc,.slice qa t.path.length qc])] from(((CY.nil w).push 70 #[.int .i64 s.index,.slice ca s.chains.length cc,.slice pa s.path.length pc]).push 70 #[.int .i64 t.index,.slice da t.chains.length dc,.slice qa t.path.length qc]).boxes)
 have hsc:=fun W (hW:Below w.heap.size w W)=>Pb _ _ s.chains t.chains W (hc.below hW) (hc2.below hW) hl hl2
 have hsp:=fun W (hW:Below w.heap.size w W)=>Pb _ _ s.path t.path W (hp.below hW) (hp2.below hW) hlp zbb
 have HSC:=zh hsc;have HSP:=zh hsp
 clear hc hp hc2 hp2 hsc hsp
 go_enter Tryz.func143,Tryz.ntmps143
 go_upto_region 1 with fail
 generalize ((w.alloc (.cells #[.int .i64 s.index,.slice ca s.chains.length cc,.slice pa s.path.length pc] 70)).alloc (.cells #[.int .i64 t.index,.slice da t.chains.length dc,.slice qa t.path.length qc] 70))=w1 at*
 obtain⟨x00,x01,x02⟩:=F1.out.Fw rfl
 obtain⟨x10,x11,x12⟩:=F1.out.sI rfl
 by_cases i1:s.index=t.index
 case neg=>
  have e1:(s.index==t.index)=false:=by rw[beq_eq_false_iff_ne];exact i1
  have HE:=zh (show R=false by rw[HR.out,decide_eq_false i1];rfl)
  go_wp2
  go_ret
  exact⟨by rw[HE.out];rfl,F1.out.under⟩
 have e1:(s.index==t.index)=true:=by rw[beq_iff_eq];exact i1
 have I1:=zh i1;clear i1
 go_wp2_with fail
 refine(HSC.out w1 F1.out.under).mono ?_
 rintro e _ ⟨rfl,q,rfl⟩
 have hbq:Below w1.heap.size w1 (w1.drewN q):=below_drewN (Below.refl _ _) q
 have F2:=zh (F1.out.step hbq)
 clear hbq
 generalize w1.drewN q=w2 at*
 (try clear x00 x01 x02);(try clear x10 x11 x12)
 obtain⟨x00,x01,x02⟩:=F2.out.Fw rfl
 obtain⟨x10,x11,x12⟩:=F2.out.sI rfl
 by_cases i2:s.chains=t.chains
 case neg=>
  rw[decide_eq_false i2]
  have HE:=zh (show R=false by rw[HR.out,decide_eq_false i2];simp)
  clear i2
  go_wp2
  go_ret
  exact⟨by rw[HE.out];rfl,F2.out.under⟩
 rw[decide_eq_true i2]
 have HE:=zh (show R=decide (s.path=t.path) by rw[HR.out,decide_eq_true I1.out,decide_eq_true i2];rfl)
 clear i2
 go_wp2_with fail
 refine(HSP.out w2 F2.out.under).mono ?_
 rintro e _ ⟨rfl,q,rfl⟩
 have hbq:Below w2.heap.size w2 (w2.drewN q):=below_drewN (Below.refl _ _) q
 have F3:=zh (F2.out.step hbq)
 clear hbq
 generalize w2.drewN q=w3 at*
 go_wp2
 go_ret
 exact⟨by rw[HE.out];rfl,F3.out.under⟩
theorem Td (l:List Own.Ai)(v1 v2:Value)(w:World)(h1:Own.Hq w v1 l)(h2:Own.Hq w v2 l)(hl:l.length<=140737488355328)(hal:∀ a∈l,a.sig.chains.length<=140737488355328/\a.sig.path.length<=140737488355328):
 Calls Tryz.prog 89 #[v1,v2] w fun e w' => e=.returned (.bool true)/\Below w.heap.size w w':=by
 obtain⟨a1,c1,rfl,hp1⟩:=id h1
 obtain⟨a2,c2,rfl,hp2⟩:=id h2
 clear hp1 hp2
 have H1:=zh h1;have H2:=zh h2;have HAL:=zh hal
 clear h1 h2 hal
 go_enter Tryz.func89,Tryz.ntmps89
 go_wp2
 go_loopw [5] (fun i wr=>∃ k:Nat,k<=l.length/\i=.int .i64 k/\Below w.heap.size w wr) (fun i _=>l.length-(intOf i).toNat)
 case atStart=>exact⟨0,by omega,rfl,Below.refl _ _⟩
 case round=>
  obtain⟨k,hk,rfl,hb⟩:=hrel
  have HB:=zh hb
  by_cases hlt:k<l.length
  case neg=>
   have dk:decide ((k:Int)<(l.length:Int))=false:=zf
   clear hb
   go_wp2
   go_ret
   exact⟨rfl,HB.out⟩
  have dk:decide ((k:Int)<(l.length:Int))=true:=zt
  obtain⟨a',c',hv,hcs⟩:=H1.out.below hb
  cases hv
  obtain⟨b,o,cv,pv,ha,hbl,e0,e1,e2,e3,hcv,hpv,_⟩:=hcs k hlt
  clear hcs
  obtain⟨a',c',hv,hcs⟩:=H2.out.below hb
  cases hv
  obtain⟨b2,o2,cv2,pv2,ha2,zb6,g0,g1,g2,g3,qA,hpv2,_⟩:=hcs k hlt
  clear hcs
  subst ha
  subst ha2
  obtain⟨z2,z3⟩:=HAL.out l[k] (List.getElem_mem hlt)
  obtain⟨x,hx⟩:∃ x,x=l[k]:=⟨_,rfl⟩
  rw[<- hx] at e0 e1 g0 g1 hcv hpv qA hpv2 z2 z3
  have hsm:=Zu x.sig x.sig cv pv cv2 pv2 wr.drew hcv hpv qA hpv2 z2 z3 z2 z3
  rw[decide_eq_true (rfl:x.sig.index=x.sig.index),decide_eq_true (rfl:x.sig.chains=x.sig.chains),decide_eq_true (rfl:x.sig.path=x.sig.path)] at hsm
  obtain⟨ca,cc,rfl⟩:=hcv.len
  obtain⟨pa,pc,rfl⟩:=hpv.len
  obtain⟨ca2,cc2,rfl⟩:=qA.len
  obtain⟨pa2,pc2,rfl⟩:=hpv2.len
  have HSM:=zh hsm
  clear hx hsm hb hcv hpv qA hpv2
  obtain⟨xn,⟨xi,xc,xp⟩⟩:=x
  dsimp only at*
  go_wp2
  refine Lex.zl ?_
  go_wp2_with fail
  refine HSM.out.mono ?_
  rintro e w7 ⟨rfl,hb7⟩
  have B7:=zh (HB.out.trans ((show Below wr.heap.size wr w7 from(Below.refl wr.heap.size wr).drew.trans hb7).mono HB.out.size))
  clear hb7 e0 e1 e2 e3 g0 g1 g2 g3
  go_wp2
  refine Lex.ze ?_
  go_wp2_with fail
  (try go_round)
  case measure=>simp[intOf];omega
  case rel=>exact⟨k+1,by omega,by go_num,B7.out⟩
theorem uw (x y:ByteArray):(x==y)=decide (x=y):=by
 rw[Bool.eq_iff_iff,decide_eq_true_iff]
 constructor
 ·intro h
  cases x;cases y
  have h' : (_:Array UInt8)==_:=h
  exact congrArg ByteArray.mk (eq_of_beq h')
 ·rintro rfl
  cases x
  show(_:Array UInt8)==_
  exact BEq.rfl
theorem Ki (D:Nat)(a c:ByteArray)(w:World):(Op.equalIn (D+1) 9 (.string a) (.string c)).run Tryz.prog w=.ok (a==c) w:=by
 rw[Op.equalIn]
 simp[Tryz.underlying9]
theorem Te (D:Nat)(a b c d:ByteArray)(w:World):(Op.equalIn (D+2) 76 (.agg #[.string a,.string b]) (.agg #[.string c,.string d])).run Tryz.prog w=.ok ((a==c)&&(b==d)) w:=by
 have hs:Tryz.prog.stoodInHeld 76=false:=by kernel_rfl
 have e1:=Ki D a c w
 have e2:=Ki D b d w
 have s1:∀ w,(sizeOf 9).run Tryz.prog w=.ok 1 w:=fun w=>by kernel_rfl
 have s2:∀ w,(isAgg 9).run Tryz.prog w=.ok false w:=fun w=>by kernel_rfl
 rw[Op.equalIn]
 cases h1:a==c<;>cases h2:b==d<;>rw[h1] at e1<;>rw[h2] at e2<;>simp[Tryz.underlying76,hs,part,e1,e2,s1,s2,Result.andThen]
theorem zcB (D:Nat)(a c:Int)(w:World):(Op.equalIn (D+1) 3 (.int .i64 a) (.int .i64 c)).run Tryz.prog w=.ok (a==c) w:=by
 rw[Op.equalIn]
 simp[Tryz.underlying3]
theorem Zv (a:ByteArray):(a==a)=true:=by rw[uw];simp
theorem Qd (a b:ByteArray)(w:World):(binOp .neq 76 (.agg #[.string a,.string b]) (.agg #[.string a,.string b])).run Tryz.prog w=.ok (.bool false) w:=by
 have h2:(Op.equal 76 (.agg #[.string a,.string b]) (.agg #[.string a,.string b])).run Tryz.prog w=.ok ((a==a)&&(b==b)) w:=Te 9998 a b a b w
 rw[Zv,Zv] at h2
 simp[binOp,h2,Result.andThen]
theorem zcq (a:ByteArray)(c:Int)(w:World):(binOp .neq 59 (.agg #[.string a,.int .i64 c]) (.agg #[.string a,.int .i64 c])).run Tryz.prog w=.ok (.bool false) w:=by
 have hs:Tryz.prog.stoodInHeld 59=false:=by kernel_rfl
 have e1:=Ki 9998 a a w
 have e3:=zcB 9998 c c w
 have s1:∀ w,(sizeOf 9).run Tryz.prog w=.ok 1 w:=fun w=>by kernel_rfl
 have s2:∀ w,(isAgg 9).run Tryz.prog w=.ok false w:=fun w=>by kernel_rfl
 have s3:∀ w,(sizeOf 3).run Tryz.prog w=.ok 1 w:=fun w=>by kernel_rfl
 have s4:∀ w,(isAgg 3).run Tryz.prog w=.ok false w:=fun w=>by kernel_rfl
 have h2:(Op.equal 59 (.agg #[.string a,.int .i64 c]) (.agg #[.string a,.int .i64 c])).run Tryz.prog w=.ok true w:=by
  show(Op.equalIn (9998+2) 59 _ _).run Tryz.prog w=_
  rw[Zv] at e1
  rw[Op.equalIn]
  simp[Tryz.underlying59,hs,part,e1,e3,s1,s2,s3,s4,Result.andThen]
 simp[binOp,h2,Result.andThen]
theorem Xi (s:Own.Space)(v1 v2:Value)(w:World)(h1:Own.Af w v1 s.members)(h2:Own.Af w v2 s.members)(hl:s.members.length<=140737488355328):
 Calls Tryz.prog 23 #[.agg #[.string s.pre,v1,.int .i64 s.threshold],.agg #[.string s.pre,v2,.int .i64 s.threshold]] w fun e w' => e=.returned (.bool true)/\Below w.heap.size w w':=by
 obtain⟨pre,l,th⟩:=s
 dsimp only at*
 obtain⟨a1,c1,rfl⟩:=h1.len
 obtain⟨a2,c2,rfl⟩:=h2.len
 have F1:=zh (show Au w _ [(39,#[.string pre,.slice a1 l.length c1,.int .i64 th]),(39,#[.string pre,.slice a2 l.length c2,.int .i64 th])] from(((CY.nil w).push 39 #[.string pre,.slice a1 l.length c1,.int .i64 th]).push 39 #[.string pre,.slice a2 l.length c2,.int .i64 th]).boxes)
 have x00:((w.alloc (.cells #[.string pre,.slice a1 l.length c1,.int .i64 th] 39)).alloc (.cells #[.string pre,.slice a2 l.length c2,.int .i64 th] 39)).cell? ⟨w.heap.size,0,none⟩=some (.string pre):=F1.out.cell 0 0 rfl rfl
 have x01:((w.alloc (.cells #[.string pre,.slice a1 l.length c1,.int .i64 th] 39)).alloc (.cells #[.string pre,.slice a2 l.length c2,.int .i64 th] 39)).cell? ⟨w.heap.size,1,none⟩=some (.slice a1 l.length c1):=F1.out.cell 0 1 rfl rfl
 have x02:((w.alloc (.cells #[.string pre,.slice a1 l.length c1,.int .i64 th] 39)).alloc (.cells #[.string pre,.slice a2 l.length c2,.int .i64 th] 39)).cell? ⟨w.heap.size,2,none⟩=some (.int .i64 th):=F1.out.cell 0 2 rfl rfl
 have x10:((w.alloc (.cells #[.string pre,.slice a1 l.length c1,.int .i64 th] 39)).alloc (.cells #[.string pre,.slice a2 l.length c2,.int .i64 th] 39)).cell? ⟨w.heap.size+1,0,none⟩=some (.string pre):=F1.out.cell 1 0 rfl rfl
 have x11:((w.alloc (.cells #[.string pre,.slice a1 l.length c1,.int .i64 th] 39)).alloc (.cells #[.string pre,.slice a2 l.length c2,.int .i64 th] 39)).cell? ⟨w.heap.size+1,1,none⟩=some (.slice a2 l.length c2):=F1.out.cell 1 1 rfl rfl
 have x12:((w.alloc (.cells #[.string pre,.slice a1 l.length c1,.int .i64 th] 39)).alloc (.cells #[.string pre,.slice a2 l.length c2,.int .i64 th] 39)).cell? ⟨w.heap.size+1,2,none⟩=some (.int .i64 th):=F1.out.cell 1 2 rfl rfl
 have H1:=zh h1;have H2:=zh h2
 clear h1 h2
 go_enter Tryz.func23,Tryz.ntmps23
 go_wp2_with fail
 generalize ((w.alloc (.cells #[.string pre,.slice a1 l.length c1,.int .i64 th] 39)).alloc (.cells #[.string pre,.slice a2 l.length c2,.int .i64 th] 39))=w1 at*
 go_loopw [5] (fun i wr=>∃ k:Nat,k<=l.length/\i=.int .i64 k/\Below w1.heap.size w1 wr) (fun i _=>l.length-(intOf i).toNat)
 case atStart=>exact⟨0,by omega,rfl,Below.refl _ _⟩
 case round=>
  obtain⟨k,hk,rfl,hb⟩:=hrel
  have HBW:=zh hb;have FR:=zh (F1.out.step hb)
  clear hb
  (try clear x00);(try clear x01);(try clear x02);(try clear x10);(try clear x11);(try clear x12)
  have x01:wr.cell? ⟨w.heap.size,1,none⟩=some (.slice a1 l.length c1):=FR.out.cell 0 1 rfl rfl
  have x11:wr.cell? ⟨w.heap.size+1,1,none⟩=some (.slice a2 l.length c2):=FR.out.cell 1 1 rfl rfl
  by_cases hlt:k<l.length
  case neg=>
   have dk:decide ((k:Int)<l.length)=false:=zf
   go_wp2
   go_ret
   exact⟨rfl,FR.out.under⟩
  have dk:decide ((k:Int)<l.length)=true:=zt
  obtain⟨b,o,ha,hbl,e0,e1⟩:=Own.Af.cells (H1.out.below FR.out.under) hlt
  obtain⟨b',o',ha',zb7,e0',e1'⟩:=Own.Af.cells (H2.out.below FR.out.under) hlt
  subst ha
  subst ha'
  obtain⟨x,hx⟩:∃ x,x=l[k]:=⟨_,rfl⟩
  rw[<- hx] at e0 e1 e0' e1'
  obtain⟨n,pu⟩:=x
  dsimp only at e0 e1 e0' e1'
  have hne:=Qd n pu
  clear hx
  go_wp2_with fail
  go_quiet (fail)
  go_wp2
  go_round
  case measure=>simp[intOf];omega
  case rel=>exact⟨k+1,by omega,by go_num,below_drewN HBW.out nq⟩
theorem zcC (q:Own.Ao)(v1 v2 k1 k2:Value)(w:World)(h1:Own.BF w v1 q.spaces)(h2:Own.BF w v2 q.spaces)(g1:Own.Du w k1 q.keys)(g2:Own.Du w k2 q.keys)(hl:q.spaces.length<=140737488355328)(hk:q.keys.length<=140737488355328)(hv:∀ p∈q.spaces,p.members.length<=140737488355328):
 Calls Tryz.prog 22 #[.agg #[.int .i64 q.count,v1,k1],.agg #[.int .i64 q.count,v2,k2]] w fun e w' => e=.returned (.bool true)/\Below w.heap.size w w':=by
 obtain⟨nx,l,K⟩:=q
 dsimp only at*
 obtain⟨a1,c1,rfl⟩:=h1.len
 obtain⟨a2,c2,rfl⟩:=h2.len
 obtain⟨b1,d1,rfl⟩:=g1.len
 obtain⟨b2,d2,rfl⟩:=g2.len
 have F1:=zh (show Au w _ [(25,#[.int .i64 nx,.slice a1 l.length c1,.slice b1 K.length d1]),(25,#[.int .i64 nx,.slice a2 l.length c2,.slice b2 K.length d2])] from(((CY.nil w).push 25 #[.int .i64 nx,.slice a1 l.length c1,.slice b1 K.length d1]).push 25 #[.int .i64 nx,.slice a2 l.length c2,.slice b2 K.length d2]).boxes)
 have x00:((w.alloc (.cells #[.int .i64 nx,.slice a1 l.length c1,.slice b1 K.length d1] 25)).alloc (.cells #[.int .i64 nx,.slice a2 l.length c2,.slice b2 K.length d2] 25)).cell? ⟨w.heap.size,0,none⟩=some (.int .i64 nx):=F1.out.cell 0 0 rfl rfl
 have x01:((w.alloc (.cells #[.int .i64 nx,.slice a1 l.length c1,.slice b1 K.length d1] 25)).alloc (.cells #[.int .i64 nx,.slice a2 l.length c2,.slice b2 K.length d2] 25)).cell? ⟨w.heap.size,1,none⟩=some (.slice a1 l.length c1):=F1.out.cell 0 1 rfl rfl
 have x02:((w.alloc (.cells #[.int .i64 nx,.slice a1 l.length c1,.slice b1 K.length d1] 25)).alloc (.cells #[.int .i64 nx,.slice a2 l.length c2,.slice b2 K.length d2] 25)).cell? ⟨w.heap.size,2,none⟩=some (.slice b1 K.length d1):=F1.out.cell 0 2 rfl rfl
 have x10:((w.alloc (.cells #[.int .i64 nx,.slice a1 l.length c1,.slice b1 K.length d1] 25)).alloc (.cells #[.int .i64 nx,.slice a2 l.length c2,.slice b2 K.length d2] 25)).cell? ⟨w.heap.size+1,0,none⟩=some (.int .i64 nx):=F1.out.cell 1 0 rfl rfl
 have x11:((w.alloc (.cells #[.int .i64 nx,.slice a1 l.length c1,.slice b1 K.length d1] 25)).alloc (.cells #[.int .i64 nx,.slice a2 l.length c2,.slice b2 K.length d2] 25)).cell? ⟨w.heap.size+1,1,none⟩=some (.slice a2 l.length c2):=F1.out.cell 1 1 rfl rfl
 have x12:((w.alloc (.cells #[.int .i64 nx,.slice a1 l.length c1,.slice b1 K.length d1] 25)).alloc (.cells #[.int .i64 nx,.slice a2 l.length c2,.slice b2 K.length d2] 25)).cell? ⟨w.heap.size+1,2,none⟩=some (.slice b2 K.length d2):=F1.out.cell 1 2 rfl rfl
 have H1:=zh h1;have H2:=zh h2;have HV:=zh hv;have G1:=zh g1;have G2:=zh g2
 clear h1 h2 hv g1 g2
 go_enter Tryz.func22,Tryz.ntmps22
 go_wp2_with fail
 generalize ((w.alloc (.cells #[.int .i64 nx,.slice a1 l.length c1,.slice b1 K.length d1] 25)).alloc (.cells #[.int .i64 nx,.slice a2 l.length c2,.slice b2 K.length d2] 25))=w1 at*
 go_loopw [5] (fun i wr=>∃ k:Nat,k<=l.length/\i=.int .i64 k/\Below w1.heap.size w1 wr) (fun i _=>l.length-(intOf i).toNat)
 case atStart=>exact⟨0,by omega,rfl,Below.refl _ _⟩
 case round=>
  obtain⟨k,hk,rfl,hb⟩:=hrel
  have HBW:=zh hb;have FR:=zh (F1.out.step hb)
  clear hb
  (try clear x00);(try clear x01);(try clear x02);(try clear x10);(try clear x11);(try clear x12)
  have x01:wr.cell? ⟨w.heap.size,1,none⟩=some (.slice a1 l.length c1):=FR.out.cell 0 1 rfl rfl
  have x11:wr.cell? ⟨w.heap.size+1,1,none⟩=some (.slice a2 l.length c2):=FR.out.cell 1 1 rfl rfl
  by_cases hlt:k<l.length
  case neg=>
   have dk:decide ((k:Int)<l.length)=false:=zf
   go_wp2_with fail
   clear HBW
   (try clear x00);(try clear x01);(try clear x02);(try clear x10);(try clear x11);(try clear x12)
   obtain⟨w2,hw2⟩:∃ w2,w2=wr:=⟨_,rfl⟩
   rw[<- hw2] at FR ⊢
   clear hw2
   have F2:=FR
   clear FR
   go_loopw [6] (fun i wr=>∃ k:Nat,k<=K.length/\i=.int .i64 k/\Below w2.heap.size w2 wr) (fun i _=>K.length-(intOf i).toNat)
   case atStart=>exact⟨0,by omega,rfl,Below.refl _ _⟩
   case round=>
    obtain⟨j,hj,rfl,hb⟩:=hrel
    have HBW:=zh hb;have FR:=zh (F2.out.step hb)
    clear hb
    have x02:wr.cell? ⟨w.heap.size,2,none⟩=some (.slice b1 K.length d1):=FR.out.cell 0 2 rfl rfl
    have x12:wr.cell? ⟨w.heap.size+1,2,none⟩=some (.slice b2 K.length d2):=FR.out.cell 1 2 rfl rfl
    by_cases hlj:j<K.length
    case neg=>
     have dj:decide ((j:Int)<K.length)=false:=zf
     go_wp2
     go_ret
     exact⟨rfl,FR.out.under⟩
    have dj:decide ((j:Int)<K.length)=true:=zt
    obtain⟨b,o,ha,hbl,e0,e1⟩:=Own.Du.cells (G1.out.below FR.out.under) hlj
    obtain⟨b',o',ha',zb7,e0',e1'⟩:=Own.Du.cells (G2.out.below FR.out.under) hlj
    subst ha
    subst ha'
    obtain⟨x,hx⟩:∃ x,x=K[j]:=⟨_,rfl⟩
    rw[<- hx] at e0 e1 e0' e1'
    obtain⟨n,pu⟩:=x
    dsimp only at e0 e1 e0' e1'
    have hne:=zcq n pu
    clear hx
    go_wp2_with fail
    go_quiet (fail)
    go_wp2
    go_round
    case measure=>simp[intOf];omega
    case rel=>exact⟨j+1,by omega,by go_num,below_drewN HBW.out nq⟩
  have dk:decide ((k:Int)<l.length)=true:=zt
  obtain⟨b,o,u,ha,hbl,e0,e1,e2,hu⟩:=Own.BF.cells (H1.out.below FR.out.under) hlt
  obtain⟨b',o',u',ha',zb7,e0',e1',e2',hu'⟩:=Own.BF.cells (H2.out.below FR.out.under) hlt
  subst ha
  subst ha'
  have hvl:=HV.out l[k] (List.getElem_mem hlt)
  obtain⟨x,hx⟩:∃ x,x=l[k]:=⟨_,rfl⟩
  rw[<- hx] at e0 e2 e0' e2' hu hu' hvl
  have hsp:=Xi x u u' wr.drew (hu.below (Below.refl _ _).drew) (hu'.below (Below.refl _ _).drew) hvl
  have HSP:=zh hsp
  clear hx hsp hu hu'
  go_wp2
  refine Lex.zl ?_
  go_wp2_with fail
  refine HSP.out.mono ?_
  rintro e w2 ⟨rfl,hb⟩
  have HB2:=zh (HBW.out.trans (((Below.refl wr.heap.size wr).drew.trans hb).mono HBW.out.size))
  clear hb
  go_wp2
  refine Lex.ze ?_
  go_wp2
  go_round
  case measure=>simp[intOf];omega
  case rel=>exact⟨k+1,by omega,by go_num,HB2.out⟩
theorem Um (op:Own.Op)(mv av mv2 av2:Value)(w:World)(hm:Own.Af w mv op.members)(hm2:Own.Af w mv2 op.members)(hA:Own.Hq w av op.Aa)(hA2:Own.Hq w av2 op.Aa)
 (hl:op.members.length<=140737488355328) (hal:op.Aa.length<=140737488355328) (hall:∀ a∈op.Aa,a.sig.chains.length<=140737488355328/\a.sig.path.length<=140737488355328):
 Calls Tryz.prog 28 #[Own.opV op mv av,Own.opV op mv2 av2] w fun e w' => e=.returned (.bool true)/\Below w.heap.size w w':=by
 obtain⟨kd,pre,ms,th,nm,pb,aps⟩:=op
 unfold Own.opV
 dsimp only at*
 obtain⟨ma,mc,rfl⟩:=hm.len
 obtain⟨na,nc,rfl⟩:=hm2.len
 obtain⟨aa,ac,rfl,hap⟩:=id hA
 obtain⟨ba,bc,rfl,hbp⟩:=id hA2
 clear hap hbp
 have F1:=zh (show Au w _ [(29,#[.int .i64 kd,.string pre,.slice ma ms.length mc,.int .i64 th,.string nm,.string pb,.slice aa aps.length ac]),(29,#[.int .i64 kd,.string pre,.slice na ms.length nc,.int .i64 th,.string nm,.string pb,.slice ba aps.length bc])] from(((CY.nil w).push 29 #[.int .i64 kd,.string pre,.slice ma ms.length mc,.int .i64 th,.string nm,.string pb,.slice aa aps.length ac]).push 29 #[.int .i64 kd,.string pre,.slice na ms.length nc,.int .i64 th,.string nm,.string pb,.slice ba aps.length bc]).boxes)
 have hss:=fun W (hW:Below w.heap.size w W)=>Xi ⟨pre,ms,th⟩ (.slice ma ms.length mc) (.slice na ms.length nc) W (hm.below hW) (hm2.below hW) hl
 have hsa:=fun W (hW:Below w.heap.size w W)=>Td aps (.slice aa aps.length ac) (.slice ba aps.length bc) W (hA.below hW) (hA2.below hW) hal hall
 have HSS:=zh hss;have HSA:=zh hsa
 clear hss hsa hm hm2 hA hA2 hall
 go_enter Tryz.func28,Tryz.ntmps28
 go_upto_region 1 with fail
 generalize ((w.alloc (.cells #[.int .i64 kd,.string pre,.slice ma ms.length mc,.int .i64 th,.string nm,.string pb,.slice aa aps.length ac] 29)).alloc (.cells #[.int .i64 kd,.string pre,.slice na ms.length nc,.int .i64 th,.string nm,.string pb,.slice ba aps.length bc] 29))=w1 at*
 obtain⟨x00,x01,x02,x03,x04,x05,x06⟩:=F1.out.JI rfl
 obtain⟨x10,x11,x12,x13,x14,x15,x16⟩:=F1.out.KE rfl
 have Y0:=zh (zi x01)
 have Y1:=zh (zi x02)
 have Y2:=zh (zi x03)
 have Z0:=zh (zi x11)
 have Z1:=zh (zi x12)
 have Z2:=zh (zi x13)
 have hz:w.heap.size+2<=w1.heap.size:=F1.out.size
 refine Lex.EU (fun k=>k=w.heap.size\/k=w.heap.size+1) [1,3,5,8,10,12] [14,15] 18 [.pure 14,.new,.new] [1,1] (by kernel_rfl) (by kernel_rfl) (by kernel_rfl) ?_
 simp only[Lex.Iw,Lex.Bp,zd]
 have zd:w1.drew.heap.size=w1.heap.size:=by rw[Ez]
 have ZD:=zh zd
 clear zd
 go_wp2
 refine Lex.Oy.intro ?_
 intro w2 hw2
 have hl2:w1.heap.size<=w2.heap.size:=by rw[<- ZD.out];exact hw2
 go_wp2
 refine Lex.OA.intro (fun w3 hg3 hk3 ho3=>?_)
 have hs3:=hk3.at_
 have G3:=zh ((Below.refl w1.heap.size w1).drew.trans hg3)
 obtain⟨g,hg⟩:∃ g,g=w2.heap.size:=⟨_,rfl⟩
 rw[World.size_alloc]
 rw[<- hg] at hs3 hl2 ⊢
 have S3:=zh hs3
 clear hg3 hk3 ho3 hs3 hg hw2
 intro w4 hw4
 have hl4:w1.heap.size<=w4.heap.size:=by rw[<- ZD.out];exact hw4
 go_wp2
 refine Lex.OA.intro (fun w5 hg5 hk5 ho5=>?_)
 have hs5:=hk5.at_
 have hoff:=ho5 (g,g+1) List.mem_cons_self
 rw[World.size_alloc] at hoff
 have G5:=zh (G3.out.trans (hg5.mono G3.out.size))
 have S4:=zh (S3.out.below hg5 S3.out.lt)
 obtain⟨q,hq⟩:∃ q,q=w4.heap.size:=⟨_,rfl⟩
 rw[<- hq] at hs5 hl4 hoff ⊢
 have S5:=zh hs5
 have hne:g≠q:=by simp only at hoff;omega
 clear hg5 hk5 ho5 hs5 hq hw4 hoff G3 S3
 have s0:=S4.out.cell 0;have s1:=S4.out.cell 1;have s2:=S4.out.cell 2;have s3:=S4.out.free 0;have s4:=S4.out.free 1;have s5:=S4.out.free 2
 have k0:=S5.out.cell 0;have k1:=S5.out.cell 1;have k2:=S5.out.cell 2;have k3:=S5.out.free 0;have k4:=S5.out.free 1;have k5:=S5.out.free 2
 simp only[zg] at s0 s1 s2 k0 k1 k2
 go_wp2
 refine Lex.Mid.intro (fun j hj hjl=>by
  have h3:j≠g:=by omega
  rw[zo h3,zo h3,zo h3]
  exact G5.out.block _ (by omega)) ?_
 go_wp2
 refine Lex.Mid.intro (fun j hj hjl=>by
  have h3:j≠g:=by omega
  have h4:j≠q:=by omega
  rw[zo h4,zo h4,zo h4,zo h3,zo h3,zo h3]
  exact G5.out.block _ (by omega)) ?_
 go_wp2
 refine Lex.zk ⟨⟨.inl rfl,Y0.out⟩,⟨.inl rfl,Y1.out⟩,⟨.inl rfl,Y2.out⟩,⟨.inr rfl,Z0.out⟩,⟨.inr rfl,Z1.out⟩,⟨.inr rfl,Z2.out⟩,trivial⟩ ?_
 have T4:=zh ((((((S4.out.set 0 (.string pre)).set 1 (.slice ma ms.length mc)).set 2 (.int .i64 th)).far (p:=⟨q,0,none⟩) hne (.string pre)).far (p:=⟨q,1,none⟩) hne (.slice na ms.length nc)).far (p:=⟨q,2,none⟩) hne (.int .i64 th))
 have T5:=zh ((((((S5.out.far (p:=⟨g,0,none⟩) hne.symm (.string pre)).far (p:=⟨g,1,none⟩) hne.symm (.slice ma ms.length mc)).far (p:=⟨g,2,none⟩) hne.symm (.int .i64 th)).set 0 (.string pre)).set 1 (.slice na ms.length nc)).set 2 (.int .i64 th))
 have B6:=zh ((((((G5.out.setCell (p:=⟨g,0,none⟩) hl2 (.string pre)).setCell (p:=⟨g,1,none⟩) hl2 (.slice ma ms.length mc)).setCell (p:=⟨g,2,none⟩) hl2 (.int .i64 th)).setCell (p:=⟨q,0,none⟩) hl4 (.string pre)).setCell (p:=⟨q,1,none⟩) hl4 (.slice na ms.length nc)).setCell (p:=⟨q,2,none⟩) hl4 (.int .i64 th))
 have F6:=zh (F1.out.step B6.out)
 clear s0 s1 s2 s3 s4 s5 k0 k1 k2 k3 k4 k5 S4 S5 G5 Y0 Y1 Y2 Z0 Z1 Z2 B6
 (try clear x00 x01 x02 x03 x04 x05 x06);(try clear x10 x11 x12 x13 x14 x15 x16)
 generalize (((((w5.setCell ⟨g,0,none⟩ (.string pre)).setCell ⟨g,1,none⟩ (.slice ma ms.length mc)).setCell ⟨g,2,none⟩ (.int .i64 th)).setCell ⟨q,0,none⟩ (.string pre)).setCell ⟨q,1,none⟩ (.slice na ms.length nc)).setCell ⟨q,2,none⟩ (.int .i64 th)=w6 at*
 have s0:=T4.out.cell 0;have s1:=T4.out.cell 1;have s2:=T4.out.cell 2
 have k0:=T5.out.cell 0;have k1:=T5.out.cell 1;have k2:=T5.out.cell 2
 simp only[List.getElem?_toArray,List.getElem?_cons_zero,List.getElem?_cons_succ,List.setIfInBounds_toArray,List.set_cons_zero,List.set_cons_succ] at s0 s1 s2 k0 k1 k2
 obtain⟨x00,x01,x02,x03,x04,x05,x06⟩:=F6.out.JI rfl
 obtain⟨x10,x11,x12,x13,x14,x15,x16⟩:=F6.out.KE rfl
 have hbe:(pre.toList==pre.toList)=true:=beq_self_eq_true _
 go_wp2_with fail
 refine(HSS.out w6 F6.out.under).mono ?_
 rintro e w7 ⟨rfl,hb7⟩
 have F7:=zh (F6.out.step hb7)
 clear hb7 s0 s1 s2 k0 k1 k2 HSS
 (try clear x00 x01 x02 x03 x04 x05 x06);(try clear x10 x11 x12 x13 x14 x15 x16)
 obtain⟨x00,x01,x02,x03,x04,x05,x06⟩:=F7.out.JI rfl
 obtain⟨x10,x11,x12,x13,x14,x15,x16⟩:=F7.out.KE rfl
 have hbn:(nm.toList==nm.toList)=true:=beq_self_eq_true _
 have hbp:(pb.toList==pb.toList)=true:=beq_self_eq_true _
 go_wp2_with fail
 refine(HSA.out w7 F7.out.under).mono ?_
 rintro e w8 ⟨rfl,hb8⟩
 have F8:=zh (F7.out.step hb8)
 clear hb8
 go_wp2
 go_ret
 exact⟨rfl,F8.out.under⟩
end
end Go.Proofs.YtjlmglgmcekmhaaGreatDoor
