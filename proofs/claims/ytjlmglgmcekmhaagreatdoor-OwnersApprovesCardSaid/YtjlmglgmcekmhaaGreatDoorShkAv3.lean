/- The reference's owners: approvals for a space. -/
import Derived.Lib.SliceRun
import Derived.SliceStrings
import Derived.HandedShaped
import Derived.Deep.Strs
import Derived.Deep.SlicePairs
import Derived.ChangeMaps5
import Derived.Test.YtjlmglgmcekmhaaGreatDoorShkAv1
import Derived.Test.YtjlmglgmcekmhaaGreatDoorShkAv2
set_option linter.unusedVariables false
set_option linter.unusedSimpArgs false
set_option maxRecDepth 100000
set_option maxHeartbeats 8000000
namespace Go.Proofs.YtjlmglgmcekmhaaGreatDoor
section
open Go Go.RowKit Go.Maps
namespace Own
def zbC (s:Space)(msg:ByteArray)(K0:List KeyUse):List Ai->List KeyUse->List Ai->Except Int (List KeyUse)
 | _,K,[]=>.ok K
 | pre,K,a :: l => match find s.members a.name with
   | none=>.error 6
   | some m=>if pre.any (fun b=>decide (b.name=a.name)) then .error 5 else if Sig.verify m.pub msg a.sig then (if a.sig.index<Bf K0 m.pub then .error 8 else zbC s msg K0 (pre++[a]) (use K ⟨m.pub,a.sig.index+1⟩) l) else .error 18
def zbA (s:Space)(msg:ByteArray)(K0:List KeyUse)(l:List Ai):Except Int (List KeyUse):=match zbC s msg K0 [] K0 l with
 | .error c=>.error c
 | .ok K=>if (l.length:Int)<s.threshold then .error 20 else .ok K
theorem zdd (l:List KeyUse)(x:KeyUse):(use l x).length<=l.length+1:=by
 induction l with
 | nil=>exact Nat.le_refl _
 | cons k l ih =>
   unfold use
   split
   ·rw[List.length_cons,List.length_cons];omega
   ·split
    ·rw[List.length_cons,List.length_cons];omega
    ·rw[List.length_cons,List.length_cons];omega
end Own
theorem zcd (X:Nat->Prop)(o:Own.Ao)(s:Own.Space)(msg:ByteArray)(l:List Own.Ai)(sv kv mv lv:Value)(w:World)(hX:∀ k,X k->k<w.heap.size)(hS:Aq 3 Own.EI (fun k=>¬ X k) w sv o.spaces)(hK:Aq 2 Own.aQ (fun k=>¬ X k) w kv o.keys)(hm:Own.Af w mv s.members)(hA:Own.Hq w lv l)
 (hsrt:Own.Srt Own.KeyUse.pub o.keys) (hlk:o.keys.length+l.length<=900000) (hml:s.members.length<=3000000) (JF:msg.size<=140737488350000)
 (hal:∀ a∈l,a.sig.chains.length<=140737488355328/\a.sig.path.length<=140737488355328):
 Calls Tryz.prog 63 #[.agg #[.int .i64 o.count,sv,kv],.agg #[.string s.pre,mv,.int .i64 s.threshold],.string msg,lv] w (zbF X w o (Own.zbA s msg o.keys l)):=by
 obtain⟨R,hR⟩:∃ R,R=Own.zbA s msg o.keys l:=⟨_,rfl⟩
 obtain⟨Q,hQ⟩:∃ Q,Q=zbF X w o R:=⟨_,rfl⟩
 rw[<- hR,<- hQ]
 have HQ:=zh hQ;clear hQ
 obtain⟨R0,hR0⟩:∃ R0,R0=Own.zbC s msg o.keys [] o.keys l:=⟨_,rfl⟩
 unfold Own.zbA at hR
 rw[<- hR0] at hR
 have HR:=zh hR;clear hR
 obtain⟨sa,sc,rfl⟩:=hS.len
 obtain⟨ka,kc,rfl⟩:=hK.len
 obtain⟨ma,mc,rfl⟩:=hm.len
 obtain⟨la,lc,rfl,hap⟩:=hA
 obtain⟨cnt,S,K0⟩:=o
 obtain⟨pre,M,th⟩:=s
 dsimp only at*
 have F1:=zh (show Au w _ [(25,#[.int .i64 cnt,.slice sa S.length sc,.slice ka K0.length kc]),(39,#[.string pre,.slice ma M.length mc,.int .i64 th]),(25,#[.int .i64 0,.slice none 0 0,.slice none 0 0]),(25,#[.int .i64 cnt,.slice sa S.length sc,.slice ka K0.length kc])] from(((((CY.nil w).push 25 #[.int .i64 cnt,.slice sa S.length sc,.slice ka K0.length kc]).push 39 #[.string pre,.slice ma M.length mc,.int .i64 th]).push 25 #[.int .i64 0,.slice none 0 0,.slice none 0 0]).push 25 #[.int .i64 cnt,.slice sa S.length sc,.slice ka K0.length kc]).boxes)
 have HS:=zh hS;have HK:=zh hK;have HM:=zh hm;have HA:=zh (show Own.Hq w (.slice la l.length lc) l from⟨la,lc,rfl,hap⟩);have HAL:=zh hal;have HX:=zh hX;have HK1:=zh hK
 clear hS hK hm hap hal hX
 have x00:((((w.alloc (.cells #[.int .i64 cnt,.slice sa S.length sc,.slice ka K0.length kc] 25)).alloc (.cells #[.string pre,.slice ma M.length mc,.int .i64 th] 39)).alloc (.cells #[.int .i64 0,.slice none 0 0,.slice none 0 0] 25)).alloc (.cells #[.int .i64 cnt,.slice sa S.length sc,.slice ka K0.length kc] 25)).cell? ⟨w.heap.size,0,none⟩=some (.int .i64 cnt):=F1.out.cell 0 0 rfl rfl
 have x01:((((w.alloc (.cells #[.int .i64 cnt,.slice sa S.length sc,.slice ka K0.length kc] 25)).alloc (.cells #[.string pre,.slice ma M.length mc,.int .i64 th] 39)).alloc (.cells #[.int .i64 0,.slice none 0 0,.slice none 0 0] 25)).alloc (.cells #[.int .i64 cnt,.slice sa S.length sc,.slice ka K0.length kc] 25)).cell? ⟨w.heap.size,1,none⟩=some (.slice sa S.length sc):=F1.out.cell 0 1 rfl rfl
 have x02:((((w.alloc (.cells #[.int .i64 cnt,.slice sa S.length sc,.slice ka K0.length kc] 25)).alloc (.cells #[.string pre,.slice ma M.length mc,.int .i64 th] 39)).alloc (.cells #[.int .i64 0,.slice none 0 0,.slice none 0 0] 25)).alloc (.cells #[.int .i64 cnt,.slice sa S.length sc,.slice ka K0.length kc] 25)).cell? ⟨w.heap.size,2,none⟩=some (.slice ka K0.length kc):=F1.out.cell 0 2 rfl rfl
 go_enter Tryz.func63,Tryz.ntmps63
 go_wp2_with fail
 generalize ((((w.alloc (.cells #[.int .i64 cnt,.slice sa S.length sc,.slice ka K0.length kc] 25)).alloc (.cells #[.string pre,.slice ma M.length mc,.int .i64 th] 39)).alloc (.cells #[.int .i64 0,.slice none 0 0,.slice none 0 0] 25)).alloc (.cells #[.int .i64 cnt,.slice sa S.length sc,.slice ka K0.length kc] 25))=w1 at*
 (try clear x00);(try clear x01);(try clear x02)
 obtain⟨AR,hAR⟩:∃ AR,AR=Own.zbC ⟨pre,M,th⟩ msg K0:=⟨_,rfl⟩
 rw[<- hAR] at hR0
 have hnil:∀ p K,AR p K []=.ok K:=fun p K=>by rw[hAR]<;>rfl
 have Rv:∀ p K a l,AR p K (a::l)=(match Own.find M a.name with
  | none=>.error 6
  | some m=>if p.any (fun b=>decide (b.name=a.name)) then .error 5 else if Sig.verify m.pub msg a.sig then (if a.sig.index<Own.Bf K0 m.pub then .error 8 else AR (p++[a]) (Own.use K ⟨m.pub,a.sig.index+1⟩) l) else .error 18):=fun p K a l=>by rw[hAR]<;>rfl
 have zef:=zh hnil;have zdU:=zh Rv
 clear hAR hnil Rv
 go_loopw [11] (fun i wr=>∃ (k:Nat) (Kc:List Own.KeyUse) (kvc:Value),k<=l.length/\i=.int .i64 k/\R0=AR (l.take k) Kc (l.drop k)/\Own.Srt Own.KeyUse.pub Kc/\Kc.length<=K0.length+k/\Aq 2 Own.aQ (fun k=>¬ (X k\/(w.heap.size<=k/\k<w.heap.size+4))) wr kvc Kc/\Au w wr [(25,#[.int .i64 cnt,.slice sa S.length sc,.slice ka K0.length kc]),(39,#[.string pre,.slice ma M.length mc,.int .i64 th]),(25,#[.int .i64 0,.slice none 0 0,.slice none 0 0]),(25,#[.int .i64 cnt,.slice sa S.length sc,kvc])]) (fun i _=>l.length-(intOf i).toNat)
 case atStart=>exact⟨0,K0,_,by omega,rfl,hR0,hsrt,by omega,(HK1.out.mono (fun k hx hk h=>h.elim hx (fun h=>by omega))).below F1.out.under,F1.out⟩
 case round=>
  obtain⟨k,Kc,kvc,hk,rfl,hr,hsr,hkl,hkc,hbx⟩:=hrel
  obtain⟨kca,kcc,rfl⟩:=hkc.len
  have HRK:=zh hr;have HSR:=zh hsr;have HKC:=zh hkc;have G1:=zh hbx
  clear hr hsr hkc hbx HK1 F1 hR0
  by_cases hlt:k<l.length
  case neg=>
   have hke:k=l.length:=by omega
   have dk:decide ((k:Int)<l.length)=false:=zf
   have e:R=if (l.length:Int)<th then .error 20 else .ok Kc:=by
    rw[HR.out,HRK.out,hke,List.drop_length,zef.out]
   have HE0:=zh e
   clear e hke
   obtain⟨x10,x11,x12⟩:=G1.out.sI rfl
   obtain⟨x20,x21,x22,FK,FL,FM⟩:=G1.out.Oh rfl
   obtain⟨x30,x31,x32⟩:=G1.out.zeb rfl
   by_cases h20:(l.length:Int)<th
   ·have d20:decide ((l.length:Int)<th)=true:=decide_eq_true h20
    have HE:=zh (show R=.error 20 by rw[HE0.out,if_pos h20]);clear h20
    go_wp2_with fail
    have G2:=(((G1.out.put 2 0 (.int .i64 0) rfl).put 2 1 (.slice none 0 0) rfl).put 2 2 (.slice none 0 0) rfl)
    refine BJ rfl rfl rfl (AJ (G2.at1 2 rfl) Tryz.underlying25 rfl Bt) ?_
    rw[HQ.out,HE.out]
    exact⟨rfl,G2.under⟩
   ·have d20:decide ((l.length:Int)<th)=false:=decide_eq_false h20
    have HE:=zh (show R=.ok Kc by rw[HE0.out,if_neg h20]);clear h20
    go_wp2_with fail
    have G2:=(((G1.out.put 2 0 (.int .i64 cnt) rfl).put 2 1 (.slice sa S.length sc) rfl).put 2 2 (.slice kca Kc.length kcc) rfl)
    refine BJ rfl rfl rfl (AJ (G2.at1 2 rfl) Tryz.underlying25 rfl Bt) ?_
    rw[HQ.out,HE.out]
    refine⟨⟨_,_,rfl,HS.out.below G2.under,?_⟩,G2.under⟩
    refine(HKC.out.keep (by simp[World.setCell]) (fun j hj _=>?_)).mono (fun j hj _ h=>hj (.inl h))
    have hj1:j≠w.heap.size+1+1:=fun e=>hj (.inr (by omega))
    rw[zo hj1,zo hj1,zo hj1]
  have dk:decide ((k:Int)<l.length)=true:=zt
  obtain⟨_,_,hae,hap⟩:=HA.out.below G1.out.under
  cases hae
  obtain⟨b,o,cv,pv,ha,hbl,e0,e1,e2,e3,hcs,hps,hcap⟩:=hap k hlt
  have hdr:l.drop k=l[k]::l.drop (k+1):=List.drop_eq_getElem_cons hlt
  have htk:l.take (k+1)=l.take k++[l[k]]:=List.take_succ_eq_append_getElem hlt
  have hall:=HAL.out l[k] (List.getElem_mem hlt)
  have JL:∀ j (hj:j<k),wr.cell? ⟨b,o+j*4,none⟩=some (.string (l[j]'(by omega)).name):=by
   intro j hj
   obtain⟨b',o',_,_,ha',_,f0,_⟩:=hap j (by omega)
   rw[ha] at ha'
   cases ha'
   exact f0
  have hr2:=HRK.out
  rw[hdr,zdU.out] at hr2
  subst ha
  obtain⟨y,hy⟩:∃ y,y=l[k]:=⟨_,rfl⟩
  rw[<- hy] at e0 e1 hcs hps hall hr2 htk
  obtain⟨nm,⟨ix,chs,pth⟩⟩:=y
  dsimp only at e0 e1 hcs hps hall hr2
  obtain⟨ca,cc,rfl⟩:=hcs.len
  obtain⟨pa,pc,rfl⟩:=hps.len
  have HCS:=zh hcs;have HPS:=zh hps;have RH:=zh JL;have HR2:=zh hr2;have HTK:=zh htk;have HCAP:=zh hcap;have HY:=zh hy
  clear hap hdr hcs hps JL hr2 htk hy hcap HRK
  obtain⟨x10,x11,x12⟩:=G1.out.sI rfl
  obtain⟨x20,x21,x22,FK,FL,FM⟩:=G1.out.Oh rfl
  have HMM:=zh (zcz (.slice ma M.length mc) M nm wr.drew (HM.out.below (G1.out.under.trans ((Below.refl wr.heap.size wr).drew.mono G1.out.under.size))) (by omega))
  go_wp2_with fail
  refine Lex.zl ?_
  go_wp2_with fail
  refine HMM.out.mono ?_
  rintro e w5 ⟨⟨mi,rfl,hmi⟩,hb5⟩
  have TF : Below wr.heap.size wr w5:=(Below.refl wr.heap.size wr).drew.trans hb5
  have G5:=zh (G1.out.step TF);have HB5:=zh TF;have zeg:=zh (HKC.out.below TF)
  (try clear x00);(try clear x01);(try clear x02);(try clear x10 x11 x12);(try clear x20 x21 x22 FK FL FM);(try clear x30);(try clear x31);(try clear x32)
  clear hb5 TF HMM
  obtain⟨x10,x11,x12⟩:=G5.out.sI rfl
  obtain⟨x20,x21,x22,FK,FL,FM⟩:=G5.out.Oh rfl
  go_wp2_with fail
  refine Lex.ze ?_
  rcases hmi with ⟨rfl,hf,_⟩|⟨mj,hmj,rfl,hf,_,_⟩
  ·have e:R0=.error 6:=by rw[HR2.out];unfold Own.find;rw[hf]
   have HE:=zh (show R=.error 6 by rw[HR.out,e]);clear e hf
   go_wp2_with fail
   have G2:=(((G5.out.put 2 0 (.int .i64 0) rfl).put 2 1 (.slice none 0 0) rfl).put 2 2 (.slice none 0 0) rfl)
   refine BJ rfl rfl rfl (AJ (G2.at1 2 rfl) Tryz.underlying25 rfl Bt) ?_
   rw[HQ.out,HE.out]
   exact⟨rfl,G2.under⟩
  have hr3:=HR2.out
  unfold Own.find at hr3
  rw[hf] at hr3
  dsimp only at hr3
  obtain⟨mb,mo,hma,zeh,m0,m1⟩:=Own.Af.cells (HM.out.below G5.out.under) hmj
  obtain⟨pub,vM⟩:∃ x,x=M[mj].pub:=⟨_,rfl⟩
  rw[<- vM] at m1 hr3
  have dm:decide ((mj:Int)<0)=false:=zf
  have HR3:=zh hr3;have M1:=zh m1;have HMA:=zh hma
  clear hr3 m0 hf vM m1 hma
  have e0':=(HB5.out.cell (p:=⟨b,o+k*4,none⟩) hbl).trans e0
  go_upto_region 8 with fail
  go_wp2_with fail
  (try clear x00);(try clear x01);(try clear x02);(try clear x10 x11 x12);(try clear x20 x21 x22 FK FL FM);(try clear x30);(try clear x31);(try clear x32)
  clear e0'
  obtain⟨w4,hw4⟩:∃ w4,w4=wr:=⟨_,rfl⟩
  subst hw4
  go_loopw [13] (fun n wr=>∃ j:Nat,j<=k/\n=.int .i64 j/\(∀ i (hi:i<l.length),i<j->decide (l[i].name=nm)=false)/\Below w5.heap.size w5 wr) (fun n _=>k-(intOf n).toNat)
  case atStart=>exact⟨0,by omega,rfl,(fun i _ h=>absurd h (by omega)),Below.refl _ _⟩
  case round=>
   obtain⟨j,hj,rfl,hno,hb⟩:=hrel
   have b6:=HB5.out.trans (hb.mono HB5.out.size)
   have HNO:=zh hno;have G6:=zh (G5.out.step hb);have HB6:=zh b6;have HB:=zh hb
   replace e0:=(b6.cell (p:=⟨b,o+k*4,none⟩) hbl).trans e0
   replace e1:=(b6.cell (p:=⟨b,o+k*4+1,none⟩) hbl).trans e1
   replace e2:=(b6.cell (p:=⟨b,o+k*4+2,none⟩) hbl).trans e2
   replace e3:=(b6.cell (p:=⟨b,o+k*4+3,none⟩) hbl).trans e3
   by_cases hjk:j<k
   ·have dj:decide ((j:Int)<(k:Int))=true:=zt
    have f0:=(b6.cell (p:=⟨b,o+j*4,none⟩) hbl).trans (RH.out j hjk)
    have hjl:j<l.length:=by omega
    have hq:(l[j].name.toList==nm.toList)=decide (l[j].name=nm):=bytes_beq
    obtain⟨x,hx⟩:∃ x,x=l[j].name:=⟨_,rfl⟩
    rw[<- hx] at f0 hq
    have HXN:=zh hx;have HQQ:=zh hq
    clear hx hq hno hb b6 e1 e2 e3
    cases hc:(x.toList==nm.toList) with
    | true =>
      have hany:(l.take k).any (fun b=>decide (b.name=nm))=true:=by
       refine List.any_eq_true.2 ⟨l[j],?_,?_⟩
       ·have:(l.take k)[j]'(by rw[List.length_take];omega)=l[j]:=List.getElem_take
        rw[<- this]
        exact List.getElem_mem _
       ·rw[<- HXN.out,<- HQQ.out,hc]
      have e:R0=.error 5:=by rw[HR3.out,hany,if_pos rfl]
      have HE:=zh (show R=.error 5 by rw[HR.out,e]);clear e hany
      obtain⟨x20,x21,x22,FK,FL,FM⟩:=G6.out.Oh rfl
      go_wp2_with fail
      refine Lex.zl ?_
      go_wp2_with fail
      refine Lex.ze ?_
      have G7:=zh G6.out.drew
      go_wp2_with fail
      have G2:=((((G7.out.put 2 0 (.int .i64 0) rfl).put 2 1 (.slice none 0 0) rfl).put 2 2 (.slice none 0 0) rfl))
      refine BJ rfl rfl rfl (AJ (G2.at1 2 rfl) Tryz.underlying25 rfl Bt) ?_
      rw[HQ.out,HE.out]
      exact⟨rfl,G2.under⟩
    | false =>
      have hn2:∀ i (hi:i<l.length),i<j+1->decide (l[i].name=nm)=false:=fun i hi hij=>by
       rcases(by omega:i<j\/i=j) with h1|rfl
       ·exact HNO.out i hi h1
       ·rw[<- HXN.out,<- HQQ.out,hc]
      have HN2:=zh hn2;clear hn2
      have HBD:=zh HB.out.drew
      go_wp2_with fail
      refine Lex.zl ?_
      go_wp2_with fail
      refine Lex.ze ?_
      go_wp2_with fail
      exact⟨⟨j+1,by omega,by go_num,HN2.out,HBD.out⟩,by simp[intOf];omega⟩
   have dj:decide ((j:Int)<(k:Int))=false:=zf
   have hany:(l.take k).any (fun b=>decide (b.name=nm))=false:=by
    rw[List.any_eq_false]
    intro x hx
    obtain⟨i,hi,rfl⟩:=List.getElem_of_mem hx
    have hik:i<k:=by rw[List.length_take] at hi;omega
    rw[List.getElem_take,hno i (by omega) (by omega)]
    exact Bool.false_ne_true
   have hr3:=HR3.out
   rw[hany,if_neg Bool.false_ne_true] at hr3
   obtain⟨VB,hVB⟩:∃ VB,VB=Sig.verify pub msg ⟨ix,chs,pth⟩:=⟨_,rfl⟩
   rw[<- hVB] at hr3
   have xL:=zcy pub msg ⟨ix,chs,pth⟩ (.slice ca chs.length cc) (.slice pa pth.length pc) wr (HCS.out.below b6) (HPS.out.below b6) HCAP.out hall.1 hall.2 JF
   simp only[<- hVB] at xL
   have m1:=(hb.cell (p:=⟨mb,mo+mj*2+1,none⟩) zeh).trans M1.out
   obtain⟨x10,x11,x12⟩:=G6.out.sI rfl
   obtain⟨x20,x21,x22,FK,FL,FM⟩:=G6.out.Oh rfl
   have hma:=HMA.out
   subst hma
   have xM:=zh xL;have HR4:=zh hr3;have HVB:=zh hVB;have zei:=zh (zeg.out.below hb)
   clear hany hr3 xL hVB hno hb b6
   go_wp2_with fail
   refine xM.out.mono ?_
   rintro e w7 ⟨rfl,hb7⟩
   have G7:=zh (G6.out.step hb7);have zej:=zh (zei.out.below hb7)
   replace e1:=(hb7.cell (p:=⟨b,o+k*4+1,none⟩) (Nat.lt_of_lt_of_le hbl HB6.out.size)).trans e1
   have zdE:b<w7.heap.size:=Nat.lt_of_lt_of_le (Nat.lt_of_lt_of_le hbl HB6.out.size) hb7.size
   (try clear x10 x11 x12)
   (try clear x00);(try clear x01);(try clear x02);(try clear x10 x11 x12);(try clear x20 x21 x22 FK FL FM);(try clear x30);(try clear x31);(try clear x32)
   clear e0 e2 e3 hb7 xM m1
   obtain⟨x00,x01,x02⟩:=G7.out.Fw rfl
   obtain⟨x20,x21,x22,FK,FL,FM⟩:=G7.out.Oh rfl
   cases VB with
   | false =>
     have e:R0=.error 18:=by rw[HR4.out]<;>rfl
     have HE:=zh (show R=.error 18 by rw[HR.out,e]);clear e
     go_wp2_with fail
     have G2:=(((G7.out.put 2 0 (.int .i64 0) rfl).put 2 1 (.slice none 0 0) rfl).put 2 2 (.slice none 0 0) rfl)
     refine BJ rfl rfl rfl (AJ (G2.at1 2 rfl) Tryz.underlying25 rfl Bt) ?_
     rw[HQ.out,HE.out]
     exact⟨rfl,G2.under⟩
   | true=>
   have hvl:=Own.iW HVB.out.symm
   have hr5:=HR4.out
   rw[if_pos rfl] at hr5
   obtain⟨NX,hNX⟩:∃ NX,NX=Own.Bf K0 pub:=⟨_,rfl⟩
   rw[<- hNX] at hr5
   have zdF:=zcK cnt (.slice sa S.length sc) (.slice ka K0.length kc) K0 pub w7.drew (HK.out.mono (fun _ _ _=>trivial) |>.below (G7.out.under.trans ((Below.refl w7.heap.size w7).drew.mono G7.out.under.size))) (by omega)
   rw[<- hNX] at zdF
   dsimp only at hvl
   have zek:=zh zdF;have HR5:=zh hr5
   have HXS:=zh (show(w7.cell? ⟨b,o+k*4+1,none⟩).isSome=true by rw[e1]<;>rfl)
   clear zdF hr5 hNX
   go_wp2_with fail
   refine Lex.zn (fun j=>j=b) [5] 9 [9] ?_
   simp only[Lex.Bp,zd]
   go_wp2_with fail
   refine zek.out.mono ?_
   rintro e w8 ⟨rfl,hb8⟩
   have zds : Below w7.heap.size w7 w8:=(Below.refl w7.heap.size w7).drew.trans hb8
   have G8:=zh (G7.out.step zds);have zel:=zh (zej.out.below zds);have HB8:=zh zds
   replace e1:=(zds.cell (p:=⟨b,o+k*4+1,none⟩) zdE).trans e1
   (try clear x00);(try clear x01);(try clear x02);(try clear x10 x11 x12);(try clear x20 x21 x22 FK FL FM);(try clear x30);(try clear x31);(try clear x32)
   clear hb8 zds
   have hR5:=HR5.out
   by_cases hnx:ix<NX
   ·have d8:decide (ix<NX)=true:=decide_eq_true hnx
    have HE:=zh (show R=.error 8 by rw[HR.out,hR5,if_pos hnx]);clear hR5 hnx
    go_wp2_with fail
    refine Lex.Mid.intro (fun j hj _=>by rw[hj];exact HB8.out.block _ zdE) ?_
    go_wp2_with fail
    refine Lex.zk ⟨⟨rfl,HXS.out⟩,trivial⟩ ?_
    obtain⟨x20,x21,x22,FK,FL,FM⟩:=G8.out.Oh rfl
    go_wp2_with fail
    have G2:=(((G8.out.put 2 0 (.int .i64 0) rfl).put 2 1 (.slice none 0 0) rfl).put 2 2 (.slice none 0 0) rfl)
    refine BJ rfl rfl rfl (AJ (G2.at1 2 rfl) Tryz.underlying25 rfl Bt) ?_
    rw[HQ.out,HE.out]
    exact⟨rfl,G2.under⟩
   have d8:decide (ix<NX)=false:=decide_eq_false hnx
   have hr6:=hR5
   rw[if_neg hnx,<- HTK.out] at hr6
   have HR6:=zh hr6
   have HWX:=zh (show wrap64 (ix+1)=ix+1 by unfold wrap64;omega)
   clear hr6 hR5 hnx
   go_wp2_with fail
   refine Lex.Mid.intro (fun j hj _=>by rw[hj];exact HB8.out.block _ zdE) ?_
   go_wp2_with fail
   refine Lex.zk ⟨⟨rfl,HXS.out⟩,trivial⟩ ?_
   obtain⟨x30,x31,x32,zdV,zdW,zdX⟩:=G8.out.zdL rfl
   have hz8:w.heap.size+4<=w8.heap.size:=G8.out.size
   have zdG:=zcZ (.slice kca Kc.length kcc) Kc ⟨pub,ix+1⟩ w8.drew ((zel.out.mono (fun _ _ _=>trivial)).below (Below.refl w8.heap.size w8).drew) HSR.out (by omega)
   rw[Ez] at zdG
   have zem:=zh zdG
   clear zdG
   go_wp2_with fail
   refine Lex.zl ?_
   go_wp2_with (rw[HWX.out])
   refine zem.out.mono ?_
   rintro e w9 ⟨v',rfl,hov,hb9⟩
   obtain⟨ua,um,uc,rfl⟩:=Ac hov
   obtain rfl:=Ba hov
   have zdY : Below w8.heap.size w8 w9:=(Below.refl w8.heap.size w8).drew.trans hb9
   have G9:=zh (G8.out.step zdY);have HOV:=zh hov
   (try clear x00);(try clear x01);(try clear x02);(try clear x10 x11 x12);(try clear x20 x21 x22 FK FL FM);(try clear zdV);(try clear x30);(try clear zdW);(try clear x31);(try clear zdX);(try clear x32)
   clear hb9 zdY hov e1
   obtain⟨x30,x31,x32,zdV,zdW,zdX⟩:=G9.out.zdL rfl
   go_wp2_with fail
   refine Lex.ze ?_
   go_wp2_with fail
   have ekl:(Own.Dj Own.KeyUse.pub ⟨pub,ix+1⟩ Kc)=Own.use Kc ⟨pub,ix+1⟩:=(Own.EP _ _).symm
   refine⟨⟨k+1,Own.Dj Own.KeyUse.pub ⟨pub,ix+1⟩ Kc,.slice ua _ uc,by omega,by go_num,?_,HSR.out.put _,?_,?_,G9.out.put 3 2 _ rfl⟩,by simp[intOf];omega⟩
   ·rw[ekl];exact HR6.out
   ·rw[ekl]
    have:=Own.zdd Kc ⟨pub,ix+1⟩
    omega
   ·refine Cq (enc:=Own.Dw) (fun _=>rfl) (fun _=>rfl) (Bc.own (Ae HOV.out (fun j hj=>?_))) rfl (fun j hj=>?_)
    ·have:=Ak HOV.out j hj
     exact zo (by show j≠w.heap.size+1+1+1;omega)
    ·have h1:=Ak HOV.out j hj
     rintro(h|h)
     ·have:=HX.out j h
      omega
     ·omega
end
section
open Go
namespace Own
theorem zcn:∀ {K:List KeyUse},Srt KeyUse.pub K->∀ (x:KeyUse) (p:ByteArray),Bf (use K x) p=if x.pub=p then x.next else Bf K p
 | [],_,x,p => by
   unfold use Bf
   by_cases h:x.pub=p
   ·rw[if_pos h];simp[h]
   ·rw[if_neg h];simp[h]
 | k :: K,hs,x,p => by
   have hs':=List.pairwise_cons.1 hs
   have Rv:∀ (y:KeyUse) (l:List KeyUse),Bf (y::l) p=if y.pub=p then y.next else Bf l p:=fun y l=>by
    unfold Bf
    by_cases h:y.pub=p
    ·rw[if_pos h];simp[h]
    ·rw[if_neg h];simp[h]
   unfold use
   by_cases h1:Aj k.pub x.pub=true
   ·rw[if_pos h1,Rv,Rv,zcn hs'.2 x p]
    by_cases hk:k.pub=p
    ·rw[if_pos hk,if_pos hk]
     rw[if_neg (fun hx=>by rw[hk,hx,BP] at h1;cases h1)]
    ·rw[if_neg hk,if_neg hk]
   ·rw[if_neg h1]
    by_cases h2:k.pub=x.pub
    ·rw[if_pos h2,Rv,Rv]
     by_cases hx:x.pub=p
     ·rw[if_pos hx,if_pos hx]
     ·rw[if_neg hx,if_neg hx,if_neg (by rw[h2];exact hx)]
    ·rw[if_neg h2,Rv]
theorem zco:∀ {l pre:List Member},Am pre l=true->l.Pairwise (fun x y=>x.pub≠y.pub)/\∀ x∈pre,∀ y∈l,x.pub≠y.pub
 | [],_,_=>⟨List.Pairwise.nil,fun _ _ y hy=>by cases hy⟩
 | m :: l,pre,h => by
   unfold Am CX at h
   simp only[Bool.and_eq_true,Bool.not_eq_true',List.any_eq_false,decide_eq_true_eq] at h
   obtain⟨⟨⟨_,h1⟩,_⟩,h2⟩:=h
   obtain⟨h3,h4⟩:=zco h2
   refine⟨List.pairwise_cons.2 ⟨fun y hy=>h4 m (by simp) y hy,h3⟩,fun x hx y hy=>?_⟩
   rcases List.mem_cons.1 hy with rfl|hy
   ·exact h1 x hx
   ·exact h4 x (by simp[hx]) y hy
theorem zcO {l:List Member}(h:Co l=true){x y:Member}(hx:x∈l)(hy:y∈l)(e:x.pub=y.pub):x=y:=by
 unfold Co at h
 simp only[Bool.and_eq_true] at h
 have hp:=(zco h.2).1
 obtain⟨i,hi,rfl⟩:=List.mem_iff_getElem.1 hx
 obtain⟨j,hj,rfl⟩:=List.mem_iff_getElem.1 hy
 rcases Nat.lt_trichotomy i j with g|g|g
 ·exact absurd e (List.pairwise_iff_getElem.1 hp i j hi hj g)
 ·subst g;rfl
 ·exact absurd e.symm (List.pairwise_iff_getElem.1 hp j i hj hi g)
theorem zce (s:Space)(msg:ByteArray)(hm:Co s.members=true)(K0:List KeyUse):∀ (l:List Ai) (seen:List ByteArray) (pre:List Ai) (K:List KeyUse),Srt KeyUse.pub K->
 (∀ x,x∈seen↔∃ b∈pre,b.name=x)->(∀ m∈s.members,m.name ∉ seen->Bf K m.pub=Bf K0 m.pub)->Bl s msg seen K l=zbC s msg K0 pre K l
 | [],_,_,_,_,_,_=>rfl
 | a :: l,seen,pre,K,hs,he,hn => by
   unfold Bl zbC
   cases hf:find s.members a.name with
   | none=>rfl
   | some m =>
     dsimp only
     have hmm:m∈s.members:=List.mem_of_find?_eq_some hf
     have hmn:m.name=a.name:=by simpa using List.find?_some hf
     have e1:(seen.any fun x=>decide (x=a.name))=(pre.any fun b=>decide (b.name=a.name)):=by
      rw[Bool.eq_iff_iff,List.any_eq_true,List.any_eq_true]
      constructor
      ·rintro⟨x,hx,hxa⟩
       obtain⟨b,hb,rfl⟩:=(he x).1 hx
       exact⟨b,hb,hxa⟩
      ·rintro⟨b,hb,hba⟩
       exact⟨b.name,(he _).2 ⟨b,hb,rfl⟩,hba⟩
     rw[e1]
     cases zdZ:(pre.any fun b=>decide (b.name=a.name)) with
     | true=>rfl
     | false =>
       have hns:m.name ∉ seen:=fun h=>by
        rw[hmn] at h
        have:(seen.any fun x=>decide (x=a.name))=true:=List.any_eq_true.2 ⟨_,h,by simp⟩
        rw[e1,zdZ] at this
        cases this
       simp only[Bool.false_eq_true,if_false,hn m hmm hns]
       cases Sig.verify m.pub msg a.sig with
       | false=>rfl
       | true =>
         simp only[if_true]
         by_cases hx:a.sig.index<Bf K0 m.pub
         ·rw[if_pos hx,if_pos hx]
         ·rw[if_neg hx,if_neg hx]
          refine zce s msg hm K0 l _ _ _ (by rw[EP];exact hs.put _) (fun x=>?_) (fun m' hm' hn' => ?_)
          ·simp only[List.mem_cons,List.mem_append,List.not_mem_nil,or_false,he x]
           constructor
           ·rintro(rfl|⟨b,hb,rfl⟩)
            ·exact⟨a,.inr rfl,rfl⟩
            ·exact⟨b,.inl hb,rfl⟩
           ·rintro⟨b,hb|rfl,rfl⟩
            ·exact .inr ⟨b,hb,rfl⟩
            ·exact .inl rfl
          ·simp only[List.mem_cons,not_or] at hn'
           rw[zcn hs,if_neg (fun e=>hn'.1 (by rw[<- zcO hm hmm hm' e,hmn])),hn m' hm' hn'.2]
end Own
end
section
open Go Go.RowKit Go.Maps
namespace Own
def zbH (o:Ao)(s msg:ByteArray)(l:List Ai):Except Int (List KeyUse):=
 if Bv o then
  match authority o s with
  | none=>.error 6
  | some x=>zbA x msg o.keys l
 else .error 1
end Own
theorem zcw (X:Nat->Prop)(o:Own.Ao)(s msg:ByteArray)(l:List Own.Ai)(sv kv lv:Value)(w:World)(hX:∀ k,X k->k<w.heap.size)(hS:Aq 3 Own.EI (fun k=>¬ X k) w sv o.spaces)(hK:Aq 2 Own.aQ (fun k=>¬ X k) w kv o.keys)(hA:Own.Hq w lv l)
 (hls:o.spaces.length<=3000000) (hlk:o.keys.length+l.length<=900000) (hlm:∀ x∈o.spaces,x.members.length<=3000000/\x.pre.size<=140737488355000) (hs:s.size<=140737488355328) (JF:msg.size<=140737488350000)
 (hal:∀ a∈l,a.sig.chains.length<=140737488355328/\a.sig.path.length<=140737488355328):
 Calls Tryz.prog 40 #[.agg #[.int .i64 o.count,sv,kv],.string s,.string msg,lv] w (zbF X w o (Own.zbH o s msg l)):=by
 obtain⟨R,hR⟩:∃ R,R=Own.zbH o s msg l:=⟨_,rfl⟩
 obtain⟨Q,hQ⟩:∃ Q,Q=zbF X w o R:=⟨_,rfl⟩
 rw[<- hR,<- hQ]
 unfold Own.zbH at hR
 have HQ:=zh hQ;have HR:=zh hR;clear hQ hR
 obtain⟨sa,sc,rfl⟩:=hS.len
 obtain⟨ka,kc,rfl⟩:=hK.len
 obtain⟨la,lc,rfl,hap⟩:=id hA
 clear hap
 have F1:=zh (show Au w _ [(25,#[.int .i64 o.count,.slice sa o.spaces.length sc,.slice ka o.keys.length kc]),(25,#[.int .i64 0,.slice none 0 0,.slice none 0 0])] from(((CY.nil w).push 25 #[.int .i64 o.count,.slice sa o.spaces.length sc,.slice ka o.keys.length kc]).push 25 #[.int .i64 0,.slice none 0 0,.slice none 0 0]).boxes)
 have hS1:Own.BF w (.slice sa o.spaces.length sc) o.spaces:=hS.mono (fun _ _ _=>trivial)
 have hK1:Own.Du w (.slice ka o.keys.length kc) o.keys:=hK.mono (fun _ _ _=>trivial)
 have hval:=fun W (hW:Below w.heap.size w W)=>zcc o _ _ W (hS1.below hW) (hK1.below hW) (by omega) (by omega) (fun x hx=>by have:=hlm x hx;omega)
 have zea:=fun W (hW:Below w.heap.size w W)=>zcj o s _ _ W (hS1.below hW) (hK1.below hW) (by omega) (by omega) (fun x hx=>by have:=hlm x hx;omega) hs
 have HV:=zh hval;have HAU:=zh zea;have HS:=zh hS;have HK:=zh hK;have HA:=zh hA;have HLM:=zh hlm;have HAL:=zh hal;have HX:=zh hX
 clear hval zea hS hK hA hlm hal hS1 hK1 hX
 go_enter Tryz.func40,Tryz.ntmps40
 go_upto_region 1 with fail
 generalize ((w.alloc (.cells #[.int .i64 o.count,.slice sa o.spaces.length sc,.slice ka o.keys.length kc] 25)).alloc (.cells #[.int .i64 0,.slice none 0 0,.slice none 0 0] 25))=w1 at*
 obtain⟨x00,x01,x02⟩:=F1.out.Fw rfl
 obtain⟨x10,x11,x12,zbV,zbW,zbX⟩:=F1.out.zc8 rfl
 go_wp2_with fail
 refine(HV.out w1 F1.out.under).mono ?_
 rintro e w2 ⟨rfl,hb2⟩
 have F2:=zh (F1.out.step hb2);clear hb2
 cases hv:Own.Bv o with
 | false =>
   have HE:=zh (show R=.error 1 by rw[HR.out,hv]<;>rfl)
   clear hv
   have F:=F2
   (try clear x00 x01 x02);(try clear x10 x11 x12 zbV zbW zbX)
   obtain⟨x10,x11,x12,zbV,zbW,zbX⟩:=F.out.zc8 rfl
   go_wp2_with fail
   have G2:=((F.out.put 1 0 (.int .i64 0) rfl).put 1 1 (.slice none 0 0) rfl).put 1 2 (.slice none 0 0) rfl
   refine BJ rfl rfl rfl (AJ (G2.at1 1 rfl) Tryz.underlying25 rfl Bt) ?_
   rw[HQ.out,HE.out]
   exact⟨rfl,G2.under⟩
 | true=>
 have HR2:=zh (show R=(match Own.authority o s with|none=>.error 6|some x=>Own.zbA x msg o.keys l) by rw[HR.out,hv]<;>rfl)
 have za3:=zh (Own.zca hv)
 clear hv
 (try clear x00 x01 x02);(try clear x10 x11 x12 zbV zbW zbX)
 obtain⟨x00,x01,x02⟩:=F2.out.Fw rfl
 obtain⟨x10,x11,x12,zbV,zbW,zbX⟩:=F2.out.zc8 rfl
 go_wp2_with fail
 refine(HAU.out w2 F2.out.under).mono ?_
 intro e w3 hpost
 obtain⟨hval,hb3⟩:=hpost
 have F3:=zh (F2.out.step hb3);have B3:=zh hb3;clear hb3
 (try clear x00 x01 x02);(try clear x10 x11 x12 zbV zbW zbX)
 cases hau:Own.authority o s with
 | none =>
   rw[hau] at hval
   have Mq:e=.returned (.tuple #[.agg #[.string ⟨#[]⟩,.slice none 0 0,.int .i64 0],.bool false]):=hval
   subst Mq
   have HE:=zh (show R=.error 6 by rw[HR2.out,hau])
   clear hau hval
   go_upto_region 4 with fail
   have F4:=zh (F3.out.step ((Below.refl _ _).alloc (Nat.le_refl _) (.cells #[.string ⟨#[]⟩,.slice none 0 0,.int .i64 0] 39)))
   generalize w3.alloc (.cells #[.string ⟨#[]⟩,.slice none 0 0,.int .i64 0] 39)=w4 at*
   have F:=F4
   (try clear x00 x01 x02);(try clear x10 x11 x12 zbV zbW zbX)
   obtain⟨x10,x11,x12,zbV,zbW,zbX⟩:=F.out.zc8 rfl
   go_wp2_with fail
   have G2:=((F.out.put 1 0 (.int .i64 0) rfl).put 1 1 (.slice none 0 0) rfl).put 1 2 (.slice none 0 0) rfl
   refine BJ rfl rfl rfl (AJ (G2.at1 1 rfl) Tryz.underlying25 rfl Bt) ?_
   rw[HQ.out,HE.out]
   exact⟨rfl,G2.under⟩
 | some sp=>
 rw[hau] at hval
 obtain⟨mv,rfl,hom⟩:=hval
 have hmem:=Own.zbS hau
 have HR3:=zh (show R=Own.zbA sp msg o.keys l by rw[HR2.out,hau])
 obtain⟨ma,mm,mc,rfl⟩:=Ac hom
 obtain rfl:=Ba hom
 have HOM:=zh hom;have zen:=zh hmem
 clear hau hom hmem HR2
 go_upto_region 4 with fail
 have hb4:Below w3.heap.size w3 (w3.alloc (.cells #[.string sp.pre,.slice ma sp.members.length mc,.int .i64 sp.threshold] 39)):=zb
 have TI:=At.new w3 39 #[.string sp.pre,.slice ma sp.members.length mc,.int .i64 sp.threshold]
 have hmc:Own.Af (w3.alloc (.cells #[.string sp.pre,.slice ma sp.members.length mc,.int .i64 sp.threshold] 39)) (.slice ma sp.members.length mc) sp.members:=(Own.Af.of (Bc.own HOM.out) rfl).below hb4
 have F4:=zh (F3.out.step hb4);have sM:=zh TI;have HMC:=zh hmc
 clear hb4 TI hmc
 generalize w3.alloc (.cells #[.string sp.pre,.slice ma sp.members.length mc,.int .i64 sp.threshold] 39)=w4 at*
 have hz4:=F4.out.size
 have hap:=zcd (fun k=>X k\/(w.heap.size<=k/\k<w.heap.size+2)) o sp msg l (.slice sa o.spaces.length sc) (.slice ka o.keys.length kc) (.slice ma sp.members.length mc) (.slice la l.length lc) w4 (fun k hk=>by simp at hz4;rcases hk with hk|hk;have:=HX.out k hk;omega;omega) ((HS.out.mono (G:=fun k=>¬ (X k\/(w.heap.size<=k/\k<w.heap.size+2))) (fun k hx hk h=>h.elim hx (fun h=>by omega))).below F4.out.under) ((HK.out.mono (G:=fun k=>¬ (X k\/(w.heap.size<=k/\k<w.heap.size+2))) (fun k hx hk h=>h.elim hx (fun h=>by omega))).below F4.out.under) HMC.out (HA.out.below F4.out.under) za3.out hlk (HLM.out sp zen.out).1 JF HAL.out
 have HAP:=zh hap
 clear hap hz4
 obtain⟨s0,s1,s2⟩:=sM.out.c3
 obtain⟨x00,x01,x02⟩:=F4.out.Fw rfl
 obtain⟨x10,x11,x12,zbV,zbW,zbX⟩:=F4.out.zc8 rfl
 go_wp2_with fail
 refine HAP.out.mono ?_
 intro e w5 hpost
 obtain⟨hval,hb5⟩:=hpost
 have F5:=zh (F4.out.step hb5)
 clear hb5 HAP s0 s1 s2
 (try clear x00 x01 x02);(try clear x10 x11 x12 zbV zbW zbX)
 obtain⟨x10,x11,x12,zbV,zbW,zbX⟩:=F5.out.zc8 rfl
 cases hf:Own.zbA sp msg o.keys l with
 | error c =>
   rw[hf] at hval
   have Mq:e=.returned (.tuple #[Own.nobody,.int .i64 c]):=hval
   subst Mq
   have HE:=zh (show R=.error c by rw[HR3.out,hf])
   unfold Own.nobody
   clear hf hval
   go_wp2_with fail
   have G2:=((F5.out.put 1 0 (.int .i64 0) rfl).put 1 1 (.slice none 0 0) rfl).put 1 2 (.slice none 0 0) rfl
   refine BJ rfl rfl rfl (AJ (G2.at1 1 rfl) Tryz.underlying25 rfl Bt) ?_
   rw[HQ.out,HE.out]
   exact⟨rfl,G2.under⟩
 | ok K =>
   rw[hf] at hval
   obtain⟨sv2,kv2,rfl,hs2,hk2⟩:=hval
   have HE:=zh (show R=.ok K by rw[HR3.out,hf])
   obtain⟨va,vc,rfl⟩:=hs2.len
   obtain⟨ua,uc,rfl⟩:=hk2.len
   have HS2:=zh hs2;have HK2:=zh hk2
   clear hf hs2 hk2
   go_wp2_with fail
   have G2:=((F5.out.put 1 0 (.int .i64 o.count) rfl).put 1 1 (.slice va o.spaces.length vc) rfl).put 1 2 (.slice ua K.length uc) rfl
   refine BJ rfl rfl rfl (AJ (G2.at1 1 rfl) Tryz.underlying25 rfl Bt) ?_
   rw[HQ.out,HE.out]
   have Ip:∀ j,¬ (X j\/(w.heap.size<=j/\j<w.heap.size+2))->(((w5.setCell ⟨w.heap.size+1,0,none⟩ (.int .i64 o.count)).setCell ⟨w.heap.size+1,1,none⟩ (.slice va o.spaces.length vc)).setCell ⟨w.heap.size+1,2,none⟩ (.slice ua K.length uc)).heap[j]? = w5.heap[j]? :=fun j hj=>by
    have hne:j≠w.heap.size+1:=by rintro rfl;exact hj (.inr ⟨by omega,by omega⟩)
    rw[zo hne,zo hne,zo hne]
   refine⟨⟨_,_,rfl,?_,?_⟩,G2.under⟩
   ·exact(HS2.out.keep (by simp[World.setCell]) (fun k hk _=>Ip k hk)).mono (fun k hk _ hx=>hk (.inl hx))
   ·exact(HK2.out.keep (by simp[World.setCell]) (fun k hk _=>Ip k hk)).mono (fun k hk _ hx=>hk (.inl hx))
namespace Own
theorem zcq {o:Ao}{x:Space}(ho:Rt o)(hx:AX x=true)(msg:ByteArray)(l:List Ai):AO x msg o.keys l=zbA x msg o.keys l:=by
 unfold AO zbA
 have hm:Co x.members=true:=by
  unfold AX at hx
  simp only[Bool.and_eq_true] at hx
  exact hx.1.1.2
 rw[zce x msg hm o.keys l [] [] o.keys ho.sD (fun y=>by simp) (fun _ _ _=>rfl)]
 cases zbC x msg o.keys [] o.keys l<;>rfl
theorem zdj (o:Ao)(s msg:ByteArray)(l:List Ai):zb9 o s msg l=zbH o s msg l:=by
 unfold zb9 zbH
 by_cases ho:Bv o=true
 ·rw[if_pos ho,if_pos ho]
  cases ha:authority o s with
  | none=>rfl
  | some x =>
    have hO:=Rt.iff.1 ho
    have hx:AX x=true:=by
     unfold authority at ha
     split at ha
     ·rcases UG ha with h|h
      ·exact hO.sp x h
      ·cases h
     ·cases ha
    have:=zcq hO hx msg l
    unfold AO at this
    exact this
 ·rw[if_neg ho,if_neg ho]
theorem zbT (s:Space)(msg:ByteArray):∀ (l:List Ai) (seen:List ByteArray) (K K' : List KeyUse),Bl s msg seen K l=.ok K' -> K'.length<=K.length+l.length
 | [],seen,K,K',h => by
   unfold Bl at h
   cases h
   simp
 | a :: l,seen,K,K',h => by
   unfold Bl at h
   split at h
   ·cases h
   ·split at h
    ·cases h
    ·split at h
     ·split at h
      ·cases h
      ·have h1:=zbT s msg l _ _ _ h
       have h2:=fun p=>zdd K ⟨p,a.sig.index+1⟩
       rw[List.length_cons]
       exact Nat.le_trans h1 (Nat.le_trans (Nat.add_le_add_right (h2 _) _) (by omega))
     ·cases h
theorem zcB {o:Ao}{s msg:ByteArray}{l:List Ai}{K:List KeyUse}(h:zb9 o s msg l=.ok K):K.length<=o.keys.length+l.length:=by
 unfold zb9 at h
 split at h
 ·split at h
  ·cases h
  ·rename_i x hx
   cases hf:Bl x msg [] o.keys l with
   | error c=>rw[hf] at h;cases h
   | ok K' =>
     rw[hf] at h
     dsimp only at h
     split at h
     ·cases h
     ·cases h
      exact zbT x msg l [] o.keys _ hf
 ·cases h
def zcP (o:Ao):Except Int (List KeyUse)->Ao × Int
 | .error c=>(.none,c)
 | .ok K=>(⟨o.count,o.spaces,K⟩,0)
end Own
theorem Own.zdk {o:Own.Ao}{s msg:ByteArray}{l:List Own.Ai} : (Own.zcP o (Own.zb9 o s msg l)).1.spaces.length<=o.spaces.length/\(Own.zcP o (Own.zb9 o s msg l)).1.keys.length<=o.keys.length+l.length/\∀ x∈(Own.zcP o (Own.zb9 o s msg l)).1.spaces,x∈o.spaces:=by
 cases h:Own.zb9 o s msg l with
 | error c=>exact⟨Nat.zero_le _,Nat.zero_le _,fun x hx=>by cases hx⟩
 | ok K=>exact⟨Nat.le_refl _,Own.zcB h,fun x hx=>hx⟩
theorem zbF.val {X:Nat->Prop}{w:World}{o:Own.Ao}{R:Except Int (List Own.KeyUse)}{e:Ending}{w' : World}(h:zbF X w o R e w'):
 ∃ sv kv,e=.returned (.tuple #[.agg #[.int .i64 (Own.zcP o R).1.count,sv,kv],.int .i64 (Own.zcP o R).2])/\Own.BF w' sv (Own.zcP o R).1.spaces/\Own.Du w' kv (Own.zcP o R).1.keys/\Below w.heap.size w w':=by
 obtain⟨h,hb⟩:=h
 cases R with
 | error c=>exact⟨_,_,h,Aq.nil _ _,Aq.nil _ _,hb⟩
 | ok K =>
   obtain⟨sv,kv,h1,h2,h3⟩:=h
   exact⟨sv,kv,h1,h2.mono (fun _ _ _=>trivial),h3.mono (fun _ _ _=>trivial),hb⟩
theorem zc1 (o:Own.Ao)(s msg:ByteArray)(l:List Own.Ai)(sv kv lv:Value)(w:World)(hM:Il w)(hS:Own.BF w sv o.spaces)(hK:Own.Du w kv o.keys)(hA:Own.W9 w lv l)
 (hls:o.spaces.length<=140737488355328) (hlk:o.keys.length<=140737488355328) (hlm:∀ s∈o.spaces,s.members.length<=140737488355328) (hss:s.size<=140737488355328) (hms:msg.size<=140737488355328)
 (hal:l.length<=140737488355328) (zdH:∀ a∈l,a.name.size<=140737488355328/\∀ x∈a.sig.chains++a.sig.path,x.size<=140737488355328):
 Calls Tryz.prog 7 #[.agg #[.int .i64 o.count,sv,kv],.string s,.string msg,lv] w fun e w' => e=.returned (.bool true)/\Below w.heap.size w w':=by
 obtain⟨sa,sc,rfl⟩:=hS.len
 obtain⟨ka,kc,rfl⟩:=hK.len
 obtain⟨la,lc,rfl,hap⟩:=id hA
 clear hap
 have F1:=zh (show Au w _ [(25,#[.int .i64 o.count,.slice sa o.spaces.length sc,.slice ka o.keys.length kc])] from((CY.nil w).push 25 #[.int .i64 o.count,.slice sa o.spaces.length sc,.slice ka o.keys.length kc]).boxes)
 have hfo:=fun W (hW:Below w.heap.size w W)=>zcY o _ _ W (hS.below hW) (hK.below hW) hls hlk hlm
 have hfa:=fun W (hW:Below w.heap.size w W)=>zbQ (.slice la l.length lc) l W (hA.below hW) hal (fun a ha=>(zdH a ha).2)
 have HFO:=zh hfo;have HFA:=zh hfa
 have HMX:=zh hM;have HS:=zh hS;have HK:=zh hK;have HA:=zh hA;have zeo:=zh zdH
 clear hfo hfa hM hS hK hA zdH hlm
 go_enter Tryz.func7,Tryz.ntmps7
 go_upto_region 1 with fail
 generalize (w.alloc (.cells #[.int .i64 o.count,.slice sa o.spaces.length sc,.slice ka o.keys.length kc] 25))=w1 at*
 go_wp2_with fail
 refine(awake53_any _ (HMX.out.below F1.out.under)).mono ?_
 rintro e w2 ⟨rfl,hb⟩
 have F2:=zh (F1.out.step hb)
 clear hb F1
 obtain⟨x00,x01,x02⟩:=F2.out.Fw rfl
 go_wp2_with fail
 refine(HFO.out w2 F2.out.under).mono ?_
 rintro e w3 ⟨b,rfl,hf,hb⟩
 have F3:=zh (F2.out.step hb);have HF1:=zh hf
 clear hb hf F2
 (try clear x00 x01 x02)
 cases b with
 | false =>
   clear HF1
   go_wp2_with fail
   go_ret
   exact⟨rfl,F3.out.under⟩
 | true=>
 go_wp2_with fail
 refine(HFA.out w3 F3.out.under).mono ?_
 rintro e w4 ⟨b,rfl,hf,hb⟩
 have F4:=zh (F3.out.step hb);have HF2:=zh hf
 clear hb hf F3
 cases b with
 | false =>
   clear HF1 HF2
   go_wp2_with fail
   go_ret
   exact⟨rfl,F4.out.under⟩
 | true=>
 by_cases h1:200<(s.size:Int)+(msg.size:Int)
 ·have d1:decide (200<(s.size:Int)+(msg.size:Int))=true:=decide_eq_true h1
  have d1' : decide (200<s.size+msg.size)=true:=zt
  clear HF1 HF2
  go_wp2_with fail
  go_ret
  exact⟨rfl,F4.out.under⟩
 have d1:decide (200<(s.size:Int)+(msg.size:Int))=false:=decide_eq_false h1
 have d1' : decide (200<s.size+msg.size)=false:=zf
 have hfo:=HF1.out trivial
 have hfa:=HF2.out rfl
 have hlr:=Own.zdk (o:=o) (s:=s) (msg:=msg) (l:=l)
 have hap:=fun W (hW:Below w.heap.size w W)=>zcv (fun _=>False) o s msg l (.slice sa o.spaces.length sc) (.slice ka o.keys.length kc) (.slice la l.length lc) W (fun k hk=>hk.elim) (HMX.out.below hW) ((HS.out.below hW).mono (fun k _ _=>fun h=>h)) (HK.out.below hW) (HA.out.below hW).out (by have:=hfo.1;omega) (by have:=hfo.2.1;have:=hfa.1;omega) (fun x hx=>by have:=(hfo.2.2.1 x hx).2.1;omega) (by omega) (fun a ha=>by obtain⟨q1,q2,q3⟩:=hfa.2 a ha;exact⟨by omega,by omega,by omega⟩)
 have har:=fun W (hW:Below w.heap.size w W)=>zcw (fun _=>False) o s msg l (.slice sa o.spaces.length sc) (.slice ka o.keys.length kc) (.slice la l.length lc) W (fun k hk=>hk.elim) ((HS.out.below hW).mono (fun k _ _=>fun h=>h)) ((HK.out.below hW).mono (fun k _ _=>fun h=>h)) (HA.out.below hW).out (by have:=hfo.1;omega) (by have:=hfo.2.1;have:=hfa.1;omega) (fun x hx=>by have h2:=hfo.2.2.1 x hx;have:=h2.2.1;have:=h2.1;exact⟨by omega,by omega⟩) (by omega) (by omega) (fun a ha=>by obtain⟨q1,q2,q3⟩:=hfa.2 a ha;exact⟨by omega,by omega⟩)
 rw[<- Own.zdj] at har
 obtain⟨R,hR⟩:∃ R,R=Own.zcP o (Own.zb9 o s msg l):=⟨_,rfl⟩
 have tq:=fun W hW=>(hap W hW).mono (fun e w' h=>h.val)
 have zd3:=fun W hW=>(har W hW).mono (fun e w' h=>h.val)
 simp only[<- hR] at tq zd3 hlr
 obtain⟨q,code⟩:=R
 dsimp only at tq zd3 hlr
 have hsm:=fun(v1 v2 k1 k2:Value) W g1 g2 g3 g4=>zcM q v1 v2 k1 k2 W g1 g2 g3 g4 (by have:=hfo.1;have:=hlr.1;omega) (by have:=hfo.2.1;have:=hfa.1;have:=hlr.2.1;omega) (fun p hp=>by have:=(hfo.2.2.1 p (hlr.2.2 p hp)).2.1;omega)
 have HAP:=zh tq;have HAR:=zh zd3;have HSM:=zh hsm
 clear hap har tq zd3 hsm hlr hR hfo hfa HF1 HF2 HS HK HA zeo HMX
 obtain⟨x00,x01,x02⟩:=F4.out.Fw rfl
 go_wp2_with fail
 refine(HAP.out w4 F4.out.under).mono ?_
 rintro e w5 ⟨v1,k1,rfl,hs1,hk1,hb⟩
 have F5:=zh (F4.out.step hb)
 obtain⟨pa,pc,rfl⟩:=hs1.len
 obtain⟨qa,qc,rfl⟩:=hk1.len
 clear hb F4
 (try clear x00 x01 x02)
 go_upto_region 6 with fail
 have hb:Below w5.heap.size w5 (w5.alloc (.cells #[.int .i64 q.count,.slice pa q.spaces.length pc,.slice qa q.keys.length qc] 25)):=zb
 have A6:=zh (At.new w5 25 #[.int .i64 q.count,.slice pa q.spaces.length pc,.slice qa q.keys.length qc])
 have F6:=zh (F5.out.step hb);have S6:=zh (hs1.below hb);have K6:=zh (hk1.below hb)
 clear hb hs1 hk1 F5
 generalize w5.alloc (.cells #[.int .i64 q.count,.slice pa q.spaces.length pc,.slice qa q.keys.length qc] 25)=w6 at*
 obtain⟨g,hg⟩:∃ g,g=w5.heap.size:=⟨_,rfl⟩
 rw[<- hg] at A6 ⊢
 clear hg
 obtain⟨x00,x01,x02⟩:=F6.out.Fw rfl
 go_wp2_with fail
 refine(HAR.out w6 F6.out.under).mono ?_
 rintro e w7 ⟨v2,k2,rfl,hs2,hk2,hb⟩
 have F7:=zh (F6.out.step hb);have S7:=zh (S6.out.below hb);have K7:=zh (K6.out.below hb);have A7:=zh (A6.out.below hb A6.out.lt)
 obtain⟨ra,rc,rfl⟩:=hs2.len
 obtain⟨ta,tc,rfl⟩:=hk2.len
 clear hb F6 S6 K6 A6
 (try clear x00 x01 x02)
 go_upto_region 7 with fail
 have hb:Below w7.heap.size w7 (w7.alloc (.cells #[.int .i64 q.count,.slice ra q.spaces.length rc,.slice ta q.keys.length tc] 25)):=zb
 have C8:=zh (At.new w7 25 #[.int .i64 q.count,.slice ra q.spaces.length rc,.slice ta q.keys.length tc])
 have F8:=zh (F7.out.step hb);have S8:=zh (S7.out.below hb);have K8:=zh (K7.out.below hb);have A8:=zh (A7.out.below hb A7.out.lt);have T8:=zh (hs2.below hb);have U8:=zh (hk2.below hb)
 clear hb hs2 hk2 F7 S7 K7 A7
 generalize w7.alloc (.cells #[.int .i64 q.count,.slice ra q.spaces.length rc,.slice ta q.keys.length tc] 25)=w8 at*
 obtain⟨g2,hg⟩:∃ g,g=w7.heap.size:=⟨_,rfl⟩
 rw[<- hg] at C8 ⊢
 clear hg
 obtain⟨a0,a1,a2⟩:=A8.out.c3;obtain⟨c0,c1,c2⟩:=C8.out.c3
 go_wp2_with fail
 refine(HSM.out _ _ _ _ w8 S8.out T8.out K8.out U8.out).mono ?_
 rintro e w9 ⟨rfl,hb⟩
 have F9:=zh (F8.out.step hb)
 clear hb
 go_wp2_with fail
 go_ret
 exact⟨by first|rfl|simp,F9.out.under⟩
theorem Al.opened {w:World}{a:Addr}{len cap:Nat}{ss:List ByteArray}(h:∀ i,i<ss.length->w.cell? (a.add i)=some (.string (ss.getD i ByteArray.empty)))(hl:len<=ss.length):Al w (.slice (some a) len cap) (ss.take len):=by
 have e:(ss.take len).length=len:=by rw[List.length_take];omega
 by_cases h0:len=0
 ·exact⟨_,_,by rw[e],.inl (by rw[e];exact h0)⟩
 ·obtain⟨b,o,sp⟩:=a
  cases sp with
  | none =>
    refine⟨_,_,by rw[e],.inr ⟨b,o,rfl,fun j hj=>?_⟩⟩
    rw[e] at hj
    have:=h j (by omega)
    have e2:(⟨b,o,none⟩:Addr).add j=⟨b,o+j,none⟩:=by unfold Addr.add;split<;>simp_all
    rw[e2] at this
    rw[this]
    have:(ss.take len).getD j ⟨#[]⟩=ss.getD j ByteArray.empty:=by simp[List.getD_eq_getElem?_getD,List.getElem?_take,hj];rfl
    rw[this]
  | some p =>
    exfalso
    have:=h 0 (by omega)
    unfold World.cell? Addr.add at this
    simp at this
    split at this<;>simp_all
open Go.ChangeShapes in
theorem zcf {H:Type}{P:Program}{e:TypeId} : ∀ (ss:List ByteArray),(DataW.weightsAll P e (strs (H:=H) ss)).all (· <= reachBytes)=true->∀ s∈ss,s.size<=reachBytes
 | [],_,_,h=>by cases h
 | x :: l,h,s,hs => by
   have e1:DataW.weightsAll P e (strs (H:=H) (x::l))=[x.data.toList.length]++DataW.weightsAll P e (strs (H:=H) l):=rfl
   rw[e1,List.all_append,Bool.and_eq_true] at h
   rcases List.mem_cons.1 hs with rfl|hs
   ·have:=h.1
    simp only[List.all_cons,List.all_nil,Bool.and_true,decide_eq_true_eq] at this
    rw[Array.length_toList] at this
    exact this
   ·exact zcf l h.2 s hs
theorem zcC:Tryz.prog.bytesOf 9=16:=by kernel_rfl
open Go.ChangeShapes Go.WideShapes in
theorem zd4 {H:Type}{enc:TypeId × Value->H}{W:World}{a:Option Addr}{len cap:Nat}{d:DataW H}{p:List MemPlace}(h:DataW.Trod enc Tryz.prog W 0 (fun _=>true) true 68 (.slice a len cap) d p)
 (hz:(d.weights Tryz.prog 68).all (· <= reachBytes)=true):∃ xs:List ByteArray,Al W (.slice a len cap) xs/\(∀ z∈xs,z.size<=140737488355328)/\xs.length<=140737488355328:=by
 obtain⟨fuel,hf⟩:=h
 rcases open_strings Tryz.underlying68 Tryz.underlying9 (by kernel_rfl) hf with ⟨hcs,_⟩|⟨a',len',cap',ss,hcs,_,hl,hm,hn,hx2,hcell,_⟩
 ·have e:Value.slice a len cap=.slice none 0 0:=by simpa [Value.cells] using hcs
  rw[e]
  exact⟨[],⟨none,0,rfl,.inl rfl⟩,(fun z hz=>by cases hz),Nat.zero_le _⟩
 ·have e:Value.slice a len cap=.slice (some a') len' cap':=by simpa [Value.cells] using hcs
  rw[e]
  have hn' : ss.length=cap':=by simpa using hn
  have hd:d=.slice (strs (ss.take len')) (strs (ss.drop len')):=(Prod.mk.inj hx2).1
  rw[hd] at hz
  have hw:(DataW.slice (strs (H:=H) (ss.take len')) (strs (ss.drop len'))).weights Tryz.prog 68=((strs (H:=H) (ss.take len')).length+(strs (H:=H) (ss.drop len')).length)*Tryz.prog.bytesOf 9::(DataW.weightsAll Tryz.prog 9 (strs (H:=H) (ss.take len'))++DataW.weightsAll Tryz.prog 9 (strs (H:=H) (ss.drop len'))):=by
   simp only[DataW.weights,Tryz.underlying68]
  rw[hw,List.all_cons,List.all_append,Bool.and_eq_true,Bool.and_eq_true,zcC] at hz
  obtain⟨h1,h2,_⟩:=hz
  have e1:(strs (H:=H) (ss.take len')).length=len':=by unfold strs;rw[List.length_map,List.length_take];omega
  rw[e1] at h1
  have h1':=of_decide_eq_true h1
  unfold reachBytes at h1'
  refine⟨ss.take len',Al.opened hcell (by omega),fun z hz2=>?_,?_⟩
  ·have:=zcf _ h2 z hz2
   unfold reachBytes at this
   omega
  ·rw[List.length_take]
   omega
end
section
open Go Go.ChangeShapes Go.WideShapes Go.RowKit Go.Maps
section
variable {H:Type} {enc:TypeId × Value->H}
theorem zbD {a:Assume}{C:Checked}{os:Os}{f:FuncId}{fn:Func}{s:ChangeSpec}{conds:List PathCond}{apart fresh handsOn again:Bool}{X:World->Array Value->Prop}
 (hX:∀ (w w' : World) (args:Array Value),w.heap=w'.heap->X w args->X w' args)
 (own:ownKnob C.prog.godebug=none) (started:os.Started) (noInit:C.prog.inits.idxOf? f=none) (hfn:C.prog.funcs[f]? = some fn)
 (witness : ∃ (w : World) (tape : Tape) (i : Input),w.os = os ∧ (w.forCall tape i).Shaped C.prog ∧ i.vars = [] ∧ Input.okWide C.prog (w.forCall tape i) .any w.heap.size f i ∧
   ((s.pre enc C.prog fn conds apart (w.forCall tape i).memory i.args/\X (w.forCall tape i).memory i.args)/\sizedMet enc C.prog fn (OpenSpec.ofChange s) apart (w.forCall tape i).memory i.args)/\a.holds C.prog (lone (Frame.enter C.prog f i.args .normal) [] (w.forCall tape i)))
 (contract : ∀ (W : World) (base : Nat) (args : Array Value) (ds gs : List (DataW H)) (before : List MemPlace),
   (∀ (j:Nat) t v,fn.params[j]? = some t->args[j]? = some v->Value.okWide C.prog W .any base t v)->
   DataW.Whole enc C.prog fn.params.toList s.vars apart W args.toList ds gs before->
   conds.all (PathCond.test C.prog ⟨fn.params.toList,ds,s.plain.varTypes C.prog,gs⟩)=true->
   (DataW.weightsEach C.prog (fn.params.toList++s.plain.varTypes C.prog) (ds++gs)).all (· <= reachBytes)=true->X W args->W.ShapedOpen C.prog->
   a.holds C.prog (lone (Frame.enter C.prog f args .normal) [] W)->
   Calls C.prog f args W fun e W' => ∃ v,e=.returned v/\s.post enc C.prog fn apart fresh handsOn again W args v W'):
 ReturnsInHanded a C os f .any (fun w args=>(s.pre enc C.prog fn conds apart w args/\X w args)/\sizedMet enc C.prog fn (OpenSpec.ofChange s) apart w args) (s.post enc C.prog fn apart fresh handsOn again):=by
 refine returnsInHanded_of_calls own started noInit witness ?_
 intro w tape i _ hsh _ hok hpre hholds
 obtain⟨_,_,_,fn',hfn',_,_,_,_,hval⟩:=hok
 have e:fn' = fn:=Option.some.inj (hfn'.symm.trans hfn)
 subst e
 obtain⟨⟨⟨ds,gs,before,hw,hc⟩,hx⟩,hz⟩:=hpre
 have hw':=DataW.Whole.of_heap (w':=w.forCall tape i) (by rfl) hw
 refine(contract (w.forCall tape i) w.heap.size i.args ds gs before hval hw' hc (hz.weights hw) (hX _ _ _ (by rfl) hx) hsh hholds).mono fun e W' ⟨v,he,hp⟩=>?_
 subst he
 exact ChangeSpec.post_blind hp
theorem zd5 {W:World}(h:W.ShapedOpen Tryz.prog):Il W:=
 Go.Proofs.cell_of_shapedOpen_int (zero:=#[.int .i64 0]) (t:=3) h (of_decide_eq_true (by kernel_rfl)) (by kernel_rfl) rfl (by kernel_rfl) (by kernel_rfl) Tryz.underlying3
end
end
section
open Go Go.ChangeShapes Go.WideShapes Go.RowKit Go.Maps
section
variable {H:Type} {enc:TypeId × Value->H}
theorem zbL {P:Program}{e:TypeId}{p:Nat->Bool} : ∀ l:List (DataW H),(DataW.weightsAll P e l).all p=true->∀ d∈l,(d.weights P e).all p=true
 | [],_,_,h=>by cases h
 | x :: l,h,d,hd => by
   have e1:DataW.weightsAll P e (x::l)=x.weights P e++DataW.weightsAll P e l:=rfl
   rw[e1,List.all_append,Bool.and_eq_true] at h
   rcases List.mem_cons.1 hd with rfl|hd
   ·exact h.1
   ·exact zbL l h.2 d hd
theorem zde {α : Type}{R:Elem α}{Good : α -> Prop}{T S:TypeId}{size B:Nat}(hu:Tryz.prog.underlying S=some (.slice T))(hsz:Tryz.prog.cellsOf T=size)(hby:Tryz.prog.bytesOf T=B)(hB:1<=B)(hs1:1<=size){W:World}
 (zdu:∀ (n:Nat) (cs:List Value) (x:DataW H × List MemPlace),cs.length=size->DataW.trod enc Tryz.prog W 0 (fun _=>true) true n T cs=some x->(x.1.weights Tryz.prog T).all (· <= reachBytes)=true->∃ o,R Own.aP W cs o/\Good o)
 {v:Value} {d:DataW H} {ps:List MemPlace} (h:DataW.Trod enc Tryz.prog W 0 (fun _=>true) true S v d ps) (hsl:∃ b len cap,v=.slice b len cap) (hz:(d.weights Tryz.prog S).all (· <= reachBytes)=true):
 ∃ l:List α,Aq size R Own.aP W v l/\(∀ o∈l,Good o)/\l.length<=140737488355328:=by
 obtain⟨a0,zbn,cap0,rfl⟩:=hsl
 obtain⟨n,hy⟩:=h
 rcases Deep.open_slice hu hy with ⟨hcs,_⟩|⟨a,len,cap,m,k,D,Pl,hcs,_,hl,_,hm,hx,hc⟩
 ·have e:Value.slice a0 zbn cap0=.slice none 0 0:=by simpa [Value.cells] using hcs
  rw[e]
  exact⟨[],Aq.nil _ _,(fun z hz=>by cases hz),Nat.zero_le _⟩
 ·have e:Value.slice a0 zbn cap0=.slice (some a) len cap:=by simpa [Value.cells] using hcs
  rw[e]
  have hm' : m=cap:=by rw[hm]<;>rfl
  have hd:=(Prod.mk.inj hx).1
  rw[hd] at hz
  have hw:(DataW.slice ((List.range len).map D) ((List.range (m-len)).map fun j=>D (len+j))).weights Tryz.prog S=
   (((List.range len).map D).length + ((List.range (m - len)).map fun j => D (len + j)).length) * Tryz.prog.bytesOf T ::
     (DataW.weightsAll Tryz.prog T ((List.range len).map D)++DataW.weightsAll Tryz.prog T ((List.range (m-len)).map fun j=>D (len+j))):=by
   simp only[DataW.weights,hu]
  rw[hw,List.all_cons,List.all_append,Bool.and_eq_true,Bool.and_eq_true,hby] at hz
  obtain⟨h1,h2,_⟩:=hz
  have h1':=of_decide_eq_true h1
  unfold reachBytes at h1'
  rw[List.length_map,List.length_range] at h1'
  have hlen' : len<=140737488355328:=by
   have:=Nat.mul_le_mul_left (len+((List.range (m-len)).map fun j=>D (len+j)).length) hB
   omega
  have each:∀ i,i<len->∃ (cs:List Value) (o : α),cs.length=size/\(∀ j,j<size->W.cell? (a.add (i*size+j))=cs[j]?)/\R Own.aP W cs o/\Good o:=by
   intro i hi
   obtain⟨cs',g1,g2⟩:=hc i (by omega)
   rw[hsz] at g1
   obtain⟨_,hlen,hcell⟩:=World.cells?_some g1
   have hzi:=zbL _ h2 (D i) (List.mem_map.2 ⟨i,List.mem_range.2 hi,rfl⟩)
   obtain⟨o,q1,q2⟩:=zdu _ cs' _ hlen g2 hzi
   exact⟨cs',o,hlen,fun j hj=>by rw[<- Deep.add_add];exact hcell j hj,q1,q2⟩
  by_cases h0:len=0
  ·subst h0
   exact⟨[],Aq.nil _ _,(fun z hz=>by cases hz),Nat.zero_le _⟩
  have ho0:Nonempty α :=by
   obtain⟨_,o,_⟩:=each 0 (by omega)
   exact⟨o⟩
  obtain⟨O,hO⟩:∃ O:Nat -> α,∀ i,i<len->∃ cs:List Value,cs.length=size/\(∀ j,j<size->W.cell? (a.add (i*size+j))=cs[j]?)/\R Own.aP W cs (O i)/\Good (O i):=by
   refine⟨fun i=>if h:i<len then (each i h).choose_spec.choose else Classical.choice ho0,fun i hi=>?_⟩
   simp only[dif_pos hi]
   exact⟨_,(each i hi).choose_spec.choose_spec⟩
  have el:((List.range len).map O).length=len:=by rw[List.length_map,List.length_range]
  refine⟨(List.range len).map O,⟨_,_,by rw[el],.inr ?_⟩,?_,by rw[el];exact hlen'⟩
  ·obtain⟨b,o,sp⟩:=a
   obtain⟨cs0,l0,hcell,_⟩:=hO 0 (by omega)
   have hc0:=hcell 0 (by omega)
   have hsome:∃ u,cs0[0]? = some u:=⟨cs0[0]'(by omega),List.getElem?_eq_getElem (by omega)⟩
   obtain⟨u,hu0⟩:=hsome
   rw[hu0] at hc0
   cases sp with
   | some p =>
     exfalso
     unfold World.cell? Addr.add at hc0
     simp at hc0
     split at hc0<;>simp_all
   | none =>
     have ad:∀ q,(⟨b,o,none⟩:Addr).add q=⟨b,o+q,none⟩:=fun q=>by unfold Addr.add;split<;>simp_all
     refine⟨b,o,rfl,trivial,?_,?_⟩
     ·rw[ad] at hc0
      exact block_lt hc0
     ·intro i hi
      rw[el] at hi
      obtain⟨cs,k0,k1,k2,_⟩:=hO i hi
      simp only[List.getElem_map,List.getElem_range]
      refine⟨cs,k0,fun j u hj=>?_,k2⟩
      have hjl:j<cs.length:=(List.getElem?_eq_some_iff.1 hj).1
      have:=k1 j (by omega)
      rw[ad,hj] at this
      rw[Nat.add_assoc]
      exact this
  ·intro o ho
   obtain⟨i,hi,rfl⟩:=List.mem_map.1 ho
   obtain⟨_,_,_,_,q⟩:=hO i (List.mem_range.1 hi)
   exact q
end
end
section
open Go Go.ChangeShapes Go.WideShapes Go.RowKit Go.Maps
section
variable {H:Type} {enc:TypeId × Value->H}
theorem zdf:Tryz.prog.cellsOf 3=1:=by kernel_rfl
theorem zcg:Tryz.prog.cellsOf 9=1:=by kernel_rfl
def zcD (m:Own.Member):Prop:=m.name.size<=140737488355328/\m.pub.size<=140737488355328
def zdI (k:Own.KeyUse):Prop:=k.pub.size<=140737488355328/\(Lit.int .i64 k.next).wf=true
theorem zbE {s:ByteArray}(h:s.data.toList.length<=reachBytes):s.size<=140737488355328:=by
 unfold reachBytes at h
 have e:s.size=s.data.toList.length:=by rw[Array.length_toList]<;>rfl
 omega
theorem zcQ {W:World}(n:Nat)(cs:List Value)(x:DataW H × List MemPlace)(hl:cs.length=2)(hy:DataW.trod enc Tryz.prog W 0 (fun _=>true) true n 76 cs=some x)(hz:(x.1.weights Tryz.prog 76).all (· <= reachBytes)=true):
 ∃ o,Own.DU Own.aP W cs o/\zcD o:=by
 match cs,hl with
 | [c0,c1],_ =>
   obtain⟨y0,y1,m,he,_,u0,u1⟩:=ChangeShapes.trod_struct2 Tryz.underlying76 hy
   simp only[zcg,List.drop,List.take] at u0 u1
   obtain⟨s,hs,rfl,_⟩:=DataW.trod_string Tryz.underlying9 u0
   obtain⟨t,ht,rfl,_⟩:=DataW.trod_string Tryz.underlying9 u1
   simp only[List.cons.injEq,and_true] at hs ht
   subst hs;subst ht
   have hw:x.1.weights Tryz.prog 76=[s.data.toList.length,t.data.toList.length]:=by
    rw[he]
    simp only[DataW.weights,Tryz.underlying76]
    rfl
   rw[hw] at hz
   simp only[List.all_cons,List.all_nil,Bool.and_true,Bool.and_eq_true,decide_eq_true_eq] at hz
   exact⟨⟨s,t⟩,rfl,zbE hz.1,zbE hz.2⟩
theorem zdv {W:World}(n:Nat)(cs:List Value)(x:DataW H × List MemPlace)(hl:cs.length=2)(hy:DataW.trod enc Tryz.prog W 0 (fun _=>true) true n 59 cs=some x)(hz:(x.1.weights Tryz.prog 59).all (· <= reachBytes)=true):
 ∃ o,Own.aQ Own.aP W cs o/\zdI o:=by
 match cs,hl with
 | [c0,c1],_ =>
   obtain⟨y0,y1,m,he,_,u0,u1⟩:=ChangeShapes.trod_struct2 Tryz.underlying59 hy
   simp only[zcg,zdf,List.drop,List.take] at u0 u1
   obtain⟨s,hs,rfl,_⟩:=DataW.trod_string Tryz.underlying9 u0
   obtain⟨t,ht,rfl,wt⟩:=DataW.trod_int Tryz.underlying3 u1
   simp only[List.cons.injEq,and_true] at hs ht
   subst hs;subst ht
   have hw:x.1.weights Tryz.prog 59=[s.data.toList.length]:=by
    rw[he]
    simp only[DataW.weights,Tryz.underlying59]
    rfl
   rw[hw] at hz
   simp only[List.all_cons,List.all_nil,Bool.and_true,decide_eq_true_eq] at hz
   exact⟨⟨s,t⟩,rfl,zbE hz,wt⟩
theorem zc7 {W:World}{S T:TypeId}(hu:Tryz.prog.underlying S=some (.slice T)){n:Nat}{v:Value}{x:DataW H × List MemPlace}(hy:DataW.trod enc Tryz.prog W 0 (fun _=>true) true n S [v]=some x):∃ b len cap,v=.slice b len cap:=by
 rcases Deep.open_slice hu hy with ⟨hcs,_⟩|⟨a,len,cap,m,k,D,Pl,hcs,_⟩
 ·exact⟨none,0,0,by simpa using hcs⟩
 ·exact⟨_,len,cap,by simpa using hcs⟩
theorem zcx {α : Type}{R:Elem α}{Good : α -> Prop}{T S:TypeId}{size B:Nat}(hu:Tryz.prog.underlying S=some (.slice T))(hsz:Tryz.prog.cellsOf T=size)(hby:Tryz.prog.bytesOf T=B)(hB:1<=B)(hs1:1<=size){W:World}
 (zdu:∀ (n:Nat) (cs:List Value) (x:DataW H × List MemPlace),cs.length=size->DataW.trod enc Tryz.prog W 0 (fun _=>true) true n T cs=some x->(x.1.weights Tryz.prog T).all (· <= reachBytes)=true->∃ o,R Own.aP W cs o/\Good o)
 {n:Nat} {v:Value} {x:DataW H × List MemPlace} (hy:DataW.trod enc Tryz.prog W 0 (fun _=>true) true n S [v]=some x) (hz:(x.1.weights Tryz.prog S).all (· <= reachBytes)=true):
 ∃ l:List α,Aq size R Own.aP W v l/\(∀ o∈l,Good o)/\l.length<=140737488355328:=by
 obtain⟨b,len,cap,rfl⟩:=zc7 hu hy
 exact zde (ps:=x.2) hu hsz hby hB hs1 zdu ⟨n,hy⟩ ⟨b,len,cap,rfl⟩ hz
theorem zcR {W:World}{n:Nat}{v:Value}{x:DataW H × List MemPlace}(hy:DataW.trod enc Tryz.prog W 0 (fun _=>true) true n 26 [v]=some x)(hz:(x.1.weights Tryz.prog 26).all (· <= reachBytes)=true):∃ l,Own.Af W v l/\(∀ o∈l,zcD o)/\l.length<=140737488355328:=
 zcx (B:=32) Tryz.underlying26 (by kernel_rfl) (by kernel_rfl) (by decide) (by decide) zcQ hy hz
theorem zdw {W:World}{n:Nat}{v:Value}{x:DataW H × List MemPlace}(hy:DataW.trod enc Tryz.prog W 0 (fun _=>true) true n 23 [v]=some x)(hz:(x.1.weights Tryz.prog 23).all (· <= reachBytes)=true):∃ l,Own.Du W v l/\(∀ o∈l,zdI o)/\l.length<=140737488355328:=
 zcx (B:=24) Tryz.underlying23 (by kernel_rfl) (by kernel_rfl) (by decide) (by decide) zdv hy hz
theorem zdl:Tryz.prog.cellsOf 26=1:=by kernel_rfl
theorem zdx:Tryz.prog.cellsOf 22=1:=by kernel_rfl
theorem zdy {W:World}{base:Nat}{sp:Nat->Bool}{v:Value}{d:DataW H}{ps:List MemPlace}(hval:Value.okWide Tryz.prog W .any base 9 v)(h:DataW.Trod enc Tryz.prog W 0 sp true 9 v d ps)(hz:(d.weights Tryz.prog 9).all (· <= reachBytes)=true):
 ∃ s:ByteArray,v=.string s/\s.size<=140737488355328:=by
 obtain⟨s,rfl,rfl,_,_⟩:=ChangeMaps.open_string Tryz.underlying9 hval h
 refine⟨s,rfl,?_⟩
 simp only[DataW.weights,List.all_cons,List.all_nil,Bool.and_true,decide_eq_true_eq,Array.length_toList] at hz
 unfold reachBytes at hz
 have e:s.size=s.data.size:=rfl
 omega
theorem zdm:Tryz.prog.cellsOf 23=1:=by kernel_rfl
def zda (s:Own.Space):Prop:=s.pre.size<=140737488355328/\(Lit.int .i64 s.threshold).wf=true/\(∀ m∈s.members,zcD m)/\s.members.length<=140737488355328
theorem zdb {W:World}(n:Nat)(cs:List Value)(x:DataW H × List MemPlace)(hl:cs.length=3)(hy:DataW.trod enc Tryz.prog W 0 (fun _=>true) true n 39 cs=some x)(hz:(x.1.weights Tryz.prog 39).all (· <= reachBytes)=true):
 ∃ o,Own.EI Own.aP W cs o/\zda o:=by
 match cs,hl with
 | [c0,c1,c2],_ =>
   obtain⟨y0,y1,y2,m,he,_,u0,u1,u2⟩:=Deep.trod_struct3 Tryz.underlying39 hy
   simp only[zcg,zdf,zdl,List.drop,List.take] at u0 u1 u2
   obtain⟨s,hs,rfl,_⟩:=DataW.trod_string Tryz.underlying9 u0
   obtain⟨t,ht,rfl,wt⟩:=DataW.trod_int Tryz.underlying3 u2
   simp only[List.cons.injEq,and_true] at hs ht
   subst hs;subst ht
   have hw:x.1.weights Tryz.prog 39=s.data.toList.length::(y1.1.weights Tryz.prog 26++[]):=by
    rw[he]
    simp only[DataW.weights,Tryz.underlying39]
    rfl
   rw[hw] at hz
   simp only[List.all_cons,List.append_nil,Bool.and_eq_true,decide_eq_true_eq] at hz
   obtain⟨l,h1,h2,h3⟩:=zcR u1 hz.2
   exact⟨⟨s,l,t⟩,⟨c1,rfl,h1⟩,zbE hz.1,wt,h2,h3⟩
theorem zdc {W:World}{n:Nat}{v:Value}{x:DataW H × List MemPlace}(hy:DataW.trod enc Tryz.prog W 0 (fun _=>true) true n 22 [v]=some x)(hz:(x.1.weights Tryz.prog 22).all (· <= reachBytes)=true):∃ l,Own.BF W v l/\(∀ o∈l,zda o)/\l.length<=140737488355328:=
 zcx (B:=48) Tryz.underlying22 (by kernel_rfl) (by kernel_rfl) (by decide) (by decide) zdb hy hz
theorem zdz:Tryz.prog.cellsOf 25=3:=by kernel_rfl
theorem zdn {W:World}{base:Nat}{v:Value}{d:DataW H}{ps:List MemPlace}(hval:Value.okWide Tryz.prog W .any base 25 v)(h:DataW.Trod enc Tryz.prog W 0 (fun _=>true) true 25 v d ps)(hz:(d.weights Tryz.prog 25).all (· <= reachBytes)=true):
 ∃ (o:Own.Ao) (u k:Value),v=.agg #[.int .i64 o.count,u,k]/\Own.BF W u o.spaces/\Own.Du W k o.keys/\(Lit.int .i64 o.count).wf=true/\(∀ s∈o.spaces,zda s)/\(∀ k∈o.keys,zdI k)/\o.spaces.length<=140737488355328/\o.keys.length<=140737488355328:=by
 obtain⟨cs,rfl,hs⟩:=okWide_struct Tryz.underlying25 hval
 rw[zdz] at hs
 match cs,hs with
 | ⟨[c0,c1,c2]⟩,_ =>
   obtain⟨n,hy⟩:=h
   obtain⟨y0,y1,y2,m,he,_,u0,u1,u2⟩:=Deep.trod_struct3 Tryz.underlying25 hy
   simp only[zdf,zdx,zdm,Value.cells,List.drop,List.take] at u0 u1 u2
   obtain⟨a,ha,rfl,wa⟩:=DataW.trod_int Tryz.underlying3 u0
   simp only[List.cons.injEq,and_true] at ha
   subst ha
   have hd:d=.agg [.lit (.int .i64 a),y1.1,y2.1]:=(Prod.mk.inj he).1
   have hw:(DataW.agg [.lit (.int .i64 a),y1.1,y2.1]).weights Tryz.prog 25=y1.1.weights Tryz.prog 22++(y2.1.weights Tryz.prog 23++[]):=by
    simp only[DataW.weights,Tryz.underlying25]
    rfl
   rw[hd,hw,List.append_nil,List.all_append,Bool.and_eq_true] at hz
   obtain⟨l,h1,h2,h3⟩:=zdc u1 hz.1
   obtain⟨k,g1,g2,g3⟩:=zdw u2 hz.2
   exact⟨⟨a,l,k⟩,c1,c2,rfl,h1,g1,wa,h2,g2,h3,g3⟩
theorem zdJ:Tryz.prog.cellsOf 68=1:=by kernel_rfl
theorem zcS:Tryz.prog.cellsOf 70=3:=by kernel_rfl
theorem zdg {W:World}{S T:TypeId}(hu:Tryz.prog.underlying S=some (.slice T)){n:Nat}{v:Value}{x:DataW H × List MemPlace}(hy:DataW.trod enc Tryz.prog W 0 (fun _=>true) true n S [v]=some x):Eb v:=by
 rcases Deep.open_slice hu hy with ⟨hcs,_⟩|⟨a,len,cap,m,k,D,Pl,hcs,_,hl,_⟩
 ·exact⟨none,0,0,by simpa using hcs,Nat.le_refl _⟩
 ·exact⟨_,len,cap,by simpa using hcs,hl⟩
theorem zcT {W:World}{n:Nat}{v:Value}{x:DataW H × List MemPlace}(hy:DataW.trod enc Tryz.prog W 0 (fun _=>true) true n 68 [v]=some x)(hz:(x.1.weights Tryz.prog 68).all (· <= reachBytes)=true):∃ xs:List ByteArray,Al W v xs/\(∀ z∈xs,z.size<=140737488355328)/\xs.length<=140737488355328:=by
 obtain⟨b,len,cap,rfl⟩:=zc7 Tryz.underlying68 hy
 exact zd4 (p:=x.2) ⟨n,hy⟩ hz
end
end
section
open Go Go.ChangeShapes Go.WideShapes Go.RowKit Go.Maps
section
variable {H:Type} {enc:TypeId × Value->H}
def GAp (a:Own.Ai):Prop:=a.name.size<=140737488355328/\(Lit.int .i64 a.sig.index).wf=true/\(∀ s∈a.sig.chains,s.size<=140737488355328)/\(∀ k∈a.sig.path,k.size<=140737488355328)/\a.sig.chains.length<=140737488355328/\a.sig.path.length<=140737488355328
theorem GAp.sizes {a:Own.Ai}(h:GAp a):a.name.size<=140737488355328/\∀ x∈a.sig.chains++a.sig.path,x.size<=140737488355328:=⟨h.1,fun x hx=>by
 rcases List.mem_append.1 hx with hx|hx
 ·exact h.2.2.1 x hx
 ·exact h.2.2.2.1 x hx⟩
theorem zd6 {W:World}(n:Nat)(cs:List Value)(x:DataW H × List MemPlace)(hl:cs.length=4)(hy:DataW.trod enc Tryz.prog W 0 (fun _=>true) true n 72 cs=some x)(hz:(x.1.weights Tryz.prog 72).all (· <= reachBytes)=true):
 ∃ o,Own.RAp Own.aP W cs o/\GAp o:=by
 match cs,hl with
 | [c0,c1,c2,c3],_ =>
   obtain⟨y0,y1,m,he,_,u0,u1⟩:=ChangeShapes.trod_struct2 Tryz.underlying72 hy
   simp only[zcg,zcS,List.drop,List.take] at u0 u1
   obtain⟨s,hs,e0,_⟩:=DataW.trod_string Tryz.underlying9 u0
   obtain⟨z0,z1,z2,m2,he2,_,g0,g1,g2⟩:=Deep.trod_struct3 Tryz.underlying70 u1
   simp only[zdf,zdJ,List.drop,List.take] at g0 g1 g2
   obtain⟨a,ha,e1,wa⟩:=DataW.trod_int Tryz.underlying3 g0
   simp only[List.cons.injEq,and_true] at hs ha
   subst hs;subst ha
   have hd2:y1.1=.agg [.lit (.int .i64 a),z1.1,z2.1]:=by rw[he2,e1]
   have hd:x.1=.agg [.lit (.string s.data.toList),.agg [.lit (.int .i64 a),z1.1,z2.1]]:=by rw[<- hd2,he,e0]
   have hw:(DataW.agg [.lit (.string s.data.toList),.agg [.lit (.int .i64 a),z1.1,z2.1]]).weights Tryz.prog 72=s.data.toList.length::((z1.1.weights Tryz.prog 68++(z2.1.weights Tryz.prog 68++[]))++[]):=by
    simp only[DataW.weights,Tryz.underlying72]
    rfl
   rw[hd,hw] at hz
   simp only[List.all_cons,List.append_nil,List.all_append,Bool.and_eq_true,decide_eq_true_eq] at hz
   obtain⟨l,h1,h2,h3⟩:=zcT g1 hz.2.1
   obtain⟨k,k1,k2,k3⟩:=zcT g2 hz.2.2
   exact⟨⟨s,⟨a,l,k⟩⟩,⟨c2,c3,rfl,⟨h1,zdg Tryz.underlying68 g1,fun _ _ _=>trivial⟩,⟨k1,zdg Tryz.underlying68 g2,fun _ _ _=>trivial⟩⟩,zbE hz.1,wa,h2,k2,h3,k3⟩
theorem zdK {W:World}{v:Value}{d:DataW H}{ps:List MemPlace}(h:DataW.Trod enc Tryz.prog W 0 (fun _=>true) true 27 v d ps)(hsl:∃ b len cap,v=.slice b len cap)(hz:(d.weights Tryz.prog 27).all (· <= reachBytes)=true):
 ∃ l,Own.W9 W v l/\(∀ a∈l,GAp a)/\l.length<=140737488355328:=by
 obtain⟨l,h1,h2,h3⟩:=zde (B:=72) Tryz.underlying27 (by kernel_rfl) (by kernel_rfl) (by decide) (by decide) zd6 h hsl hz
 exact⟨l,Own.eH h1,h2,h3⟩
end
end
section
open Go Go.ChangeShapes Go.WideShapes Go.ChangeAt Go.RowKit
theorem zcU:ownKnob Tryz.prog.godebug=none:=by kernel_rfl
theorem zbG:laidOutB Tryz.prog=true:=by kernel_rfl
theorem zck (os:Os)(started:os.Started)(H:Type)(enc:TypeId × Value->H):
 ReturnsInHanded {} Tryz.checked os 7 .any (fun w args=>(Rows.ownersApprovesSpec.pre enc Tryz.prog Tryz.f7 Rows.ownersApprovesRow.domain false w args/\laidMetH Tryz.prog Rows.ownersApprovesRow.laid w)/\sizedMet enc Tryz.prog Tryz.f7 (OpenSpec.ofChange Rows.ownersApprovesSpec) false w args)
  (Rows.ownersApprovesSpec.post enc Tryz.prog Tryz.f7 false true false false):=by
 refine zbD (C:=Tryz.checked) (X:=fun w _=>laidMetH Tryz.prog Rows.ownersApprovesRow.laid w) (fun _ _ _ hh h=>h.of_heap hh) zcU started (by kernel_rfl) Tryz.func7
  (ChangeSpec.witness_shaped (enc :=enc) (C :=Tryz.checked) (os :=os) (X :=fun w _ => laidMetH Tryz.prog Rows.ownersApprovesRow.laid w) false (World.laidAll Tryz.prog os Rows.ownersApprovesRow.laid) #[.agg #[.int .i64 0,.slice none 0 0,.slice none 0 0],.string ⟨#[]⟩,.string ⟨#[]⟩,.slice none 0 0] 8 (World.laidAll_os _ _ _)
    (World.shaped_of_ZipB (by kernel_rfl) (by kernel_rfl)) (by kernel_rfl) (by kernel_rfl) (by kernel_rfl)
    (by rw[MakeChecks.laidMetH_plain _ _ _ (by kernel_rfl)];exact laidMet_laidAll _ (by kernel_rfl) (by kernel_rfl))) ?_
 intro W base args ds gs before hval0 hW _ hz0 _ hsh _
 have hM:=zd5 hsh
 have hval:∀ (j:Nat) t v,Tryz.f7.params[j]? = some t->args[j]? = some v->Value.okWide Tryz.prog W .any base t v:=hval0
 have hW':=hW
 obtain⟨p,q,hA0,hV,rfl,_,_⟩:=hW
 have hA:DataW.TrodAll enc Tryz.prog W 0 (fun _=>true) true Tryz.f7.params.toList args.toList ds p:=hA0
 rw[Tryz.params7] at hA hval
 obtain⟨v0,v1,v2,v3,d0,d1,d2,d3,p0,p1,p2,p3,rfl,rfl,rfl,h0,h1,h2,h3⟩:=trodAll_four hA
 obtain⟨rfl,rfl⟩:=trodVars_none hV
 have e0:DataW.weightsEach Tryz.prog (Tryz.f7.params.toList++Rows.ownersApprovesSpec.plain.varTypes Tryz.prog) ([d0,d1,d2,d3]++[])=d0.weights Tryz.prog 25++(d1.weights Tryz.prog 9++(d2.weights Tryz.prog 9++(d3.weights Tryz.prog 27++[]))):=by
  rw[Tryz.params7]
  rfl
 have hz0:=e0 ▸ hz0
 simp only[List.all_append,List.all_nil,Bool.and_true,Bool.and_eq_true] at hz0
 have g0:=h0
 obtain⟨o0,u0,k0,rfl,hos0,hok0,ze1,zep,ze2,zeq,zer⟩:=zdn (hval 0 25 v0 rfl rfl) h0 hz0.1
 obtain⟨s1,rfl,zes⟩:=zdy (hval 1 9 v1 rfl rfl) h1 hz0.2.1
 obtain⟨s2,rfl,zet⟩:=zdy (hval 2 9 v2 rfl rfl) h2 hz0.2.2.1
 obtain⟨l3,zeu,zev,zew⟩:=zdK h3 (okWide_slice Tryz.underlying27 (hval 3 27 v3 rfl rfl)) hz0.2.2.2
 have e1:Rows.ownersApprovesSpec.fn H ([d0,d1,d2,d3]++[]) = { results:=[.lit (.bool true)],args:=[d0,d1,d2,d3] } :=by simp[Rows.ownersApprovesSpec]
 refine(zc1 o0 s1 s2 l3 _ _ _ W hM hos0 hok0 zeu zeq zer (fun s hs=>(zep s hs).2.2.2) zes zet zew (fun a ha=>(zev a ha).sizes)).mono fun e W' ⟨he,hb⟩=>?_
 subst he
 refine⟨_,rfl,_,_,_,[],p0++(p1++(p2++(p3++[]))),[],by simpa using hW',?_,?_,?_,hb.frame _,fun h=>by cases h⟩
 ·rw[e1];exact trodAll_mk1 (shut_bool Tryz.underlying4 true)
 ·rw[e1];exact(trodAll_cons_mk (Below.trod zbG (by kernel_rfl) (of_decide_eq_true (by kernel_rfl)) h0 hb (fun z hz=>hW'.lt z (by simp[hz]))) (trodAll_cons_mk (Below.trod zbG (by kernel_rfl) (of_decide_eq_true (by kernel_rfl)) h1 hb (fun z hz=>hW'.lt z (by simp[hz]))) (trodAll_cons_mk (Below.trod zbG (by kernel_rfl) (of_decide_eq_true (by kernel_rfl)) h2 hb (fun z hz=>hW'.lt z (by simp[hz]))) (trodAll_cons_mk (Below.trod zbG (by kernel_rfl) (of_decide_eq_true (by kernel_rfl)) h3 hb (fun z hz=>hW'.lt z (by simp[hz]))) trodAll_mk0))))
 ·rw[e1];rfl
theorem zcr:Rows.OwnersApprovesSaid:=zbU zck
theorem oapproves_card:Rows.OwnersApprovesCardSaid:=
 Claim7.holds_tied_plain_at .later [] [.data,.pinned] true Rows.ownersApprovesCard.stood.harness false zcr (fun _ h=>by cases h) (by kernel_rfl) (fun _ h=>by cases h) ownersApproves_row_tie rfl ⟨rfl,rfl⟩ (by kernel_rfl) rfl
  (fun f fn hf hfn => by
    obtain rfl : f = 7 := Option.some.inj ((show Tryz.prog.funcNamed "modcert/modcertlaw53.OwnersApproves" = some 7 by kernel_rfl).symm.trans hf) |>.symm
    obtain rfl:fn=Tryz.f7:=(Option.some.inj (Tryz.func7.symm.trans hfn)).symm
    exact⟨by kernel_rfl,fun j t ht=>by
     rw[Tryz.params7] at ht
     have hm:t∈[25,9,9,27]:=by simpa using Array.mem_of_getElem? ht
     have hall:([25,9,9,27].all fun u => !Tryz.prog.wantsStandIn u)=true:=by kernel_rfl
     exact(show Tryz.prog.wantsStandIn t=false by simpa using List.all_eq_true.1 hall t hm)⟩)
  (by kernel_rfl)
end
end Go.Proofs.YtjlmglgmcekmhaaGreatDoor
