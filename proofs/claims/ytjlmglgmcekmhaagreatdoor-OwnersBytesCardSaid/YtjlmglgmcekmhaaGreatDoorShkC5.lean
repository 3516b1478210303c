/- The program's owners: approvals. -/
import Derived.Test.YtjlmglgmcekmhaaGreatDoorShkC4
set_option linter.unusedVariables false
set_option linter.unusedSimpArgs false
set_option maxRecDepth 100000
set_option maxHeartbeats 8000000
namespace Go.Proofs.YtjlmglgmcekmhaaGreatDoor
section
open Go Go.RowKit Go.Maps
theorem iV (cnt:Int)(sv kv:Value)(l:List Own.KeyUse)(p:ByteArray)(w:World)(h:Own.Du w kv l)(hs:Own.Srt Own.KeyUse.pub l)(hl:l.length<=1000000):
 Calls Tryz.prog 149 #[.agg #[.int .i64 cnt,sv,kv],.string p] w fun e w' => e=.returned (.tuple #[.int .i64 (Own.posB Own.KeyUse.pub p l:Nat),.bool (Own.Dl Own.KeyUse.pub p l)])/\Below w.heap.size w w':=by
 obtain⟨ka,kc,rfl⟩:=h.len
 have hb1:Below w.heap.size w (w.alloc (.cells #[.int .i64 cnt,sv,.slice ka l.length kc] 25)):=zb
 have hbs:=aW _ l p _ (h.below hb1) hs hl
 have HB:=zh hb1;have HBS:=zh hbs
 obtain⟨q,hq⟩:∃ q:Nat,q=Own.posB Own.KeyUse.pub p l:=⟨_,rfl⟩
 obtain⟨r,hr⟩:∃ r,r=Own.Dl Own.KeyUse.pub p l:=⟨_,rfl⟩
 rw[<- hq,<- hr] at HBS ⊢
 clear hb1 hbs h hs hq hr
 go_enter Tryz.func149,Tryz.ntmps149
 go_wp2_with fail
 refine HBS.out.mono ?_
 rintro e w2 ⟨rfl,hb2⟩
 have HB2:=zh (HB.out.trans (hb2.mono HB.out.size));clear hb2
 go_wp2_with fail
 go_ret2
 exact⟨rfl,HB2.out⟩
namespace Own
theorem iW {p m:ByteArray}{s:Sig.T}(h:Sig.verify p m s=true):0<=s.index/\s.index<64:=by
 unfold Sig.verify Sig.Bn at h
 simp only[Bool.and_eq_true,decide_eq_true_eq] at h
 obtain⟨⟨⟨⟨⟨⟨_,h1⟩,h2⟩,h3⟩,_⟩,_⟩,_⟩:=h
 refine⟨h2,Int.lt_of_lt_of_le h3 ?_⟩
 have:(2:Nat)^(p.get! 32).toNat<=2^6:=Nat.pow_le_pow_right (by omega) h1
 have e:((2:Int)^(p.get! 32).toNat)=((2^(p.get! 32).toNat:Nat):Int):=(Int.natCast_pow 2 _).symm
 rw[e]
 omega
def Hq (w:World)(v:Value)(l:List Ai):Prop:=∃ a c,v=.slice a l.length c/\∀ i (hi:i<l.length),∃ b o cv pv,a=some ⟨b,o,none⟩/\b<w.heap.size/\w.cell? ⟨b,o+i*4,none⟩=some (.string l[i].name)/\w.cell? ⟨b,o+i*4+1,none⟩=some (.int .i64 l[i].sig.index)/\
 w.cell? ⟨b,o+i*4+2,none⟩=some cv/\w.cell? ⟨b,o+i*4+3,none⟩=some pv/\Al w cv l[i].sig.chains/\Al w pv l[i].sig.path/\Eb pv
theorem Hq.below {w w' : World}{v:Value}{l:List Ai}(h:Hq w v l)(hb:Below w.heap.size w w'):Hq w' v l:=by
 obtain⟨a,c,rfl,h⟩:=h
 refine⟨a,c,rfl,fun i hi=>?_⟩
 obtain⟨b,o,cv,pv,h1,h2,h3,h4,h5,h6,h7,h8,h9⟩:=h i hi
 exact⟨b,o,cv,pv,h1,Nat.lt_of_lt_of_le h2 hb.size,(hb.cell (p:=⟨b,_,none⟩) h2).trans h3,(hb.cell (p:=⟨b,_,none⟩) h2).trans h4,(hb.cell (p:=⟨b,_,none⟩) h2).trans h5,(hb.cell (p:=⟨b,_,none⟩) h2).trans h6,h7.below hb,h8.below hb,h9⟩
def DV (l:List ByteArray):ByteArray->Option Value:=fun p=>if l.any (fun x=>decide (x=p)) then some (.bool true) else none
theorem Wy (l:List ByteArray)(n:ByteArray):DV (n::l)=Y5 (DV l) n (.bool true):=by
 funext p
 unfold DV Y5
 rw[List.any_cons]
 by_cases h:n=p
 ·simp[h]
 ·rw[decide_eq_false h,Bool.false_or,if_neg h]
def nobody:Value:=.agg #[.int .i64 0,.slice none 0 0,.slice none 0 0]
end Own
theorem Sg:∀ (K:List Own.KeyUse) (p:Nat) (h:p<K.length) (v:Int),(K.flatMap Own.Dw).set (p*2+1) (.int .i64 v)=(K.set p ⟨K[p].pub,v⟩).flatMap Own.Dw
 | [],p,h,_=>by cases h
 | x :: K,0,_,v => by
   rw[List.flatMap_cons,List.set_cons_zero,List.flatMap_cons]
   rfl
 | x :: K,p + 1,h,v => by
   have ih:=Sg K p (by simpa using h) v
   rw[List.flatMap_cons,List.set_cons_succ,List.flatMap_cons,show(p+1)*2+1=(p*2+1)+1+1 by omega]
   show Value.string x.pub::Value.int .i64 x.next::(K.flatMap Own.Dw).set (p*2+1) _=_
   rw[ih]
   rfl
theorem YF (K:List Own.KeyUse)(p:Nat)(h:p<K.length):(K.flatMap Own.Dw)[p*2+1]? = some (.int .i64 K[p].next):=by
 have e:K.flatMap Own.Dw=(K.map Own.Dw).flatten:=List.flatMap_def
 rw[e,iT (k:=2) (fun cs hcs=>by obtain⟨x,_,rfl⟩:=List.mem_map.1 hcs;rfl) p 1 (by simpa using h) (by omega),List.getElem_map]
 rfl
namespace Own
theorem TV (K:List KeyUse):(K.flatMap Dw).length=K.length*2:=by
 induction K with
 | nil=>rfl
 | cons x K ih=>rw[List.flatMap_cons,List.length_append,ih,List.length_cons];show 2+_=_;omega
structure Placed (Kc K1:List KeyUse) (p:ByteArray):Prop where
 at_:∃ h:posB KeyUse.pub p Kc<K1.length,K1[posB KeyUse.pub p Kc].pub=p/\K1[posB KeyUse.pub p Kc].next=Bf Kc p
 use:∀ x,use Kc ⟨p,x⟩=K1.set (posB KeyUse.pub p Kc) ⟨p,x⟩
 len:K1.length<=Kc.length+1
theorem aY {Kc:List KeyUse}{p:ByteArray}(hs:Srt KeyUse.pub Kc)(h:Dl KeyUse.pub p Kc=true):Placed Kc Kc p:=by
 have hn:=LD p hs
 rw[h,if_pos rfl] at hn
 have hh:=h
 unfold Dl at h
 cases hg:Kc[posB KeyUse.pub p Kc]? with
 | none=>rw[hg] at h;cases h
 | some k =>
   rw[hg] at h hn
   obtain⟨hl,he⟩:=List.getElem?_eq_some_iff.1 hg
   refine⟨⟨hl,?_,?_⟩,fun x=>?_,by omega⟩
   ·rw[he];exact of_decide_eq_true h
   ·rw[he,hn]
   ·rw[EP,MN]
    show Kc.take (posB KeyUse.pub p Kc)++_::Kc.drop (posB KeyUse.pub p Kc+if Dl KeyUse.pub p Kc=true then 1 else 0)=_
    rw[hh,if_pos rfl,List.set_eq_take_append_cons_drop,if_pos hl]
theorem YG {Kc:List KeyUse}{p:ByteArray}(hs:Srt KeyUse.pub Kc)(h:Dl KeyUse.pub p Kc=false):Placed Kc (Kc.take (posB KeyUse.pub p Kc)++(⟨p,0⟩::Kc.drop (posB KeyUse.pub p Kc))) p:=by
 have hn:=LD p hs
 rw[h,if_neg (by simp)] at hn
 have hle:=MK (f:=KeyUse.pub) p Kc
 have hl:(Kc.take (posB KeyUse.pub p Kc)).length=posB KeyUse.pub p Kc:=by rw[List.length_take];omega
 have hg:(Kc.take (posB KeyUse.pub p Kc)++(⟨p,0⟩::Kc.drop (posB KeyUse.pub p Kc)))[posB KeyUse.pub p Kc]? = some ⟨p,0⟩:=by
  rw[List.getElem?_append_right (by omega),hl,Nat.sub_self]
  rfl
 obtain⟨hlt,he⟩:=List.getElem?_eq_some_iff.1 hg
 refine⟨⟨hlt,by rw[he],by rw[he,hn]⟩,fun x=>?_,by simp;omega⟩
 rw[EP,MN]
 show Kc.take (posB KeyUse.pub p Kc)++_::Kc.drop (posB KeyUse.pub p Kc+if Dl KeyUse.pub p Kc=true then 1 else 0)=_
 rw[h,if_neg (by simp),Nat.add_zero,List.set_append_right _ _ (by omega),hl,Nat.sub_self]
 rfl
end Own
def YH (w:World)(o:Own.Ao)(n th:Int)(R:Except Int (List Own.KeyUse))(e:Ending)(w' : World):Prop:=
 (match R with
   | .error c=>e=.returned (.tuple #[Own.nobody,.int .i64 c])
   | .ok K=>if n<th then e=.returned (.tuple #[Own.nobody,.int .i64 20]) else ∃ sv kv us,e=.returned (.tuple #[.agg #[.int .i64 o.count,sv,kv],.int .i64 0])/\Own.Ca w.heap.size w' sv o.spaces us/\w'.ownsRow w.heap.size 59 2 kv K.length (K.flatMap Own.Dw))/\Below w.heap.size w w'
theorem Si (o:Own.Ao)(s:Own.Space)(msg:ByteArray)(l:List Own.Ai)(sv kv mv lv:Value)(w:World)(hS:Own.BF w sv o.spaces)(hK:Own.Du w kv o.keys)(hm:Own.Af w mv s.members)(hA:Own.Hq w lv l)
 (hsrt:Own.Srt Own.KeyUse.pub o.keys) (hls:o.spaces.length<=3000000) (hlk:o.keys.length+l.length<=900000) (hlm:∀ s∈o.spaces,s.members.length<=3000000) (hml:s.members.length<=3000000) (JF:msg.size<=9223372036854775000)
 (hal:∀ a∈l,a.name.size<=140737488355328/\a.sig.chains.length<=140737488355328/\a.sig.path.length<=140737488355328):
 Calls Tryz.prog 97 #[.agg #[.int .i64 o.count,sv,kv],.agg #[.string s.pre,mv,.int .i64 s.threshold],.string msg,lv] w (YH w o l.length s.threshold (Own.Bl s msg [] o.keys l)):=by
 obtain⟨R,hR⟩:∃ R,R=Own.Bl s msg [] o.keys l:=⟨_,rfl⟩
 obtain⟨Q,hQ⟩:∃ Q,Q=YH w o l.length s.threshold R:=⟨_,rfl⟩
 rw[<- hR,<- hQ]
 have HQ:=zh hQ;have HR:=zh hR;clear hQ hR
 obtain⟨sa,sc,rfl⟩:=hS.len
 obtain⟨ka,kc,rfl⟩:=hK.len
 obtain⟨ma,mc,rfl⟩:=hm.len
 obtain⟨la,lc,rfl,hap⟩:=id hA
 clear hap
 have hb1:Below w.heap.size w (((w.alloc (.cells #[.int .i64 o.count,.slice sa o.spaces.length sc,.slice ka o.keys.length kc] 25)).alloc (.cells #[.string s.pre,.slice ma s.members.length mc,.int .i64 s.threshold] 39)).alloc (.cells #[.int .i64 0,.slice none 0 0,.slice none 0 0] 25)):=(zb.alloc (by simp) _).alloc (by simp;omega) _
 have hz1:(((w.alloc (.cells #[.int .i64 o.count,.slice sa o.spaces.length sc,.slice ka o.keys.length kc] 25)).alloc (.cells #[.string s.pre,.slice ma s.members.length mc,.int .i64 s.threshold] 39)).alloc (.cells #[.int .i64 0,.slice none 0 0,.slice none 0 0] 25)).heap.size=w.heap.size+3:=by simp
 have ha0:=((At.new w 25 #[.int .i64 o.count,.slice sa o.spaces.length sc,.slice ka o.keys.length kc]).alloc (.cells #[.string s.pre,.slice ma s.members.length mc,.int .i64 s.threshold] 39)).alloc (.cells #[.int .i64 0,.slice none 0 0,.slice none 0 0] 25)
 have ha1:=(At.new1 w (.cells #[.int .i64 o.count,.slice sa o.spaces.length sc,.slice ka o.keys.length kc] 25) 39 #[.string s.pre,.slice ma s.members.length mc,.int .i64 s.threshold]).alloc (.cells #[.int .i64 0,.slice none 0 0,.slice none 0 0] 25)
 have ha2:=At.new ((w.alloc (.cells #[.int .i64 o.count,.slice sa o.spaces.length sc,.slice ka o.keys.length kc] 25)).alloc (.cells #[.string s.pre,.slice ma s.members.length mc,.int .i64 s.threshold] 39)) 25 #[.int .i64 0,.slice none 0 0,.slice none 0 0]
 rw[World.size_alloc,World.size_alloc] at ha2
 have hs1:=hS.below hb1;have hk1:=hK.below hb1
 obtain⟨c0,c1,c2⟩:=ha0.c3
 have HS:=zh hs1;have HK:=zh hk1;have HM:=zh hm;have HA:=zh hA;have A0:=zh ha0;have A1:=zh ha1;have A2:=zh ha2;have B1:=zh hb1;have HLM:=zh hlm;have HAL:=zh hal;have za3:=zh hsrt
 clear hS hK hm hA hs1 hk1 ha0 ha1 ha2 hb1 hlm hal hsrt
 go_enter Tryz.func97,Tryz.ntmps97
 go_wp2_with fail
 generalize ((w.alloc (.cells #[.int .i64 o.count,.slice sa o.spaces.length sc,.slice ka o.keys.length kc] 25)).alloc (.cells #[.string s.pre,.slice ma s.members.length mc,.int .i64 s.threshold] 39)).alloc (.cells #[.int .i64 0,.slice none 0 0,.slice none 0 0] 25)=w1 at*
 refine(KW o _ _ w1 HS.out HK.out hls (by omega) HLM.out).mono ?_
 rintro e w2 ⟨sv',kv',us,B,rfl,hB1,hB2,hsp,hin,hkr,hb2⟩
 obtain⟨sa',ss',za4⟩:=hsp.slice
 subst za4
 have HIN:=zh hin;clear hin
 obtain⟨ka',km',kc',rfl⟩:=Ac hkr
 obtain rfl:=Ba hkr
 have a1:=A1.out.below hb2 (by omega);have a2:=A2.out.below hb2 (by omega)
 have hbw2:=B1.out.trans (hb2.mono B1.out.size)
 have hz2:=hb2.size
 have A12:=zh a1;have A22:=zh a2;have BW2:=zh hbw2;have HSP:=zh hsp;have HKR:=zh hkr
 clear hb2 a1 a2 hbw2 hsp hkr HS HK A0 A1 A2 B1 HLM c0 c1 c2
 have hmm :=@run_makeMap Tryz.prog
 go_wp2_with fail
 clear hmm
 obtain⟨OB,hOB⟩:∃ OB,OB=w2.heap.size:=⟨_,rfl⟩
 have XU:At ((w2.alloc (.cells #[.int .i64 o.count,.slice sa' o.spaces.length ss',.slice ka' o.keys.length kc'] 25)).alloc (.map #[] 0)) OB 25 #[.int .i64 o.count,.slice sa' o.spaces.length ss',.slice ka' o.keys.length kc']:=by rw[hOB];exact(At.new _ _ _).alloc _
 have xG:FD ((w2.alloc (.cells #[.int .i64 o.count,.slice sa' o.spaces.length ss',.slice ka' o.keys.length kc'] 25)).alloc (.map #[] 0)) (OB+1) 0 (Own.DV []):=by
  have h:=FD.made (w2.alloc (.cells #[.int .i64 o.count,.slice sa' o.spaces.length ss',.slice ka' o.keys.length kc'] 25))
  rw[World.size_alloc,<- hOB] at h
  exact h
 have hb3:Below B w2 ((w2.alloc (.cells #[.int .i64 o.count,.slice sa' o.spaces.length ss',.slice ka' o.keys.length kc'] 25)).alloc (.map #[] 0)):=((Below.refl B w2).alloc hB2 _).alloc (by simp;omega) _
 have xH:=own_below HKR.out ((((Below.refl w2.heap.size w2).alloc (Nat.le_refl _) (.cells #[.int .i64 o.count,.slice sa' o.spaces.length ss',.slice ka' o.keys.length kc'] 25)).alloc (by simp) (.map #[] 0)))
 have za5:=zh XU;have za6:=zh xG;have HB3:=zh hb3;have za7:=zh xH
 have za8:B<=OB:=by omega
 have hBw:w.heap.size+3<=B:=by omega
 rw[<- hOB]
 clear XU xG hb3 xH HKR hOB
 generalize (w2.alloc (.cells #[.int .i64 o.count,.slice sa' o.spaces.length ss',.slice ka' o.keys.length kc'] 25)).alloc (.map #[] 0)=w3 at*
 go_loopw [23] (fun i wr=>∃ k:Nat,k<=l.length/\i=.int .i64 k/\∃ (seen:List ByteArray) (Kc:List Own.KeyUse) (kvc:Value),R=Own.Bl s msg seen Kc (l.drop k)/\Own.Srt Own.KeyUse.pub Kc/\Kc.length<=o.keys.length+k/\At wr OB 25 #[.int .i64 o.count,.slice sa' o.spaces.length ss',kvc]/\wr.ownsRow B 59 2 kvc Kc.length (Kc.flatMap Own.Dw)/\FD wr (OB+1) k (Own.DV seen)/\Below B w2 wr) (fun i _=>l.length-(intOf i).toNat)
 case atStart=>exact⟨0,by omega,rfl,[],o.keys,_,by rw[HR.out];rfl,za3.out,by omega,za5.out,za7.out,za6.out,HB3.out⟩
 case round=>
  obtain⟨k,hk,rfl,seen,Kc,kvc,hR,hsr,hkl,hat,hown,hsm,hb⟩:=hrel
  have HRR:=zh hR;have HSR:=zh hsr;have HAT:=zh hat;have HOWN:=zh hown;have HSM:=zh hsm;have HB:=zh hb
  have hbs:=hb.size
  have za9:OB<wr.heap.size:=hat.lt
  have zaA:OB+1<wr.heap.size:=hsm.lt
  have TWR:=zh (A22.out.below hb (by omega))
  have SWR:=zh (A12.out.below hb (by omega))
  have sZ:=BW2.out.trans (hb.mono (by omega))
  have MWR:=zh (HM.out.below sZ)
  have BWR:=zh sZ
  clear hR hsr hat hown hsm hb sZ
  by_cases hlt:k<l.length
  case neg=>
   have hke:k=l.length:=by omega
   have dk:decide ((k:Int)<l.length)=false:=zf
   have hR2:R=.ok Kc:=by rw[HRR.out,hke,List.drop_length];rfl
   have HR2:=zh hR2
   have s2:=SWR.out.cell 2
   have q0:=HAT.out.cell 0;have q1:=HAT.out.cell 1;have q2:=HAT.out.cell 2
   have x0:=TWR.out.cell 0;have x1:=TWR.out.cell 1;have x2:=TWR.out.cell 2;have x3:=TWR.out.free 0;have x4:=TWR.out.free 1;have x5:=TWR.out.free 2
   simp only[zg] at s2 q0 q1 q2 x0 x1 x2
   clear hR2 hke
   by_cases hth:(l.length:Int)<s.threshold
   ·have dt:decide ((l.length:Int)<s.threshold)=true:=decide_eq_true hth
    go_wp2_with fail
    have F2:=((TWR.out.set 0 (.int .i64 0)).set 1 (.slice none 0 0)).set 2 (.slice none 0 0)
    refine BJ rfl rfl rfl (AJ F2 Tryz.underlying25 rfl Bt) ?_
    rw[HQ.out,HR2.out]
    refine⟨?_,((BWR.out.setCell (p:=⟨w.heap.size+1+1,0,none⟩) (by show w.heap.size<=w.heap.size+1+1;omega) _).setCell (p:=⟨w.heap.size+1+1,1,none⟩) (by show w.heap.size<=w.heap.size+1+1;omega) _).setCell (p:=⟨w.heap.size+1+1,2,none⟩) (by show w.heap.size<=w.heap.size+1+1;omega) _⟩
    show if _ then _ else _
    rw[if_pos hth]
    rfl
   ·have dt:decide ((l.length:Int)<s.threshold)=false:=decide_eq_false hth
    obtain⟨va,vm,vc,rfl⟩:=Ac HOWN.out
    go_wp2_with fail
    have F2:=((TWR.out.set 0 (.int .i64 o.count)).set 1 (.slice sa' o.spaces.length ss')).set 2 (.slice va vm vc)
    refine BJ rfl rfl rfl (AJ F2 Tryz.underlying25 rfl Bt) ?_
    rw[HQ.out,HR2.out]
    have Ip:∀ j,j≠w.heap.size+1+1->(((wr.setCell ⟨w.heap.size+1+1,0,none⟩ (.int .i64 o.count)).setCell ⟨w.heap.size+1+1,1,none⟩ (.slice sa' o.spaces.length ss')).setCell ⟨w.heap.size+1+1,2,none⟩ (.slice va vm vc)).heap[j]? = wr.heap[j]? :=fun j hj=>by
     rw[zo hj,zo hj,zo hj]
    refine⟨?_,((BWR.out.setCell (p:=⟨w.heap.size+1+1,0,none⟩) (by show w.heap.size<=w.heap.size+1+1;omega) _).setCell (p:=⟨w.heap.size+1+1,1,none⟩) (by show w.heap.size<=w.heap.size+1+1;omega) _).setCell (p:=⟨w.heap.size+1+1,2,none⟩) (by show w.heap.size<=w.heap.size+1+1;omega) _⟩
    show if _ then _ else _
    rw[if_neg (by omega)]
    refine⟨_,_,us,rfl,?_,?_⟩
    ·exact(HSP.out.keep HIN.out (fun k hk hk2=>(Ip k (by omega)).trans (HB.out.block k hk2))).base (by omega)
    ·exact Cw (Ae HOWN.out (fun j hj=>Ip j (by have:=Ak HOWN.out j hj;omega))) (by omega)
  have dk:decide ((k:Int)<l.length)=true:=zt
  obtain⟨_,_,he,hap⟩:=HA.out.below BWR.out
  cases he
  obtain⟨b,q,cv,pv,ha,hbl,e0,e1,e2,e3,hcs,hps,hcap⟩:=hap k hlt
  subst ha
  obtain⟨al1,al2,al3⟩:=HAL.out l[k] (List.getElem_mem hlt)
  have hdr:l.drop k=l[k]::l.drop (k+1):=List.drop_eq_getElem_cons hlt
  have hR1:=HRR.out
  rw[hdr] at hR1
  obtain⟨ap,tq⟩:∃ x,x=l[k]:=⟨_,rfl⟩
  rw[<- tq] at e0 e1 hcs hps al1 al2 al3 hR1
  obtain⟨ca,cc,rfl⟩:=hcs.len
  obtain⟨pa,pc,rfl⟩:=hps.len
  have HR1:=zh hR1
  obtain⟨nm,⟨ix,chs,pth⟩⟩:=ap
  dsimp only at e0 e1 e2 e3 hcs hps al1 al2 al3
  have hb5:Below wr.heap.size wr (wr.alloc (.cells #[.string nm,.int .i64 ix,.slice ca chs.length cc,.slice pa pth.length pc] 72)):=zb
  have hz5:(wr.alloc (.cells #[.string nm,.int .i64 ix,.slice ca chs.length cc,.slice pa pth.length pc] 72)).heap.size=wr.heap.size+1:=World.size_alloc _ _
  have n5:=At.new wr 72 #[.string nm,.int .i64 ix,.slice ca chs.length cc,.slice pa pth.length pc]
  have s5:=SWR.out.below hb5 (by omega)
  obtain⟨s0,s1,s2⟩:=s5.c3
  have hcall:=fun(W:World) (hW:Own.Af W (.slice ma s.members.length mc) s.members)=>Nk s.pre s.threshold (.slice ma s.members.length mc) s.members nm W hW (by omega)
  have HC5:=zh (hcs.below hb5);have HP5:=zh (hps.below hb5);have HB5:=zh hb5;have N5:=zh n5;have qW:=zh hcall;have HCAP:=zh hcap;have zbp:=zh tq
  have xI:Own.Af (wr.alloc (.cells #[.string nm,.int .i64 ix,.slice ca chs.length cc,.slice pa pth.length pc] 72)) (.slice ma s.members.length mc) s.members:=MWR.out.below hb5
  have MW5:=zh xI
  clear hap hdr hR1 hcs hps hb5 n5 s5 hcall xI tq hcap HRR
  go_wp2_with fail
  refine(qW.out _ MW5.out).mono ?_
  intro e w6 hpost
  obtain⟨hval,hb6⟩:=hpost
  have RJ:=HB5.out.trans (hb6.mono HB5.out.size)
  have n6:=N5.out.below hb6 (by omega)
  have HB6:=zh RJ
  have N6:=zh n6
  have HC6:=zh (HC5.out.below hb6);have HP6:=zh (HP5.out.below hb6)
  have TW6:=zh (TWR.out.below RJ TWR.out.lt)
  have BW6:=zh (BWR.out.trans (RJ.mono BWR.out.size))
  have hz6:=hb6.size
  clear hb6 RJ n6 HC5 HP5 HB5 N5 MW5 qW s0 s1 s2
  cases hf:Own.find s.members nm with
  | none =>
    rw[hf] at hval
    have Mq:e=.returned (.tuple #[.agg #[.string ⟨#[]⟩,.string ⟨#[]⟩],.bool false]):=hval
    subst Mq
    have e:R=.error 6:=by rw[HR1.out,Own.Bl,hf]
    have HE:=zh e
    have TW:=zh (TW6.out.alloc (.cells #[.string ⟨#[]⟩,.string ⟨#[]⟩] 76))
    have TB:=zh (BW6.out.alloc BW6.out.size (.cells #[.string ⟨#[]⟩,.string ⟨#[]⟩] 76))
    have x0:=TW.out.cell 0;have x1:=TW.out.cell 1;have x2:=TW.out.cell 2;have x3:=TW.out.free 0;have x4:=TW.out.free 1;have x5:=TW.out.free 2
    simp only[zg] at x0 x1 x2
    clear e hf hval
    go_wp2_with fail
    have F2:=((TW.out.set 0 (.int .i64 0)).set 1 (.slice none 0 0)).set 2 (.slice none 0 0)
    refine BJ rfl rfl rfl (AJ F2 Tryz.underlying25 rfl Bt) ?_
    rw[HQ.out,HE.out]
    exact⟨rfl,((TB.out.setCell (p:=⟨w.heap.size+1+1,0,none⟩) (by show w.heap.size<=w.heap.size+1+1;omega) _).setCell (p:=⟨w.heap.size+1+1,1,none⟩) (by show w.heap.size<=w.heap.size+1+1;omega) _).setCell (p:=⟨w.heap.size+1+1,2,none⟩) (by show w.heap.size<=w.heap.size+1+1;omega) _⟩
  | some m=>
  rw[hf] at hval
  have Mq:e=.returned (.tuple #[.agg #[.string m.name,.string m.pub],.bool true]):=hval
  subst Mq
  have hR2:R=if seen.any (fun x=>decide (x=nm)) then .error 5 else if Sig.verify m.pub msg ⟨ix,chs,pth⟩ then (if ix<Own.Bf Kc m.pub then .error 8 else Own.Bl s msg (nm::seen) (Own.use Kc ⟨m.pub,ix+1⟩) (l.drop (k+1))) else .error 18:=by rw[HR1.out,Own.Bl,hf]
  have HR2:=zh hR2
  have hb7:Below w6.heap.size w6 (w6.alloc (.cells #[.string m.name,.string m.pub] 76)):=zb
  have hz7:(w6.alloc (.cells #[.string m.name,.string m.pub] 76)).heap.size=w6.heap.size+1:=World.size_alloc _ _
  have m7:=At.new w6 76 #[.string m.name,.string m.pub]
  have n7:=N6.out.below hb7 (by omega)
  have tu:=(HSM.out.below HB6.out zaA).below hb7 (by omega)
  have TW:=zh (TW6.out.below hb7 (by omega))
  have TB:=zh (BW6.out.trans (hb7.mono BW6.out.size))
  have xJ:=HB6.out.trans (hb7.mono HB6.out.size)
  have Ng:=tu.Y7 (t:=172) (e:=4) Tryz.underlying172 (.bool false) (UU _) nm (by unfold maxLen;omega)
  have HC7:=zh (HC6.out.below hb7);have HP7:=zh (HP6.out.below hb7);have HB7:=zh xJ;have N7:=zh n7;have M7:=zh m7;have SM7:=zh tu
  clear hR2 hval hf HR1 hb7 m7 n7 tu xJ HC6 HP6 N6 TW6 BW6
  obtain⟨y0,y1,y2,y3⟩:=N7.out.c4;obtain⟨p0,p1⟩:=M7.out.c2
  cases hsn:seen.any fun x=>decide (x=nm) with
  | true =>
    have e:R=.error 5:=by rw[HR2.out,hsn];rfl
    have hv:(Own.DV seen nm).getD (.bool false)=.bool true:=by unfold Own.DV;rw[hsn];rfl
    rw[hv] at Ng
    have HE:=zh e
    have x0:=TW.out.cell 0;have x1:=TW.out.cell 1;have x2:=TW.out.cell 2;have x3:=TW.out.free 0;have x4:=TW.out.free 1;have x5:=TW.out.free 2
    simp only[zg] at x0 x1 x2
    clear e hv hsn
    go_wp2_with fail
    have F2:=((TW.out.set 0 (.int .i64 0)).set 1 (.slice none 0 0)).set 2 (.slice none 0 0)
    refine BJ rfl rfl rfl (AJ F2 Tryz.underlying25 rfl Bt) ?_
    rw[HQ.out,HE.out]
    exact⟨rfl,((TB.out.setCell (p:=⟨w.heap.size+1+1,0,none⟩) (by show w.heap.size<=w.heap.size+1+1;omega) _).setCell (p:=⟨w.heap.size+1+1,1,none⟩) (by show w.heap.size<=w.heap.size+1+1;omega) _).setCell (p:=⟨w.heap.size+1+1,2,none⟩) (by show w.heap.size<=w.heap.size+1+1;omega) _⟩
  | false=>
  have hv:(Own.DV seen nm).getD (.bool false)=.bool false:=by unfold Own.DV;rw[hsn];rfl
  rw[hv] at Ng
  have hR3:R=if Sig.verify m.pub msg ⟨ix,chs,pth⟩ then (if ix<Own.Bf Kc m.pub then .error 8 else Own.Bl s msg (nm::seen) (Own.use Kc ⟨m.pub,ix+1⟩) (l.drop (k+1))) else .error 18:=by rw[HR2.out,hsn];rfl
  have HR3:=zh hR3
  have xL:=Yh m.pub msg ⟨ix,chs,pth⟩ (.slice ca chs.length cc) (.slice pa pth.length pc) _ HC7.out HP7.out HCAP.out al2 al3 JF
  have xM:=zh xL
  clear hv hsn hR3 HR2 xL
  go_wp2_with fail
  refine xM.out.mono ?_
  rintro e w8 ⟨rfl,hb8⟩
  have xO:=HB7.out.trans (hb8.mono HB7.out.size)
  have TW8:=zh (TW.out.below hb8 TW.out.lt)
  have TB8:=zh (TB.out.trans (hb8.mono TB.out.size))
  have N8:=zh (N7.out.below hb8 N7.out.lt)
  have M8:=zh (M7.out.below hb8 M7.out.lt)
  have SM8:=zh (SM7.out.below hb8 SM7.out.lt)
  have HB8:=zh xO
  have hz8:=hb8.size
  clear hb8 xO TW TB N7 M7 SM7 HB7 xM HC7 HP7 Ng y0 y1 y2 y3 p0 p1
  cases hvf:Sig.verify m.pub msg ⟨ix,chs,pth⟩ with
  | false =>
    have e:R=.error 18:=by rw[HR3.out,hvf];rfl
    have HE:=zh e
    have TW:=TW8;have TB:=TB8
    have x0:=TW.out.cell 0;have x1:=TW.out.cell 1;have x2:=TW.out.cell 2;have x3:=TW.out.free 0;have x4:=TW.out.free 1;have x5:=TW.out.free 2
    simp only[zg] at x0 x1 x2
    clear e hvf
    go_wp2_with fail
    have F2:=((TW.out.set 0 (.int .i64 0)).set 1 (.slice none 0 0)).set 2 (.slice none 0 0)
    refine BJ rfl rfl rfl (AJ F2 Tryz.underlying25 rfl Bt) ?_
    rw[HQ.out,HE.out]
    exact⟨rfl,((TB.out.setCell (p:=⟨w.heap.size+1+1,0,none⟩) (by show w.heap.size<=w.heap.size+1+1;omega) _).setCell (p:=⟨w.heap.size+1+1,1,none⟩) (by show w.heap.size<=w.heap.size+1+1;omega) _).setCell (p:=⟨w.heap.size+1+1,2,none⟩) (by show w.heap.size<=w.heap.size+1+1;omega) _⟩
  | true=>
  obtain⟨zaB,xP⟩:=Own.iW hvf
  dsimp only at zaB xP
  have hR4:R=if ix<Own.Bf Kc m.pub then .error 8 else Own.Bl s msg (nm::seen) (Own.use Kc ⟨m.pub,ix+1⟩) (l.drop (k+1)):=by rw[HR3.out,hvf];rfl
  have HR4:=zh hR4
  obtain⟨y0,y1,y2,y3⟩:=N8.out.c4;obtain⟨p0,p1⟩:=M8.out.c2
  clear hvf hR4 HR3
  go_upto_region 13 with fail
  go_upto_region 14 with (at_mapUpdate;go_must (refine Wt rfl _ _ _ 172 4 rfl Tryz.underlying172 SM8.out (by unfold maxLen;omega) rfl nm (.bool true) rfl rfl (by unfold maxLen;omega) ?_);intro w9 hm9 hg9;have HM9:=zh hm9;have HG9:=zh hg9;clear hm9 hg9)
  have ne1:OB≠OB+1:=by omega
  have mh:=HB8.out
  have Wj:=HAT.out.below mh za9
  have eG:=own_below HOWN.out mh
  have xQ:∀ j,kvc.ownBlock=some j->j≠OB+1:=fun j hj=>by
   obtain⟨cur,hc⟩:=Db eG hj
   exact SM8.out.eD hc
  have Oo:∀ j,j<w8.heap.size->j≠OB+1->w9.heap[j]? = w8.heap[j]? :=fun j hj hne=>HG9.out.block j hj (fun e=>hne (Option.some.inj e))
  have iX:=Wj.keep (Oo OB Wj.lt ne1)
  have YI:=Ae eG (fun j hj=>Oo j (by obtain⟨cur,hc⟩:=Db eG hj;exact hc.lt) (xQ j hj))
  have n9:=N8.out.keep (Oo _ N8.out.lt (by omega))
  have m9:=M8.out.keep (Oo _ M8.out.lt (by omega))
  have tw9:=TW8.out.keep (Oo _ TW8.out.lt (by omega))
  have xR:FD w9 (OB+1) (k+1) (Own.DV (nm::seen)):=by rw[Own.Wy];exact HM9.out
  have xU:Below B w2 w9:=(HB.out.trans (mh.mono (by omega))).grown HG9.out (by have:=mh.size;omega) (fun j hj=>by cases hj;omega)
  obtain⟨o0,o1,o2⟩:=iX.c3;obtain⟨p0,p1⟩:=m9.c2
  have hz9:=HG9.out.size
  obtain⟨va,vm,vc,rfl⟩:=Ac YI
  obtain rfl:=Ba YI
  have hkey:=iV o.count (.slice sa' o.spaces.length ss') (.slice va Kc.length vc) Kc m.pub w9 (Own.Du.of (Bc.own YI) rfl) HSR.out (by omega)
  obtain⟨P,hP⟩:∃ P:Nat,P=Own.posB Own.KeyUse.pub m.pub Kc:=⟨_,rfl⟩
  rw[<- hP] at hkey
  have HP:=zh hP;have HKEY:=zh hkey;have JX:=zh iX;have qX:=zh YI;have N9:=zh n9;have M9:=zh m9;have TW9:=zh tw9;have SM9:=zh xR;have xW:=zh xU
  clear mh Wj eG xQ Oo iX YI n9 m9 tw9 xR xU hP hkey HM9 HG9 HAT HOWN N8 M8 TW8 SM8 TWR SWR MWR HSM HB HB6 y0 y1 y2 y3
  go_wp2_with fail
  refine HKEY.out.mono ?_
  rintro e w10 ⟨rfl,IY⟩
  have Iq:=zh (JX.out.below IY JX.out.lt);have JY:=zh (own_below qX.out IY);have N10:=zh (N9.out.below IY N9.out.lt);have M10:=zh (M9.out.below IY M9.out.lt);have tC:=zh (TW9.out.below IY TW9.out.lt);have iY:=zh (SM9.out.below IY SM9.out.lt)
  have zbq:=IY.size
  have mq:=zh (xW.out.trans (IY.mono (by omega)))
  clear IY HKEY JX qX N9 M9 TW9 SM9 xW o0 o1 o2 p0 p1
  cases hh:Own.Dl Own.KeyUse.pub m.pub Kc with
  | true =>
    obtain⟨K1,hK1⟩:∃ K1,K1=Kc:=⟨_,rfl⟩
    have hpl:Own.Placed Kc K1 m.pub:=by rw[hK1];exact Own.aY HSR.out hh
    have PL:=zh hpl
    have DR:=JY.out
    have at1:=Iq.out
    rw[<- hK1] at DR at1
    have OWN:=zh DR;have AT:=zh at1;have NN:=N10;have TWW:=tC;have SMW:=iY;have mD:=mq
    clear hpl DR at1 hK1 hh JY Iq
    go_wp2_with fail
    obtain⟨hPl,hPp,hPn⟩:=PL.out.at_
    have hPu:=PL.out.use (ix+1)
    have xX:=PL.out.len
    rw[<- HP.out] at hPu
    have mE : P<K1.length:=by rw[HP.out];exact hPl
    have tF : K1[P].pub=m.pub:=by rw[<- hPp];congr 2
    have tH : K1[P].next=Own.Bf Kc m.pub:=by rw[<- hPn];congr 2
    clear hPl hPp hPn
    obtain⟨g,cap,hv,_⟩:=Ct OWN.out (by omega)
    cases hv
    obtain⟨ys,Wz,hbg,hnc,hcm,hcl,hxl⟩:=Gf OWN.out
    have mF:w10.cell? ⟨g,P*2+1,none⟩=some (.int .i64 (Own.Bf Kc m.pub)):=by
     rw[Wz.cell]
     have h:=YF K1 P mE
     rw[tH] at h
     rw[List.getElem?_toArray,List.getElem?_append_left (List.getElem?_eq_some_iff.1 h).1,h]
    have xY:=Wz.free (P*2+1)
    obtain⟨o0,o1,o2⟩:=AT.out.c3;obtain⟨y0,y1,y2,y3⟩:=NN.out.c4
    obtain⟨nx,hnx⟩:∃ nx,nx=Own.Bf Kc m.pub:=⟨_,rfl⟩
    rw[<- hnx] at mF
    have HR5:=HR4.out
    rw[<- hnx,hPu] at HR5
    have HPU:=zh hPu
    have Ua:=zh Wz
    have HXL:=zh hxl
    clear Wz hnx hPu hxl
    by_cases hix:ix<nx
    ·have dx:decide (ix<nx)=true:=decide_eq_true hix
     have e:R=.error 8:=by rw[HR5,if_pos hix]
     have HE:=zh e
     have TW:Hid (At w10.drew (w.heap.size+1+1) 25 #[.int .i64 0,.slice none 0 0,.slice none 0 0]):=zh TWW.out.drew
     have TB:=zh (BW2.out.trans (mD.out.mono (by omega))).drew
     have x0:=TWW.out.cell 0;have x1:=TWW.out.cell 1;have x2:=TWW.out.cell 2;have x3:=TWW.out.free 0;have x4:=TWW.out.free 1;have x5:=TWW.out.free 2
     simp only[zg] at x0 x1 x2
     clear e HR5
     go_wp2_with fail
     refine Lex.zl ?_
     go_wp2_with fail
     refine Lex.ze ?_
     go_wp2_with fail
     have F2:=((TW.out.set 0 (.int .i64 0)).set 1 (.slice none 0 0)).set 2 (.slice none 0 0)
     refine BJ rfl rfl rfl (AJ F2 Tryz.underlying25 rfl Bt) ?_
     rw[HQ.out,HE.out]
     exact⟨rfl,((TB.out.setCell (p:=⟨w.heap.size+1+1,0,none⟩) (by show w.heap.size<=w.heap.size+1+1;omega) _).setCell (p:=⟨w.heap.size+1+1,1,none⟩) (by show w.heap.size<=w.heap.size+1+1;omega) _).setCell (p:=⟨w.heap.size+1+1,2,none⟩) (by show w.heap.size<=w.heap.size+1+1;omega) _⟩
    ·have dx:decide (ix<nx)=false:=decide_eq_false hix
     have e:R=Own.Bl s msg (nm::seen) (K1.set P ⟨m.pub,ix+1⟩) (l.drop (k+1)):=by rw[HR5,if_neg hix]
     have HE:=zh e
     have hw:wrap64 (ix+1)=ix+1:=by unfold wrap64;omega
     clear e HR5
     go_wp2_with fail
     refine Lex.zl ?_
     go_wp2_with fail
     refine Lex.ze ?_
     go_wp2_with fail
     have hgo:OB≠g:=AT.out.ne Ua.out (by decide)
     have hgm:g≠OB+1:=SMW.out.eD Ua.out
     refine⟨⟨k+1,by omega,by go_num,nm::seen,K1.set P ⟨m.pub,ix+1⟩,_,HE.out,?_,by rw[List.length_set];omega,(AT.out.far (p:=⟨g,P*2+1,none⟩) hgo _).drew,?_,?_,?_⟩,by simp[intOf];omega⟩
     ·rw[<- HPU.out,Own.EP]
      exact Own.Srt.put _ HSR.out
     ·rw[List.length_set]
      have h1:=Ua.out.set (P*2+1) (.int .i64 (ix+1))
      have h2:=Sg K1 P mE (ix+1)
      rw[tF] at h2
      rw[<- h2]
      have e1:((K1.flatMap Own.Dw++ys).toArray.setIfInBounds (P*2+1) (.int .i64 (ix+1)))=((K1.flatMap Own.Dw).set (P*2+1) (.int .i64 (ix+1))++ys).toArray:=by
       rw[List.setIfInBounds_toArray,List.set_append_left _ _ (by rw[HXL.out];omega)]
      rw[e1] at h1
      exact D8 h1.drew hbg hnc hcm (by simpa using hcl) (by rw[List.take_append_of_le_length (by rw[List.length_set,HXL.out];exact Nat.le_refl _),List.take_of_length_le (by rw[List.length_set,HXL.out];exact Nat.le_refl _)])
     ·exact SMW.out.keep (zo (by show OB+1≠g;exact fun e=>hgm e.symm))
     ·exact(mD.out.setCell (p:=⟨g,P*2+1,none⟩) hbg _).drew
  | false =>
    obtain⟨K1,hK1⟩:∃ K1,K1=Kc.take P++(⟨m.pub,0⟩::Kc.drop P):=⟨_,rfl⟩
    have hpl:Own.Placed Kc K1 m.pub:=by rw[hK1,HP.out];exact Own.YG HSR.out hh
    have PL:=zh hpl
    have xZ:P<=Kc.length:=by rw[HP.out];exact Own.MK _ _
    have Qb:Below w10.heap.size w10 (w10.alloc (.cells #[.string m.pub,.int .i64 0] 59)):=zb
    have oW:(w10.alloc (.cells #[.string m.pub,.int .i64 0] 59)).heap.size=w10.heap.size+1:=World.size_alloc _ _
    have n11:=At.new w10 59 #[.string m.pub,.int .i64 0]
    have qY:=own_below JY.out Qb
    have hins:=YC B Kc.length P w10.heap.size _ (Kc.flatMap Own.Dw) [.string m.pub,.int .i64 0] _ qY (Own.qV _) xZ (by omega) rfl n11 (by intro u hu;simp at hu;rcases hu with rfl|rfl<;>rfl) (fun e=>by obtain⟨cur,hc⟩:=Db JY.out e;have:=hc.lt;omega) (by omega)
    have yu:(Kc.flatMap Own.Dw).take (P*2)++([.string m.pub,.int .i64 0]++(Kc.flatMap Own.Dw).drop (P*2))=K1.flatMap Own.Dw:=by
     have e1:Kc.flatMap Own.Dw=(Kc.take P).flatMap Own.Dw++(Kc.drop P).flatMap Own.Dw:=by rw[<- List.flatMap_append,List.take_append_drop]
     have e2:((Kc.take P).flatMap Own.Dw).length=P*2:=by rw[Own.TV,List.length_take,Nat.min_eq_left xZ]
     rw[hK1,List.flatMap_append,List.flatMap_cons,e1,<- e2,List.take_left,List.drop_left]
     rfl
    have yw:K1.length=Kc.length+1:=by rw[hK1];simp;omega
    have oZ:=zh hins;have tJ:=zh Qb;have yx:=zh yu;have zaC:=zh yw
    have o0:=(Iq.out.below Qb Iq.out.lt).cell 0;have o1:=(Iq.out.below Qb Iq.out.lt).cell 1
    have o2':=Iq.out.cell 2
    have p1:=M10.out.cell 1
    simp only[zg] at o0 o1 o2' p1
    clear hpl hK1 hh Qb n11 qY hins yu yw
    go_wp2_with fail
    refine oZ.out.mono ?_
    rintro e w11 ⟨v',rfl,ho',Sj,zaD⟩
    rw[yx.out] at ho'
    have hkeep:∀ j (t:TypeId) (cs:Array Value),At w10 j t cs->t≠59->At w11 j t cs:=fun j t cs h ht=>by
     have h1:=h.alloc (.cells #[.string m.pub,.int .i64 0] 59)
     exact h1.grown Sj (fun e=>by
      obtain⟨cur,hc⟩:=Db JY.out e.symm
      exact h.ne hc ht rfl)
    have aZ:=hkeep _ _ _ Iq.out (by decide)
    have y8:=hkeep _ _ _ N10.out (by decide)
    have y9:=hkeep _ _ _ tC.out (by decide)
    have yA:FD w11 (OB+1) (k+1) (Own.DV (nm::seen)):=(iY.out.below tJ.out iY.out.lt).keep (Sj.block (OB+1) (by rw[oW];have:=iY.out.lt;omega) (fun e=>by
     obtain⟨cur,hc⟩:=Db JY.out e.symm
     exact iY.out.eD hc rfl))
    have qZ : Below B w2 w11:=(mq.out.trans (tJ.out.mono (by omega))).grown Sj (by rw[oW];omega) (fun j hj=>Ak JY.out j hj)
    have zbf:=Sj.size
    obtain⟨xa,xm,xc,rfl⟩:=Ac ho'
    rw[<- zaC.out] at ho'
    obtain rfl:=Ba ho'
    have yB:OB≠OB+1:=by omega
    have ru:(Value.slice xa K1.length xc).ownBlock≠some OB:=aZ.own_ne ho' (by decide)
    have q0:=aZ.cell 0;have q1:=aZ.cell 1;have q2:=aZ.cell 2;have q3:=aZ.free 2
    simp only[zg] at q0 q1 q2
    have yC:=zh aZ;have yD:=zh y8;have yE:=zh y9;have yF:=zh yA;have rz:=zh qZ;have yG:=zh ho'
    clear hkeep aZ y8 y9 yA qZ ho' Sj zaD oZ tJ yx JY Iq N10 tC iY mq M10 o0 o1 o2' p1
    go_upto_region 17 with fail
    have atw:At (w11.setCell ⟨OB,2,none⟩ (.slice xa K1.length xc)) OB 25 #[.int .i64 o.count,.slice sa' o.spaces.length ss',.slice xa K1.length xc]:=yC.out.set 2 (.slice xa K1.length xc)
    have yH:(w11.setCell ⟨OB,2,none⟩ (.slice xa K1.length xc)).ownsRow B 59 2 (.slice xa K1.length xc) K1.length (K1.flatMap Own.Dw):=Ae yG.out (fun j hj=>zo (by rintro rfl;exact ru hj))
    have nnw:=yD.out.far (p:=⟨OB,2,none⟩) (by show wr.heap.size≠OB;omega) (.slice xa K1.length xc)
    have tww:=yE.out.far (p:=⟨OB,2,none⟩) (by show w.heap.size+1+1≠OB;omega) (.slice xa K1.length xc)
    have smw:FD (w11.setCell ⟨OB,2,none⟩ (.slice xa K1.length xc)) (OB+1) (k+1) (Own.DV (nm::seen)):=yF.out.keep (zo (by show OB+1≠OB;omega))
    have yI:=rz.out.setCell (p:=⟨OB,2,none⟩) za8 (.slice xa K1.length xc)
    have OWN:=zh yH;have AT:=zh atw;have NN:=zh nnw;have TWW:=zh tww;have SMW:=zh smw;have mD:=zh yI
    clear atw yH nnw tww smw yI q0 q1 q2 q3 ru yC yD yE yF rz yG yB
    generalize w11.setCell ⟨OB,2,none⟩ (.slice xa K1.length xc)=w12 at*
    obtain⟨hPl,hPp,hPn⟩:=PL.out.at_
    have hPu:=PL.out.use (ix+1)
    have xX:=PL.out.len
    rw[<- HP.out] at hPu
    have mE : P<K1.length:=by rw[HP.out];exact hPl
    have tF : K1[P].pub=m.pub:=by rw[<- hPp];congr 2
    have tH : K1[P].next=Own.Bf Kc m.pub:=by rw[<- hPn];congr 2
    clear hPl hPp hPn
    obtain⟨g,cap,hv,_⟩:=Ct OWN.out (by omega)
    cases hv
    obtain⟨ys,Wz,hbg,hnc,hcm,hcl,hxl⟩:=Gf OWN.out
    have mF:w12.cell? ⟨g,P*2+1,none⟩=some (.int .i64 (Own.Bf Kc m.pub)):=by
     rw[Wz.cell]
     have h:=YF K1 P mE
     rw[tH] at h
     rw[List.getElem?_toArray,List.getElem?_append_left (List.getElem?_eq_some_iff.1 h).1,h]
    have xY:=Wz.free (P*2+1)
    obtain⟨o0,o1,o2⟩:=AT.out.c3;obtain⟨y0,y1,y2,y3⟩:=NN.out.c4
    obtain⟨nx,hnx⟩:∃ nx,nx=Own.Bf Kc m.pub:=⟨_,rfl⟩
    rw[<- hnx] at mF
    have HR5:=HR4.out
    rw[<- hnx,hPu] at HR5
    have HPU:=zh hPu
    have Ua:=zh Wz
    have HXL:=zh hxl
    clear Wz hnx hPu hxl
    by_cases hix:ix<nx
    ·have dx:decide (ix<nx)=true:=decide_eq_true hix
     have e:R=.error 8:=by rw[HR5,if_pos hix]
     have HE:=zh e
     have TW:Hid (At w12.drew (w.heap.size+1+1) 25 #[.int .i64 0,.slice none 0 0,.slice none 0 0]):=zh TWW.out.drew
     have TB:=zh (BW2.out.trans (mD.out.mono (by omega))).drew
     have x0:=TWW.out.cell 0;have x1:=TWW.out.cell 1;have x2:=TWW.out.cell 2;have x3:=TWW.out.free 0;have x4:=TWW.out.free 1;have x5:=TWW.out.free 2
     simp only[zg] at x0 x1 x2
     clear e HR5
     go_wp2_with fail
     refine Lex.zl ?_
     go_wp2_with fail
     refine Lex.ze ?_
     go_wp2_with fail
     have F2:=((TW.out.set 0 (.int .i64 0)).set 1 (.slice none 0 0)).set 2 (.slice none 0 0)
     refine BJ rfl rfl rfl (AJ F2 Tryz.underlying25 rfl Bt) ?_
     rw[HQ.out,HE.out]
     exact⟨rfl,((TB.out.setCell (p:=⟨w.heap.size+1+1,0,none⟩) (by show w.heap.size<=w.heap.size+1+1;omega) _).setCell (p:=⟨w.heap.size+1+1,1,none⟩) (by show w.heap.size<=w.heap.size+1+1;omega) _).setCell (p:=⟨w.heap.size+1+1,2,none⟩) (by show w.heap.size<=w.heap.size+1+1;omega) _⟩
    ·have dx:decide (ix<nx)=false:=decide_eq_false hix
     have e:R=Own.Bl s msg (nm::seen) (K1.set P ⟨m.pub,ix+1⟩) (l.drop (k+1)):=by rw[HR5,if_neg hix]
     have HE:=zh e
     have hw:wrap64 (ix+1)=ix+1:=by unfold wrap64;omega
     clear e HR5
     go_wp2_with fail
     refine Lex.zl ?_
     go_wp2_with fail
     refine Lex.ze ?_
     go_wp2_with fail
     have hgo:OB≠g:=AT.out.ne Ua.out (by decide)
     have hgm:g≠OB+1:=SMW.out.eD Ua.out
     refine⟨⟨k+1,by omega,by go_num,nm::seen,K1.set P ⟨m.pub,ix+1⟩,_,HE.out,?_,by rw[List.length_set];omega,(AT.out.far (p:=⟨g,P*2+1,none⟩) hgo _).drew,?_,?_,?_⟩,by simp[intOf];omega⟩
     ·rw[<- HPU.out,Own.EP]
      exact Own.Srt.put _ HSR.out
     ·rw[List.length_set]
      have h1:=Ua.out.set (P*2+1) (.int .i64 (ix+1))
      have h2:=Sg K1 P mE (ix+1)
      rw[tF] at h2
      rw[<- h2]
      have e1:((K1.flatMap Own.Dw++ys).toArray.setIfInBounds (P*2+1) (.int .i64 (ix+1)))=((K1.flatMap Own.Dw).set (P*2+1) (.int .i64 (ix+1))++ys).toArray:=by
       rw[List.setIfInBounds_toArray,List.set_append_left _ _ (by rw[HXL.out];omega)]
      rw[e1] at h1
      exact D8 h1.drew hbg hnc hcm (by simpa using hcl) (by rw[List.take_append_of_le_length (by rw[List.length_set,HXL.out];exact Nat.le_refl _),List.take_of_length_le (by rw[List.length_set,HXL.out];exact Nat.le_refl _)])
     ·exact SMW.out.keep (zo (by show OB+1≠g;exact fun e=>hgm e.symm))
     ·exact(mD.out.setCell (p:=⟨g,P*2+1,none⟩) hbg _).drew
namespace Own
end Own
namespace Own
def W9 (w:World)(v:Value)(l:List Ai):Prop:=∃ a c,v=.slice a l.length c/\∀ i (hi:i<l.length),∃ b o cv pv,a=some ⟨b,o,none⟩/\b<w.heap.size/\w.cell? ⟨b,o+i*4,none⟩=some (.string l[i].name)/\w.cell? ⟨b,o+i*4+1,none⟩=some (.int .i64 l[i].sig.index)/\
 w.cell? ⟨b,o+i*4+2,none⟩=some cv/\w.cell? ⟨b,o+i*4+3,none⟩=some pv/\Al w cv l[i].sig.chains/\Al w pv l[i].sig.path/\Eb cv/\Eb pv
theorem W9.out {w:World}{v:Value}{l:List Ai}(h:W9 w v l):Hq w v l:=by
 obtain⟨a,c,rfl,h⟩:=h
 refine⟨a,c,rfl,fun i hi=>?_⟩
 obtain⟨b,o,cv,pv,h1,h2,h3,h4,h5,h6,h7,h8,_,h9⟩:=h i hi
 exact⟨b,o,cv,pv,h1,h2,h3,h4,h5,h6,h7,h8,h9⟩
end Own
namespace Own
structure Jq (F:Nat->Prop) (w:World) (v:Value) (xs:List ByteArray):Prop where
 st:Al w v xs
 cap:Eb v
 far:0<xs.length->∀ k,v.ownBlock=some k->F k
section
variable {F G:Nat->Prop} {w w' : World} {v:Value} {xs:List ByteArray}
theorem Jq.keep (h:Jq F w v xs)(hk:∀ k,F k->k<w.heap.size->w'.heap[k]? = w.heap[k]?):Jq F w' v xs:=by
 refine⟨?_,h.cap,h.far⟩
 by_cases h0:xs.length=0
 ·exact h.st.empty h0 w'
 ·exact h.st.keep (fun k hk' hl=>hk k (h.far (by omega) k hk') hl)
theorem Jq.mono (h:Jq F w v xs)(hF:∀ k,F k->k<w.heap.size->G k):Jq G w v xs:=
 ⟨h.st,h.cap,fun h0 k hk=>hF k (h.far h0 k hk) (h.st.blk h0 k hk)⟩
theorem Jq.own {base n:Nat}(h:w.ownsRow base 9 1 v n (xs.map Value.string))(hF:∀ k,base<=k->F k):Jq F w v xs:=by
 have hn:n=xs.length:=by have:=h.1;simp at this;omega
 subst hn
 exact⟨Al.own h,Eb.own h,fun _ k hk=>hF k (Ak h k hk)⟩
end
def RAp:Elem Ai:=fun F w cs a=>∃ cv pv,cs=[.string a.name,.int .i64 a.sig.index,cv,pv]/\Jq F w cv a.sig.chains/\Jq F w pv a.sig.path
instance:Dc RAp:=⟨fun⟨c,p,h1,h2,h3⟩ hs hk=>⟨c,p,h1,h2.keep hk,h3.keep hk⟩,fun⟨c,p,h1,h2,h3⟩ hF=>⟨c,p,h1,h2.mono hF,h3.mono hF⟩⟩
theorem eH {F:Nat->Prop}{w:World}{v:Value}{l:List Ai}(h:Aq 4 RAp F w v l):W9 w v l:=by
 obtain⟨a,c,rfl⟩:=h.len
 refine⟨a,c,rfl,fun i hi=>?_⟩
 obtain⟨b,o,ha,_,hb,cs,h1,h2,cv,pv,h3,h4,h5⟩:=h.at_ hi
 subst h3
 exact⟨b,o,cv,pv,ha,hb,h2 0 _ rfl,h2 1 _ rfl,h2 2 _ rfl,h2 3 _ rfl,h4.st,h5.st,h4.cap,h5.cap⟩
def CJ (B:Nat)(w:World)(v:Value)(L:List Ai):Prop:=
 ∃ css:List (List Value),css.length=L.length/\w.ownsRow B 72 4 v L.length css.flatten/\∀ i (hi:i<L.length) (hi' : i<css.length),css[i].length=4/\RAp (fun k=>B<=k/\v.ownBlock≠some k) w css[i] L[i]
theorem CJ.nil (B:Nat)(w:World):CJ B w (.slice none 0 0) []:=⟨[],rfl,⟨rfl,.inl ⟨rfl,rfl⟩⟩,fun i hi=>absurd hi (by simp)⟩
theorem IZ {w:World}{base n size:Nat}{e:TypeId}{v:Value}{xs:List Value}(h:w.ownsRow base e size v n xs):∀ k,v.ownBlock=some k->k<w.heap.size:=by
 intro k hk
 obtain⟨cur,hc⟩:=Db h hk
 exact hc.lt
theorem CJ.keep {B:Nat}{w w' : World}{v:Value}{L:List Ai}(h:CJ B w v L)(hs:w.heap.size<=w'.heap.size)(hk:∀ k,B<=k->k<w.heap.size->w'.heap[k]? = w.heap[k]?):CJ B w' v L:=by
 obtain⟨css,h1,h2,h3⟩:=h
 refine⟨css,h1,Ae h2 (fun k e=>hk k (Ak h2 k e) (IZ h2 k e)),fun i hi hi' => ?_⟩
 obtain⟨h4,h5⟩:=h3 i hi hi'
 exact⟨h4,Dc.keep h5 hs (fun k hF hl=>hk k hF.1 hl)⟩
theorem CJ.below {B:Nat}{w w' : World}{v:Value}{L:List Ai}(h:CJ B w v L)(hb:Below w.heap.size w w'):CJ B w' v L:=h.keep hb.size fun k _ hl=>hb.block k hl
theorem CJ.len {B:Nat}{w:World}{v:Value}{L:List Ai}(h:CJ B w v L):∃ a c,v=.slice a L.length c:=by
 obtain⟨css,h1,h2,h3⟩:=h
 obtain⟨a,m,c,rfl⟩:=Ac h2
 obtain rfl:=Ba h2
 exact⟨a,c,rfl⟩
theorem CJ.base {B B' : Nat}{w:World}{v:Value}{L:List Ai}(h:CJ B w v L)(hb:B' <= B):CJ B' w v L:=by
 obtain⟨css,h1,h2,h3⟩:=h
 refine⟨css,h1,Cw h2 hb,fun i hi hi' => ?_⟩
 obtain⟨h4,h5⟩:=h3 i hi hi'
 exact⟨h4,Dc.mono h5 (fun k hk _=>⟨Nat.le_trans hb hk.1,hk.2⟩)⟩
theorem CJ.list {B:Nat}{w:World}{v:Value}{L:List Ai}(h:CJ B w v L):Aq 4 RAp (fun k=>B<=k) w v L:=by
 obtain⟨css,h1,h2,h3⟩:=h
 refine Aq.Qk (Bc.own h2) rfl h1 (fun k e=>Ak h2 k e) (fun i hi hi' => ?_)
 obtain⟨h4,h5⟩:=h3 i hi hi'
 exact⟨h4,Dc.mono h5 (fun k hk _=>hk.1)⟩
theorem CJ.mG {B:Nat}{w:World}{v:Value}{L:List Ai}(h:CJ B w v L):W9 w v L:=eH h.list
theorem CJ.push {B:Nat}{w w' : World}{v v' : Value}{L:List Ai}{x:Ai}{cv pv:Value}{css:List (List Value)}(h1:css.length=L.length)(hv:w.ownsRow B 72 4 v L.length css.flatten)
 (h3:∀ i (hi:i<L.length) (hi' : i<css.length),css[i].length=4/\RAp (fun k=>B<=k/\v.ownBlock≠some k) w css[i] L[i]) (hc:Jq (fun k=>B<=k/\v.ownBlock≠some k) w cv x.sig.chains) (hp:Jq (fun k=>B<=k/\v.ownBlock≠some k) w pv x.sig.path)
 (hv' : w'.ownsRow B 72 4 v' (L.length+1) (css.flatten++[.string x.name,.int .i64 x.sig.index,cv,pv])) (hg:w.grownBy w' v.ownBlock) (ho:v'.ownBlock=v.ownBlock\/v'.ownBlock=some w.heap.size):CJ B w' v' (L++[x]):=by
 have hsz:w.heap.size<=w'.heap.size:=hg.size
 have hkp:∀ k,B<=k/\v.ownBlock≠some k->k<w.heap.size->w'.heap[k]? = w.heap[k]? :=fun k hF hl=>hg.block k hl (fun e=>hF.2 e.symm)
 have hF:∀ k,B<=k/\v.ownBlock≠some k->k<w.heap.size->(B<=k/\v.ownBlock≠some k)/\v'.ownBlock≠some k:=fun k hF hl=>⟨hF,by
  rcases ho with ho|ho
  ·rw[ho];exact hF.2
  ·rw[ho];intro e;have:=Option.some.inj e;omega⟩
 refine⟨css++[[.string x.name,.int .i64 x.sig.index,cv,pv]],by simp[h1],?_,fun i hi hi' => ?_⟩
 ·rw[List.flatten_append,List.length_append]
  simpa using hv'
 ·by_cases hl:i<L.length
  ·obtain⟨h4,h5⟩:=h3 i hl (by omega)
   rw[List.getElem_append_left (by omega),List.getElem_append_left hl]
   exact⟨h4,Dc.mono (Dc.keep (Dc.mono h5 hF) hsz (fun k hk hl' => hkp k hk.1 hl')) (fun k hk _=>⟨hk.1.1,hk.2⟩)⟩
  ·have e:i=L.length:=by simp at hi;omega
   subst e
   rw[List.getElem_append_right (by omega),List.getElem_append_right (by omega)]
   simp only[h1,Nat.sub_self,List.getElem_cons_zero]
   exact⟨rfl,cv,pv,rfl,((hc.mono hF).keep (fun k hk hl' => hkp k hk.1 hl')).mono (fun k hk _=>⟨hk.1.1,hk.2⟩),((hp.mono hF).keep (fun k hk hl' => hkp k hk.1 hl')).mono (fun k hk _=>⟨hk.1.1,hk.2⟩)⟩
end Own
theorem KX:Nonempty (Fu Tryz.prog 27 72 4 72):=Ec (z:=.agg #[.string ⟨#[]⟩,.int .i64 0,.slice none 0 0,.slice none 0 0]) Tryz.underlying27 (by kernel_rfl) rfl (by omega)
end
section
open Go Go.RowKit Go.Maps
theorem bf (K:List Nat)(k:Nat)(h:k<K.length):Own.Bj (K.take (k+1))=Own.Bj (K.take k)++[Own.Yt (K.getD k 0)]:=by
 unfold Own.Bj
 rw[List.take_succ_eq_append_getElem h,List.map_append,List.getD_eq_getElem?_getD,List.getElem?_eq_getElem h]
 rfl
theorem Ir (l:List Nat)(a:Option Addr)(c:Nat)(w:World)(h:Dt w (.slice a l.length c) l)(hl:∀ b∈l,b<256)(h1:1<=l.length)(h12:l.length<=12):
 Calls Tryz.prog 31 #[.slice a l.length c] w fun e w' => ∃ mv,e=.returned mv/\w'.ownsRow w.heap.size 76 2 mv (Own.Bj (Own.keysOf l)).length ((Own.Bj (Own.keysOf l)).flatMap Own.Cy)/\Below w.heap.size w w':=by
 have hkl:=Own.JJ l
 have hmem:=fun b=>Own.RF hl (b:=b)
 have hcp:=fun base g n cap L W (h:Fz base W (.slice (some ⟨g,0,none⟩) n cap) n L) hn hn2 hcap ho hm=>Nf base g n cap L l W h hn hn2 hcap ho hl hm
 obtain⟨K,hK⟩:∃ K,K=Own.keysOf l:=⟨_,rfl⟩
 rw[<- hK] at hkl ⊢
 simp only[<- hK] at hcp
 have hkn:K.length<=256:=by rw[hK];unfold Own.keysOf;have:=List.length_filter_le (fun b=>decide (b∈l)) (List.range 256);simpa using this
 have hkb:∀ k,k<K.length->K.getD k 0<256:=fun k hk=>hkl.lt _ (by rw[List.getD_eq_getElem?_getD,List.getElem?_eq_getElem hk];exact List.getElem_mem hk)
 have HKB:=zh hkb;have HCP:=zh hcp;have HH:=zh h
 clear hkb hcp hK hmem hkl h hl
 go_enter Tryz.func31,Tryz.ntmps31
 go_wp2_with fail
 refine(Pq a l.length c _).mono ?_
 rintro e _ ⟨rfl,rfl⟩
 have hb1:Below w.heap.size w (w.alloc (.cells #[.slice a l.length c] 66)):=zb
 have HB1:=zh hb1;have H1:=zh (HH.out.below hb1);have C1:=zh (Xq w (.slice a l.length c) 66)
 clear hb1 HH
 go_wp2_with fail
 generalize w.alloc (.cells #[.slice a l.length c] 66)=w1 at*
 refine(Pp w.heap.size _ l _ C1.out H1.out h1 h12).mono ?_
 rintro e w2 ⟨v',L',rfl,hl',hr',ho',hm',hb2⟩
 obtain⟨g,cap,rfl,_⟩:=Ct hr' (by omega)
 have hgc:=(dR hr').1
 have hgu:=Ak hr' g rfl
 have HB2:=zh (HB1.out.trans (hb2.mono HB1.out.size))
 have HR:=zh hr';have HO:=zh ho';have HM:=zh hm'
 have hg0:w.heap.size<=g:=Nat.le_trans HB1.out.size hgu
 clear hr' ho' hm' hb2 hgu H1 C1 HB1
 go_wp2_with fail
 refine(HCP.out _ g l.length cap L' _ HR.out h1 (by omega) hgc HO.out HM.out).mono ?_
 rintro e w3 ⟨rfl,hk,hf⟩
 have HB3:=zh (HB2.out.trans (hf.below HB2.out.size (fun k hk=>by rw[hk];exact hg0)))
 have HK:=zh hk
 clear hk hf HB2 HR HO HM HCP hg0
 go_wp2_with fail
 go_loopw [11,3] (fun i v wr=>∃ (k:Nat),k<=K.length/\i=.int .i64 k/\wr.ownsRow w3.heap.size 76 2 v k ((Own.Bj (K.take k)).flatMap Own.Cy)/\Below w3.heap.size w3 wr) (fun i _ _=>K.length-(intOf i).toNat)
 case atStart=>exact⟨0,by omega,rfl,⟨rfl,.inl ⟨rfl,rfl⟩⟩,Below.refl _ _⟩
 case round=>
  obtain⟨k,hk,rfl,hown,hb⟩:=hrel
  obtain⟨va,vm,vc,rfl⟩:=Ac hown
  obtain rfl:k=vm:=(Ba hown).symm
  have HOW:=zh hown;have HB:=zh hb
  clear hown hb
  by_cases hlt:k<K.length
  case neg=>
   have hke:k=K.length:=by omega
   have dk:decide ((k:Int)<K.length)=false:=zf
   have how:=HOW.out
   rw[hke,List.take_length] at how
   have HF:=zh (Cw how HB3.out.size)
   clear how
   have HE:=zh (show(Own.Bj K).length=K.length from List.length_map _)
   have HKE:=zh hke
   clear hke
   go_wp2_with fail
   go_ret
   exact⟨_,rfl,by rw[HE.out,HKE.out];exact HF.out,HB3.out.trans (HB.out.mono HB3.out.size)⟩
  have dk:decide ((k:Int)<K.length)=true:=zt
  have hx2:=HKB.out k hlt
  have htk:=bf K k hlt
  obtain⟨b,o,ha,hbl,hc⟩:=Dt.cell (HK.out.below HB.out) hlt
  cases ha
  rw[Nat.zero_add] at hc
  obtain⟨x,hx⟩:∃ x,x=K.getD k 0:=⟨_,rfl⟩
  rw[<- hx] at hc hx2 htk
  have HT:=zh htk
  clear hx htk hbl
  have hnm:=fun W=>KP x W hx2
  have hpb:=fun W=>PY x W hx2
  obtain⟨N,hN⟩:∃ N,N=Own.CG x:=⟨_,rfl⟩
  obtain⟨P,hP⟩:∃ P,P=Own.Ej x:=⟨_,rfl⟩
  have LK:Own.Bj (K.take (k+1))=Own.Bj (K.take k)++[⟨N,P⟩]:=by rw[HT.out,hN,hP];rfl
  simp only[<- hN] at hnm
  simp only[<- hP] at hpb
  have HNM:=zh hnm;have HPB:=zh hpb;have HT2:=zh LK
  clear hnm hpb hN hP LK HT
  go_wp2_with fail
  refine(HNM.out _).mono ?_
  rintro e w5 ⟨rfl,hb5⟩
  have HB5:=zh (HB.out.trans (hb5.mono HB.out.size));have HO5:=zh (own_below HOW.out hb5)
  clear hb5
  go_wp2_with fail
  refine(HPB.out _).mono ?_
  rintro e w6 ⟨rfl,hb6⟩
  have hb7:Below w6.heap.size w6 (w6.alloc (.cells #[.string N,.string P] 76)):=zb
  have HB6:=zh (HB5.out.trans (hb6.mono HB5.out.size));have HO6:=zh (own_below HO5.out hb6)
  have HB7:=zh (HB6.out.trans (hb7.mono HB6.out.size));have HO7:=zh (own_below HO6.out hb7)
  have HRW:=zh (Cx w6 76 #[.string N,.string P] 2 1 1 rfl)
  clear hb6 hb7 hc
  go_wp2_with (at_builtin;go_must (refine Ah JO rfl _ _ rfl w3.heap.size k (.slice va k vc) ((Own.Bj (K.take k)).flatMap Own.Cy) rfl HO7.out (.slice (some ⟨w6.heap.size,0,none⟩) 1 1) 1 [.string N,.string P] rfl HRW.out (by intro u hu;simp at hu;rcases hu with rfl|rfl<;>rfl) (by omega) (by omega) HB7.out.size ?_);intro v9 w9 ho9 hg9 hw9;obtain⟨ya,ym,yc,rfl⟩:=Ac ho9;have HO9:=zh ho9;have HB9:=zh (Bh HB7.out HB7.out.size HO7.out hg9);clear ho9 hg9 hw9)
  refine⟨⟨k+1,by omega,by go_num,?_,HB9.out⟩,by simp[intOf];omega⟩
  rw[HT2.out,List.flatMap_append]
  simpa [Own.Cy] using HO9.out
end
section
open Go
namespace Own
theorem pos_at {α : Type}{f : α -> ByteArray} : ∀ {l:List α},Srt f l->∀ {i:Nat} (hi:i<l.length),posB f (f l[i]) l=i
 | [],_,i,hi=>by cases hi
 | x :: l,hs,i,hi => by
   obtain⟨h1,h2⟩:=List.pairwise_cons.1 hs
   cases i with
   | zero =>
     show posB f (f x) (x::l)=0
     rw[posB,if_neg (by rw[BP];simp)]
   | succ i =>
     have hi' : i<l.length:=by simpa using hi
     show posB f (f l[i]) (x::l)=i+1
     rw[posB,if_pos (h1 _ (List.getElem_mem hi')),pos_at h2 hi']
theorem tK {α : Type}{f : α -> ByteArray}{l:List α}(hs:Srt f l){i:Nat}(hi:i<l.length):Dl f (f l[i]) l=true:=by
 unfold Dl
 rw[pos_at hs hi,List.getElem?_eq_getElem hi]
 exact decide_eq_true rfl
theorem YK {α : Type}{f : α -> ByteArray}{l:List α}(hs:Srt f l){i:Nat}(hi:i<l.length)(x : α)(hx:f x=f l[i]):Dj f x l=l.set i x:=by
 rw[MN,hx,pos_at hs hi,tK hs hi,if_pos rfl,List.set_eq_take_append_cons_drop,if_pos hi]
theorem eO {α : Type}{f : α -> ByteArray}{t:ByteArray}{l:List α}(h:∀ y∈l,f y≠t):Dl f t l=false:=by
 unfold Dl
 cases hq:l[posB f t l]? with
 | none=>rfl
 | some y=>exact decide_eq_false (h y (List.mem_of_getElem? hq))
theorem mH {α : Type}{f : α -> ByteArray}{l:List α}(x : α)(h:∀ y∈l,f y≠f x):Dj f x l=l.take (posB f (f x) l)++x::l.drop (posB f (f x) l):=by
 rw[MN,eO h,if_neg (by simp),Nat.add_zero]
theorem drop_at {l:List Space}(hs:Srt Space.pre l){i:Nat}(hi:i<l.length):Na l l[i].pre=l.take i++l.drop (i+1):=by
 induction l generalizing i with
 | nil=>cases hi
 | cons x l ih =>
   obtain⟨h1,h2⟩:=List.pairwise_cons.1 hs
   cases i with
   | zero =>
     show Na (x::l) x.pre=l
     unfold Na
     rw[List.filter_cons_of_neg (by simp),List.filter_eq_self]
     intro y hy
     have:=h1 y hy
     simp only[Bool.not_eq_true',decide_eq_false_iff_not]
     intro e
     rw[e,BP] at this
     cases this
   | succ i =>
     have hi' : i<l.length:=by simpa using hi
     have hne:x.pre≠l[i].pre:=fun e=>by
      have:=h1 l[i] (List.getElem_mem hi')
      rw[e,BP] at this;cases this
     show Na (x::l) l[i].pre=x::(l.take i++l.drop (i+1))
     unfold Na
     rw[List.filter_cons_of_pos (by simpa using hne)]
     have:=ih h2 hi'
     unfold Na at this
     rw[this]
theorem WB (p:ByteArray):belongs p p=true:=by
 unfold belongs
 rw[decide_eq_true rfl]
 rfl
theorem Va {p:ByteArray} : ∀ (l:List Space) (b:Option Space),b.isSome=true->(CB p b l).isSome=true
 | [],_,h=>h
 | x :: l,b,h => by
   unfold CB
   refine Va l _ ?_
   generalize (belongs p x.pre&&_)=c
   cases c with
   | true=>rfl
   | false=>exact h
theorem Vb {p:ByteArray} : ∀ {l:List Space},CB p none l=none->∀ s∈l,belongs p s.pre=false
 | [],_,s,hs=>by cases hs
 | x :: l,h,s,hs => by
   unfold CB at h
   cases hx:belongs p x.pre with
   | true =>
     rw[hx] at h
     have:=Va (p:=p) l (some x) rfl
     have e:CB p (some x) l=none:=h
     rw[e] at this
     cases this
   | false =>
     rw[hx] at h
     have e:CB p none l=none:=h
     rcases List.mem_cons.1 hs with rfl|hs
     ·exact hx
     ·exact Vb e s hs
theorem YL {p:ByteArray}{l:List Space}(h:CB p none l=none):∀ s∈l,s.pre≠p:=fun s hs e=>by
 have:=Vb h s hs
 rw[e,WB] at this
 cases this
end Own
end
section
open Go Go.RowKit Go.Maps
namespace Own
def opV (op:Op)(mv av:Value):Value:=.agg #[.int .i64 op.kind,.string op.pre,mv,.int .i64 op.threshold,.string op.name,.string op.pub,av]
theorem Ef (s:ByteArray):(s.toList.isEmpty=true↔s=⟨#[]⟩):=by
 rw[ByteArray.toList_eq,List.isEmpty_iff]
 constructor
 ·intro h;exact Sha.BG h
 ·rintro rfl;rfl
end Own
theorem Ja (op:Own.Op)(mv av:Value)(w:World)(hM:Il w)(hm:Own.Af w mv op.members)(ha:∃ a c,av=.slice a op.Aa.length c)(hl:op.members.length<=140737488355328):
 Calls Tryz.prog 49 #[Own.opV op mv av] w fun e w' => e=.returned (.bool (Own.Eh op))/\Below w.heap.size w w':=by
 obtain⟨R,hR⟩:∃ R,R=Own.Eh op:=⟨_,rfl⟩
 rw[<- hR]
 unfold Own.Eh at hR
 obtain⟨PM,hPM⟩:∃ P,P=Own.U7 op:=⟨_,rfl⟩
 obtain⟨PN,hPN⟩:∃ P,P=Own.opName op:=⟨_,rfl⟩
 rw[<- hPM,<- hPN] at hR
 unfold Own.U7 at hPM
 unfold Own.opName at hPN
 unfold Own.opV
 obtain⟨aa,ac,rfl⟩:=ha
 obtain⟨kd,pre,ms,th,nm,pb,aps⟩:=op
 dsimp only at*
 obtain⟨ma,mc,rfl⟩:=hm.len
 have F1:=zh (show Au w _ [(29,#[.int .i64 kd,.string pre,.slice ma ms.length mc,.int .i64 th,.string nm,.string pb,.slice aa aps.length ac])] from((CY.nil w).push 29 #[.int .i64 kd,.string pre,.slice ma ms.length mc,.int .i64 th,.string nm,.string pb,.slice aa aps.length ac]).boxes)
 have hcp:=fun W (hW:Below w.heap.size w W)=>LJ pre W (hM.below hW)
 have hcm:=fun W (hW:Below w.heap.size w W)=>KR _ ms W (hm.below hW) hl
 have hcn:=fun W=>Dv nm W
 have hcq:=fun W=>Bz pb W
 have HCP:=zh hcp;have HCM:=zh hcm;have HCN:=zh hcn;have HCQ:=zh hcq
 have HR:=zh hR;have HPM:=zh hPM;have HPN:=zh hPN
 clear hM hm hcp hcm hcn hcq hR hPM hPN
 have x00:(w.alloc (.cells #[.int .i64 kd,.string pre,.slice ma ms.length mc,.int .i64 th,.string nm,.string pb,.slice aa aps.length ac] 29)).cell? ⟨w.heap.size,0,none⟩=some (.int .i64 kd):=F1.out.cell 0 0 rfl rfl
 have x01:(w.alloc (.cells #[.int .i64 kd,.string pre,.slice ma ms.length mc,.int .i64 th,.string nm,.string pb,.slice aa aps.length ac] 29)).cell? ⟨w.heap.size,1,none⟩=some (.string pre):=F1.out.cell 0 1 rfl rfl
 have x02:(w.alloc (.cells #[.int .i64 kd,.string pre,.slice ma ms.length mc,.int .i64 th,.string nm,.string pb,.slice aa aps.length ac] 29)).cell? ⟨w.heap.size,2,none⟩=some (.slice ma ms.length mc):=F1.out.cell 0 2 rfl rfl
 have x03:(w.alloc (.cells #[.int .i64 kd,.string pre,.slice ma ms.length mc,.int .i64 th,.string nm,.string pb,.slice aa aps.length ac] 29)).cell? ⟨w.heap.size,3,none⟩=some (.int .i64 th):=F1.out.cell 0 3 rfl rfl
 have x04:(w.alloc (.cells #[.int .i64 kd,.string pre,.slice ma ms.length mc,.int .i64 th,.string nm,.string pb,.slice aa aps.length ac] 29)).cell? ⟨w.heap.size,4,none⟩=some (.string nm):=F1.out.cell 0 4 rfl rfl
 have x05:(w.alloc (.cells #[.int .i64 kd,.string pre,.slice ma ms.length mc,.int .i64 th,.string nm,.string pb,.slice aa aps.length ac] 29)).cell? ⟨w.heap.size,5,none⟩=some (.string pb):=F1.out.cell 0 5 rfl rfl
 have x06:(w.alloc (.cells #[.int .i64 kd,.string pre,.slice ma ms.length mc,.int .i64 th,.string nm,.string pb,.slice aa aps.length ac] 29)).cell? ⟨w.heap.size,6,none⟩=some (.slice aa aps.length ac):=F1.out.cell 0 6 rfl rfl
 go_enter Tryz.func49,Tryz.ntmps49
 by_cases h0:kd<0
 ·have d0:decide (kd<0)=true:=decide_eq_true h0
  have HE:=zh (show R=false by rw[HR.out,decide_eq_false (show ¬ 0<=kd by omega)];rfl)
  go_wp2_with fail
  go_ret
  exact⟨by rw[HE.out];rfl,F1.out.under⟩
 have d0:decide (kd<0)=false:=decide_eq_false h0
 by_cases h4:4<kd
 ·have d4:decide ((4:Int)<kd)=true:=decide_eq_true h4
  have HE:=zh (show R=false by rw[HR.out,decide_eq_true (show 0<=kd by omega),decide_eq_false (show ¬ kd<=4 by omega)];rfl)
  go_wp2_with fail
  go_ret
  exact⟨by rw[HE.out];rfl,F1.out.under⟩
 have d4:decide ((4:Int)<kd)=false:=decide_eq_false h4
 have hr1:R=(Own.BI pre&&decide (aps.length<=8)&&PM&&PN):=by rw[HR.out,decide_eq_true (show 0<=kd by omega),decide_eq_true (show kd<=4 by omega)];rfl
 have HR1:=zh hr1;clear hr1 HR
 go_upto_region 1 with fail
 generalize (w.alloc (.cells #[.int .i64 kd,.string pre,.slice ma ms.length mc,.int .i64 th,.string nm,.string pb,.slice aa aps.length ac] 29))=w1 at*
 go_wp2_with fail
 refine(HCP.out w1 F1.out.under).mono ?_
 rintro e w2 ⟨rfl,hb2⟩
 have F2:=zh (F1.out.step hb2);clear hb2
 (try clear x00);(try clear x01);(try clear x02);(try clear x03);(try clear x04);(try clear x05);(try clear x06)
 obtain⟨x00,x01,x02,x03,x04,x05,x06⟩:=F2.out.JI rfl
 cases hpo:Own.BI pre with
 | false =>
   have HE:=zh (show R=false by rw[HR1.out,hpo];rfl)
   clear hpo
   go_wp2_with fail
   go_ret
   exact⟨by rw[HE.out];rfl,F2.out.under⟩
 | true=>
 by_cases h8:8<aps.length
 ·have d8:decide ((8:Int)<(aps.length:Int))=true:=zt
  have d8' : decide (8<aps.length)=true:=decide_eq_true h8
  have HE:=zh (show R=false by rw[HR1.out,hpo,decide_eq_false (show ¬ aps.length<=8 by omega)];rfl)
  clear hpo
  go_wp2_with fail
  go_ret
  exact⟨by rw[HE.out];rfl,F2.out.under⟩
 have d8:decide ((8:Int)<(aps.length:Int))=false:=zf
 have d8' : decide (8<aps.length)=false:=decide_eq_false h8
 have hr2:R=(PM&&PN):=by rw[HR1.out,hpo,decide_eq_true (show aps.length<=8 by omega)];rfl
 have HR2:=zh hr2;clear hr2 hpo HR1
 by_cases hk2:kd<=2
 ·have d2:decide (kd<=2)=true:=decide_eq_true hk2
  have hpm:=HPM.out
  rw[if_neg (show ¬ (3:Int)<=kd by omega)] at hpm
  have Ub:=zh hpm;clear hpm HPM
  go_upto_region 4 with fail
  go_wp2_with fail
  refine(HCM.out w2 F2.out.under).mono ?_
  rintro e w3 ⟨rfl,hb3⟩
  have F3:=zh (F2.out.step hb3);clear hb3
  (try clear x00);(try clear x01);(try clear x02);(try clear x03);(try clear x04);(try clear x05);(try clear x06)
  obtain⟨x00,x01,x02,x03,x04,x05,x06⟩:=F3.out.JI rfl
  cases hmo:Own.Co ms with
  | false =>
    have HE:=zh (show R=false by rw[HR2.out,Ub.out,hmo];rfl)
    clear hmo
    go_wp2_with fail
    go_ret
    exact⟨by rw[HE.out];rfl,F3.out.under⟩
  | true=>
  by_cases ht1:th<1
  ·have dt:decide (th<1)=true:=decide_eq_true ht1
   have HE:=zh (show R=false by rw[HR2.out,Ub.out,decide_eq_false (show ¬ 1<=th by omega)];simp)
   clear hmo
   go_wp2_with fail
   go_ret
   exact⟨by rw[HE.out];rfl,F3.out.under⟩
  have dt:decide (th<1)=false:=decide_eq_false ht1
  by_cases ht2:(ms.length:Int)<th
  ·have du:decide ((ms.length:Int)<th)=true:=decide_eq_true ht2
   have HE:=zh (show R=false by rw[HR2.out,Ub.out,decide_eq_false (show ¬ th<=(ms.length:Int) by omega)];simp)
   clear hmo
   go_wp2_with fail
   go_ret
   exact⟨by rw[HE.out];rfl,F3.out.under⟩
  have du:decide ((ms.length:Int)<th)=false:=decide_eq_false ht2
  have hk4:(kd==4)=false:=by rw[beq_eq_false_iff_ne];omega
  have hpn:=HPN.out
  rw[if_neg (show ¬ kd=4 by omega)] at hpn
  have HE0:=zh (show R=PN by rw[HR2.out,Ub.out,hmo,decide_eq_true (show 1<=th by omega),decide_eq_true (show th<=(ms.length:Int) by omega)];rfl)
  have Uc:=zh hpn;clear hpn HPN hmo Ub HR2
  go_upto_region 8 with fail
  by_cases hn:nm=⟨#[]⟩
  case neg=>
   have q1:nm.toList.isEmpty=false:=by rw[Bool.eq_false_iff];exact fun h=>hn ((Own.Ef nm).1 h)
   have q2:(nm.toList==[])=false:=by rw[beq_eq_false_iff_ne];intro h;rw[h] at q1;cases q1
   have HE:=zh (show R=false by rw[HE0.out,Uc.out,decide_eq_false hn];rfl)
   clear hn
   go_wp2_with fail
   go_ret
   exact⟨by rw[HE.out];rfl,F3.out.under⟩
  have q1:nm.toList.isEmpty=true:=(Own.Ef nm).2 hn
  have q2:(nm.toList==[])=true:=by rw[List.isEmpty_iff.1 q1];rfl
  have HN:=zh hn;clear hn
  by_cases hp:pb=⟨#[]⟩
  case neg=>
   have q3:pb.toList.isEmpty=false:=by rw[Bool.eq_false_iff];exact fun h=>hp ((Own.Ef pb).1 h)
   have q4:(pb.toList==[])=false:=by rw[beq_eq_false_iff_ne];intro h;rw[h] at q3;cases q3
   have HE:=zh (show R=false by rw[HE0.out,Uc.out,decide_eq_false hp];simp)
   clear hp
   go_wp2_with fail
   go_ret
   exact⟨by rw[HE.out];rfl,F3.out.under⟩
  have q3:pb.toList.isEmpty=true:=(Own.Ef pb).2 hp
  have q4:(pb.toList==[])=true:=by rw[List.isEmpty_iff.1 q3];rfl
  have HE:=zh (show R=true by rw[HE0.out,Uc.out,decide_eq_true HN.out,decide_eq_true hp];rfl)
  clear hp
  go_wp2_with fail
  go_ret
  exact⟨by rw[HE.out];rfl,F3.out.under⟩
 ·have d2:decide (kd<=2)=false:=decide_eq_false hk2
  have hpm:=HPM.out
  rw[if_pos (show(3:Int)<=kd by omega)] at hpm
  have Ub:=zh hpm;clear hpm HPM
  by_cases hl0:ms.length=0
  case neg=>
   have dl:decide ((0:Int)<(ms.length:Int))=true:=zt
   have dl' : decide (0<ms.length)=true:=zt
   have HE:=zh (show R=false by rw[HR2.out,Ub.out,decide_eq_false hl0];rfl)
   go_wp2_with fail
   go_ret
   exact⟨by rw[HE.out];rfl,F2.out.under⟩
  have dl:decide ((0:Int)<(ms.length:Int))=false:=zf
  have dl' : decide (0<ms.length)=false:=zf
  have HL0:=zh hl0;clear hl0
  by_cases ht0:th=0
  case neg=>
   have dt:(th != 0)=true:=by rw[bne_iff_ne];exact ht0
   have dt' : (th==0)=false:=by rw[beq_eq_false_iff_ne];exact ht0
   have HE:=zh (show R=false by rw[HR2.out,Ub.out,decide_eq_false ht0];simp)
   go_wp2_with fail
   go_ret
   exact⟨by rw[HE.out];rfl,F2.out.under⟩
  have HT0:=zh ht0
  have dt:(th != 0)=false:=by rw[bne_eq_false_iff_eq];exact ht0
  have dt' : (th==0)=true:=by rw[beq_iff_eq];exact ht0
  clear ht0
  have HE0:=zh (show R=PN by rw[HR2.out,Ub.out,decide_eq_true HL0.out,decide_eq_true HT0.out];rfl)
  clear Ub HR2
  by_cases hk:kd=4
  ·have hk4:(kd==4)=true:=by rw[beq_iff_eq];exact hk
   have hpn:=HPN.out
   rw[if_pos hk] at hpn
   have Uc:=zh hpn;clear hpn HPN
   have HK:=zh hk;clear hk
   go_upto_region 9 with fail
   go_wp2_with fail
   refine(HCN.out w2).mono ?_
   rintro e w3 ⟨rfl,rfl⟩
   cases hno:Own.EG nm with
   | false =>
     have HE:=zh (show R=false by rw[HE0.out,Uc.out,hno];rfl)
     clear hno
     go_wp2_with fail
     go_ret
     exact⟨by rw[HE.out];rfl,F2.out.under⟩
   | true =>
     have HE:=zh (show R=Sig.Bn pb by rw[HE0.out,Uc.out,hno];rfl)
     clear hno
     go_wp2_with fail
     refine(HCQ.out _).mono ?_
     rintro e w3 ⟨rfl,rfl⟩
     go_wp2_with fail
     go_ret
     exact⟨by rw[HE.out];rfl,F2.out.under⟩
  ·have hk4:(kd==4)=false:=by rw[beq_eq_false_iff_ne];exact hk
   have hpn:=HPN.out
   rw[if_neg hk] at hpn
   have Uc:=zh hpn;clear hpn HPN hk
   go_upto_region 8 with fail
   by_cases hn:nm=⟨#[]⟩
   case neg=>
    have q1:nm.toList.isEmpty=false:=by rw[Bool.eq_false_iff];exact fun h=>hn ((Own.Ef nm).1 h)
    have q2:(nm.toList==[])=false:=by rw[beq_eq_false_iff_ne];intro h;rw[h] at q1;cases q1
    have HE:=zh (show R=false by rw[HE0.out,Uc.out,decide_eq_false hn];rfl)
    clear hn
    go_wp2_with fail
    go_ret
    exact⟨by rw[HE.out];rfl,F2.out.under⟩
   have q1:nm.toList.isEmpty=true:=(Own.Ef nm).2 hn
   have q2:(nm.toList==[])=true:=by rw[List.isEmpty_iff.1 q1];rfl
   have HN:=zh hn;clear hn
   by_cases hp:pb=⟨#[]⟩
   case neg=>
    have q3:pb.toList.isEmpty=false:=by rw[Bool.eq_false_iff];exact fun h=>hp ((Own.Ef pb).1 h)
    have q4:(pb.toList==[])=false:=by rw[beq_eq_false_iff_ne];intro h;rw[h] at q3;cases q3
    have HE:=zh (show R=false by rw[HE0.out,Uc.out,decide_eq_false hp];simp)
    clear hp
    go_wp2_with fail
    go_ret
    exact⟨by rw[HE.out];rfl,F2.out.under⟩
   have q3:pb.toList.isEmpty=true:=(Own.Ef pb).2 hp
   have q4:(pb.toList==[])=true:=by rw[List.isEmpty_iff.1 q3];rfl
   have HE:=zh (show R=true by rw[HE0.out,Uc.out,decide_eq_true HN.out,decide_eq_true hp];rfl)
   clear hp
   go_wp2_with fail
   go_ret
   exact⟨by rw[HE.out];rfl,F2.out.under⟩
theorem tL (b:UInt8):bits BinOp.and IntKind.u8 (b.toNat:Int) 127=((b.toNat%128:Nat):Int):=by
 have h:∀ k:Fin 256,bits BinOp.and IntKind.u8 (k.val:Int) 127=((k.val%128:Nat):Int):=by decide +kernel
 exact h ⟨b.toNat,b.toNat_lt⟩
theorem bg (k:Nat):128^k=2^(7*k):=by rw[show(128:Nat)=2^7 by decide,<- Nat.pow_mul]
theorem pq (N k:Nat)(b:UInt8)(hN:N<128^k)(hk:k<=9)(h9:k=9->b.toNat<=1):
 bits .or .u64 (N:Int) (IntKind.u64.wrap (IntKind.u64.wrap (bits .and .u8 (b.toNat:Int) 127)*2^(7*k)))=((N+b.toNat%128*128^k:Nat):Int):=by
 have hP:b.toNat%128*128^k<18446744073709551616:=by
  by_cases h:k=9
  ·have:=h9 h
   subst h
   have h2:(128:Nat)^9=9223372036854775808:=by decide
   rw[h2]
   omega
  ·have h5:128^k<=128^8:=Nat.pow_le_pow_right (by omega) (by omega)
   have h6:(128:Nat)^8=72057594037927936:=by decide
   rw[h6] at h5
   have:=Nat.mul_le_mul (show b.toNat%128<=127 by omega) h5
   omega
 have hN2:N<18446744073709551616:=by
  have h5:128^k<=128^9:=Nat.pow_le_pow_right (by omega) hk
  have h6:(128:Nat)^9=9223372036854775808:=by decide
  omega
 have e1:(((b.toNat%128:Nat):Int)*2^(7*k))=((b.toNat%128*128^k:Nat):Int):=by
  rw[bg]
  push_cast
  rfl
 rw[tL,wraps_u64 ((b.toNat%128:Nat):Int) (by omega) (by omega),e1,wraps_u64 _ (by omega) (by omega)]
 rw[bits_join_low .u64 64 (by decide) (fun n h0 h1=>wraps_u64 n h0 h1) (7*k) (N:Int) _ (by omega) (by rw[bg] at hN;exact_mod_cast hN) (by omega) (by omega) (by
  rw[bg]
  push_cast
  exact Int.mul_emod_left _ _) (by omega)]
 omega
theorem mJ (x:UInt8)(l:List UInt8)(i:Nat):Cod.rdL (x::l) i=if i=9/\1<x.toNat then none else if x.toNat<128 then (if x.toNat=0/\i≠0 then none else some (x.toNat,1)) else match Cod.rdL l (i+1) with
 | some (v,c)=>some (x.toNat%128+128*v,c+1)
 | none=>none:=rfl
def YM (r:Option (Nat × Nat))(e:Ending):Prop:=match r with
 | some (v,b)=>e=.returned (.tuple #[.int .u64 v,.int .i64 b,.bool true])
 | none=>∃ n b:Int,e=.returned (.tuple #[.int .u64 n,.int .i64 b,.bool false])
def yJ (s:ByteArray)(a:Nat)(at_ n sh:Value):Prop:=
 ∃ k N : Nat,k ≤ 9 ∧ at_ = .int .i64 ((a + k : Nat) : Int) ∧ n = .int .u64 N ∧ sh = .int .i64 ((7 * k : Nat) : Int) ∧ N < 128 ^ k ∧ a + k ≤ s.size ∧
   Cod.rdL (s.data.toList.drop a) 0=match Cod.rdL (s.data.toList.drop (a+k)) k with
    | some (v,c)=>some (N+128^k*v,k+c)
    | none=>none
theorem bB (rb:Nat)(s:ByteArray)(a0 a:Nat)(e0:Int)(w:World)(h:At w rb 157 (rdV s a0 e0))(ha:a<=s.size)(hs:s.size<=140737488355328):
 Calls Tryz.prog 173 #[.pointer (some ⟨rb,0,none⟩),.int .i64 a] w fun e w' => YM (Cod.rdU s a) e/\w' = w:=by
 have k0:=h.cell 0
 simp only[rdV,List.getElem?_toArray,List.getElem?_cons_zero] at k0
 obtain⟨R,hR⟩:∃ R,R=YM (Cod.rdU s a):=⟨_,rfl⟩
 rw[<- hR]
 have HR:=zh hR;clear hR h
 go_enter Tryz.func173,Tryz.ntmps173
 go_wp2_with fail
 go_loopw [1,7,8] (fun at_ n sh wr=>yJ s a at_ n sh/\wr=w) (fun at_ _ _ _=>s.size-(intOf at_).toNat)
 case atStart=>
  refine⟨⟨0,0,by omega,rfl,rfl,rfl,by simp,by omega,?_⟩,rfl⟩
  rw[Nat.add_zero]
  cases Cod.rdL (s.data.toList.drop a) 0 with
  | none=>rfl
  | some x=>obtain⟨v,c⟩:=x;simp
 case round=>
  obtain⟨⟨k,N,hk,rfl,rfl,rfl,hN,hak,hrd⟩,rfl⟩:=hrel
  have HRD:=zh hrd;have HN:=zh hN;clear hrd hN
  by_cases hlt:a+k<s.size
  ·obtain⟨x,hx⟩:∃ x,s[a+k]=x:=⟨_,rfl⟩
   have hd:s.data.toList.drop (a+k)=x::s.data.toList.drop (a+k+1):=by
    rw[List.drop_eq_getElem_cons (by rw[Sha.Bo];exact hlt),<- hx]
    rfl
   have hr:=HRD.out
   rw[hd,mJ] at hr
   have HR2:=zh hr;clear hr hd HRD
   have dk:decide (((a+k:Nat):Int)<s.size)=true:=by simp;omega
   have d2:decide (((7*k:Nat):Int)<64)=true:=by simp;omega
   have hadd:((a:Int)+k+1)=((a+(k+1):Nat):Int):=by omega
   have yL:=zh hadd;clear hadd
   have hno:(k=9/\1<x.toNat)\/(x.toNat=0/\k≠0)->Cod.rdU s a=none:=by
    intro h
    have hr:=HR2.out
    unfold Cod.rdU
    rcases h with h|h
    ·rw[if_pos h] at hr
     rw[hr]
    ·by_cases h2:k=9/\1<x.toNat
     ·rw[if_pos h2] at hr
      rw[hr]
     ·rw[if_neg h2,if_pos (by omega),if_pos h] at hr
      rw[hr]
   have hyes:¬ (k=9/\1<x.toNat)->x.toNat<128->¬ (x.toNat=0/\k≠0)->Cod.rdU s a=some (N+x.toNat%128*128^k,a+(k+1)):=by
    intro h1 h2 h3
    have hr:=HR2.out
    rw[if_neg h1,if_pos h2,if_neg h3] at hr
    unfold Cod.rdU
    rw[hr,Nat.mod_eq_of_lt h2,Nat.mul_comm]
   have HNO:=zh hno;have zaE:=zh hyes;clear hno hyes
   by_cases hn:(k=9/\1<x.toNat)\/(x.toNat=0/\k≠0)
   ·have hfin : ∀ n b : Int,R (.returned (.tuple #[.int .u64 n,.int .i64 b,.bool false])) :=by
     intro n b
     rw[HR.out,HNO.out hn]
     exact⟨n,b,rfl⟩
    have HF:=zh hfin;clear hfin
    rcases hn with ⟨rfl,h1⟩|⟨h0,hk0⟩
    ·have h2:(1:Int)<x.toNat:=by omega
     go_wp2_with fail
     go_ret3
     exact⟨HF.out _ _,rfl⟩
    ·have e1:((7*(k:Int))==0)=false:=by simp;omega
     go_wp2_with fail
     all_goals
      go_ret3
      exact⟨HF.out _ _,rfl⟩
   ·have hn1:¬ (k=9/\1<x.toNat):=fun h=>hn (.inl h)
    have hn2:¬ (x.toNat=0/\k≠0):=fun h=>hn (.inr h)
    have hk9:k=9->x.toNat<=1:=fun h=>by
     rcases Nat.lt_or_ge 1 x.toNat with h1|h1
     ·exact absurd ⟨h,h1⟩ hn1
     ·exact h1
    have hor:=pq N k x HN.out hk hk9
    have HOR:=zh hor;have HK9:=zh hk9;have HN1:=zh hn1;have HN2:=zh hn2;clear hor hk9 hn hn1 hn2
    by_cases hb:x.toNat<128
    ·have hb2:(x.toNat:Int)<128:=by omega
     have hfin:R (.returned (.tuple #[.int .u64 ((N+x.toNat%128*128^k:Nat):Int),.int .i64 ((a:Int)+k+1),.bool true])):=by
      rw[HR.out,zaE.out HN1.out hb HN2.out,yL.out]
      rfl
     have HF:=zh hfin;clear hfin hb
     by_cases h0:x.toNat=0
     ·obtain rfl : k = 0 :=by
       rcases Nat.eq_zero_or_pos k with h|h
       ·exact h
       ·exact absurd ⟨h0,by omega⟩ HN2.out
      obtain rfl:N=0:=by have:=HN.out;simpa using this
      have hf:R (.returned (.tuple #[.int .u64 0,.int .i64 ((a:Int)+1),.bool true])):=by
       have h1:=HF.out
       rw[h0] at h1
       simpa using h1
      have hx2:s[a]=x:=by simpa using hx
      have HF2:=zh hf;clear hf hx
      have hz:bits BinOp.or IntKind.u64 0 (IntKind.u64.wrap (IntKind.u64.wrap (bits BinOp.and IntKind.u8 0 127)))=0:=by decide +kernel
      have HZ:=zh hz;clear hz
      go_wp2_with fail
      go_ret3
      refine⟨?_,rfl⟩
      rw[HZ.out]
      exact HF2.out
     ·by_cases h9:k=9
      ·subst h9
       have h1:(x.toNat:Int)<=1:=by have:=HK9.out rfl;omega
       have hor:=HOR.out
       rw[show(2:Int)^(7*9)=9223372036854775808 by decide] at hor
       have zaF:=zh hor;clear hor
       go_wp2_with fail
       go_ret3
       refine⟨?_,rfl⟩
       rw[zaF.out]
       exact HF.out
      ·have e9:¬ (7*(k:Int)=63):=by omega
       go_wp2_with fail
       go_ret3
       refine⟨?_,rfl⟩
       rw[HOR.out]
       exact HF.out
    ·have hb2:¬ ((x.toNat:Int)<128):=by omega
     have h9:k≠9:=fun h=>by have:=HK9.out h;omega
     have e9:¬ (7*(k:Int)=63):=by omega
     have hr:=HR2.out
     rw[if_neg HN1.out,if_neg hb] at hr
     have HR3:=zh hr;clear hr hb
     have hN2:N+x.toNat%128*128^k<128^(k+1):=by
      have h1:=HN.out
      have h2:=Nat.mul_le_mul_right (128^k) (show x.toNat%128<=127 by omega)
      rw[Nat.pow_succ]
      omega
     have hr2:Cod.rdL (s.data.toList.drop a) 0=match Cod.rdL (s.data.toList.drop (a+(k+1))) (k+1) with
      | some (v,c)=>some ((N+x.toNat%128*128^k)+128^(k+1)*v,(k+1)+c)
      | none=>none:=by
      rw[HR3.out,show a+(k+1)=a+k+1 by omega]
      cases Cod.rdL (s.data.toList.drop (a+k+1)) (k+1) with
      | none=>rfl
      | some y =>
        obtain⟨v,c⟩:=y
        show some _=some _
        congr 2
        ·rw[Nat.pow_succ,Nat.mul_add,Nat.mul_comm (128^k) (x.toNat%128),Nat.mul_assoc,Nat.add_assoc]
        ·omega
     have HN3:=zh hN2;have HR4:=zh hr2;clear hN2 hr2
     go_wp2_with fail
     rw[HOR.out]
     exact⟨⟨⟨k+1,N+x.toNat%128*128^k,by omega,by rw[yL.out],rfl,by congr 1<;>omega,HN3.out,by omega,HR4.out⟩,by first|rfl|trivial⟩,by simp[intOf];omega⟩
  ·have dk:decide (((a+k:Nat):Int)<s.size)=false:=by simp;omega
   have hd:s.data.toList.drop (a+k)=[]:=List.drop_eq_nil_of_le (by rw[Sha.Bo];omega)
   have hr:=HRD.out
   rw[hd] at hr
   have hfin:R (.returned (.tuple #[.int .u64 0,.int .i64 0,.bool false])):=by
    rw[HR.out]
    unfold Cod.rdU
    rw[hr]
    exact⟨0,0,rfl⟩
   have HF:=zh hfin;clear hfin hr hd
   go_wp2_with fail
   go_ret3
   exact⟨HF.out,rfl⟩
def Nn (r:Option (Nat × Nat))(e:Ending):Prop:=match r with
 | some (v,b)=>e=.returned (.tuple #[.int .i64 v,.int .i64 b,.bool true])
 | none=>∃ n b:Int,e=.returned (.tuple #[.int .i64 n,.int .i64 b,.bool false])
def YO (r:Option (ByteArray × Nat))(e:Ending):Prop:=match r with
 | some (x,b)=>e=.returned (.tuple #[.string x,.int .i64 b,.bool true])
 | none=>e=.returned (.tuple #[.string ⟨#[]⟩,.int .i64 0,.bool false])
theorem Jb (rb:Nat)(s:ByteArray)(a0 a:Nat)(e0:Int)(w:World)(h:At w rb 157 (rdV s a0 e0))(ha:a<=s.size)(hs:s.size<=140737488355328):
 Calls Tryz.prog 135 #[.pointer (some ⟨rb,0,none⟩),.int .i64 a] w fun e w' => Nn (Cod.rdN s a) e/\w' = w:=by
 obtain⟨R,hR⟩:∃ R,R=Nn (Cod.rdN s a):=⟨_,rfl⟩
 rw[<- hR]
 have HR:=zh hR;have H:=zh h;clear hR h
 go_enter Tryz.func135,Tryz.ntmps135
 go_wp2_with fail
 refine(bB rb s a0 a e0 _ H.out ha hs).mono ?_
 rintro e w1 ⟨hp,rfl⟩
 cases hr:Cod.rdU s a with
 | none =>
   rw[hr] at hp
   obtain⟨n,b,rfl⟩:=hp
   have hf:∀ n b:Int,R (.returned (.tuple #[.int .i64 n,.int .i64 b,.bool false])):=by
    intro n b
    rw[HR.out]
    unfold Cod.rdN
    rw[hr]
    exact⟨n,b,rfl⟩
   have HF:=zh hf;clear hf hr
   go_wp2_with fail
   go_ret3
   exact⟨HF.out _ _,rfl⟩
 | some y =>
   obtain⟨v,b⟩:=y
   rw[hr] at hp
   have hp' : e=.returned (.tuple #[.int .u64 v,.int .i64 b,.bool true]):=hp
   subst hp'
   clear hp
   have hv:=(Cod.Xo hr).2.2.2
   by_cases hlt:v<9223372036854775808
   ·have hf : R (.returned (.tuple #[.int .i64 v,.int .i64 b,.bool true])) :=by
     rw[HR.out]
     unfold Cod.rdN
     simp only[hr,if_pos hlt]
     rfl
    have HF:=zh hf;clear hf hr
    have hz:(v:Int)/9223372036854775808=0:=by omega
    go_wp2_with fail
    go_ret3
    exact⟨HF.out,rfl⟩
   ·have hf : ∀ n b : Int,R (.returned (.tuple #[.int .i64 n,.int .i64 b,.bool false])) :=by
     intro n b
     rw[HR.out]
     unfold Cod.rdN
     simp only[hr,if_neg hlt]
     exact⟨n,b,rfl⟩
    have HF:=zh hf;clear hf hr
    have hz:(v:Int)/9223372036854775808=1:=by omega
    go_wp2_with fail
    go_ret3
    exact⟨HF.out _ _,rfl⟩
theorem Sk (rb:Nat)(s:ByteArray)(a0 a:Nat)(e0:Int)(w:World)(h:At w rb 157 (rdV s a0 e0))(ha:a<=s.size)(hs:s.size<=140737488355328):
 Calls Tryz.prog 137 #[.pointer (some ⟨rb,0,none⟩),.int .i64 a] w fun e w' => YO (Cod.rdT s a) e/\w' = w:=by
 obtain⟨R,hR⟩:∃ R,R=YO (Cod.rdT s a):=⟨_,rfl⟩
 rw[<- hR]
 have k0:=h.cell 0
 simp only[rdV,List.getElem?_toArray,List.getElem?_cons_zero] at k0
 have HR:=zh hR;have H:=zh h;clear hR h
 go_enter Tryz.func137,Tryz.ntmps137
 go_wp2_with fail
 refine(Jb rb s a0 a e0 _ H.out ha hs).mono ?_
 rintro e w1 ⟨hp,rfl⟩
 cases hr:Cod.rdN s a with
 | none =>
   rw[hr] at hp
   obtain⟨n,b,rfl⟩:=hp
   have hf:R (.returned (.tuple #[.string ⟨#[]⟩,.int .i64 0,.bool false])):=by
    rw[HR.out]
    unfold Cod.rdT
    rw[hr]
    rfl
   have HF:=zh hf;clear hf hr
   go_wp2_with fail
   go_ret3
   exact⟨HF.out,rfl⟩
 | some y =>
   obtain⟨v,b⟩:=y
   rw[hr] at hp
   have hp' : e=.returned (.tuple #[.int .i64 v,.int .i64 b,.bool true]):=hp
   subst hp'
   clear hp
   obtain⟨g1,g2,_,g4⟩:=Cod.Fa hr
   by_cases hlt:v<=s.size-b
   ·have hf : R (.returned (.tuple #[.string (s.extract b (b + v)),.int .i64 ((b : Int) + v),.bool true])) :=by
     rw[HR.out]
     unfold Cod.rdT
     simp only[hr,if_pos hlt]
     show _=Ending.returned (.tuple #[.string (s.extract b (b+v)),.int .i64 ((b+v:Nat):Int),.bool true])
     rw[Int.natCast_add]
    have HF:=zh hf;clear hf hr
    have hz:¬ ((s.size:Int)-b<v):=by omega
    go_wp2_with fail
    go_ret3
    exact⟨HF.out,rfl⟩
   ·have hf : R (.returned (.tuple #[.string ⟨#[]⟩,.int .i64 0,.bool false])) :=by
     rw[HR.out]
     unfold Cod.rdT
     simp only[hr,if_neg hlt]
     rfl
    have HF:=zh hf;clear hf hr
    have hz:((s.size:Int)-b<v):=by omega
    go_wp2_with fail
    go_ret3
    exact⟨HF.out,rfl⟩
structure Av (rb:Nat) (w w' : World) (cs:Array Value):Prop where
 at_:At w' rb 157 cs
 fr:Fr (fun k=>k=rb) w w'
theorem Av.refl {rb:Nat}{w:World}{cs:Array Value}(h:At w rb 157 cs):Av rb w w cs:=⟨h,Fr.refl _ _⟩
def Eo (rb:Nat)(s:ByteArray)(a:Nat)(r:Option (Nat × Nat))(w:World)(e:Ending)(w' : World):Prop:=match r with
 | some (v,b)=>e=.returned (.int .i64 v)/\Av rb w w' (rdV s b 0)
 | none=>e=.returned (.int .i64 0)/\Av rb w w' (rdV s a 9)
def Np (rb:Nat)(s:ByteArray)(a:Nat)(r:Option (ByteArray × Nat))(w:World)(e:Ending)(w' : World):Prop:=match r with
 | some (x,b)=>e=.returned (.string x)/\Av rb w w' (rdV s b 0)
 | none=>e=.returned (.string ⟨#[]⟩)/\Av rb w w' (rdV s a 9)
theorem Av.set1 {rb:Nat}{w:World}{s:ByteArray}{a:Nat}{e:Int}(h:At w rb 157 (rdV s a e))(b:Nat):Av rb w (w.setCell ⟨rb,1,none⟩ (.int .i64 b)) (rdV s b e):=
 ⟨h.set 1 _,(Fr.refl (fun k=>k=rb) _).setCell (p:=⟨rb,1,none⟩) (.inl rfl) _⟩
theorem Av.set2 {rb:Nat}{w:World}{s:ByteArray}{a:Nat}{e:Int}(h:At w rb 157 (rdV s a e))(b:Int):Av rb w (w.setCell ⟨rb,2,none⟩ (.int .i64 b)) (rdV s a b):=
 ⟨h.set 2 _,(Fr.refl (fun k=>k=rb) _).setCell (p:=⟨rb,2,none⟩) (.inl rfl) _⟩
theorem WC (rb:Nat)(s:ByteArray)(a:Nat)(w:World)(h:At w rb 157 (rdV s a 0))(ha:a<=s.size)(hs:s.size<=140737488355328):
 Calls Tryz.prog 134 #[.pointer (some ⟨rb,0,none⟩),.func (.func 135) #[.pointer (some ⟨rb,0,none⟩)] #[]] w (Eo rb s a (Cod.rdN s a) w):=by
 obtain⟨R,hR⟩:∃ R,R=Eo rb s a (Cod.rdN s a) w:=⟨_,rfl⟩
 rw[<- hR]
 have k1:=h.cell 1;have k2:=h.cell 2;have z1:=h.free 1;have z2:=h.free 2
 simp only[rdV,List.getElem?_toArray,List.getElem?_cons_zero,List.getElem?_cons_succ] at k1 k2
 have HR:=zh hR;have H:=zh h;clear hR h
 go_enter Tryz.func134,Tryz.ntmps134
 go_wp2_with fail
 refine(Jb rb s a a 0 _ H.out ha hs).mono ?_
 rintro e w1 ⟨hp,rfl⟩
 cases hr:Cod.rdN s a with
 | none =>
   rw[hr] at hp
   obtain⟨n,b,rfl⟩:=hp
   have hf:R (.returned (.int .i64 0)) (w1.setCell ⟨rb,2,none⟩ (.int .i64 9)):=by
    rw[HR.out,hr]
    exact⟨rfl,Av.set2 H.out 9⟩
   have HF:=zh hf;clear hf hr
   go_wp2_with fail
   exact HF.out
 | some y =>
   obtain⟨v,b⟩:=y
   rw[hr] at hp
   have hp' : e=.returned (.tuple #[.int .i64 v,.int .i64 b,.bool true]):=hp
   subst hp'
   clear hp
   have hf:R (.returned (.int .i64 v)) (w1.setCell ⟨rb,1,none⟩ (.int .i64 b)):=by
    rw[HR.out,hr]
    exact⟨rfl,Av.set1 H.out b⟩
   have HF:=zh hf;clear hf hr
   go_wp2_with fail
   exact HF.out
theorem Oq (rb:Nat)(s:ByteArray)(a:Nat)(e:Int)(he:e≠0)(w:World)(h:At w rb 157 (rdV s a e)):
 Calls Tryz.prog 134 #[.pointer (some ⟨rb,0,none⟩),.func (.func 135) #[.pointer (some ⟨rb,0,none⟩)] #[]] w fun e w' => e=.returned (.int .i64 0)/\w' = w:=by
 have k2:=h.cell 2
 simp only[rdV,List.getElem?_toArray,List.getElem?_cons_zero,List.getElem?_cons_succ] at k2
 have he2:(e != 0)=true:=by simpa using he
 clear h
 go_enter Tryz.func134,Tryz.ntmps134
 go_wp2_with fail
 go_ret
 exact⟨rfl,rfl⟩
theorem WE (rb:Nat)(s:ByteArray)(a:Nat)(w:World)(h:At w rb 157 (rdV s a 0))(ha:a<=s.size)(hs:s.size<=140737488355328):
 Calls Tryz.prog 136 #[.pointer (some ⟨rb,0,none⟩),.func (.func 137) #[.pointer (some ⟨rb,0,none⟩)] #[]] w (Np rb s a (Cod.rdT s a) w):=by
 obtain⟨R,hR⟩:∃ R,R=Np rb s a (Cod.rdT s a) w:=⟨_,rfl⟩
 rw[<- hR]
 have k1:=h.cell 1;have k2:=h.cell 2;have z1:=h.free 1;have z2:=h.free 2
 simp only[rdV,List.getElem?_toArray,List.getElem?_cons_zero,List.getElem?_cons_succ] at k1 k2
 have HR:=zh hR;have H:=zh h;clear hR h
 go_enter Tryz.func136,Tryz.ntmps136
 go_wp2_with fail
 refine(Sk rb s a a 0 _ H.out ha hs).mono ?_
 rintro e w1 ⟨hp,rfl⟩
 cases hr:Cod.rdT s a with
 | none =>
   rw[hr] at hp
   obtain rfl:e=_:=hp
   have hf:R (.returned (.string ⟨#[]⟩)) (w1.setCell ⟨rb,2,none⟩ (.int .i64 9)):=by
    rw[HR.out,hr]
    exact⟨rfl,Av.set2 H.out 9⟩
   have HF:=zh hf;clear hf hr
   go_wp2_with fail
   exact HF.out
 | some y =>
   obtain⟨v,b⟩:=y
   rw[hr] at hp
   have hp' : e=.returned (.tuple #[.string v,.int .i64 b,.bool true]):=hp
   subst hp'
   clear hp
   have hf:R (.returned (.string v)) (w1.setCell ⟨rb,1,none⟩ (.int .i64 b)):=by
    rw[HR.out,hr]
    exact⟨rfl,Av.set1 H.out b⟩
   have HF:=zh hf;clear hf hr
   go_wp2_with fail
   exact HF.out
theorem Ot (rb:Nat)(s:ByteArray)(a:Nat)(e:Int)(he:e≠0)(w:World)(h:At w rb 157 (rdV s a e)):
 Calls Tryz.prog 136 #[.pointer (some ⟨rb,0,none⟩),.func (.func 137) #[.pointer (some ⟨rb,0,none⟩)] #[]] w fun e w' => e=.returned (.string ⟨#[]⟩)/\w' = w:=by
 have k2:=h.cell 2
 simp only[rdV,List.getElem?_toArray,List.getElem?_cons_zero,List.getElem?_cons_succ] at k2
 have he2:(e != 0)=true:=by simpa using he
 clear h
 go_enter Tryz.func136,Tryz.ntmps136
 go_wp2_with fail
 go_ret
 exact⟨rfl,rfl⟩
theorem bC (rb:Nat)(s:ByteArray)(a:Nat)(w:World)(h:At w rb 157 (rdV s a 0))(ha:a<=s.size)(hs:s.size<=140737488355328):
 Calls Tryz.prog 81 #[.pointer (some ⟨rb,0,none⟩)] w (Eo rb s a (Cod.rdN s a) w):=by
 obtain⟨R,hR⟩:∃ R,R=Eo rb s a (Cod.rdN s a) w:=⟨_,rfl⟩
 rw[<- hR]
 have HR:=zh hR;have H:=zh h;clear hR h
 go_enter Tryz.func81,Tryz.ntmps81
 go_wp2_with fail
 refine(WC rb s a _ H.out ha hs).mono ?_
 intro e w1 hp
 rw[<- HR.out] at hp
 have hv:∃ v,e=.returned v:=by
  rw[HR.out] at hp
  unfold Eo at hp
  split at hp
  ·exact⟨_,hp.1⟩
  ·exact⟨_,hp.1⟩
 obtain⟨v,rfl⟩:=hv
 have HP:=zh hp;clear hp
 go_wp2_with fail
 exact HP.out
theorem Sl (rb:Nat)(s:ByteArray)(a:Nat)(e:Int)(he:e≠0)(w:World)(h:At w rb 157 (rdV s a e)):
 Calls Tryz.prog 81 #[.pointer (some ⟨rb,0,none⟩)] w fun e w' => e=.returned (.int .i64 0)/\w' = w:=by
 have H:=zh h;clear h
 go_enter Tryz.func81,Tryz.ntmps81
 go_wp2_with fail
 refine(Oq rb s a e he _ H.out).mono ?_
 rintro e w1 ⟨rfl,rfl⟩
 go_wp2_with fail
 go_ret
 exact⟨rfl,rfl⟩
theorem bD (rb:Nat)(s:ByteArray)(a:Nat)(w:World)(h:At w rb 157 (rdV s a 0))(ha:a<=s.size)(hs:s.size<=140737488355328):
 Calls Tryz.prog 82 #[.pointer (some ⟨rb,0,none⟩)] w (Np rb s a (Cod.rdT s a) w):=by
 obtain⟨R,hR⟩:∃ R,R=Np rb s a (Cod.rdT s a) w:=⟨_,rfl⟩
 rw[<- hR]
 have HR:=zh hR;have H:=zh h;clear hR h
 go_enter Tryz.func82,Tryz.ntmps82
 go_wp2_with fail
 refine(WE rb s a _ H.out ha hs).mono ?_
 intro e w1 hp
 rw[<- HR.out] at hp
 have hv:∃ v,e=.returned v:=by
  rw[HR.out] at hp
  unfold Np at hp
  split at hp
  ·exact⟨_,hp.1⟩
  ·exact⟨_,hp.1⟩
 obtain⟨v,rfl⟩:=hv
 have HP:=zh hp;clear hp
 go_wp2_with fail
 exact HP.out
theorem Sm (rb:Nat)(s:ByteArray)(a:Nat)(e:Int)(he:e≠0)(w:World)(h:At w rb 157 (rdV s a e)):
 Calls Tryz.prog 82 #[.pointer (some ⟨rb,0,none⟩)] w fun e w' => e=.returned (.string ⟨#[]⟩)/\w' = w:=by
 have H:=zh h;clear h
 go_enter Tryz.func82,Tryz.ntmps82
 go_wp2_with fail
 refine(Ot rb s a e he _ H.out).mono ?_
 rintro e w1 ⟨rfl,rfl⟩
 go_wp2_with fail
 go_ret
 exact⟨rfl,rfl⟩
def rdC (s:ByteArray)(m:Int)(a:Nat):Option (Nat × Nat):=match Cod.rdN s a with
 | some (v,b)=>if (v:Int)<=m then some (v,b) else none
 | none=>none
theorem WG (rb b1 b2:Nat)(m:Int)(s:ByteArray)(a0 a:Nat)(e0:Int)(w:World)(h1:w.cell? ⟨b1,0,none⟩=some (.pointer (some ⟨rb,0,none⟩)))(h2:w.cell? ⟨b2,0,none⟩=some (.int .i64 m))(h:At w rb 157 (rdV s a0 e0))(ha:a<=s.size)(hs:s.size<=140737488355328):
 Calls Tryz.prog 138 #[.int .i64 a,.pointer (some ⟨b1,0,none⟩),.pointer (some ⟨b2,0,none⟩)] w fun e w' => Nn (rdC s m a) e/\w' = w.drew:=by
 obtain⟨R,hR⟩:∃ R,R=Nn (rdC s m a):=⟨_,rfl⟩
 rw[<- hR]
 have HR:=zh hR;have H:=zh h;clear hR h
 go_enter Tryz.func138,Tryz.ntmps138
 go_wp2_with fail
 refine(Jb rb s a0 a e0 _ H.out ha hs).mono ?_
 rintro e w1 ⟨hp,rfl⟩
 cases hr:Cod.rdN s a with
 | none =>
   rw[hr] at hp
   obtain⟨n,b,rfl⟩:=hp
   have hf:∀ n b:Int,R (.returned (.tuple #[.int .i64 n,.int .i64 b,.bool false])):=by
    intro n b
    rw[HR.out]
    unfold rdC
    rw[hr]
    exact⟨n,b,rfl⟩
   have HF:=zh hf;clear hf hr
   go_wp2_with fail
   refine Lex.zl ?_
   go_wp2_with fail
   refine Lex.ze ?_
   go_wp2_with fail
   go_ret3
   exact⟨HF.out _ _,rfl⟩
 | some y =>
   obtain⟨v,b⟩:=y
   rw[hr] at hp
   have hp' : e=.returned (.tuple #[.int .i64 v,.int .i64 b,.bool true]):=hp
   subst hp'
   clear hp
   have hv:=(Cod.Fa hr).2.2.2
   by_cases hlt:(v:Int)<=m
   ·have dlt:decide ((v:Int)<=m)=true:=by simpa using hlt
    have hf:R (.returned (.tuple #[.int .i64 v,.int .i64 b,.bool true])):=by
     rw[HR.out]
     unfold rdC
     simp only[hr,if_pos hlt]
     rfl
    have HF:=zh hf;clear hf hr
    go_wp2_with fail
    refine Lex.zl ?_
    go_wp2_with fail
    refine Lex.ze ?_
    go_wp2_with fail
    go_ret3
    exact⟨HF.out,rfl⟩
   ·have dlt:decide ((v:Int)<=m)=false:=by simpa using hlt
    have hf:∀ n b:Int,R (.returned (.tuple #[.int .i64 n,.int .i64 b,.bool false])):=by
     intro n b
     rw[HR.out]
     unfold rdC
     simp only[hr,if_neg hlt]
     exact⟨n,b,rfl⟩
    have HF:=zh hf;clear hf hr
    go_wp2_with fail
    refine Lex.zl ?_
    go_wp2_with fail
    refine Lex.ze ?_
    go_wp2_with fail
    go_ret3
    exact⟨HF.out _ _,rfl⟩
theorem Av.pre {rb:Nat}{w w1 w' : World}{cs:Array Value}(hf:Fr (fun k=>k=rb) w w1)(h:Av rb w1 w' cs):Av rb w w' cs:=⟨h.at_,hf.trans h.fr (fun _ hk=>.inl hk)⟩
theorem Ud (rb b1 b2:Nat)(m:Int)(s:ByteArray)(a:Nat)(w:World)(h1:w.cell? ⟨b1,0,none⟩=some (.pointer (some ⟨rb,0,none⟩)))(h2:w.cell? ⟨b2,0,none⟩=some (.int .i64 m))(h:At w rb 157 (rdV s a 0))(ha:a<=s.size)(hs:s.size<=140737488355328):
 Calls Tryz.prog 134 #[.pointer (some ⟨rb,0,none⟩),.func (.func 138) #[] #[.pointer (some ⟨b1,0,none⟩),.pointer (some ⟨b2,0,none⟩)]] w (Eo rb s a (rdC s m a) w):=by
 obtain⟨R,hR⟩:∃ R,R=Eo rb s a (rdC s m a) w:=⟨_,rfl⟩
 rw[<- hR]
 have k1:=h.cell 1;have k2:=h.cell 2;have z1:=h.free 1;have z2:=h.free 2
 simp only[rdV,List.getElem?_toArray,List.getElem?_cons_zero,List.getElem?_cons_succ] at k1 k2
 have HR:=zh hR;have H:=zh h;have H1:=zh h1;have H2:=zh h2;clear hR h h1 h2
 go_enter Tryz.func134,Tryz.ntmps134
 go_wp2_with fail
 refine(WG rb b1 b2 m s a a 0 _ H1.out H2.out H.out ha hs).mono ?_
 rintro e w1 ⟨hp,rfl⟩
 have hd:Fr (fun k=>k=rb) w w.drew:=(Fr.refl (fun k=>k=rb) w).drew
 cases hr:rdC s m a with
 | none =>
   rw[hr] at hp
   obtain⟨n,b,rfl⟩:=hp
   have hf:R (.returned (.int .i64 0)) (w.drew.setCell ⟨rb,2,none⟩ (.int .i64 9)):=by
    rw[HR.out,hr]
    exact⟨rfl,Av.pre hd (Av.set2 H.out.drew 9)⟩
   have HF:=zh hf;clear hf hr hd
   go_wp2_with fail
   exact HF.out
 | some y =>
   obtain⟨v,b⟩:=y
   rw[hr] at hp
   have hp' : e=.returned (.tuple #[.int .i64 v,.int .i64 b,.bool true]):=hp
   subst hp'
   clear hp
   have hf:R (.returned (.int .i64 v)) (w.drew.setCell ⟨rb,1,none⟩ (.int .i64 b)):=by
    rw[HR.out,hr]
    exact⟨rfl,Av.pre hd (Av.set1 H.out.drew b)⟩
   have HF:=zh hf;clear hf hr hd
   go_wp2_with fail
   exact HF.out
theorem iZ (fv:Value)(rb:Nat)(s:ByteArray)(a:Nat)(e:Int)(he:e≠0)(w:World)(h:At w rb 157 (rdV s a e)):
 Calls Tryz.prog 134 #[.pointer (some ⟨rb,0,none⟩),fv] w fun e w' => e=.returned (.int .i64 0)/\w' = w:=by
 have k2:=h.cell 2
 simp only[rdV,List.getElem?_toArray,List.getElem?_cons_zero,List.getElem?_cons_succ] at k2
 have he2:(e != 0)=true:=by simpa using he
 clear h
 go_enter Tryz.func134,Tryz.ntmps134
 go_wp2_with fail
 go_ret
 exact⟨rfl,rfl⟩
theorem YP (rb:Nat)(s:ByteArray)(a:Nat)(m:Int)(w:World)(h:At w rb 157 (rdV s a 0))(ha:a<=s.size)(hs:s.size<=140737488355328):
 Calls Tryz.prog 83 #[.pointer (some ⟨rb,0,none⟩),.int .i64 m] w (Eo rb s a (rdC s m a) w):=by
 obtain⟨R,hR⟩:∃ R,R=Eo rb s a (rdC s m a) w:=⟨_,rfl⟩
 rw[<- hR]
 have hlt:=h.lt
 have HR:=zh hR;have H:=zh h;clear hR h
 go_enter Tryz.func83,Tryz.ntmps83
 go_wp2_with fail
 have hfr:Fr (fun k=>k=rb) w ((w.alloc (.cells #[.pointer (some ⟨rb,0,none⟩)] 101)).alloc (.cells #[.int .i64 m] 3)):=((Fr.refl (fun k=>k=rb) w).alloc _).alloc _
 refine(Ud rb w.heap.size (w.heap.size+1) m s a _ (((At.new w _ _).alloc _).cell 0) ((At.new1 w _ _ _).cell 0) ((H.out.alloc _).alloc _) ha hs).mono ?_
 intro e w1 hp
 have hv:∃ v,e=.returned v:=by
  unfold Eo at hp
  split at hp
  ·exact⟨_,hp.1⟩
  ·exact⟨_,hp.1⟩
 have hq:R e w1:=by
  rw[HR.out]
  unfold Eo at hp ⊢
  split at hp
  ·exact⟨hp.1,Av.pre hfr hp.2⟩
  ·exact⟨hp.1,Av.pre hfr hp.2⟩
 obtain⟨v,rfl⟩:=hv
 have HP:=zh hq;clear hp hq hfr
 go_wp2_with fail
 exact HP.out
theorem YQ (rb:Nat)(s:ByteArray)(a:Nat)(m:Int)(e:Int)(he:e≠0)(w:World)(h:At w rb 157 (rdV s a e)):
 Calls Tryz.prog 83 #[.pointer (some ⟨rb,0,none⟩),.int .i64 m] w fun e w' => e=.returned (.int .i64 0)/\Below w.heap.size w w':=by
 have hlt:=h.lt
 have H:=zh h;clear h
 go_enter Tryz.func83,Tryz.ntmps83
 go_wp2_with fail
 refine(iZ _ rb s a e he _ ((H.out.alloc _).alloc _)).mono ?_
 rintro e w1 ⟨rfl,rfl⟩
 go_wp2_with fail
 go_ret
 exact⟨rfl,zb.alloc (by simp) _⟩
def DX (s:ByteArray)(a:Nat)(e:Int):Int:=if e=0/\a<s.size then 9 else e
theorem je (rb:Nat)(s:ByteArray)(a:Nat)(e:Int)(w:World)(h:At w rb 157 (rdV s a e)):
 Calls Tryz.prog 85 #[.pointer (some ⟨rb,0,none⟩)] w fun e' w' => e' = .returned (.int .i64 (DX s a e))/\w' = w.drew:=by
 have k0:=h.cell 0;have k1:=h.cell 1;have k2:=h.cell 2
 simp only[rdV,List.getElem?_toArray,List.getElem?_cons_zero,List.getElem?_cons_succ] at k0 k1 k2
 obtain⟨E,hE⟩:∃ E,E=DX s a e:=⟨_,rfl⟩
 rw[<- hE]
 have HE:=zh hE;clear hE h
 go_enter Tryz.func85,Tryz.ntmps85
 by_cases h0:e=0
 ·have d0:(e==0)=true:=by simpa using h0
  by_cases hl:a<s.size
  ·have d1:decide ((a:Int)<s.size)=true:=by simp;omega
   have hf:E=9:=by rw[HE.out];unfold DX;rw[if_pos ⟨h0,hl⟩]
   have HF:=zh hf;clear hf h0
   go_wp2_with fail
   refine Lex.zl ?_
   go_wp2_with fail
   refine Lex.ze ?_
   go_wp2_with fail
   go_ret
   exact⟨by rw[HF.out];rfl,rfl⟩
  ·have d1:decide ((a:Int)<s.size)=false:=by simp;omega
   have hf:E=e:=by rw[HE.out];unfold DX;rw[if_neg (fun h=>hl h.2)]
   have HF:=zh hf;clear hf h0
   go_wp2_with fail
   refine Lex.zl ?_
   go_wp2_with fail
   refine Lex.ze ?_
   go_wp2_with fail
   go_ret
   exact⟨by rw[HF.out];rfl,rfl⟩
 ·have d0:(e==0)=false:=by simpa using h0
  have hf:E=e:=by rw[HE.out];unfold DX;rw[if_neg (fun h=>h0 h.1)]
  have HF:=zh hf;clear hf h0
  go_wp2_with fail
  refine Lex.zl ?_
  go_wp2_with fail
  refine Lex.ze ?_
  go_wp2_with fail
  go_ret
  exact⟨by rw[HF.out];rfl,rfl⟩
def YS (w:World)(r:Option (List ByteArray × Nat))(e:Ending)(w' : World):Prop:=match r with
 | some (l,b)=>∃ v,e=.returned (.tuple #[v,.int .i64 b,.bool true])/\Al w' v l/\(∀ k,v.ownBlock=some k->w.heap.size<=k)/\(∃ a c,v=.slice (some a) l.length c/\l.length<=c)/\Below w.heap.size w w'
 | none=>e=.returned (.tuple #[.slice none 0 0,.int .i64 0,.bool false])/\Below w.heap.size w w'
def filled (n:Nat)(xs:List ByteArray):List Value:=(xs++List.replicate (n-xs.length) (⟨#[]⟩:ByteArray)).map Value.string
theorem bE (n:Nat)(xs:List ByteArray)(x:ByteArray)(h:xs.length<n):(filled n xs).set xs.length (.string x)=filled n (xs++[x]):=by
 unfold filled
 obtain⟨k,hk⟩:∃ k,n-xs.length=k+1:=⟨n-xs.length-1,by omega⟩
 rw[<- List.map_set,hk,List.length_append,List.length_singleton,show n-(xs.length+1)=k by omega,List.replicate_succ]
 congr 1
 rw[List.set_append_right _ _ (Nat.le_refl _),Nat.sub_self,List.set_cons_zero,List.append_assoc]
 rfl
theorem bF (n:Nat)(xs:List ByteArray)(h:xs.length=n):filled n xs=xs.map Value.string:=by
 unfold filled
 rw[h,Nat.sub_self]
 simp
def TsI (s:ByteArray)(w0:World)(n a:Nat)(at_ i:Value)(wr:World):Prop:=
 ∃ (k b : Nat) (xs : List ByteArray),k ≤ n ∧ xs.length = k ∧ i = .int .i64 k ∧ at_ = .int .i64 b ∧ b ≤ s.size ∧ wr.ownsRow w0.heap.size 9 1 (.slice (some ⟨w0.heap.size,0,none⟩) n n) n (filled n xs) ∧ Below w0.heap.size w0 wr ∧
   Cod.Kw s n a=match Cod.Kw s (n-k) b with
    | some (l,c)=>some (xs++l,c)
    | none=>none
theorem WH (rb b1:Nat)(s:ByteArray)(a0 a:Nat)(e0:Int)(w:World)(h1:w.cell? ⟨b1,0,none⟩=some (.pointer (some ⟨rb,0,none⟩)))(hb1:b1<w.heap.size)(h:At w rb 157 (rdV s a0 e0))(ha:a<=s.size)(hs:s.size<=1000000):
 Calls Tryz.prog 140 #[.int .i64 a,.pointer (some ⟨b1,0,none⟩)] w (YS w (Cod.Br s a)):=by
 obtain⟨R,hR⟩:∃ R,R=YS w (Cod.Br s a):=⟨_,rfl⟩
 rw[<- hR]
 have k0:=h.cell 0
 simp only[rdV,List.getElem?_toArray,List.getElem?_cons_zero] at k0
 have HR:=zh hR;have H:=zh h;clear hR h
 obtain⟨i0,hi,hz0,hz1,hz2⟩:=info_parts XJ
 go_enter Tryz.func140,Tryz.ntmps140
 go_wp2_with fail
 refine(Jb rb s a0 a e0 _ H.out ha (by omega)).mono ?_
 rintro e w1 ⟨hp,rfl⟩
 cases hr:Cod.rdN s a with
 | none =>
   rw[hr] at hp
   obtain⟨n,b,rfl⟩:=hp
   have hf:R (.returned (.tuple #[.slice none 0 0,.int .i64 0,.bool false])) w1:=by
    rw[HR.out]
    unfold Cod.Br
    rw[hr]
    exact⟨rfl,Below.refl _ _⟩
   have HF:=zh hf;clear hf hr
   go_wp2_with fail
   go_ret3
   exact HF.out
 | some y =>
   obtain⟨n,b⟩:=y
   rw[hr] at hp
   have hp' : e=.returned (.tuple #[.int .i64 n,.int .i64 b,.bool true]):=hp
   subst hp'
   clear hp
   obtain⟨g1,g2,_,g4⟩:=Cod.Fa hr
   by_cases hlt:n<=s.size-b
   ·have hz:¬ ((s.size:Int)-b<n):=by omega
    have hf:Cod.Br s a=Cod.Kw s n b:=by
     unfold Cod.Br
     simp only[hr,if_pos hlt]
    have HF:=zh hf;clear hf hr
    go_wp2_with (at_make;go_must (refine wpList_make_full _ rfl _ _ 68 rfl w1.heap.size 9 i0 (.string ⟨#[]⟩) 1 Tryz.underlying68 hi hz0 hz1 .i64 .i64 n n n rfl rfl rfl rfl (by rw[hz2];omega) (by unfold maxLen;omega) (Nat.le_refl _) ?_);intro w2 how hg)
    have hrow:(madeCells (Value.string ⟨#[]⟩).cells (n*1)).toList=filled n []:=by
     rw[Nat.mul_one]
     show(madeCells #[Value.string ⟨#[]⟩] n).toList=_
     rw[toList_madeCells_one]
     simp[filled]
    rw[hrow] at how
    have hb2:Below w1.heap.size w1 w2:=(Below.refl w1.heap.size w1).grown hg (Nat.le_refl _) (fun i hi=>by cases hi)
    have hlt1:=H.out.lt
    have hti:TsI s w1 n b (.int .i64 b) (.int .i64 0) w2:=⟨0,b,[],Nat.zero_le _,rfl,rfl,rfl,g2,how,hb2,by
     rw[Nat.sub_zero]
     cases Cod.Kw s n b with
     | none=>rfl
     | some y=>obtain⟨l,c⟩:=y;rfl⟩
    have HTI:=zh hti;clear hti how hg hb2 hrow k0
    go_wp2_with fail
    go_loopw [0,34] (fun at_ i wr=>TsI s w1 n b at_ i wr) (fun _ i _=>n-(intOf i).toNat)
    case atStart=>exact HTI.out
    case round=>
     obtain⟨k,b2,xs,hk,hxl,rfl,rfl,hb2,how,hbl,htr⟩:=hrel
     have HOW:=zh how;have HBL:=zh hbl;have HTR:=zh htr;have HXL:=zh hxl;clear how hbl htr hxl
     by_cases hkn:k<n
     ·have dk:decide ((k:Int)<n)=true:=by simp;omega
      obtain⟨M,hM⟩:∃ M,n-k=M+1:=⟨n-k-1,by omega⟩
      have htr:=HTR.out
      rw[hM,Cod.Kw] at htr
      have c1:wr.cell? ⟨b1,0,none⟩=some (.pointer (some ⟨rb,0,none⟩)):=(HBL.out.cell (p:=⟨b1,0,none⟩) hb1).trans h1
      have hat:=H.out.below HBL.out hlt1
      have hce:(wr.cell? ⟨w1.heap.size,k,none⟩).isSome=true:=by
       rw[HOW.out.cellAt k (by omega)]
       simp[filled,HXL.out]
       omega
      obtain⟨cv,hcv⟩:=Option.isSome_iff_exists.1 hce
      have hfz:wr.frozen? ⟨w1.heap.size,k,none⟩=false:=HOW.out.frozenAt k
      have HAT:=zh hat;have HM:=zh hM;clear hat hce hM
      go_wp2_with fail
      refine(Sk rb s a0 b2 e0 _ HAT.out hb2 (by omega)).mono ?_
      rintro e w3 ⟨hp,rfl⟩
      cases hr3:Cod.rdT s b2 with
      | none =>
        rw[hr3] at hp
        have hp' : e=.returned (.tuple #[.string ⟨#[]⟩,.int .i64 0,.bool false]):=hp
        subst hp'
        rw[hr3] at htr
        have hf2:R (.returned (.tuple #[.slice none 0 0,.int .i64 0,.bool false])) (w3.setCell ⟨w1.heap.size,k,none⟩ (.string ⟨#[]⟩)):=by
         rw[HR.out,HF.out,htr]
         exact⟨rfl,HBL.out.setCell (p:=⟨w1.heap.size,k,none⟩) (Nat.le_refl _) _⟩
        have HF2:=zh hf2;clear hf2 hr3 hp htr
        go_wp2_with fail
        go_ret3
        exact HF2.out
      | some y =>
        obtain⟨x,b3⟩:=y
        rw[hr3] at hp
        have hp' : e=.returned (.tuple #[.string x,.int .i64 b3,.bool true]):=hp
        subst hp'
        simp only[hr3] at htr
        have hb3:=(Cod.Mc hr3).2.1
        have hst:=(HOW.out.stored k (.string x)).1
        rw[<- HXL.out,bE n xs x (by rw[HXL.out];exact hkn),HXL.out] at hst
        have rA:TsI s w1 n b (.int .i64 b3) (.int .i64 ((k:Int)+1)) (w3.setCell ⟨w1.heap.size,k,none⟩ (.string x)):=by
         refine⟨k+1,b3,xs++[x],by omega,by rw[List.length_append,HXL.out];rfl,by go_num,rfl,hb3,hst,HBL.out.setCell (p:=⟨w1.heap.size,k,none⟩) (Nat.le_refl _) _,?_⟩
         rw[htr,show n-(k+1)=M by have:=HM.out;omega]
         cases Cod.Kw s M b3 with
         | none=>rfl
         | some z=>obtain⟨l,c⟩:=z;simp
        have zaG:=zh rA;clear rA hst hr3 hp htr
        go_wp2_with fail
        exact⟨zaG.out,by simp[intOf];omega⟩
     ·have dk:decide ((k:Int)<n)=false:=by simp;omega
      have hkn2:k=n:=by omega
      have htr:=HTR.out
      rw[hkn2,Nat.sub_self] at htr
      have hxn:xs.length=n:=by rw[HXL.out];exact hkn2
      have hf2:R (.returned (.tuple #[.slice (some ⟨w1.heap.size,0,none⟩) n n,.int .i64 b2,.bool true])) wr:=by
       rw[HR.out,HF.out,htr]
       simp only[Cod.Kw,List.append_nil]
       have how:=HOW.out
       rw[bF n xs hxn,<- hxn] at how
       refine⟨_,rfl,?_,fun i hi=>by simp[Value.ownBlock] at hi;omega,⟨_,n,by rw[hxn],by omega⟩,HBL.out⟩
       rw[<- hxn]
       exact Al.own how
      have HF2:=zh hf2;clear hf2 htr hkn2 hxn
      go_wp2_with fail
      go_ret3
      exact HF2.out
   ·have hz:((s.size:Int)-b<n):=by omega
    have hf:R (.returned (.tuple #[.slice none 0 0,.int .i64 0,.bool false])) w1:=by
     rw[HR.out]
     unfold Cod.Br
     simp only[hr,if_neg hlt]
     exact⟨rfl,Below.refl _ _⟩
    have HF:=zh hf;clear hf hr
    go_wp2_with fail
    go_ret3
    exact HF.out
def Gj (rb:Nat)(s:ByteArray)(a:Nat)(r:Option (List ByteArray × Nat))(w:World)(e:Ending)(w' : World):Prop:=match r with
 | some (l,b)=>∃ c d,e=.returned (.slice (some c) l.length d)/\(Al w' (.slice (some c) l.length d) l/\l.length<=d)/\(∀ k,(Value.slice (some c) l.length d).ownBlock=some k->w.heap.size<=k)/\Av rb w w' (rdV s b 0)
 | none=>e=.returned (.slice none 0 0)/\Av rb w w' (rdV s a 9)
theorem Ue (rb b1:Nat)(s:ByteArray)(a:Nat)(w:World)(h1:w.cell? ⟨b1,0,none⟩=some (.pointer (some ⟨rb,0,none⟩)))(hb1:b1<w.heap.size)(h:At w rb 157 (rdV s a 0))(ha:a<=s.size)(hs:s.size<=1000000):
 Calls Tryz.prog 139 #[.pointer (some ⟨rb,0,none⟩),.func (.func 140) #[] #[.pointer (some ⟨b1,0,none⟩)]] w (Gj rb s a (Cod.Br s a) w):=by
 obtain⟨R,hR⟩:∃ R,R=Gj rb s a (Cod.Br s a) w:=⟨_,rfl⟩
 rw[<- hR]
 have k1:=h.cell 1;have k2:=h.cell 2
 simp only[rdV,List.getElem?_toArray,List.getElem?_cons_zero,List.getElem?_cons_succ] at k1 k2
 have hlt:=h.lt
 have HR:=zh hR;have H:=zh h;have H1:=zh h1;clear hR h h1
 go_enter Tryz.func139,Tryz.ntmps139
 go_wp2_with fail
 refine(WH rb b1 s a a 0 _ H1.out hb1 H.out ha hs).mono ?_
 intro e w1 hp
 cases hr:Cod.Br s a with
 | none =>
   rw[hr] at hp
   obtain⟨rfl,hb⟩:=hp
   have hat:=H.out.below hb hlt
   have z2:=hat.free 2;have y2:=hat.cell 2
   simp only[rdV,List.getElem?_toArray,List.getElem?_cons_zero,List.getElem?_cons_succ] at y2
   have hf:R (.returned (.slice none 0 0)) (w1.setCell ⟨rb,2,none⟩ (.int .i64 9)):=by
    rw[HR.out,hr]
    exact⟨rfl,Av.pre (Fr.of_below hb) (Av.set2 hat 9)⟩
   have HF:=zh hf;clear hf hr hat hb
   go_wp2_with fail
   exact HF.out
 | some y =>
   obtain⟨l,b⟩:=y
   rw[hr] at hp
   obtain⟨v,rfl,hv,hfr,⟨c,d,rfl,hcd⟩,hb⟩:=hp
   have hat:=H.out.below hb hlt
   have z1:=hat.free 1;have y1:=hat.cell 1
   simp only[rdV,List.getElem?_toArray,List.getElem?_cons_zero,List.getElem?_cons_succ] at y1
   have hf:R (.returned (.slice (some c) l.length d)) (w1.setCell ⟨rb,1,none⟩ (.int .i64 b)):=by
    rw[HR.out,hr]
    exact⟨c,d,rfl,⟨hv.keep (fun k hk _=>zo (by have:=hfr k hk;show k≠rb;omega)),hcd⟩,hfr,Av.pre (Fr.of_below hb) (Av.set1 hat b)⟩
   have HF:=zh hf;clear hf hr hat hb hv hfr
   go_wp2_with fail
   exact HF.out
theorem jf (fv:Value)(rb:Nat)(s:ByteArray)(a:Nat)(e:Int)(he:e≠0)(w:World)(h:At w rb 157 (rdV s a e)):
 Calls Tryz.prog 139 #[.pointer (some ⟨rb,0,none⟩),fv] w fun e w' => e=.returned (.slice none 0 0)/\w' = w:=by
 have k2:=h.cell 2
 simp only[rdV,List.getElem?_toArray,List.getElem?_cons_zero,List.getElem?_cons_succ] at k2
 have he2:(e != 0)=true:=by simpa using he
 clear h
 go_enter Tryz.func139,Tryz.ntmps139
 go_wp2_with fail
 go_ret
 exact⟨rfl,rfl⟩
theorem YT (rb:Nat)(s:ByteArray)(a:Nat)(w:World)(h:At w rb 157 (rdV s a 0))(ha:a<=s.size)(hs:s.size<=1000000):
 Calls Tryz.prog 84 #[.pointer (some ⟨rb,0,none⟩)] w (Gj rb s a (Cod.Br s a) w):=by
 obtain⟨R,hR⟩:∃ R,R=Gj rb s a (Cod.Br s a) w:=⟨_,rfl⟩
 rw[<- hR]
 have hlt:=h.lt
 have HR:=zh hR;have H:=zh h;clear hR h
 go_enter Tryz.func84,Tryz.ntmps84
 go_wp2_with fail
 have hfr:Fr (fun k=>k=rb) w (w.alloc (.cells #[.pointer (some ⟨rb,0,none⟩)] 101)):=(Fr.refl (fun k=>k=rb) w).alloc _
 refine(Ue rb w.heap.size s a _ ((At.new w _ _).cell 0) (by simp) (H.out.alloc _) ha hs).mono ?_
 intro e w1 hp
 have hv:∃ v,e=.returned v:=by
  unfold Gj at hp
  split at hp
  ·obtain⟨c,d,rfl,_⟩:=hp;exact⟨_,rfl⟩
  ·exact⟨_,hp.1⟩
 have hq:R e w1:=by
  rw[HR.out]
  unfold Gj at hp ⊢
  split at hp
  ·obtain⟨c,d,h1,h2,h3,h4⟩:=hp
   exact⟨c,d,h1,h2,fun k hk=>by have:=h3 k hk;simp at this;omega,Av.pre hfr h4⟩
  ·exact⟨hp.1,Av.pre hfr hp.2⟩
 obtain⟨v,rfl⟩:=hv
 have HP:=zh hq;clear hp hq hfr
 go_wp2_with fail
 exact HP.out
theorem YU (rb:Nat)(s:ByteArray)(a:Nat)(e:Int)(he:e≠0)(w:World)(h:At w rb 157 (rdV s a e)):
 Calls Tryz.prog 84 #[.pointer (some ⟨rb,0,none⟩)] w fun e w' => e=.returned (.slice none 0 0)/\Below w.heap.size w w':=by
 have H:=zh h;clear h
 go_enter Tryz.func84,Tryz.ntmps84
 go_wp2_with fail
 refine(jf _ rb s a e he _ (H.out.alloc _)).mono ?_
 rintro e w1 ⟨rfl,rfl⟩
 go_wp2_with fail
 go_ret
 exact⟨rfl,zb⟩
theorem Ou (s:ByteArray):s++⟨#[]⟩=s:=by
 apply Sha.BG
 rw[Sha.Bq]
 simp
theorem WJ (s:ByteArray):(⟨#[]⟩:ByteArray)++s=s:=by
 apply Sha.BG
 rw[Sha.Bq]
 simp
theorem mK (xs:List ByteArray)(k:Nat)(h:k<xs.length):Cod.cat ((xs.take (k+1)).map Cod.text)=Cod.cat ((xs.take k).map Cod.text)++Cod.text xs[k]:=by
 induction xs generalizing k with
 | nil=>cases h
 | cons x l ih =>
   match k with
   | 0 =>
     show Cod.text x++Cod.cat []=(⟨#[]⟩:ByteArray)++Cod.text x
     rw[WJ]
     exact Ou _
   | k + 1 =>
     have h2:k<l.length:=by simpa using h
     show Cod.text x++Cod.cat ((l.take (k+1)).map Cod.text)=(Cod.text x++Cod.cat ((l.take k).map Cod.text))++Cod.text l[k]
     rw[ih k h2,ByteArray.append_assoc]
theorem mM (xs:List ByteArray)(k:Nat):(Cod.cat ((xs.take k).map Cod.text)).size<=(Cod.cat (xs.map Cod.text)).size:=by
 induction xs generalizing k with
 | nil=>simp
 | cons x l ih =>
   match k with
   | 0=>exact Nat.zero_le _
   | k + 1 =>
     show(Cod.text x++Cod.cat ((l.take k).map Cod.text)).size<=(Cod.text x++Cod.cat (l.map Cod.text)).size
     rw[Sha.Ag,Sha.Ag]
     have:=ih k
     omega
theorem YV (b:Nat)(X s:ByteArray)(w:World)(h:BK w b X)(hl:X.size+s.size<=140737488355328):
 Calls Tryz.prog 172 #[.string s,.pointer (some ⟨b,0,none⟩)] w fun e w' => e=.returned (.tuple #[])/\BK w' b (X++s)/\Below b w w':=by
 have H:=zh h;clear h
 go_enter Tryz.func172,Tryz.ntmps172
 go_wp2_with fail
 refine(kY b X s _ H.out hl).mono ?_
 rintro e w1 ⟨rfl,h1,hb1⟩
 have H1:=zh h1;have HB1:=zh hb1;clear h1 hb1
 go_wp2_with fail
 go_end0
 exact⟨rfl,H1.out,HB1.out⟩
theorem jg (w0:World)(b:Nat)(X:ByteArray)(v:Value)(xs:List ByteArray)(w:World)(h:BK w b X)(hb:Below b w0 w)(hw0:b=w0.heap.size)(hv:Al w0 v xs)(hx:∀ x∈xs,x.size<=140737488350000)(hl:xs.length<=140737488350000)(ht:X.size+(Cod.cat (xs.map Cod.text)).size<=140737488355328):
 Calls Tryz.prog 171 #[v,.func (.func 77) #[] #[],.func (.func 172) #[] #[.pointer (some ⟨b,0,none⟩)]] w fun e w' => e=.returned (.tuple #[])/\BK w' b (X++Cod.cat (xs.map Cod.text))/\Below b w0 w':=by
 obtain⟨a,c,rfl,hc⟩:=hv
 have H:=zh h;have HB:=zh hb;have HX:=zh hx;have HC:=zh hc;have HW0:=zh hw0;clear h hb hx hc hw0
 go_enter Tryz.func171,Tryz.ntmps171
 go_wp2_with fail
 go_loopw [10] (fun i wr=>∃ k:Nat,k<=xs.length/\i=.int .i64 k/\BK wr b (X++Cod.cat ((xs.take k).map Cod.text))/\Below b w0 wr) (fun i _=>xs.length-(intOf i).toNat)
 case atStart=>exact⟨0,by omega,rfl,by rw[List.take_zero];show BK _ _ (X++⟨#[]⟩);rw[Ou];exact H.out,HB.out⟩
 case round=>
  obtain⟨k,hk,rfl,hbl,hbw⟩:=hrel
  have HBL:=zh hbl;have HBW:=zh hbw;clear hbl hbw
  by_cases hlt:k<xs.length
  ·have dk:decide ((k:Int)<xs.length)=true:=by simp;omega
   obtain⟨g,o,rfl,hc⟩:=HC.out.resolve_left (by omega)
   have ce:=hc k hlt
   have hgl:=block_lt ce
   have ce2:=(HBW.out.cell (p:=⟨g,o+k,none⟩) (by rw[HW0.out];exact hgl)).trans ce
   obtain⟨s,hs⟩:∃ s,s=xs.getD k ⟨#[]⟩:=⟨_,rfl⟩
   rw[<- hs] at ce2
   have hsx:s=xs[k]:=by rw[hs];simp[List.getD_eq_getElem?_getD,hlt]
   have hsz:s.size<=140737488350000:=HX.out s (by rw[hsx];exact List.getElem_mem hlt)
   obtain⟨Y,hY⟩:∃ Y,Y=X++Cod.cat ((xs.take k).map Cod.text):=⟨_,rfl⟩
   have hY2:Y++Cod.text s=X++Cod.cat ((xs.take (k+1)).map Cod.text):=by rw[mK xs k hlt,hY,hsx,ByteArray.append_assoc]
   have hYs:Y.size+(Cod.text s).size<=140737488355328:=by
    rw[<- Sha.Ag,hY2,Sha.Ag]
    have:=mM xs (k+1)
    omega
   have hbl:=HBL.out
   rw[<- hY] at hbl
   have HBY:=zh hbl;have HY2:=zh hY2;have HYS:=zh hYs;have HCC:=zh hc;clear hbl hY hY2 hYs hs hsx ce hc
   go_wp2_with fail
   refine(ED s _ hsz).mono ?_
   rintro e w2 ⟨rfl,hb2⟩
   have HB2:=zh hb2;have zaH:=zh (HBY.out.below hb2);clear hb2
   generalize Cod.text s=t at*
   go_wp2_with fail
   refine(YV b Y t _ zaH.out HYS.out).mono ?_
   rintro e w3 ⟨rfl,h3,hb3⟩
   have hfin:Below b w0 w3:=(HBW.out.trans (HB2.out.mono (Nat.le_of_lt HBY.out.lt))).trans hb3
   rw[HY2.out] at h3
   have HF:=zh hfin;have H3:=zh h3;clear hfin h3 hb3
   go_wp2_with fail
   exact⟨⟨k+1,by omega,by go_num,H3.out,HF.out⟩,by simp[intOf];omega⟩
  ·have dk:decide ((k:Int)<xs.length)=false:=by simp;omega
   have hbl:=HBL.out
   rw[List.take_of_length_le (by omega)] at hbl
   have HBY:=zh hbl;clear hbl
   go_wp2_with fail
   go_end0
   exact⟨rfl,HBY.out,HBW.out⟩
theorem Sn (v:Value)(xs:List ByteArray)(w:World)(hv:Al w v xs)(hx:∀ x∈xs,x.size<=140737488350000)(hl:xs.length<=140737488350000)(ht:(Cod.texts xs).size<=140737488355328):
 Calls Tryz.prog 128 #[v] w fun e w' => e=.returned (.string (Cod.texts xs))/\Below w.heap.size w w':=by
 obtain⟨a,c,rfl⟩:=hv.len
 have HV:=zh hv;have HX:=zh hx;have HT:=zh ht;clear hv hx ht
 have hts:Cod.texts xs=Cod.uns xs.length++Cod.cat (xs.map Cod.text):=rfl
 have HTS:=zh hts;clear hts
 generalize Cod.texts xs=T at*
 go_enter Tryz.func128,Tryz.ntmps128
 go_wp2_with fail
 refine(QS xs.length _ (by omega)).mono ?_
 rintro e w1 ⟨rfl,hb1⟩
 have hbl:BK w1 w.heap.size ⟨#[]⟩:=(BK.new w).below hb1
 have hbw:Below w.heap.size w w1:=zb.trans (hb1.mono (by simp))
 have hu:=Cod.Ce xs.length
 have HBL:=zh hbl;have HBW:=zh hbw;clear hbl hbw hb1
 obtain⟨u,hu2⟩:∃ u,u=Cod.uns xs.length:=⟨_,rfl⟩
 rw[<- hu2] at hu HTS ⊢
 clear hu2
 go_wp2_with fail
 refine(kY w.heap.size ⟨#[]⟩ u _ HBL.out (by show 0+u.size<=_;omega)).mono ?_
 rintro e w2 ⟨rfl,h2,hb2⟩
 rw[WJ] at h2
 have H2:=zh h2;have gL:=zh (HBW.out.trans hb2);clear h2 hb2
 go_wp2_with fail
 refine(jg w w.heap.size u (.slice a xs.length c) xs w2 H2.out gL.out rfl HV.out HX.out hl (by have:=HT.out;rw[HTS.out,Sha.Ag] at this;exact this)).mono ?_
 rintro e w3 ⟨rfl,h3,hb3⟩
 rw[<- HTS.out] at h3
 have H3:=zh h3;have HB3:=zh hb3;clear h3 hb3
 go_wp2_with fail
 refine(vL w.heap.size T _ H3.out).mono ?_
 rintro e w4 ⟨rfl,h4,hb4⟩
 have HB4:=zh (HB3.out.trans hb4);clear h4 hb4
 go_wp2_with fail
 go_ret
 exact⟨rfl,HB4.out⟩
theorem Ep (n:Nat)(w:World)(hn:n<9223372036854775808):
 Calls Tryz.prog 64 #[.int .i64 n] w fun e w' => e=.returned (.string (Cod.uns n))/\Below w.heap.size w w':=by
 go_enter Tryz.func64,Tryz.ntmps64
 go_wp2_with fail
 refine(Ux n _ hn).mono ?_
 rintro e w1 ⟨rfl,hb1⟩
 have HB:=zh hb1;clear hb1
 go_wp2_with fail
 go_ret
 exact⟨rfl,HB.out⟩
namespace Own
theorem Gy (l:List ByteArray)(x:ByteArray):Cod.cat (l++[x])=Cod.cat l++x:=by
 induction l with
 | nil=>show x++⟨#[]⟩=⟨#[]⟩++x;rw[Ou,WJ]
 | cons y l ih=>show y++Cod.cat (l++[x])=(y++Cod.cat l)++x;rw[ih,ByteArray.append_assoc]
theorem YW (ms:List Member)(k:Nat)(hk:k<ms.length):Cod.cat ((ms.take (k+1)).map AV)=Cod.cat ((ms.take k).map AV)++(Cod.text ms[k].name++Cod.text ms[k].pub):=by
 rw[List.take_succ_eq_append_getElem hk,List.map_append,List.map_cons,List.map_nil,Gy]
 rfl
theorem Cr (s:ByteArray):(Cod.text s).size<=10+s.size:=by
 have:=Cod.Ce s.size
 unfold Cod.text
 rw[Sha.Ag]
 omega
theorem bG (ms:List Member)(h:∀ m∈ms,m.name.size<=32/\m.pub.size=33):∀ k,(Cod.cat ((ms.take k).map AV)).size<=85*k
 | 0=>by rw[List.take_zero];exact Nat.le_refl _
 | k + 1 => by
   have ih:=bG ms h k
   by_cases hk:k<ms.length
   ·have h1:=h ms[k] (List.getElem_mem hk)
    have h2:=Cr ms[k].name
    have h3:=Cr ms[k].pub
    rw[YW ms k hk,Sha.Ag,Sha.Ag]
    omega
   ·rw[List.take_of_length_le (by omega)] at ih ⊢
    omega
end Own
theorem Pw (op:Own.Op)(mv av:Value)(w:World)(hm:Own.Af w mv op.members)(ha:∃ a c,av=.slice a op.Aa.length c)(hz:Own.KD op):
 Calls Tryz.prog 65 #[Own.opV op mv av] w fun e w' => e=.returned (.string (Own.CW op))/\Below w.heap.size w w':=by
 obtain⟨R,hR⟩:∃ R,R=Own.CW op:=⟨_,rfl⟩
 rw[<- hR]
 unfold Own.CW at hR
 unfold Own.opV
 obtain⟨aa,ac,rfl⟩:=ha
 obtain⟨kd,pre,ms,th,nm,pb,aps⟩:=op
 obtain⟨k0,k4,hpre,hal,hml,hms,t0,t8,hnm,hpb⟩:=hz
 dsimp only at*
 obtain⟨kn,rfl⟩:∃ k:Nat,kd=k:=⟨kd.toNat,by omega⟩
 obtain⟨tn,rfl⟩:∃ t:Nat,th=t:=⟨th.toNat,by omega⟩
 simp only[Int.toNat_natCast] at hR
 obtain⟨ma,mc,rfl⟩:=hm.len
 have hcz:=Own.bG ms hms
 have F1:=zh (show Au w _ [(29,#[.int .i64 (kn:Int),.string pre,.slice ma ms.length mc,.int .i64 (tn:Int),.string nm,.string pb,.slice aa aps.length ac])] from((CY.nil w).push 29 #[.int .i64 (kn:Int),.string pre,.slice ma ms.length mc,.int .i64 (tn:Int),.string nm,.string pb,.slice aa aps.length ac]).boxes)
 have HM:=zh hm;have HR:=zh hR;have HMS:=zh hms;have HCZ:=zh hcz
 clear hm hR hms hcz
 go_enter Tryz.func65,Tryz.ntmps65
 go_upto_region 2 with fail
 obtain⟨b,hb⟩:∃ b,b=w.heap.size+1:=⟨_,rfl⟩
 rw[<- hb]
 have yM:BK ((w.alloc (.cells #[.int .i64 (kn:Int),.string pre,.slice ma ms.length mc,.int .i64 (tn:Int),.string nm,.string pb,.slice aa aps.length ac] 29)).alloc (.cells #[.pointer none,.slice none 0 0] 142)) b ⟨#[]⟩:=by
  have h:=BK.new (w.alloc (.cells #[.int .i64 (kn:Int),.string pre,.slice ma ms.length mc,.int .i64 (tn:Int),.string nm,.string pb,.slice aa aps.length ac] 29))
  have e:(w.alloc (.cells #[.int .i64 (kn:Int),.string pre,.slice ma ms.length mc,.int .i64 (tn:Int),.string nm,.string pb,.slice aa aps.length ac] 29)).heap.size=b:=by rw[hb];simp
  rwa [e] at h
 have F2:=zh (F1.out.step ((Below.refl _ _).alloc (Nat.le_refl _) (.cells #[.pointer none,.slice none 0 0] 142)))
 have HBL:=zh yM;clear yM F1
 generalize (w.alloc (.cells #[.int .i64 (kn:Int),.string pre,.slice ma ms.length mc,.int .i64 (tn:Int),.string nm,.string pb,.slice aa aps.length ac] 29)).alloc (.cells #[.pointer none,.slice none 0 0] 142)=w1 at*
 have HBE:=zh hb;clear hb
 obtain⟨x00,x01,x02,x03,x04,x05,x06⟩:=F2.out.JI rfl
 have hlt:w.heap.size<w1.heap.size:=F2.out.lt (i:=0) (by show 0<1;omega)
 have X1:=zh (zi x01)
 have X2:=zh (zi x02)
 go_wp2_with fail
 refine Lex.zn (fun i=>i=w.heap.size) [4,8] 11 [3,3,5] ?_
 simp only[Lex.Bp,zd]
 go_wp2_with fail
 refine(Ep kn _ (by omega)).mono ?_
 rintro e w2 ⟨rfl,hb2⟩
 have B12:=zh (show Below w1.heap.size w1 w2 from(Below.refl w1.heap.size w1).drew.trans hb2)
 have F3:=zh (F2.out.step B12.out);clear hb2
 (try clear x00 x01 x02 x03 x04 x05 x06)
 obtain⟨x00,x01,x02,x03,x04,x05,x06⟩:=F3.out.JI rfl
 obtain⟨U,hU⟩:∃ U,U=Cod.uns kn:=⟨_,rfl⟩
 rw[<- hU]
 have zU:U.size<=10:=by rw[hU];exact Cod.Ce kn
 have HU:=zh hU;clear hU
 go_wp2_with fail
 refine Lex.Mid.intro (fun i hi hl=>by subst hi;exact B12.out.block _ hl) ?_
 go_wp2_with fail
 refine(ED pre _ (by omega)).mono ?_
 rintro e w3 ⟨rfl,hb3⟩
 have B13:=zh (B12.out.trans (hb3.mono B12.out.size))
 have F4:=zh (F2.out.step B13.out);clear hb3
 (try clear x00 x01 x02 x03 x04 x05 x06)
 obtain⟨x00,x01,x02,x03,x04,x05,x06⟩:=F4.out.JI rfl
 obtain⟨T,hT⟩:∃ T,T=Cod.text pre:=⟨_,rfl⟩
 rw[<- hT]
 have zT:T.size<=74:=by rw[hT];have:=Own.Cr pre;omega
 have HT:=zh hT;clear hT
 go_wp2_with fail
 refine Lex.Mid.intro (fun i hi hl=>by subst hi;exact B13.out.block _ hl) ?_
 go_wp2_with fail
 refine(Ep ms.length _ (by omega)).mono ?_
 rintro e w4 ⟨rfl,hb4⟩
 have B14:=zh (B13.out.trans (hb4.mono B13.out.size))
 have F5:=zh (F2.out.step B14.out);clear hb4
 (try clear x00 x01 x02 x03 x04 x05 x06)
 obtain⟨x00,x01,x02,x03,x04,x05,x06⟩:=F5.out.JI rfl
 obtain⟨V,hV⟩:∃ V,V=Cod.uns ms.length:=⟨_,rfl⟩
 rw[<- hV]
 have zV:V.size<=10:=by rw[hV];exact Cod.Ce _
 have HV:=zh hV;clear hV
 have pE:=zh (HBL.out.below B14.out)
 go_wp2_with fail
 refine Lex.Mid.intro (fun i hi hl=>by subst hi;exact B14.out.block _ hl) ?_
 obtain⟨X,hX⟩:∃ X,X=U++T++V:=⟨_,rfl⟩
 have zX:X.size<=94:=by rw[hX,Sha.Ag,Sha.Ag];omega
 have hwr:∀ W,BK W b ⟨#[]⟩->Calls Tryz.prog 118 #[.pointer (some ⟨b,0,none⟩),.string (U++T++V)] W fun e w' => e=.returned (.tuple #[.int .i64 X.size,.nilIface])/\BK w' b X/\Below b W w':=fun W hW=>by
  have:=kY b ⟨#[]⟩ X W hW (by show 0+X.size<=_;omega)
  rw[WJ] at this
  rw[<- hX]
  exact this
 have HWR:=zh hwr;have HX:=zh hX
 clear hwr hX
 go_wp2_with fail
 refine(HWR.out _ pE.out).mono ?_
 rintro e w5 ⟨rfl,yN,hb5⟩
 have F6:=zh (F5.out.over (show Below (w.heap.size+1) _ w5 by rw[<- HBE.out];exact hb5))
 have yO:=zh yN
 clear yN hb5 pE HWR HBL B12 B13 B14 F2 F3 F4 F5
 (try clear x00 x01 x02 x03 x04 x05 x06)
 obtain⟨x00,x01,x02,x03,x04,x05,x06⟩:=F6.out.JI rfl
 go_wp2_with fail
 refine Lex.zk ⟨⟨rfl,X1.out⟩,⟨rfl,X2.out⟩,trivial⟩ ?_
 clear X1 X2 hlt
 go_wp2_with fail
 (try clear x00 x01 x02 x03 x04 x05 x06)
 go_loopw [22] (fun i wr=>∃ k:Nat,k<=ms.length/\i=.int .i64 k/\Au w wr [(29,#[.int .i64 (kn:Int),.string pre,.slice ma ms.length mc,.int .i64 (tn:Int),.string nm,.string pb,.slice aa aps.length ac])]/\BK wr b (X++Cod.cat ((ms.take k).map Own.AV))) (fun i _=>ms.length-(intOf i).toNat)
 case atStart=>exact⟨0,by omega,rfl,F6.out,by rw[List.take_zero];show BK _ _ (X++⟨#[]⟩);rw[Ou];exact yO.out⟩
 case round=>
  obtain⟨k,hk,rfl,hbx,hbl⟩:=hrel
  obtain⟨Y,hY⟩:∃ Y,Y=X++Cod.cat ((ms.take k).map Own.AV):=⟨_,rfl⟩
  rw[<- hY] at hbl
  have zY:Y.size<=94+85*k:=by rw[hY,Sha.Ag];have:=HCZ.out k;omega
  have HBX:=zh hbx;have HBL:=zh hbl;have HY:=zh hY
  clear hbx hbl hY F6 yO
  by_cases hlt:k<ms.length
  ·have dk:decide ((k:Int)<(ms.length:Int))=true:=zt
   obtain⟨q,o,ha,hql,e0,e1⟩:=Own.Af.cells (HM.out.below HBX.out.under) hlt
   subst ha
   obtain⟨z1,z2⟩:=HMS.out ms[k] (List.getElem_mem hlt)
   have hnext:=Own.YW ms k hlt
   obtain⟨x,hx⟩:∃ x,x=ms[k]:=⟨_,rfl⟩
   rw[<- hx] at e0 e1 z1 z2 hnext
   obtain⟨mn,mp⟩:=x
   dsimp only at e0 e1 z1 z2 hnext
   have HNX:=zh hnext
   clear hx hnext
   have K1:=zh (show Au wr _ [(76,#[.string mn,.string mp])] from((CY.nil wr).push 76 #[.string mn,.string mp]).boxes)
   have zaI:=zh (HBX.out.step K1.out.under);have zaJ:=zh (HBL.out.below K1.out.under)
   go_upto_region 6 with fail
   generalize (wr.alloc (.cells #[.string mn,.string mp] 76))=w6 at*
   obtain⟨y00,y01⟩:=K1.out.wH rfl
   clear e0 e1
   have hkl:wr.heap.size<w6.heap.size:=K1.out.lt (i:=0) (by show 0<1;omega)
   have Y1:=zh (zi y01)
   go_wp2_with fail
   refine Lex.zn (fun i=>i=wr.heap.size) [4] 5 [3] ?_
   simp only[Lex.Bp,zd]
   go_wp2_with fail
   refine(ED mn _ (by omega)).mono ?_
   rintro e w7 ⟨rfl,hb7⟩
   have B67:=zh (show Below w6.heap.size w6 w7 from(Below.refl w6.heap.size w6).drew.trans hb7)
   have K2:=zh (K1.out.step B67.out);have zaK:=zh (zaI.out.step B67.out);have zaL:=zh (zaJ.out.below B67.out)
   clear hb7
   (try clear y00 y01)
   obtain⟨y00,y01⟩:=K2.out.wH rfl
   obtain⟨T1,hT1⟩:∃ T,T=Cod.text mn:=⟨_,rfl⟩
   rw[<- hT1] at HNX ⊢
   have zT1:T1.size<=42:=by rw[hT1];have:=Own.Cr mn;omega
   clear hT1
   go_wp2_with fail
   refine Lex.Mid.intro (fun i hi hl=>by subst hi;exact B67.out.block _ hl) ?_
   go_wp2_with fail
   refine(ED mp _ (by omega)).mono ?_
   rintro e w8 ⟨rfl,hb8⟩
   have zaM:=zh (zaK.out.step hb8);have zaN:=zh (zaL.out.below hb8)
   clear hb8
   (try clear y00 y01)
   obtain⟨T2,hT2⟩:∃ T,T=Cod.text mp:=⟨_,rfl⟩
   rw[<- hT2] at HNX ⊢
   have zT2:T2.size<=43:=by rw[hT2];have:=Own.Cr mp;omega
   clear hT2
   go_wp2_with fail
   refine(kY b Y (T1++T2) _ zaN.out (by rw[Sha.Ag];omega)).mono ?_
   rintro e w9 ⟨rfl,mO,hb9⟩
   have zaO:=zh (zaM.out.over (show Below (w.heap.size+1) _ w9 by rw[<- HBE.out];exact hb9))
   have pE:=zh mO
   clear mO hb9
   go_wp2_with fail
   refine Lex.zk ⟨⟨rfl,Y1.out⟩,trivial⟩ ?_
   go_wp2_with fail
   refine⟨⟨k+1,by omega,by go_num,zaO.out,?_⟩,by simp[intOf];omega⟩
   rw[HNX.out,<- ByteArray.append_assoc,<- HY.out]
   exact pE.out
  ·have dk:decide ((k:Int)<(ms.length:Int))=false:=zf
   have HYY:=zh (show Y=X++Cod.cat (ms.map Own.AV) by rw[HY.out,List.take_of_length_le (by omega)])
   clear HY
   obtain⟨x00,x01,x02,x03,x04,x05,x06⟩:=HBX.out.JI rfl
   have hlw:w.heap.size<wr.heap.size:=HBX.out.lt (i:=0) (by show 0<1;omega)
   have X1:=zh (zi x04)
   have X2:=zh (zi x05)
   go_wp2_with fail
   refine Lex.zn (fun i=>i=w.heap.size) [4,8] 10 [3,3,4] ?_
   simp only[Lex.Bp,zd]
   go_wp2_with fail
   refine(Ep tn _ (by omega)).mono ?_
   rintro e w6 ⟨rfl,hb6⟩
   have B6:=zh (show Below wr.heap.size wr w6 from(Below.refl wr.heap.size wr).drew.trans hb6)
   have F6:=zh (HBX.out.step B6.out);clear hb6
   (try clear x00 x01 x02 x03 x04 x05 x06)
   obtain⟨x00,x01,x02,x03,x04,x05,x06⟩:=F6.out.JI rfl
   obtain⟨U2,hU2⟩:∃ U,U=Cod.uns tn:=⟨_,rfl⟩
   rw[<- hU2]
   have zU2:U2.size<=10:=by rw[hU2];exact Cod.Ce tn
   have HU2:=zh hU2;clear hU2
   go_wp2_with fail
   refine Lex.Mid.intro (fun i hi hl=>by subst hi;exact B6.out.block _ hl) ?_
   go_wp2_with fail
   refine(ED nm _ (by omega)).mono ?_
   rintro e w7 ⟨rfl,hb7⟩
   have B7:=zh (B6.out.trans (hb7.mono B6.out.size))
   have F7:=zh (HBX.out.step B7.out);clear hb7
   (try clear x00 x01 x02 x03 x04 x05 x06)
   obtain⟨x00,x01,x02,x03,x04,x05,x06⟩:=F7.out.JI rfl
   obtain⟨T1,hT1⟩:∃ T,T=Cod.text nm:=⟨_,rfl⟩
   rw[<- hT1]
   have zT1:T1.size<=42:=by rw[hT1];have:=Own.Cr nm;omega
   have HT1:=zh hT1;clear hT1
   go_wp2_with fail
   refine Lex.Mid.intro (fun i hi hl=>by subst hi;exact B7.out.block _ hl) ?_
   go_wp2_with fail
   refine(ED pb _ (by omega)).mono ?_
   rintro e w8 ⟨rfl,hb8⟩
   have B8:=zh (B7.out.trans (hb8.mono B7.out.size))
   have F8:=zh (HBX.out.step B8.out);clear hb8
   (try clear x00 x01 x02 x03 x04 x05 x06)
   obtain⟨T2,hT2⟩:∃ T,T=Cod.text pb:=⟨_,rfl⟩
   rw[<- hT2]
   have zT2:T2.size<=43:=by rw[hT2];have:=Own.Cr pb;omega
   have HT2:=zh hT2;clear hT2
   have zaP:=zh (HBL.out.below B8.out)
   go_wp2_with fail
   refine Lex.Mid.intro (fun i hi hl=>by subst hi;exact B8.out.block _ hl) ?_
   go_wp2_with fail
   refine(kY b Y (U2++T1++T2) _ zaP.out (by rw[Sha.Ag,Sha.Ag];omega)).mono ?_
   rintro e w9 ⟨rfl,mO,hb9⟩
   have F9:=zh (F8.out.over (show Below (w.heap.size+1) _ w9 by rw[<- HBE.out];exact hb9))
   have yP:=zh mO
   clear mO hb9
   go_wp2_with fail
   refine Lex.zk ⟨⟨rfl,X1.out⟩,⟨rfl,X2.out⟩,trivial⟩ ?_
   obtain⟨Z,hZ⟩:∃ Z,Z=Y++(U2++T1++T2):=⟨_,rfl⟩
   have HZ:=zh hZ
   rw[<- hZ] at yP
   clear hZ
   go_wp2_with fail
   refine(vL b Z _ yP.out).mono ?_
   rintro e w10 ⟨rfl,_,IY⟩
   have F10:=zh (F9.out.over (show Below (w.heap.size+1) _ w10 by rw[<- HBE.out];exact IY))
   clear IY
   go_wp2_with fail
   go_ret
   refine⟨?_,F10.out.under⟩
   rw[HZ.out,HYY.out,HX.out,HR.out,HU.out,HT.out,HV.out,HU2.out,HT1.out,HT2.out]
   simp only[ByteArray.append_assoc]
   rfl
namespace Own
theorem Gg {op:Op}(h:KD op):(CW op).size<=2000:=by
 obtain⟨k0,k4,hpre,hal,hml,hms,t0,t8,hnm,hpb⟩:=h
 have h1:=Cod.Ce op.kind.toNat
 have h2:=Cr op.pre
 have h3:=Cod.Ce op.members.length
 have h4:=bG op.members hms op.members.length
 rw[List.take_length] at h4
 have h5:=Cod.Ce op.threshold.toNat
 have h6:=Cr op.name
 have h7:=Cr op.pub
 unfold CW
 simp only[Sha.Ag]
 omega
end Own
theorem KY (o:Own.Ao)(op:Own.Op)(sv kv mv av:Value)(w:World)(hM:Il w)(hs:∃ a n c,sv=.slice a n c)(hk:∃ a n c,kv=.slice a n c)(hm:Own.Af w mv op.members)(ha:∃ a c,av=.slice a op.Aa.length c)(hl:op.members.length<=140737488355328):
 Calls Tryz.prog 16 #[.agg #[.int .i64 o.count,sv,kv],Own.opV op mv av] w fun e w' => e=.returned (.tuple #[.string (Own.AZ o op).1,.int .i64 (Own.AZ o op).2])/\Below w.heap.size w w':=by
 obtain⟨R,hR⟩:∃ R,R=Own.AZ o op:=⟨_,rfl⟩
 rw[<- hR]
 unfold Own.AZ at hR
 obtain⟨cnt,hcnt⟩:∃ c,c=o.count:=⟨_,rfl⟩
 rw[<- hcnt] at hR ⊢
 obtain⟨sa,sn,sc,rfl⟩:=hs
 obtain⟨ka,kn,kc,rfl⟩:=hk
 obtain⟨ma,mc,rfl⟩:=hm.len
 obtain⟨aa,ac,rfl⟩:=ha
 have HR:=zh hR
 clear hR hcnt
 have F1:=zh (show Au w _ [(25,#[.int .i64 cnt,.slice sa sn sc,.slice ka kn kc]),(29,#[.int .i64 op.kind,.string op.pre,.slice ma op.members.length mc,.int .i64 op.threshold,.string op.name,.string op.pub,.slice aa op.Aa.length ac])] from(((CY.nil w).push 25 #[.int .i64 cnt,.slice sa sn sc,.slice ka kn kc]).push 29 #[.int .i64 op.kind,.string op.pre,.slice ma op.members.length mc,.int .i64 op.threshold,.string op.name,.string op.pub,.slice aa op.Aa.length ac]).boxes)
 have hcf:=fun W (hW:Below w.heap.size w W)=>Ja op (.slice ma op.members.length mc) (.slice aa op.Aa.length ac) W (hM.below hW) (hm.below hW) ⟨_,_,rfl⟩ hl
 have hcb:=fun(hz:Own.KD op) W (hW:Below w.heap.size w W)=>Pw op (.slice ma op.members.length mc) (.slice aa op.Aa.length ac) W (hm.below hW) ⟨_,_,rfl⟩ hz
 unfold Own.opV at hcf hcb
 have HCF:=zh hcf;have HCB:=zh hcb
 unfold Own.opV
 clear hM hm hcf hcb
 have x00:((w.alloc (.cells #[.int .i64 cnt,.slice sa sn sc,.slice ka kn kc] 25)).alloc (.cells #[.int .i64 op.kind,.string op.pre,.slice ma op.members.length mc,.int .i64 op.threshold,.string op.name,.string op.pub,.slice aa op.Aa.length ac] 29)).cell? ⟨w.heap.size,0,none⟩=some (.int .i64 cnt):=F1.out.cell 0 0 rfl rfl
 have x10:((w.alloc (.cells #[.int .i64 cnt,.slice sa sn sc,.slice ka kn kc] 25)).alloc (.cells #[.int .i64 op.kind,.string op.pre,.slice ma op.members.length mc,.int .i64 op.threshold,.string op.name,.string op.pub,.slice aa op.Aa.length ac] 29)).cell? ⟨w.heap.size+1,0,none⟩=some (.int .i64 op.kind):=F1.out.cell 1 0 rfl rfl
 have x11:((w.alloc (.cells #[.int .i64 cnt,.slice sa sn sc,.slice ka kn kc] 25)).alloc (.cells #[.int .i64 op.kind,.string op.pre,.slice ma op.members.length mc,.int .i64 op.threshold,.string op.name,.string op.pub,.slice aa op.Aa.length ac] 29)).cell? ⟨w.heap.size+1,1,none⟩=some (.string op.pre):=F1.out.cell 1 1 rfl rfl
 have x12:((w.alloc (.cells #[.int .i64 cnt,.slice sa sn sc,.slice ka kn kc] 25)).alloc (.cells #[.int .i64 op.kind,.string op.pre,.slice ma op.members.length mc,.int .i64 op.threshold,.string op.name,.string op.pub,.slice aa op.Aa.length ac] 29)).cell? ⟨w.heap.size+1,2,none⟩=some (.slice ma op.members.length mc):=F1.out.cell 1 2 rfl rfl
 have x13:((w.alloc (.cells #[.int .i64 cnt,.slice sa sn sc,.slice ka kn kc] 25)).alloc (.cells #[.int .i64 op.kind,.string op.pre,.slice ma op.members.length mc,.int .i64 op.threshold,.string op.name,.string op.pub,.slice aa op.Aa.length ac] 29)).cell? ⟨w.heap.size+1,3,none⟩=some (.int .i64 op.threshold):=F1.out.cell 1 3 rfl rfl
 have x14:((w.alloc (.cells #[.int .i64 cnt,.slice sa sn sc,.slice ka kn kc] 25)).alloc (.cells #[.int .i64 op.kind,.string op.pre,.slice ma op.members.length mc,.int .i64 op.threshold,.string op.name,.string op.pub,.slice aa op.Aa.length ac] 29)).cell? ⟨w.heap.size+1,4,none⟩=some (.string op.name):=F1.out.cell 1 4 rfl rfl
 have x15:((w.alloc (.cells #[.int .i64 cnt,.slice sa sn sc,.slice ka kn kc] 25)).alloc (.cells #[.int .i64 op.kind,.string op.pre,.slice ma op.members.length mc,.int .i64 op.threshold,.string op.name,.string op.pub,.slice aa op.Aa.length ac] 29)).cell? ⟨w.heap.size+1,5,none⟩=some (.string op.pub):=F1.out.cell 1 5 rfl rfl
 have x16:((w.alloc (.cells #[.int .i64 cnt,.slice sa sn sc,.slice ka kn kc] 25)).alloc (.cells #[.int .i64 op.kind,.string op.pre,.slice ma op.members.length mc,.int .i64 op.threshold,.string op.name,.string op.pub,.slice aa op.Aa.length ac] 29)).cell? ⟨w.heap.size+1,6,none⟩=some (.slice aa op.Aa.length ac):=F1.out.cell 1 6 rfl rfl
 go_enter Tryz.func16,Tryz.ntmps16
 by_cases h0:cnt<0
 ·have d0:decide (cnt<0)=true:=decide_eq_true h0
  have HE:=zh (show R=(⟨#[]⟩,1) by rw[HR.out,decide_eq_false (show ¬ 0<=cnt by omega)];rfl)
  go_wp2_with fail
  go_ret2
  exact⟨by rw[HE.out];rfl,F1.out.under⟩
 have d0:decide (cnt<0)=false:=decide_eq_false h0
 by_cases h4:1099511627776<cnt
 ·have d4:decide ((1099511627776:Int)<cnt)=true:=decide_eq_true h4
  have HE:=zh (show R=(⟨#[]⟩,1) by rw[HR.out,decide_eq_true (show 0<=cnt by omega),decide_eq_false (show ¬ cnt<=Own.late by unfold Own.late;omega)];rfl)
  go_wp2_with fail
  go_ret2
  exact⟨by rw[HE.out];rfl,F1.out.under⟩
 have d4:decide ((1099511627776:Int)<cnt)=false:=decide_eq_false h4
 go_upto_region 1 with fail
 generalize ((w.alloc (.cells #[.int .i64 cnt,.slice sa sn sc,.slice ka kn kc] 25)).alloc (.cells #[.int .i64 op.kind,.string op.pre,.slice ma op.members.length mc,.int .i64 op.threshold,.string op.name,.string op.pub,.slice aa op.Aa.length ac] 29))=w1 at*
 go_wp2_with fail
 refine(HCF.out w1 F1.out.under).mono ?_
 rintro e w2 ⟨rfl,hb2⟩
 have F2:=zh (F1.out.step hb2);clear hb2
 (try clear x00);(try clear x10);(try clear x11);(try clear x12);(try clear x13);(try clear x14);(try clear x15);(try clear x16)
 have x00:w2.cell? ⟨w.heap.size,0,none⟩=some (.int .i64 cnt):=F2.out.cell 0 0 rfl rfl
 obtain⟨x10,x11,x12,x13,x14,x15,x16⟩:=F2.out.KE rfl
 cases hok:Own.Eh op with
 | false =>
   have HE:=zh (show R=(⟨#[]⟩,1) by rw[HR.out,hok,Bool.and_false];rfl)
   clear hok
   go_wp2_with fail
   go_ret2
   exact⟨by rw[HE.out];rfl,F2.out.under⟩
 | true=>
 have hz:=Own.KD.of hok
 have hbz:=Own.Gg hz
 obtain⟨n,rfl⟩:∃ n:Nat,cnt=n:=⟨cnt.toNat,by omega⟩
 have HE0:=zh (show R=(Sig.b1 12++(Cod.uns n++Own.CW op),0) by
  rw[HR.out,hok,decide_eq_true (show(0:Int)<=(n:Int) by omega),decide_eq_true (show(n:Int)<=Own.late by unfold Own.late;omega)]
  rfl)
 have pF:=zh (HCB.out hz)
 clear hok HR HCB hz
 have hlt:w.heap.size+1<w2.heap.size:=F2.out.lt (i:=1) (by show 1<2;omega)
 have X1:=zh (zi x10)
 go_upto_region 3 with fail
 refine Lex.zn (fun i=>i=w.heap.size+1) [4] 6 [3,3] ?_
 simp only[Lex.Bp,zd]
 go_wp2_with fail
 refine(Ep n _ (by omega)).mono ?_
 rintro e w3 ⟨rfl,hb3⟩
 have B3:=zh (show Below w2.heap.size w2 w3 from(Below.refl w2.heap.size w2).drew.trans hb3)
 have F3:=zh (F2.out.step B3.out);clear hb3
 (try clear x00);(try clear x10);(try clear x11);(try clear x12);(try clear x13);(try clear x14);(try clear x15);(try clear x16)
 obtain⟨x10,x11,x12,x13,x14,x15,x16⟩:=F3.out.KE rfl
 obtain⟨U,hU⟩:∃ U,U=Cod.uns n:=⟨_,rfl⟩
 rw[<- hU] at HE0 ⊢
 have zU:U.size<=10:=by rw[hU];exact Cod.Ce n
 clear hU
 obtain⟨T,hT⟩:∃ T:ByteArray,T=⟨#[12]⟩:=⟨_,rfl⟩
 have zT:T.size=1:=by rw[hT];rfl
 have HT:=zh hT;clear hT
 go_wp2_with fail
 refine Lex.Mid.intro (fun i hi hl=>by subst hi;exact B3.out.block _ hl) ?_
 go_wp2_with fail
 refine(pF.out w3 F3.out.under).mono ?_
 rintro e w4 ⟨rfl,hb4⟩
 have B4:=zh (B3.out.trans (hb4.mono B3.out.size))
 have F4:=zh (F2.out.step B4.out);clear hb4
 (try clear x00);(try clear x10);(try clear x11);(try clear x12);(try clear x13);(try clear x14);(try clear x15);(try clear x16)
 obtain⟨V,hV⟩:∃ V,V=Own.CW op:=⟨_,rfl⟩
 rw[<- hV] at HE0 hbz ⊢
 clear hV
 go_wp2_with fail
 refine Lex.Mid.intro (fun i hi hl=>by subst hi;exact B4.out.block _ hl) ?_
 go_wp2_with fail
 refine Lex.zk ⟨⟨rfl,X1.out⟩,trivial⟩ ?_
 go_wp2_with fail
 go_ret2
 refine⟨?_,F4.out.under⟩
 rw[HE0.out]
 unfold Sig.b1
 rw[ByteArray.append_assoc]
 rfl
namespace Own
theorem KZ:∀ (A:List Space) (ua:List Value) (B:List Space) (ub:List Value),ua.length=A.length->Az (A++B) (ua++ub)=Az A ua++Az B ub:=fun A ua B ub h=>by
 unfold Az
 rw[List.zipWith_append h.symm,List.flatten_append]
theorem Er:∀ (S:List Space) (us:List Value),us.length=S.length->∀ i,(Az S us).take (i*3)=Az (S.take i) (us.take i)/\(Az S us).drop (i*3)=Az (S.drop i) (us.drop i)
 | [],[],_,i=>by simp[Az]
 | [],_::_,h,_=>by cases h
 | _::_,[],h,_=>by cases h
 | s :: S,u :: us,h,i => by
   cases i with
   | zero=>exact⟨by simp[Az],by simp⟩
   | succ i =>
     obtain⟨h1,h2⟩:=Er S us (by simpa using h) i
     have hl:(encS s u).length=3:=rfl
     have e:Az (s::S) (u::us)=encS s u++Az S us:=rfl
     rw[e,List.take_append,List.drop_append,hl,show(i+1)*3-3=i*3 by omega,h1,h2,List.take_of_length_le (by omega),List.drop_of_length_le (by omega),List.take_succ_cons,List.take_succ_cons,List.drop_succ_cons,List.drop_succ_cons]
     exact⟨rfl,rfl⟩
theorem Ov {B:Nat}{w:World}{v:Value}{S:List Space}{us:List Value}{F:Nat->Prop}(hl:us.length=S.length)(hr:w.ownsRow B 39 3 v S.length (Az S us))(hF:∀ k,v.ownBlock=some k->F k)(hm:∀ i (h:i<S.length) (h' : i<us.length),Aq 2 DU F w us[i] S[i].members):Aq 3 EI F w v S:=by
 refine Aq.Qk (css:=List.zipWith encS S us) (Bc.own hr) rfl (by simp[hl]) hF (fun i hi hi' => ?_)
 have h2:i<us.length:=by rw[hl];exact hi
 rw[List.getElem_zipWith]
 exact⟨rfl,us[i],rfl,hm i hi h2⟩
theorem Ca.mem_grown {B:Nat}{w w' : World}{v:Value}{S:List Space}{us:List Value}(h:Ca B w v S us)(hk:∀ k,k<w.heap.size->v.ownBlock≠some k->w'.heap[k]? = w.heap[k]?){F:Nat->Prop}(hF:∀ k,B<=k->F k)(i:Nat)(hi:i<S.length)(hi' : i<us.length):Aq 2 DU F w' us[i] S[i].members:=by
 have hm:=h.GJ i hi hi'
 have hm' : w'.ownsRow B 76 2 us[i] S[i].members.length (S[i].members.flatMap Cy):=Ae hm (fun k e=>hk k (ET hm k e) (fun e2=>Ho hm h.row (by decide) k e e2))
 exact Cq (enc:=Cy) (fun _=>rfl) (fun _=>rfl) (Bc.own hm') rfl (fun k hk=>hF k (Ak hm' k hk))
theorem Ca.ins {B B' : Nat}{w w' : World}{v v' u:Value}{S:List Space}{us:List Value}{x:Space}{i:Nat}(h:Ca B w v S us)(hi:i<=S.length)(hr:w'.ownsRow B' 39 3 v' (S.length+1) ((Az S us).take (i*3)++(encS x u++(Az S us).drop (i*3))))(hk:∀ k,k<w.heap.size->v.ownBlock≠some k->w'.heap[k]? = w.heap[k]?)
 {F:Nat->Prop} (hF:∀ k,B<=k->F k) (hv:∀ k,v'.ownBlock=some k->F k) (hu:Aq 2 DU F w' u x.members):Aq 3 EI F w' v' (S.take i++x::S.drop i):=by
 have hiu:i<=us.length:=by rw[h.len];exact hi
 have hl:(us.take i++u::us.drop i).length=(S.take i++x::S.drop i).length:=by simp[h.len]
 have hz:(S.take i++x::S.drop i).length=S.length+1:=by simp;omega
 have hc:Az (S.take i++x::S.drop i) (us.take i++u::us.drop i)=(Az S us).take (i*3)++(encS x u++(Az S us).drop (i*3)):=by
  rw[KZ _ _ _ _ (by simp[h.len]),(Er S us h.len i).1,(Er S us h.len i).2]
  rfl
 refine Ov (us:=us.take i++u::us.drop i) hl (by rw[hz,hc];exact hr) hv (fun j hj hj' => ?_)
 by_cases h1:j<i
 ·rw[List.getElem_append_left (by simp;omega),List.getElem_append_left (by simp;omega),List.getElem_take,List.getElem_take]
  exact h.mem_grown hk hF j (by omega) (by omega)
 ·have e1:(us.take i).length=i:=by simp;omega
  have e2:(S.take i).length=i:=by simp;omega
  rw[List.getElem_append_right (by omega),List.getElem_append_right (by omega)]
  simp only[e1,e2]
  by_cases h2:j=i
  ·subst h2
   simp only[Nat.sub_self,List.getElem_cons_zero]
   exact hu
  ·obtain⟨q,hq⟩:∃ q,j-i=q+1:=⟨j-i-1,by omega⟩
   simp only[hq,List.getElem_cons_succ,List.getElem_drop]
   exact h.mem_grown hk hF (i+q) (by rw[hz] at hj;omega) (by rw[hl,hz] at hj';rw[h.len];omega)
theorem Ca.del {B B' : Nat}{w w' : World}{v v' : Value}{S:List Space}{us:List Value}{i:Nat}(h:Ca B w v S us)(hi:i<S.length)(hr:w'.ownsRow B' 39 3 v' (S.length-1) ((Az S us).take (i*3)++(Az S us).drop ((i+1)*3)))(hk:∀ k,k<w.heap.size->v.ownBlock≠some k->w'.heap[k]? = w.heap[k]?)
 {F:Nat->Prop} (hF:∀ k,B<=k->F k) (hv:∀ k,v'.ownBlock=some k->F k):Aq 3 EI F w' v' (S.take i++S.drop (i+1)):=by
 have hl:(us.take i++us.drop (i+1)).length=(S.take i++S.drop (i+1)).length:=by simp[h.len]
 have hz:(S.take i++S.drop (i+1)).length=S.length-1:=by simp;omega
 have hc:Az (S.take i++S.drop (i+1)) (us.take i++us.drop (i+1))=(Az S us).take (i*3)++(Az S us).drop ((i+1)*3):=by
  rw[KZ _ _ _ _ (by simp[h.len]),(Er S us h.len i).1,(Er S us h.len (i+1)).2]
 refine Ov (us:=us.take i++us.drop (i+1)) hl (by rw[hz,hc];exact hr) hv (fun j hj hj' => ?_)
 have hul:=h.len
 by_cases h1:j<i
 ·rw[List.getElem_append_left (by simp;omega),List.getElem_append_left (by simp;omega),List.getElem_take,List.getElem_take]
  exact h.mem_grown hk hF j (by omega) (by omega)
 ·have e1:(us.take i).length=i:=by simp;omega
  have e2:(S.take i).length=i:=by simp;omega
  rw[List.getElem_append_right (by omega),List.getElem_append_right (by omega)]
  simp only[e1,e2,List.getElem_drop]
  exact h.mem_grown hk hF (i+1+(j-i)) (by rw[hz] at hj;omega) (by rw[hl,hz] at hj';omega)
def Uf (w:World)(g i:Nat)(x:Space)(u:Value):World:=((w.setCell ⟨g,i*3,none⟩ (.string x.pre)).setCell ⟨g,i*3+1,none⟩ u).setCell ⟨g,i*3+2,none⟩ (.int .i64 x.threshold)
theorem Sq (w:World)(g i:Nat)(x:Space)(u:Value){k:Nat}(h:k≠g):(Uf w g i x u).heap[k]? = w.heap[k]? :=by
 unfold Uf
 rw[zo h,zo h,zo h]
theorem jh (w:World)(g i:Nat)(x:Space)(u:Value):(Uf w g i x u).heap.size=w.heap.size:=by simp[Uf,World.setCell]
theorem Ca.put {B g c:Nat}{w:World}{S:List Space}{us:List Value}{i:Nat}(h:Ca B w (.slice (some ⟨g,0,none⟩) S.length c) S us)(hi:i<S.length)(x:Space)(u:Value){F:Nat->Prop}(hF:∀ k,B<=k->F k)(hu:Aq 2 DU (fun k=>F k/\k≠g) w u x.members):
 Aq 3 EI F (Uf w g i x u) (.slice (some ⟨g,0,none⟩) S.length c) (S.set i x):=by
 have hcl:=IW S us h.len
 have hgB:B<=g:=Ak h.row g rfl
 have hr:(Uf w g i x u).ownsRow B 39 3 (.slice (some ⟨g,0,none⟩) S.length c) (S.set i x).length (Az (S.set i x) (us.set i u)):=by
  rw[List.length_set,LU S us i hi h.len x u]
  unfold Uf
  exact GH (GH (GH h.row _ (by omega) _) _ (by rw[List.length_set];omega) _) _ (by rw[List.length_set,List.length_set];omega) _
 have e:S.length=(S.set i x).length:=by rw[List.length_set]
 rw[e] at hr ⊢
 refine Ov (us:=us.set i u) (by simp[h.len]) (by rw[<- e] at hr ⊢;exact hr) (fun k hk=>by cases hk;exact hF g hgB) (fun j hj hj' => ?_)
 rw[List.length_set] at hj hj'
 by_cases hij:i=j
 ·subst hij
  rw[List.getElem_set_self,List.getElem_set_self]
  exact(hu.keep (by rw[jh];exact Nat.le_refl _) (fun k hk _=>Sq w g i x u hk.2)).mono (fun k hk _=>hk.1)
 ·rw[List.getElem_set_ne hij,List.getElem_set_ne hij]
  exact h.mem_grown (fun k _ hk=>Sq w g i x u (fun e=>hk (by rw[e];rfl))) hF j hj hj'
def GK (s:Space)(M:List Member):Space:=⟨s.pre,M,s.threshold⟩
theorem Px:∀ (S:List Space) (us:List Value) (i:Nat) (hi:i<S.length) (M:List Member),Az (S.set i (GK S[i] M)) us=Az S us
 | [],_,i,hi,_=>by cases hi
 | s :: S,[],i,_,_ => by
   cases i<;>rfl
 | s::S,u::us,0,_,_=>rfl
 | s :: S,u :: us,i + 1,hi,M => by
   have hi2:i<S.length:=by simpa using hi
   have:=Px S us i hi2 M
   show encS s u++Az (S.set i (GK S[i] M)) us=encS s u++Az S us
   rw[this]
theorem Ca.turn {B:Nat}{w w' : World}{v:Value}{S:List Space}{us:List Value}{i:Nat}(h:Ca B w v S us)(hi:i<S.length)(hi' : i<us.length){M:List Member}(hM:w'.ownsRow B 76 2 us[i] M.length (M.flatMap Cy))(hk:∀ k,us[i].ownBlock≠some k->w'.heap[k]? = w.heap[k]?):Ca B w' v (S.set i (GK S[i] M)) us:=by
 refine⟨by simp[h.len],?_,fun j hj hj' => ?_,h.apart⟩
 ·rw[List.length_set,Px S us i hi M]
  exact Ae h.row (fun k e=>hk k (fun e2=>Ho (h.GJ i hi hi') h.row (by decide) k e2 e))
 ·rw[List.length_set] at hj
  by_cases hij:i=j
  ·subst hij
   rw[List.getElem_set_self]
   exact hM
  ·rw[List.getElem_set_ne hij]
   refine Ae (h.GJ j hj hj') (fun k e=>hk k (fun e2=>?_))
   rcases Nat.lt_or_ge i j with g|g
   ·exact(List.pairwise_iff_getElem.1 h.apart) i j hi' hj' g k e2 e
   ·exact(List.pairwise_iff_getElem.1 h.apart) j i hj' hi' (by omega) k e e2
theorem Vd (M:List Member):(M.flatMap Cy).length=M.length*2:=by
 induction M with
 | nil=>rfl
 | cons x M ih=>rw[List.flatMap_cons,List.length_append,ih,List.length_cons];show 2+_=_;omega
theorem Ve:∀ (M:List Member) (i:Nat) (hi:i<M.length) (c:Nat) (_:c<2),(M.flatMap Cy)[i*2+c]? = (Cy M[i])[c]?
 | [],i,hi,_,_=>by cases hi
 | x :: M,0,_,c,hc => by
   rw[List.flatMap_cons,Nat.zero_mul,Nat.zero_add,List.getElem?_append_left (by show c<2;exact hc)]
   rfl
 | x :: M,i + 1,hi,c,hc => by
   rw[List.flatMap_cons,List.getElem?_append_right (by show 2<=_;omega)]
   have:=Ve M i (by simpa using hi) c hc
   show(M.flatMap Cy)[(i+1)*2+c-2]? = _
   rw[show(i+1)*2+c-2=i*2+c by omega,this]
   rfl
theorem Vf:∀ (M:List Member) (i:Nat) (hi:i<M.length) (p:ByteArray),(M.set i ⟨M[i].name,p⟩).flatMap Cy=(M.flatMap Cy).set (i*2+1) (.string p)
 | [],i,hi,_=>by cases hi
 | x::M,0,_,p=>rfl
 | x :: M,i + 1,hi,p => by
   have hi2:i<M.length:=by simpa using hi
   have ih:=Vf M i hi2 p
   show Cy x++(M.set i ⟨M[i].name,p⟩).flatMap Cy=(Cy x++M.flatMap Cy).set ((i+1)*2+1) (.string p)
   rw[ih,List.set_append_right _ _ (by show 2<=_;omega)]
   congr 2
   show i*2+1=(i+1)*2+1-2
   omega
end Own
end
end Go.Proofs.YtjlmglgmcekmhaaGreatDoor
