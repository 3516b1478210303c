/- The program's owners: approvals. -/
import Derived.Test.YtnijhlphcjjpbaaGreatDoorShkVo4
set_option linter.unusedVariables false
set_option linter.unusedSimpArgs false
set_option maxRecDepth 100000
set_option maxHeartbeats 8000000
namespace Go.Proofs.YtnijhlphcjjpbaaGreatDoor
section
open Go Go.RowKit Go.Maps
theorem eO (cnt:Int)(sv kv:Value)(l:List Own.KeyUse)(p:ByteArray)(w:World)(h:Own.Bo w kv l)(hs:Own.Srt Own.KeyUse.pub l)(hl:l.length<=1000000):
 Calls Tryz.prog 154 #[.agg #[.int .i64 cnt,sv,kv],.string p] w fun e w' => e=.returned (.tuple #[.int .i64 (Own.posB Own.KeyUse.pub p l:Nat),.bool (Own.Dl Own.KeyUse.pub p l)])/\Below w.heap.size w w':=by
 obtain⟨ka,kc,rfl⟩:=h.len
 have hb1:Below w.heap.size w (w.alloc (.cells #[.int .i64 cnt,sv,.slice ka l.length kc] 38)):=zb
 have hbs:=Zx _ l p _ (h.below hb1) hs hl
 have HB:=zh hb1;have HBS:=zh hbs
 obtain⟨q,hq⟩:∃ q:Nat,q=Own.posB Own.KeyUse.pub p l:=⟨_,rfl⟩
 obtain⟨r,hr⟩:∃ r,r=Own.Dl Own.KeyUse.pub p l:=⟨_,rfl⟩
 rw[<- hq,<- hr] at HBS ⊢
 clear hb1 hbs h hs hq hr
 go_enter Tryz.func154,Tryz.ntmps154
 go_wp2_with fail
 refine HBS.out.mono ?_
 rintro e w2 ⟨rfl,hb2⟩
 have HB2:=zh (HB.out.trans (hb2.mono HB.out.size));clear hb2
 go_wp2_with fail
 go_ret2
 exact⟨rfl,HB2.out⟩
namespace Own
theorem Ul {p m:ByteArray}{s:Sig.T}(h:Sig.verify p m s=true):0<=s.index/\s.index<64:=by
 unfold Sig.verify Sig.Bw at h
 simp only[Bool.and_eq_true,decide_eq_true_eq] at h
 obtain⟨⟨⟨⟨⟨⟨_,h1⟩,h2⟩,h3⟩,_⟩,_⟩,_⟩:=h
 refine⟨h2,Int.lt_of_lt_of_le h3 ?_⟩
 have:(2:Nat)^(p.get! 32).toNat<=2^6:=Nat.pow_le_pow_right (by omega) h1
 have e:((2:Int)^(p.get! 32).toNat)=((2^(p.get! 32).toNat:Nat):Int):=(Int.natCast_pow 2 _).symm
 rw[e]
 omega
def MQ (w:World)(v:Value)(l:List AZ):Prop:=∃ a c,v=.slice a l.length c/\∀ i (hi:i<l.length),∃ b o cv pv,a=some ⟨b,o,none⟩/\b<w.heap.size/\w.cell? ⟨b,o+i*4,none⟩=some (.string l[i].name)/\w.cell? ⟨b,o+i*4+1,none⟩=some (.int .i64 l[i].sig.index)/\
 w.cell? ⟨b,o+i*4+2,none⟩=some cv/\w.cell? ⟨b,o+i*4+3,none⟩=some pv/\Ay w cv l[i].sig.chains/\Ay w pv l[i].sig.path/\CS pv
theorem MQ.below {w w' : World}{v:Value}{l:List AZ}(h:MQ w v l)(hb:Below w.heap.size w w'):MQ w' v l:=by
 obtain⟨a,c,rfl,h⟩:=h
 refine⟨a,c,rfl,fun i hi=>?_⟩
 obtain⟨b,o,cv,pv,h1,h2,h3,h4,h5,h6,h7,h8,h9⟩:=h i hi
 exact⟨b,o,cv,pv,h1,Nat.lt_of_lt_of_le h2 hb.size,(hb.cell (p:=⟨b,_,none⟩) h2).trans h3,(hb.cell (p:=⟨b,_,none⟩) h2).trans h4,(hb.cell (p:=⟨b,_,none⟩) h2).trans h5,(hb.cell (p:=⟨b,_,none⟩) h2).trans h6,h7.below hb,h8.below hb,h9⟩
def Eb (l:List ByteArray):ByteArray->Option Value:=fun p=>if l.any (fun x=>decide (x=p)) then some (.bool true) else none
theorem Vt (l:List ByteArray)(n:ByteArray):Eb (n::l)=Xp (Eb l) n (.bool true):=by
 funext p
 unfold Eb Xp
 rw[List.any_cons]
 by_cases h:n=p
 ·simp[h]
 ·rw[decide_eq_false h,Bool.false_or,if_neg h]
def nobody:Value:=.agg #[.int .i64 0,.slice none 0 0,.slice none 0 0]
end Own
theorem Ru:∀ (K:List Own.KeyUse) (p:Nat) (h:p<K.length) (v:Int),(K.flatMap Own.Co).set (p*2+1) (.int .i64 v)=(K.set p ⟨K[p].pub,v⟩).flatMap Own.Co
 | [],p,h,_=>by cases h
 | x :: K,0,_,v => by
   rw[List.flatMap_cons,List.set_cons_zero,List.flatMap_cons]
   rfl
 | x :: K,p + 1,h,v => by
   have ih:=Ru K p (by simpa using h) v
   rw[List.flatMap_cons,List.set_cons_succ,List.flatMap_cons,show(p+1)*2+1=(p*2+1)+1+1 by omega]
   show Value.string x.pub::Value.int .i64 x.next::(K.flatMap Own.Co).set (p*2+1) _=_
   rw[ih]
   rfl
theorem Xz (K:List Own.KeyUse)(p:Nat)(h:p<K.length):(K.flatMap Own.Co)[p*2+1]? = some (.int .i64 K[p].next):=by
 have e:K.flatMap Own.Co=(K.map Own.Co).flatten:=List.flatMap_def
 rw[e,Uk (k:=2) (fun cs hcs=>by obtain⟨x,_,rfl⟩:=List.mem_map.1 hcs;rfl) p 1 (by simpa using h) (by omega),List.getElem_map]
 rfl
namespace Own
theorem SK (K:List KeyUse):(K.flatMap Co).length=K.length*2:=by
 induction K with
 | nil=>rfl
 | cons x K ih=>rw[List.flatMap_cons,List.length_append,ih,List.length_cons];show 2+_=_;omega
structure Placed (Kc K1:List KeyUse) (p:ByteArray):Prop where
 at_:∃ h:posB KeyUse.pub p Kc<K1.length,K1[posB KeyUse.pub p Kc].pub=p/\K1[posB KeyUse.pub p Kc].next=Bf Kc p
 use:∀ x,use Kc ⟨p,x⟩=K1.set (posB KeyUse.pub p Kc) ⟨p,x⟩
 len:K1.length<=Kc.length+1
theorem Z5 {Kc:List KeyUse}{p:ByteArray}(hs:Srt KeyUse.pub Kc)(h:Dl KeyUse.pub p Kc=true):Placed Kc Kc p:=by
 have hn:=LY p hs
 rw[h,if_pos rfl] at hn
 have hh:=h
 unfold Dl at h
 cases hg:Kc[posB KeyUse.pub p Kc]? with
 | none=>rw[hg] at h;cases h
 | some k =>
   rw[hg] at h hn
   obtain⟨hl,he⟩:=List.getElem?_eq_some_iff.1 hg
   refine⟨⟨hl,?_,?_⟩,fun x=>?_,by omega⟩
   ·rw[he];exact of_decide_eq_true h
   ·rw[he,hn]
   ·rw[GL,GK]
    show Kc.take (posB KeyUse.pub p Kc)++_::Kc.drop (posB KeyUse.pub p Kc+if Dl KeyUse.pub p Kc=true then 1 else 0)=_
    rw[hh,if_pos rfl,List.set_eq_take_append_cons_drop,if_pos hl]
theorem X0 {Kc:List KeyUse}{p:ByteArray}(hs:Srt KeyUse.pub Kc)(h:Dl KeyUse.pub p Kc=false):Placed Kc (Kc.take (posB KeyUse.pub p Kc)++(⟨p,0⟩::Kc.drop (posB KeyUse.pub p Kc))) p:=by
 have hn:=LY p hs
 rw[h,if_neg (by simp)] at hn
 have hle:=II (f:=KeyUse.pub) p Kc
 have hl:(Kc.take (posB KeyUse.pub p Kc)).length=posB KeyUse.pub p Kc:=by rw[List.length_take];omega
 have hg:(Kc.take (posB KeyUse.pub p Kc)++(⟨p,0⟩::Kc.drop (posB KeyUse.pub p Kc)))[posB KeyUse.pub p Kc]? = some ⟨p,0⟩:=by
  rw[List.getElem?_append_right (by omega),hl,Nat.sub_self]
  rfl
 obtain⟨hlt,he⟩:=List.getElem?_eq_some_iff.1 hg
 refine⟨⟨hlt,by rw[he],by rw[he,hn]⟩,fun x=>?_,by simp;omega⟩
 rw[GL,GK]
 show Kc.take (posB KeyUse.pub p Kc)++_::Kc.drop (posB KeyUse.pub p Kc+if Dl KeyUse.pub p Kc=true then 1 else 0)=_
 rw[h,if_neg (by simp),Nat.add_zero,List.set_append_right _ _ (by omega),hl,Nat.sub_self]
 rfl
end Own
def bC (X:Nat->Prop)(w:World)(o:Own.Ak)(n th:Int)(R:Except Int (List Own.KeyUse))(e:Ending)(w' : World):Prop:=
 (match R with
   | .error c=>e=.returned (.tuple #[Own.nobody,.int .i64 c])
   | .ok K=>if n<th then e=.returned (.tuple #[Own.nobody,.int .i64 20]) else ∃ sv kv,e=.returned (.tuple #[.agg #[.int .i64 o.count,sv,kv],.int .i64 0])/\Ag 3 Own.CB (fun k=>¬ X k) w' sv o.spaces/\Ag 2 Own.ML (fun k=>¬ X k) w' kv K)/\Below w.heap.size w w'
theorem SL (X:Nat->Prop)(o:Own.Ak)(s:Own.Space)(msg:ByteArray)(l:List Own.AZ)(sv kv mv lv:Value)(w:World)(hX:∀ k,X k->k<w.heap.size)(hS:Ag 3 Own.CB (fun k=>¬ X k) w sv o.spaces)(hK:Own.Bo w kv o.keys)(hm:Own.Ar w mv s.members)(hA:Own.MQ w lv l)
 (hsrt:Own.Srt Own.KeyUse.pub o.keys) (hls:o.spaces.length<=3000000) (hlk:o.keys.length+l.length<=900000) (hlm:∀ s∈o.spaces,s.members.length<=3000000) (hml:s.members.length<=3000000) (GY:msg.size<=9223372036854775000)
 (hal:∀ a∈l,a.name.size<=140737488355328/\a.sig.chains.length<=140737488355328/\a.sig.path.length<=140737488355328):
 Calls Tryz.prog 129 #[.agg #[.int .i64 o.count,sv,kv],.agg #[.string s.pre,mv,.int .i64 s.threshold],.string msg,lv] w (bC X w o l.length s.threshold (Own.Cj s msg [] o.keys l)):=by
 obtain⟨R,hR⟩:∃ R,R=Own.Cj s msg [] o.keys l:=⟨_,rfl⟩
 obtain⟨Q,hQ⟩:∃ Q,Q=bC X w o l.length s.threshold R:=⟨_,rfl⟩
 rw[<- hR,<- hQ]
 have HQ:=zh hQ;have HR:=zh hR;clear hQ hR
 obtain⟨sa,sc,rfl⟩:=hS.len
 obtain⟨ka,kc,rfl⟩:=hK.len
 obtain⟨ma,mc,rfl⟩:=hm.len
 obtain⟨la,lc,rfl,hap⟩:=id hA
 clear hap
 have hb1:Below w.heap.size w (((w.alloc (.cells #[.int .i64 o.count,.slice sa o.spaces.length sc,.slice ka o.keys.length kc] 38)).alloc (.cells #[.string s.pre,.slice ma s.members.length mc,.int .i64 s.threshold] 70)).alloc (.cells #[.int .i64 0,.slice none 0 0,.slice none 0 0] 38)):=(zb.alloc (by simp) _).alloc (by simp;omega) _
 have hz1:(((w.alloc (.cells #[.int .i64 o.count,.slice sa o.spaces.length sc,.slice ka o.keys.length kc] 38)).alloc (.cells #[.string s.pre,.slice ma s.members.length mc,.int .i64 s.threshold] 70)).alloc (.cells #[.int .i64 0,.slice none 0 0,.slice none 0 0] 38)).heap.size=w.heap.size+3:=by simp
 have ha0:=((At.new w 38 #[.int .i64 o.count,.slice sa o.spaces.length sc,.slice ka o.keys.length kc]).alloc (.cells #[.string s.pre,.slice ma s.members.length mc,.int .i64 s.threshold] 70)).alloc (.cells #[.int .i64 0,.slice none 0 0,.slice none 0 0] 38)
 have ha1:=(At.new1 w (.cells #[.int .i64 o.count,.slice sa o.spaces.length sc,.slice ka o.keys.length kc] 38) 70 #[.string s.pre,.slice ma s.members.length mc,.int .i64 s.threshold]).alloc (.cells #[.int .i64 0,.slice none 0 0,.slice none 0 0] 38)
 have ha2:=At.new ((w.alloc (.cells #[.int .i64 o.count,.slice sa o.spaces.length sc,.slice ka o.keys.length kc] 38)).alloc (.cells #[.string s.pre,.slice ma s.members.length mc,.int .i64 s.threshold] 70)) 38 #[.int .i64 0,.slice none 0 0,.slice none 0 0]
 rw[World.size_alloc,World.size_alloc] at ha2
 have hs1:=(hS.mono (G:=fun k=>¬ (X k\/(w.heap.size<=k/\k<w.heap.size+3))) (fun k hx hk h=>h.elim hx (fun h=>by omega))).below hb1;have hk1:=hK.below hb1
 obtain⟨c0,c1,c2⟩:=ha0.c3
 have HS:=zh hs1;have HK:=zh hk1;have HM:=zh hm;have HA:=zh hA;have A0:=zh ha0;have A1:=zh ha1;have A2:=zh ha2;have B1:=zh hb1;have HLM:=zh hlm;have HAL:=zh hal;have sG:=zh hsrt
 clear hS hK hm hA hs1 hk1 ha0 ha1 ha2 hb1 hlm hal hsrt
 go_enter Tryz.func129,Tryz.ntmps129
 go_wp2_with fail
 generalize ((w.alloc (.cells #[.int .i64 o.count,.slice sa o.spaces.length sc,.slice ka o.keys.length kc] 38)).alloc (.cells #[.string s.pre,.slice ma s.members.length mc,.int .i64 s.threshold] 70)).alloc (.cells #[.int .i64 0,.slice none 0 0,.slice none 0 0] 38)=w1 at*
 refine(Vr (fun k=>X k\/(w.heap.size<=k/\k<w.heap.size+3)) o _ _ w1 (fun k hk=>by rcases hk with hk|hk;have:=hX k hk;omega;omega) HS.out HK.out hls (by omega) HLM.out).mono ?_
 rintro e w2 ⟨sv',kv',rfl,⟨B,hB1,hB2,hsp,hkr⟩,hb2⟩
 obtain⟨sa',ss',za8⟩:=hsp.len
 subst za8
 obtain⟨ka',km',kc',rfl⟩:=Ac hkr
 obtain rfl:=Bt hkr
 have a1:=A1.out.below hb2 (by omega);have a2:=A2.out.below hb2 (by omega)
 have hbw2:=B1.out.trans (hb2.mono B1.out.size)
 have hz2:=hb2.size
 have A12:=zh a1;have A22:=zh a2;have BW2:=zh hbw2;have HSP:=zh hsp;have HKR:=zh hkr
 clear hb2 a1 a2 hbw2 hsp hkr HS HK A0 A1 A2 B1 HLM c0 c1 c2
 have hmm :=@run_makeMap Tryz.prog
 go_wp2_with fail
 clear hmm
 obtain⟨OB,hOB⟩:∃ OB,OB=w2.heap.size:=⟨_,rfl⟩
 have iN:At ((w2.alloc (.cells #[.int .i64 o.count,.slice sa' o.spaces.length ss',.slice ka' o.keys.length kc'] 38)).alloc (.map #[] 0)) OB 38 #[.int .i64 o.count,.slice sa' o.spaces.length ss',.slice ka' o.keys.length kc']:=by rw[hOB];exact(At.new _ _ _).alloc _
 have wK:Fg ((w2.alloc (.cells #[.int .i64 o.count,.slice sa' o.spaces.length ss',.slice ka' o.keys.length kc'] 38)).alloc (.map #[] 0)) (OB+1) 0 (Own.Eb []):=by
  have h:=Fg.made (w2.alloc (.cells #[.int .i64 o.count,.slice sa' o.spaces.length ss',.slice ka' o.keys.length kc'] 38))
  rw[World.size_alloc,<- hOB] at h
  exact h
 have hb3:Below B w2 ((w2.alloc (.cells #[.int .i64 o.count,.slice sa' o.spaces.length ss',.slice ka' o.keys.length kc'] 38)).alloc (.map #[] 0)):=((Below.refl B w2).alloc hB2 _).alloc (by simp;omega) _
 have wL:=own_below HKR.out ((((Below.refl w2.heap.size w2).alloc (Nat.le_refl _) (.cells #[.int .i64 o.count,.slice sa' o.spaces.length ss',.slice ka' o.keys.length kc'] 38)).alloc (by simp) (.map #[] 0)))
 have za9:=zh iN;have zaA:=zh wK;have HB3:=zh hb3;have zaB:=zh wL
 have zaC:B<=OB:=by omega
 have hBw:w.heap.size+3<=B:=by omega
 rw[<- hOB]
 clear iN wK hb3 wL HKR hOB
 generalize (w2.alloc (.cells #[.int .i64 o.count,.slice sa' o.spaces.length ss',.slice ka' o.keys.length kc'] 38)).alloc (.map #[] 0)=w3 at*
 go_loopw [23] (fun i wr=>∃ k:Nat,k<=l.length/\i=.int .i64 k/\∃ (seen:List ByteArray) (Kc:List Own.KeyUse) (kvc:Value),R=Own.Cj s msg seen Kc (l.drop k)/\Own.Srt Own.KeyUse.pub Kc/\Kc.length<=o.keys.length+k/\At wr OB 38 #[.int .i64 o.count,.slice sa' o.spaces.length ss',kvc]/\wr.ownsRow B 91 2 kvc Kc.length (Kc.flatMap Own.Co)/\Fg wr (OB+1) k (Own.Eb seen)/\Below B w2 wr) (fun i _=>l.length-(intOf i).toNat)
 case atStart=>exact⟨0,by omega,rfl,[],o.keys,_,by rw[HR.out];rfl,sG.out,by omega,za9.out,zaB.out,zaA.out,HB3.out⟩
 case round=>
  obtain⟨k,hk,rfl,seen,Kc,kvc,hR,hsr,hkl,hat,hown,hsm,hb⟩:=hrel
  have HRR:=zh hR;have HSR:=zh hsr;have HAT:=zh hat;have HOWN:=zh hown;have HSM:=zh hsm;have HB:=zh hb
  have hbs:=hb.size
  have zaD:OB<wr.heap.size:=hat.lt
  have zaE:OB+1<wr.heap.size:=hsm.lt
  have TWR:=zh (A22.out.below hb (by omega))
  have SWR:=zh (A12.out.below hb (by omega))
  have sH:=BW2.out.trans (hb.mono (by omega))
  have MWR:=zh (HM.out.below sH)
  have BWR:=zh sH
  clear hR hsr hat hown hsm hb sH
  by_cases hlt:k<l.length
  case neg=>
   have hke:k=l.length:=by omega
   have dk:decide ((k:Int)<l.length)=false:=zf
   have hR2:R=.ok Kc:=by rw[HRR.out,hke,List.drop_length];rfl
   have HR2:=zh hR2
   have s2:=SWR.out.cell 2
   have q0:=HAT.out.cell 0;have q1:=HAT.out.cell 1;have q2:=HAT.out.cell 2
   have x0:=TWR.out.cell 0;have x1:=TWR.out.cell 1;have x2:=TWR.out.cell 2;have x3:=TWR.out.free 0;have x4:=TWR.out.free 1;have x5:=TWR.out.free 2
   simp only[zg] at s2 q0 q1 q2 x0 x1 x2
   clear hR2 hke
   by_cases hth:(l.length:Int)<s.threshold
   ·have dt:decide ((l.length:Int)<s.threshold)=true:=decide_eq_true hth
    go_wp2_with fail
    have F2:=((TWR.out.set 0 (.int .i64 0)).set 1 (.slice none 0 0)).set 2 (.slice none 0 0)
    refine Bu rfl rfl rfl (Ab F2 Tryz.underlying38 rfl Am) ?_
    rw[HQ.out,HR2.out]
    refine⟨?_,((BWR.out.setCell (p:=⟨w.heap.size+1+1,0,none⟩) (by show w.heap.size<=w.heap.size+1+1;omega) _).setCell (p:=⟨w.heap.size+1+1,1,none⟩) (by show w.heap.size<=w.heap.size+1+1;omega) _).setCell (p:=⟨w.heap.size+1+1,2,none⟩) (by show w.heap.size<=w.heap.size+1+1;omega) _⟩
    show if _ then _ else _
    rw[if_pos hth]
    rfl
   ·have dt:decide ((l.length:Int)<s.threshold)=false:=decide_eq_false hth
    obtain⟨va,vm,vc,rfl⟩:=Ac HOWN.out
    go_wp2_with fail
    have F2:=((TWR.out.set 0 (.int .i64 o.count)).set 1 (.slice sa' o.spaces.length ss')).set 2 (.slice va vm vc)
    refine Bu rfl rfl rfl (Ab F2 Tryz.underlying38 rfl Am) ?_
    rw[HQ.out,HR2.out]
    have jD:∀ j,j≠w.heap.size+1+1->(((wr.setCell ⟨w.heap.size+1+1,0,none⟩ (.int .i64 o.count)).setCell ⟨w.heap.size+1+1,1,none⟩ (.slice sa' o.spaces.length ss')).setCell ⟨w.heap.size+1+1,2,none⟩ (.slice va vm vc)).heap[j]? = wr.heap[j]? :=fun j hj=>by
     rw[zo hj,zo hj,zo hj]
    refine⟨?_,((BWR.out.setCell (p:=⟨w.heap.size+1+1,0,none⟩) (by show w.heap.size<=w.heap.size+1+1;omega) _).setCell (p:=⟨w.heap.size+1+1,1,none⟩) (by show w.heap.size<=w.heap.size+1+1;omega) _).setCell (p:=⟨w.heap.size+1+1,2,none⟩) (by show w.heap.size<=w.heap.size+1+1;omega) _⟩
    show if _ then _ else _
    rw[if_neg (by omega)]
    refine⟨_,_,rfl,?_,?_⟩
    ·have h1:=HSP.out.keep (w':=wr) HB.out.size (fun k hk _=>HB.out.block k hk.1)
     exact(h1.keep (by simp[World.setCell]) (fun k hk _=>jD k (by rintro rfl;exact hk.2 (.inr ⟨by omega,by omega⟩)))).mono (fun k hk _ hx=>hk.2 (.inl hx))
    ·exact Ck (enc:=Own.Co) (fun _=>rfl) (fun _=>rfl) (Bz.own (Aq HOWN.out (fun j hj=>jD j (by have:=Az HOWN.out j hj;omega)))) rfl (fun j hj hx=>by have h1:=Az HOWN.out j hj;have h2:=hX j hx;omega)
  have dk:decide ((k:Int)<l.length)=true:=zt
  obtain⟨_,_,he,hap⟩:=HA.out.below BWR.out
  cases he
  obtain⟨b,q,cv,pv,ha,hbl,e0,e1,e2,e3,hcs,hps,hcap⟩:=hap k hlt
  subst ha
  obtain⟨al1,al2,al3⟩:=HAL.out l[k] (List.getElem_mem hlt)
  have hdr:l.drop k=l[k]::l.drop (k+1):=List.drop_eq_getElem_cons hlt
  have hR1:=HRR.out
  rw[hdr] at hR1
  obtain⟨ap,sI⟩:∃ x,x=l[k]:=⟨_,rfl⟩
  rw[<- sI] at e0 e1 hcs hps al1 al2 al3 hR1
  obtain⟨ca,cc,rfl⟩:=hcs.len
  obtain⟨pa,pc,rfl⟩:=hps.len
  have HR1:=zh hR1
  obtain⟨nm,⟨ix,chs,pth⟩⟩:=ap
  dsimp only at e0 e1 e2 e3 hcs hps al1 al2 al3
  have hb5:Below wr.heap.size wr (wr.alloc (.cells #[.string nm,.int .i64 ix,.slice ca chs.length cc,.slice pa pth.length pc] 43)):=zb
  have hz5:(wr.alloc (.cells #[.string nm,.int .i64 ix,.slice ca chs.length cc,.slice pa pth.length pc] 43)).heap.size=wr.heap.size+1:=World.size_alloc _ _
  have n5:=At.new wr 43 #[.string nm,.int .i64 ix,.slice ca chs.length cc,.slice pa pth.length pc]
  have s5:=SWR.out.below hb5 (by omega)
  obtain⟨s0,s1,s2⟩:=s5.c3
  have hcall:=fun(W:World) (hW:Own.Ar W (.slice ma s.members.length mc) s.members)=>Vo s.pre s.threshold (.slice ma s.members.length mc) s.members nm W hW (by omega)
  have HC5:=zh (hcs.below hb5);have HP5:=zh (hps.below hb5);have HB5:=zh hb5;have N5:=zh n5;have Um:=zh hcall;have HCAP:=zh hcap;have zcg:=zh sI
  have wM:Own.Ar (wr.alloc (.cells #[.string nm,.int .i64 ix,.slice ca chs.length cc,.slice pa pth.length pc] 43)) (.slice ma s.members.length mc) s.members:=MWR.out.below hb5
  have MW5:=zh wM
  clear hap hdr hR1 hcs hps hb5 n5 s5 hcall wM sI hcap HRR
  go_wp2_with fail
  refine(Um.out _ MW5.out).mono ?_
  intro e w6 hpost
  obtain⟨hval,hb6⟩:=hpost
  have DT:=HB5.out.trans (hb6.mono HB5.out.size)
  have n6:=N5.out.below hb6 (by omega)
  have HB6:=zh DT
  have N6:=zh n6
  have HC6:=zh (HC5.out.below hb6);have HP6:=zh (HP5.out.below hb6)
  have TW6:=zh (TWR.out.below DT TWR.out.lt)
  have BW6:=zh (BWR.out.trans (DT.mono BWR.out.size))
  have hz6:=hb6.size
  clear hb6 DT n6 HC5 HP5 HB5 N5 MW5 Um s0 s1 s2
  cases hf:Own.find s.members nm with
  | none =>
    rw[hf] at hval
    have D5:e=.returned (.tuple #[.agg #[.string ⟨#[]⟩,.string ⟨#[]⟩],.bool false]):=hval
    subst D5
    have e:R=.error 6:=by rw[HR1.out,Own.Cj,hf]
    have HE:=zh e
    have TW:=zh (TW6.out.alloc (.cells #[.string ⟨#[]⟩,.string ⟨#[]⟩] 73))
    have TB:=zh (BW6.out.alloc BW6.out.size (.cells #[.string ⟨#[]⟩,.string ⟨#[]⟩] 73))
    have x0:=TW.out.cell 0;have x1:=TW.out.cell 1;have x2:=TW.out.cell 2;have x3:=TW.out.free 0;have x4:=TW.out.free 1;have x5:=TW.out.free 2
    simp only[zg] at x0 x1 x2
    clear e hf hval
    go_wp2_with fail
    have F2:=((TW.out.set 0 (.int .i64 0)).set 1 (.slice none 0 0)).set 2 (.slice none 0 0)
    refine Bu rfl rfl rfl (Ab F2 Tryz.underlying38 rfl Am) ?_
    rw[HQ.out,HE.out]
    exact⟨rfl,((TB.out.setCell (p:=⟨w.heap.size+1+1,0,none⟩) (by show w.heap.size<=w.heap.size+1+1;omega) _).setCell (p:=⟨w.heap.size+1+1,1,none⟩) (by show w.heap.size<=w.heap.size+1+1;omega) _).setCell (p:=⟨w.heap.size+1+1,2,none⟩) (by show w.heap.size<=w.heap.size+1+1;omega) _⟩
  | some m=>
  rw[hf] at hval
  have D5:e=.returned (.tuple #[.agg #[.string m.name,.string m.pub],.bool true]):=hval
  subst D5
  have hR2:R=if seen.any (fun x=>decide (x=nm)) then .error 5 else if Sig.verify m.pub msg ⟨ix,chs,pth⟩ then (if ix<Own.Bf Kc m.pub then .error 8 else Own.Cj s msg (nm::seen) (Own.use Kc ⟨m.pub,ix+1⟩) (l.drop (k+1))) else .error 18:=by rw[HR1.out,Own.Cj,hf]
  have HR2:=zh hR2
  have hb7:Below w6.heap.size w6 (w6.alloc (.cells #[.string m.name,.string m.pub] 73)):=zb
  have hz7:(w6.alloc (.cells #[.string m.name,.string m.pub] 73)).heap.size=w6.heap.size+1:=World.size_alloc _ _
  have m7:=At.new w6 73 #[.string m.name,.string m.pub]
  have n7:=N6.out.below hb7 (by omega)
  have sK:=(HSM.out.below HB6.out zaE).below hb7 (by omega)
  have TW:=zh (TW6.out.below hb7 (by omega))
  have TB:=zh (BW6.out.trans (hb7.mono BW6.out.size))
  have wN:=HB6.out.trans (hb7.mono HB6.out.size)
  have MN:=sK.Xq (t:=174) (e:=4) Tryz.underlying174 (.bool false) (Uc _) nm (by unfold maxLen;omega)
  have HC7:=zh (HC6.out.below hb7);have HP7:=zh (HP6.out.below hb7);have HB7:=zh wN;have N7:=zh n7;have M7:=zh m7;have SM7:=zh sK
  clear hR2 hval hf HR1 hb7 m7 n7 sK wN HC6 HP6 N6 TW6 BW6
  obtain⟨y0,y1,y2,y3⟩:=N7.out.c4;obtain⟨p0,p1⟩:=M7.out.c2
  cases hsn:seen.any fun x=>decide (x=nm) with
  | true =>
    have e:R=.error 5:=by rw[HR2.out,hsn];rfl
    have hv:(Own.Eb seen nm).getD (.bool false)=.bool true:=by unfold Own.Eb;rw[hsn];rfl
    rw[hv] at MN
    have HE:=zh e
    have x0:=TW.out.cell 0;have x1:=TW.out.cell 1;have x2:=TW.out.cell 2;have x3:=TW.out.free 0;have x4:=TW.out.free 1;have x5:=TW.out.free 2
    simp only[zg] at x0 x1 x2
    clear e hv hsn
    go_wp2_with fail
    have F2:=((TW.out.set 0 (.int .i64 0)).set 1 (.slice none 0 0)).set 2 (.slice none 0 0)
    refine Bu rfl rfl rfl (Ab F2 Tryz.underlying38 rfl Am) ?_
    rw[HQ.out,HE.out]
    exact⟨rfl,((TB.out.setCell (p:=⟨w.heap.size+1+1,0,none⟩) (by show w.heap.size<=w.heap.size+1+1;omega) _).setCell (p:=⟨w.heap.size+1+1,1,none⟩) (by show w.heap.size<=w.heap.size+1+1;omega) _).setCell (p:=⟨w.heap.size+1+1,2,none⟩) (by show w.heap.size<=w.heap.size+1+1;omega) _⟩
  | false=>
  have hv:(Own.Eb seen nm).getD (.bool false)=.bool false:=by unfold Own.Eb;rw[hsn];rfl
  rw[hv] at MN
  have hR3:R=if Sig.verify m.pub msg ⟨ix,chs,pth⟩ then (if ix<Own.Bf Kc m.pub then .error 8 else Own.Cj s msg (nm::seen) (Own.use Kc ⟨m.pub,ix+1⟩) (l.drop (k+1))) else .error 18:=by rw[HR2.out,hsn];rfl
  have HR3:=zh hR3
  have eP:=Xa m.pub msg ⟨ix,chs,pth⟩ (.slice ca chs.length cc) (.slice pa pth.length pc) _ HC7.out HP7.out HCAP.out al2 al3 GY
  have jE:=zh eP
  clear hv hsn hR3 HR2 eP
  go_wp2_with fail
  refine jE.out.mono ?_
  rintro e w8 ⟨rfl,hb8⟩
  have wO:=HB7.out.trans (hb8.mono HB7.out.size)
  have TW8:=zh (TW.out.below hb8 TW.out.lt)
  have TB8:=zh (TB.out.trans (hb8.mono TB.out.size))
  have N8:=zh (N7.out.below hb8 N7.out.lt)
  have M8:=zh (M7.out.below hb8 M7.out.lt)
  have SM8:=zh (SM7.out.below hb8 SM7.out.lt)
  have HB8:=zh wO
  have hz8:=hb8.size
  clear hb8 wO TW TB N7 M7 SM7 HB7 jE HC7 HP7 MN y0 y1 y2 y3 p0 p1
  cases hvf:Sig.verify m.pub msg ⟨ix,chs,pth⟩ with
  | false =>
    have e:R=.error 18:=by rw[HR3.out,hvf];rfl
    have HE:=zh e
    have TW:=TW8;have TB:=TB8
    have x0:=TW.out.cell 0;have x1:=TW.out.cell 1;have x2:=TW.out.cell 2;have x3:=TW.out.free 0;have x4:=TW.out.free 1;have x5:=TW.out.free 2
    simp only[zg] at x0 x1 x2
    clear e hvf
    go_wp2_with fail
    have F2:=((TW.out.set 0 (.int .i64 0)).set 1 (.slice none 0 0)).set 2 (.slice none 0 0)
    refine Bu rfl rfl rfl (Ab F2 Tryz.underlying38 rfl Am) ?_
    rw[HQ.out,HE.out]
    exact⟨rfl,((TB.out.setCell (p:=⟨w.heap.size+1+1,0,none⟩) (by show w.heap.size<=w.heap.size+1+1;omega) _).setCell (p:=⟨w.heap.size+1+1,1,none⟩) (by show w.heap.size<=w.heap.size+1+1;omega) _).setCell (p:=⟨w.heap.size+1+1,2,none⟩) (by show w.heap.size<=w.heap.size+1+1;omega) _⟩
  | true=>
  obtain⟨zaF,wP⟩:=Own.Ul hvf
  dsimp only at zaF wP
  have hR4:R=if ix<Own.Bf Kc m.pub then .error 8 else Own.Cj s msg (nm::seen) (Own.use Kc ⟨m.pub,ix+1⟩) (l.drop (k+1)):=by rw[HR3.out,hvf];rfl
  have HR4:=zh hR4
  obtain⟨y0,y1,y2,y3⟩:=N8.out.c4;obtain⟨p0,p1⟩:=M8.out.c2
  clear hvf hR4 HR3
  go_upto_region 13 with fail
  go_upto_region 14 with (at_mapUpdate;go_must (refine Vj rfl _ _ _ 174 4 rfl Tryz.underlying174 SM8.out (by unfold maxLen;omega) rfl nm (.bool true) rfl rfl (by unfold maxLen;omega) ?_);intro w9 hm9 hg9;have HM9:=zh hm9;have HG9:=zh hg9;clear hm9 hg9)
  have ne1:OB≠OB+1:=by omega
  have jF:=HB8.out
  have dW:=HAT.out.below jF zaD
  have bD:=own_below HOWN.out jF
  have wQ:∀ j,kvc.ownBlock=some j->j≠OB+1:=fun j hj=>by
   obtain⟨cur,hc⟩:=Dx bD hj
   exact SM8.out.bA hc
  have Od:∀ j,j<w8.heap.size->j≠OB+1->w9.heap[j]? = w8.heap[j]? :=fun j hj hne=>HG9.out.block j hj (fun e=>hne (Option.some.inj e))
  have sM:=dW.keep (Od OB dW.lt ne1)
  have X4:=Aq bD (fun j hj=>Od j (by obtain⟨cur,hc⟩:=Dx bD hj;exact hc.lt) (wQ j hj))
  have n9:=N8.out.keep (Od _ N8.out.lt (by omega))
  have m9:=M8.out.keep (Od _ M8.out.lt (by omega))
  have tw9:=TW8.out.keep (Od _ TW8.out.lt (by omega))
  have wR:Fg w9 (OB+1) (k+1) (Own.Eb (nm::seen)):=by rw[Own.Vt];exact HM9.out
  have wT:Below B w2 w9:=(HB.out.trans (jF.mono (by omega))).grown HG9.out (by have:=jF.size;omega) (fun j hj=>by cases hj;omega)
  obtain⟨o0,o1,o2⟩:=sM.c3;obtain⟨p0,p1⟩:=m9.c2
  have hz9:=HG9.out.size
  obtain⟨va,vm,vc,rfl⟩:=Ac X4
  obtain rfl:=Bt X4
  have hkey:=eO o.count (.slice sa' o.spaces.length ss') (.slice va Kc.length vc) Kc m.pub w9 (Own.Bo.of (Bz.own X4) rfl) HSR.out (by omega)
  obtain⟨P,hP⟩:∃ P:Nat,P=Own.posB Own.KeyUse.pub m.pub Kc:=⟨_,rfl⟩
  rw[<- hP] at hkey
  have HP:=zh hP;have HKEY:=zh hkey;have sN:=zh sM;have qE:=zh X4;have N9:=zh n9;have M9:=zh m9;have TW9:=zh tw9;have SM9:=zh wR;have wU:=zh wT
  clear jF dW bD wQ Od sM X4 n9 m9 tw9 wR wT hP hkey HM9 HG9 HAT HOWN N8 M8 TW8 SM8 TWR SWR MWR HSM HB HB6 y0 y1 y2 y3
  go_wp2_with fail
  refine HKEY.out.mono ?_
  rintro e w10 ⟨rfl,IK⟩
  have MR:=zh (sN.out.below IK sN.out.lt);have JY:=zh (own_below qE.out IK);have N10:=zh (N9.out.below IK N9.out.lt);have M10:=zh (M9.out.below IK M9.out.lt);have sO:=zh (TW9.out.below IK TW9.out.lt);have eT:=zh (SM9.out.below IK SM9.out.lt)
  have zch:=IK.size
  have jG:=zh (wU.out.trans (IK.mono (by omega)))
  clear IK HKEY sN qE N9 M9 TW9 SM9 wU o0 o1 o2 p0 p1
  cases hh:Own.Dl Own.KeyUse.pub m.pub Kc with
  | true =>
    obtain⟨K1,hK1⟩:∃ K1,K1=Kc:=⟨_,rfl⟩
    have hpl:Own.Placed Kc K1 m.pub:=by rw[hK1];exact Own.Z5 HSR.out hh
    have PL:=zh hpl
    have sP:=JY.out
    have at1:=MR.out
    rw[<- hK1] at sP at1
    have OWN:=zh sP;have AT:=zh at1;have NN:=N10;have TWW:=sO;have SMW:=eT;have jH:=jG
    clear hpl sP at1 hK1 hh JY MR
    go_wp2_with fail
    obtain⟨hPl,hPp,hPn⟩:=PL.out.at_
    have hPu:=PL.out.use (ix+1)
    have wV:=PL.out.len
    rw[<- HP.out] at hPu
    have jI : P<K1.length:=by rw[HP.out];exact hPl
    have sQ : K1[P].pub=m.pub:=by rw[<- hPp];congr 2
    have sS : K1[P].next=Own.Bf Kc m.pub:=by rw[<- hPn];congr 2
    clear hPl hPp hPn
    obtain⟨g,cap,hv,_⟩:=CO OWN.out (by omega)
    cases hv
    obtain⟨ys,Pv,hbg,hnc,hcm,hcl,hxl⟩:=KA OWN.out
    have jJ:w10.cell? ⟨g,P*2+1,none⟩=some (.int .i64 (Own.Bf Kc m.pub)):=by
     rw[Pv.cell]
     have h:=Xz K1 P jI
     rw[sS] at h
     rw[List.getElem?_toArray,List.getElem?_append_left (List.getElem?_eq_some_iff.1 h).1,h]
    have wW:=Pv.free (P*2+1)
    obtain⟨o0,o1,o2⟩:=AT.out.c3;obtain⟨y0,y1,y2,y3⟩:=NN.out.c4
    obtain⟨nx,hnx⟩:∃ nx,nx=Own.Bf Kc m.pub:=⟨_,rfl⟩
    rw[<- hnx] at jJ
    have HR5:=HR4.out
    rw[<- hnx,hPu] at HR5
    have HPU:=zh hPu
    have Z6:=zh Pv
    have HXL:=zh hxl
    clear Pv hnx hPu hxl
    by_cases hix:ix<nx
    ·have dx:decide (ix<nx)=true:=decide_eq_true hix
     have e:R=.error 8:=by rw[HR5,if_pos hix]
     have HE:=zh e
     have TW:Hid (At w10.drew (w.heap.size+1+1) 38 #[.int .i64 0,.slice none 0 0,.slice none 0 0]):=zh TWW.out.drew
     have TB:=zh (BW2.out.trans (jH.out.mono (by omega))).drew
     have x0:=TWW.out.cell 0;have x1:=TWW.out.cell 1;have x2:=TWW.out.cell 2;have x3:=TWW.out.free 0;have x4:=TWW.out.free 1;have x5:=TWW.out.free 2
     simp only[zg] at x0 x1 x2
     clear e HR5
     go_wp2_with fail
     refine Lex.zl ?_
     go_wp2_with fail
     refine Lex.ze ?_
     go_wp2_with fail
     have F2:=((TW.out.set 0 (.int .i64 0)).set 1 (.slice none 0 0)).set 2 (.slice none 0 0)
     refine Bu rfl rfl rfl (Ab F2 Tryz.underlying38 rfl Am) ?_
     rw[HQ.out,HE.out]
     exact⟨rfl,((TB.out.setCell (p:=⟨w.heap.size+1+1,0,none⟩) (by show w.heap.size<=w.heap.size+1+1;omega) _).setCell (p:=⟨w.heap.size+1+1,1,none⟩) (by show w.heap.size<=w.heap.size+1+1;omega) _).setCell (p:=⟨w.heap.size+1+1,2,none⟩) (by show w.heap.size<=w.heap.size+1+1;omega) _⟩
    ·have dx:decide (ix<nx)=false:=decide_eq_false hix
     have e:R=Own.Cj s msg (nm::seen) (K1.set P ⟨m.pub,ix+1⟩) (l.drop (k+1)):=by rw[HR5,if_neg hix]
     have HE:=zh e
     have hw:wrap64 (ix+1)=ix+1:=by unfold wrap64;omega
     clear e HR5
     go_wp2_with fail
     refine Lex.zl ?_
     go_wp2_with fail
     refine Lex.ze ?_
     go_wp2_with fail
     have hgo:OB≠g:=AT.out.ne Z6.out (by decide)
     have hgm:g≠OB+1:=SMW.out.bA Z6.out
     refine⟨⟨k+1,by omega,by go_num,nm::seen,K1.set P ⟨m.pub,ix+1⟩,_,HE.out,?_,by rw[List.length_set];omega,(AT.out.far (p:=⟨g,P*2+1,none⟩) hgo _).drew,?_,?_,?_⟩,by simp[intOf];omega⟩
     ·rw[<- HPU.out,Own.GL]
      exact Own.Srt.put _ HSR.out
     ·rw[List.length_set]
      have h1:=Z6.out.set (P*2+1) (.int .i64 (ix+1))
      have h2:=Ru K1 P jI (ix+1)
      rw[sQ] at h2
      rw[<- h2]
      have e1:((K1.flatMap Own.Co++ys).toArray.setIfInBounds (P*2+1) (.int .i64 (ix+1)))=((K1.flatMap Own.Co).set (P*2+1) (.int .i64 (ix+1))++ys).toArray:=by
       rw[List.setIfInBounds_toArray,List.set_append_left _ _ (by rw[HXL.out];omega)]
      rw[e1] at h1
      exact EI h1.drew hbg hnc hcm (by simpa using hcl) (by rw[List.take_append_of_le_length (by rw[List.length_set,HXL.out];exact Nat.le_refl _),List.take_of_length_le (by rw[List.length_set,HXL.out];exact Nat.le_refl _)])
     ·exact SMW.out.keep (zo (by show OB+1≠g;exact fun e=>hgm e.symm))
     ·exact(jH.out.setCell (p:=⟨g,P*2+1,none⟩) hbg _).drew
  | false =>
    obtain⟨K1,hK1⟩:∃ K1,K1=Kc.take P++(⟨m.pub,0⟩::Kc.drop P):=⟨_,rfl⟩
    have hpl:Own.Placed Kc K1 m.pub:=by rw[hK1,HP.out];exact Own.X0 HSR.out hh
    have PL:=zh hpl
    have og:P<=Kc.length:=by rw[HP.out];exact Own.II _ _
    have jK:Below w10.heap.size w10 (w10.alloc (.cells #[.string m.pub,.int .i64 0] 91)):=zb
    have sU:(w10.alloc (.cells #[.string m.pub,.int .i64 0] 91)).heap.size=w10.heap.size+1:=World.size_alloc _ _
    have n11:=At.new w10 91 #[.string m.pub,.int .i64 0]
    have qF:=own_below JY.out jK
    have hins:=Xy B Kc.length P w10.heap.size _ (Kc.flatMap Own.Co) [.string m.pub,.int .i64 0] _ qF (Own.qC _) og (by omega) rfl n11 (by intro u hu;simp at hu;rcases hu with rfl|rfl<;>rfl) (fun e=>by obtain⟨cur,hc⟩:=Dx JY.out e;have:=hc.lt;omega) (by omega)
    have wX:(Kc.flatMap Own.Co).take (P*2)++([.string m.pub,.int .i64 0]++(Kc.flatMap Own.Co).drop (P*2))=K1.flatMap Own.Co:=by
     have e1:Kc.flatMap Own.Co=(Kc.take P).flatMap Own.Co++(Kc.drop P).flatMap Own.Co:=by rw[<- List.flatMap_append,List.take_append_drop]
     have e2:((Kc.take P).flatMap Own.Co).length=P*2:=by rw[Own.SK,List.length_take,Nat.min_eq_left og]
     rw[hK1,List.flatMap_append,List.flatMap_cons,e1,<- e2,List.take_left,List.drop_left]
     rfl
    have wY:K1.length=Kc.length+1:=by rw[hK1];simp;omega
    have jL:=zh hins;have X5:=zh jK;have wZ:=zh wX;have zaG:=zh wY
    have o0:=(MR.out.below jK MR.out.lt).cell 0;have o1:=(MR.out.below jK MR.out.lt).cell 1
    have o2':=MR.out.cell 2
    have p1:=M10.out.cell 1
    simp only[zg] at o0 o1 o2' p1
    clear hpl hK1 hh jK n11 qF hins wX wY
    go_wp2_with fail
    refine jL.out.mono ?_
    rintro e w11 ⟨v',rfl,ho',Gv,zaH⟩
    rw[wZ.out] at ho'
    have hkeep:∀ j (t:TypeId) (cs:Array Value),At w10 j t cs->t≠91->At w11 j t cs:=fun j t cs h ht=>by
     have h1:=h.alloc (.cells #[.string m.pub,.int .i64 0] 91)
     exact h1.grown Gv (fun e=>by
      obtain⟨cur,hc⟩:=Dx JY.out e.symm
      exact h.ne hc ht rfl)
    have Z7:=hkeep _ _ _ MR.out (by decide)
    have xg:=hkeep _ _ _ N10.out (by decide)
    have xk:=hkeep _ _ _ sO.out (by decide)
    have xq:Fg w11 (OB+1) (k+1) (Own.Eb (nm::seen)):=(eT.out.below X5.out eT.out.lt).keep (Gv.block (OB+1) (by rw[sU];have:=eT.out.lt;omega) (fun e=>by
     obtain⟨cur,hc⟩:=Dx JY.out e.symm
     exact eT.out.bA hc rfl))
    have qG : Below B w2 w11:=(jG.out.trans (X5.out.mono (by omega))).grown Gv (by rw[sU];omega) (fun j hj=>Az JY.out j hj)
    have zbP:=Gv.size
    obtain⟨xa,xm,xc,rfl⟩:=Ac ho'
    rw[<- zaG.out] at ho'
    obtain rfl:=Bt ho'
    have xu:OB≠OB+1:=by omega
    have qH:(Value.slice xa K1.length xc).ownBlock≠some OB:=Z7.own_ne ho' (by decide)
    have q0:=Z7.cell 0;have q1:=Z7.cell 1;have q2:=Z7.cell 2;have q3:=Z7.free 2
    simp only[zg] at q0 q1 q2
    have xw:=zh Z7;have x9:=zh xg;have xA:=zh xk;have xB:=zh xq;have qI:=zh qG;have eU:=zh ho'
    clear hkeep Z7 xg xk xq qG ho' Gv zaH jL X5 wZ JY MR N10 sO eT jG M10 o0 o1 o2' p1
    go_upto_region 17 with fail
    have atw:At (w11.setCell ⟨OB,2,none⟩ (.slice xa K1.length xc)) OB 38 #[.int .i64 o.count,.slice sa' o.spaces.length ss',.slice xa K1.length xc]:=xw.out.set 2 (.slice xa K1.length xc)
    have xC:(w11.setCell ⟨OB,2,none⟩ (.slice xa K1.length xc)).ownsRow B 91 2 (.slice xa K1.length xc) K1.length (K1.flatMap Own.Co):=Aq eU.out (fun j hj=>zo (by rintro rfl;exact qH hj))
    have nnw:=x9.out.far (p:=⟨OB,2,none⟩) (by show wr.heap.size≠OB;omega) (.slice xa K1.length xc)
    have tww:=xA.out.far (p:=⟨OB,2,none⟩) (by show w.heap.size+1+1≠OB;omega) (.slice xa K1.length xc)
    have smw:Fg (w11.setCell ⟨OB,2,none⟩ (.slice xa K1.length xc)) (OB+1) (k+1) (Own.Eb (nm::seen)):=xB.out.keep (zo (by show OB+1≠OB;omega))
    have xD:=qI.out.setCell (p:=⟨OB,2,none⟩) zaC (.slice xa K1.length xc)
    have OWN:=zh xC;have AT:=zh atw;have NN:=zh nnw;have TWW:=zh tww;have SMW:=zh smw;have jH:=zh xD
    clear atw xC nnw tww smw xD q0 q1 q2 q3 qH xw x9 xA xB qI eU xu
    generalize w11.setCell ⟨OB,2,none⟩ (.slice xa K1.length xc)=w12 at*
    obtain⟨hPl,hPp,hPn⟩:=PL.out.at_
    have hPu:=PL.out.use (ix+1)
    have wV:=PL.out.len
    rw[<- HP.out] at hPu
    have jI : P<K1.length:=by rw[HP.out];exact hPl
    have sQ : K1[P].pub=m.pub:=by rw[<- hPp];congr 2
    have sS : K1[P].next=Own.Bf Kc m.pub:=by rw[<- hPn];congr 2
    clear hPl hPp hPn
    obtain⟨g,cap,hv,_⟩:=CO OWN.out (by omega)
    cases hv
    obtain⟨ys,Pv,hbg,hnc,hcm,hcl,hxl⟩:=KA OWN.out
    have jJ:w12.cell? ⟨g,P*2+1,none⟩=some (.int .i64 (Own.Bf Kc m.pub)):=by
     rw[Pv.cell]
     have h:=Xz K1 P jI
     rw[sS] at h
     rw[List.getElem?_toArray,List.getElem?_append_left (List.getElem?_eq_some_iff.1 h).1,h]
    have wW:=Pv.free (P*2+1)
    obtain⟨o0,o1,o2⟩:=AT.out.c3;obtain⟨y0,y1,y2,y3⟩:=NN.out.c4
    obtain⟨nx,hnx⟩:∃ nx,nx=Own.Bf Kc m.pub:=⟨_,rfl⟩
    rw[<- hnx] at jJ
    have HR5:=HR4.out
    rw[<- hnx,hPu] at HR5
    have HPU:=zh hPu
    have Z6:=zh Pv
    have HXL:=zh hxl
    clear Pv hnx hPu hxl
    by_cases hix:ix<nx
    ·have dx:decide (ix<nx)=true:=decide_eq_true hix
     have e:R=.error 8:=by rw[HR5,if_pos hix]
     have HE:=zh e
     have TW:Hid (At w12.drew (w.heap.size+1+1) 38 #[.int .i64 0,.slice none 0 0,.slice none 0 0]):=zh TWW.out.drew
     have TB:=zh (BW2.out.trans (jH.out.mono (by omega))).drew
     have x0:=TWW.out.cell 0;have x1:=TWW.out.cell 1;have x2:=TWW.out.cell 2;have x3:=TWW.out.free 0;have x4:=TWW.out.free 1;have x5:=TWW.out.free 2
     simp only[zg] at x0 x1 x2
     clear e HR5
     go_wp2_with fail
     refine Lex.zl ?_
     go_wp2_with fail
     refine Lex.ze ?_
     go_wp2_with fail
     have F2:=((TW.out.set 0 (.int .i64 0)).set 1 (.slice none 0 0)).set 2 (.slice none 0 0)
     refine Bu rfl rfl rfl (Ab F2 Tryz.underlying38 rfl Am) ?_
     rw[HQ.out,HE.out]
     exact⟨rfl,((TB.out.setCell (p:=⟨w.heap.size+1+1,0,none⟩) (by show w.heap.size<=w.heap.size+1+1;omega) _).setCell (p:=⟨w.heap.size+1+1,1,none⟩) (by show w.heap.size<=w.heap.size+1+1;omega) _).setCell (p:=⟨w.heap.size+1+1,2,none⟩) (by show w.heap.size<=w.heap.size+1+1;omega) _⟩
    ·have dx:decide (ix<nx)=false:=decide_eq_false hix
     have e:R=Own.Cj s msg (nm::seen) (K1.set P ⟨m.pub,ix+1⟩) (l.drop (k+1)):=by rw[HR5,if_neg hix]
     have HE:=zh e
     have hw:wrap64 (ix+1)=ix+1:=by unfold wrap64;omega
     clear e HR5
     go_wp2_with fail
     refine Lex.zl ?_
     go_wp2_with fail
     refine Lex.ze ?_
     go_wp2_with fail
     have hgo:OB≠g:=AT.out.ne Z6.out (by decide)
     have hgm:g≠OB+1:=SMW.out.bA Z6.out
     refine⟨⟨k+1,by omega,by go_num,nm::seen,K1.set P ⟨m.pub,ix+1⟩,_,HE.out,?_,by rw[List.length_set];omega,(AT.out.far (p:=⟨g,P*2+1,none⟩) hgo _).drew,?_,?_,?_⟩,by simp[intOf];omega⟩
     ·rw[<- HPU.out,Own.GL]
      exact Own.Srt.put _ HSR.out
     ·rw[List.length_set]
      have h1:=Z6.out.set (P*2+1) (.int .i64 (ix+1))
      have h2:=Ru K1 P jI (ix+1)
      rw[sQ] at h2
      rw[<- h2]
      have e1:((K1.flatMap Own.Co++ys).toArray.setIfInBounds (P*2+1) (.int .i64 (ix+1)))=((K1.flatMap Own.Co).set (P*2+1) (.int .i64 (ix+1))++ys).toArray:=by
       rw[List.setIfInBounds_toArray,List.set_append_left _ _ (by rw[HXL.out];omega)]
      rw[e1] at h1
      exact EI h1.drew hbg hnc hcm (by simpa using hcl) (by rw[List.take_append_of_le_length (by rw[List.length_set,HXL.out];exact Nat.le_refl _),List.take_of_length_le (by rw[List.length_set,HXL.out];exact Nat.le_refl _)])
     ·exact SMW.out.keep (zo (by show OB+1≠g;exact fun e=>hgm e.symm))
     ·exact(jH.out.setCell (p:=⟨g,P*2+1,none⟩) hbg _).drew
namespace Own
theorem MU {o:Ak}(h:AQ o=true):Srt KeyUse.pub o.keys:=by
 unfold AQ at h
 simp only[Bool.and_eq_true] at h
 exact(IJ (f:=KeyUse.pub) h.2).1
def Ig (o:Ak)(s msg:ByteArray)(l:List AZ):Except Int (List KeyUse):=
 if AQ o then
  match authority o s with
  | none=>.error 6
  | some x => match Cj x msg [] o.keys l with
    | .error c=>.error c
    | .ok K=>if (l.length:Int)<x.threshold then .error 20 else .ok K
 else .error 1
end Own
def PY (X:Nat->Prop)(w:World)(o:Own.Ak)(R:Except Int (List Own.KeyUse))(e:Ending)(w' : World):Prop:=
 (match R with
   | .error c=>e=.returned (.tuple #[Own.nobody,.int .i64 c])
   | .ok K=>∃ sv kv,e=.returned (.tuple #[.agg #[.int .i64 o.count,sv,kv],.int .i64 0])/\Ag 3 Own.CB (fun k=>¬ X k) w' sv o.spaces/\Ag 2 Own.ML (fun k=>¬ X k) w' kv K)/\Below w.heap.size w w'
theorem Rv (X:Nat->Prop)(o:Own.Ak)(s msg:ByteArray)(l:List Own.AZ)(sv kv lv:Value)(w:World)(hX:∀ k,X k->k<w.heap.size)(hMx:Fe w)(hSx:Ag 3 Own.CB (fun k=>¬ X k) w sv o.spaces)(hK:Own.Bo w kv o.keys)(hA:Own.MQ w lv l)
 (hls:o.spaces.length<=3000000) (hlk:o.keys.length+l.length<=900000) (hlm:∀ s∈o.spaces,s.members.length<=3000000) (GY:msg.size<=9223372036854775000)
 (hal:∀ a∈l,a.name.size<=140737488355328/\a.sig.chains.length<=140737488355328/\a.sig.path.length<=140737488355328):
 Calls Tryz.prog 97 #[.agg #[.int .i64 o.count,sv,kv],.string s,.string msg,lv] w (PY X w o (Own.Ig o s msg l)):=by
 obtain⟨R,hR⟩:∃ R,R=Own.Ig o s msg l:=⟨_,rfl⟩
 obtain⟨Q,hQ⟩:∃ Q,Q=PY X w o R:=⟨_,rfl⟩
 rw[<- hR,<- hQ]
 have HQ:=zh hQ;have HR:=zh hR;clear hQ hR
 obtain⟨sa,sc,rfl⟩:=hSx.len
 have hS:Own.AJ w (.slice sa o.spaces.length sc) o.spaces:=hSx.mono (fun _ _ _=>trivial)
 have HSX:=zh hSx;clear hSx
 obtain⟨ka,kc,rfl⟩:=hK.len
 obtain⟨la,lc,rfl,hap⟩:=id hA
 clear hap
 have ha0:=(At.new w 38 #[.int .i64 o.count,.slice sa o.spaces.length sc,.slice ka o.keys.length kc]).alloc (.cells #[.int .i64 0,.slice none 0 0,.slice none 0 0] 38)
 have ha1:=At.new1 w (.cells #[.int .i64 o.count,.slice sa o.spaces.length sc,.slice ka o.keys.length kc] 38) 38 #[.int .i64 0,.slice none 0 0,.slice none 0 0]
 have hb1:Below w.heap.size w ((w.alloc (.cells #[.int .i64 o.count,.slice sa o.spaces.length sc,.slice ka o.keys.length kc] 38)).alloc (.cells #[.int .i64 0,.slice none 0 0,.slice none 0 0] 38)):=zb.alloc (by simp) _
 have hz1:((w.alloc (.cells #[.int .i64 o.count,.slice sa o.spaces.length sc,.slice ka o.keys.length kc] 38)).alloc (.cells #[.int .i64 0,.slice none 0 0,.slice none 0 0] 38)).heap.size=w.heap.size+2:=by simp
 obtain⟨c0,c1,c2⟩:=ha0.c3
 have HS:=zh hS;have HK:=zh hK;have HA:=zh hA;have HMX:=zh hMx;have A0:=zh ha0;have A1:=zh ha1;have B1:=zh hb1;have HLM:=zh hlm;have HAL:=zh hal
 clear hS hK hA hMx ha0 ha1 hb1 hlm hal
 go_enter Tryz.func97,Tryz.ntmps97
 go_wp2_with fail
 generalize (w.alloc (.cells #[.int .i64 o.count,.slice sa o.spaces.length sc,.slice ka o.keys.length kc] 38)).alloc (.cells #[.int .i64 0,.slice none 0 0,.slice none 0 0] 38)=w1 at*
 refine(EU o _ _ w1 (HMX.out.below B1.out) (HS.out.below B1.out) (HK.out.below B1.out) (by omega) (by omega) (fun s hs=>by have:=HLM.out s hs;omega)).mono ?_
 rintro e w2 ⟨rfl,hb2⟩
 have A02:=zh (A0.out.below hb2 (by omega));have A12:=zh (A1.out.below hb2 (by omega));have B2:=zh (B1.out.trans (hb2.mono B1.out.size))
 have hz2:=hb2.size
 obtain⟨y0,y1,y2⟩:=A02.out.c3
 clear hb2 A0 A1 B1 c0 c1 c2
 cases hv:Own.AQ o with
 | false =>
   have e:R=.error 1:=by rw[HR.out,Own.Ig,if_neg (by rw[hv];simp)]
   have HE:=zh e
   have TW:=A12;have TB:=B2
   have x0:=TW.out.cell 0;have x1:=TW.out.cell 1;have x2:=TW.out.cell 2;have x3:=TW.out.free 0;have x4:=TW.out.free 1;have x5:=TW.out.free 2
   simp only[zg] at x0 x1 x2
   clear e hv
   go_wp2_with fail
   have F2:=((TW.out.set 0 (.int .i64 0)).set 1 (.slice none 0 0)).set 2 (.slice none 0 0)
   refine Bu rfl rfl rfl (Ab F2 Tryz.underlying38 rfl Am) ?_
   rw[HQ.out,HE.out]
   exact⟨rfl,((TB.out.setCell (p:=⟨w.heap.size+1,0,none⟩) (by simp) _).setCell (p:=⟨w.heap.size+1,1,none⟩) (by simp) _).setCell (p:=⟨w.heap.size+1,2,none⟩) (by simp) _⟩
 | true=>
 have hR2:R=(match Own.authority o s with
  | none=>.error 6
  | some x => match Own.Cj x msg [] o.keys l with
    | .error c=>.error c
    | .ok K=>if (l.length:Int)<x.threshold then .error 20 else .ok K):=by rw[HR.out,Own.Ig,if_pos hv]
 have HR2:=zh hR2;have sG:=zh (Own.MU hv);have HOK:=zh (Own.OK.of hv)
 clear hR2 hv
 go_wp2_with fail
 refine(EH o s _ _ w2 (HMX.out.below B2.out) (HS.out.below B2.out) (HK.out.below B2.out) (by omega) (by omega) (fun s hs=>by have:=HLM.out s hs;omega)).mono ?_
 intro e w3 hpost
 obtain⟨hval,hb3⟩:=hpost
 have A03:=zh (A02.out.below hb3 (by omega));have A13:=zh (A12.out.below hb3 (by omega));have B3:=zh (B2.out.trans (hb3.mono B2.out.size))
 have hz3:=hb3.size
 clear hb3 A02 A12 B2 y0 y1 y2
 cases hau:Own.authority o s with
 | none =>
   rw[hau] at hval
   have D5:e=.returned (.tuple #[.agg #[.string ⟨#[]⟩,.slice none 0 0,.int .i64 0],.bool false]):=hval
   subst D5
   have e:R=.error 6:=by rw[HR2.out,hau]
   have HE:=zh e
   have TW:=zh (A13.out.alloc (.cells #[.string ⟨#[]⟩,.slice none 0 0,.int .i64 0] 70));have TB:=zh (B3.out.alloc B3.out.size (.cells #[.string ⟨#[]⟩,.slice none 0 0,.int .i64 0] 70))
   have x0:=TW.out.cell 0;have x1:=TW.out.cell 1;have x2:=TW.out.cell 2;have x3:=TW.out.free 0;have x4:=TW.out.free 1;have x5:=TW.out.free 2
   simp only[zg] at x0 x1 x2
   clear e hau hval
   go_wp2_with fail
   have F2:=((TW.out.set 0 (.int .i64 0)).set 1 (.slice none 0 0)).set 2 (.slice none 0 0)
   refine Bu rfl rfl rfl (Ab F2 Tryz.underlying38 rfl Am) ?_
   rw[HQ.out,HE.out]
   exact⟨rfl,((TB.out.setCell (p:=⟨w.heap.size+1,0,none⟩) (by simp) _).setCell (p:=⟨w.heap.size+1,1,none⟩) (by simp) _).setCell (p:=⟨w.heap.size+1,2,none⟩) (by simp) _⟩
 | some sp=>
 rw[hau] at hval
 obtain⟨mv,rfl,hom⟩:=hval
 have hmem:=Own.Le hau
 have hR3:R=(match Own.Cj sp msg [] o.keys l with
  | .error c=>.error c
  | .ok K=>if (l.length:Int)<sp.threshold then .error 20 else .ok K):=by rw[HR2.out,hau]
 obtain⟨ma,mm,mc,rfl⟩:=Ac hom
 obtain rfl:=Bt hom
 have hb4:Below w3.heap.size w3 (w3.alloc (.cells #[.string sp.pre,.slice ma sp.members.length mc,.int .i64 sp.threshold] 70)):=zb
 have hz4:(w3.alloc (.cells #[.string sp.pre,.slice ma sp.members.length mc,.int .i64 sp.threshold] 70)).heap.size=w3.heap.size+1:=World.size_alloc _ _
 have hmc:Own.Ar (w3.alloc (.cells #[.string sp.pre,.slice ma sp.members.length mc,.int .i64 sp.threshold] 70)) (.slice ma sp.members.length mc) sp.members:=(Own.Ar.of (Bz.own hom) rfl).below hb4
 have B4:=zh (B3.out.trans (hb4.mono B3.out.size));have A04:=zh (A03.out.below hb4 (by omega));have A14:=zh (A13.out.below hb4 (by omega))
 have hap:=SL (fun k=>X k\/(w.heap.size<=k/\k<w.heap.size+2)) o sp msg l (.slice sa o.spaces.length sc) (.slice ka o.keys.length kc) (.slice ma sp.members.length mc) (.slice la l.length lc) _ (fun k hk=>by rcases hk with hk|hk;have:=hX k hk;omega;omega) ((HSX.out.mono (G:=fun k=>¬ (X k\/(w.heap.size<=k/\k<w.heap.size+2))) (fun k hx hk h=>h.elim hx (fun h=>by omega))).below B4.out) (HK.out.below B4.out) hmc (HA.out.below B4.out) sG.out hls hlk HLM.out (HLM.out sp hmem) GY HAL.out
 obtain⟨y0,y1,y2⟩:=A04.out.c3
 have HAP:=zh hap;have HR3:=zh hR3
 clear hap hR3 hau hmem hom hb4 hmc HR2 A03 A13 B3
 go_wp2_with fail
 refine HAP.out.mono ?_
 intro e w5 hpost
 obtain⟨hval,hb5⟩:=hpost
 have TW:=zh (A14.out.below hb5 (by omega));have TB:=zh (B4.out.trans (hb5.mono B4.out.size))
 have hz5:=hb5.size
 clear hb5 A04 A14 B4 y0 y1 y2 HAP
 have x0:=TW.out.cell 0;have x1:=TW.out.cell 1;have x2:=TW.out.cell 2;have x3:=TW.out.free 0;have x4:=TW.out.free 1;have x5:=TW.out.free 2
 simp only[zg] at x0 x1 x2
 cases hf:Own.Cj sp msg [] o.keys l with
 | error c =>
   rw[hf] at hval
   have D5:e=.returned (.tuple #[Own.nobody,.int .i64 c]):=hval
   subst D5
   have e:R=.error c:=by rw[HR3.out,hf]
   have HE:=zh e
   unfold Own.nobody
   clear e hf hval
   go_wp2_with fail
   have F2:=((TW.out.set 0 (.int .i64 0)).set 1 (.slice none 0 0)).set 2 (.slice none 0 0)
   refine Bu rfl rfl rfl (Ab F2 Tryz.underlying38 rfl Am) ?_
   rw[HQ.out,HE.out]
   exact⟨rfl,((TB.out.setCell (p:=⟨w.heap.size+1,0,none⟩) (by simp) _).setCell (p:=⟨w.heap.size+1,1,none⟩) (by simp) _).setCell (p:=⟨w.heap.size+1,2,none⟩) (by simp) _⟩
 | ok K =>
   rw[hf] at hval
   by_cases hth:(l.length:Int)<sp.threshold
   ·have D5 : e = .returned (.tuple #[Own.nobody,.int .i64 20]) :=by
     have h:if (l.length:Int)<sp.threshold then e=.returned (.tuple #[Own.nobody,.int .i64 20]) else _:=hval
     rw[if_pos hth] at h
     exact h
    subst D5
    have e:R=.error 20:=by rw[HR3.out,hf];exact if_pos hth
    have HE:=zh e
    unfold Own.nobody
    clear e hf hval
    go_wp2_with fail
    have F2:=((TW.out.set 0 (.int .i64 0)).set 1 (.slice none 0 0)).set 2 (.slice none 0 0)
    refine Bu rfl rfl rfl (Ab F2 Tryz.underlying38 rfl Am) ?_
    rw[HQ.out,HE.out]
    exact⟨rfl,((TB.out.setCell (p:=⟨w.heap.size+1,0,none⟩) (by simp) _).setCell (p:=⟨w.heap.size+1,1,none⟩) (by simp) _).setCell (p:=⟨w.heap.size+1,2,none⟩) (by simp) _⟩
   ·have D5 : ∃ sv kv,e = .returned (.tuple #[.agg #[.int .i64 o.count,sv,kv],.int .i64 0]) ∧ Ag 3 Own.CB (fun k => ¬ (X k ∨ (w.heap.size ≤ k ∧ k < w.heap.size + 2))) w5 sv o.spaces ∧ Ag 2 Own.ML (fun k => ¬ (X k ∨ (w.heap.size ≤ k ∧ k < w.heap.size + 2))) w5 kv K :=by
     have h:if (l.length:Int)<sp.threshold then _ else ∃ sv kv,e=.returned (.tuple #[.agg #[.int .i64 o.count,sv,kv],.int .i64 0])/\Ag 3 Own.CB (fun k=>¬ (X k\/(w.heap.size<=k/\k<w.heap.size+2))) w5 sv o.spaces/\Ag 2 Own.ML (fun k=>¬ (X k\/(w.heap.size<=k/\k<w.heap.size+2))) w5 kv K:=hval
     rw[if_neg hth] at h
     exact h
    obtain⟨sv2,kv2,rfl,hs2,hk2⟩:=D5
    have e:R=.ok K:=by rw[HR3.out,hf];exact if_neg hth
    have HE:=zh e;have HS2:=zh hs2;have HK2:=zh hk2
    obtain⟨va,vc,rfl⟩:=hs2.len
    obtain⟨ua,uc,rfl⟩:=hk2.len
    clear e hf hval hs2 hk2
    go_wp2_with fail
    have F2:=((TW.out.set 0 (.int .i64 o.count)).set 1 (.slice va o.spaces.length vc)).set 2 (.slice ua K.length uc)
    have jD:∀ j,¬ (X j\/(w.heap.size<=j/\j<w.heap.size+2))->(((w5.setCell ⟨w.heap.size+1,0,none⟩ (.int .i64 o.count)).setCell ⟨w.heap.size+1,1,none⟩ (.slice va o.spaces.length vc)).setCell ⟨w.heap.size+1,2,none⟩ (.slice ua K.length uc)).heap[j]? = w5.heap[j]? :=fun j hj=>by
     have hne:j≠w.heap.size+1:=by rintro rfl;exact hj (.inr ⟨by omega,by omega⟩)
     rw[zo hne,zo hne,zo hne]
    refine Bu rfl rfl rfl (Ab F2 Tryz.underlying38 rfl Am) ?_
    rw[HQ.out,HE.out]
    refine⟨⟨_,_,rfl,?_,?_⟩,((TB.out.setCell (p:=⟨w.heap.size+1,0,none⟩) (by simp) _).setCell (p:=⟨w.heap.size+1,1,none⟩) (by simp) _).setCell (p:=⟨w.heap.size+1,2,none⟩) (by simp) _⟩
    ·exact(HS2.out.keep (by simp[World.setCell]) (fun k hk _=>jD k hk)).mono (fun k hk _ hx=>hk (.inl hx))
    ·exact(HK2.out.keep (by simp[World.setCell]) (fun k hk _=>jD k hk)).mono (fun k hk _ hx=>hk (.inl hx))
namespace Own
theorem Lh (s:ByteArray):∀ (l:List Space) (b:Option Space) (x:Space),ET s b l=some x->belongs s x.pre=true\/b=some x
 | [],b,x,h=>.inr h
 | y :: l,b,x,h => by
   rw[EG] at h
   rcases Lh s l _ x h with h|h
   ·exact .inl h
   ·unfold GH at h
    split at h
    ·rename_i hc
     cases h
     exact .inl (Bool.and_eq_true_iff.1 hc).1
    ·exact .inr h
theorem Gs {o:Ak}{s:ByteArray}{x:Space}(h:authority o s=some x):AQ o=true/\Bp s=true/\belongs s x.pre=true/\x∈o.spaces:=by
 have hm:=Le h
 unfold authority at h
 split at h
 ·rename_i hc
  obtain⟨h1,h2⟩:=Bool.and_eq_true_iff.1 hc
  rcases Lh s _ _ x h with h3|h3
  ·exact⟨h1,h2,h3,hm⟩
  ·cases h3
 ·cases h
theorem Ih:∀ (pre l:List Member),Aw pre l=true->∀ m∈l,Bq m.name=true/\Sig.Bw m.pub=true
 | _,[],_,m,hm=>by cases hm
 | pre,x :: l,h,m,hm => by
   have h' : (Bj pre x&&Aw (pre++[x]) l)=true:=h
   obtain⟨h1,h2⟩:=Bool.and_eq_true_iff.1 h'
   rcases List.mem_cons.1 hm with rfl|hm
   ·unfold Bj at h1
    simp only[Bool.and_eq_true] at h1
    exact⟨h1.1.1.1,h1.1.1.2⟩
   ·exact Ih _ l h2 m hm
def alone (o:Ak)(s:Space)(m:Member):Ak :={ o with spaces:=[⟨s.pre,[m],1⟩] }
theorem X6 {o:Ak}{s:Space}{m:Member}(ho:AQ o=true)(hs:AO s=true)(hm:m∈s.members):AQ (alone o s m)=true:=by
 have hp:=Vn.of hs
 obtain⟨h1,h2⟩:=Ih _ _ hp.mem m hm
 have hsp:AO ⟨s.pre,[m],1⟩=true:=by
  unfold AO Cv Aw Aw Bj
  simp[hp.path,h1,h2]
 unfold AQ alone at*
 simp only[Bool.and_eq_true] at ho ⊢
 obtain⟨⟨⟨⟨a1,a2⟩,a3⟩,a4⟩,a5⟩:=ho
 refine⟨⟨⟨⟨a1,a2⟩,by simp⟩,?_⟩,a5⟩
 simp[Aj,hsp]
theorem Pw {o:Ak}{s:Space}{m:Member}{p:ByteArray}(ho:AQ o=true)(hs:AO s=true)(hm:m∈s.members)(hp:Bp p=true)(hb:belongs p s.pre=true):authority (alone o s m) p=some ⟨s.pre,[m],1⟩:=by
 unfold authority
 rw[X6 ho hs hm,hp]
 show ET p none [⟨s.pre,[m],1⟩]=_
 rw[EG]
 unfold GH
 rw[show belongs p (⟨s.pre,[m],1⟩:Space).pre=true from hb]
 rfl
theorem SN {o:Ak}{s:Space}{m:Member}{p msg:ByteArray}{a:AZ}(ho:AQ o=true)(hs:AO s=true)(hm:m∈s.members)(hp:Bp p=true)(hb:belongs p s.pre=true)(hn:m.name=a.name):
 Ig (alone o s m) p msg [a]=if Sig.verify m.pub msg a.sig then (if a.sig.index<Bf o.keys m.pub then .error 8 else .ok (use o.keys ⟨m.pub,a.sig.index+1⟩)) else .error 18:=by
 unfold Ig
 rw[if_pos (X6 ho hs hm),Pw ho hs hm hp hb]
 have hf:find [m] a.name=some m:=by unfold find;rw[List.find?_cons_of_pos (by simpa using hn)]
 have hA:Cj ⟨s.pre,[m],1⟩ msg [] (alone o s m).keys [a]=if Sig.verify m.pub msg a.sig then (if a.sig.index<Bf o.keys m.pub then .error 8 else .ok (use o.keys ⟨m.pub,a.sig.index+1⟩)) else .error 18:=by
  unfold Cj
  rw[hf]
  rfl
 dsimp only
 rw[hA]
 cases Sig.verify m.pub msg a.sig with
 | false=>rfl
 | true =>
   by_cases h:a.sig.index<Bf o.keys m.pub
   ·rw[if_pos rfl,if_pos h]
   ·rw[if_pos rfl,if_neg h];rfl
def Fw (o:Ak)(s:Space)(msg:ByteArray)(a:AZ):Except Int (Member × List KeyUse):=match find s.members a.name with
 | none=>.error 6
 | some m=>if Sig.verify m.pub msg a.sig then (if a.sig.index<Bf o.keys m.pub then .error 8 else .ok (m,use o.keys ⟨m.pub,a.sig.index+1⟩)) else .error 18
theorem DN.zaI {w:World}{g k:Nat}{F:Nat->Prop}{S:List Space}(h:DN w g F S)(hF:∀ k,F k->k≠g)(hk:k<S.length)(v' : Value)(hv:Ag 2 Cb F w v' S[k].members):
 DN (w.setCell ⟨g,k*3+1,none⟩ v') g F S:=by
 obtain⟨cur,vs,h1,h2⟩:=h.row
 have keep:∀ (l:List Member) (v:Value),Ag 2 Cb F w v l->Ag 2 Cb F (w.setCell ⟨g,k*3+1,none⟩ v') v l:=fun l v hl=>
  hl.keep (by simp[World.setCell]) (fun j hj _=>zo (hF j hj))
 refine⟨_,fun i=>if i=k then v' else vs i,h1.set (k*3+1) _,fun i hi=>?_⟩
 obtain⟨a,b,d,e⟩:=h2 i hi
 by_cases hik:i=k
 ·subst hik
  have s1:=(Array.getElem?_eq_some_iff.1 b).1
  refine⟨?_,?_,?_,?_⟩
  ·rw[Array.getElem?_setIfInBounds_ne (by omega)];exact a
  ·show _=some (if i=i then v' else vs i)
   rw[Array.getElem?_setIfInBounds_self_of_lt s1,if_pos rfl]
  ·rw[Array.getElem?_setIfInBounds_ne (by omega)];exact d
  ·show Ag _ _ _ _ (if i=i then v' else vs i) _
   rw[if_pos rfl];exact keep _ _ hv
 ·refine⟨?_,?_,?_,?_⟩
  ·rw[Array.getElem?_setIfInBounds_ne (by omega)];exact a
  ·show _=some (if i=k then v' else vs i)
   rw[Array.getElem?_setIfInBounds_ne (by omega),if_neg hik];exact b
  ·rw[Array.getElem?_setIfInBounds_ne (by omega)];exact d
  ·show Ag _ _ _ _ (if i=k then v' else vs i) _
   rw[if_neg hik];exact keep _ _ e
end Own
theorem X7 (x:Own.Member)(g:Nat)(nm:ByteArray)(w:World)(hc:w.cell? ⟨g,0,none⟩=some (.string nm)):
 Calls Tryz.prog 96 (#[.agg #[.string x.name,.string x.pub]]++#[.pointer (some ⟨g,0,none⟩)]) w fun e w' => e=.returned (.bool (decide (x.name=nm)))/\Below w.heap.size w w':=by
 obtain⟨R,hR⟩:∃ R,R=decide (x.name=nm):=⟨_,rfl⟩
 rw[<- hR]
 rw[<- bytes_beq] at hR
 have hb1:Below w.heap.size w (w.alloc (.cells #[.string x.name,.string x.pub] 73)):=zb
 have q:=(hb1.cell (p:=⟨g,0,none⟩) (block_lt hc)).trans hc
 have HB:=zh hb1;have HR:=zh hR
 clear hb1 hc hR
 show Calls Tryz.prog 96 #[.agg #[.string x.name,.string x.pub],.pointer (some ⟨g,0,none⟩)] w _
 go_enter Tryz.func96,Tryz.ntmps96
 go_wp2_with fail
 go_ret
 exact⟨by rw[HR.out];rfl,HB.out⟩
theorem JZ.cells {F:Nat->Prop}{w:World}{a:Option Addr}{n c:Nat}{l:List Own.Member}(h:Ag 2 Own.Cb F w (.slice a n c) l){i:Nat}(hi:i<l.length):∃ b o,a=some ⟨b,o,none⟩/\F b/\b<w.heap.size/\w.cell? ⟨b,o+i*2,none⟩=some (.string l[i].name)/\w.cell? ⟨b,o+i*2+1,none⟩=some (.string l[i].pub):=by
 obtain⟨b,o,ha,hF,hb,cs,h1,h2,h3⟩:=h.at_ hi
 have h3:cs=_:=h3
 subst h3
 exact⟨b,o,ha,hF,hb,h2 0 _ rfl,h2 1 _ rfl⟩
theorem JZ.one {F:Nat->Prop}{w:World}{mb mo n c c' j:Nat}{l:List Own.Member}(h:Ag 2 Own.Cb F w (.slice (some ⟨mb,mo,none⟩) n c) l)(hj:j<l.length):Ag 2 Own.Cb F w (.slice (some ⟨mb,mo+j*2,none⟩) 1 c') [l[j]]:=by
 obtain⟨b,o,ha,hF,hb,h1,h2⟩:=JZ.cells h hj
 cases ha
 refine⟨_,c',rfl,.inr ⟨mb,_,rfl,hF,hb,fun i hi=>?_⟩⟩
 have:i=0:=by simpa using hi
 subst this
 refine⟨_,rfl,fun k u hk=>?_,rfl⟩
 rw[Nat.zero_mul,Nat.add_zero]
 match k,hk with
 | 0,hk=>cases hk;exact h1
 | 1,hk=>cases hk;exact h2
def X8 (X:Nat->Prop)(w:World)(o:Own.Ak)(R:Except Int (Own.Member × List Own.KeyUse))(e:Ending)(w' : World):Prop:=
 (match R with
   | .error c=>e=.returned (.tuple #[Own.nobody,.string ⟨#[]⟩,.int .i64 c])
   | .ok (m,K)=>∃ sv kv,e=.returned (.tuple #[.agg #[.int .i64 o.count,sv,kv],.string m.pub,.int .i64 0])/\Ag 3 Own.CB (fun k=>¬ X k) w' sv o.spaces/\Ag 2 Own.ML (fun k=>¬ X k) w' kv K)/\Below w.heap.size w w'
theorem Z8 (X:Nat->Prop)(o:Own.Ak)(s:Own.Space)(path msg:ByteArray)(a:Own.AZ)(sv kv cv pv:Value)(ma:Option Addr)(mc:Nat)(w:World)(hX:∀ k,X k->k<w.heap.size)(hMx:Fe w)(hS:Ag 3 Own.CB (fun k=>¬ X k) w sv o.spaces)(hK:Own.Bo w kv o.keys)
 (hm:Ag 2 Own.Cb (fun k=>¬ X k) w (.slice ma s.members.length mc) s.members) (hmc:s.members.length<=mc) (hcs:Ay w cv a.sig.chains) (hps:Ay w pv a.sig.path) (hcap:CS pv) (hau:Own.authority o path=some s) (hlk:o.keys.length<=800000) (GY:msg.size<=9223372036854775000)
 (hal:a.name.size<=140737488355328/\a.sig.chains.length<=140737488355328/\a.sig.path.length<=140737488355328):
 Calls Tryz.prog 62 #[.agg #[.int .i64 o.count,sv,kv],.agg #[.string s.pre,.slice ma s.members.length mc,.int .i64 s.threshold],.string path,.string msg,.agg #[.string a.name,.int .i64 a.sig.index,cv,pv]] w (X8 X w o (Own.Fw o s msg a)):=by
 obtain⟨R,hR⟩:∃ R,R=Own.Fw o s msg a:=⟨_,rfl⟩
 obtain⟨Q,hQ⟩:∃ Q,Q=X8 X w o R:=⟨_,rfl⟩
 rw[<- hR,<- hQ]
 obtain⟨hok,qJ,hbel,hmem⟩:=Own.Gs hau
 have hOK:=Own.OK.of hok
 have hsp:=hOK.sp s hmem
 have hSP:=Own.Vn.of hsp
 obtain⟨nm,⟨ix,chs,pth⟩⟩:=a
 dsimp only at*
 obtain⟨ca,cc,rfl⟩:=hcs.len
 obtain⟨pa,pc,rfl⟩:=hps.len
 obtain⟨sa,sc,rfl⟩:=hS.len
 obtain⟨ka,kc,rfl⟩:=hK.len
 have hml:=hSP.len
 have hb1:Below w.heap.size w ((((w.alloc (.cells #[.int .i64 o.count,.slice sa o.spaces.length sc,.slice ka o.keys.length kc] 38)).alloc (.cells #[.string s.pre,.slice ma s.members.length mc,.int .i64 s.threshold] 70)).alloc (.cells #[.string nm,.int .i64 ix,.slice ca chs.length cc,.slice pa pth.length pc] 43)).alloc (.cells #[.int .i64 0,.slice none 0 0,.slice none 0 0] 38)):=((zb.alloc (by simp) _).alloc (by simp;omega) _).alloc (by simp;omega) _
 have hz1:((((w.alloc (.cells #[.int .i64 o.count,.slice sa o.spaces.length sc,.slice ka o.keys.length kc] 38)).alloc (.cells #[.string s.pre,.slice ma s.members.length mc,.int .i64 s.threshold] 70)).alloc (.cells #[.string nm,.int .i64 ix,.slice ca chs.length cc,.slice pa pth.length pc] 43)).alloc (.cells #[.int .i64 0,.slice none 0 0,.slice none 0 0] 38)).heap.size=w.heap.size+4:=by simp
 have ha0:=(((At.new w 38 #[.int .i64 o.count,.slice sa o.spaces.length sc,.slice ka o.keys.length kc]).alloc (.cells #[.string s.pre,.slice ma s.members.length mc,.int .i64 s.threshold] 70)).alloc (.cells #[.string nm,.int .i64 ix,.slice ca chs.length cc,.slice pa pth.length pc] 43)).alloc (.cells #[.int .i64 0,.slice none 0 0,.slice none 0 0] 38)
 have ha1:=((At.new1 w (.cells #[.int .i64 o.count,.slice sa o.spaces.length sc,.slice ka o.keys.length kc] 38) 70 #[.string s.pre,.slice ma s.members.length mc,.int .i64 s.threshold]).alloc (.cells #[.string nm,.int .i64 ix,.slice ca chs.length cc,.slice pa pth.length pc] 43)).alloc (.cells #[.int .i64 0,.slice none 0 0,.slice none 0 0] 38)
 have ha2:=(At.new ((w.alloc (.cells #[.int .i64 o.count,.slice sa o.spaces.length sc,.slice ka o.keys.length kc] 38)).alloc (.cells #[.string s.pre,.slice ma s.members.length mc,.int .i64 s.threshold] 70)) 43 #[.string nm,.int .i64 ix,.slice ca chs.length cc,.slice pa pth.length pc]).alloc (.cells #[.int .i64 0,.slice none 0 0,.slice none 0 0] 38)
 have ha3:=At.new (((w.alloc (.cells #[.int .i64 o.count,.slice sa o.spaces.length sc,.slice ka o.keys.length kc] 38)).alloc (.cells #[.string s.pre,.slice ma s.members.length mc,.int .i64 s.threshold] 70)).alloc (.cells #[.string nm,.int .i64 ix,.slice ca chs.length cc,.slice pa pth.length pc] 43)) 38 #[.int .i64 0,.slice none 0 0,.slice none 0 0]
 rw[World.size_alloc,World.size_alloc] at ha2
 rw[World.size_alloc,World.size_alloc,World.size_alloc] at ha3
 have c1:=ha1.cell 1
 simp only[zg] at c1
 have HQ:=zh hQ;have HR:=zh hR;have HS:=zh hS;have HK:=zh hK;have HMX:=zh hMx;have HM:=zh hm;have HCS:=zh hcs;have HPS:=zh hps;have HCAP:=zh hcap
 have A0:=zh ha0;have A1:=zh ha1;have A2:=zh ha2;have A3:=zh ha3;have B1:=zh hb1
 have zaJ:=zh hok;have xE:=zh qJ;have Rl:=zh hbel;have zaK:=zh hsp;have HOK:=zh hOK
 clear hQ hR hS hK hMx hm hcs hps hcap ha0 ha1 ha2 ha3 hb1 hok qJ hbel hmem hOK hsp hSP hau
 go_enter Tryz.func62,Tryz.ntmps62
 go_wp2_with fail
 generalize (((w.alloc (.cells #[.int .i64 o.count,.slice sa o.spaces.length sc,.slice ka o.keys.length kc] 38)).alloc (.cells #[.string s.pre,.slice ma s.members.length mc,.int .i64 s.threshold] 70)).alloc (.cells #[.string nm,.int .i64 ix,.slice ca chs.length cc,.slice pa pth.length pc] 43)).alloc (.cells #[.int .i64 0,.slice none 0 0,.slice none 0 0] 38)=w1 at*
 refine(Lf 96 #[.pointer (some ⟨w.heap.size+1+1,0,none⟩)] Tryz.call96 (fun m=>decide (m.name=nm)) _ s.members w1 ((HM.out.below B1.out).mono (fun _ _ _=>trivial)) (by omega) (fun W x hW=>X7 x _ nm W ((hW.cell (p:=⟨w.heap.size+1+1,0,none⟩) (by show w.heap.size+1+1<w1.heap.size;omega)).trans (A2.out.cell 0)))).mono ?_
 rintro e w2 ⟨⟨i,rfl,hi⟩,hb2⟩
 have A02:=zh (A0.out.below hb2 (by omega));have A12:=zh (A1.out.below hb2 (by omega));have A22:=zh (A2.out.below hb2 (by omega));have A32:=zh (A3.out.below hb2 (by omega));have B2:=zh (B1.out.trans (hb2.mono B1.out.size))
 have hz2:=hb2.size
 clear hb2 A0 A1 A2 A3 B1 c1
 rcases hi with ⟨rfl,hnone,_⟩|⟨j,hj,rfl,hsome,hpj,_⟩
 ·have hf:Own.find s.members nm=none:=hnone
  have e:R=.error 6:=by rw[HR.out,Own.Fw];dsimp only;rw[hf]
  have HE:=zh e
  have TW:=A32;have TB:=B2
  have x0:=TW.out.cell 0;have x1:=TW.out.cell 1;have x2:=TW.out.cell 2;have x3:=TW.out.free 0;have x4:=TW.out.free 1;have x5:=TW.out.free 2
  simp only[zg] at x0 x1 x2
  clear e hf hnone
  go_wp2_with fail
  have F2:=((TW.out.set 0 (.int .i64 0)).set 1 (.slice none 0 0)).set 2 (.slice none 0 0)
  refine Cw rfl rfl rfl rfl (Ab F2 Tryz.underlying38 rfl Am) ?_
  rw[HQ.out,HE.out]
  exact⟨rfl,((TB.out.setCell (p:=⟨w.heap.size+3,0,none⟩) (by simp) _).setCell (p:=⟨w.heap.size+3,1,none⟩) (by simp) _).setCell (p:=⟨w.heap.size+3,2,none⟩) (by simp) _⟩
 have hnm:s.members[j].name=nm:=of_decide_eq_true hpj
 have hR2:R=if Sig.verify s.members[j].pub msg ⟨ix,chs,pth⟩ then (if ix<Own.Bf o.keys s.members[j].pub then .error 8 else .ok (s.members[j],Own.use o.keys ⟨s.members[j].pub,ix+1⟩)) else .error 18:=by
  have hf:Own.find s.members nm=some s.members[j]:=hsome
  rw[HR.out,Own.Fw];dsimp only;rw[hf]
 obtain⟨mb,mo,hma,_,xG,zaL,zaM⟩:=JZ.cells HM.out hj
 subst hma
 have dj:decide ((j:Int)<0)=false:=zf
 have hap:=Own.SN (msg:=msg) (a:=⟨nm,⟨ix,chs,pth⟩⟩) zaJ.out zaK.out (List.getElem_mem hj) xE.out Rl.out hnm
 obtain⟨AB,hAB⟩:∃ AB,AB=w2.heap.size:=⟨_,rfl⟩
 have zci:¬ mc=j:=by omega
 obtain⟨m,hmj⟩:∃ m,m=s.members[j]:=⟨_,rfl⟩
 have hone:=JZ.one (c':=mc-j) HM.out hj
 rw[<- hmj] at hap hR2 hone hnm
 have HAP:=zh hap;have HR2:=zh hR2;have xH:=zh hone;have HMJ:=zh hmj
 have y0:=A02.out.cell 0;have y1:=A02.out.cell 1;have y2:=A02.out.cell 2
 have u0:=(A12.out.alloc (.cells #[.int .i64 o.count,.slice sa o.spaces.length sc,.slice ka o.keys.length kc] 38)).cell 0
 have u1:=(A12.out.alloc (.cells #[.int .i64 o.count,.slice sa o.spaces.length sc,.slice ka o.keys.length kc] 38)).cell 1
 simp only[zg] at y0 y1 y2 u0 u1
 clear hap hR2 hone hsome hpj hmj
 rw[<- hAB] at hz2
 go_wp2_with fail
 refine Lex.zl ?_
 go_wp2_with fail
 refine Lex.ze ?_
 have Xg:Below w2.heap.size w2 (((w2.alloc (.cells #[.int .i64 o.count,.slice (some ⟨w2.heap.size+1,0,none⟩) 1 1,.slice ka o.keys.length kc] 38)).alloc (.cells #[.string s.pre,.slice (some ⟨mb,mo+j*2,none⟩) 1 (mc-j),.int .i64 1] 70)).drew):=(zb.alloc (by simp) _).drew
 have hz4:(((w2.alloc (.cells #[.int .i64 o.count,.slice (some ⟨w2.heap.size+1,0,none⟩) 1 1,.slice ka o.keys.length kc] 38)).alloc (.cells #[.string s.pre,.slice (some ⟨mb,mo+j*2,none⟩) 1 (mc-j),.int .i64 1] 70)).drew).heap.size=w2.heap.size+2:=by rw[Ad];simp
 have a4:=((At.new w2 38 #[.int .i64 o.count,.slice (some ⟨w2.heap.size+1,0,none⟩) 1 1,.slice ka o.keys.length kc]).alloc (.cells #[.string s.pre,.slice (some ⟨mb,mo+j*2,none⟩) 1 (mc-j),.int .i64 1] 70)).drew
 have s4:=(At.new1 w2 (.cells #[.int .i64 o.count,.slice (some ⟨w2.heap.size+1,0,none⟩) 1 1,.slice ka o.keys.length kc] 38) 70 #[.string s.pre,.slice (some ⟨mb,mo+j*2,none⟩) 1 (mc-j),.int .i64 1]).drew
 generalize ((w2.alloc (.cells #[.int .i64 o.count,.slice (some ⟨w2.heap.size+1,0,none⟩) 1 1,.slice ka o.keys.length kc] 38)).alloc (.cells #[.string s.pre,.slice (some ⟨mb,mo+j*2,none⟩) 1 (mc-j),.int .i64 1] 70)).drew=w4 at*
 have A04:=zh (A02.out.below Xg (by omega));have A14:=zh (A12.out.below Xg (by omega));have A24:=zh (A22.out.below Xg (by omega));have A34:=zh (A32.out.below Xg (by omega));have B4:=zh (B2.out.trans (Xg.mono B2.out.size))
 have S4:=zh s4
 obtain⟨q0,q1,q2⟩:=a4.c3;obtain⟨v0,v1,v2,v3⟩:=A24.out.c4
 have SI:Below w4.heap.size w4 (w4.alloc (.cells #[.string nm,.int .i64 ix,.slice ca chs.length cc,.slice pa pth.length pc] 43)):=zb
 have n5:=At.new w4 43 #[.string nm,.int .i64 ix,.slice ca chs.length cc,.slice pa pth.length pc]
 have hz5:(w4.alloc (.cells #[.string nm,.int .i64 ix,.slice ca chs.length cc,.slice pa pth.length pc] 43)).heap.size=w4.heap.size+1:=World.size_alloc _ _
 have B5:=zh (B4.out.trans (SI.mono B4.out.size))
 have s5:=S4.out.below SI (by omega)
 have Rh:Ag 3 Own.CB (fun k=>¬ (X k\/k=w.heap.size\/k=w.heap.size+3)) (w4.alloc (.cells #[.string nm,.int .i64 ix,.slice ca chs.length cc,.slice pa pth.length pc] 43)) (.slice (some ⟨w2.heap.size+1,0,none⟩) 1 1) [⟨s.pre,[m],1⟩]:=by
  refine⟨_,1,rfl,.inr ⟨w2.heap.size+1,0,rfl,?_,s5.lt,fun i hi=>?_⟩⟩
  ·rintro(h|h|h)
   ·have:=hX _ h;omega
   ·omega
   ·omega
  ·have:i=0:=by simpa using hi
   subst this
   refine⟨[.string s.pre,.slice (some ⟨mb,mo+j*2,none⟩) 1 (mc-j),.int .i64 1],rfl,fun k u hk=>?_,_,rfl,?_⟩
   ·rw[Nat.zero_mul,Nat.add_zero,Nat.zero_add,s5.cell];simpa using hk
   ·exact(xH.out.mono (G:=fun k=>¬ (X k\/k=w.heap.size\/k=w.heap.size+3)) (fun k hk hl h=>by rcases h with h|h|h;exact hk h;omega;omega)).below B5.out
 have xI:Own.MQ (w4.alloc (.cells #[.string nm,.int .i64 ix,.slice ca chs.length cc,.slice pa pth.length pc] 43)) (.slice (some ⟨w4.heap.size,0,none⟩) 1 1) [⟨nm,⟨ix,chs,pth⟩⟩]:=by
  refine⟨_,1,rfl,fun i hi=>?_⟩
  have:i=0:=by simpa using hi
  subst this
  refine⟨w4.heap.size,0,_,_,rfl,n5.lt,n5.cell 0,n5.cell 1,n5.cell 2,n5.cell 3,HCS.out.below B5.out,HPS.out.below B5.out,HCAP.out⟩
 have happ:=Rv (fun k=>X k\/k=w.heap.size\/k=w.heap.size+3) (Own.alone o s m) path msg [⟨nm,⟨ix,chs,pth⟩⟩] (.slice (some ⟨w2.heap.size+1,0,none⟩) 1 1) (.slice ka o.keys.length kc) (.slice (some ⟨w4.heap.size,0,none⟩) 1 1) _ (fun k hk=>by rcases hk with hk|hk|hk;have:=hX k hk;omega;omega;omega) (HMX.out.below B5.out) Rh (HK.out.below B5.out) xI (by show 1<=3000000;omega) (by show o.keys.length+1<=900000;omega) (fun z hz=>by
  have e:z=⟨s.pre,[m],1⟩:=by simpa [Own.alone] using hz
  subst e
  show 1<=3000000
  omega) GY (fun z hz=>by
  have e:z=⟨nm,⟨ix,chs,pth⟩⟩:=by simpa using hz
  subst e
  exact hal)
 rw[HAP.out] at happ
 have xJ:=zh happ
 have sV:=zh SI
 clear happ Rh xI s5 n5 SI Xg a4 s4 A02 A12 A22 A32 B2 y0 y1 y2 u0 u1
 have zcj : w2.heap.size+2<=w4.heap.size:=by omega
 have hz2' : w1.heap.size<=w2.heap.size:=by omega
 clear hz4 hz5 hz2 hAB
 go_wp2_with fail
 refine xJ.out.mono ?_
 intro e w6 hpost
 obtain⟨hval,hb6⟩:=hpost
 have eX:=sV.out.trans (hb6.mono sV.out.size)
 have A06:=zh (A04.out.below eX A04.out.lt);have A16:=zh (A14.out.below eX A14.out.lt);have A36:=zh (A34.out.below eX A34.out.lt);have B6:=zh (B4.out.trans (eX.mono B4.out.size))
 have hz6:w4.heap.size<=w6.heap.size:=eX.size
 clear hb6 eX sV A04 A14 A24 A34 B4 S4 xJ q0 q1 q2 v0 v1 v2 v3 B5
 cases hvf:Sig.verify m.pub msg ⟨ix,chs,pth⟩ with
 | false =>
   rw[hvf] at hval
   have D5:e=.returned (.tuple #[Own.nobody,.int .i64 18]):=hval
   subst D5
   have e:R=.error 18:=by rw[HR2.out,hvf];rfl
   have HE:=zh e
   have TW:=zh (A36.out.alloc (.cells #[.int .i64 0,.slice none 0 0,.slice none 0 0] 38));have TB:=zh (B6.out.alloc B6.out.size (.cells #[.int .i64 0,.slice none 0 0,.slice none 0 0] 38))
   have x0:=TW.out.cell 0;have x1:=TW.out.cell 1;have x2:=TW.out.cell 2;have x3:=TW.out.free 0;have x4:=TW.out.free 1;have x5:=TW.out.free 2
   simp only[zg] at x0 x1 x2
   unfold Own.nobody
   clear e hvf hval
   go_wp2_with fail
   have F2:=((TW.out.set 0 (.int .i64 0)).set 1 (.slice none 0 0)).set 2 (.slice none 0 0)
   refine Cw rfl rfl rfl rfl (Ab F2 Tryz.underlying38 rfl Am) ?_
   rw[HQ.out,HE.out]
   exact⟨rfl,((TB.out.setCell (p:=⟨w.heap.size+3,0,none⟩) (by simp) _).setCell (p:=⟨w.heap.size+3,1,none⟩) (by simp) _).setCell (p:=⟨w.heap.size+3,2,none⟩) (by simp) _⟩
 | true=>
 rw[hvf,if_pos rfl] at hval
 have hR3:R=if ix<Own.Bf o.keys m.pub then .error 8 else .ok (m,Own.use o.keys ⟨m.pub,ix+1⟩):=by rw[HR2.out,hvf];rfl
 by_cases hix:ix<Own.Bf o.keys m.pub
 ·rw[if_pos hix] at hval hR3
  have D5:e=.returned (.tuple #[Own.nobody,.int .i64 8]):=hval
  subst D5
  have HE:=zh hR3
  have TW:=zh (A36.out.alloc (.cells #[.int .i64 0,.slice none 0 0,.slice none 0 0] 38));have TB:=zh (B6.out.alloc B6.out.size (.cells #[.int .i64 0,.slice none 0 0,.slice none 0 0] 38))
  have x0:=TW.out.cell 0;have x1:=TW.out.cell 1;have x2:=TW.out.cell 2;have x3:=TW.out.free 0;have x4:=TW.out.free 1;have x5:=TW.out.free 2
  simp only[zg] at x0 x1 x2
  unfold Own.nobody
  clear hR3 hvf hval hix HR2 HAP
  go_wp2_with fail
  have F2:=((TW.out.set 0 (.int .i64 0)).set 1 (.slice none 0 0)).set 2 (.slice none 0 0)
  refine Cw rfl rfl rfl rfl (Ab F2 Tryz.underlying38 rfl Am) ?_
  rw[HQ.out,HE.out]
  exact⟨rfl,((TB.out.setCell (p:=⟨w.heap.size+3,0,none⟩) (by simp) _).setCell (p:=⟨w.heap.size+3,1,none⟩) (by simp) _).setCell (p:=⟨w.heap.size+3,2,none⟩) (by simp) _⟩
 rw[if_neg hix] at hval hR3
 have D5:∃ sv kv,e=.returned (.tuple #[.agg #[.int .i64 o.count,sv,kv],.int .i64 0])/\Ag 3 Own.CB (fun k=>¬ (X k\/k=w.heap.size\/k=w.heap.size+3)) w6 sv [⟨s.pre,[m],1⟩]/\Ag 2 Own.ML (fun k=>¬ (X k\/k=w.heap.size\/k=w.heap.size+3)) w6 kv (Own.use o.keys ⟨m.pub,ix+1⟩):=hval
 clear hval
 obtain⟨sv2,kv2,rfl,hs2,hk2⟩:=D5
 obtain⟨K,hKe⟩:∃ K,K=Own.use o.keys ⟨m.pub,ix+1⟩:=⟨_,rfl⟩
 rw[<- hKe] at hR3 hk2
 have HE:=zh hR3;have HK2:=zh (hk2.mono (G:=fun k=>k<w6.heap.size/\¬ X k/\k≠w.heap.size+3) (fun k hk hl=>⟨hl,fun h=>hk (.inl h),fun h=>hk (.inr (.inr h))⟩))
 obtain⟨s2a,s2c,zaN⟩:=hs2.len
 obtain⟨k2a,k2c,zaO⟩:=hk2.len
 subst zaN;subst zaO
 clear hR3 hvf hix HR2 HAP hKe hs2 hk2
 have b6:Below w6.heap.size w6 (w6.alloc (.cells #[.int .i64 o.count,.slice s2a 1 s2c,.slice k2a K.length k2c] 38)):=zb
 have hz7:w6.heap.size<(w6.alloc (.cells #[.int .i64 o.count,.slice s2a 1 s2c,.slice k2a K.length k2c] 38)).heap.size:=by simp
 have o7:=At.new w6 38 #[.int .i64 o.count,.slice s2a 1 s2c,.slice k2a K.length k2c]
 have A07:=zh (A06.out.below b6 A06.out.lt);have A17:=zh (A16.out.below b6 A16.out.lt);have A37:=zh (A36.out.below b6 A36.out.lt);have B7:=zh (B6.out.trans (b6.mono B6.out.size));have O7:=zh o7;have K7:=zh (HK2.out.below b6)
 have y1:=A07.out.cell 1
 simp only[zg] at y1
 have hcl:=Lg (fun k=>k<w.heap.size/\¬ X k) _ o.spaces _ ((HS.out.mono (G:=fun k=>k<w.heap.size/\¬ X k) (fun k hk hl=>⟨hl,hk⟩)).below B7.out) (by have:=HOK.out.ls;omega)
 have HCL:=zh hcl
 have hls:=HOK.out.ls
 have h6w:w.heap.size+4<=w6.heap.size:=by omega
 clear b6 o7 hcl A06 A16 A36 B6 HK2
 go_wp2_with fail
 generalize w6.alloc (.cells #[.int .i64 o.count,.slice s2a 1 s2c,.slice k2a K.length k2c] 38)=w7 at*
 refine HCL.out.mono ?_
 rintro e w8 ⟨a8,c8,rfl,hsp,hb8⟩
 have A08:=zh (A07.out.below hb8 A07.out.lt);have A18:=zh (A17.out.below hb8 A17.out.lt);have A38:=zh (A37.out.below hb8 A37.out.lt);have B8:=zh (B7.out.trans (hb8.mono B7.out.size));have O8:=zh (O7.out.below hb8 O7.out.lt);have K8:=zh (K7.out.below hb8)
 have hz8:=hb8.size
 have HSP:=zh hsp
 have q0:=O8.out.cell 0;have q1:=O8.out.cell 1;have q2:=O8.out.cell 2;have q3:=O8.out.free 1
 simp only[zg] at q0 q1 q2
 clear hsp hb8 A07 A17 A37 B7 O7 K7 HCL y1
 go_upto_region 10 with fail
 have o9:At (w8.setCell ⟨w6.heap.size,1,none⟩ (.slice a8 o.spaces.length c8)) w6.heap.size 38 #[.int .i64 o.count,.slice a8 o.spaces.length c8,.slice k2a K.length k2c]:=O8.out.set 1 (.slice a8 o.spaces.length c8)
 have f9:∀ k,k≠w6.heap.size->(w8.setCell ⟨w6.heap.size,1,none⟩ (.slice a8 o.spaces.length c8)).heap[k]? = w8.heap[k]? :=fun k hk=>zo hk
 have z9:(w8.setCell ⟨w6.heap.size,1,none⟩ (.slice a8 o.spaces.length c8)).heap.size=w8.heap.size:=by simp[World.setCell]
 have A19:=zh (A18.out.keep (f9 _ (by omega)));have A39:=zh (A38.out.keep (f9 _ (by omega)))
 have B9:=zh (B8.out.setCell (p:=⟨w6.heap.size,1,none⟩) (by show w.heap.size<=w6.heap.size;omega) (.slice a8 o.spaces.length c8))
 have O9:=zh o9
 have xK:o.spaces.length=0\/∃ g,a8=some ⟨g,0,none⟩/\w7.heap.size<=g/\Own.DN (w8.setCell ⟨w6.heap.size,1,none⟩ (.slice a8 o.spaces.length c8)) g (fun k=>k≠g/\¬ X k/\k≠w.heap.size+3) o.spaces:=by
  rcases HSP.out with h0|⟨g,h1,h2,h3⟩
  ·exact .inl h0
  ·refine .inr ⟨g,h1,h2,?_⟩
   exact(h3.keep (Nat.le_of_eq z9.symm) (fun k hk _=>f9 k (by rcases hk with rfl|hk<;>omega))).mono (fun k hk _=>⟨by omega,hk.2,by omega⟩)
 have zaP:=zh xK
 have hk9:Ag 2 Own.ML (fun k=>k<w6.heap.size/\¬ X k/\k≠w.heap.size+3) (w8.setCell ⟨w6.heap.size,1,none⟩ (.slice a8 o.spaces.length c8)) (.slice k2a K.length k2c) K:=by
  exact K8.out.keep (Nat.le_of_eq z9.symm) (fun k hk _=>f9 k (by omega))
 have HK9:=zh hk9
 have z9' : w8.heap.size<=(w8.setCell ⟨w6.heap.size,1,none⟩ (.slice a8 o.spaces.length c8)).heap.size:=Nat.le_of_eq z9.symm
 clear o9 f9 z9 xK hk9 HSP A08 A18 A38 B8 O8 K8 q0 q1 q2 q3
 generalize w8.setCell ⟨w6.heap.size,1,none⟩ (.slice a8 o.spaces.length c8)=w9 at*
 have c1:=O9.out.cell 1
 simp only[zg] at c1
 have hO9:=O9.out.lt
 go_wp2_with fail
 go_loopw [57] (fun i wr=>∃ k:Nat,k<=o.spaces.length/\i=.int .i64 k/\(o.spaces.length=0\/∃ g,a8=some ⟨g,0,none⟩/\w7.heap.size<=g/\g<w9.heap.size/\Own.DN wr g (fun k=>k≠g/\¬ X k/\k≠w.heap.size+3) o.spaces)/\Fr (fun k=>w7.heap.size<=k/\a8=some ⟨k,0,none⟩) w9 wr) (fun i _=>o.spaces.length-(intOf i).toNat)
 case atStart=>
  refine⟨0,by omega,rfl,?_,Fr.refl _ _⟩
  rcases zaP.out with h0|⟨g,h1,h2,h3⟩
  ·exact .inl h0
  ·obtain⟨cur,vs,h4,_⟩:=h3.row
   exact .inr ⟨g,h1,h2,h4.lt,h3⟩
 case round=>
  obtain⟨k,hk,rfl,hrow,hfr⟩:=hrel
  have Vs:=hfr.at O9.out (fun h=>by omega)
  have jC:=hfr.at A39.out (fun h=>by omega)
  have hstr:=hfr.at A19.out (fun h=>by omega)
  have HFR:=zh hfr;have OR:=zh Vs;have RR:=zh jC;have SR:=zh hstr
  have c1r:=Vs.cell 1
  simp only[zg] at c1r
  have hfz:=hfr.size
  have hbl:=Vs.lt
  clear Vs jC hstr
  by_cases hlt:k<o.spaces.length
  ·have dk:decide ((k:Int)<o.spaces.length)=true:=zt
   obtain⟨g,rfl,hg1,hg2,hsr⟩:=hrow.resolve_left (by omega)
   obtain⟨cur,vs,q1,q2⟩:=hsr.row
   obtain⟨e0,e1,e2,e3⟩:=q2 k hlt
   have f1:=q1.cell (k*3+1)
   rw[e1] at f1
   have hlm:o.spaces[k].members.length<=8:=(Own.Vn.of (HOK.out.sp _ (List.getElem_mem hlt))).len
   obtain⟨na,nc,hvk⟩:=e3.len
   rw[hvk] at e3 f1
   have Q1:=zh q1;have HSR:=zh hsr
   have hcp:=Ld _ o.spaces[k].members.length _ wr.drew (Own.Ar.rows ((e3.below ((Below.refl _ _).drew)).mono (G:=Own.IE) (fun _ _ _=>trivial))) (Own.jo _) (by omega)
   have HCP:=zh hcp
   have hgl:g<wr.heap.size:=q1.lt
   clear hrow q1 q2 e0 e1 e2 e3 hvk hlm hcp hsr
   go_wp2_with fail
   refine Lex.zn (fun j=>j=w6.heap.size) [1] 10 [10] ?_
   simp only[Lex.AA,zd]
   go_wp2_with fail
   refine HCP.out.mono ?_
   rintro e w5 ⟨v',rfl,hov,hb5⟩
   have Dt : Below wr.heap.size wr w5:=(Below.refl wr.heap.size wr).drew.trans hb5
   have hup:=Az hov
   have hne:v'.ownBlock≠some g:=fun e=>by have:=hup g e;have:wr.heap.size<=g:=this;omega
   obtain⟨va,vm,vc,rfl⟩:=Ac hov
   have y1:=(Dt.cell (p:=⟨g,k*3+1,none⟩) hgl).trans f1
   have q5:=Q1.out.below Dt hgl
   have x1:=q5.free (k*3+1)
   have c5:=(Dt.cell (p:=⟨w6.heap.size,1,none⟩) hbl).trans c1r
   have HB5:=zh Dt;have HOV:=zh hov;have HUP:=zh hup
   clear hb5 Dt hov hup q5 f1 Q1
   go_wp2_with fail
   refine Lex.Mid.intro (fun j hj _=>by rw[hj];exact HB5.out.block _ hbl) ?_
   go_wp2_with fail
   refine Lex.zk ⟨⟨rfl,zi c1r⟩,trivial⟩ ?_
   go_wp2_with fail
   go_round
   case measure=>simp[intOf];omega
   case rel=>
    have hm5:Ag 2 Own.Cb (fun k=>k≠g/\¬ X k/\k≠w.heap.size+3) w5 (.slice va vm vc) o.spaces[k].members:=
     Ck (enc:=Own.Ie) (fun _=>rfl) (fun _=>rfl) (Bz.own HOV.out) rfl (fun j hj=>by have:wr.heap.size<=j:=HUP.out j hj;exact⟨by omega,fun hx=>by have:=hX j hx;omega,by omega⟩)
    have hs5:=(HSR.out.below HB5.out).zaI (fun k hk=>hk.1) hlt _ hm5
    refine⟨k+1,by omega,by go_num,.inr ⟨g,rfl,hg1,hg2,hs5⟩,?_⟩
    have f5:Fr (fun k=>w7.heap.size<=k/\(some ⟨g,0,none⟩:Option Addr)=some ⟨k,0,none⟩) w9 w5:=HFR.out.trans (Fr.of_below HB5.out) (fun _ h=>.inl h)
    exact f5.setCell (p:=⟨g,k*3+1,none⟩) (.inl ⟨hg1,rfl⟩) _
  ·have dk:decide ((k:Int)<o.spaces.length)=false:=zf
   have hsl:Ag 3 Own.CB (fun k=>¬ X k/\k≠w.heap.size+3) wr (.slice a8 o.spaces.length c8) o.spaces:=by
    rcases hrow with h0|⟨g,rfl,hg1,hg2,hsr⟩
    ·have:o.spaces=[]:=List.eq_nil_of_length_eq_zero h0
     rw[this]
     exact Ag.nil _ _
    ·exact hsr.list ⟨fun hx=>by have:=hX g hx;omega,by omega⟩ (fun k hk hl=>⟨hk.2.1,hk.2.2⟩) rfl
   have hkr:=HK9.out.fr hfr (fun k hk h=>by omega)
   have hbr:Below w.heap.size w wr:=B9.out.trans (HFR.out.below (B:=w.heap.size) (by omega) (fun k hk=>by omega))
   have c0r:=OR.out.cell 0;have c2r:=OR.out.cell 2
   have s1r:=SR.out.cell 1
   have r0:=RR.out.cell 0;have r1:=RR.out.cell 1;have r2:=RR.out.cell 2;have r3:=RR.out.free 0;have r4:=RR.out.free 1;have r5:=RR.out.free 2
   simp only[zg] at c0r c2r s1r r0 r1 r2
   have HSL:=zh hsl;have HKR:=zh hkr;have HBR:=zh hbr
   obtain⟨mb',mo',hmb,_,hml,_,hmp⟩:=JZ.cells xH.out (i:=0) (by simp)
   cases hmb
   have p1:=(HBR.out.cell (p:=⟨mb,mo+j*2+1,none⟩) hml).trans hmp
   have p1:wr.cell? ⟨mb,mo+j*2+1,none⟩=some (.string m.pub):=p1
   clear hrow hsl hkr hfr hbr hmp
   go_wp2_with fail
   refine Lex.zn (fun k=>k=w.heap.size+1\/k=mb) [2,6] 8 [8] ?_
   simp only[Lex.AA,zd]
   go_wp2_with fail
   refine Lex.Mid.intro (fun k hk _=>by have hk3:k≠w.heap.size+1+1+1:=(by rcases hk with rfl|rfl<;>omega);rw[Ad,Ad,zo hk3,zo hk3,zo hk3]) ?_
   go_wp2_with fail
   refine Lex.zk ⟨⟨.inl rfl,zi s1r⟩,⟨.inr rfl,zi p1⟩,trivial⟩ ?_
   go_wp2_with fail
   have F2:=(((RR.out.set 0 (.int .i64 o.count)).set 1 (.slice a8 o.spaces.length c8)).set 2 (.slice k2a K.length k2c)).drew
   refine Cw rfl rfl rfl rfl (Ab F2 Tryz.underlying38 rfl Am) ?_
   rw[HQ.out,HE.out]
   have far:∀ k,k≠w.heap.size+3->((((wr.setCell ⟨w.heap.size+3,0,none⟩ (.int .i64 o.count)).setCell ⟨w.heap.size+3,1,none⟩ (.slice a8 o.spaces.length c8)).setCell ⟨w.heap.size+3,2,none⟩ (.slice k2a K.length k2c)).drew).heap[k]? = wr.heap[k]? :=fun k h=>by
    rw[Ad,zo h,zo h,zo h]
   have hfz:wr.heap.size<=((((wr.setCell ⟨w.heap.size+3,0,none⟩ (.int .i64 o.count)).setCell ⟨w.heap.size+3,1,none⟩ (.slice a8 o.spaces.length c8)).setCell ⟨w.heap.size+3,2,none⟩ (.slice k2a K.length k2c)).drew).heap.size:=by
    rw[Ad];simp[World.setCell]
   refine⟨⟨_,_,rfl,?_,?_⟩,?_⟩
   ·exact(HSL.out.keep hfz (fun k hk _=>far k hk.2)).mono (fun k hk _=>hk.1)
   ·exact(HKR.out.keep hfz (fun k hk _=>far k hk.2.2)).mono (fun k hk _=>hk.2.1)
   ·exact(((HBR.out.setCell (p:=⟨w.heap.size+3,0,none⟩) (by simp) _).setCell (p:=⟨w.heap.size+3,1,none⟩) (by simp) _).setCell (p:=⟨w.heap.size+3,2,none⟩) (by simp) _).drew
namespace Own
abbrev PAt (w:World)(g:Nat)(p:Aa)(v:Value):Prop:=At w g 46 #[.int .i64 p.id,.string p.path,.string p.digest,.int .i64 p.opened,.int .i64 p.expires,v]
def MV (p:Aa):Bool:=decide (0<=p.id)&&Bp p.path&&Sig.digest p.digest
def OO (p:Aa):Bool:=decide (0<=p.opened)&&decide (p.opened<=late)&&decide (p.opened<p.expires)&&decide (p.expires<=p.opened+256)
def Rw (p:Aa):Bool:=decide (p.Al.length<=1024)
def Un (p:Aa):Bool:=Aj (fun v:Vote=>Bq v.name) (fun x y=>Ah x.name y.name) none p.Al
theorem Oe (p:Aa):Bg p=(MV p&&(OO p&&(Rw p&&Un p))):=by
 unfold Bg MV OO Rw Un
 simp only[Bool.and_assoc]
end Own
theorem X9 (p:Own.Aa)(v:Value)(g:Nat)(w:World)(hM:Fe w)(hp:Own.PAt w g p v):
 Calls Tryz.prog 83 #[.pointer (some ⟨g,0,none⟩)] w fun e w' => e=.returned (.bool (Own.MV p))/\Below w.heap.size w w':=by
 obtain⟨R,hR⟩:∃ R,R=Own.MV p:=⟨_,rfl⟩
 rw[<- hR]
 unfold Own.MV at hR
 obtain⟨id,pa,di,op,ex,vs⟩:=p
 dsimp only at*
 have c0:=hp.cell 0;have c1:=hp.cell 1;have c2:=hp.cell 2
 simp only[zg] at c0 c1 c2
 have HR:=zh hR;have HP:=zh hp;have HM:=zh hM
 clear hR hp hM
 go_enter Tryz.func83,Tryz.ntmps83
 by_cases h1:0<=id
 case neg=>
  have d1:decide (0<=id)=false:=decide_eq_false h1
  have e:R=false:=by rw[HR.out,d1];rfl
  have HE:=zh e;clear e
  go_wp2_with fail
  go_ret
  exact⟨by rw[HE.out];rfl,Below.refl _ _⟩
 have d1:decide (0<=id)=true:=decide_eq_true h1
 have e:R=(Own.Bp pa&&Sig.digest di):=by rw[HR.out,d1];rfl
 have HE:=zh e;clear e
 go_wp2_with fail
 refine(Rf pa w HM.out).mono ?_
 rintro e w2 ⟨rfl,hb2⟩
 have HB2:=zh hb2
 have q:=HP.out.below hb2 HP.out.lt
 have q0:=q.cell 0;have q1:=q.cell 1;have q2:=q.cell 2
 simp only[zg] at q0 q1 q2
 clear q hb2 c0 c1 c2
 cases hpa:Own.Bp pa with
 | false =>
   have e:R=false:=by rw[HE.out,hpa];rfl
   have HE2:=zh e;clear e
   go_wp2_with fail
   go_ret
   exact⟨by rw[HE2.out];rfl,HB2.out⟩
 | true =>
   have e:R=((di.size:Int)==32):=by
    rw[HE.out,hpa]
    unfold Sig.digest
    rw[Bool.true_and]
    by_cases h:di.size=32
    ·rw[decide_eq_true h,h];rfl
    ·rw[decide_eq_false h];exact(beq_eq_false_iff_ne.2 (by omega)).symm
   have HE2:=zh e;clear e
   go_wp2_with fail
   go_ret
   exact⟨by rw[HE2.out];rfl,HB2.out⟩
theorem XA (p:Own.Aa)(v:Value)(g:Nat)(w:World)(hp:Own.PAt w g p v):
 Calls Tryz.prog 84 #[.pointer (some ⟨g,0,none⟩)] w fun e w' => e=.returned (.bool (Own.OO p))/\Below w.heap.size w w':=by
 obtain⟨R,hR⟩:∃ R,R=Own.OO p:=⟨_,rfl⟩
 rw[<- hR]
 unfold Own.OO Own.late at hR
 obtain⟨id,pa,di,op,ex,vs⟩:=p
 dsimp only at*
 have c3:=hp.cell 3;have c4:=hp.cell 4
 simp only[zg] at c3 c4
 have HR:=zh hR
 clear hR hp
 go_enter Tryz.func84,Tryz.ntmps84
 by_cases h1:0<=op
 case neg=>
  have d1:decide (0<=op)=false:=decide_eq_false h1
  have e:R=false:=by rw[HR.out,d1];rfl
  have HE:=zh e;clear e
  go_wp2_with fail
  go_ret
  exact⟨by rw[HE.out];rfl,Below.refl _ _⟩
 have d1:decide (0<=op)=true:=decide_eq_true h1
 by_cases h2:op<=1099511627776
 case neg=>
  have d2:decide (op<=1099511627776)=false:=decide_eq_false h2
  have e:R=false:=by rw[HR.out,d2];simp
  have HE:=zh e;clear e
  go_wp2_with fail
  go_ret
  exact⟨by rw[HE.out];rfl,Below.refl _ _⟩
 have d2:decide (op<=1099511627776)=true:=decide_eq_true h2
 by_cases h3:op<ex
 case neg=>
  have d3:decide (op<ex)=false:=decide_eq_false h3
  have e:R=false:=by rw[HR.out,d3];simp
  have HE:=zh e;clear e
  go_wp2_with fail
  go_ret
  exact⟨by rw[HE.out];rfl,Below.refl _ _⟩
 have d3:decide (op<ex)=true:=decide_eq_true h3
 have e:R=decide (ex<=op+256):=by rw[HR.out,d1,d2,d3];rfl
 have HE:=zh e;clear e
 have hw:wrap64 (op+256)=op+256:=by unfold wrap64;omega
 have HW:=zh hw;clear hw
 go_wp2_with (rw[HW.out])
 go_ret
 exact⟨by rw[HE.out];rfl,Below.refl _ _⟩
theorem XB (p:Own.Aa)(v:Value)(g:Nat)(w:World)(hp:Own.PAt w g p v)(hv:Own.Br w v p.Al):
 Calls Tryz.prog 85 #[.pointer (some ⟨g,0,none⟩)] w fun e w' => e=.returned (.bool (Own.Rw p))/\Below w.heap.size w w':=by
 obtain⟨R,hR⟩:∃ R,R=Own.Rw p:=⟨_,rfl⟩
 rw[<- hR]
 unfold Own.Rw at hR
 obtain⟨id,pa,di,op,ex,vs⟩:=p
 dsimp only at*
 obtain⟨va,vc,rfl⟩:=hv.len
 have c5:=hp.cell 5
 simp only[zg] at c5
 have e:R=decide ((vs.length:Int)<=1024):=by
  rw[hR]
  by_cases h:vs.length<=1024
  ·rw[decide_eq_true h,zt]
  ·rw[decide_eq_false h,zf]
 have HR:=zh e
 clear hR hp hv e
 go_enter Tryz.func85,Tryz.ntmps85
 go_wp2_with fail
 go_ret
 exact⟨by rw[HR.out];rfl,Below.refl _ _⟩
theorem XC (p:Own.Aa)(v:Value)(g:Nat)(w:World)(hp:Own.PAt w g p v)(hv:Own.Br w v p.Al)(hl:p.Al.length<=140737488355328):
 Calls Tryz.prog 86 #[.pointer (some ⟨g,0,none⟩)] w fun e w' => e=.returned (.bool (Own.Un p))/\Below w.heap.size w w':=by
 obtain⟨R,hR⟩:∃ R,R=Own.Un p:=⟨_,rfl⟩
 rw[<- hR]
 unfold Own.Un at hR
 obtain⟨id,pa,di,op,ex,V⟩:=p
 dsimp only at*
 obtain⟨va,vc,rfl⟩:=hv.len
 have c5:=hp.cell 5
 simp only[zg] at c5
 have HR:=zh hR;have HP:=zh hp;have HV:=zh hv
 clear hR hp hv
 go_enter Tryz.func86,Tryz.ntmps86
 go_wp2_with fail
 go_loopw [7] (fun i wr=>∃ k:Nat,k<=V.length/\i=.int .i64 k/\Own.Aj (fun v:Own.Vote=>Own.Bq v.name) (fun x y=>Own.Ah x.name y.name) none (V.take k)=true/\Below w.heap.size w wr) (fun i _=>V.length-(intOf i).toNat)
 case atStart=>exact⟨0,by omega,rfl,rfl,Below.refl _ _⟩
 case round=>
  obtain⟨k,hk,rfl,hok,hb⟩:=hrel
  have HBW:=zh hb
  by_cases hlt:k<V.length
  case neg=>
   have hke:k=V.length:=by omega
   have dk:decide ((k:Int)<V.length)=false:=zf
   have e:R=true:=by rw[HR.out,<- hok,hke,List.take_length]
   have HE:=zh e;clear e hok hke hb
   go_wp2_with fail
   go_ret
   exact⟨by rw[HE.out];rfl,HBW.out⟩
  have dk:decide ((k:Int)<V.length)=true:=zt
  have hra:R=((Own.Bq V[k].name&&Own.ahead (fun x y:Own.Vote=>Own.Ah x.name y.name) (V.take k).getLast? V[k])&&Own.Aj (fun v:Own.Vote=>Own.Bq v.name) (fun x y=>Own.Ah x.name y.name) (some V[k]) (V.drop (k+1))):=by rw[HR.out,Own.D7 _ _ V k hlt,hok,Bool.true_and]
  have htk:Own.Aj (fun v:Own.Vote=>Own.Bq v.name) (fun x y=>Own.Ah x.name y.name) none (V.take (k+1))=(Own.Bq V[k].name&&Own.ahead (fun x y:Own.Vote=>Own.Ah x.name y.name) (V.take k).getLast? V[k]):=by rw[Own.CV _ _ V k hlt,hok,Bool.true_and]
  have hlk:=HV.out.below hb
  obtain⟨b,o,ha,hbl,e0,e1,e2⟩:=Own.Br.cells hlk hlt
  have BR:∀ i,k=i+1->∃ x:Own.Vote,wr.cell? ⟨b,o+i*3,none⟩=some (.string x.name)/\(V.take k).getLast? = some x:=by
   intro i hi
   obtain⟨b',o',ha',_,e0,_⟩:=Own.Br.cells hlk (i:=i) (by omega)
   rw[ha] at ha'
   cases ha'
   have hg:=Own.getLast_take V i (by omega)
   rw[<- hi] at hg
   exact⟨_,e0,hg⟩
  subst ha
  obtain⟨vt,hvt⟩:∃ x,x=V[k]:=⟨_,rfl⟩
  rw[<- hvt] at hra htk e0 e1 e2
  obtain⟨rest,hrest⟩:∃ x,x=Own.Aj (fun v:Own.Vote=>Own.Bq v.name) (fun x y=>Own.Ah x.name y.name) (some vt) (V.drop (k+1)):=⟨_,rfl⟩
  rw[<- hrest] at hra
  obtain⟨nm,pb,ag⟩:=vt
  dsimp only at hra htk e0 e1 e2
  unfold Own.Bq at hra htk
  have hb5:Below w.heap.size w (wr.alloc (.cells #[.string nm,.string pb,.bool ag] 82)).drew:=(hb.alloc hb.size _).drew
  have b5:=((HP.out.below hb HP.out.lt).alloc (.cells #[.string nm,.string pb,.bool ag] 82)).drew.cell 5
  have b5':=((HP.out.below hb HP.out.lt).alloc (.cells #[.string nm,.string pb,.bool ag] 82)).cell 5
  simp only[zg] at b5 b5'
  have Du:=zh BR;have HB5:=zh hb5
  clear hok hb hlk BR hb5 hrest hvt c5
  by_cases n1:1<=nm.size
  case neg=>
   have dn1:decide ((nm.size:Int)<1)=true:=zt
   have e:R=false:=by rw[hra,decide_eq_false n1];rfl
   have HE:=zh e;clear e hra htk n1
   go_wp2_with fail
   refine Lex.zl ?_
   go_wp2_with fail
   refine Lex.ze ?_
   go_wp2_with fail
   go_ret
   exact⟨by rw[HE.out];rfl,HB5.out⟩
  have dn1:decide ((nm.size:Int)<1)=false:=zf
  rw[decide_eq_true n1,Bool.true_and] at hra htk
  by_cases n2:nm.size<=32
  case neg=>
   have dn2:decide ((32:Int)<nm.size)=true:=zt
   have e:R=false:=by rw[hra,decide_eq_false n2];rfl
   have HE:=zh e;clear e hra htk n1 n2
   go_wp2_with fail
   refine Lex.zl ?_
   go_wp2_with fail
   refine Lex.ze ?_
   go_wp2_with fail
   go_ret
   exact⟨by rw[HE.out];rfl,HB5.out⟩
  have dn2:decide ((32:Int)<nm.size)=false:=zf
  rw[decide_eq_true n2,Bool.true_and] at hra htk
  rcases Nat.eq_zero_or_pos k with hk0|hkp
  ·have hl0:(V.take k).getLast? = none:=by rw[hk0];rfl
   rw[hl0] at htk
   have HT:=zh htk
   have HK0:=zh hk0
   have dz:decide ((0:Int)<(k:Int))=false:=zf
   have dz' : decide (0<k)=false:=zf
   clear hl0 hra htk hk0
   go_wp2_with fail
   refine Lex.zl ?_
   go_wp2_with fail
   refine Lex.ze ?_
   go_wp2_with fail
   go_round
   case measure=>simp[intOf];omega
   case rel=>exact⟨k+1,by omega,by go_num,HT.out,HB5.out⟩
  ·obtain⟨i,hi⟩:∃ i,k=i+1:=⟨k-1,by omega⟩
   obtain⟨x,f0,hx⟩:=Du.out i hi
   rw[hx] at hra htk
   have Cr:R=(Own.Ah x.name nm&&rest):=hra
   have Cn:Own.Aj (fun v:Own.Vote=>Own.Bq v.name) (fun x y=>Own.Ah x.name y.name) none (V.take (k+1))=Own.Ah x.name nm:=htk
   have dz:decide ((0:Int)<(k:Int))=true:=zt
   have dz' : decide (0<k)=true:=zt
   have ek:(k:Int)-1=(i:Int):=by omega
   have hjl:i<V.length:=by omega
   have f1:(wr.alloc (.cells #[.string nm,.string pb,.bool ag] 82)).cell? ⟨b,o+i*3,none⟩=some (.string x.name):=(((Below.refl wr.heap.size wr).alloc (Nat.le_refl _) _).cell (p:=⟨b,o+i*3,none⟩) hbl).trans f0
   cases hlb:Own.Ah x.name nm with
   | false =>
     have e:R=false:=by rw[Cr,hlb];rfl
     have HE:=zh e
     have jm : Op.bytesLess x.name.toList nm.toList=false:=hlb
     clear e hra htk Cr Cn hx f0 hi hlb
     go_wp2_with fail
     refine Lex.zl ?_
     go_wp2_with fail
     refine Lex.ze ?_
     go_wp2_with fail
     go_ret
     exact⟨by rw[HE.out];rfl,HB5.out⟩
   | true =>
     rw[hlb] at Cn
     have HT:=zh Cn
     have jm : Op.bytesLess x.name.toList nm.toList=true:=hlb
     clear hra htk Cr Cn hx f0 hi hlb
     go_wp2_with fail
     refine Lex.zl ?_
     go_wp2_with fail
     refine Lex.ze ?_
     go_wp2_with fail
     go_round
     case measure=>simp[intOf];omega
     case rel=>exact⟨k+1,by omega,by go_num,HT.out,HB5.out⟩
theorem Rx (p:Own.Aa)(v:Value)(w:World)(hM:Fe w)(hv:Own.Br w v p.Al)(hl:p.Al.length<=140737488355328):
 Calls Tryz.prog 51 #[.agg #[.int .i64 p.id,.string p.path,.string p.digest,.int .i64 p.opened,.int .i64 p.expires,v]] w fun e w' => e=.returned (.bool (Own.Bg p))/\Below w.heap.size w w':=by
 obtain⟨R,hR⟩:∃ R,R=Own.Bg p:=⟨_,rfl⟩
 rw[<- hR]
 rw[Own.Oe] at hR
 have r1:=X9 p v;have r2:=XA p v;have r3:=XB p v;have r4:=XC p v
 have hb1:Below w.heap.size w ((w.alloc (.cells #[.int .i64 p.id,.string p.path,.string p.digest,.int .i64 p.opened,.int .i64 p.expires,v] 46)).alloc (.cells #[.func (.func 83) #[] #[.pointer (some ⟨w.heap.size,0,none⟩)],.func (.func 84) #[] #[.pointer (some ⟨w.heap.size,0,none⟩)],.func (.func 85) #[] #[.pointer (some ⟨w.heap.size,0,none⟩)],.func (.func 86) #[] #[.pointer (some ⟨w.heap.size,0,none⟩)]] 25)):=zb.alloc (by simp) _
 have ha:=(At.new w 46 #[.int .i64 p.id,.string p.path,.string p.digest,.int .i64 p.opened,.int .i64 p.expires,v]).alloc (.cells #[.func (.func 83) #[] #[.pointer (some ⟨w.heap.size,0,none⟩)],.func (.func 84) #[] #[.pointer (some ⟨w.heap.size,0,none⟩)],.func (.func 85) #[] #[.pointer (some ⟨w.heap.size,0,none⟩)],.func (.func 86) #[] #[.pointer (some ⟨w.heap.size,0,none⟩)]] 25)
 have hf:=At.new1 w (.cells #[.int .i64 p.id,.string p.path,.string p.digest,.int .i64 p.opened,.int .i64 p.expires,v] 46) 25 #[.func (.func 83) #[] #[.pointer (some ⟨w.heap.size,0,none⟩)],.func (.func 84) #[] #[.pointer (some ⟨w.heap.size,0,none⟩)],.func (.func 85) #[] #[.pointer (some ⟨w.heap.size,0,none⟩)],.func (.func 86) #[] #[.pointer (some ⟨w.heap.size,0,none⟩)]]
 have HR:=zh hR;have HA1:=zh ha;have HF1:=zh hf;have HB:=zh hb1;have HM1:=zh (hM.below hb1);have HV1:=zh (hv.below hb1)
 have R1:=zh r1;have R2:=zh r2;have R3:=zh r3;have R4:=zh r4
 clear hR ha hf hb1 hM hv r1 r2 r3 r4
 go_enter Tryz.func51,Tryz.ntmps51
 go_upto_region 2 with fail
 generalize (w.alloc (.cells #[.int .i64 p.id,.string p.path,.string p.digest,.int .i64 p.opened,.int .i64 p.expires,v] 46)).alloc (.cells #[.func (.func 83) #[] #[.pointer (some ⟨w.heap.size,0,none⟩)],.func (.func 84) #[] #[.pointer (some ⟨w.heap.size,0,none⟩)],.func (.func 85) #[] #[.pointer (some ⟨w.heap.size,0,none⟩)],.func (.func 86) #[] #[.pointer (some ⟨w.heap.size,0,none⟩)]] 25)=w1 at*
 go_wp2_with fail
 go_loopw [13] (fun i wr=>Below w1.heap.size w1 wr/\(i=.int .i64 0\/(i=.int .i64 1/\Own.MV p=true)\/(i=.int .i64 2/\Own.MV p=true/\Own.OO p=true)\/(i=.int .i64 3/\Own.MV p=true/\Own.OO p=true/\Own.Rw p=true)\/(i=.int .i64 4/\R=true))) (fun i _=>4-(intOf i).toNat)
 case atStart=>exact⟨Below.refl _ _,.inl rfl⟩
 case round=>
  obtain⟨hb,rfl|⟨rfl,h1⟩|⟨rfl,h1,h2⟩|⟨rfl,h1,h2,h3⟩|⟨rfl,h4⟩⟩:=hrel
  ·
   have HP:=zh (HA1.out.below hb HA1.out.lt);have HF:=zh (HF1.out.below hb HF1.out.lt);have HMW:=zh (HM1.out.below hb);have HVW:=zh (HV1.out.below hb);have HBW:=zh hb
   obtain⟨c0,c1,c2,c3⟩:=HF.out.c4
   clear hb
   go_wp2_with fail
   refine Calls.mono (R1.out _ wr HMW.out HP.out) ?_
   rintro e w5 ⟨rfl,hb5⟩
   have HB5:=zh (HBW.out.trans (hb5.mono HBW.out.size));clear hb5
   cases hr:Own.MV p with
   | false =>
     have e:R=false:=by rw[HR.out];simp[hr]
     have HE:=zh e;clear e hr
     go_wp2_with fail
     go_ret
     exact⟨by rw[HE.out];rfl,HB.out.trans (HB5.out.mono HB.out.size)⟩
   | true =>
     have HH:=zh hr;clear hr
     go_wp2_with fail
     go_round
     case measure=>simp[intOf]
     case rel=>exact⟨HB5.out,.inr (.inl ⟨rfl,HH.out⟩)⟩
  ·have H1:=zh h1
   rw[h1,Bool.true_and] at HR
   clear h1
   have HP:=zh (HA1.out.below hb HA1.out.lt);have HF:=zh (HF1.out.below hb HF1.out.lt);have HMW:=zh (HM1.out.below hb);have HVW:=zh (HV1.out.below hb);have HBW:=zh hb
   obtain⟨c0,c1,c2,c3⟩:=HF.out.c4
   clear hb
   go_wp2_with fail
   refine Calls.mono (R2.out _ wr HP.out) ?_
   rintro e w5 ⟨rfl,hb5⟩
   have HB5:=zh (HBW.out.trans (hb5.mono HBW.out.size));clear hb5
   cases hr:Own.OO p with
   | false =>
     have e:R=false:=by rw[HR.out];simp[hr]
     have HE:=zh e;clear e hr
     go_wp2_with fail
     go_ret
     exact⟨by rw[HE.out];rfl,HB.out.trans (HB5.out.mono HB.out.size)⟩
   | true =>
     have HH:=zh hr;clear hr
     go_wp2_with fail
     go_round
     case measure=>simp[intOf]
     case rel=>exact⟨HB5.out,.inr (.inr (.inl ⟨rfl,H1.out,HH.out⟩))⟩
  ·have H1:=zh h1;have H2:=zh h2
   rw[h1,h2,Bool.true_and,Bool.true_and] at HR
   clear h1 h2
   have HP:=zh (HA1.out.below hb HA1.out.lt);have HF:=zh (HF1.out.below hb HF1.out.lt);have HMW:=zh (HM1.out.below hb);have HVW:=zh (HV1.out.below hb);have HBW:=zh hb
   obtain⟨c0,c1,c2,c3⟩:=HF.out.c4
   clear hb
   go_wp2_with fail
   refine Calls.mono (R3.out _ wr HP.out HVW.out) ?_
   rintro e w5 ⟨rfl,hb5⟩
   have HB5:=zh (HBW.out.trans (hb5.mono HBW.out.size));clear hb5
   cases hr:Own.Rw p with
   | false =>
     have e:R=false:=by rw[HR.out];simp[hr]
     have HE:=zh e;clear e hr
     go_wp2_with fail
     go_ret
     exact⟨by rw[HE.out];rfl,HB.out.trans (HB5.out.mono HB.out.size)⟩
   | true =>
     have HH:=zh hr;clear hr
     go_wp2_with fail
     go_round
     case measure=>simp[intOf]
     case rel=>exact⟨HB5.out,.inr (.inr (.inr (.inl ⟨rfl,H1.out,H2.out,HH.out⟩)))⟩
  ·have H1:=zh h1;have H2:=zh h2;have H3:=zh h3
   rw[h1,h2,h3,Bool.true_and,Bool.true_and,Bool.true_and] at HR
   clear h1 h2 h3
   have HP:=zh (HA1.out.below hb HA1.out.lt);have HF:=zh (HF1.out.below hb HF1.out.lt);have HMW:=zh (HM1.out.below hb);have HVW:=zh (HV1.out.below hb);have HBW:=zh hb
   obtain⟨c0,c1,c2,c3⟩:=HF.out.c4
   clear hb
   go_wp2_with fail
   refine Calls.mono (R4.out _ wr HP.out HVW.out hl) ?_
   rintro e w5 ⟨rfl,hb5⟩
   have HB5:=zh (HBW.out.trans (hb5.mono HBW.out.size));clear hb5
   cases hr:Own.Un p with
   | false =>
     have e:R=false:=by rw[HR.out];simp[hr]
     have HE:=zh e;clear e hr
     go_wp2_with fail
     go_ret
     exact⟨by rw[HE.out];rfl,HB.out.trans (HB5.out.mono HB.out.size)⟩
   | true =>
     have HH:=zh hr;clear hr
     go_wp2_with fail
     go_round
     case measure=>simp[intOf]
     case rel=>exact⟨HB5.out,.inr (.inr (.inr (.inr ⟨rfl,by rw[HR.out];exact HH.out⟩)))⟩
  ·have H4:=zh h4;have HBW:=zh hb
   clear h4 hb
   go_wp2_with fail
   go_ret
   exact⟨by rw[H4.out];rfl,HB.out.trans (HBW.out.mono HB.out.size)⟩
theorem XD (x:Own.Aa)(u:Value)(g:Nat)(id:Int)(w:World)(hc:w.cell? ⟨g,0,none⟩=some (.int .i64 id)):
 Calls Tryz.prog 82 (#[.agg #[.int .i64 x.id,.string x.path,.string x.digest,.int .i64 x.opened,.int .i64 x.expires,u]]++#[.pointer (some ⟨g,0,none⟩)]) w fun e w' => e=.returned (.bool (decide (x.id=id)))/\Below w.heap.size w w':=by
 obtain⟨R,hR⟩:∃ R,R=decide (x.id=id):=⟨_,rfl⟩
 rw[<- hR]
 have hR2:R=(x.id==id):=hR
 obtain⟨i0,hi0⟩:∃ i,i=x.id:=⟨_,rfl⟩
 rw[<- hi0] at hR2 ⊢
 have hb1:Below w.heap.size w (w.alloc (.cells #[.int .i64 i0,.string x.path,.string x.digest,.int .i64 x.opened,.int .i64 x.expires,u] 46)):=zb
 have q:=(hb1.cell (p:=⟨g,0,none⟩) (block_lt hc)).trans hc
 have HB:=zh hb1;have HR:=zh hR2
 clear hb1 hc hR hR2 hi0
 show Calls Tryz.prog 82 #[.agg #[.int .i64 i0,.string x.path,.string x.digest,.int .i64 x.opened,.int .i64 x.expires,u],.pointer (some ⟨g,0,none⟩)] w _
 go_enter Tryz.func82,Tryz.ntmps82
 go_wp2_with fail
 go_ret
 exact⟨by rw[HR.out];rfl,HB.out⟩
theorem IL (n id:Int)(pv:Value)(l:List Own.Aa)(w:World)(hP:Own.A9 w pv l)(hl:l.length<=140737488355328):
 Calls Tryz.prog 47 #[.agg #[.int .i64 n,pv],.int .i64 id] w fun e w' => (∃ i,e=.returned (.int .i64 i)/\Own.Idx (fun p:Own.Aa=>decide (p.id=id)) l i)/\Below w.heap.size w w':=by
 obtain⟨a,c,rfl⟩:=hP.len
 have hb1:Below w.heap.size w ((w.alloc (.cells #[.int .i64 n,.slice a l.length c] 24)).alloc (.cells #[.int .i64 id] 3)):=zb.alloc (by simp) _
 have hi:=(At.new1 w (.cells #[.int .i64 n,.slice a l.length c] 24) 3 #[.int .i64 id])
 have c0:=hi.c1
 have hif:=Jk 82 #[.pointer (some ⟨w.heap.size+1,0,none⟩)] (by intros;rfl) (fun p:Own.Aa=>decide (p.id=id)) _ l _ (hP.below hb1) hl (fun W x u hb=>XD x u _ id W ((hb.cell (p:=⟨w.heap.size+1,0,none⟩) hi.lt).trans c0))
 have HIF:=zh hif;have HB:=zh hb1
 clear hif hb1 hi c0
 go_enter Tryz.func47,Tryz.ntmps47
 go_wp2_with fail
 refine HIF.out.mono ?_
 rintro e w2 ⟨⟨i,rfl,hi⟩,hb⟩
 have HI:=zh hi;have HB2:=zh (HB.out.trans (hb.mono HB.out.size))
 clear hi hb
 go_wp2_with fail
 go_ret
 exact⟨⟨_,rfl,HI.out⟩,HB2.out⟩
theorem Uo (x:Own.Aa)(u:Value)(w:World):
 Calls Tryz.prog 43 #[.agg #[.int .i64 x.id,.string x.path,.string x.digest,.int .i64 x.opened,.int .i64 x.expires,u]] w fun e w' => e=.returned (.bool true)/\Below w.heap.size w w':=by
 have hb1:Below w.heap.size w (w.alloc (.cells #[.int .i64 x.id,.string x.path,.string x.digest,.int .i64 x.opened,.int .i64 x.expires,u] 46)):=zb
 have HB:=zh hb1;clear hb1
 go_enter Tryz.func43,Tryz.ntmps43
 go_wp2_with fail
 go_ret
 exact⟨rfl,HB.out⟩
theorem D9 (q:Own.Queue)(pv:Value)(w:World)(hM:Fe w)(hS:Own.A9 w pv q.props)(hls:q.props.length<=140737488355328)(hlm:∀ p∈q.props,p.Al.length<=140737488355328):
 Calls Tryz.prog 16 #[.agg #[.int .i64 q.next,pv]] w fun e w' => e=.returned (.bool (Own.AY q))/\Below w.heap.size w w':=by
 obtain⟨R,hR⟩:∃ R,R=Own.AY q:=⟨_,rfl⟩
 rw[<- hR]
 unfold Own.AY Own.late at hR
 obtain⟨sa,sc,rfl⟩:=hS.len
 obtain⟨nxt,S⟩:=q
 dsimp only at*
 have ha:=At.new w 24 #[.int .i64 nxt,.slice sa S.length sc]
 have hb1:Below w.heap.size w (w.alloc (.cells #[.int .i64 nxt,.slice sa S.length sc] 24)):=zb
 have HR:=zh hR;have HS:=zh (hS.below hb1);have HM:=zh (hM.below hb1);have HB:=zh hb1;have HA:=zh ha;have HLM:=zh hlm
 have c0:=ha.cell 0;have c1:=ha.cell 1
 simp only[zg] at c0 c1
 clear hR hS hM ha hb1 hlm
 go_enter Tryz.func16,Tryz.ntmps16
 by_cases h1:0<=nxt
 case neg=>
  have d1:decide (nxt<0)=true:=zt
  have e:R=false:=by rw[HR.out,decide_eq_false h1];rfl
  have HE:=zh e;clear e
  go_wp2_with fail
  go_ret
  exact⟨by rw[HE.out];rfl,HB.out⟩
 have d1:decide (nxt<0)=false:=zf
 by_cases h2:nxt<=1099511627776
 case neg=>
  have d2:decide (1099511627776<nxt)=true:=zt
  have e:R=false:=by rw[HR.out,decide_eq_false h2];simp
  have HE:=zh e;clear e
  go_wp2_with fail
  go_ret
  exact⟨by rw[HE.out];rfl,HB.out⟩
 have d2:decide (1099511627776<nxt)=false:=zf
 by_cases h3:S.length<=64
 case neg=>
  have d3:decide ((64:Int)<S.length)=true:=zt
  have e:R=false:=by rw[HR.out,decide_eq_false h3];simp
  have HE:=zh e;clear e
  go_wp2_with fail
  go_ret
  exact⟨by rw[HE.out];rfl,HB.out⟩
 have d3:decide ((64:Int)<S.length)=false:=zf
 obtain⟨OK,hOK⟩:∃ OK:Own.Aa->Bool,OK=fun p=>Own.Bg p&&decide (p.id<nxt):=⟨_,rfl⟩
 obtain⟨LT,hLT⟩:∃ LT:Own.Aa->Own.Aa->Bool,LT=fun x y=>decide (x.id<y.id):=⟨_,rfl⟩
 have e:R=Own.Aj OK LT none S:=by
  rw[HR.out,decide_eq_true h1,decide_eq_true h2,decide_eq_true h3,hOK,hLT];simp
 have HR2:=zh e;clear e HR
 have eOK:∀ p,OK p=(Own.Bg p&&decide (p.id<nxt)):=fun p=>by rw[hOK]
 have eLT:∀ x y,LT x y=decide (x.id<y.id):=fun x y=>by rw[hLT]
 have HEO:=zh eOK;have HEL:=zh eLT
 clear hOK hLT eOK eLT
 go_wp2_with fail
 generalize w.alloc (.cells #[.int .i64 nxt,.slice sa S.length sc] 24)=w1 at*
 clear d1 d2 d3 h1 h2
 go_loopw [22] (fun i wr=>∃ k:Nat,k<=S.length/\i=.int .i64 k/\Own.Aj OK LT none (S.take k)=true/\Below w1.heap.size w1 wr) (fun i _=>S.length-(intOf i).toNat)
 case atStart=>exact⟨0,by omega,rfl,rfl,Below.refl _ _⟩
 case round=>
  obtain⟨k,hk,rfl,hok,hb⟩:=hrel
  have HBW:=zh hb
  have hz1:=HA.out.lt
  have hbs:=hb.size
  by_cases hlt:k<S.length
  case neg=>
   have hke:k=S.length:=by omega
   have dk:decide ((k:Int)<S.length)=false:=zf
   have e:R=true:=by rw[HR2.out,<- hok,hke,List.take_length]
   have HE:=zh e;clear e hok hke hb
   go_wp2_with fail
   go_ret
   exact⟨by rw[HE.out];rfl,HB.out.trans (HBW.out.mono HB.out.size)⟩
  have dk:decide ((k:Int)<S.length)=true:=zt
  have hra:R=((OK S[k]&&Own.ahead LT (S.take k).getLast? S[k])&&Own.Aj OK LT (some S[k]) (S.drop (k+1))):=by rw[HR2.out,Own.D7 _ _ S k hlt,hok,Bool.true_and]
  have htk:Own.Aj OK LT none (S.take (k+1))=(OK S[k]&&Own.ahead LT (S.take k).getLast? S[k]):=by rw[Own.CV _ _ S k hlt,hok,Bool.true_and]
  have hlk:=HS.out.below hb
  obtain⟨b,o,mv,ha,hbl,e0,e1,e2,e3,e4,e5,hmv⟩:=Own.A9.cells hlk hlt
  have BR:∀ i,k=i+1->∃ x:Own.Aa,wr.cell? ⟨b,o+i*6,none⟩=some (.int .i64 x.id)/\(S.take k).getLast? = some x:=by
   intro i hi
   obtain⟨b',o',_,ha',_,e0,_⟩:=Own.A9.cells hlk (i:=i) (by omega)
   rw[ha] at ha'
   cases ha'
   have hg:=Own.getLast_take S i (by omega)
   rw[<- hi] at hg
   exact⟨_,e0,hg⟩
  subst ha
  have hml:=HLM.out S[k] (List.getElem_mem hlt)
  obtain⟨sp,hsp⟩:∃ x,x=S[k]:=⟨_,rfl⟩
  rw[<- hsp] at hra htk e0 e1 e2 e3 e4 hmv hml
  obtain⟨rest,hrest⟩:∃ x,x=Own.Aj OK LT (some sp) (S.drop (k+1)):=⟨_,rfl⟩
  rw[<- hrest] at hra
  rw[HEO.out] at hra htk
  obtain⟨ma,mc,rfl⟩:=hmv.len
  have Rh:∀ W,Below wr.heap.size wr W->_:=fun W hW=>Rx sp (.slice ma sp.Al.length mc) W ((HM.out.below hb).below hW) (hmv.below hW) hml
  obtain⟨id,pa,di,op,ex,vs⟩:=sp
  dsimp only at*
  have hb5:Below w1.heap.size w1 (wr.alloc (.cells #[.int .i64 id,.string pa,.string di,.int .i64 op,.int .i64 ex,.slice ma vs.length mc] 46)).drew:=(hb.alloc hb.size _).drew
  have DT:Below wr.heap.size wr (wr.alloc (.cells #[.int .i64 id,.string pa,.string di,.int .i64 op,.int .i64 ex,.slice ma vs.length mc] 46)).drew:=zb.drew
  have hn5:=(At.new wr 46 #[.int .i64 id,.string pa,.string di,.int .i64 op,.int .i64 ex,.slice ma vs.length mc]).drew
  have LU:=zh (Rh _ DT);have Du:=zh BR;have HB5:=zh hb5;have EW:=zh DT;have HN5:=zh hn5
  clear hok hb hlk BR hb5 DT hn5 Rh hrest hsp hmv
  cases hs:Own.Bg ⟨id,pa,di,op,ex,vs⟩ with
  | false =>
    have e:R=false:=by rw[hra,hs];rfl
    have HE:=zh e;clear e hra htk
    have HHS:=zh hs;clear hs
    go_wp2_with fail
    refine Lex.zl ?_
    go_wp2_with fail
    refine LU.out.mono ?_
    rintro e3 w7 ⟨rfl,hb7⟩
    rw[HHS.out]
    have Dq:=HB5.out.trans (hb7.mono HB5.out.size)
    have g0:=((HA.out.below Dq hz1)).cell 0
    have g1:=((HA.out.below Dq hz1)).cell 1
    have n0:=(HN5.out.below hb7 HN5.out.lt).cell 0
    simp only[zg] at g0 g1 n0
    try have f1:=((EW.out.trans (hb7.mono EW.out.size)).cell (p:=⟨b,o+i*6,none⟩) hbl).trans F0.out
    have HB7:=zh Dq;clear hb7 Dq
    go_wp2_with fail
    refine Lex.ze ?_
    go_wp2_with fail
    go_ret
    exact⟨by rw[HE.out];rfl,HB.out.trans (HB7.out.mono HB.out.size)⟩
  | true=>
  rw[hs,Bool.true_and] at hra htk
  have HHS:=zh hs;clear hs
  by_cases n1:id<nxt
  case neg=>
   have dn1:decide (nxt<=id)=true:=zt
   have e:R=false:=by rw[hra,decide_eq_false n1];rfl
   have HE:=zh e;clear e hra htk n1
   go_wp2_with fail
   refine Lex.zl ?_
   go_wp2_with fail
   refine LU.out.mono ?_
   rintro e3 w7 ⟨rfl,hb7⟩
   rw[HHS.out]
   have Dq:=HB5.out.trans (hb7.mono HB5.out.size)
   have g0:=((HA.out.below Dq hz1)).cell 0
   have g1:=((HA.out.below Dq hz1)).cell 1
   have n0:=(HN5.out.below hb7 HN5.out.lt).cell 0
   simp only[zg] at g0 g1 n0
   try have f1:=((EW.out.trans (hb7.mono EW.out.size)).cell (p:=⟨b,o+i*6,none⟩) hbl).trans F0.out
   have HB7:=zh Dq;clear hb7 Dq
   go_wp2_with fail
   refine Lex.ze ?_
   go_wp2_with fail
   go_ret
   exact⟨by rw[HE.out];rfl,HB.out.trans (HB7.out.mono HB.out.size)⟩
  have dn1:decide (nxt<=id)=false:=zf
  rw[decide_eq_true n1,Bool.true_and] at hra htk
  rcases Nat.eq_zero_or_pos k with hk0|hkp
  ·have hl0:(S.take k).getLast? = none:=by rw[hk0];rfl
   rw[hl0] at htk
   have Ri : Own.Aj OK LT none (S.take (k+1))=true:=htk
   have HT:=zh Ri
   have HK0:=zh hk0
   have dz:decide ((0:Int)<(k:Int))=false:=zf
   have dz' : decide (0<k)=false:=zf
   clear hl0 hra htk Ri hk0
   go_wp2_with fail
   refine Lex.zl ?_
   go_wp2_with fail
   refine LU.out.mono ?_
   rintro e3 w7 ⟨rfl,hb7⟩
   rw[HHS.out]
   have Dq:=HB5.out.trans (hb7.mono HB5.out.size)
   have g0:=((HA.out.below Dq hz1)).cell 0
   have g1:=((HA.out.below Dq hz1)).cell 1
   have n0:=(HN5.out.below hb7 HN5.out.lt).cell 0
   simp only[zg] at g0 g1 n0
   try have f1:=((EW.out.trans (hb7.mono EW.out.size)).cell (p:=⟨b,o+i*6,none⟩) hbl).trans F0.out
   have HB7:=zh Dq;clear hb7 Dq
   go_wp2_with fail
   refine Lex.ze ?_
   go_wp2_with fail
   go_round
   case measure=>simp[intOf];omega
   case rel=>exact⟨k+1,by omega,by go_num,HT.out,HB7.out⟩
  ·obtain⟨i,hi⟩:∃ i,k=i+1:=⟨k-1,by omega⟩
   obtain⟨x,f0,hx⟩:=Du.out i hi
   rw[hx] at hra htk
   have Cr:R=(LT x ⟨id,pa,di,op,ex,vs⟩&&rest):=hra
   have Cn:Own.Aj OK LT none (S.take (k+1))=LT x ⟨id,pa,di,op,ex,vs⟩:=htk
   rw[HEL.out] at Cr Cn
   dsimp only at Cr Cn
   obtain⟨xi,hxi⟩:∃ xi,xi=x.id:=⟨_,rfl⟩
   rw[<- hxi] at Cr Cn f0
   have dz:decide ((0:Int)<(k:Int))=true:=zt
   have dz' : decide (0<k)=true:=zt
   have ek:(k:Int)-1=(i:Int):=by omega
   have hjl:i<S.length:=by omega
   have F0:=zh f0
   by_cases hlb:xi<id
   case neg=>
    have dn2:decide (id<=xi)=true:=zt
    have e:R=false:=by rw[Cr,decide_eq_false hlb];rfl
    have HE:=zh e
    clear e hra htk Cr Cn hx f0 hi hlb hxi
    go_wp2_with fail
    refine Lex.zl ?_
    go_wp2_with fail
    refine LU.out.mono ?_
    rintro e3 w7 ⟨rfl,hb7⟩
    rw[HHS.out]
    have Dq:=HB5.out.trans (hb7.mono HB5.out.size)
    have g0:=((HA.out.below Dq hz1)).cell 0
    have g1:=((HA.out.below Dq hz1)).cell 1
    have n0:=(HN5.out.below hb7 HN5.out.lt).cell 0
    simp only[zg] at g0 g1 n0
    try have f1:=((EW.out.trans (hb7.mono EW.out.size)).cell (p:=⟨b,o+i*6,none⟩) hbl).trans F0.out
    have HB7:=zh Dq;clear hb7 Dq
    go_wp2_with fail
    refine Lex.ze ?_
    go_wp2_with fail
    go_ret
    exact⟨by rw[HE.out];rfl,HB.out.trans (HB7.out.mono HB.out.size)⟩
   case pos=>
    have dn2:decide (id<=xi)=false:=zf
    rw[decide_eq_true hlb] at Cn
    have HT:=zh Cn
    clear hra htk Cr Cn hx f0 hi hlb hxi
    go_wp2_with fail
    refine Lex.zl ?_
    go_wp2_with fail
    refine LU.out.mono ?_
    rintro e3 w7 ⟨rfl,hb7⟩
    rw[HHS.out]
    have Dq:=HB5.out.trans (hb7.mono HB5.out.size)
    have g0:=((HA.out.below Dq hz1)).cell 0
    have g1:=((HA.out.below Dq hz1)).cell 1
    have n0:=(HN5.out.below hb7 HN5.out.lt).cell 0
    simp only[zg] at g0 g1 n0
    try have f1:=((EW.out.trans (hb7.mono EW.out.size)).cell (p:=⟨b,o+i*6,none⟩) hbl).trans F0.out
    have HB7:=zh Dq;clear hb7 Dq
    go_wp2_with fail
    refine Lex.ze ?_
    go_wp2_with fail
    go_round
    case measure=>simp[intOf];omega
    case rel=>exact⟨k+1,by omega,by go_num,HT.out,HB7.out⟩
theorem Cu:(Tryz.prog.info? 46).map (·.size)=some 6:=by kernel_rfl
theorem IQ (p:Own.Aa)(v:Value)(w:World)(h:Own.Br w v p.Al)(hl:p.Al.length<=3000000):
 Calls Tryz.prog 74 #[.agg #[.int .i64 p.id,.string p.path,.string p.digest,.int .i64 p.opened,.int .i64 p.expires,v]] w fun e w' => ∃ v',e=.returned (.agg #[.int .i64 p.id,.string p.path,.string p.digest,.int .i64 p.opened,.int .i64 p.expires,v'])/\w'.ownsRow w.heap.size 82 3 v' p.Al.length (p.Al.flatMap Own.BP)/\Below w.heap.size w w':=by
 obtain⟨id,pa,di,op,ex,l⟩:=p
 dsimp only at*
 have ha1:=(At.new w 46 #[.int .i64 id,.string pa,.string di,.int .i64 op,.int .i64 ex,v]).alloc (.cells #[.int .i64 0,.string ⟨#[]⟩,.string ⟨#[]⟩,.int .i64 0,.int .i64 0,.slice none 0 0] 46)
 have ha2:=At.new1 w (.cells #[.int .i64 id,.string pa,.string di,.int .i64 op,.int .i64 ex,v] 46) 46 #[.int .i64 0,.string ⟨#[]⟩,.string ⟨#[]⟩,.int .i64 0,.int .i64 0,.slice none 0 0]
 have hb1:Below w.heap.size w ((w.alloc (.cells #[.int .i64 id,.string pa,.string di,.int .i64 op,.int .i64 ex,v] 46)).alloc (.cells #[.int .i64 0,.string ⟨#[]⟩,.string ⟨#[]⟩,.int .i64 0,.int .i64 0,.slice none 0 0] 46)):=zb.alloc (by simp) _
 obtain⟨a,c,rfl⟩:=h.len
 have H:=zh (h.below hb1);have HA1:=zh ha1;have HA2:=zh ha2;have HB1:=zh hb1
 have c1:=ha1.cell 5
 simp only[zg] at c1
 clear h ha1 ha2 hb1
 go_enter Tryz.func74,Tryz.ntmps74
 go_wp2_with fail
 have hz:((w.alloc (.cells #[.int .i64 id,.string pa,.string di,.int .i64 op,.int .i64 ex,.slice a l.length c] 46)).alloc (.cells #[.int .i64 0,.string ⟨#[]⟩,.string ⟨#[]⟩,.int .i64 0,.int .i64 0,.slice none 0 0] 46)).heap.size=w.heap.size+2:=by simp
 generalize (w.alloc (.cells #[.int .i64 id,.string pa,.string di,.int .i64 op,.int .i64 ex,.slice a l.length c] 46)).alloc (.cells #[.int .i64 0,.string ⟨#[]⟩,.string ⟨#[]⟩,.int .i64 0,.int .i64 0,.slice none 0 0] 46)=w1 at*
 refine(Xt _ l.length _ w1 (Own.Br.rows H.out) (Own.jq l) hl).mono ?_
 rintro e w2 ⟨v',rfl,ho,hb⟩
 have ha1:=HA1.out.below hb (by omega)
 have ha2:=HA2.out.below hb (by omega)
 have hne1:=ha1.own_ne ho (by decide)
 have hne2:=ha2.own_ne ho (by decide)
 have hb2:=HB1.out.trans (hb.mono HB1.out.size)
 have z5:=ha1.free 5;have y0:=ha1.cell 0;have y1:=ha1.cell 1;have y2:=ha1.cell 2;have y3:=ha1.cell 3;have y4:=ha1.cell 4;have y5:=ha1.cell 5
 have x0:=ha2.cell 0;have x1:=ha2.cell 1;have x2:=ha2.cell 2;have x3:=ha2.cell 3;have x4:=ha2.cell 4;have x5:=ha2.cell 5
 have f0:=ha2.free 0;have f1:=ha2.free 1;have f2:=ha2.free 2;have f3:=ha2.free 3;have f4:=ha2.free 4;have f5:=ha2.free 5
 simp only[zg] at y0 y1 y2 y3 y4 y5 x0 x1 x2 x3 x4 x5
 obtain⟨va,vm,vc,rfl⟩:=Ac ho
 have HO:=zh ho;have G1:=zh ha1;have G2:=zh ha2;have HB2:=zh hb2
 clear ho hb ha1 ha2 hb2 c1
 go_wp2_with fail
 have F2:=((((((G2.out.far (p:=⟨w.heap.size,5,none⟩) (by simp) (.slice va vm vc)).set 0 (.int .i64 id)).set 1 (.string pa)).set 2 (.string di)).set 3 (.int .i64 op)).set 4 (.int .i64 ex)).set 5 (.slice va vm vc)
 refine Es rfl rfl (Ab F2 Tryz.underlying46 rfl Cu) ⟨_,rfl,?_,?_⟩
 ·refine BG (Aq HO.out (fun k hk=>?_)) (by omega)
  have k1:k≠w.heap.size:=by rintro rfl;exact hne1 hk
  have k2:k≠w.heap.size+1:=by rintro rfl;exact hne2 hk
  rw[zo k2,zo k2,zo k2,zo k2,zo k2,zo k2,zo k1]
 ·exact((((((HB2.out.setCell (p:=⟨w.heap.size,5,none⟩) (Nat.le_refl _) _).setCell (p:=⟨w.heap.size+1,0,none⟩) (by simp) _).setCell (p:=⟨w.heap.size+1,1,none⟩) (by simp) _).setCell (p:=⟨w.heap.size+1,2,none⟩) (by simp) _).setCell (p:=⟨w.heap.size+1,3,none⟩) (by simp) _).setCell (p:=⟨w.heap.size+1,4,none⟩) (by simp) _).setCell (p:=⟨w.heap.size+1,5,none⟩) (by simp) _
theorem SV (v:Value)(l:List Own.Member)(nm:ByteArray)(w:World)(h:Own.Ar w v l)(hl:l.length<=140737488355328):
 Calls Tryz.prog 106 #[v,.string nm] w fun e w' => (∃ i,e=.returned (.int .i64 i)/\Own.Idx (fun m:Own.Member=>decide (m.name=nm)) l i)/\Below w.heap.size w w':=by
 obtain⟨a,c,rfl⟩:=h.len
 have HL:=zh h;clear h
 go_enter Tryz.func106,Tryz.ntmps106
 go_wp2_with fail
 go_loopw [5] (fun i wr=>∃ k:Nat,k<=l.length/\i=.int .i64 k/\(∀ j (h:j<l.length),j<k->decide (l[j].name=nm)=false)/\Below w.heap.size w wr) (fun i _=>l.length-(intOf i).toNat)
 case atStart=>exact⟨0,by omega,rfl,(fun j _ h=>absurd h (by omega)),Below.refl _ _⟩
 case round=>
  obtain⟨k,hk,rfl,hno,hb⟩:=hrel
  have HN:=zh hno;have HB:=zh hb
  by_cases hlt:k<l.length
  case neg=>
   have dk:decide ((k:Int)<l.length)=false:=zf
   have hix:=Own.Idx.miss (p:=fun m:Own.Member=>decide (m.name=nm)) (l:=l) (fun j hj=>hno j hj (by omega))
   have HIX:=zh hix;clear hix hno hb
   go_wp2_with fail
   go_ret
   exact⟨⟨_,rfl,HIX.out⟩,HB.out⟩
  have dk:decide ((k:Int)<l.length)=true:=zt
  obtain⟨b,o,ha,hbl,c0,c1⟩:=Own.Ar.cells (HL.out.below hb) hlt
  subst ha
  have hbq:(l[k].name.toList==nm.toList)=decide (l[k].name=nm):=bytes_beq
  obtain⟨x,hx⟩:∃ x,x=l[k].name:=⟨_,rfl⟩
  rw[<- hx] at c0 hbq
  have HX:=zh hx;have HQ:=zh hbq
  clear hx hbq hno hb c1
  cases hc:(x.toList==nm.toList) with
  | true =>
    have hix:=Own.Idx.hit (p:=fun m:Own.Member=>decide (m.name=nm)) hlt (by show decide (l[k].name=nm)=true;rw[<- HX.out,<- HQ.out];exact hc) (fun j hj=>HN.out j (by omega) hj)
    have HIX:=zh hix;clear hix
    go_wp2_with fail
    go_ret
    exact⟨⟨_,rfl,HIX.out⟩,HB.out⟩
  | false =>
    have hn2:∀ j (h:j<l.length),j<k+1->decide (l[j].name=nm)=false:=fun j h hj=>by
     rcases(by omega:j<k\/j=k) with h1|rfl
     ·exact HN.out j h h1
     ·rw[<- HX.out,<- HQ.out];exact hc
    have HN2:=zh hn2;clear hn2
    go_wp2_with fail
    exact⟨⟨k+1,by omega,by go_num,HN2.out,HB.out⟩,by simp[intOf];omega⟩
theorem Vu (nx id:Int)(v:Value)(l:List Own.Aa)(w:World)(h:Own.A9 w v l)(hl:l.length<=140737488355328):
 Calls Tryz.prog 49 #[.agg #[.int .i64 nx,v],.int .i64 id] w fun e w' => (∃ i,e=.returned (.int .i64 i)/\Own.Idx (fun p:Own.Aa=>decide (p.id=id)) l i)/\Below w.heap.size w w':=by
 obtain⟨a,c,rfl⟩:=h.len
 have F1:=zh (show Ap w _ [(24,#[.int .i64 nx,.slice a l.length c])] from((BL.nil w).push 24 #[.int .i64 nx,.slice a l.length c]).boxes)
 have HL:=zh (h.below F1.out.under);clear h
 go_enter Tryz.func49,Tryz.ntmps49
 go_upto_region 1 with fail
 generalize w.alloc (.cells #[.int .i64 nx,.slice a l.length c] 24)=w1 at*
 go_wp2_with fail
 go_loopw [5] (fun i wr=>∃ k:Nat,k<=l.length/\i=.int .i64 k/\(∀ j (h:j<l.length),j<k->decide (l[j].id=id)=false)/\Below w1.heap.size w1 wr) (fun i _=>l.length-(intOf i).toNat)
 case atStart=>exact⟨0,by omega,rfl,(fun j _ h=>absurd h (by omega)),Below.refl _ _⟩
 case round=>
  obtain⟨k,hk,rfl,hno,hb⟩:=hrel
  have HN:=zh hno
  have F2:=zh (F1.out.step hb)
  obtain⟨x00,x01⟩:=F2.out.Dw rfl
  by_cases hlt:k<l.length
  case neg=>
   have dk:decide ((k:Int)<l.length)=false:=zf
   have hix:=Own.Idx.miss (p:=fun m:Own.Aa=>decide (m.id=id)) (l:=l) (fun j hj=>hno j hj (by omega))
   have HIX:=zh hix;clear hix hno hb
   go_wp2_with fail
   go_ret
   exact⟨⟨_,rfl,HIX.out⟩,F2.out.under⟩
  have dk:decide ((k:Int)<l.length)=true:=zt
  obtain⟨b,o,u,ha,hbl,e0,_⟩:=Own.A9.cells (HL.out.below hb) hlt
  subst ha
  obtain⟨x,hx⟩:∃ x,x=l[k].id:=⟨_,rfl⟩
  rw[<- hx] at e0
  have HX:=zh hx;have HB:=zh hb
  clear hx hno hb
  by_cases hc:x=id
  ·have dc:(x==id)=true:=beq_iff_eq.2 hc
   have hix:=Own.Idx.hit (p:=fun m:Own.Aa=>decide (m.id=id)) hlt (by show decide (l[k].id=id)=true;rw[<- HX.out];exact decide_eq_true hc) (fun j hj=>HN.out j (by omega) hj)
   have HIX:=zh hix;clear hix
   have HC:=zh hc;clear hc
   go_wp2_with fail
   go_ret
   exact⟨⟨_,rfl,HIX.out⟩,F2.out.under⟩
  ·have dc:(x==id)=false:=beq_eq_false_iff_ne.2 hc
   have hn2:∀ j (h:j<l.length),j<k+1->decide (l[j].id=id)=false:=fun j h hj=>by
    rcases(by omega:j<k\/j=k) with h1|rfl
    ·exact HN.out j h h1
    ·rw[<- HX.out];exact decide_eq_false hc
   have HN2:=zh hn2;clear hn2 hc
   go_wp2_with fail
   exact⟨⟨k+1,by omega,by go_num,HN2.out,HB.out⟩,by simp[intOf];omega⟩
theorem XE (cnt:Int)(sv v:Value)(l:List Own.KeyUse)(pb:ByteArray)(w:World)(h:Own.Bo w v l)(hl:l.length<=140737488355328):
 Calls Tryz.prog 108 #[.agg #[.int .i64 cnt,sv,v],.string pb] w fun e w' => e=.returned (.int .i64 (Own.Bf l pb))/\Below w.heap.size w w':=by
 obtain⟨R,hR⟩:∃ R,R=Own.Bf l pb:=⟨_,rfl⟩
 rw[<- hR]
 unfold Own.Bf at hR
 obtain⟨a,c,rfl⟩:=h.len
 have F1:=zh (show Ap w _ [(38,#[.int .i64 cnt,sv,.slice a l.length c])] from((BL.nil w).push 38 #[.int .i64 cnt,sv,.slice a l.length c]).boxes)
 have HR:=zh hR
 have HL:=zh (h.below F1.out.under);clear h hR
 go_enter Tryz.func108,Tryz.ntmps108
 go_upto_region 1 with fail
 generalize w.alloc (.cells #[.int .i64 cnt,sv,.slice a l.length c] 38)=w1 at*
 go_wp2_with fail
 go_loopw [5] (fun i wr=>∃ k:Nat,k<=l.length/\i=.int .i64 k/\(∀ j (h:j<l.length),j<k->decide (l[j].pub=pb)=false)/\Below w1.heap.size w1 wr) (fun i _=>l.length-(intOf i).toNat)
 case atStart=>exact⟨0,by omega,rfl,(fun j _ h=>absurd h (by omega)),Below.refl _ _⟩
 case round=>
  obtain⟨k,hk,rfl,hno,hb⟩:=hrel
  have HN:=zh hno
  have F2:=zh (F1.out.step hb)
  have x02:wr.cell? ⟨w.heap.size,2,none⟩=some (.slice a l.length c):=F2.out.cell 0 2 rfl rfl
  by_cases hlt:k<l.length
  case neg=>
   have dk:decide ((k:Int)<l.length)=false:=zf
   have hix:=Own.Idx.miss (p:=fun m:Own.KeyUse=>decide (m.pub=pb)) (l:=l) (fun j hj=>hno j hj (by omega))
   have e:R=0:=by
    rcases hix with ⟨_,h2,_⟩|⟨j,_,h,_⟩
    ·rw[HR.out,h2]
    ·omega
   have HE:=zh e;clear hix hno hb e
   go_wp2_with fail
   go_ret
   exact⟨by rw[HE.out];rfl,F2.out.under⟩
  have dk:decide ((k:Int)<l.length)=true:=zt
  obtain⟨b,o,ha,hbl,e0,e1⟩:=Own.Bo.cells (HL.out.below hb) hlt
  subst ha
  have hbq:(l[k].pub.toList==pb.toList)=decide (l[k].pub=pb):=bytes_beq
  obtain⟨x,hx⟩:∃ x,x=l[k].pub:=⟨_,rfl⟩
  obtain⟨n,hn⟩:∃ x,x=l[k].next:=⟨_,rfl⟩
  rw[<- hx] at e0 hbq
  rw[<- hn] at e1
  have HX:=zh hx;have HQ:=zh hbq;have HB:=zh hb;have HNX:=zh hn
  clear hx hbq hno hb hn
  cases hc:(x.toList==pb.toList) with
  | true =>
    have hix:=Own.Idx.hit (p:=fun m:Own.KeyUse=>decide (m.pub=pb)) hlt (by show decide (l[k].pub=pb)=true;rw[<- HX.out,<- HQ.out];exact hc) (fun j hj=>HN.out j (by omega) hj)
    have e:R=n:=by
     rcases hix with ⟨h,_,_⟩|⟨j,_,h,h2,_⟩
     ·omega
     ·have:j=k:=by omega
      subst this
      rw[HR.out,h2,HNX.out]
    have HE:=zh e;clear hix e
    go_wp2_with fail
    go_ret
    exact⟨by rw[HE.out];rfl,F2.out.under⟩
  | false =>
    have hn2:∀ j (h:j<l.length),j<k+1->decide (l[j].pub=pb)=false:=fun j h hj=>by
     rcases(by omega:j<k\/j=k) with h1|rfl
     ·exact HN.out j h h1
     ·rw[<- HX.out,<- HQ.out];exact hc
    have HN2:=zh hn2;clear hn2
    go_wp2_with fail
    exact⟨⟨k+1,by omega,by go_num,HN2.out,HB.out⟩,by simp[intOf];omega⟩
theorem Z9 (s:Sig.T)(cv pv:Value)(w:World)(hc:Ay w cv s.chains)(hp:Ay w pv s.path)(hcc:CS cv)(hsz:∀ x∈s.chains++s.path,x.size<=140737488355328):
 Calls Tryz.prog 55 #[.agg #[.int .i64 s.index,cv,pv]] w fun e w' => ∃ b,e=.returned (.bool b)/\(b=true->s.chains.length<=80/\s.path.length<=20)/\Below w.heap.size w w':=by
 obtain⟨ca,cc,rfl⟩:=hc.len
 obtain⟨pa,pc,rfl⟩:=hp.len
 obtain⟨_,_,_,he,hcl⟩:=hcc
 cases he
 have HC:=zh hc;have HP:=zh hp;have HSZ:=zh hsz
 clear hc hp hsz
 go_enter Tryz.func55,Tryz.ntmps55
 have hb1:Below w.heap.size w (w.alloc (.cells #[.int .i64 s.index,.slice ca s.chains.length cc,.slice pa s.path.length pc] 41)):=zb
 have ha1:At (w.alloc (.cells #[.int .i64 s.index,.slice ca s.chains.length cc,.slice pa s.path.length pc] 41)) w.heap.size 41 #[.int .i64 s.index,.slice ca s.chains.length cc,.slice pa s.path.length pc]:=At.new w _ _
 have hlw:w.heap.size<(w.alloc (.cells #[.int .i64 s.index,.slice ca s.chains.length cc,.slice pa s.path.length pc] 41)).heap.size:=by simp
 have HC1:=zh (HC.out.below hb1);have HP1:=zh (HP.out.below hb1)
 have HB1:=zh hb1;have HA1:=zh ha1
 clear hb1 ha1
 obtain⟨c0,c1,c2⟩:=HA1.out.c3
 go_wp2_with fail
 generalize w.alloc (.cells #[.int .i64 s.index,.slice ca s.chains.length cc,.slice pa s.path.length pc] 41)=w1 at*
 by_cases h1:s.chains.length<=80
 case neg=>
  have d1:decide (s.chains.length<=80)=false:=decide_eq_false h1
  have d1' : decide ((s.chains.length:Int)<=80)=false:=zf
  go_wp2_with fail
  refine Lex.zn (fun j=>j=w.heap.size) [13,15,21] 32 [20,3,1] ?_
  simp only[Lex.AA,zd]
  go_wp2_with fail
  refine Lex.Mid.intro (fun j hj _=>rfl) ?_
  go_wp2_with fail
  refine Lex.Mid.intro (fun j hj _=>rfl) ?_
  go_wp2_with fail
  refine Lex.Mid.intro (fun j hj _=>rfl) ?_
  go_wp2_with fail
  refine Lex.zk ⟨trivial,trivial,trivial,trivial⟩ ?_
  go_wp2_with fail
  go_ret
  exact⟨false,rfl,(fun h=>by cases h),HB1.out.drew⟩
 have d1:decide (s.chains.length<=80)=true:=decide_eq_true h1
 have d1' : decide ((s.chains.length:Int)<=80)=true:=zt
 by_cases h2:s.path.length<=20
 case neg=>
  have d2:decide (s.path.length<=20)=false:=decide_eq_false h2
  have d2' : decide ((s.path.length:Int)<=20)=false:=zf
  go_wp2_with fail
  refine Lex.zn (fun j=>j=w.heap.size) [13,15,21] 32 [20,3,1] ?_
  simp only[Lex.AA,zd]
  go_wp2_with fail
  refine Lex.Mid.intro (fun j hj _=>rfl) ?_
  go_wp2_with fail
  refine Lex.Mid.intro (fun j hj _=>rfl) ?_
  go_wp2_with fail
  refine Lex.Mid.intro (fun j hj _=>rfl) ?_
  go_wp2_with fail
  refine Lex.zk ⟨trivial,trivial,trivial,trivial⟩ ?_
  go_wp2_with fail
  go_ret
  exact⟨false,rfl,(fun h=>by cases h),HB1.out.drew⟩
 have d2:decide (s.path.length<=20)=true:=decide_eq_true h2
 have d2' : decide ((s.path.length:Int)<=20)=true:=zt
 have hmid:s.chains.length/2<=s.chains.length:=by omega
 have hcap2:s.chains.length/2<=cc:=by omega
 have hown0:(w1.drew.alloc (.cells #[] 9)).ownsRow w1.heap.size 9 1 (.slice (some ⟨w1.heap.size,0,none⟩) 0 0) 0 []:=ES w1.drew 9 1 w1.heap.size (Nat.le_refl _)
 go_wp2_with fail
 refine Lex.zn (fun j=>j=w.heap.size) [13,15,21] 32 [20,3,1] ?_
 simp only[Lex.AA,zd]
 have htk:=HC1.out.iR (c':=cc) hmid
 have htl:(s.chains.take (s.chains.length/2)).length=s.chains.length/2:=by rw[List.length_take];omega
 have zbQ:s.chains.length/2<=40:=by omega
 have HTK:=zh htk;have qK:=zh hown0;have HTL:=zh htl;clear htk hown0 htl
 go_wp2_with (at_builtin;go_must (refine JE (by rfl) ?_;refine Jz rfl _ _ rfl w1.heap.size 0 _ [] rfl qK.out (.slice ca (s.chains.length/2) cc) (s.chains.take (s.chains.length/2)) rfl ((HTK.out.below (Below.refl _ _).drew).below zb) (by rw[HTL.out];omega) (by simp) ?_);intro v5 w5 ho5 hg5;rw[Nat.zero_add,HTL.out,List.nil_append] at ho5;obtain⟨va,vm,vc,rfl⟩:=Ac ho5;obtain rfl:=Bt ho5;have hb5:Below w1.heap.size w1 w5:=Bc (((Below.refl w1.heap.size w1).drew).alloc (Nat.le_refl _) _) (by simp) qK.out hg5;have q2:=(hb5.cell (p:=⟨w.heap.size,2,none⟩) hlw).trans c2;have q1:=(hb5.cell (p:=⟨w.heap.size,1,none⟩) hlw).trans c1;have HO5:=zh ho5;have HB5:=zh hb5;clear ho5 hg5 hb5)
 refine Lex.Mid.intro (fun j hj _=>by rw[hj];exact HB5.out.block _ hlw) ?_
 have hz5:=HB5.out.size
 go_wp2_with (at_builtin;go_must (refine JE (by rfl) ?_;refine Jz rfl _ _ rfl w1.heap.size _ _ _ rfl HO5.out (.slice pa s.path.length pc) s.path rfl (HP1.out.below HB5.out) (by omega) hz5 ?_);intro v6 w6 ho6 hg6;obtain⟨ua,um,uc,rfl⟩:=Ac ho6;obtain rfl:=Bt ho6;have hb6:Below w1.heap.size w1 w6:=Bc HB5.out hz5 HO5.out hg6;have q2:=(hb6.cell (p:=⟨w.heap.size,2,none⟩) hlw).trans c2;have q1:=(hb6.cell (p:=⟨w.heap.size,1,none⟩) hlw).trans c1;have HO6:=zh ho6;have HB6:=zh hb6;clear ho6 hg6 hb6)
 have Vg:∀ j,j=w.heap.size->w6.heap[j]? = w1.drew.heap[j]? :=fun j hj=>by rw[hj];exact HB6.out.block _ hlw
 have hs6:Ay w6 (.slice ua (s.chains.length/2+s.path.length) uc) (s.chains.take (s.chains.length/2)++s.path):=Ay.own (by
  have:=HO6.out
  rw[<- List.map_append] at this
  have hl:(s.chains.take (s.chains.length/2)++s.path).length=s.chains.length/2+s.path.length:=by rw[List.length_append,HTL.out]
  rw[hl]
  exact this)
 have hf1:=Q8 _ _ w6 hs6 (fun x hx=>HSZ.out x (by
  rcases List.mem_append.1 hx with h|h
  ·exact List.mem_append.2 (.inl (List.mem_of_mem_take h))
  ·exact List.mem_append.2 (.inr h))) (by rw[List.length_append,HTL.out];omega)
 have HF1:=zh hf1;have NQ:=zh Vg
 clear hf1 hs6 Vg
 refine Lex.Mid.intro (fun j hj _=>NQ.out j hj) ?_
 go_wp2_with fail
 refine HF1.out.mono ?_
 rintro e w7 ⟨rfl,rfl⟩
 generalize WO (s.chains.take (s.chains.length/2)++s.path)=b1
 cases b1 with
 | false =>
   go_wp2_with fail
   refine Lex.Mid.intro (fun j hj _=>NQ.out j hj) ?_
   go_wp2_with fail
   refine Lex.zk ⟨⟨rfl,zi c1⟩,⟨rfl,zi c1⟩,⟨rfl,zi c2⟩,trivial⟩ ?_
   go_wp2_with fail
   go_ret
   exact⟨false,rfl,(fun h=>by cases h),HB1.out.trans (HB6.out.mono HB1.out.size)⟩
 | true =>
   have hdl:(s.chains.drop (s.chains.length/2)).length=s.chains.length-s.chains.length/2:=List.length_drop ..
   have hdi:((s.chains.length:Int)-((s.chains.length/2:Nat):Int))=((s.chains.length-s.chains.length/2:Nat):Int):=by omega
   have xL:∀ (u:Value),Ay w7 u (s.chains.drop (s.chains.length/2))->_:=fun u hu=>Q8 u _ w7 hu (fun x hx=>HSZ.out x (List.mem_append.2 (.inl (List.mem_of_mem_drop hx)))) (by rw[hdl];omega)
   have eY:=zh xL
   have HDL:=zh hdl
   have HC7:=zh (HC1.out.below HB6.out)
   clear xL hdl hdi
   generalize WO (s.chains.drop (s.chains.length/2))=b2 at*
   by_cases h0:0<s.chains.length
   ·obtain⟨b,o,rfl⟩:=HC1.out.addrOf h0
    go_wp2_with fail
    refine Lex.Mid.intro (fun j hj _=>NQ.out j hj) ?_
    go_wp2_with fail
    refine(eY.out _ (HC7.out.iT rfl)).mono ?_
    rintro e w8 ⟨rfl,rfl⟩
    go_wp2_with fail
    refine Lex.zk ⟨⟨rfl,zi c1⟩,⟨rfl,zi c1⟩,⟨rfl,zi c2⟩,trivial⟩ ?_
    go_wp2_with fail
    go_ret
    exact⟨_,rfl,(fun _=>⟨h1,h2⟩),HB1.out.trans (HB6.out.mono HB1.out.size)⟩
   ·cases ca with
    | none =>
      go_wp2_with fail
      refine Lex.Mid.intro (fun j hj _=>NQ.out j hj) ?_
      go_wp2_with fail
      refine(eY.out _ ⟨_,_,by rw[HDL.out],.inl (by rw[HDL.out];omega)⟩).mono ?_
      rintro e w8 ⟨rfl,rfl⟩
      go_wp2_with fail
      refine Lex.zk ⟨⟨rfl,zi c1⟩,⟨rfl,zi c1⟩,⟨rfl,zi c2⟩,trivial⟩ ?_
      go_wp2_with fail
      go_ret
      exact⟨_,rfl,(fun _=>⟨h1,h2⟩),HB1.out.trans (HB6.out.mono HB1.out.size)⟩
    | some p =>
      obtain⟨b,o,z⟩:=p
      cases z with
      | none =>
        by_cases hz:cc=s.chains.length/2
        case _=>
         go_wp2_with fail
         refine Lex.Mid.intro (fun j hj _=>NQ.out j hj) ?_
         go_wp2_with fail
         refine(eY.out _ ⟨_,_,by rw[HDL.out],.inl (by rw[HDL.out];omega)⟩).mono ?_
         rintro e w8 ⟨rfl,rfl⟩
         go_wp2_with fail
         refine Lex.zk ⟨⟨rfl,zi c1⟩,⟨rfl,zi c1⟩,⟨rfl,zi c2⟩,trivial⟩ ?_
         go_wp2_with fail
         go_ret
         exact⟨_,rfl,(fun _=>⟨h1,h2⟩),HB1.out.trans (HB6.out.mono HB1.out.size)⟩
        case _=>
         go_wp2_with fail
         refine Lex.Mid.intro (fun j hj _=>NQ.out j hj) ?_
         go_wp2_with fail
         refine(eY.out _ ⟨_,_,by rw[HDL.out],.inl (by rw[HDL.out];omega)⟩).mono ?_
         rintro e w8 ⟨rfl,rfl⟩
         go_wp2_with fail
         refine Lex.zk ⟨⟨rfl,zi c1⟩,⟨rfl,zi c1⟩,⟨rfl,zi c2⟩,trivial⟩ ?_
         go_wp2_with fail
         go_ret
         exact⟨_,rfl,(fun _=>⟨h1,h2⟩),HB1.out.trans (HB6.out.mono HB1.out.size)⟩
      | some z =>
        by_cases hz:cc=s.chains.length/2
        case _=>
         go_wp2_with fail
         refine Lex.Mid.intro (fun j hj _=>NQ.out j hj) ?_
         go_wp2_with fail
         refine(eY.out _ ⟨_,_,by rw[HDL.out],.inl (by rw[HDL.out];omega)⟩).mono ?_
         rintro e w8 ⟨rfl,rfl⟩
         go_wp2_with fail
         refine Lex.zk ⟨⟨rfl,zi c1⟩,⟨rfl,zi c1⟩,⟨rfl,zi c2⟩,trivial⟩ ?_
         go_wp2_with fail
         go_ret
         exact⟨_,rfl,(fun _=>⟨h1,h2⟩),HB1.out.trans (HB6.out.mono HB1.out.size)⟩
        case _=>
         go_wp2_with fail
         refine Lex.Mid.intro (fun j hj _=>NQ.out j hj) ?_
         go_wp2_with fail
         refine(eY.out _ ⟨_,_,by rw[HDL.out],.inl (by rw[HDL.out];omega)⟩).mono ?_
         rintro e w8 ⟨rfl,rfl⟩
         go_wp2_with fail
         refine Lex.zk ⟨⟨rfl,zi c1⟩,⟨rfl,zi c1⟩,⟨rfl,zi c2⟩,trivial⟩ ?_
         go_wp2_with fail
         go_ret
         exact⟨_,rfl,(fun _=>⟨h1,h2⟩),HB1.out.trans (HB6.out.mono HB1.out.size)⟩
namespace Own
def eZ (l:List Member):Prop:=l.length<=12/\∀ m∈l,m.name.size<=100/\m.pub.size<=100
def xM (o:Ak):Prop:=o.spaces.length<=70/\o.keys.length<=40/\(∀ s∈o.spaces,s.pre.size<=100/\eZ s.members)/\∀ k∈o.keys,k.pub.size<=100
def jM (a:AZ):Prop:=a.name.size<=100/\a.sig.chains.length<=80/\a.sig.path.length<=20
def jN (v:Vote):Prop:=v.name.size+v.pub.size<=200
def jO (p:Aa):Prop:=p.path.size+p.digest.size<=300/\p.Al.length<=20/\∀ v∈p.Al,jN v
def xO (q:Queue):Prop:=q.props.length<=70/\∀ p∈q.props,jO p
def GN (P:Prop)(w:World)(e:Ending)(w' : World):Prop:=∃ b,e=.returned (.bool b)/\(b=true->P)/\Below w.heap.size w w'
theorem KC {α : Type}{P : α -> Prop}{l:List α}{k:Nat}(hk:l.length<=k)(h:∀ j (h:j<l.length),j<k->P l[j]):∀ x∈l,P x:=fun x hx=>by
 obtain⟨j,hj,rfl⟩:=List.getElem_of_mem hx
 exact h j hj (by omega)
theorem FV {α : Type}{P : α -> Prop}{l:List α}{k:Nat}(hk:k<l.length)(h:∀ j (h:j<l.length),j<k->P l[j])(hp:P l[k]):∀ j (h:j<l.length),j<k+1->P l[j]:=fun j hj hjk=>by
 rcases(by omega:j<k\/j=k) with h1|rfl
 ·exact h j hj h1
 ·exact hp
end Own
theorem MW (v:Value)(l:List Own.Member)(w:World)(h:Own.Ar w v l)(hl:l.length<=140737488355328):
 Calls Tryz.prog 54 #[v] w (Own.GN (Own.eZ l) w):=by
 obtain⟨Q,hQ⟩:∃ Q,Q=Own.GN (Own.eZ l) w:=⟨_,rfl⟩
 rw[<- hQ]
 have HQ:=zh hQ;clear hQ
 obtain⟨a,c,rfl⟩:=h.len
 have HL:=zh h;clear h
 go_enter Tryz.func54,Tryz.ntmps54
 go_wp2_with fail
 go_loopw [3] (fun i wr=>∃ k:Nat,k<=l.length/\i=.int .i64 k/\(∀ j (h:j<l.length),j<k->l[j].name.size<=100/\l[j].pub.size<=100)/\Below w.heap.size w wr) (fun i _=>l.length-(intOf i).toNat)
 case atStart=>exact⟨0,by omega,rfl,(fun j _ h=>absurd h (by omega)),Below.refl _ _⟩
 case round=>
  obtain⟨k,hk,rfl,hno,hb⟩:=hrel
  have HN:=zh hno;have HB:=zh hb
  by_cases hlt:k<l.length
  case neg=>
   have dk:decide ((k:Int)<l.length)=false:=zf
   have hall:=Own.KC (P:=fun m:Own.Member=>m.name.size<=100/\m.pub.size<=100) (by omega) hno
   have HA:=zh hall;clear hall hno hb
   go_wp2_with fail
   (try go_ret)
   rw[HQ.out]
   exact⟨_,rfl,(fun h=>⟨by have:=of_decide_eq_true h;omega,HA.out⟩),HB.out⟩
  have dk:decide ((k:Int)<l.length)=true:=zt
  obtain⟨b,o,ha,hbl,c0,c1⟩:=Own.Ar.cells (HL.out.below hb) hlt
  subst ha
  have hn2:=fun hp=>Own.FV (P:=fun m:Own.Member=>m.name.size<=100/\m.pub.size<=100) hlt hno hp
  obtain⟨x,hx⟩:∃ x,x=l[k].name:=⟨_,rfl⟩
  obtain⟨y,hy⟩:∃ x,x=l[k].pub:=⟨_,rfl⟩
  rw[<- hx] at c0
  rw[<- hy] at c1
  simp only[<- hx,<- hy] at hn2
  have HN2:=zh hn2
  clear hx hy hno hb hn2
  by_cases h1:100<(x.size:Int)
  ·have d1:decide (100<(x.size:Int))=true:=decide_eq_true h1
   have d1' : decide (100<x.size)=true:=zt
   go_wp2_with fail
   (try go_ret)
   rw[HQ.out]
   exact⟨false,rfl,(fun h=>by cases h),HB.out⟩
  have d1:decide (100<(x.size:Int))=false:=decide_eq_false h1
  have d1' : decide (100<x.size)=false:=zf
  by_cases h2:100<(y.size:Int)
  ·have d2:decide (100<(y.size:Int))=true:=decide_eq_true h2
   have d2' : decide (100<y.size)=true:=zt
   go_wp2_with fail
   (try go_ret)
   rw[HQ.out]
   exact⟨false,rfl,(fun h=>by cases h),HB.out⟩
  have d2:decide (100<(y.size:Int))=false:=decide_eq_false h2
  have d2' : decide (100<y.size)=false:=zf
  have hn:=HN2.out ⟨by omega,by omega⟩
  have HN3:=zh hn;clear hn
  go_wp2_with fail
  exact⟨⟨k+1,by omega,by go_num,HN3.out,HB.out⟩,by simp[intOf];omega⟩
theorem ZA (o:Own.Ak)(sv kv:Value)(w:World)(hS:Own.AJ w sv o.spaces)(hK:Own.Bo w kv o.keys)(hls:o.spaces.length<=140737488355328)(hlk:o.keys.length<=140737488355328)(hlm:∀ s∈o.spaces,s.members.length<=140737488355328):
 Calls Tryz.prog 21 #[.agg #[.int .i64 o.count,sv,kv]] w (Own.GN (Own.xM o) w):=by
 obtain⟨Q,hQ⟩:∃ Q,Q=Own.GN (Own.xM o) w:=⟨_,rfl⟩
 rw[<- hQ]
 have HQ:=zh hQ;clear hQ
 obtain⟨sa,sc,rfl⟩:=hS.len
 obtain⟨ka,kc,rfl⟩:=hK.len
 obtain⟨cnt,S,K⟩:=o
 dsimp only at*
 have F1:=zh (show Ap w _ [(38,#[.int .i64 cnt,.slice sa S.length sc,.slice ka K.length kc])] from((BL.nil w).push 38 #[.int .i64 cnt,.slice sa S.length sc,.slice ka K.length kc]).boxes)
 have HS:=zh (hS.below F1.out.under);have HK:=zh (hK.below F1.out.under);have HLM:=zh hlm
 clear hS hK hlm
 go_enter Tryz.func21,Tryz.ntmps21
 go_upto_region 1 with fail
 generalize w.alloc (.cells #[.int .i64 cnt,.slice sa S.length sc,.slice ka K.length kc] 38)=w1 at*
 go_wp2_with fail
 go_loopw [3] (fun i wr=>∃ k:Nat,k<=S.length/\i=.int .i64 k/\(∀ j (h:j<S.length),j<k->S[j].pre.size<=100/\Own.eZ S[j].members)/\Below w1.heap.size w1 wr) (fun i _=>S.length-(intOf i).toNat)
 case atStart=>exact⟨0,by omega,rfl,(fun j _ h=>absurd h (by omega)),Below.refl _ _⟩
 case round=>
  obtain⟨k,hk,rfl,hno,hb⟩:=hrel
  have HN:=zh hno;have HB:=zh hb
  have F2:=zh (F1.out.step hb)
  obtain⟨x00,x01,x02⟩:=F2.out.Jo rfl
  by_cases hlt:k<S.length
  case neg=>
   have dk:decide ((k:Int)<S.length)=false:=zf
   have hall:=Own.KC (P:=fun s:Own.Space=>s.pre.size<=100/\Own.eZ s.members) (by omega) hno
   have HA:=zh hall;clear hall hno hb
   go_wp2_with fail
   have HKR:=zh (HK.out.below HB.out)
   obtain⟨w5,hw5⟩:∃ w5,w5=wr:=⟨_,rfl⟩
   subst hw5
   (try clear x00 x01 x02)
   go_loopw [4] (fun i wr=>∃ k:Nat,k<=K.length/\i=.int .i64 k/\(∀ j (h:j<K.length),j<k->K[j].pub.size<=100)/\Below w5.heap.size w5 wr) (fun i _=>K.length-(intOf i).toNat)
   case atStart=>exact⟨0,by omega,rfl,(fun j _ h=>absurd h (by omega)),Below.refl _ _⟩
   case round=>
    obtain⟨j,hj,rfl,hno,hb⟩:=hrel
    have F3:=zh (F2.out.step hb)
    have HB3:=zh hb
    obtain⟨x00,x01,x02⟩:=F3.out.Jo rfl
    by_cases hlt:j<K.length
    case neg=>
     have dj:decide ((j:Int)<K.length)=false:=zf
     have hall:=Own.KC (P:=fun k:Own.KeyUse=>k.pub.size<=100) (by omega) hno
     have HA2:=zh hall;clear hall hno hb
     by_cases h7:(S.length:Int)<=70
     ·have d7:decide ((S.length:Int)<=70)=true:=decide_eq_true h7
      have d7' : decide (S.length<=70)=true:=zt
      go_wp2_with fail
      (try go_ret)
      rw[HQ.out]
      exact⟨_,rfl,(fun h=>⟨by show S.length<=70;omega,by have:=of_decide_eq_true h;show K.length<=40;omega,HA.out,HA2.out⟩),F3.out.under⟩
     ·have d7:decide ((S.length:Int)<=70)=false:=decide_eq_false h7
      have d7' : decide (S.length<=70)=false:=zf
      go_wp2_with fail
      (try go_ret)
      rw[HQ.out]
      exact⟨false,rfl,(fun h=>by cases h),F3.out.under⟩
    have dj:decide ((j:Int)<K.length)=true:=zt
    obtain⟨b,o,ha,hbl,c0,c1⟩:=Own.Bo.cells (HKR.out.below hb) hlt
    subst ha
    have hn2:=fun hp=>Own.FV (P:=fun k:Own.KeyUse=>k.pub.size<=100) hlt hno hp
    obtain⟨y,hy⟩:∃ x,x=K[j].pub:=⟨_,rfl⟩
    rw[<- hy] at c0
    simp only[<- hy] at hn2
    have HN2:=zh hn2
    clear hy hno hb hn2 c1
    by_cases h1:100<(y.size:Int)
    ·have d1:decide (100<(y.size:Int))=true:=decide_eq_true h1
     have d1' : decide (100<y.size)=true:=zt
     go_wp2_with fail
     (try go_ret)
     rw[HQ.out]
     exact⟨false,rfl,(fun h=>by cases h),F3.out.under⟩
    have d1:decide (100<(y.size:Int))=false:=decide_eq_false h1
    have d1' : decide (100<y.size)=false:=zf
    have hn:=HN2.out (by omega)
    have HN3:=zh hn;clear hn
    go_wp2_with fail
    exact⟨⟨j+1,by omega,by go_num,HN3.out,HB3.out⟩,by simp[intOf];omega⟩
  have dk:decide ((k:Int)<S.length)=true:=zt
  obtain⟨b,o,mv,ha,hbl,e0,e1,e2,hmv⟩:=Own.AJ.cells (HS.out.below hb) hlt
  subst ha
  have hml:=HLM.out S[k] (List.getElem_mem hlt)
  have hn2:=fun hp=>Own.FV (P:=fun s:Own.Space=>s.pre.size<=100/\Own.eZ s.members) hlt hno hp
  obtain⟨x,hx⟩:∃ x,x=S[k]:=⟨_,rfl⟩
  rw[<- hx] at e0 hmv hml
  simp only[<- hx] at hn2
  have HN2:=zh hn2;have HMV:=zh hmv
  obtain⟨ma,mc,rfl⟩:=hmv.len
  clear hx hno hb hn2 hmv e2
  by_cases h1:100<(x.pre.size:Int)
  ·have d1:decide (100<(x.pre.size:Int))=true:=decide_eq_true h1
   have d1' : decide (100<x.pre.size)=true:=zt
   go_wp2_with fail
   (try go_ret)
   rw[HQ.out]
   exact⟨false,rfl,(fun h=>by cases h),F2.out.under⟩
  have d1:decide (100<(x.pre.size:Int))=false:=decide_eq_false h1
  have d1' : decide (100<x.pre.size)=false:=zf
  go_wp2_with fail
  refine(MW _ x.members _ HMV.out hml).mono ?_
  rintro e w6 ⟨q,rfl,hq,hb6⟩
  have F6:=zh (F2.out.step hb6);have HB6:=zh (HB.out.trans (hb6.mono HB.out.size))
  cases q with
  | false =>
    clear hb6
    go_wp2_with fail
    (try go_ret)
    rw[HQ.out]
    exact⟨false,rfl,(fun h=>by cases h),F6.out.under⟩
  | true =>
    have hn:=HN2.out ⟨by omega,hq rfl⟩
    have HN3:=zh hn;clear hn hq hb6
    go_wp2_with fail
    exact⟨⟨k+1,by omega,by go_num,HN3.out,HB6.out⟩,by simp[intOf];omega⟩
namespace Own
def LZ (w:World)(v:Value)(l:List AZ):Prop:=∃ a c,v=.slice a l.length c/\∀ i (hi:i<l.length),∃ b o cv pv,a=some ⟨b,o,none⟩/\b<w.heap.size/\w.cell? ⟨b,o+i*4,none⟩=some (.string l[i].name)/\w.cell? ⟨b,o+i*4+1,none⟩=some (.int .i64 l[i].sig.index)/\
 w.cell? ⟨b,o+i*4+2,none⟩=some cv/\w.cell? ⟨b,o+i*4+3,none⟩=some pv/\Ay w cv l[i].sig.chains/\Ay w pv l[i].sig.path/\CS cv/\CS pv
theorem LZ.below {w w' : World}{v:Value}{l:List AZ}(h:LZ w v l)(hb:Below w.heap.size w w'):LZ w' v l:=by
 obtain⟨a,c,rfl,h⟩:=h
 refine⟨a,c,rfl,fun i hi=>?_⟩
 obtain⟨b,o,cv,pv,h1,h2,h3,h4,h5,h6,h7,h8,h9⟩:=h i hi
 exact⟨b,o,cv,pv,h1,Nat.lt_of_lt_of_le h2 hb.size,(hb.cell (p:=⟨b,_,none⟩) h2).trans h3,(hb.cell (p:=⟨b,_,none⟩) h2).trans h4,(hb.cell (p:=⟨b,_,none⟩) h2).trans h5,(hb.cell (p:=⟨b,_,none⟩) h2).trans h6,h7.below hb,h8.below hb,h9⟩
end Own
theorem KO (v:Value)(l:List Own.AZ)(w:World)(h:Own.LZ w v l)(hl:l.length<=140737488355328)(hsz:∀ a∈l,∀ x∈a.sig.chains++a.sig.path,x.size<=140737488355328):
 Calls Tryz.prog 22 #[v] w (Own.GN (∀ a∈l,Own.jM a) w):=by
 obtain⟨Q,hQ⟩:∃ Q,Q=Own.GN (∀ a∈l,Own.jM a) w:=⟨_,rfl⟩
 rw[<- hQ]
 have HQ:=zh hQ;clear hQ
 have HL:=zh h;have HSZ:=zh hsz
 obtain⟨a,c,rfl,_⟩:=h
 clear hsz
 go_enter Tryz.func22,Tryz.ntmps22
 go_wp2_with fail
 go_loopw [3] (fun i wr=>∃ k:Nat,k<=l.length/\i=.int .i64 k/\(∀ j (h:j<l.length),j<k->Own.jM l[j])/\Below w.heap.size w wr) (fun i _=>l.length-(intOf i).toNat)
 case atStart=>exact⟨0,by omega,rfl,(fun j _ h=>absurd h (by omega)),Below.refl _ _⟩
 case round=>
  obtain⟨k,hk,rfl,hno,hb⟩:=hrel
  have HN:=zh hno;have HB:=zh hb
  by_cases hlt:k<l.length
  case neg=>
   have dk:decide ((k:Int)<l.length)=false:=zf
   have hall:=Own.KC (P:=Own.jM) (by omega) hno
   have HA:=zh hall;clear hall hno hb
   go_wp2_with fail
   (try go_ret)
   rw[HQ.out]
   exact⟨_,rfl,(fun _=>HA.out),HB.out⟩
  have dk:decide ((k:Int)<l.length)=true:=zt
  obtain⟨a',c',he,hcs⟩:=HL.out.below hb
  cases he
  obtain⟨b,o,cv,pv,rfl,hbl,e0,e1,e2,e3,hcv,hpv,hcc,_⟩:=hcs k hlt
  have hn2:=fun hp=>Own.FV (P:=Own.jM) hlt hno hp
  have hsz:=HSZ.out l[k] (List.getElem_mem hlt)
  obtain⟨x,hx⟩:∃ x,x=l[k]:=⟨_,rfl⟩
  rw[<- hx] at e0 e1 hcv hpv hsz
  simp only[<- hx] at hn2
  have hfw:=Z9 x.sig cv pv wr hcv hpv hcc hsz
  have HFW:=zh hfw;have HN2:=zh hn2
  clear hx hno hb hn2 hsz hcv hpv hcc hfw hcs
  obtain⟨xn,⟨xi,xc,xp⟩⟩:=x
  dsimp only at*
  by_cases h1:100<(xn.size:Int)
  ·have d1:decide (100<(xn.size:Int))=true:=decide_eq_true h1
   have d1' : decide (100<xn.size)=true:=zt
   go_wp2_with fail
   (try go_ret)
   rw[HQ.out]
   exact⟨false,rfl,(fun h=>by cases h),HB.out⟩
  have d1:decide (100<(xn.size:Int))=false:=decide_eq_false h1
  have d1' : decide (100<xn.size)=false:=zf
  go_wp2_with fail
  refine HFW.out.mono ?_
  rintro e w2 ⟨q,rfl,hq,hb2⟩
  have HB2:=zh (HB.out.trans (hb2.mono HB.out.size))
  cases q with
  | false =>
    clear hq hb2
    go_wp2_with fail
    (try go_ret)
    rw[HQ.out]
    exact⟨false,rfl,(fun h=>by cases h),HB2.out⟩
  | true =>
    have hn:=HN2.out ⟨by show xn.size<=100;omega,hq rfl⟩
    have HN3:=zh hn;clear hn hq hb2
    go_wp2_with fail
    exact⟨⟨k+1,by omega,by go_num,HN3.out,HB2.out⟩,by simp[intOf];omega⟩
theorem ZB (q:Own.Queue)(pv:Value)(w:World)(hP:Own.A9 w pv q.props)(hl:q.props.length<=140737488355328)(hlv:∀ p∈q.props,p.Al.length<=140737488355328/\p.path.size<=140737488355328/\p.digest.size<=140737488355328/\∀ v∈p.Al,v.name.size<=140737488355328/\v.pub.size<=140737488355328):
 Calls Tryz.prog 11 #[.agg #[.int .i64 q.next,pv]] w (Own.GN (Own.xO q) w):=by
 obtain⟨Q,hQ⟩:∃ Q,Q=Own.GN (Own.xO q) w:=⟨_,rfl⟩
 rw[<- hQ]
 have HQ:=zh hQ;clear hQ
 obtain⟨a,c,rfl⟩:=hP.len
 obtain⟨nx,L⟩:=q
 dsimp only at*
 have F1:=zh (show Ap w _ [(24,#[.int .i64 nx,.slice a L.length c])] from((BL.nil w).push 24 #[.int .i64 nx,.slice a L.length c]).boxes)
 have HP:=zh (hP.below F1.out.under);have HLV:=zh hlv
 clear hP hlv
 go_enter Tryz.func11,Tryz.ntmps11
 go_upto_region 1 with fail
 generalize w.alloc (.cells #[.int .i64 nx,.slice a L.length c] 24)=w1 at*
 go_wp2_with fail
 go_loopw [3] (fun i wr=>∃ k:Nat,k<=L.length/\i=.int .i64 k/\(∀ j (h:j<L.length),j<k->Own.jO L[j])/\Below w1.heap.size w1 wr) (fun i _=>L.length-(intOf i).toNat)
 case atStart=>exact⟨0,by omega,rfl,(fun j _ h=>absurd h (by omega)),Below.refl _ _⟩
 case round=>
  obtain⟨k,hk,rfl,hno,hb⟩:=hrel
  have HN:=zh hno;have HB:=zh hb
  have F2:=zh (F1.out.step hb)
  obtain⟨x00,x01⟩:=F2.out.Dw rfl
  by_cases hlt:k<L.length
  case neg=>
   have dk:decide ((k:Int)<L.length)=false:=zf
   have hall:=Own.KC (P:=Own.jO) (by omega) hno
   have HA:=zh hall;clear hall hno hb
   go_wp2_with fail
   (try go_ret)
   rw[HQ.out]
   exact⟨_,rfl,(fun h=>⟨by have:=of_decide_eq_true h;show L.length<=70;omega,HA.out⟩),F2.out.under⟩
  have dk:decide ((k:Int)<L.length)=true:=zt
  obtain⟨b,o,u,ha,hbl,e0,e1,e2,e3,e4,e5,huv⟩:=Own.A9.cells (HP.out.below hb) hlt
  subst ha
  have hml:=HLV.out L[k] (List.getElem_mem hlt)
  have hn2:=fun hp=>Own.FV (P:=Own.jO) hlt hno hp
  obtain⟨x,hx⟩:∃ x,x=L[k]:=⟨_,rfl⟩
  rw[<- hx] at e0 e1 e2 e3 e4 huv hml
  simp only[<- hx] at hn2
  obtain⟨ua,uc,rfl⟩:=huv.len
  obtain⟨pid,ppa,pdi,pop,pex,V⟩:=x
  dsimp only at*
  obtain⟨m1,m2,m3,m4⟩:=hml
  obtain⟨w4,hw4⟩:∃ w4,w4=wr:=⟨_,rfl⟩
  subst hw4
  have G1:=zh (show Ap w4 _ [(46,#[.int .i64 pid,.string ppa,.string pdi,.int .i64 pop,.int .i64 pex,.slice ua V.length uc])] from((BL.nil w4).push 46 #[.int .i64 pid,.string ppa,.string pdi,.int .i64 pop,.int .i64 pex,.slice ua V.length uc]).boxes)
  have HN2:=zh hn2;have HV:=zh (huv.below G1.out.under);have HM4:=zh m4
  clear hx hno hb hn2 huv m4
  go_upto_region 5 with fail
  (try clear x00 x01)
  clear e0 e1 e2 e3 e4 e5
  generalize w4.alloc (.cells #[.int .i64 pid,.string ppa,.string pdi,.int .i64 pop,.int .i64 pex,.slice ua V.length uc] 46)=w5 at*
  have F5:=zh (F2.out.step G1.out.under)
  obtain⟨y00,y01,y02,y03,y04,y05⟩:=G1.out.MP rfl
  by_cases h1:300<(ppa.size:Int)+(pdi.size:Int)
  ·have d1:decide (300<(ppa.size:Int)+(pdi.size:Int))=true:=decide_eq_true h1
   have d1' : decide (300<ppa.size+pdi.size)=true:=zt
   go_wp2_with fail
   (try go_ret)
   rw[HQ.out]
   exact⟨false,rfl,(fun h=>by cases h),F5.out.under⟩
  have d1:decide (300<(ppa.size:Int)+(pdi.size:Int))=false:=decide_eq_false h1
  have d1' : decide (300<ppa.size+pdi.size)=false:=zf
  by_cases h2:20<(V.length:Int)
  ·have d2:decide (20<(V.length:Int))=true:=decide_eq_true h2
   have d2' : decide (20<V.length)=true:=zt
   go_wp2_with fail
   (try go_ret)
   rw[HQ.out]
   exact⟨false,rfl,(fun h=>by cases h),F5.out.under⟩
  have d2:decide (20<(V.length:Int))=false:=decide_eq_false h2
  have d2' : decide (20<V.length)=false:=zf
  go_wp2_with fail
  clear d1 d1' d2 d2' y00 y01 y02 y03 y04 y05
  have HB5:=zh (HB.out.trans (G1.out.under.mono HB.out.size))
  have HGN:=zh (show Own.jO ⟨pid,ppa,pdi,pop,pex,V⟩↔∀ v∈V,Own.jN v from⟨fun h=>h.2.2,fun h=>⟨by show ppa.size+pdi.size<=300;omega,by show V.length<=20;omega,h⟩⟩)
  go_loopw [5] (fun i wr=>∃ j:Nat,j<=V.length/\i=.int .i64 j/\(∀ q (h:q<V.length),q<j->Own.jN V[q])/\Below w5.heap.size w5 wr) (fun i _=>V.length-(intOf i).toNat)
  case atStart=>exact⟨0,by omega,rfl,(fun j _ h=>absurd h (by omega)),Below.refl _ _⟩
  case round=>
   obtain⟨j,hj,rfl,hno,hb⟩:=hrel
   have G2:=zh (G1.out.step hb);have F6:=zh (F5.out.step hb)
   have HB6:=zh hb
   have y05:wr.cell? ⟨w4.heap.size,5,none⟩=some (.slice ua V.length uc):=G2.out.cell 0 5 rfl rfl
   by_cases hjt:j<V.length
   case neg=>
    have dj:decide ((j:Int)<V.length)=false:=zf
    have hall:=HN2.out (HGN.out.2 (Own.KC (P:=Own.jN) (by omega) hno))
    have HA2:=zh hall;clear hall hno hb
    go_wp2_with fail
    exact⟨⟨k+1,by omega,by go_num,HA2.out,HB5.out.trans (HB6.out.mono HB5.out.size)⟩,by simp[intOf];omega⟩
   have dj:decide ((j:Int)<V.length)=true:=zt
   obtain⟨b2,o2,ha,nY,c0,c1,c2⟩:=Own.Br.cells (HV.out.below hb) hjt
   subst ha
   have hm:=HM4.out V[j] (List.getElem_mem hjt)
   have hn3:=fun hp=>Own.FV (P:=Own.jN) hjt hno hp
   obtain⟨y,hy⟩:∃ x,x=V[j]:=⟨_,rfl⟩
   rw[<- hy] at c0 c1 hm
   simp only[<- hy] at hn3
   have HN3:=zh hn3
   obtain⟨hm1,hm2⟩:=hm
   clear hy hno hb hn3 c2
   obtain⟨vn,vp,va⟩:=y
   dsimp only at*
   by_cases h3:200<(vn.size:Int)+(vp.size:Int)
   ·have d3:decide (200<(vn.size:Int)+(vp.size:Int))=true:=decide_eq_true h3
    have d3' : decide (200<vn.size+vp.size)=true:=zt
    go_wp2_with fail
    refine Lex.zl ?_
    go_wp2_with fail
    refine Lex.ze ?_
    go_wp2_with fail
    (try go_ret)
    rw[HQ.out]
    exact⟨false,rfl,(fun h=>by cases h),F6.out.under.drew⟩
   have d3:decide (200<(vn.size:Int)+(vp.size:Int))=false:=decide_eq_false h3
   have d3' : decide (200<vn.size+vp.size)=false:=zf
   have hn:=HN3.out (by show vn.size+vp.size<=200;omega)
   have HN4:=zh hn;clear hn
   go_wp2_with fail
   refine Lex.zl ?_
   go_wp2_with fail
   refine Lex.ze ?_
   go_wp2_with fail
   exact⟨⟨j+1,by omega,by go_num,HN4.out,HB6.out.drew⟩,by simp[intOf];omega⟩
theorem Ka (p:Own.Aa)(v:Value)(w:World)(h:Own.Br w v p.Al)(hl:p.Al.length<=140737488355328)(hs:p.path.size<=140737488355328):
 Calls Tryz.prog 52 #[.agg #[.int .i64 p.id,.string p.path,.string p.digest,.int .i64 p.opened,.int .i64 p.expires,v]] w fun e w' => e=.returned (.bool (Own.Bg p))/\Below w.heap.size w w':=by
 obtain⟨R,hR⟩:∃ R,R=Own.Bg p:=⟨_,rfl⟩
 rw[<- hR]
 unfold Own.Bg Sig.digest Own.late at hR
 obtain⟨a,c,rfl⟩:=h.len
 obtain⟨pid,ppa,pdi,pop,pex,V⟩:=p
 dsimp only at*
 have F1:=zh (show Ap w _ [(46,#[.int .i64 pid,.string ppa,.string pdi,.int .i64 pop,.int .i64 pex,.slice a V.length c])] from((BL.nil w).push 46 #[.int .i64 pid,.string ppa,.string pdi,.int .i64 pop,.int .i64 pex,.slice a V.length c]).boxes)
 have HL:=zh (h.below F1.out.under)
 clear h
 go_enter Tryz.func52,Tryz.ntmps52
 go_upto_region 1 with fail
 generalize w.alloc (.cells #[.int .i64 pid,.string ppa,.string pdi,.int .i64 pop,.int .i64 pex,.slice a V.length c] 46)=w1 at*
 obtain⟨x00,x01,x02,x03,x04,x05⟩:=F1.out.MP rfl
 by_cases h1:0<=pid
 case neg=>
  have d1:decide (pid<0)=true:=zt
  have e:R=false:=by rw[hR,decide_eq_false h1];rfl
  have HE:=zh e;clear e hR
  go_wp2_with fail
  go_ret
  exact⟨by rw[HE.out];rfl,F1.out.under⟩
 have d1:decide (pid<0)=false:=zf
 rw[decide_eq_true h1,Bool.true_and] at hR
 cases hp:Own.Bp ppa with
 | false =>
   have e:R=false:=by rw[hR,hp];rfl
   have HE:=zh e;clear e hR
   go_wp2_with fail
   refine(Ct ppa _ (by omega)).mono ?_
   rintro e w1 ⟨rfl,rfl⟩
   rw[hp]
   go_wp2_with fail
   go_ret
   exact⟨by rw[HE.out];rfl,F1.out.under⟩
 | true=>
 rw[hp,Bool.true_and] at hR
 by_cases h2:pdi.size=32
 case neg=>
  have d2:decide (pdi.size=32)=false:=decide_eq_false h2
  have e:R=false:=by rw[hR,d2];rfl
  have HE:=zh e;clear e hR
  go_wp2_with fail
  refine(Ct ppa _ (by omega)).mono ?_
  rintro e w1 ⟨rfl,rfl⟩
  rw[hp]
  go_wp2_with fail
  refine(Bl pdi _).mono ?_
  rintro e w1 ⟨rfl,rfl⟩
  rw[d2]
  go_wp2_with fail
  go_ret
  exact⟨by rw[HE.out];rfl,F1.out.under⟩
 have d2:decide (pdi.size=32)=true:=decide_eq_true h2
 rw[d2,Bool.true_and] at hR
 have H2:=zh h2;have HD2:=zh d2;clear h2 d2
 by_cases h3:0<=pop
 case neg=>
  have d3:decide (pop<0)=true:=zt
  have e:R=false:=by rw[hR,decide_eq_false h3];rfl
  have HE:=zh e;clear e hR
  go_wp2_with fail
  refine(Ct ppa _ (by omega)).mono ?_
  rintro e w1 ⟨rfl,rfl⟩
  rw[hp]
  go_wp2_with fail
  refine(Bl pdi _).mono ?_
  rintro e w1 ⟨rfl,rfl⟩
  rw[HD2.out]
  go_wp2_with fail
  go_ret
  exact⟨by rw[HE.out];rfl,F1.out.under⟩
 have d3:decide (pop<0)=false:=zf
 rw[decide_eq_true h3,Bool.true_and] at hR
 by_cases h4:pop<=1099511627776
 case neg=>
  have d4:decide (1099511627776<pop)=true:=zt
  have e:R=false:=by rw[hR,decide_eq_false h4];rfl
  have HE:=zh e;clear e hR
  go_wp2_with fail
  refine(Ct ppa _ (by omega)).mono ?_
  rintro e w1 ⟨rfl,rfl⟩
  rw[hp]
  go_wp2_with fail
  refine(Bl pdi _).mono ?_
  rintro e w1 ⟨rfl,rfl⟩
  rw[HD2.out]
  go_wp2_with fail
  go_ret
  exact⟨by rw[HE.out];rfl,F1.out.under⟩
 have d4:decide (1099511627776<pop)=false:=zf
 rw[decide_eq_true h4,Bool.true_and] at hR
 by_cases h5:pop<pex
 case neg=>
  have d5:decide (pex<=pop)=true:=zt
  have e:R=false:=by rw[hR,decide_eq_false h5];rfl
  have HE:=zh e;clear e hR
  go_wp2_with fail
  refine(Ct ppa _ (by omega)).mono ?_
  rintro e w1 ⟨rfl,rfl⟩
  rw[hp]
  go_wp2_with fail
  refine(Bl pdi _).mono ?_
  rintro e w1 ⟨rfl,rfl⟩
  rw[HD2.out]
  go_wp2_with fail
  go_ret
  exact⟨by rw[HE.out];rfl,F1.out.under⟩
 have d5:decide (pex<=pop)=false:=zf
 rw[decide_eq_true h5,Bool.true_and] at hR
 by_cases h6:pex<=pop+256
 case neg=>
  have d6:decide (pop+256<pex)=true:=zt
  have e:R=false:=by rw[hR,decide_eq_false h6];rfl
  have HE:=zh e;clear e hR
  go_wp2_with fail
  refine(Ct ppa _ (by omega)).mono ?_
  rintro e w1 ⟨rfl,rfl⟩
  rw[hp]
  go_wp2_with fail
  refine(Bl pdi _).mono ?_
  rintro e w1 ⟨rfl,rfl⟩
  rw[HD2.out]
  go_wp2_with fail
  go_ret
  exact⟨by rw[HE.out];rfl,F1.out.under⟩
 have d6:decide (pop+256<pex)=false:=zf
 rw[decide_eq_true h6,Bool.true_and] at hR
 by_cases h7:V.length<=1024
 case neg=>
  have d7:decide ((1024:Int)<V.length)=true:=zt
  have d7' : decide (1024<V.length)=true:=zt
  have e:R=false:=by rw[hR,decide_eq_false h7];rfl
  have HE:=zh e;clear e hR
  go_wp2_with fail
  refine(Ct ppa _ (by omega)).mono ?_
  rintro e w1 ⟨rfl,rfl⟩
  rw[hp]
  go_wp2_with fail
  refine(Bl pdi _).mono ?_
  rintro e w1 ⟨rfl,rfl⟩
  rw[HD2.out]
  go_wp2_with fail
  go_ret
  exact⟨by rw[HE.out];rfl,F1.out.under⟩
 have d7:decide ((1024:Int)<V.length)=false:=zf
 have d7' : decide (1024<V.length)=false:=zf
 rw[decide_eq_true h7,Bool.true_and] at hR
 have HR:=zh hR;clear hR
 go_wp2_with fail
 refine(Ct ppa _ (by omega)).mono ?_
 rintro e w1 ⟨rfl,rfl⟩
 rw[hp]
 go_wp2_with fail
 refine(Bl pdi _).mono ?_
 rintro e w1 ⟨rfl,rfl⟩
 rw[HD2.out]
 go_wp2_with fail
 (try clear x00);(try clear x01);(try clear x02);(try clear x03);(try clear x04);(try clear x05)
 clear d1 d3 d4 d5 d6 d7 d7' h1 h3 h4 h5 h6 h7 hp
 go_loopw [3] (fun i wr=>∃ k:Nat,k<=V.length/\i=.int .i64 k/\Own.Aj (fun v:Own.Vote=>Own.Bq v.name) (fun x y=>Own.Ah x.name y.name) none (V.take k)=true/\wr=w1) (fun i _=>V.length-(intOf i).toNat)
 case atStart=>exact⟨0,by omega,rfl,rfl,rfl⟩
 case round=>
  obtain⟨k,hk,rfl,hok,rfl⟩:=hrel
  have x05:wr.cell? ⟨w.heap.size,5,none⟩=some (.slice a V.length c):=F1.out.cell 0 5 rfl rfl
  by_cases hlt:k<V.length
  case neg=>
   have hke:k=V.length:=by omega
   have dk:decide ((k:Int)<V.length)=false:=zf
   have e:R=true:=by rw[HR.out,<- hok,hke,List.take_length]
   have HE:=zh e;clear e hok hke
   go_wp2_with fail
   go_ret
   exact⟨by rw[HE.out];rfl,F1.out.under⟩
  have dk:decide ((k:Int)<V.length)=true:=zt
  have hra:(Own.Bq V[k].name&&Own.ahead (fun x y:Own.Vote=>Own.Ah x.name y.name) (V.take k).getLast? V[k])=false->R=false:=fun hf=>by rw[HR.out,Own.D7 _ _ V k hlt,hok,Bool.true_and,hf,Bool.false_and]
  have htk:Own.Aj (fun v:Own.Vote=>Own.Bq v.name) (fun x y=>Own.Ah x.name y.name) none (V.take (k+1))=(Own.Bq V[k].name&&Own.ahead (fun x y:Own.Vote=>Own.Ah x.name y.name) (V.take k).getLast? V[k]):=by rw[Own.CV _ _ V k hlt,hok,Bool.true_and]
  obtain⟨b,o,ha,hbl,c0,_,_⟩:=Own.Br.cells HL.out hlt
  have BR:∀ j,k=j+1->∃ x:Own.Vote,wr.cell? ⟨b,o+j*3,none⟩=some (.string x.name)/\(V.take k).getLast? = some x:=by
   intro j hj
   obtain⟨b',o',ha',_,e0,_,_⟩:=Own.Br.cells HL.out (i:=j) (by omega)
   rw[ha] at ha'
   cases ha'
   have hg:=Own.getLast_take V j (by omega)
   rw[<- hj] at hg
   exact⟨_,e0,hg⟩
  subst ha
  obtain⟨vk,hvk⟩:∃ x,x=V[k]:=⟨_,rfl⟩
  rw[<- hvk] at hra htk c0
  obtain⟨nm,vpb,vag⟩:=vk
  dsimp only at*
  have HRA:=zh hra;have HTK:=zh htk;have Du:=zh BR
  clear hra htk BR hvk hok hbl
  by_cases h1:(nm.size:Int)<1
  ·have d1:decide ((nm.size:Int)<1)=true:=decide_eq_true h1
   have d1' : decide (nm.size<1)=true:=zt
   have hn:Own.Bq nm=false:=by unfold Own.Bq;rw[zf];rfl
   have e:R=false:=HRA.out (by rw[hn];rfl)
   have HE:=zh e;clear e hn
   go_wp2_with fail
   go_ret
   exact⟨by rw[HE.out];rfl,F1.out.under⟩
  have d1:decide ((nm.size:Int)<1)=false:=decide_eq_false h1
  have d1' : decide (nm.size<1)=false:=zf
  by_cases h2:32<(nm.size:Int)
  ·have d2:decide (32<(nm.size:Int))=true:=decide_eq_true h2
   have d2' : decide (32<nm.size)=true:=zt
   have hn:Own.Bq nm=false:=by unfold Own.Bq;rw[decide_eq_false (show ¬ nm.size<=32 by omega),Bool.and_false]
   have e:R=false:=HRA.out (by rw[hn];rfl)
   have HE:=zh e;clear e hn
   go_wp2_with fail
   go_ret
   exact⟨by rw[HE.out];rfl,F1.out.under⟩
  have d2:decide (32<(nm.size:Int))=false:=decide_eq_false h2
  have d2' : decide (32<nm.size)=false:=zf
  have hn:Own.Bq nm=true:=by unfold Own.Bq;rw[decide_eq_true (show 1<=nm.size by omega),decide_eq_true (show nm.size<=32 by omega)];rfl
  have hra:=HRA.out;have htk:=HTK.out
  rw[hn,Bool.true_and] at hra htk
  clear HRA HTK hn
  rcases Nat.eq_zero_or_pos k with hk0|hkp
  ·have hl0:(V.take k).getLast? = none:=by rw[hk0];rfl
   rw[hl0] at hra htk
   have HTK:=zh htk
   have dz:decide ((0:Int)<(k:Int))=false:=zf
   have dz' : decide (0<k)=false:=zf
   have HK0:=zh hk0
   clear hl0 hra htk hk0
   go_wp2_with fail
   exact⟨⟨k+1,by omega,by go_num,HTK.out,(by first|rfl|trivial)⟩,by simp[intOf];omega⟩
  obtain⟨j0,hj0⟩:∃ j,k=j+1:=⟨k-1,by omega⟩
  obtain⟨x,e0,hx⟩:=Du.out j0 hj0
  rw[hx] at hra htk
  have Cr:Own.Ah x.name nm=false->R=false:=hra
  have Cn:Own.Aj (fun v:Own.Vote=>Own.Bq v.name) (fun x y=>Own.Ah x.name y.name) none (V.take (k+1))=Own.Ah x.name nm:=htk
  unfold Own.Ah at Cr
  have dz:decide ((0:Int)<(k:Int))=true:=zt
  have dz' : decide (0<k)=true:=zt
  have ek:(k:Int)-1=(j0:Int):=by omega
  have hjl:j0<V.length:=by omega
  obtain⟨xn,xpb,xag⟩:=x
  dsimp only at*
  cases hlb:Op.bytesLess xn.toList nm.toList with
  | false =>
    have e:R=false:=Cr hlb
    have HE:=zh e;clear e hra htk Cr Cn hx hj0
    go_wp2_with fail
    go_ret
    exact⟨by rw[HE.out];rfl,F1.out.under⟩
  | true =>
    have Xr:Own.Aj (fun v:Own.Vote=>Own.Bq v.name) (fun x y=>Own.Ah x.name y.name) none (V.take (k+1))=true:=by rw[Cn];exact hlb
    have HTK:=zh Xr
    clear hra htk Cr Cn Xr hx
    have HJ0:=zh hj0;clear hj0
    go_wp2_with fail
    exact⟨⟨k+1,by omega,by go_num,HTK.out,(by first|rfl|trivial)⟩,by simp[intOf];omega⟩
theorem Vv (q:Own.Queue)(pv:Value)(w:World)(hP:Own.A9 w pv q.props)(hl:q.props.length<=140737488355328)(hlv:∀ p∈q.props,p.Al.length<=140737488355328/\p.path.size<=140737488355328):
 Calls Tryz.prog 17 #[.agg #[.int .i64 q.next,pv]] w fun e w' => e=.returned (.bool (Own.AY q))/\Below w.heap.size w w':=by
 obtain⟨R,hR⟩:∃ R,R=Own.AY q:=⟨_,rfl⟩
 rw[<- hR]
 unfold Own.AY Own.late at hR
 obtain⟨a,c,rfl⟩:=hP.len
 obtain⟨nx,L⟩:=q
 dsimp only at*
 have F1:=zh (show Ap w _ [(24,#[.int .i64 nx,.slice a L.length c])] from((BL.nil w).push 24 #[.int .i64 nx,.slice a L.length c]).boxes)
 have HP:=zh (hP.below F1.out.under);have HLV:=zh hlv;have HR:=zh hR
 clear hP hlv hR
 obtain⟨C,hC⟩:∃ C:Option Own.Aa->List Own.Aa->Bool,C=Own.Aj (fun p=>Own.Bg p&&decide (p.id<nx)) (fun x y=>decide (x.id<y.id)):=⟨_,rfl⟩
 rw[<- hC] at HR
 have HC:=zh hC;clear hC
 go_enter Tryz.func17,Tryz.ntmps17
 go_upto_region 1 with fail
 generalize w.alloc (.cells #[.int .i64 nx,.slice a L.length c] 24)=w1 at*
 go_wp2_with fail
 go_loopw [3] (fun i wr=>∃ k:Nat,k<=L.length/\i=.int .i64 k/\C none (L.take k)=true/\Below w1.heap.size w1 wr) (fun i _=>L.length-(intOf i).toNat)
 case atStart=>exact⟨0,by omega,rfl,by rw[HC.out];rfl,Below.refl _ _⟩
 case round=>
  obtain⟨k,hk,rfl,hok,hb⟩:=hrel
  have HB:=zh hb
  have F2:=zh (F1.out.step hb)
  obtain⟨x00,x01⟩:=F2.out.Dw rfl
  by_cases hlt:k<L.length
  case neg=>
   have dk:decide ((k:Int)<L.length)=false:=zf
   have hke:k=L.length:=by omega
   rw[hke,List.take_length] at hok
   have e:R=(decide (0<=nx)&&decide (nx<=1099511627776)&&decide ((L.length:Int)<=64)):=by
    rw[HR.out,hok,Bool.and_true,show decide (L.length<=64)=decide ((L.length:Int)<=64) from decide_eq_decide.2 (by omega)]
   clear hok hke hb
   by_cases h1:0<=nx
   case neg=>
    have d1:decide (0<=nx)=false:=decide_eq_false h1
    rw[d1] at e
    have HE:=zh e;clear e
    go_wp2_with fail
    go_ret
    exact⟨by rw[HE.out];rfl,F2.out.under⟩
   have d1:decide (0<=nx)=true:=decide_eq_true h1
   rw[d1,Bool.true_and] at e
   by_cases h2:nx<=1099511627776
   case neg=>
    have d2:decide (nx<=1099511627776)=false:=decide_eq_false h2
    rw[d2] at e
    have HE:=zh e;clear e
    go_wp2_with fail
    go_ret
    exact⟨by rw[HE.out];rfl,F2.out.under⟩
   have d2:decide (nx<=1099511627776)=true:=decide_eq_true h2
   rw[d2,Bool.true_and] at e
   have HE:=zh e;clear e
   go_wp2_with fail
   go_ret
   exact⟨by rw[HE.out];rfl,F2.out.under⟩
  have dk:decide ((k:Int)<L.length)=true:=zt
  have hra:((Own.Bg L[k]&&decide (L[k].id<nx))&&Own.ahead (fun x y:Own.Aa=>decide (x.id<y.id)) (L.take k).getLast? L[k])=false->R=false:=fun hf=>by
   rw[HC.out] at hok
   rw[HR.out,HC.out,Own.D7 _ _ L k hlt,hok,Bool.true_and,hf]
   simp
  have htk:C none (L.take (k+1))=((Own.Bg L[k]&&decide (L[k].id<nx))&&Own.ahead (fun x y:Own.Aa=>decide (x.id<y.id)) (L.take k).getLast? L[k]):=by
   rw[HC.out] at hok
   rw[HC.out,Own.CV _ _ L k hlt,hok,Bool.true_and]
  have hlk:=HP.out.below hb
  obtain⟨b,o,u,ha,hbl,e0,e1,e2,e3,e4,e5,huv⟩:=Own.A9.cells hlk hlt
  have BR:∀ i,k=i+1->∃ x:Own.Aa,wr.cell? ⟨b,o+i*6,none⟩=some (.int .i64 x.id)/\(L.take k).getLast? = some x:=by
   intro i hi
   obtain⟨b',o',_,ha',_,e0,_⟩:=Own.A9.cells hlk (i:=i) (by omega)
   rw[ha] at ha'
   cases ha'
   have hg:=Own.getLast_take L i (by omega)
   rw[<- hi] at hg
   exact⟨_,e0,hg⟩
  subst ha
  have hml:=HLV.out L[k] (List.getElem_mem hlt)
  obtain⟨x,hx⟩:∃ x,x=L[k]:=⟨_,rfl⟩
  rw[<- hx] at e0 e1 e2 e3 e4 huv hml hra htk
  obtain⟨ua,uc,rfl⟩:=huv.len
  obtain⟨PO,hPO⟩:∃ b,b=Own.Bg x:=⟨_,rfl⟩
  have hvp:=fun W (hW:Below wr.heap.size wr W)=>Ka x (.slice ua x.Al.length uc) W (huv.below hW) hml.1 hml.2
  rw[<- hPO] at hra htk
  simp only[<- hPO] at hvp
  obtain⟨pid,ppa,pdi,pop,pex,V⟩:=x
  dsimp only at*
  obtain⟨w4,hw4⟩:∃ w4,w4=wr:=⟨_,rfl⟩
  subst hw4
  have G1:=zh (show Ap w4 _ [(46,#[.int .i64 pid,.string ppa,.string pdi,.int .i64 pop,.int .i64 pex,.slice ua V.length uc])] from((BL.nil w4).push 46 #[.int .i64 pid,.string ppa,.string pdi,.int .i64 pop,.int .i64 pex,.slice ua V.length uc]).boxes)
  have HVP:=zh (hvp _ G1.out.under.drew);have Du:=zh BR
  have HRA:=zh hra;have HTK:=zh htk
  clear hx hb huv hvp hPO hlk BR hok hra htk
  go_upto_region 5 with fail
  (try clear x00 x01)
  clear e0 e1 e2 e3 e4 e5
  generalize w4.alloc (.cells #[.int .i64 pid,.string ppa,.string pdi,.int .i64 pop,.int .i64 pex,.slice ua V.length uc] 46)=w5 at*
  have F5:=zh (F2.out.step G1.out.under);have HB5:=zh (HB.out.trans (G1.out.under.mono HB.out.size))
  obtain⟨x00,x01⟩:=F5.out.Dw rfl
  obtain⟨y00,y01,y02,y03,y04,y05⟩:=G1.out.MP rfl
  cases PO with
  | false =>
    have e:R=false:=HRA.out rfl
    have HE:=zh e;clear e
    go_wp2_with fail
    refine Lex.zl ?_
    go_wp2_with fail
    refine HVP.out.mono ?_
    rintro e w7 ⟨rfl,hb7⟩
    have G7:=zh (G1.out.drew.step hb7);have F7:=zh (F5.out.drew.step hb7)
    have HB7:=zh (HB5.out.drew.trans (hb7.mono HB5.out.size))
    clear hb7
    (try clear x00 x01)
    (try clear y00 y01 y02 y03 y04 y05)
    obtain⟨x00,x01⟩:=F7.out.Dw rfl
    obtain⟨y00,y01,y02,y03,y04,y05⟩:=G7.out.MP rfl
    go_wp2_with fail
    refine Lex.ze ?_
    go_wp2_with fail
    go_ret
    exact⟨by rw[HE.out];rfl,F7.out.under⟩
  | true=>
  by_cases h1:pid<nx
  case neg=>
   have d1:decide (nx<=pid)=true:=zt
   have e:R=false:=HRA.out (by rw[decide_eq_false h1];rfl)
   have HE:=zh e;clear e
   go_wp2_with fail
   refine Lex.zl ?_
   go_wp2_with fail
   refine HVP.out.mono ?_
   rintro e w7 ⟨rfl,hb7⟩
   have G7:=zh (G1.out.drew.step hb7);have F7:=zh (F5.out.drew.step hb7)
   have HB7:=zh (HB5.out.drew.trans (hb7.mono HB5.out.size))
   clear hb7
   (try clear x00 x01)
   (try clear y00 y01 y02 y03 y04 y05)
   obtain⟨x00,x01⟩:=F7.out.Dw rfl
   obtain⟨y00,y01,y02,y03,y04,y05⟩:=G7.out.MP rfl
   go_wp2_with fail
   refine Lex.ze ?_
   go_wp2_with fail
   go_ret
   exact⟨by rw[HE.out];rfl,F7.out.under⟩
  have d1:decide (nx<=pid)=false:=zf
  have hra:=HRA.out;have htk:=HTK.out
  rw[decide_eq_true h1,Bool.true_and,Bool.true_and] at hra htk
  clear HRA HTK
  rcases Nat.eq_zero_or_pos k with hk0|hkp
  ·have hl0:(L.take k).getLast? = none:=by rw[hk0];rfl
   rw[hl0] at htk
   have Ri : C none (L.take (k+1))=true:=htk
   have HT:=zh Ri
   have HK0:=zh hk0
   have dz:decide ((0:Int)<(k:Int))=false:=zf
   have dz' : decide (0<k)=false:=zf
   clear hl0 hra htk Ri hk0
   go_wp2_with fail
   refine Lex.zl ?_
   go_wp2_with fail
   refine HVP.out.mono ?_
   rintro e w7 ⟨rfl,hb7⟩
   have G7:=zh (G1.out.drew.step hb7);have F7:=zh (F5.out.drew.step hb7)
   have HB7:=zh (HB5.out.drew.trans (hb7.mono HB5.out.size))
   clear hb7
   (try clear x00 x01)
   (try clear y00 y01 y02 y03 y04 y05)
   obtain⟨x00,x01⟩:=F7.out.Dw rfl
   obtain⟨y00,y01,y02,y03,y04,y05⟩:=G7.out.MP rfl
   go_wp2_with fail
   refine Lex.ze ?_
   go_wp2_with fail
   exact⟨⟨k+1,by omega,by go_num,HT.out,HB7.out⟩,by simp[intOf];omega⟩
  obtain⟨i,hi⟩:∃ i,k=i+1:=⟨k-1,by omega⟩
  obtain⟨x,f0,hx⟩:=Du.out i hi
  rw[hx] at hra htk
  obtain⟨xid,xpa,xdi,xop,xex,xV⟩:=x
  have Cr:decide (xid<pid)=false->R=false:=hra
  have Cn:C none (L.take (k+1))=decide (xid<pid):=htk
  have dz:decide ((0:Int)<(k:Int))=true:=zt
  have dz' : decide (0<k)=true:=zt
  have ek:(k:Int)-1=(i:Int):=by omega
  have hjl:i<L.length:=by omega
  have F0:=zh (show w5.cell? ⟨b,o+i*6,none⟩=some (.int .i64 xid) from(G1.out.under.cell (p:=⟨b,o+i*6,none⟩) hbl).trans f0)
  have xP:=Nat.lt_of_lt_of_le hbl G1.out.under.size
  by_cases h2:xid<pid
  case neg=>
   have d2:decide (pid<=xid)=true:=zt
   have e:R=false:=Cr (decide_eq_false h2)
   have HE:=zh e
   clear e hra htk Cr Cn hx f0 hi
   go_wp2_with fail
   refine Lex.zl ?_
   go_wp2_with fail
   refine HVP.out.mono ?_
   rintro e w7 ⟨rfl,hb7⟩
   have G7:=zh (G1.out.drew.step hb7);have F7:=zh (F5.out.drew.step hb7)
   have HB7:=zh (HB5.out.drew.trans (hb7.mono HB5.out.size))
   have f1:=(hb7.cell (p:=⟨b,o+i*6,none⟩) xP).trans F0.out
   clear hb7
   (try clear x00 x01)
   (try clear y00 y01 y02 y03 y04 y05)
   obtain⟨x00,x01⟩:=F7.out.Dw rfl
   obtain⟨y00,y01,y02,y03,y04,y05⟩:=G7.out.MP rfl
   go_wp2_with fail
   refine Lex.ze ?_
   go_wp2_with fail
   go_ret
   exact⟨by rw[HE.out];rfl,F7.out.under⟩
  have d2:decide (pid<=xid)=false:=zf
  rw[decide_eq_true h2] at Cn
  have HT:=zh Cn
  clear hra htk Cr Cn hx f0 hi
  go_wp2_with fail
  refine Lex.zl ?_
  go_wp2_with fail
  refine HVP.out.mono ?_
  rintro e w7 ⟨rfl,hb7⟩
  have G7:=zh (G1.out.drew.step hb7);have F7:=zh (F5.out.drew.step hb7)
  have HB7:=zh (HB5.out.drew.trans (hb7.mono HB5.out.size))
  have f1:=(hb7.cell (p:=⟨b,o+i*6,none⟩) xP).trans F0.out
  clear hb7
  (try clear x00 x01)
  (try clear y00 y01 y02 y03 y04 y05)
  obtain⟨x00,x01⟩:=F7.out.Dw rfl
  obtain⟨y00,y01,y02,y03,y04,y05⟩:=G7.out.MP rfl
  go_wp2_with fail
  refine Lex.ze ?_
  go_wp2_with fail
  exact⟨⟨k+1,by omega,by go_num,HT.out,HB7.out⟩,by simp[intOf];omega⟩
end
end Go.Proofs.YtnijhlphcjjpbaaGreatDoor
