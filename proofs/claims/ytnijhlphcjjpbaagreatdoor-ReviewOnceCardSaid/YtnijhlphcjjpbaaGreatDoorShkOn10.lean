/- The program's reviews: which proposals and queues are valid. -/
import Derived.Test.YtnijhlphcjjpbaaGreatDoorShkOn9
set_option linter.unusedVariables false
set_option linter.unusedSimpArgs false
set_option maxRecDepth 100000
set_option maxHeartbeats 4000000
namespace Go.Proofs.YtnijhlphcjjpbaaGreatDoor
section
open Go Go.RowKit Go.Maps
namespace Own
abbrev PAt (w:World)(g:Nat)(p:Ab)(v:Value):Prop:=At w g 46 #[.int .i64 p.id,.string p.path,.string p.digest,.int .i64 p.opened,.int .i64 p.expires,v]
def Mr (p:Ab):Bool:=decide (0<=p.id)&&Bt p.path&&Sig.digest p.digest
def NY (p:Ab):Bool:=decide (0<=p.opened)&&decide (p.opened<=late)&&decide (p.opened<p.expires)&&decide (p.expires<=p.opened+256)
def Q5 (p:Ab):Bool:=decide (p.Aq.length<=1024)
def SG (p:Ab):Bool:=Ai (fun v:Vote=>CG v.name) (fun x y=>Ak x.name y.name) none p.Aq
theorem Nk (p:Ab):Bh p=(Mr p&&(NY p&&(Q5 p&&SG p))):=by
 unfold Bh Mr NY Q5 SG
 simp only[Bool.and_assoc]
end Own
theorem VY (p:Own.Ab)(v:Value)(g:Nat)(w:World)(hM:Fx w)(hp:Own.PAt w g p v):
 Calls Tryz.prog 83 #[.pointer (some ⟨g,0,none⟩)] w fun e w' => e=.returned (.bool (Own.Mr p))/\Below w.heap.size w w':=by
 obtain⟨R,hR⟩:∃ R,R=Own.Mr p:=⟨_,rfl⟩
 rw[<- hR]
 unfold Own.Mr at hR
 obtain⟨id,pa,di,op,ex,vs⟩:=p
 dsimp only at*
 have c0:=hp.cell 0;have c1:=hp.cell 1;have c2:=hp.cell 2
 simp only[zg] at c0 c1 c2
 have HR:=zh hR;have HP:=zh hp;have HM:=zh hM
 clear hR hp hM
 go_enter Tryz.func83,Tryz.ntmps83
 by_cases h1:0<=id
 case neg=>
  have d1:decide (0<=id)=false:=decide_eq_false h1
  have e:R=false:=by rw[HR.out,d1];rfl
  have HE:=zh e;clear e
  go_wp2_with fail
  go_ret
  exact⟨by rw[HE.out];rfl,Below.refl _ _⟩
 have d1:decide (0<=id)=true:=decide_eq_true h1
 have e:R=(Own.Bt pa&&Sig.digest di):=by rw[HR.out,d1];rfl
 have HE:=zh e;clear e
 go_wp2_with fail
 refine(Qp pa w HM.out).mono ?_
 rintro e w2 ⟨rfl,hb2⟩
 have HB2:=zh hb2
 have q:=HP.out.below hb2 HP.out.lt
 have q0:=q.cell 0;have q1:=q.cell 1;have q2:=q.cell 2
 simp only[zg] at q0 q1 q2
 clear q hb2 c0 c1 c2
 cases hpa:Own.Bt pa with
 | false =>
   have e:R=false:=by rw[HE.out,hpa];rfl
   have HE2:=zh e;clear e
   go_wp2_with fail
   go_ret
   exact⟨by rw[HE2.out];rfl,HB2.out⟩
 | true =>
   have e:R=((di.size:Int)==32):=by
    rw[HE.out,hpa]
    unfold Sig.digest
    rw[Bool.true_and]
    by_cases h:di.size=32
    ·rw[decide_eq_true h,h];rfl
    ·rw[decide_eq_false h];exact(beq_eq_false_iff_ne.2 (by omega)).symm
   have HE2:=zh e;clear e
   go_wp2_with fail
   go_ret
   exact⟨by rw[HE2.out];rfl,HB2.out⟩
theorem VZ (p:Own.Ab)(v:Value)(g:Nat)(w:World)(hp:Own.PAt w g p v):
 Calls Tryz.prog 84 #[.pointer (some ⟨g,0,none⟩)] w fun e w' => e=.returned (.bool (Own.NY p))/\Below w.heap.size w w':=by
 obtain⟨R,hR⟩:∃ R,R=Own.NY p:=⟨_,rfl⟩
 rw[<- hR]
 unfold Own.NY Own.late at hR
 obtain⟨id,pa,di,op,ex,vs⟩:=p
 dsimp only at*
 have c3:=hp.cell 3;have c4:=hp.cell 4
 simp only[zg] at c3 c4
 have HR:=zh hR
 clear hR hp
 go_enter Tryz.func84,Tryz.ntmps84
 by_cases h1:0<=op
 case neg=>
  have d1:decide (0<=op)=false:=decide_eq_false h1
  have e:R=false:=by rw[HR.out,d1];rfl
  have HE:=zh e;clear e
  go_wp2_with fail
  go_ret
  exact⟨by rw[HE.out];rfl,Below.refl _ _⟩
 have d1:decide (0<=op)=true:=decide_eq_true h1
 by_cases h2:op<=1099511627776
 case neg=>
  have d2:decide (op<=1099511627776)=false:=decide_eq_false h2
  have e:R=false:=by rw[HR.out,d2];simp
  have HE:=zh e;clear e
  go_wp2_with fail
  go_ret
  exact⟨by rw[HE.out];rfl,Below.refl _ _⟩
 have d2:decide (op<=1099511627776)=true:=decide_eq_true h2
 by_cases h3:op<ex
 case neg=>
  have d3:decide (op<ex)=false:=decide_eq_false h3
  have e:R=false:=by rw[HR.out,d3];simp
  have HE:=zh e;clear e
  go_wp2_with fail
  go_ret
  exact⟨by rw[HE.out];rfl,Below.refl _ _⟩
 have d3:decide (op<ex)=true:=decide_eq_true h3
 have e:R=decide (ex<=op+256):=by rw[HR.out,d1,d2,d3];rfl
 have HE:=zh e;clear e
 have hw:wrap64 (op+256)=op+256:=by unfold wrap64;omega
 have HW:=zh hw;clear hw
 go_wp2_with (rw[HW.out])
 go_ret
 exact⟨by rw[HE.out];rfl,Below.refl _ _⟩
theorem Wd (p:Own.Ab)(v:Value)(g:Nat)(w:World)(hp:Own.PAt w g p v)(hv:Own.Ct w v p.Aq):
 Calls Tryz.prog 85 #[.pointer (some ⟨g,0,none⟩)] w fun e w' => e=.returned (.bool (Own.Q5 p))/\Below w.heap.size w w':=by
 obtain⟨R,hR⟩:∃ R,R=Own.Q5 p:=⟨_,rfl⟩
 rw[<- hR]
 unfold Own.Q5 at hR
 obtain⟨id,pa,di,op,ex,vs⟩:=p
 dsimp only at*
 obtain⟨va,vc,rfl⟩:=hv.len
 have c5:=hp.cell 5
 simp only[zg] at c5
 have e:R=decide ((vs.length:Int)<=1024):=by
  rw[hR]
  by_cases h:vs.length<=1024
  ·rw[decide_eq_true h,zt]
  ·rw[decide_eq_false h,zf]
 have HR:=zh e
 clear hR hp hv e
 go_enter Tryz.func85,Tryz.ntmps85
 go_wp2_with fail
 go_ret
 exact⟨by rw[HR.out];rfl,Below.refl _ _⟩
theorem Wh (p:Own.Ab)(v:Value)(g:Nat)(w:World)(hp:Own.PAt w g p v)(hv:Own.Ct w v p.Aq)(hl:p.Aq.length<=140737488355328):
 Calls Tryz.prog 86 #[.pointer (some ⟨g,0,none⟩)] w fun e w' => e=.returned (.bool (Own.SG p))/\Below w.heap.size w w':=by
 obtain⟨R,hR⟩:∃ R,R=Own.SG p:=⟨_,rfl⟩
 rw[<- hR]
 unfold Own.SG at hR
 obtain⟨id,pa,di,op,ex,V⟩:=p
 dsimp only at*
 obtain⟨va,vc,rfl⟩:=hv.len
 have c5:=hp.cell 5
 simp only[zg] at c5
 have HR:=zh hR;have HP:=zh hp;have HV:=zh hv
 clear hR hp hv
 go_enter Tryz.func86,Tryz.ntmps86
 go_wp2_with fail
 go_loopw [7] (fun i wr=>∃ k:Nat,k<=V.length/\i=.int .i64 k/\Own.Ai (fun v:Own.Vote=>Own.CG v.name) (fun x y=>Own.Ak x.name y.name) none (V.take k)=true/\Below w.heap.size w wr) (fun i _=>V.length-(intOf i).toNat)
 case atStart=>exact⟨0,by omega,rfl,rfl,Below.refl _ _⟩
 case round=>
  obtain⟨k,hk,rfl,hok,hb⟩:=hrel
  have HBW:=zh hb
  by_cases hlt:k<V.length
  case neg=>
   have hke:k=V.length:=by omega
   have dk:decide ((k:Int)<V.length)=false:=zf
   have e:R=true:=by rw[HR.out,<- hok,hke,List.take_length]
   have HE:=zh e;clear e hok hke hb
   go_wp2_with fail
   go_ret
   exact⟨by rw[HE.out];rfl,HBW.out⟩
  have dk:decide ((k:Int)<V.length)=true:=zt
  have hra:R=((Own.CG V[k].name&&Own.ahead (fun x y:Own.Vote=>Own.Ak x.name y.name) (V.take k).getLast? V[k])&&Own.Ai (fun v:Own.Vote=>Own.CG v.name) (fun x y=>Own.Ak x.name y.name) (some V[k]) (V.drop (k+1))):=by rw[HR.out,Own.Iz _ _ V k hlt,hok,Bool.true_and]
  have htk:Own.Ai (fun v:Own.Vote=>Own.CG v.name) (fun x y=>Own.Ak x.name y.name) none (V.take (k+1))=(Own.CG V[k].name&&Own.ahead (fun x y:Own.Vote=>Own.Ak x.name y.name) (V.take k).getLast? V[k]):=by rw[Own.FT _ _ V k hlt,hok,Bool.true_and]
  have hlk:=HV.out.below hb
  obtain⟨b,o,ha,hbl,e0,e1,e2⟩:=Own.Ct.cells hlk hlt
  have Fb:∀ i,k=i+1->∃ x:Own.Vote,wr.cell? ⟨b,o+i*3,none⟩=some (.string x.name)/\(V.take k).getLast? = some x:=by
   intro i hi
   obtain⟨b',o',ha',_,e0,_⟩:=Own.Ct.cells hlk (i:=i) (by omega)
   rw[ha] at ha'
   cases ha'
   have hg:=Own.getLast_take V i (by omega)
   rw[<- hi] at hg
   exact⟨_,e0,hg⟩
  subst ha
  obtain⟨vt,hvt⟩:∃ x,x=V[k]:=⟨_,rfl⟩
  rw[<- hvt] at hra htk e0 e1 e2
  obtain⟨rest,hrest⟩:∃ x,x=Own.Ai (fun v:Own.Vote=>Own.CG v.name) (fun x y=>Own.Ak x.name y.name) (some vt) (V.drop (k+1)):=⟨_,rfl⟩
  rw[<- hrest] at hra
  obtain⟨nm,pb,ag⟩:=vt
  dsimp only at hra htk e0 e1 e2
  unfold Own.CG at hra htk
  have hb5:Below w.heap.size w (wr.alloc (.cells #[.string nm,.string pb,.bool ag] 82)).drew:=(hb.alloc hb.size _).drew
  have b5:=((HP.out.below hb HP.out.lt).alloc (.cells #[.string nm,.string pb,.bool ag] 82)).drew.cell 5
  have b5':=((HP.out.below hb HP.out.lt).alloc (.cells #[.string nm,.string pb,.bool ag] 82)).cell 5
  simp only[zg] at b5 b5'
  have J8:=zh Fb;have HB5:=zh hb5
  clear hok hb hlk Fb hb5 hrest hvt c5
  by_cases n1:1<=nm.size
  case neg=>
   have dn1:decide ((nm.size:Int)<1)=true:=zt
   have e:R=false:=by rw[hra,decide_eq_false n1];rfl
   have HE:=zh e;clear e hra htk n1
   go_wp2_with fail
   refine Lex.zl ?_
   go_wp2_with fail
   refine Lex.ze ?_
   go_wp2_with fail
   go_ret
   exact⟨by rw[HE.out];rfl,HB5.out⟩
  have dn1:decide ((nm.size:Int)<1)=false:=zf
  rw[decide_eq_true n1,Bool.true_and] at hra htk
  by_cases n2:nm.size<=32
  case neg=>
   have dn2:decide ((32:Int)<nm.size)=true:=zt
   have e:R=false:=by rw[hra,decide_eq_false n2];rfl
   have HE:=zh e;clear e hra htk n1 n2
   go_wp2_with fail
   refine Lex.zl ?_
   go_wp2_with fail
   refine Lex.ze ?_
   go_wp2_with fail
   go_ret
   exact⟨by rw[HE.out];rfl,HB5.out⟩
  have dn2:decide ((32:Int)<nm.size)=false:=zf
  rw[decide_eq_true n2,Bool.true_and] at hra htk
  rcases Nat.eq_zero_or_pos k with hk0|hkp
  ·have hl0:(V.take k).getLast? = none:=by rw[hk0];rfl
   rw[hl0] at htk
   have HT:=zh htk
   have HK0:=zh hk0
   have dz:decide ((0:Int)<(k:Int))=false:=zf
   have dz' : decide (0<k)=false:=zf
   clear hl0 hra htk hk0
   go_wp2_with fail
   refine Lex.zl ?_
   go_wp2_with fail
   refine Lex.ze ?_
   go_wp2_with fail
   go_round
   case measure=>simp[intOf];omega
   case rel=>exact⟨k+1,by omega,by go_num,HT.out,HB5.out⟩
  ·obtain⟨i,hi⟩:∃ i,k=i+1:=⟨k-1,by omega⟩
   obtain⟨x,f0,hx⟩:=J8.out i hi
   rw[hx] at hra htk
   have FR:R=(Own.Ak x.name nm&&rest):=hra
   have EI:Own.Ai (fun v:Own.Vote=>Own.CG v.name) (fun x y=>Own.Ak x.name y.name) none (V.take (k+1))=Own.Ak x.name nm:=htk
   have dz:decide ((0:Int)<(k:Int))=true:=zt
   have dz' : decide (0<k)=true:=zt
   have ek:(k:Int)-1=(i:Int):=by omega
   have hjl:i<V.length:=by omega
   have f1:(wr.alloc (.cells #[.string nm,.string pb,.bool ag] 82)).cell? ⟨b,o+i*3,none⟩=some (.string x.name):=(((Below.refl wr.heap.size wr).alloc (Nat.le_refl _) _).cell (p:=⟨b,o+i*3,none⟩) hbl).trans f0
   cases hlb:Own.Ak x.name nm with
   | false =>
     have e:R=false:=by rw[FR,hlb];rfl
     have HE:=zh e
     have om : Op.bytesLess x.name.toList nm.toList=false:=hlb
     clear e hra htk FR EI hx f0 hi hlb
     go_wp2_with fail
     refine Lex.zl ?_
     go_wp2_with fail
     refine Lex.ze ?_
     go_wp2_with fail
     go_ret
     exact⟨by rw[HE.out];rfl,HB5.out⟩
   | true =>
     rw[hlb] at EI
     have HT:=zh EI
     have om : Op.bytesLess x.name.toList nm.toList=true:=hlb
     clear hra htk FR EI hx f0 hi hlb
     go_wp2_with fail
     refine Lex.zl ?_
     go_wp2_with fail
     refine Lex.ze ?_
     go_wp2_with fail
     go_round
     case measure=>simp[intOf];omega
     case rel=>exact⟨k+1,by omega,by go_num,HT.out,HB5.out⟩
theorem Q6 (p:Own.Ab)(v:Value)(w:World)(hM:Fx w)(hv:Own.Ct w v p.Aq)(hl:p.Aq.length<=140737488355328):
 Calls Tryz.prog 51 #[.agg #[.int .i64 p.id,.string p.path,.string p.digest,.int .i64 p.opened,.int .i64 p.expires,v]] w fun e w' => e=.returned (.bool (Own.Bh p))/\Below w.heap.size w w':=by
 obtain⟨R,hR⟩:∃ R,R=Own.Bh p:=⟨_,rfl⟩
 rw[<- hR]
 rw[Own.Nk] at hR
 have r1:=VY p v;have r2:=VZ p v;have r3:=Wd p v;have r4:=Wh p v
 have hb1:Below w.heap.size w ((w.alloc (.cells #[.int .i64 p.id,.string p.path,.string p.digest,.int .i64 p.opened,.int .i64 p.expires,v] 46)).alloc (.cells #[.func (.func 83) #[] #[.pointer (some ⟨w.heap.size,0,none⟩)],.func (.func 84) #[] #[.pointer (some ⟨w.heap.size,0,none⟩)],.func (.func 85) #[] #[.pointer (some ⟨w.heap.size,0,none⟩)],.func (.func 86) #[] #[.pointer (some ⟨w.heap.size,0,none⟩)]] 25)):=zb.alloc (by simp) _
 have ha:=(At.new w 46 #[.int .i64 p.id,.string p.path,.string p.digest,.int .i64 p.opened,.int .i64 p.expires,v]).alloc (.cells #[.func (.func 83) #[] #[.pointer (some ⟨w.heap.size,0,none⟩)],.func (.func 84) #[] #[.pointer (some ⟨w.heap.size,0,none⟩)],.func (.func 85) #[] #[.pointer (some ⟨w.heap.size,0,none⟩)],.func (.func 86) #[] #[.pointer (some ⟨w.heap.size,0,none⟩)]] 25)
 have hf:=At.new1 w (.cells #[.int .i64 p.id,.string p.path,.string p.digest,.int .i64 p.opened,.int .i64 p.expires,v] 46) 25 #[.func (.func 83) #[] #[.pointer (some ⟨w.heap.size,0,none⟩)],.func (.func 84) #[] #[.pointer (some ⟨w.heap.size,0,none⟩)],.func (.func 85) #[] #[.pointer (some ⟨w.heap.size,0,none⟩)],.func (.func 86) #[] #[.pointer (some ⟨w.heap.size,0,none⟩)]]
 have HR:=zh hR;have HA1:=zh ha;have HF1:=zh hf;have HB:=zh hb1;have HM1:=zh (hM.below hb1);have HV1:=zh (hv.below hb1)
 have R1:=zh r1;have R2:=zh r2;have R3:=zh r3;have R4:=zh r4
 clear hR ha hf hb1 hM hv r1 r2 r3 r4
 go_enter Tryz.func51,Tryz.ntmps51
 go_upto_region 2 with fail
 generalize (w.alloc (.cells #[.int .i64 p.id,.string p.path,.string p.digest,.int .i64 p.opened,.int .i64 p.expires,v] 46)).alloc (.cells #[.func (.func 83) #[] #[.pointer (some ⟨w.heap.size,0,none⟩)],.func (.func 84) #[] #[.pointer (some ⟨w.heap.size,0,none⟩)],.func (.func 85) #[] #[.pointer (some ⟨w.heap.size,0,none⟩)],.func (.func 86) #[] #[.pointer (some ⟨w.heap.size,0,none⟩)]] 25)=w1 at*
 go_wp2_with fail
 go_loopw [13] (fun i wr=>Below w1.heap.size w1 wr/\(i=.int .i64 0\/(i=.int .i64 1/\Own.Mr p=true)\/(i=.int .i64 2/\Own.Mr p=true/\Own.NY p=true)\/(i=.int .i64 3/\Own.Mr p=true/\Own.NY p=true/\Own.Q5 p=true)\/(i=.int .i64 4/\R=true))) (fun i _=>4-(intOf i).toNat)
 case atStart=>exact⟨Below.refl _ _,.inl rfl⟩
 case round=>
  obtain⟨hb,rfl|⟨rfl,h1⟩|⟨rfl,h1,h2⟩|⟨rfl,h1,h2,h3⟩|⟨rfl,h4⟩⟩:=hrel
  ·
   have HP:=zh (HA1.out.below hb HA1.out.lt);have HF:=zh (HF1.out.below hb HF1.out.lt);have HMW:=zh (HM1.out.below hb);have HVW:=zh (HV1.out.below hb);have HBW:=zh hb
   obtain⟨c0,c1,c2,c3⟩:=HF.out.c4
   clear hb
   go_wp2_with fail
   refine Calls.mono (R1.out _ wr HMW.out HP.out) ?_
   rintro e w5 ⟨rfl,hb5⟩
   have HB5:=zh (HBW.out.trans (hb5.mono HBW.out.size));clear hb5
   cases hr:Own.Mr p with
   | false =>
     have e:R=false:=by rw[HR.out];simp[hr]
     have HE:=zh e;clear e hr
     go_wp2_with fail
     go_ret
     exact⟨by rw[HE.out];rfl,HB.out.trans (HB5.out.mono HB.out.size)⟩
   | true =>
     have HH:=zh hr;clear hr
     go_wp2_with fail
     go_round
     case measure=>simp[intOf]
     case rel=>exact⟨HB5.out,.inr (.inl ⟨rfl,HH.out⟩)⟩
  ·have H1:=zh h1
   rw[h1,Bool.true_and] at HR
   clear h1
   have HP:=zh (HA1.out.below hb HA1.out.lt);have HF:=zh (HF1.out.below hb HF1.out.lt);have HMW:=zh (HM1.out.below hb);have HVW:=zh (HV1.out.below hb);have HBW:=zh hb
   obtain⟨c0,c1,c2,c3⟩:=HF.out.c4
   clear hb
   go_wp2_with fail
   refine Calls.mono (R2.out _ wr HP.out) ?_
   rintro e w5 ⟨rfl,hb5⟩
   have HB5:=zh (HBW.out.trans (hb5.mono HBW.out.size));clear hb5
   cases hr:Own.NY p with
   | false =>
     have e:R=false:=by rw[HR.out];simp[hr]
     have HE:=zh e;clear e hr
     go_wp2_with fail
     go_ret
     exact⟨by rw[HE.out];rfl,HB.out.trans (HB5.out.mono HB.out.size)⟩
   | true =>
     have HH:=zh hr;clear hr
     go_wp2_with fail
     go_round
     case measure=>simp[intOf]
     case rel=>exact⟨HB5.out,.inr (.inr (.inl ⟨rfl,H1.out,HH.out⟩))⟩
  ·have H1:=zh h1;have H2:=zh h2
   rw[h1,h2,Bool.true_and,Bool.true_and] at HR
   clear h1 h2
   have HP:=zh (HA1.out.below hb HA1.out.lt);have HF:=zh (HF1.out.below hb HF1.out.lt);have HMW:=zh (HM1.out.below hb);have HVW:=zh (HV1.out.below hb);have HBW:=zh hb
   obtain⟨c0,c1,c2,c3⟩:=HF.out.c4
   clear hb
   go_wp2_with fail
   refine Calls.mono (R3.out _ wr HP.out HVW.out) ?_
   rintro e w5 ⟨rfl,hb5⟩
   have HB5:=zh (HBW.out.trans (hb5.mono HBW.out.size));clear hb5
   cases hr:Own.Q5 p with
   | false =>
     have e:R=false:=by rw[HR.out];simp[hr]
     have HE:=zh e;clear e hr
     go_wp2_with fail
     go_ret
     exact⟨by rw[HE.out];rfl,HB.out.trans (HB5.out.mono HB.out.size)⟩
   | true =>
     have HH:=zh hr;clear hr
     go_wp2_with fail
     go_round
     case measure=>simp[intOf]
     case rel=>exact⟨HB5.out,.inr (.inr (.inr (.inl ⟨rfl,H1.out,H2.out,HH.out⟩)))⟩
  ·have H1:=zh h1;have H2:=zh h2;have H3:=zh h3
   rw[h1,h2,h3,Bool.true_and,Bool.true_and,Bool.true_and] at HR
   clear h1 h2 h3
   have HP:=zh (HA1.out.below hb HA1.out.lt);have HF:=zh (HF1.out.below hb HF1.out.lt);have HMW:=zh (HM1.out.below hb);have HVW:=zh (HV1.out.below hb);have HBW:=zh hb
   obtain⟨c0,c1,c2,c3⟩:=HF.out.c4
   clear hb
   go_wp2_with fail
   refine Calls.mono (R4.out _ wr HP.out HVW.out hl) ?_
   rintro e w5 ⟨rfl,hb5⟩
   have HB5:=zh (HBW.out.trans (hb5.mono HBW.out.size));clear hb5
   cases hr:Own.SG p with
   | false =>
     have e:R=false:=by rw[HR.out];simp[hr]
     have HE:=zh e;clear e hr
     go_wp2_with fail
     go_ret
     exact⟨by rw[HE.out];rfl,HB.out.trans (HB5.out.mono HB.out.size)⟩
   | true =>
     have HH:=zh hr;clear hr
     go_wp2_with fail
     go_round
     case measure=>simp[intOf]
     case rel=>exact⟨HB5.out,.inr (.inr (.inr (.inr ⟨rfl,by rw[HR.out];exact HH.out⟩)))⟩
  ·have H4:=zh h4;have HBW:=zh hb
   clear h4 hb
   go_wp2_with fail
   go_ret
   exact⟨by rw[H4.out];rfl,HB.out.trans (HBW.out.mono HB.out.size)⟩
theorem Wi (x:Own.Ab)(u:Value)(g:Nat)(id:Int)(w:World)(hc:w.cell? ⟨g,0,none⟩=some (.int .i64 id)):
 Calls Tryz.prog 82 (#[.agg #[.int .i64 x.id,.string x.path,.string x.digest,.int .i64 x.opened,.int .i64 x.expires,u]]++#[.pointer (some ⟨g,0,none⟩)]) w fun e w' => e=.returned (.bool (decide (x.id=id)))/\Below w.heap.size w w':=by
 obtain⟨R,hR⟩:∃ R,R=decide (x.id=id):=⟨_,rfl⟩
 rw[<- hR]
 have hR2:R=(x.id==id):=hR
 obtain⟨i0,hi0⟩:∃ i,i=x.id:=⟨_,rfl⟩
 rw[<- hi0] at hR2 ⊢
 have hb1:Below w.heap.size w (w.alloc (.cells #[.int .i64 i0,.string x.path,.string x.digest,.int .i64 x.opened,.int .i64 x.expires,u] 46)):=zb
 have q:=(hb1.cell (p:=⟨g,0,none⟩) (block_lt hc)).trans hc
 have HB:=zh hb1;have HR:=zh hR2
 clear hb1 hc hR hR2 hi0
 show Calls Tryz.prog 82 #[.agg #[.int .i64 i0,.string x.path,.string x.digest,.int .i64 x.opened,.int .i64 x.expires,u],.pointer (some ⟨g,0,none⟩)] w _
 go_enter Tryz.func82,Tryz.ntmps82
 go_wp2_with fail
 go_ret
 exact⟨by rw[HR.out];rfl,HB.out⟩
theorem I7 (n id:Int)(pv:Value)(l:List Own.Ab)(w:World)(hP:Own.AX w pv l)(hl:l.length<=140737488355328):
 Calls Tryz.prog 47 #[.agg #[.int .i64 n,pv],.int .i64 id] w fun e w' => (∃ i,e=.returned (.int .i64 i)/\Own.Idx (fun p:Own.Ab=>decide (p.id=id)) l i)/\Below w.heap.size w w':=by
 obtain⟨a,c,rfl⟩:=hP.len
 have hb1:Below w.heap.size w ((w.alloc (.cells #[.int .i64 n,.slice a l.length c] 24)).alloc (.cells #[.int .i64 id] 3)):=zb.alloc (by simp) _
 have hi:=(At.new1 w (.cells #[.int .i64 n,.slice a l.length c] 24) 3 #[.int .i64 id])
 have c0:=hi.c1
 have hif:=Je 82 #[.pointer (some ⟨w.heap.size+1,0,none⟩)] (by intros;rfl) (fun p:Own.Ab=>decide (p.id=id)) _ l _ (hP.below hb1) hl (fun W x u hb=>Wi x u _ id W ((hb.cell (p:=⟨w.heap.size+1,0,none⟩) hi.lt).trans c0))
 have HIF:=zh hif;have HB:=zh hb1
 clear hif hb1 hi c0
 go_enter Tryz.func47,Tryz.ntmps47
 go_wp2_with fail
 refine HIF.out.mono ?_
 rintro e w2 ⟨⟨i,rfl,hi⟩,hb⟩
 have HI:=zh hi;have HB2:=zh (HB.out.trans (hb.mono HB.out.size))
 clear hi hb
 go_wp2_with fail
 go_ret
 exact⟨⟨_,rfl,HI.out⟩,HB2.out⟩
theorem SH (x:Own.Ab)(u:Value)(w:World):
 Calls Tryz.prog 43 #[.agg #[.int .i64 x.id,.string x.path,.string x.digest,.int .i64 x.opened,.int .i64 x.expires,u]] w fun e w' => e=.returned (.bool true)/\Below w.heap.size w w':=by
 have hb1:Below w.heap.size w (w.alloc (.cells #[.int .i64 x.id,.string x.path,.string x.digest,.int .i64 x.opened,.int .i64 x.expires,u] 46)):=zb
 have HB:=zh hb1;clear hb1
 go_enter Tryz.func43,Tryz.ntmps43
 go_wp2_with fail
 go_ret
 exact⟨rfl,HB.out⟩
theorem Dv (q:Own.Queue)(pv:Value)(w:World)(hM:Fx w)(hS:Own.AX w pv q.props)(hls:q.props.length<=140737488355328)(hlm:∀ p∈q.props,p.Aq.length<=140737488355328):
 Calls Tryz.prog 16 #[.agg #[.int .i64 q.next,pv]] w fun e w' => e=.returned (.bool (Own.A9 q))/\Below w.heap.size w w':=by
 obtain⟨R,hR⟩:∃ R,R=Own.A9 q:=⟨_,rfl⟩
 rw[<- hR]
 unfold Own.A9 Own.late at hR
 obtain⟨sa,sc,rfl⟩:=hS.len
 obtain⟨nxt,S⟩:=q
 dsimp only at*
 have ha:=At.new w 24 #[.int .i64 nxt,.slice sa S.length sc]
 have hb1:Below w.heap.size w (w.alloc (.cells #[.int .i64 nxt,.slice sa S.length sc] 24)):=zb
 have HR:=zh hR;have HS:=zh (hS.below hb1);have HM:=zh (hM.below hb1);have HB:=zh hb1;have HA:=zh ha;have HLM:=zh hlm
 have c0:=ha.cell 0;have c1:=ha.cell 1
 simp only[zg] at c0 c1
 clear hR hS hM ha hb1 hlm
 go_enter Tryz.func16,Tryz.ntmps16
 by_cases h1:0<=nxt
 case neg=>
  have d1:decide (nxt<0)=true:=zt
  have e:R=false:=by rw[HR.out,decide_eq_false h1];rfl
  have HE:=zh e;clear e
  go_wp2_with fail
  go_ret
  exact⟨by rw[HE.out];rfl,HB.out⟩
 have d1:decide (nxt<0)=false:=zf
 by_cases h2:nxt<=1099511627776
 case neg=>
  have d2:decide (1099511627776<nxt)=true:=zt
  have e:R=false:=by rw[HR.out,decide_eq_false h2];simp
  have HE:=zh e;clear e
  go_wp2_with fail
  go_ret
  exact⟨by rw[HE.out];rfl,HB.out⟩
 have d2:decide (1099511627776<nxt)=false:=zf
 by_cases h3:S.length<=64
 case neg=>
  have d3:decide ((64:Int)<S.length)=true:=zt
  have e:R=false:=by rw[HR.out,decide_eq_false h3];simp
  have HE:=zh e;clear e
  go_wp2_with fail
  go_ret
  exact⟨by rw[HE.out];rfl,HB.out⟩
 have d3:decide ((64:Int)<S.length)=false:=zf
 obtain⟨OK,hOK⟩:∃ OK:Own.Ab->Bool,OK=fun p=>Own.Bh p&&decide (p.id<nxt):=⟨_,rfl⟩
 obtain⟨LT,hLT⟩:∃ LT:Own.Ab->Own.Ab->Bool,LT=fun x y=>decide (x.id<y.id):=⟨_,rfl⟩
 have e:R=Own.Ai OK LT none S:=by
  rw[HR.out,decide_eq_true h1,decide_eq_true h2,decide_eq_true h3,hOK,hLT];simp
 have HR2:=zh e;clear e HR
 have eOK:∀ p,OK p=(Own.Bh p&&decide (p.id<nxt)):=fun p=>by rw[hOK]
 have eLT:∀ x y,LT x y=decide (x.id<y.id):=fun x y=>by rw[hLT]
 have HEO:=zh eOK;have HEL:=zh eLT
 clear hOK hLT eOK eLT
 go_wp2_with fail
 generalize w.alloc (.cells #[.int .i64 nxt,.slice sa S.length sc] 24)=w1 at*
 clear d1 d2 d3 h1 h2
 go_loopw [22] (fun i wr=>∃ k:Nat,k<=S.length/\i=.int .i64 k/\Own.Ai OK LT none (S.take k)=true/\Below w1.heap.size w1 wr) (fun i _=>S.length-(intOf i).toNat)
 case atStart=>exact⟨0,by omega,rfl,rfl,Below.refl _ _⟩
 case round=>
  obtain⟨k,hk,rfl,hok,hb⟩:=hrel
  have HBW:=zh hb
  have hz1:=HA.out.lt
  have hbs:=hb.size
  by_cases hlt:k<S.length
  case neg=>
   have hke:k=S.length:=by omega
   have dk:decide ((k:Int)<S.length)=false:=zf
   have e:R=true:=by rw[HR2.out,<- hok,hke,List.take_length]
   have HE:=zh e;clear e hok hke hb
   go_wp2_with fail
   go_ret
   exact⟨by rw[HE.out];rfl,HB.out.trans (HBW.out.mono HB.out.size)⟩
  have dk:decide ((k:Int)<S.length)=true:=zt
  have hra:R=((OK S[k]&&Own.ahead LT (S.take k).getLast? S[k])&&Own.Ai OK LT (some S[k]) (S.drop (k+1))):=by rw[HR2.out,Own.Iz _ _ S k hlt,hok,Bool.true_and]
  have htk:Own.Ai OK LT none (S.take (k+1))=(OK S[k]&&Own.ahead LT (S.take k).getLast? S[k]):=by rw[Own.FT _ _ S k hlt,hok,Bool.true_and]
  have hlk:=HS.out.below hb
  obtain⟨b,o,mv,ha,hbl,e0,e1,e2,e3,e4,e5,hmv⟩:=Own.AX.cells hlk hlt
  have Fb:∀ i,k=i+1->∃ x:Own.Ab,wr.cell? ⟨b,o+i*6,none⟩=some (.int .i64 x.id)/\(S.take k).getLast? = some x:=by
   intro i hi
   obtain⟨b',o',_,ha',_,e0,_⟩:=Own.AX.cells hlk (i:=i) (by omega)
   rw[ha] at ha'
   cases ha'
   have hg:=Own.getLast_take S i (by omega)
   rw[<- hi] at hg
   exact⟨_,e0,hg⟩
  subst ha
  have hml:=HLM.out S[k] (List.getElem_mem hlt)
  obtain⟨sp,hsp⟩:∃ x,x=S[k]:=⟨_,rfl⟩
  rw[<- hsp] at hra htk e0 e1 e2 e3 e4 hmv hml
  obtain⟨rest,hrest⟩:∃ x,x=Own.Ai OK LT (some sp) (S.drop (k+1)):=⟨_,rfl⟩
  rw[<- hrest] at hra
  rw[HEO.out] at hra htk
  obtain⟨ma,mc,rfl⟩:=hmv.len
  have VI:∀ W,Below wr.heap.size wr W->_:=fun W hW=>Q6 sp (.slice ma sp.Aq.length mc) W ((HM.out.below hb).below hW) (hmv.below hW) hml
  obtain⟨id,pa,di,op,ex,vs⟩:=sp
  dsimp only at*
  have hb5:Below w1.heap.size w1 (wr.alloc (.cells #[.int .i64 id,.string pa,.string di,.int .i64 op,.int .i64 ex,.slice ma vs.length mc] 46)).drew:=(hb.alloc hb.size _).drew
  have Er:Below wr.heap.size wr (wr.alloc (.cells #[.int .i64 id,.string pa,.string di,.int .i64 op,.int .i64 ex,.slice ma vs.length mc] 46)).drew:=zb.drew
  have hn5:=(At.new wr 46 #[.int .i64 id,.string pa,.string di,.int .i64 op,.int .i64 ex,.slice ma vs.length mc]).drew
  have Rv:=zh (VI _ Er);have J8:=zh Fb;have HB5:=zh hb5;have JA:=zh Er;have HN5:=zh hn5
  clear hok hb hlk Fb hb5 Er hn5 VI hrest hsp hmv
  cases hs:Own.Bh ⟨id,pa,di,op,ex,vs⟩ with
  | false =>
    have e:R=false:=by rw[hra,hs];rfl
    have HE:=zh e;clear e hra htk
    have HHS:=zh hs;clear hs
    go_wp2_with fail
    refine Lex.zl ?_
    go_wp2_with fail
    refine Rv.out.mono ?_
    rintro e3 w7 ⟨rfl,hb7⟩
    rw[HHS.out]
    have Dl:=HB5.out.trans (hb7.mono HB5.out.size)
    have g0:=((HA.out.below Dl hz1)).cell 0
    have g1:=((HA.out.below Dl hz1)).cell 1
    have n0:=(HN5.out.below hb7 HN5.out.lt).cell 0
    simp only[zg] at g0 g1 n0
    try have f1:=((JA.out.trans (hb7.mono JA.out.size)).cell (p:=⟨b,o+i*6,none⟩) hbl).trans F0.out
    have HB7:=zh Dl;clear hb7 Dl
    go_wp2_with fail
    refine Lex.ze ?_
    go_wp2_with fail
    go_ret
    exact⟨by rw[HE.out];rfl,HB.out.trans (HB7.out.mono HB.out.size)⟩
  | true=>
  rw[hs,Bool.true_and] at hra htk
  have HHS:=zh hs;clear hs
  by_cases n1:id<nxt
  case neg=>
   have dn1:decide (nxt<=id)=true:=zt
   have e:R=false:=by rw[hra,decide_eq_false n1];rfl
   have HE:=zh e;clear e hra htk n1
   go_wp2_with fail
   refine Lex.zl ?_
   go_wp2_with fail
   refine Rv.out.mono ?_
   rintro e3 w7 ⟨rfl,hb7⟩
   rw[HHS.out]
   have Dl:=HB5.out.trans (hb7.mono HB5.out.size)
   have g0:=((HA.out.below Dl hz1)).cell 0
   have g1:=((HA.out.below Dl hz1)).cell 1
   have n0:=(HN5.out.below hb7 HN5.out.lt).cell 0
   simp only[zg] at g0 g1 n0
   try have f1:=((JA.out.trans (hb7.mono JA.out.size)).cell (p:=⟨b,o+i*6,none⟩) hbl).trans F0.out
   have HB7:=zh Dl;clear hb7 Dl
   go_wp2_with fail
   refine Lex.ze ?_
   go_wp2_with fail
   go_ret
   exact⟨by rw[HE.out];rfl,HB.out.trans (HB7.out.mono HB.out.size)⟩
  have dn1:decide (nxt<=id)=false:=zf
  rw[decide_eq_true n1,Bool.true_and] at hra htk
  rcases Nat.eq_zero_or_pos k with hk0|hkp
  ·have hl0:(S.take k).getLast? = none:=by rw[hk0];rfl
   rw[hl0] at htk
   have eF : Own.Ai OK LT none (S.take (k+1))=true:=htk
   have HT:=zh eF
   have HK0:=zh hk0
   have dz:decide ((0:Int)<(k:Int))=false:=zf
   have dz' : decide (0<k)=false:=zf
   clear hl0 hra htk eF hk0
   go_wp2_with fail
   refine Lex.zl ?_
   go_wp2_with fail
   refine Rv.out.mono ?_
   rintro e3 w7 ⟨rfl,hb7⟩
   rw[HHS.out]
   have Dl:=HB5.out.trans (hb7.mono HB5.out.size)
   have g0:=((HA.out.below Dl hz1)).cell 0
   have g1:=((HA.out.below Dl hz1)).cell 1
   have n0:=(HN5.out.below hb7 HN5.out.lt).cell 0
   simp only[zg] at g0 g1 n0
   try have f1:=((JA.out.trans (hb7.mono JA.out.size)).cell (p:=⟨b,o+i*6,none⟩) hbl).trans F0.out
   have HB7:=zh Dl;clear hb7 Dl
   go_wp2_with fail
   refine Lex.ze ?_
   go_wp2_with fail
   go_round
   case measure=>simp[intOf];omega
   case rel=>exact⟨k+1,by omega,by go_num,HT.out,HB7.out⟩
  ·obtain⟨i,hi⟩:∃ i,k=i+1:=⟨k-1,by omega⟩
   obtain⟨x,f0,hx⟩:=J8.out i hi
   rw[hx] at hra htk
   have FR:R=(LT x ⟨id,pa,di,op,ex,vs⟩&&rest):=hra
   have EI:Own.Ai OK LT none (S.take (k+1))=LT x ⟨id,pa,di,op,ex,vs⟩:=htk
   rw[HEL.out] at FR EI
   dsimp only at FR EI
   obtain⟨xi,hxi⟩:∃ xi,xi=x.id:=⟨_,rfl⟩
   rw[<- hxi] at FR EI f0
   have dz:decide ((0:Int)<(k:Int))=true:=zt
   have dz' : decide (0<k)=true:=zt
   have ek:(k:Int)-1=(i:Int):=by omega
   have hjl:i<S.length:=by omega
   have F0:=zh f0
   by_cases hlb:xi<id
   case neg=>
    have dn2:decide (id<=xi)=true:=zt
    have e:R=false:=by rw[FR,decide_eq_false hlb];rfl
    have HE:=zh e
    clear e hra htk FR EI hx f0 hi hlb hxi
    go_wp2_with fail
    refine Lex.zl ?_
    go_wp2_with fail
    refine Rv.out.mono ?_
    rintro e3 w7 ⟨rfl,hb7⟩
    rw[HHS.out]
    have Dl:=HB5.out.trans (hb7.mono HB5.out.size)
    have g0:=((HA.out.below Dl hz1)).cell 0
    have g1:=((HA.out.below Dl hz1)).cell 1
    have n0:=(HN5.out.below hb7 HN5.out.lt).cell 0
    simp only[zg] at g0 g1 n0
    try have f1:=((JA.out.trans (hb7.mono JA.out.size)).cell (p:=⟨b,o+i*6,none⟩) hbl).trans F0.out
    have HB7:=zh Dl;clear hb7 Dl
    go_wp2_with fail
    refine Lex.ze ?_
    go_wp2_with fail
    go_ret
    exact⟨by rw[HE.out];rfl,HB.out.trans (HB7.out.mono HB.out.size)⟩
   case pos=>
    have dn2:decide (id<=xi)=false:=zf
    rw[decide_eq_true hlb] at EI
    have HT:=zh EI
    clear hra htk FR EI hx f0 hi hlb hxi
    go_wp2_with fail
    refine Lex.zl ?_
    go_wp2_with fail
    refine Rv.out.mono ?_
    rintro e3 w7 ⟨rfl,hb7⟩
    rw[HHS.out]
    have Dl:=HB5.out.trans (hb7.mono HB5.out.size)
    have g0:=((HA.out.below Dl hz1)).cell 0
    have g1:=((HA.out.below Dl hz1)).cell 1
    have n0:=(HN5.out.below hb7 HN5.out.lt).cell 0
    simp only[zg] at g0 g1 n0
    try have f1:=((JA.out.trans (hb7.mono JA.out.size)).cell (p:=⟨b,o+i*6,none⟩) hbl).trans F0.out
    have HB7:=zh Dl;clear hb7 Dl
    go_wp2_with fail
    refine Lex.ze ?_
    go_wp2_with fail
    go_round
    case measure=>simp[intOf];omega
    case rel=>exact⟨k+1,by omega,by go_num,HT.out,HB7.out⟩
theorem CJ:(Tryz.prog.info? 46).map (·.size)=some 6:=by kernel_rfl
theorem I8 (p:Own.Ab)(v:Value)(w:World)(h:Own.Ct w v p.Aq)(hl:p.Aq.length<=3000000):
 Calls Tryz.prog 74 #[.agg #[.int .i64 p.id,.string p.path,.string p.digest,.int .i64 p.opened,.int .i64 p.expires,v]] w fun e w' => ∃ v',e=.returned (.agg #[.int .i64 p.id,.string p.path,.string p.digest,.int .i64 p.opened,.int .i64 p.expires,v'])/\w'.ownsRow w.heap.size 82 3 v' p.Aq.length (p.Aq.flatMap Own.DC)/\Below w.heap.size w w':=by
 obtain⟨id,pa,di,op,ex,l⟩:=p
 dsimp only at*
 have ha1:=(At.new w 46 #[.int .i64 id,.string pa,.string di,.int .i64 op,.int .i64 ex,v]).alloc (.cells #[.int .i64 0,.string ⟨#[]⟩,.string ⟨#[]⟩,.int .i64 0,.int .i64 0,.slice none 0 0] 46)
 have ha2:=At.new1 w (.cells #[.int .i64 id,.string pa,.string di,.int .i64 op,.int .i64 ex,v] 46) 46 #[.int .i64 0,.string ⟨#[]⟩,.string ⟨#[]⟩,.int .i64 0,.int .i64 0,.slice none 0 0]
 have hb1:Below w.heap.size w ((w.alloc (.cells #[.int .i64 id,.string pa,.string di,.int .i64 op,.int .i64 ex,v] 46)).alloc (.cells #[.int .i64 0,.string ⟨#[]⟩,.string ⟨#[]⟩,.int .i64 0,.int .i64 0,.slice none 0 0] 46)):=zb.alloc (by simp) _
 obtain⟨a,c,rfl⟩:=h.len
 have H:=zh (h.below hb1);have HA1:=zh ha1;have HA2:=zh ha2;have HB1:=zh hb1
 have c1:=ha1.cell 5
 simp only[zg] at c1
 clear h ha1 ha2 hb1
 go_enter Tryz.func74,Tryz.ntmps74
 go_wp2_with fail
 have hz:((w.alloc (.cells #[.int .i64 id,.string pa,.string di,.int .i64 op,.int .i64 ex,.slice a l.length c] 46)).alloc (.cells #[.int .i64 0,.string ⟨#[]⟩,.string ⟨#[]⟩,.int .i64 0,.int .i64 0,.slice none 0 0] 46)).heap.size=w.heap.size+2:=by simp
 generalize (w.alloc (.cells #[.int .i64 id,.string pa,.string di,.int .i64 op,.int .i64 ex,.slice a l.length c] 46)).alloc (.cells #[.int .i64 0,.string ⟨#[]⟩,.string ⟨#[]⟩,.int .i64 0,.int .i64 0,.slice none 0 0] 46)=w1 at*
 refine(VJ _ l.length _ w1 (Own.Ct.rows H.out) (Own.mH l) hl).mono ?_
 rintro e w2 ⟨v',rfl,ho,hb⟩
 have ha1:=HA1.out.below hb (by omega)
 have ha2:=HA2.out.below hb (by omega)
 have hne1:=ha1.own_ne ho (by decide)
 have hne2:=ha2.own_ne ho (by decide)
 have hb2:=HB1.out.trans (hb.mono HB1.out.size)
 have z5:=ha1.free 5;have y0:=ha1.cell 0;have y1:=ha1.cell 1;have y2:=ha1.cell 2;have y3:=ha1.cell 3;have y4:=ha1.cell 4;have y5:=ha1.cell 5
 have x0:=ha2.cell 0;have x1:=ha2.cell 1;have x2:=ha2.cell 2;have x3:=ha2.cell 3;have x4:=ha2.cell 4;have x5:=ha2.cell 5
 have f0:=ha2.free 0;have f1:=ha2.free 1;have f2:=ha2.free 2;have f3:=ha2.free 3;have f4:=ha2.free 4;have f5:=ha2.free 5
 simp only[zg] at y0 y1 y2 y3 y4 y5 x0 x1 x2 x3 x4 x5
 obtain⟨va,vm,vc,rfl⟩:=Ae ho
 have HO:=zh ho;have G1:=zh ha1;have G2:=zh ha2;have HB2:=zh hb2
 clear ho hb ha1 ha2 hb2 c1
 go_wp2_with fail
 have F2:=((((((G2.out.far (p:=⟨w.heap.size,5,none⟩) (by simp) (.slice va vm vc)).set 0 (.int .i64 id)).set 1 (.string pa)).set 2 (.string di)).set 3 (.int .i64 op)).set 4 (.int .i64 ex)).set 5 (.slice va vm vc)
 refine Gn rfl rfl (Ad F2 Tryz.underlying46 rfl CJ) ⟨_,rfl,?_,?_⟩
 ·refine Cm (AA HO.out (fun k hk=>?_)) (by omega)
  have k1:k≠w.heap.size:=by rintro rfl;exact hne1 hk
  have k2:k≠w.heap.size+1:=by rintro rfl;exact hne2 hk
  rw[zo k2,zo k2,zo k2,zo k2,zo k2,zo k2,zo k1]
 ·exact((((((HB2.out.setCell (p:=⟨w.heap.size,5,none⟩) (Nat.le_refl _) _).setCell (p:=⟨w.heap.size+1,0,none⟩) (by simp) _).setCell (p:=⟨w.heap.size+1,1,none⟩) (by simp) _).setCell (p:=⟨w.heap.size+1,2,none⟩) (by simp) _).setCell (p:=⟨w.heap.size+1,3,none⟩) (by simp) _).setCell (p:=⟨w.heap.size+1,4,none⟩) (by simp) _).setCell (p:=⟨w.heap.size+1,5,none⟩) (by simp) _
namespace Own
def CB (B:Nat)(w:World)(v:Value)(L:List Ab):Prop:=
 ∃ css:List (List Value),css.length=L.length/\w.ownsRow B 46 6 v L.length css.flatten/\∀ i (hi:i<L.length) (hi' : i<css.length),css[i].length=6/\Mf (fun k=>B<=k/\k<w.heap.size/\v.ownBlock≠some k) w css[i] L[i]
theorem CB.nil (B:Nat)(w:World):CB B w (.slice none 0 0) []:=⟨[],rfl,⟨rfl,.inl ⟨rfl,rfl⟩⟩,fun i hi=>absurd hi (by simp)⟩
theorem BO {w:World}{base n size:Nat}{e:TypeId}{v:Value}{xs:List Value}(h:w.ownsRow base e size v n xs):∀ k,v.ownBlock=some k->k<w.heap.size:=by
 intro k hk
 obtain⟨_,⟨rfl,_⟩|⟨g,cap,cur,rfl,hg,hc,_⟩⟩:=h
 ·cases hk
 ·have : g = k :=by
   have hk' : some g=some k:=hk
   exact Option.some.inj hk'
  subst this
  exact(show At w g e cur from hc).lt
theorem CB.keep {B:Nat}{w w' : World}{v:Value}{L:List Ab}(h:CB B w v L)(hs:w.heap.size<=w'.heap.size)(hk:∀ k,B<=k->k<w.heap.size->w'.heap[k]? = w.heap[k]?):CB B w' v L:=by
 obtain⟨css,h1,h2,h3⟩:=h
 refine⟨css,h1,AA h2 (fun k e=>hk k (Bo h2 k e) (BO h2 k e)),fun i hi hi' => ?_⟩
 obtain⟨h4,u,h5,h6⟩:=h3 i hi hi'
 exact⟨h4,u,h5,(h6.keep hs (fun k hF hl=>hk k hF.1 hl)).mono (fun k hF _=>⟨hF.1,by omega,hF.2.2⟩)⟩
theorem CB.below {B:Nat}{w w' : World}{v:Value}{L:List Ab}(h:CB B w v L)(hb:Below w.heap.size w w'):CB B w' v L:=h.keep hb.size fun k _ hl=>hb.block k hl
theorem CB.one {B:Nat}{w:World}{v:Value}{L:List Ab}(h:CB B w v L):∃ a c,v=.slice a L.length c:=by
 obtain⟨css,h1,h2,h3⟩:=h
 obtain⟨a,m,c,rfl⟩:=Ae h2
 obtain rfl:=BU h2
 exact⟨a,c,rfl⟩
theorem CB.list {B:Nat}{w:World}{v:Value}{L:List Ab}{F:Nat->Prop}(h:CB B w v L)(hF:∀ k,B<=k->k<w.heap.size->F k):Af 6 Mf F w v L:=by
 obtain⟨css,h1,h2,h3⟩:=h
 refine Af.TY (BA.own h2) rfl h1 (fun k e=>hF k (Bo h2 k e) (BO h2 k e)) (fun i hi hi' => ?_)
 obtain⟨h4,u,h5,h6⟩:=h3 i hi hi'
 exact⟨h4,u,h5,h6.mono (fun k hk _=>hF k hk.1 hk.2.1)⟩
theorem CB.push {B:Nat}{w w' : World}{v v' : Value}{L:List Ab}{x:Ab}{u:Value}{css:List (List Value)}(h1:css.length=L.length)(hv:w.ownsRow B 46 6 v L.length css.flatten)
 (h3:∀ i (hi:i<L.length) (hi' : i<css.length),css[i].length=6/\Mf (fun k=>B<=k/\k<w.heap.size/\v.ownBlock≠some k) w css[i] L[i]) (hu:Af 3 NS (fun k=>B<=k/\k<w.heap.size/\v.ownBlock≠some k) w u x.Aq)
 (hv' : w'.ownsRow B 46 6 v' (L.length+1) (css.flatten++[.int .i64 x.id,.string x.path,.string x.digest,.int .i64 x.opened,.int .i64 x.expires,u])) (hg:w.grownBy w' v.ownBlock) (ho:v'.ownBlock=v.ownBlock\/v'.ownBlock=some w.heap.size):CB B w' v' (L++[x]):=by
 have hsz:w.heap.size<=w'.heap.size:=hg.size
 have hkp:∀ k,B<=k/\k<w.heap.size/\v.ownBlock≠some k->k<w.heap.size->w'.heap[k]? = w.heap[k]? :=fun k hF hl=>hg.block k hl (fun e=>hF.2.2 e.symm)
 have hF:∀ k,B<=k/\k<w.heap.size/\v.ownBlock≠some k->k<w'.heap.size->B<=k/\k<w'.heap.size/\v'.ownBlock≠some k:=fun k hF hl=>⟨hF.1,hl,by
  rcases ho with ho|ho
  ·rw[ho];exact hF.2.2
  ·rw[ho];intro e;have:=Option.some.inj e;omega⟩
 refine⟨css++[[.int .i64 x.id,.string x.path,.string x.digest,.int .i64 x.opened,.int .i64 x.expires,u]],by simp[h1],?_,fun i hi hi' => ?_⟩
 ·rw[List.flatten_append,List.length_append]
  simpa using hv'
 ·by_cases hl:i<L.length
  ·obtain⟨h4,u',h5,h6⟩:=h3 i hl (by omega)
   rw[List.getElem_append_left (by omega),List.getElem_append_left hl]
   exact⟨h4,u',h5,(h6.keep hsz hkp).mono hF⟩
  ·have e:i=L.length:=by simp at hi;omega
   subst e
   rw[List.getElem_append_right (by omega),List.getElem_append_right (by omega)]
   simp only[h1,Nat.sub_self,List.getElem_cons_zero]
   exact⟨rfl,u,rfl,(hu.keep hsz hkp).mono hF⟩
end Own
theorem Ao:(Tryz.prog.info? 24).map (·.size)=some 2:=by kernel_rfl
theorem I9 (g:Nat)(lb:Array Value)(eg:∀ args w,(callFunc g args).run Tryz.prog w=.ok (.enter g args) w)(p:Own.Ab->Bool)(n:Int)(pv:Value)(l:List Own.Ab)(w:World)(hP:Own.AX w pv l)(hl:l.length<=1000000)(hlv:∀ x∈l,x.Aq.length<=3000000)
 (hp:∀ (W:World) (x:Own.Ab) (u:Value),Below w.heap.size w W->Calls Tryz.prog g (#[.agg #[.int .i64 x.id,.string x.path,.string x.digest,.int .i64 x.opened,.int .i64 x.expires,u]]++lb) W fun e w' => e=.returned (.bool (p x))/\Below W.heap.size W w'):
 Calls Tryz.prog 42 #[.agg #[.int .i64 n,pv],.func (.func g) #[] lb] w fun e w' => (∃ v',e=.returned (.agg #[.int .i64 n,v'])/\Own.CB (w.heap.size+3) w' v' (l.filter p))/\Below w.heap.size w w':=by
 obtain⟨a,c,rfl⟩:=hP.len
 have hb1:Below w.heap.size w (((w.alloc (.cells #[.int .i64 n,.slice a l.length c] 24)).alloc (.cells #[.int .i64 0,.slice none 0 0] 24)).alloc (.cells #[.int .i64 n,.slice none 0 0] 24)):=(zb.alloc (by simp) _).alloc (by simp;omega) _
 have a1:=(At.new1 w (.cells #[.int .i64 n,.slice a l.length c] 24) 24 #[.int .i64 0,.slice none 0 0]).alloc (.cells #[.int .i64 n,.slice none 0 0] 24)
 have a2:At (((w.alloc (.cells #[.int .i64 n,.slice a l.length c] 24)).alloc (.cells #[.int .i64 0,.slice none 0 0] 24)).alloc (.cells #[.int .i64 n,.slice none 0 0] 24)) (w.heap.size+1+1) 24 #[.int .i64 n,.slice none 0 0]:=by
  have:=At.new1 (w.alloc (.cells #[.int .i64 n,.slice a l.length c] 24)) (.cells #[.int .i64 0,.slice none 0 0] 24) 24 #[.int .i64 n,.slice none 0 0]
  rwa [World.size_alloc] at this
 have a0:=((At.new w 24 #[.int .i64 n,.slice a l.length c]).alloc (.cells #[.int .i64 0,.slice none 0 0] 24)).alloc (.cells #[.int .i64 n,.slice none 0 0] 24)
 have hz1:(((w.alloc (.cells #[.int .i64 n,.slice a l.length c] 24)).alloc (.cells #[.int .i64 0,.slice none 0 0] 24)).alloc (.cells #[.int .i64 n,.slice none 0 0] 24)).heap.size=w.heap.size+3:=by simp
 have c1:=a0.cell 1
 simp only[zg] at c1
 have HP:=zh hp;have HL:=zh hP;have HB1:=zh hb1;have HA1:=zh a1;have HA2:=zh a2;have HLV:=zh hlv;have HZ1:=zh hz1
 clear hp hP hb1 a0 a1 a2 hlv hz1
 go_enter Tryz.func42,Tryz.ntmps42
 go_upto_region 2 with fail
 generalize ((w.alloc (.cells #[.int .i64 n,.slice a l.length c] 24)).alloc (.cells #[.int .i64 0,.slice none 0 0] 24)).alloc (.cells #[.int .i64 n,.slice none 0 0] 24)=w1 at*
 go_wp2_with fail
 clear c1
 have hz1:=Nat.le_of_eq HZ1.out.symm
 go_loopw [14] (fun i wr=>∃ (k:Nat) (v:Value),k<=l.length/\i=.int .i64 k/\At wr (w.heap.size+1) 24 #[.int .i64 0,.slice none 0 0]/\At wr (w.heap.size+1+1) 24 #[.int .i64 n,v]/\Own.CB (w.heap.size+3) wr v ((l.take k).filter p)/\Below w.heap.size w wr/\w.heap.size+3<=wr.heap.size) (fun i _=>l.length-(intOf i).toNat)
 case atStart=>exact⟨0,_,by omega,rfl,HA1.out,HA2.out,Own.CB.nil _ _,HB1.out,hz1⟩
 case round=>
  obtain⟨k,v,hk,rfl,hra,hoa,hpo,hbw,hsz⟩:=hrel
  obtain⟨va,vc,rfl⟩:=hpo.one
  have HRA:=zh hra;have HOA:=zh hoa;have HPO:=zh hpo;have HBW:=zh hbw
  have c0:=hoa.cell 0;have c1:=hoa.cell 1
  have r0:=hra.cell 0;have r1:=hra.cell 1;have r2:=hra.free 0;have r3:=hra.free 1
  simp only[zg] at c0 c1 r0 r1
  clear hra hoa
  by_cases hlt:k<l.length
  case neg=>
   have hke:k=l.length:=by omega
   have dk:decide ((k:Int)<l.length)=false:=zf
   rw[hke,List.take_length] at hpo
   have u7:=zh hpo
   obtain⟨M,hM⟩:∃ M,M=(List.filter p (List.take k l)).length:=⟨_,rfl⟩
   have hM2:M=(List.filter p l).length:=by rw[hM,hke,List.take_length]
   rw[<- hM] at c1
   rw[<- hM2] at u7
   clear hke hpo hbw HPO hM hM2
   go_wp2_with fail
   have F2:=(HRA.out.set 0 (.int .i64 n)).set 1 (.slice va M vc)
   refine Gn rfl rfl (Ad F2 Tryz.underlying24 rfl Ao) ⟨⟨_,rfl,?_⟩,?_⟩
   ·exact u7.out.keep (by simp [World.setCell]) (fun k hk _ => by
     have hk1:k≠w.heap.size+1:=by omega
     rw[zo hk1,zo hk1])
   ·exact(HBW.out.setCell (p:=⟨w.heap.size+1,0,none⟩) (by simp) _).setCell (p:=⟨w.heap.size+1,1,none⟩) (by simp) _
  have dk:decide ((k:Int)<l.length)=true:=zt
  obtain⟨M,hM⟩:∃ M,M=(List.filter p (List.take k l)).length:=⟨_,rfl⟩
  have hM1:M<=1000000:=by
   rw[hM]
   have:=List.length_filter_le p (List.take k l)
   have h2:(List.take k l).length=k:=by rw[List.length_take];omega
   omega
  have htk:(l.take (k+1)).filter p=(l.take k).filter p++(if p l[k]=true then [l[k]] else []):=by
   have e:List.filter p [l[k]]=if p l[k]=true then [l[k]] else []:=by cases h:p l[k]<;>simp[h]
   rw[List.take_succ_eq_append_getElem hlt,List.filter_append,e]
  obtain⟨L,hL⟩:∃ L,L=(l.take k).filter p:=⟨_,rfl⟩
  rw[<- hL] at hM htk hpo HPO HOA c1
  rw[<- hM] at hpo HPO HOA c1
  obtain⟨b,o,u,ha,hbl,e0,e1,e2,e3,e4,e5,huv⟩:=Own.AX.cells (HL.out.below hbw) hlt
  subst ha
  have hlk:=HLV.out l[k] (List.getElem_mem hlt)
  obtain⟨x,hx⟩:∃ x,x=l[k]:=⟨_,rfl⟩
  rw[<- hx] at htk e0 e1 e2 e3 e4 huv hlk
  obtain⟨ua,uc,rfl⟩:=huv.len
  have hb5:Below wr.heap.size wr (wr.alloc (.cells #[.int .i64 x.id,.string x.path,.string x.digest,.int .i64 x.opened,.int .i64 x.expires,.slice ua x.Aq.length uc] 46)):=zb
  have hn5:=At.new wr 46 #[.int .i64 x.id,.string x.path,.string x.digest,.int .i64 x.opened,.int .i64 x.expires,.slice ua x.Aq.length uc]
  have hcall:=HP.out (wr.alloc (.cells #[.int .i64 x.id,.string x.path,.string x.digest,.int .i64 x.opened,.int .i64 x.expires,.slice ua x.Aq.length uc] 46)) x (.slice ua x.Aq.length uc) (hbw.trans (hb5.mono hbw.size))
  have hcp:=fun W (hW:Below wr.heap.size wr W)=>I8 x (.slice ua x.Aq.length uc) W (huv.below hW) hlk
  have HCP:=zh hcp;have HB5:=zh hb5;have HN5:=zh hn5;have HTK:=zh htk
  obtain⟨pid,ppa,pdi,pop,pex,pvs⟩:=x
  dsimp only at e0 e1 e2 e3 e4 hcall HCP HB5 HN5
  obtain⟨ND,hND⟩:∃ ND:Own.Ab,ND=⟨pid,ppa,pdi,pop,pex,pvs⟩:=⟨_,rfl⟩
  rw[<- hND] at hcall hx HTK
  have HMM:=zh hM
  clear hb5 hn5 hcp htk hpo hbw huv hL hM r0 r1 r2 r3 c0 c1
  cases hq:p ND with
  | false =>
    rw[hq] at hcall
    go_wp2_with (go_at_fn g;refine hcall.mono ?_;rintro e w6 ⟨rfl,hb6⟩)
    go_round
    case measure=>simp[intOf];omega
    case rel=>
     have Er:=HB5.out.trans (hb6.mono HB5.out.size)
     have Kv:(l.take (k+1)).filter p=L:=by rw[HTK.out,hq];simp
     refine⟨k+1,.slice va M vc,by omega,by go_num,HRA.out.below Er HRA.out.lt,HOA.out.below Er HOA.out.lt,?_,HBW.out.trans (Er.mono HBW.out.size),Nat.le_trans hsz Er.size⟩
     rw[Kv]
     exact HPO.out.below Er
  | true =>
    rw[hq] at hcall
    go_wp2_with (go_at_fn g;refine hcall.mono ?_;rintro e w6 ⟨rfl,hb6⟩)
    have Er:=HB5.out.trans (hb6.mono HB5.out.size)
    have n6:=HN5.out.below hb6 HN5.out.lt
    have o6:=HOA.out.below Er HOA.out.lt
    have r6:=HRA.out.below Er HRA.out.lt
    have p6:=HPO.out.below Er
    have g0:=n6.cell 0;have g1:=n6.cell 1;have g2:=n6.cell 2;have g3:=n6.cell 3;have g4:=n6.cell 4;have g5:=n6.cell 5
    have c1:=o6.cell 1
    simp only[zg] at g0 g1 g2 g3 g4 g5 c1
    have hcp:=HCP.out w6.drew Er.drew
    have HC6:=zh hcp;have O6:=zh o6;have R6:=zh r6;have P6:=zh p6;have B6:=zh (HBW.out.trans (Er.mono HBW.out.size))
    have hs6:=Nat.le_trans hsz Er.size
    have hol:=o6.lt
    clear hcp n6 o6 r6 p6 Er hb6 HCP HN5 HB5 hcall HOA HRA HPO HBW
    go_wp2_with fail
    refine Lex.zn (fun j=>j=w.heap.size+1+1) [1] 5 [4] ?_
    simp only[Lex.Bg,zd]
    go_wp2_with fail
    refine HC6.out.mono ?_
    rintro e w7 ⟨v',rfl,hov,hb7⟩
    obtain⟨va',vm',vc',rfl⟩:=Ae hov
    have H8 : Below w6.heap.size w6 w7:=(Below.refl w6.heap.size w6).drew.trans hb7
    have o7:=O6.out.below H8 hol
    have c7:=o7.cell 1;have f7:=o7.free 1
    simp only[zg] at c7
    have HB7:=zh H8;have HOV:=zh hov;have O7:=zh o7
    clear hb7 H8 hov o7 g0 g1 g2 g3 g4 g5
    go_wp2_with fail
    refine Lex.Mid.intro (fun j hj _=>by rw[hj];exact HB7.out.block _ hol) ?_
    have Oy:Below w7.heap.size w7 (w7.alloc (.cells #[.int .i64 pid,.string ppa,.string pdi,.int .i64 pop,.int .i64 pex,.slice va' vm' vc'] 46)):=zb
    have hrw:=(CS w7 46 #[.int .i64 pid,.string ppa,.string pdi,.int .i64 pop,.int .i64 pex,.slice va' vm' vc'] 6 1 1 rfl)
    have hob:∀ k,(Value.slice va M vc).ownBlock=some k->k<w6.heap.size:=by
     obtain⟨_,_,q2,_⟩:=P6.out
     exact Own.BO q2
    have hu7:Af 3 Own.NS (fun k=>w.heap.size+3<=k/\k<w7.heap.size/\(Value.slice va M vc).ownBlock≠some k) w7 (.slice va' vm' vc') pvs:=
     DF (enc:=Own.DC) (fun _=>rfl) (fun _=>rfl) (BA.own HOV.out) rfl (fun j hj=>by
      have h1:w6.heap.size<=j:=Bo HOV.out j hj
      exact⟨by omega,Own.BO HOV.out j hj,fun e=>by have:=hob j e;omega⟩)
    have hu8:Af 3 Own.NS (fun k=>w.heap.size+3<=k/\k<(w7.alloc (.cells #[.int .i64 pid,.string ppa,.string pdi,.int .i64 pop,.int .i64 pex,.slice va' vm' vc'] 46)).heap.size/\(Value.slice va M vc).ownBlock≠some k) (w7.alloc (.cells #[.int .i64 pid,.string ppa,.string pdi,.int .i64 pop,.int .i64 pex,.slice va' vm' vc'] 46)) (.slice va' vm' vc') pvs:=(hu7.below Oy).mono (fun k hk hl=>⟨hk.1,hl,hk.2.2⟩)
    have p8:=(P6.out.below HB7.out).below Oy
    obtain⟨css,h1,h2,h3⟩:=p8
    have H1:=zh h1;have H2:=zh h2;have H3:=zh h3;have HU:=zh hu8;have HRW:=zh hrw;have zaa:=zh Oy
    have hLM:L.length<=1000000:=by have:=HMM.out;omega
    have h67:=HB7.out.size
    have B8:=zh ((B6.out.trans (HB7.out.mono B6.out.size)).trans (Oy.mono (by have:=B6.out.size;omega)))
    have R8:=zh ((R6.out.below HB7.out R6.out.lt).below Oy (by have:=R6.out.lt;omega));have O8:=zh (O7.out.below Oy O7.out.lt)
    clear h1 h2 h3 hu8 hu7 hrw Oy hob
    go_wp2_with (at_builtin;go_must (refine Am Nh rfl _ _ rfl (w.heap.size+3) L.length (.slice va M vc) css.flatten rfl H2.out (.slice (some ⟨w7.heap.size,0,none⟩) 1 1) 1 [.int .i64 pid,.string ppa,.string pdi,.int .i64 pop,.int .i64 pex,.slice va' vm' vc'] rfl HRW.out (by intro u hu;simp at hu;rcases hu with rfl|rfl|rfl|rfl|rfl|rfl<;>rfl) (by omega) (by omega) (by rw[World.size_alloc];omega) ?_);intro v9 w9 ho9 hg9 hw9;obtain⟨ya,ym,yc,rfl⟩:=Ae ho9;have HP9:=zh (Own.CB.push (x:=⟨pid,ppa,pdi,pop,pex,pvs⟩) H1.out H2.out H3.out HU.out ho9 hg9 hw9);have HB9:=zh (Ba B8.out B8.out.size (Cm H2.out (by omega)) hg9);have O9:=zh (O8.out.keep (hg9.block _ O8.out.lt (fun e=>by have:=Bo H2.out _ e.symm;omega)));have R9:=zh (R8.out.keep (hg9.block _ R8.out.lt (fun e=>by have:=Bo H2.out _ e.symm;omega)));have hs9:=hg9.size;have c9:=O9.out.cell 1;have f9:=O9.out.free 1;clear ho9 hg9 hw9)
    refine Lex.zk ⟨⟨rfl,zi c1⟩,trivial⟩ ?_
    go_wp2_with fail
    refine⟨⟨k+1,_,by omega,by go_num,R9.out.far (p:=⟨w.heap.size+1+1,1,none⟩) (by simp) _,O9.out.set 1 (.slice ya ym yc),?_,HB9.out.setCell (p:=⟨w.heap.size+1+1,1,none⟩) (by show w.heap.size<=w.heap.size+1+1;omega) _,?_⟩,by simp[intOf];omega⟩
    ·have Kv:(l.take (k+1)).filter p=L++[⟨pid,ppa,pdi,pop,pex,pvs⟩]:=by rw[HTK.out,hq,if_pos rfl,hND]
     rw[Kv]
     exact HP9.out.keep (by simp[World.setCell]) (fun k hk _=>zo (by show k≠w.heap.size+1+1;omega))
    ·have:(w9.setCell ⟨w.heap.size+1+1,1,none⟩ (.slice ya ym yc)).heap.size=w9.heap.size:=by simp[World.setCell]
     rw[this]
     rw[World.size_alloc] at hs9
     omega
namespace Own
theorem CB.base {B B' : Nat}{w:World}{v:Value}{L:List Ab}(h:CB B w v L)(hb:B' <= B):CB B' w v L:=by
 obtain⟨css,h1,h2,h3⟩:=h
 refine⟨css,h1,Cm h2 hb,fun i hi hi' => ?_⟩
 obtain⟨h4,u,h5,h6⟩:=h3 i hi hi'
 exact⟨h4,u,h5,h6.mono (fun k hk _=>⟨by omega,hk.2⟩)⟩
def oU (w:World)(q:Queue)(qv:Value)(w' : World):Prop:=∃ v',qv=.agg #[.int .i64 q.next,v']/\CB w.heap.size w' v' q.props
end Own
theorem O1 (x:Own.Ab)(u:Value)(g:Nat)(id:Int)(w:World)(hc:w.cell? ⟨g,0,none⟩=some (.int .i64 id)):
 Calls Tryz.prog 48 (#[.agg #[.int .i64 x.id,.string x.path,.string x.digest,.int .i64 x.opened,.int .i64 x.expires,u]]++#[.pointer (some ⟨g,0,none⟩)]) w fun e w' => e=.returned (.bool (!decide (x.id=id)))/\Below w.heap.size w w':=by
 obtain⟨i0,q1,q2,q3,i4,q5⟩:=x
 dsimp only
 obtain⟨R,hR0⟩:∃ R,R=(!decide (i0=id)):=⟨_,rfl⟩
 rw[<- hR0]
 have hR:R=(!(i0==id)):=hR0
 clear hR0
 have hb1:Below w.heap.size w (w.alloc (.cells #[.int .i64 i0,.string q1,.string q2,.int .i64 q3,.int .i64 i4,u] 46)):=zb
 have q:=(hb1.cell (p:=⟨g,0,none⟩) (block_lt hc)).trans hc
 have HB:=zh hb1;have HR:=zh hR
 clear hb1 hc hR
 show Calls Tryz.prog 48 #[.agg #[.int .i64 i0,.string q1,.string q2,.int .i64 q3,.int .i64 i4,u],.pointer (some ⟨g,0,none⟩)] w _
 go_enter Tryz.func48,Tryz.ntmps48
 go_wp2_with fail
 go_ret
 exact⟨by rw[HR.out];rfl,HB.out⟩
theorem Um (x:Own.Ab)(u:Value)(g:Nat)(id:Int)(w:World)(hc:w.cell? ⟨g,0,none⟩=some (.int .i64 id)):
 Calls Tryz.prog 73 (#[.agg #[.int .i64 x.id,.string x.path,.string x.digest,.int .i64 x.opened,.int .i64 x.expires,u]]++#[.pointer (some ⟨g,0,none⟩)]) w fun e w' => e=.returned (.bool (!decide (x.id=id)))/\Below w.heap.size w w':=by
 obtain⟨i0,q1,q2,q3,i4,q5⟩:=x
 dsimp only
 obtain⟨R,hR0⟩:∃ R,R=(!decide (i0=id)):=⟨_,rfl⟩
 rw[<- hR0]
 have hR:R=(!(i0==id)):=hR0
 clear hR0
 have hb1:Below w.heap.size w (w.alloc (.cells #[.int .i64 i0,.string q1,.string q2,.int .i64 q3,.int .i64 i4,u] 46)):=zb
 have q:=(hb1.cell (p:=⟨g,0,none⟩) (block_lt hc)).trans hc
 have HB:=zh hb1;have HR:=zh hR
 clear hb1 hc hR
 show Calls Tryz.prog 73 #[.agg #[.int .i64 i0,.string q1,.string q2,.int .i64 q3,.int .i64 i4,u],.pointer (some ⟨g,0,none⟩)] w _
 go_enter Tryz.func73,Tryz.ntmps73
 go_wp2_with fail
 go_ret
 exact⟨by rw[HR.out];rfl,HB.out⟩
theorem RD (x:Own.Ab)(u:Value)(g:Nat)(id:Int)(w:World)(hc:w.cell? ⟨g,0,none⟩=some (.int .i64 id)):
 Calls Tryz.prog 53 (#[.agg #[.int .i64 x.id,.string x.path,.string x.digest,.int .i64 x.opened,.int .i64 x.expires,u]]++#[.pointer (some ⟨g,0,none⟩)]) w fun e w' => e=.returned (.bool (decide (id<x.expires)))/\Below w.heap.size w w':=by
 obtain⟨i0,q1,q2,q3,i4,q5⟩:=x
 dsimp only
 obtain⟨R,hR0⟩:∃ R,R=(decide (id<i4)):=⟨_,rfl⟩
 rw[<- hR0]
 have hR:R=(decide (id<i4)):=hR0
 clear hR0
 have hb1:Below w.heap.size w (w.alloc (.cells #[.int .i64 i0,.string q1,.string q2,.int .i64 q3,.int .i64 i4,u] 46)):=zb
 have q:=(hb1.cell (p:=⟨g,0,none⟩) (block_lt hc)).trans hc
 have HB:=zh hb1;have HR:=zh hR
 clear hb1 hc hR
 show Calls Tryz.prog 53 #[.agg #[.int .i64 i0,.string q1,.string q2,.int .i64 q3,.int .i64 i4,u],.pointer (some ⟨g,0,none⟩)] w _
 go_enter Tryz.func53,Tryz.ntmps53
 go_wp2_with fail
 go_ret
 exact⟨by rw[HR.out];rfl,HB.out⟩
theorem Un (q:Own.Queue)(size:Int)(pv:Value)(w:World)(hM:Fx w)(hP:Own.AX w pv q.props)(hls:q.props.length<=1000000)(hlm:∀ p∈q.props,p.Aq.length<=3000000):
 Calls Tryz.prog 19 #[.agg #[.int .i64 q.next,pv],.int .i64 size] w fun e w' => (∃ qv,e=.returned qv/\Own.oU w (Own.expire q size) qv w')/\Below w.heap.size w w':=by
 obtain⟨R,hR⟩:∃ R,R=Own.expire q size:=⟨_,rfl⟩
 rw[<- hR]
 unfold Own.expire at hR
 obtain⟨a,c,rfl⟩:=hP.len
 obtain⟨nx,L⟩:=q
 dsimp only at*
 have hb1:Below w.heap.size w (((w.alloc (.cells #[.int .i64 nx,.slice a L.length c] 24)).alloc (.cells #[.int .i64 size] 3)).alloc (.cells #[.int .i64 0,.slice none 0 0] 24)):=(zb.alloc (by simp) _).alloc (by simp;omega) _
 have a0:=((At.new w 24 #[.int .i64 nx,.slice a L.length c]).alloc (.cells #[.int .i64 size] 3)).alloc (.cells #[.int .i64 0,.slice none 0 0] 24)
 have a1:=(At.new1 w (.cells #[.int .i64 nx,.slice a L.length c] 24) 3 #[.int .i64 size]).alloc (.cells #[.int .i64 0,.slice none 0 0] 24)
 have a2:At (((w.alloc (.cells #[.int .i64 nx,.slice a L.length c] 24)).alloc (.cells #[.int .i64 size] 3)).alloc (.cells #[.int .i64 0,.slice none 0 0] 24)) (w.heap.size+1+1) 24 #[.int .i64 0,.slice none 0 0]:=by
  have:=At.new1 (w.alloc (.cells #[.int .i64 nx,.slice a L.length c] 24)) (.cells #[.int .i64 size] 3) 24 #[.int .i64 0,.slice none 0 0]
  rwa [World.size_alloc] at this
 have hz1:w.heap.size+3<=(((w.alloc (.cells #[.int .i64 nx,.slice a L.length c] 24)).alloc (.cells #[.int .i64 size] 3)).alloc (.cells #[.int .i64 0,.slice none 0 0] 24)).heap.size:=by simp
 obtain⟨c0,c1⟩:=a0.c2
 have hval:=Dv ⟨nx,L⟩ (.slice a L.length c) _ (hM.below hb1) (hP.below hb1) (by show L.length<=_;omega) (fun p hp=>by have:=hlm p hp;omega)
 have HV:=zh hval;have HP:=zh (hP.below hb1);have HB:=zh hb1;have HA0:=zh a0;have HA1:=zh a1;have HA2:=zh a2;have HLM:=zh hlm;have HR:=zh hR
 clear hval hP hM hb1 a0 a1 a2 hlm hR
 go_enter Tryz.func19,Tryz.ntmps19
 go_wp2_with fail
 generalize ((w.alloc (.cells #[.int .i64 nx,.slice a L.length c] 24)).alloc (.cells #[.int .i64 size] 3)).alloc (.cells #[.int .i64 0,.slice none 0 0] 24)=w1 at*
 refine HV.out.mono ?_
 rintro e w2 ⟨rfl,hb2⟩
 have a0:=HA0.out.below hb2 (by omega);have a1:=HA1.out.below hb2 (by omega);have a2:=HA2.out.below hb2 (by omega)
 have x0:=a0.cell 0;have x1:=a0.cell 1
 have r0:=a2.cell 0;have r1:=a2.cell 1;have r2:=a2.free 0;have r3:=a2.free 1
 have z0:=a1.cell 0
 simp only[zg] at x0 x1 r0 r1 z0
 have hP2:=HP.out.below hb2
 have hB2:=HB.out.trans (hb2.mono HB.out.size)
 have hs2:w.heap.size+3<=w2.heap.size:=Nat.le_trans hz1 hb2.size
 have aL:=zh a2;have HB2:=zh hB2
 have hkp:=I9 53 #[.pointer (some ⟨w.heap.size+1,0,none⟩)] (by intros;rfl) (fun p:Own.Ab=>decide (size<p.expires)) nx _ L w2 hP2 hls HLM.out (fun W x u hb=>RD x u _ size W ((hb.cell (p:=⟨w.heap.size+1,0,none⟩) a1.lt).trans z0))
 have HKP:=zh hkp
 clear hP2 hB2 hb2 a0 a1 a2 z0 c0 c1 hkp HV HP HB HA0 HA1 HA2
 cases hq:Own.A9 ⟨nx,L⟩ with
 | false =>
   have e:R=Own.Queue.none:=by rw[HR.out,hq];rfl
   have HE:=zh e;clear e
   go_wp2_with fail
   have F2:=(aL.out.set 0 (.int .i64 0)).set 1 (.slice none 0 0)
   refine Gn rfl rfl (Ad F2 Tryz.underlying24 rfl Ao) ⟨⟨_,rfl,?_⟩,?_⟩
   ·rw[HE.out];exact⟨_,rfl,Own.CB.nil _ _⟩
   ·exact(HB2.out.setCell (p:=⟨w.heap.size+1+1,0,none⟩) (by show w.heap.size<=w.heap.size+1+1;omega) _).setCell (p:=⟨w.heap.size+1+1,1,none⟩) (by show w.heap.size<=w.heap.size+1+1;omega) _
 | true =>
   have e:R=⟨nx,L.filter fun p=>decide (size<p.expires)⟩:=by rw[HR.out,hq];rfl
   have HE:=zh e;clear e
   clear r0 r1 r2 r3
   go_wp2_with fail
   refine HKP.out.mono ?_
   rintro e w3 ⟨⟨v',rfl,hpo⟩,hb3⟩
   obtain⟨va,vc,rfl⟩:=hpo.one
   obtain⟨M,hM⟩:∃ M,M=(L.filter fun p=>decide (size<p.expires)).length:=⟨_,rfl⟩
   rw[<- hM] at hpo ⊢
   have a3:=aL.out.below hb3 (by omega)
   have r0:=a3.cell 0;have r1:=a3.cell 1;have r2:=a3.free 0;have r3:=a3.free 1
   simp only[zg] at r0 r1
   have HA3:=zh a3;have HPO:=zh hpo;have HB3:=zh (HB2.out.trans (hb3.mono HB2.out.size))
   clear a3 hpo hb3 hM
   go_wp2_with fail
   have F2:=(HA3.out.set 0 (.int .i64 nx)).set 1 (.slice va M vc)
   refine Gn rfl rfl (Ad F2 Tryz.underlying24 rfl Ao) ⟨⟨_,rfl,?_⟩,?_⟩
   ·rw[HE.out]
    refine⟨_,rfl,Own.CB.base (B:=w2.heap.size+3) (HPO.out.keep (by simp[World.setCell]) (fun k hk _=>?_)) (by omega)⟩
    have hk1:k≠w.heap.size+1+1:=by omega
    rw[zo hk1,zo hk1]
   ·exact(HB3.out.setCell (p:=⟨w.heap.size+1+1,0,none⟩) (by show w.heap.size<=w.heap.size+1+1;omega) _).setCell (p:=⟨w.heap.size+1+1,1,none⟩) (by show w.heap.size<=w.heap.size+1+1;omega) _
theorem AQ.keep {w0 w w' : World}{bs:List (TypeId × Array Value)}(h:AQ w0 w bs)(hu:Below w0.heap.size w0 w')(hs:w.heap.size<=w'.heap.size)(hk:∀ k,w0.heap.size<=k->k<w0.heap.size+bs.length->w'.heap[k]? = w.heap[k]?):AQ w0 w' bs:=
 ⟨Nat.le_trans h.size hs,hu,fun i t cs hi=>(h.at_ i t cs hi).keep (hk _ (by omega) (by have:=(List.getElem?_eq_some_iff.1 hi).1;omega))⟩
theorem AQ.far {w0 w w' : World}{bs:List (TypeId × Array Value)}(h:AQ w0 w bs){O:Nat}(hO:w0.heap.size+bs.length<=O){row:Option Nat}(hr:∀ k,row=some k->O<=k)(hg:w.grownBy w' row):AQ w0 w' bs:=by
 refine h.keep (h.under.grown hg h.under.size (fun k hk=>by have:=hr k hk;omega)) hg.size (fun k _ hk=>hg.block k (by have:=h.size;omega) (fun e=>by have:=hr k e.symm;omega))
namespace Own
def IB (x:Ab)(v:Value):List Value:=[.int .i64 x.id,.string x.path,.string x.digest,.int .i64 x.opened,.int .i64 x.expires,v]
end Own
namespace Own
theorem Q7 {α : Type}{ok : α -> Bool}{lt : α -> α -> Bool}(ht:∀ x y z,lt x y=true->lt y z=true->lt x z=true):∀ (l:List α) (p:Option α),Ai ok lt p l=true->(∀ y,p=some y->∀ x∈l,lt y x=true)/\l.Pairwise fun x y=>lt x y=true
 | [],_,_=>⟨fun _ _ x hx=>(by cases hx),List.Pairwise.nil⟩
 | x :: l,p,h => by
   have h' : ((ok x&&(match p with|none=>true|some y=>lt y x))&&Ai ok lt (some x) l)=true:=by cases p<;>exact h
   rw[Bool.and_eq_true,Bool.and_eq_true] at h'
   obtain⟨⟨_,h1⟩,h2⟩:=h'
   obtain⟨h3,h4⟩:=Q7 ht l (some x) h2
   refine⟨fun y hy z hz=>?_,List.pairwise_cons.2 ⟨h3 x rfl,h4⟩⟩
   subst hy
   rcases List.mem_cons.1 hz with rfl|hz
   ·exact h1
   ·exact ht _ _ _ h1 (h3 x rfl z hz)
theorem aM {q:Queue}(h:A9 q=true):q.props.Pairwise fun x y=>x.id<y.id:=by
 unfold A9 at h
 rw[Bool.and_eq_true] at h
 exact(Q7 (lt:=fun x y:Ab=>decide (x.id<y.id)) (fun x y z h1 h2=>decide_eq_true (Int.lt_trans (of_decide_eq_true h1) (of_decide_eq_true h2))) _ none h.2).2.imp of_decide_eq_true
end Own
namespace Own
def Et (n:Nat):List Member:=(List.range n).map Ag
def Bn (n:Nat)(th:Int):Space:=⟨⟨#[97]⟩,Et n,th⟩
theorem Wj (n:Nat):Et (n+1)=Et n++[Ag n]:=by
 unfold Et
 rw[List.range_succ,List.map_append]
 rfl
theorem IC (n:Nat):(Et n).length=n:=by
 unfold Et
 rw[List.length_map,List.length_range]
end Own
theorem JL (n:Nat)(th:Int)(w:World)(hn:n<=256):
 Calls Tryz.prog 33 #[.int .i64 n,.int .i64 th] w fun e w' => ∃ sv,e=.returned (.agg #[.int .i64 0,sv,.slice none 0 0])/\Own.Bw w' sv [Own.Bn n th]/\Below w.heap.size w w':=by
 have F1:=zh (show AQ w _ [(38,#[.int .i64 0,.slice none 0 0,.slice none 0 0]),(70,#[.string ⟨#[97]⟩,.slice none 0 0,.int .i64 th])] from(((Fg.nil w).push 38 #[.int .i64 0,.slice none 0 0,.slice none 0 0]).push 70 #[.string ⟨#[97]⟩,.slice none 0 0,.int .i64 th]).boxes)
 obtain⟨MS,hMS⟩:∃ MS,MS=Own.Et:=⟨_,rfl⟩
 obtain⟨MM,hMM⟩:∃ MM,MM=Own.Ag:=⟨_,rfl⟩
 have hsu:∀ k,MS (k+1)=MS k++[MM k]:=fun k=>by rw[hMS,hMM];exact Own.Wj k
 have hln:∀ k,(MS k).length=k:=fun k=>by rw[hMS];exact Own.IC k
 have hz:MS 0=[]:=by rw[hMS];rfl
 have hmb:∀ (k:Nat) W,k<256->Calls Tryz.prog 37 #[.int .u8 k] W fun e w' => e=.returned (.agg #[.string (MM k).name,.string (MM k).pub])/\Below W.heap.size W w':=fun k W hk=>by rw[hMM];exact Jf k W hk
 have HMS:=zh hMS;have HSU:=zh hsu;have HLN:=zh hln;have HMZ:=zh hz;have HMB:=zh hmb
 clear hMS hMM hsu hln hz hmb
 go_enter Tryz.func33,Tryz.ntmps33
 go_upto_region 2 with fail
 generalize ((w.alloc (.cells #[.int .i64 0,.slice none 0 0,.slice none 0 0] 38)).alloc (.cells #[.string ⟨#[97]⟩,.slice none 0 0,.int .i64 th] 70))=w1 at*
 go_wp2_with fail
 go_loopw [10] (fun i wr=>∃ (k:Nat) (v:Value),k<=n/\i=.int .i64 k/\wr.ownsRow (w.heap.size+2) 73 2 v (MS k).length ((MS k).flatMap Own.Lg)/\AQ w wr [(38,#[.int .i64 0,.slice none 0 0,.slice none 0 0]),(70,#[.string ⟨#[97]⟩,v,.int .i64 th])]) (fun i _=>n-(intOf i).toNat)
 case atStart=>exact⟨0,_,by omega,rfl,by rw[HMZ.out];exact⟨rfl,.inl ⟨rfl,rfl⟩⟩,F1.out⟩
 case round=>
  obtain⟨k,v,hk,rfl,hown,hbx⟩:=hrel
  obtain⟨va,vm,vc,rfl⟩:=Ae hown
  obtain rfl:=BU hown
  have HO:=zh hown;have G1:=zh hbx
  clear hown hbx F1
  by_cases hlt:k<n
  case neg=>
   have hke:k=n:=by omega
   have dk:decide ((k:Int)<n)=false:=zf
   subst hke
   have F2:=zh (G1.out.step ((Below.refl wr.heap.size wr).alloc (Nat.le_refl _) (.cells #[.string ⟨#[97]⟩,.slice va (MS k).length vc,.int .i64 th] 70)))
   have hup:=Bo HO.out
   have hwz:w.heap.size+2<=wr.heap.size:=G1.out.size
   have HUP:=zh hup;have HWZ:=zh hwz;clear hup hwz
   have y00:(wr.alloc (.cells #[.string ⟨#[97]⟩,.slice va (MS k).length vc,.int .i64 th] 70)).cell? ⟨w.heap.size,0,none⟩=some (.int .i64 0):=F2.out.cell 0 0 rfl rfl
   have zab:(wr.alloc (.cells #[.string ⟨#[97]⟩,.slice va (MS k).length vc,.int .i64 th] 70)).frozen? ⟨w.heap.size,0,none⟩=false:=F2.out.free 0 0 rfl
   have y01:(wr.alloc (.cells #[.string ⟨#[97]⟩,.slice va (MS k).length vc,.int .i64 th] 70)).cell? ⟨w.heap.size,1,none⟩=some (.slice none 0 0):=F2.out.cell 0 1 rfl rfl
   have zac:(wr.alloc (.cells #[.string ⟨#[97]⟩,.slice va (MS k).length vc,.int .i64 th] 70)).frozen? ⟨w.heap.size,1,none⟩=false:=F2.out.free 0 1 rfl
   have y02:(wr.alloc (.cells #[.string ⟨#[97]⟩,.slice va (MS k).length vc,.int .i64 th] 70)).cell? ⟨w.heap.size,2,none⟩=some (.slice none 0 0):=F2.out.cell 0 2 rfl rfl
   have zad:(wr.alloc (.cells #[.string ⟨#[97]⟩,.slice va (MS k).length vc,.int .i64 th] 70)).frozen? ⟨w.heap.size,2,none⟩=false:=F2.out.free 0 2 rfl
   obtain⟨x10,x11,x12⟩:=G1.out.XY rfl
   go_wp2_with fail
   have G2:=((F2.out.put 0 0 (.int .i64 0) rfl).put 0 1 (.slice (some ⟨wr.heap.size,0,none⟩) 1 1) rfl).put 0 2 (.slice none 0 0) rfl
   refine Gn rfl rfl (Ad (G2.at1 0 rfl) Tryz.underlying38 rfl Av) ⟨_,rfl,?_,G2.under⟩
   have hwz:=HWZ.out
   have hns:=At.new wr 70 #[.string ⟨#[97]⟩,.slice va (MS k).length vc,.int .i64 th]
   have hn4:=((hns.far (p:=⟨w.heap.size,0,none⟩) (by simp;omega) (.int .i64 0)).far (p:=⟨w.heap.size,1,none⟩) (by simp;omega) (.slice (some ⟨wr.heap.size,0,none⟩) 1 1)).far (p:=⟨w.heap.size,2,none⟩) (by simp;omega) (.slice none 0 0)
   obtain⟨e0,e1,e2⟩:=hn4.c3
   have h8:=own_below HO.out ((Below.refl wr.heap.size wr).alloc (Nat.le_refl _) (.cells #[.string ⟨#[97]⟩,.slice va (MS k).length vc,.int .i64 th] 70))
   refine⟨some ⟨wr.heap.size,0,none⟩,1,rfl,.inr ⟨wr.heap.size,0,rfl,trivial,hn4.lt,fun i hi=>?_⟩⟩
   have hi0:i=0:=by simpa using hi
   subst hi0
   refine⟨[.string ⟨#[97]⟩,.slice va (MS k).length vc,.int .i64 th],rfl,?_,.slice va (MS k).length vc,rfl,?_⟩
   ·intro j u hj
    match j,hj with
    | 0,hj=>cases hj;exact e0
    | 1,hj=>cases hj;exact e1
    | 2,hj=>cases hj;exact e2
    | j+3,hj=>simp at hj
   ·have h4 :=AA (w' :=(((wr.alloc (.cells #[.string ⟨#[97]⟩,.slice va (MS k).length vc,.int .i64 th] 70)).setCell ⟨w.heap.size,0,none⟩ (.int .i64 0)).setCell ⟨w.heap.size,1,none⟩ (.slice (some ⟨wr.heap.size,0,none⟩) 1 1)).setCell ⟨w.heap.size,2,none⟩ (.slice none 0 0)) h8 (fun j hj => by
     have h1:=Bo h8 j hj
     have h2:j≠w.heap.size:=by omega
     rw[zo h2,zo h2,zo h2])
    show Af 2 Own.BX Own.VD _ _ (Own.Et k)
    rw[<- HMS.out]
    exact DF (enc:=Own.Lg) (fun _=>rfl) (fun _=>rfl) (BA.own h4) rfl (fun _ _=>trivial)
  have dk:decide ((k:Int)<n)=true:=zt
  obtain⟨x10,x11,x12⟩:=G1.out.XY rfl
  go_wp2_with fail
  refine Lex.zn (fun j=>j=w.heap.size+1) [1] 6 [5] ?_
  simp only[Lex.Bg,zd]
  go_wp2_with fail
  have HX1:=zh (zi x11)
  refine(HMB.out k _ (by omega)).mono ?_
  rintro e w5 ⟨rfl,hb5⟩
  obtain⟨M,hM⟩:∃ M,M=MM k:=⟨_,rfl⟩
  rw[<- hM]
  obtain⟨mn,mp⟩:=M
  have HM:=zh hM
  have hb6:Below wr.heap.size wr w5:=(Below.refl wr.heap.size wr).drew.trans hb5
  have hb8:Below w5.heap.size w5 (w5.alloc (.cells #[.string mn,.string mp] 73)):=zb
  have HB8:=zh (hb6.trans (hb8.mono hb6.size))
  have hrw:=CS w5 73 #[.string mn,.string mp] 2 1 1 rfl
  have hwz:w.heap.size+2<=(w5.alloc (.cells #[.string mn,.string mp] 73)).heap.size:=Nat.le_trans G1.out.size HB8.out.size
  have HRW:=zh hrw;have HO8:=zh (own_below HO.out HB8.out);have G8:=zh (G1.out.step HB8.out);have HUP:=zh (Bo HO.out);have HWZ:=zh hwz
  have hkm:(MS k).length<=256:=by rw[HLN.out k];omega
  have HOB:=zh (G1.out.lt (i:=1) (by show 1<2;omega))
  have HB6:=zh hb6
  clear hb5 hb6 hb8 hrw hwz hM
  go_wp2_with fail
  refine Lex.Mid.intro (fun j hj _=>by rw[hj];exact HB6.out.block _ HOB.out) ?_
  go_wp2_with (at_builtin;go_must (refine Am NT rfl _ _ rfl (w.heap.size+2) (MS k).length (.slice va (MS k).length vc) ((MS k).flatMap Own.Lg) rfl HO8.out (.slice (some ⟨w5.heap.size,0,none⟩) 1 1) 1 [.string mn,.string mp] rfl HRW.out (by intro u hu;simp at hu;rcases hu with rfl|rfl<;>rfl) (by omega) (by omega) HWZ.out ?_);intro v9 w9 ho9 hg9 hw9;obtain⟨ya,ym,yc,rfl⟩:=Ae ho9;have HO9:=zh ho9;have HG9:=zh hg9;have G9:=zh (G8.out.far (O:=w.heap.size+2) (Nat.le_refl _) HUP.out hg9);have z10:w9.cell? ⟨w.heap.size+1,0,none⟩=some (.string ⟨#[97]⟩):=G9.out.cell 1 0 rfl rfl;have zae:w9.frozen? ⟨w.heap.size+1,0,none⟩=false:=G9.out.free 1 0 rfl;have z11:w9.cell? ⟨w.heap.size+1,1,none⟩=some (.slice va (MS k).length vc):=G9.out.cell 1 1 rfl rfl;have zaf:w9.frozen? ⟨w.heap.size+1,1,none⟩=false:=G9.out.free 1 1 rfl;have z12:w9.cell? ⟨w.heap.size+1,2,none⟩=some (.int .i64 th):=G9.out.cell 1 2 rfl rfl;have zah:w9.frozen? ⟨w.heap.size+1,2,none⟩=false:=G9.out.free 1 2 rfl;clear ho9 hg9 hw9)
  refine Lex.zk ⟨⟨rfl,HX1.out⟩,trivial⟩ ?_
  go_wp2_with fail
  have hm1:MS (k+1)=MS k++[(⟨mn,mp⟩:Own.Member)]:=by rw[HSU.out k,HM.out]
  refine⟨⟨k+1,.slice ya ym yc,by omega,by go_num,?_,G9.out.put 1 1 _ rfl⟩,by simp[intOf];omega⟩
  rw[hm1]
  have h9:w9.ownsRow (w.heap.size+2) 73 2 (.slice ya ym yc) (MS k++[(⟨mn,mp⟩:Own.Member)]).length ((MS k++[(⟨mn,mp⟩:Own.Member)]).flatMap Own.Lg):=by
   rw[List.length_append,List.flatMap_append]
   simpa [Own.Lg] using HO9.out
  exact AA h9 (fun j hj=>zo (by have:=Bo h9 j hj;show j≠w.heap.size+1;omega))
end
section
open Go
namespace Az
theorem Wm (f:Nat->Nat):∀ (n s:Nat),Ci f s n=Aa n fun i=>f (s+i)
 | 0,_=>rfl
 | n + 1,s => by
   have e:Aa (n+1) (fun i=>f (s+i))=f s+18446744073709551616*Aa n (fun i=>f (s+1+i)):=by
    show f (s+0)+18446744073709551616*Aa n (fun i=>f (s+(i+1)))=_
    congr 3
    funext i
    rw[Nat.add_assoc,Nat.add_comm 1 i]
   rw[e,<- Wm f n (s+1)]
   rfl
theorem SI (v:V)(k:V->V):Tg v k=k v:=by
 unfold Tg
 simp only[force_eq]
def sJ (i:Nat):Nat:=i%12%6
def kJ (i:Nat):Nat:=i%12/6
def cJ (i:Nat):Nat:=i/12
def kC (M O:Nat):V:=IY M O (IVP O) (Ci (fun i=>wd4 2 (sJ i) (sJ i) (sJ i)) 0 804) (Ci (fun i=>wd4 (sJ i) (sJ i) (sJ i) (sJ i)) 0 804) (Ci (fun i=>wd4 (sJ i) (sJ i) (sJ i) (sJ i)) 0 804) (Ci (fun i=>wd4 (sJ i) (sJ i) (sJ i) (sJ i)) 0 804) (Ci (fun i=>wd4 (sJ i) (sJ i) (sJ i) (sJ i)) 0 804) (Ci (fun i=>wd4 (sJ i) (sJ i) (sJ i) (sJ i)) 0 804) (Ci (fun i=>wd4 (sJ i) (sJ i) (sJ i) (sJ i)) 0 804) (Ci (fun i=>wd4 (sJ i) (sJ i) (sJ i) (sJ i)) 0 804) (Ci (fun i=>wd4 (sJ i) (kJ i) (cJ i) 128) 0 804) 0 0 0 0 0 0 (O*280)
def oV (k:V->Bool):Bool:=force (Ci (fun _=>4294967295) 0 804) fun M=>force (Ci (fun _=>1) 0 804) fun O=>force (Ci (fun i=>wd4 3 (kJ i) (cJ i) 0) 0 804) fun B=>
 let v:=(List.range' 0 15).foldl (fun v q=>Tg v fun v=>OQ M O B q v) (kC M O)
 force v.a fun a=>force v.b fun b=>force v.c fun c=>force v.d fun d=>force v.e fun e=>force v.f fun f=>force v.g fun g=>force v.h fun h=>k ⟨a,b,c,d,e,f,g,h⟩
def Uo (G g:Nat)(R:V):List Nat:=(List.range 67).flatMap fun c=>R.list.map (lane (c*G+g))
def NZ (R:V)(g:Nat):V:=MH (Cg (Uo 12 g R)) fun ws=>K5 34 IVN ws
def Wn (R:V)(s:Nat):V:=MH (CK ((NZ R s).list++(NZ R (6+s)).list)) fun ws=>K5 2 IVN ws
def diffs:List Nat->Bool
 | []=>true
 | x::l=>(l.all fun y => !Nat.beq x y)&&diffs l
theorem Yi:oV (fun R=>diffs ((List.range 6).map fun s=>(Wn R s).a))=true:=by decide +kernel
end Az
namespace Az
theorem Bv:∀ (n i:Nat) (f:Nat->Nat),D f->i<n->lane i (Aa n f)=f i
 | 0,_,_,_,h=>by cases h
 | n + 1,0,f,hf,_ => by
   unfold lane
   show((f 0+18446744073709551616*_) >>> (64*0))%_=_
   rw[Nat.mul_zero,Nat.shiftRight_zero,Nat.add_mul_mod_self_left]
   exact Nat.mod_eq_of_lt (hf 0)
 | n + 1,i + 1,f,hf,h => by
   have ih:=Bv n i (fun i=>f (i+1)) (fun i=>hf _) (by omega)
   unfold lane at ih ⊢
   show((f 0+18446744073709551616*Aa n (fun i=>f (i+1))) >>> (64*(i+1)))%_=f (i+1)
   rw[show 64*(i+1)=64+64*i by omega,Nat.shiftRight_add]
   have e:(f 0+18446744073709551616*Aa n (fun i=>f (i+1))) >>> 64=Aa n (fun i=>f (i+1)):=by
    rw[Nat.shiftRight_eq_div_pow,show(2:Nat)^64=18446744073709551616 by decide,Nat.add_mul_div_left _ _ (by decide),Nat.div_eq_of_lt (hf 0),Nat.zero_add]
   rw[e]
   exact ih
theorem Wo (u:VF)(hu:u.ok)(g:Nat)(hg:g<12):Uo 12 g (u.pack 804)=(List.range 67).flatMap fun c=>(u.at (c*12+g)).list:=by
 unfold Uo
 rw[List.flatMap_def,List.flatMap_def]
 congr 1
 refine List.map_congr_left fun c hc=>?_
 have hc:=List.mem_range.1 hc
 have hl:c*12+g<804:=by omega
 unfold VF.pack V.list VF.at
 simp only[List.map_cons,List.map_nil]
 rw[Bv 804 _ _ hu.a.d hl,Bv 804 _ _ hu.b.d hl,Bv 804 _ _ hu.c.d hl,Bv 804 _ _ hu.d.d hl,Bv 804 _ _ hu.e.d hl,Bv 804 _ _ hu.f.d hl,Bv 804 _ _ hu.g.d hl,Bv 804 _ _ hu.h.d hl]
theorem Fj:∀ (ws:List Nat) (t:Nat),t<256->(∀ w∈ws,w<4294967296)->(shW t ws).flatMap AV=t.toUInt8::(ws.flatMap AV++[128,0,0])
 | [],t,ht,_ => by
   unfold shW
   rw[List.flatMap_cons,List.flatMap_nil,List.append_nil,Iw ht (show 128<256 by omega) (show 0<256 by omega) (show 0<256 by omega)]
   rfl
 | w :: ws,t,ht,hw => by
   have h1:=hw w List.mem_cons_self
   have ih:=Fj ws (w%256) (Nat.mod_lt _ (by omega)) (fun x hx=>hw x (List.mem_cons_of_mem _ hx))
   unfold shW
   rw[List.flatMap_cons,ih,List.flatMap_cons]
   have e:AV (t*16777216+w/256)=[t.toUInt8,(w/16777216).toUInt8,(w/65536%256).toUInt8,(w/256%256).toUInt8]:=by
    unfold AV
    rw[show(t*16777216+w/256)/16777216=t by omega,show(t*16777216+w/256)/65536%256=w/16777216 by omega,show(t*16777216+w/256)/256%256=w/65536%256 by omega,show(t*16777216+w/256)%256=w/256%256 by omega]
   rw[e]
   simp[AV]
theorem Ms:∀ (ws:List Nat) (t:Nat),(shW t ws).length=ws.length+1
 | [],_=>rfl
 | w :: ws,t => by
   unfold shW
   rw[List.length_cons,Ms ws,List.length_cons]
theorem Q8:∀ (ws:List Nat) (t:Nat),t<256->(∀ w∈ws,w<4294967296)->∀ x∈shW t ws,x<4294967296
 | [],t,ht,_,x,hx => by
   have:x=wd4 t 128 0 0:=by simpa [shW] using hx
   rw[this]
   exact En ht (by omega) (by omega) (by omega)
 | w :: ws,t,ht,hw,x,hx => by
   have h1:=hw w List.mem_cons_self
   unfold shW at hx
   rcases List.mem_cons.1 hx with rfl|hx
   ·omega
   ·exact Q8 ws _ (Nat.mod_lt _ (by omega)) (fun y hy=>hw y (List.mem_cons_of_mem _ hy)) x hx
theorem JM:∀ (n:Nat) (v:V) (ws:List Nat),K5 n v ws=Cq n v ws:=by
 intro n
 induction n with
 | zero=>intro v ws;rw[K5,Cq]
 | succ n ih=>intro v ws;rw[K5,SI,ih,Cq]
theorem H9:∀ (l:List Nat) (k:List Nat->V),MH l k=k l
 | [],k=>by rw[MH]
 | x::l,k=>by rw[MH,force_eq,H9 l]
theorem Q9:∀ l:List ByteArray,(Cod.cat l).data.toList=l.flatMap fun x=>x.data.toList
 | []=>rfl
 | x::l=>by rw[Cod.cat,Sha.Aw,Q9 l,List.flatMap_cons]
theorem SK {α : Type}(f : α -> List Nat)(l:List α):(l.flatMap f).flatMap AV=l.flatMap fun x=>(f x).flatMap AV:=List.flatMap_assoc
def Nl (u:VF):Prop:=∀ i,i<804->u.at i=Cr (wd4 3 (kJ i) (cJ i) 0) 15 0 (cmp IVN (CX (sJ i) (kJ i) (cJ i)))
theorem fJ (s key:Nat)(hs:s<6)(hk:key<2)(u:VF)(hu:u.ok)(hu2:Nl u):(Sig.leaf (Ah s) key).data.toList=(NZ (u.pack 804) (key*6+s)).list.flatMap AV:=by
 have hg:key*6+s<12:=by omega
 obtain⟨ws,hws⟩:∃ ws,ws=Uo 12 (key*6+s) (u.pack 804):=⟨_,rfl⟩
 have hw:=hws
 rw[Wo u hu _ hg] at hw
 have hlt:∀ w∈ws,w<4294967296:=fun w hm=>by
  rw[hw] at hm
  obtain⟨c,_,hm⟩:=List.mem_flatMap.1 hm
  exact Iy (hu.at _) w hm
 have hlen:ws.length=536:=by
  rw[hw,List.length_flatMap]
  have:(List.range 67).map (fun c=>(u.at (c*12+(key*6+s))).list.length)=List.replicate 67 8:=by
   rw[List.eq_replicate_iff]
   refine⟨by simp,fun b hb=>?_⟩
   obtain⟨c,_,rfl⟩:=List.mem_map.1 hb
   rfl
  rw[this]
  rfl
 have hm:(Sig.b1 0++Cod.cat ((List.range 67).map fun c=>Sig.chain key c 0 15 (Sig.secret (Ah s) key c))).data.toList=0::ws.flatMap AV:=by
  have key2:((List.range 67).map fun c=>Sig.chain key c 0 15 (Sig.secret (Ah s) key c)).flatMap (fun x=>x.data.toList)=(List.range 67).flatMap fun c=>((u.at (c*12+(key*6+s))).list).flatMap AV:=by
   rw[List.flatMap_map,List.flatMap_def,List.flatMap_def]
   congr 1
   refine List.map_congr_left fun c hc=>?_
   have hc:=List.mem_range.1 hc
   have e1:sJ (c*12+(key*6+s))=s:=by unfold sJ;omega
   have e2:kJ (c*12+(key*6+s))=key:=by unfold kJ;omega
   have e3:cJ (c*12+(key*6+s))=c:=by unfold cJ;omega
   rw[hu2 _ (by omega),e1,e2,e3]
   exact(Md key c (by omega) (by omega) 15 0 _ _ (Ld _ _) (Qh s key c (by omega) (by omega) (by omega)) (by omega)).1
  rw[Sha.Aw,Q9,hw,SK,key2]
  rfl
 have hz:(Sig.b1 0++Cod.cat ((List.range 67).map fun c=>Sig.chain key c 0 15 (Sig.secret (Ah s) key c))).size=2145:=by
  rw[<- Sha.Bj,hm,List.length_cons,Gq,hlen]
 unfold Sig.leaf Sig.EH NZ
 rw[H9,JM,<- hws]
 refine Qg _ (Cg ws) 34 ?_ ?_ ?_
 ·rw[Sha.Aw,hm,Gs _ 2145 hz]
  unfold Cg
  rw[List.flatMap_append,Fj ws 0 (by omega) hlt]
  simp only[List.cons_append,List.append_assoc]
  rfl
 ·unfold Cg
  rw[List.length_append,Ms,hlen]
  rfl
 ·intro w hmem
  unfold Cg at hmem
  rcases List.mem_append.1 hmem with h|h
  ·exact Q8 ws 0 (by omega) hlt w h
  ·simp only[List.mem_cons,List.not_mem_nil,or_false] at h
   rcases h with rfl|rfl|rfl|rfl|rfl|rfl|rfl<;>simp
theorem Wp (R:V)(g:Nat):Vok (NZ R g):=by
 unfold NZ
 rw[H9,JM]
 exact Em _ _ _ J6
theorem fK (s:Nat)(hs:s<6)(u:VF)(hu:u.ok)(hu2:Nl u):(Sig.root (Sig.leaves (Ah s) 2)).data.toList=(Wn (u.pack 804) s).list.flatMap AV:=by
 have h0:=fJ s 0 hs (by omega) u hu hu2
 have h1:=fJ s 1 hs (by omega) u hu hu2
 rw[Nat.zero_mul,Nat.zero_add] at h0
 rw[Nat.one_mul] at h1
 have hl:Sig.leaves (Ah s) 2=[Sig.leaf (Ah s) 0,Sig.leaf (Ah s) 1]:=rfl
 rw[hl,Sig.LG _ _ (Sig.Db _ _) (Sig.Db _ _)]
 obtain⟨ws,hws⟩:∃ ws,ws=(NZ (u.pack 804) s).list++(NZ (u.pack 804) (6+s)).list:=⟨_,rfl⟩
 have hlt:∀ w∈ws,w<4294967296:=fun w hm=>by
  rw[hws] at hm
  rcases List.mem_append.1 hm with hm|hm
  ·exact Iy (Wp _ _) w hm
  ·exact Iy (Wp _ _) w hm
 have hlen:ws.length=16:=by rw[hws,List.length_append];rfl
 have hm:(Sig.b1 1++Sig.leaf (Ah s) 0++Sig.leaf (Ah s) 1).data.toList=1::ws.flatMap AV:=by
  rw[Sha.Aw,Sha.Aw,h0,h1,hws,List.flatMap_append]
  rfl
 have hz:(Sig.b1 1++Sig.leaf (Ah s) 0++Sig.leaf (Ah s) 1).size=65:=by
  rw[<- Sha.Bj,hm,List.length_cons,Gq,hlen]
 unfold Wn
 rw[H9,JM,<- hws]
 refine Qg _ (CK ws) 2 ?_ ?_ ?_
 ·rw[Sha.Aw,hm,Gs _ 65 hz]
  unfold CK
  rw[List.flatMap_append,Fj ws 1 (by omega) hlt]
  simp only[List.cons_append,List.append_assoc]
  rfl
 ·unfold CK
  rw[List.length_append,Ms,hlen]
  rfl
 ·intro w hmem
  unfold CK at hmem
  rcases List.mem_append.1 hmem with h|h
  ·exact Q8 ws 1 (by omega) hlt w h
  ·simp only[List.mem_cons,List.not_mem_nil,or_false] at h
   rcases h with rfl|rfl|rfl|rfl|rfl|rfl|rfl|rfl|rfl|rfl|rfl|rfl|rfl|rfl|rfl<;>simp
end Az
namespace Az
theorem QA (n:Nat)(f:Nat->Nat):Ci f 0 n=Aa n f:=by
 rw[Wm]
 congr 1
 funext i
 rw[Nat.zero_add]
def bnd (f:Nat->Nat)(i:Nat):Nat:=if i<804 then f i else 0
theorem Fp:∀ (n:Nat) (f g:Nat->Nat),(∀ i,i<n->f i=g i)->Aa n f=Aa n g
 | 0,_,_,_=>rfl
 | n + 1,f,g,h => by
   have ih:=Fp n (fun i=>f (i+1)) (fun i=>g (i+1)) (fun i hi=>h (i+1) (by omega))
   unfold Aa
   rw[h 0 (by omega),ih]
theorem Uq (f:Nat->Nat):Ci f 0 804=Aa 804 (bnd f):=by
 rw[QA]
 exact Fp 804 _ _ (fun i hi=>by unfold bnd;rw[if_pos hi])
theorem fM {f:Nat->Nat}(h:∀ i,i<804->f i<4294967296):W (bnd f):=fun i=>by
 unfold bnd
 split
 ·exact h i (by assumption)
 ·simp
theorem Ur {f:Nat->Nat}{i:Nat}(h:i<804):bnd f i=f i:=by unfold bnd;rw[if_pos h]
theorem Oa (i:Nat):sJ i<256:=by unfold sJ;omega
theorem mR (i:Nat):kJ i<256:=by unfold kJ;omega
theorem mU {i:Nat}(h:i<804):cJ i<256:=by unfold cJ;omega
theorem fO:∃ u:VF,u.ok/\kC (mask 804) (ones 804)=u.pack 804/\∀ i,i<804->u.at i=cmp IVN (CX (sJ i) (kJ i) (cJ i)):=by
 have w2:W (bnd fun i=>wd4 2 (sJ i) (sJ i) (sJ i)):=fM fun i _=>En (by omega) (Oa i) (Oa i) (Oa i)
 have ws:W (bnd fun i=>wd4 (sJ i) (sJ i) (sJ i) (sJ i)):=fM fun i _=>En (Oa i) (Oa i) (Oa i) (Oa i)
 have w8:W (bnd fun i=>wd4 (sJ i) (kJ i) (cJ i) 128):=fM fun i h=>En (Oa i) (mR i) (mU h) (by omega)
 have w0:W fun _=>0:=fun _=>by simp
 obtain⟨u,h1,h2,h3⟩:=GY 804 VF.iv Sr _ _ _ _ _ _ _ _ _ (fun _=>0) (fun _=>0) (fun _=>0) (fun _=>0) (fun _=>0) (fun _=>0) (fun _=>280) w2 ws ws ws ws ws ws ws w8 w0 w0 w0 w0 w0 w0 (fun _=>by simp)
 have e3:Aa 804 (fun _=>280)=ones 804*280:=(AZ 804 280).symm
 rw[e3,Df,<- Kn] at h2
 refine⟨u,h1,?_,fun i hi=>?_⟩
 ·unfold kC
  rw[Uq,Uq,Uq]
  exact h2
 ·rw[h3,Ur hi,Ur hi,Ur hi]
  unfold cmp CX
  rfl
theorem fP:∃ u:VF,u.ok/\Nl u/\∀ k,oV k=k (u.pack 804):=by
 obtain⟨u0,h1,h2,h3⟩:=fO
 have hb:∀ i,bnd (fun i=>wd4 3 (kJ i) (cJ i) 0) i+(0+15)<4294967296:=fun i=>by
  unfold bnd
  split
  ·rename_i h
   have:=mU h
   have:=mR i
   show wd4 3 (kJ i) (cJ i) 0+(0+15)<4294967296
   unfold wd4
   omega
  ·simp
 obtain⟨u,g1,g2,g3⟩:=XP 804 (bnd fun i=>wd4 3 (kJ i) (cJ i) 0) 15 0 u0 h1 hb
 refine⟨u,g1,fun i hi=>?_,fun k=>?_⟩
 ·rw[g3,Ur hi,h3 i hi]
 ·unfold oV
  simp only[force_eq,SI]
  rw[Uq (fun i=>wd4 3 (kJ i) (cJ i) 0),QA 804 (fun _=>4294967295),QA 804 (fun _=>1)]
  show k _=_
  have e:(List.range' 0 15).foldl (fun v q=>OQ (mask 804) (ones 804) (Aa 804 (bnd fun i=>wd4 3 (kJ i) (cJ i) 0)) q v) (kC (mask 804) (ones 804))=u.pack 804:=by
   rw[h2]
   exact g2
  unfold mask ones at e
  rw[e]
theorem Wq:∀ (l:List Nat),diffs l=true->∀ i j (hi:i<l.length) (hj:j<l.length),i<j->l[i]≠l[j]
 | [],_,i,j,hi,_,_=>by cases hi
 | x :: l,h,i,j,hi,hj,hij => by
   unfold diffs at h
   rw[Bool.and_eq_true] at h
   cases i with
   | zero =>
     cases j with
     | zero=>omega
     | succ j =>
       have hj2:j<l.length:=by simpa using hj
       have:=List.all_eq_true.1 h.1 l[j] (List.getElem_mem hj2)
       intro e
       have e:x=l[j]:=e
       rw[<- e] at this
       simp at this
   | succ i =>
     cases j with
     | zero=>omega
     | succ j=>exact Wq l h.2 i j (by simpa using hi) (by simpa using hj) (by omega)
theorem SL {x y:Nat}(hx:x<4294967296)(hy:y<4294967296)(h:AV x=AV y):x=y:=by
 unfold AV at h
 simp only[List.cons.injEq,and_true] at h
 obtain⟨h1,h2,h3,h4⟩:=h
 have n8:∀ n:Nat,n<256->(n.toUInt8).toNat=n:=fun n hn=>by simp[Nat.mod_eq_of_lt hn]
 have e1:=congrArg UInt8.toNat h1;have e2:=congrArg UInt8.toNat h2;have e3:=congrArg UInt8.toNat h3;have e4:=congrArg UInt8.toNat h4
 rw[n8 _ (by omega),n8 _ (by omega)] at e1 e2 e3 e4
 omega
theorem Ws (R:V)(s:Nat):Vok (Wn R s):=by
 unfold Wn
 rw[H9,JM]
 exact Em _ _ _ J6
theorem Li {s t:Nat}(hs:s<6)(ht:t<6)(h:s≠t):Sig.Dq (Ah s)≠Sig.Dq (Ah t):=by
 have key:∀ s t,s<t->t<6->Sig.Dq (Ah s)≠Sig.Dq (Ah t):=by
  intro s t hst ht e
  obtain⟨u,h1,h2,h3⟩:=fP
  have hd:=Yi
  rw[h3] at hd
  have hne:=Wq _ hd s t (by simp;omega) (by simp;omega) hst
  simp only[List.getElem_map,List.getElem_range] at hne
  have e2:Sig.root (Sig.leaves (Ah s) 2)=Sig.root (Sig.leaves (Ah t) 2):=by
   rw[<- Sig.Iq,<- Sig.Iq,e]
  have e3:=congrArg (fun x:ByteArray=>x.data.toList) e2
  rw[fK s (by omega) u h1 h2,fK t ht u h1 h2] at e3
  have e4:=congrArg (List.take 4) e3
  refine hne (SL (Ws _ _).a (Ws _ _).a ?_)
  have q:∀ v:V,(v.list.flatMap AV).take 4=AV v.a:=fun v=>by
   unfold V.list
   rw[List.flatMap_cons,List.take_append_of_le_length (by rw[Dc];exact Nat.le_refl _),List.take_of_length_le (by rw[Dc];exact Nat.le_refl _)]
  rwa [q,q] at e4
 rcases Nat.lt_or_ge s t with hst|hge
 ·exact key s t hst ht
 ·exact fun e=>key t s (by omega) hs e.symm
end Az
namespace Own
/-! ### chains in order -/
theorem QC {α : Type}{ok : α -> Bool}{f : α -> ByteArray} : ∀ {l:List α} {p:Option α},(∀ x∈l,ok x=true)->Srt f l->(∀ q,p=some q->∀ x∈l,Ak (f q) (f x)=true)->Ai ok (fun x y=>Ak (f x) (f y)) p l=true
 | [],_,_,_,_=>rfl
 | x :: l,p,ho,hs,hp => by
   have hs':=List.pairwise_cons.1 hs
   have ih:=QC (p:=some x) (fun y hy=>ho y (List.mem_cons_of_mem _ hy)) hs'.2 (fun q hq y hy=>by cases hq;exact hs'.1 y hy)
   unfold Ai
   rw[ho x List.mem_cons_self,ih]
   cases p with
   | none=>rfl
   | some q=>simp only[hp q rfl x List.mem_cons_self,Bool.and_self]
theorem Gv:∀ {K:List KeyUse},Srt KeyUse.pub K->∀ (x:KeyUse) (p:ByteArray),Bc (use K x) p=if x.pub=p then x.next else Bc K p
 | [],_,x,p => by
   unfold use Bc
   by_cases h:x.pub=p
   ·rw[if_pos h];simp[h]
   ·rw[if_neg h];simp[h]
 | k :: K,hs,x,p => by
   have hs':=List.pairwise_cons.1 hs
   have Wt:∀ (y:KeyUse) (l:List KeyUse),Bc (y::l) p=if y.pub=p then y.next else Bc l p:=fun y l=>by
    unfold Bc
    by_cases h:y.pub=p
    ·rw[if_pos h];simp[h]
    ·rw[if_neg h];simp[h]
   unfold use
   by_cases h1:Ak k.pub x.pub=true
   ·rw[if_pos h1,Wt,Wt,Gv hs'.2 x p]
    by_cases hk:k.pub=p
    ·rw[if_pos hk,if_pos hk]
     rw[if_neg (fun hx=>by rw[hk,hx,FU] at h1;cases h1)]
    ·rw[if_neg hk,if_neg hk]
   ·rw[if_neg h1]
    by_cases h2:k.pub=x.pub
    ·rw[if_pos h2,Wt,Wt]
     by_cases hx:x.pub=p
     ·rw[if_pos hx,if_pos hx]
     ·rw[if_neg hx,if_neg hx,if_neg (by rw[h2];exact hx)]
    ·rw[if_neg h2,Wt]
/-! ### the space -/
structure Ky (K:List KeyUse):Prop where
 srt:Srt KeyUse.pub K
 ok:∀ k∈K,EA k=true
theorem Ky.nil:Ky []:=⟨List.Pairwise.nil,fun k hk=>by cases hk⟩
theorem Us (b:Nat):(Ag b).pub=Sig.Dq (Az.Ah b):=by unfold Ag;rfl
theorem QD (S:ByteArray)(i:Nat)(m:ByteArray):(Sig.Bb S i m).index=(i:Int):=by unfold Sig.Bb;rfl
theorem fQ (b:Nat):Sig.BJ (Ag b).pub=true:=by
 show Sig.BJ (Sig.Dq _)=true
 unfold Sig.BJ
 rw[Sig.Py,Sig.Gj]
 decide
theorem Ky.use {K:List KeyUse}(h:Ky K)(b:Nat)(n:Int)(h0:0<=n)(h2:n<=2):Ky (use K ⟨(Ag b).pub,n⟩):=by
 rw[I5]
 refine⟨h.srt.put _,fun k hk=>?_⟩
 rcases JG _ _ _ hk with rfl|hk
 ·unfold EA
  rw[fQ,show((Ag b).pub.get! 32)=1 from Sig.Gj _]
  have e:(2:Int)^(1:UInt8).toNat=2:=by decide
  rw[e]
  simp only[Bool.true_and,Bool.and_eq_true,decide_eq_true_eq]
  exact⟨h0,h2⟩
 ·exact h.ok k hk
theorem IE {a b:Nat}(h:a<b)(hb:b<8):Ak (Ag a).name (Ag b).name=true:=by
 have:∀ b,b<8->∀ a,a<b->Ak (⟨#[109,(97+a%8).toUInt8]⟩:ByteArray) ⟨#[109,(97+b%8).toUInt8]⟩=true:=by decide +kernel
 exact this b hb a h
theorem kD {a b:Nat}(ha:a<8)(hb:b<8)(h:a≠b):(Ag a).name≠(Ag b).name:=by
 intro e
 rcases Nat.lt_or_gt_of_ne h with h|h
 ·have:=IE h hb
  rw[e,FU] at this;cases this
 ·have:=IE h ha
  rw[e,FU] at this;cases this
theorem Li {a b:Nat}(ha:a<6)(hb:b<6)(h:a≠b):(Ag a).pub≠(Ag b).pub:=Az.Li ha hb h
theorem Mt (b:Nat):CG (Ag b).name=true:=rfl
theorem fT (pre:List Member)(b:Nat)(h1:∀ x∈pre,x.pub≠(Ag b).pub)(h2:∀ x,pre.getLast? = some x->Ak x.name (Ag b).name=true):Bp pre (Ag b)=true:=by
 unfold Bp
 rw[Mt,fQ]
 have e:(pre.any fun x=>decide (x.pub=(Ag b).pub))=false:=List.any_eq_false.2 fun x hx=>by simpa using h1 x hx
 rw[e]
 cases hl:pre.getLast? with
 | none=>rfl
 | some x=>simp only[h2 x hl];rfl
theorem kE {n:Nat}(h1:1<=n)(h2:n<=3):D8 (Et n)=true:=by
 have e:∀ n,n<=3->Au [] (Et n)=true:=by
  intro n hn
  have a0:Bp [] (Ag 0)=true:=fT _ _ (fun x hx=>by cases hx) (fun x hx=>by cases hx)
  have a1:Bp [Ag 0] (Ag 1)=true:=fT _ _ (fun x hx=>by
   rw[List.mem_singleton.1 hx];exact Li (by omega) (by omega) (by omega)) (fun x hx=>by cases hx;exact IE (by omega) (by omega))
  have a2:Bp [Ag 0,Ag 1] (Ag 2)=true:=fT _ _ (fun x hx=>by
   simp only[List.mem_cons,List.not_mem_nil,or_false] at hx
   rcases hx with rfl|rfl<;>exact Li (by omega) (by omega) (by omega)) (fun x hx=>by cases hx;exact IE (by omega) (by omega))
  match n,hn with
  | 0,_=>rfl
  | 1,_=>show(Bp [] (Ag 0)&&true)=true;rw[a0];rfl
  | 2,_=>show(Bp [] (Ag 0)&&(Bp [Ag 0] (Ag 1)&&true))=true;rw[a0,a1];rfl
  | 3,_=>show(Bp [] (Ag 0)&&(Bp [Ag 0] (Ag 1)&&(Bp [Ag 0,Ag 1] (Ag 2)&&true)))=true;rw[a0,a1,a2];rfl
 unfold D8
 rw[IC,e n h2]
 simp only[Bool.and_true,Bool.and_eq_true,decide_eq_true_eq]
 omega
theorem JN {n:Nat}{th:Int}(h1:1<=n)(h2:n<=3)(h3:1<=th)(h4:th<=n):Bu (Bn n th)=true:=by
 unfold Bu Bn
 dsimp only
 rw[kE h1 h2,IC,show Bt ⟨#[97]⟩=true by decide]
 simp only[Bool.true_and,Bool.and_eq_true,decide_eq_true_eq]
 exact⟨h3,h4⟩
def DL (s:Space)(K:List KeyUse):Ap:=⟨0,[s],K⟩
theorem Lj {s:Space}{K:List KeyUse}(hs:Bu s=true)(hK:Ky K):Bf (DL s K)=true:=by
 unfold Bf DL
 have e1:Ai Bu (fun x y=>Ak x.pre y.pre) none [s]=true:=by simp[Ai,hs]
 have e2:Ai EA (fun x y=>Ak x.pub y.pub) none K=true:=QC hK.ok hK.srt (fun q hq=>by cases hq)
 dsimp only
 rw[e1,e2]
 rfl
theorem Ut {s:Space}{K:List KeyUse}(hs:Bu s=true)(hp:s.pre=⟨#[97]⟩)(hK:Ky K){p:ByteArray}(h1:Bt p=true)(h2:belongs p ⟨#[97]⟩=true):authority (DL s K) p=some s:=by
 unfold authority
 rw[Lj hs hK,h1]
 show FJ p none [s]=some s
 unfold FJ
 rw[hp,h2]
 rfl
theorem Yj {n b:Nat}(hb:b<n)(hn:n<=8):find (Et n) (Ag b).name=some (Ag b):=by
 unfold find
 rw[List.find?_eq_some_iff_append]
 refine⟨by simp,(List.range b).map Ag,((List.range' (b+1) (n-b-1)).map Ag),?_,fun x hx=>?_⟩
 ·unfold Et
  rw[<- List.map_cons,<- List.map_append]
  congr 1
  rw[List.range_eq_range',List.range_eq_range']
  have e:n=b+(n-b):=by omega
  conv=>lhs;rw[e,<- List.range'_append_1]
  congr 1
  have e2:n-b=(n-b-1)+1:=by omega
  rw[e2,List.range'_succ]
  simp
 ·obtain⟨c,hc,rfl⟩:=List.mem_map.1 hx
  have:=List.mem_range.1 hc
  simpa using kD (by omega) (by omega) (by omega:c≠b)
/-! ### a queue of one proposal -/
theorem DI {nx:Int}{p:Ab}(h0:0<=nx)(h1:nx<=1099511627776)(hp:Bh p=true)(h:p.id<nx):A9 ⟨nx,[p]⟩=true:=by
 unfold A9 late
 dsimp only
 have e:Ai (fun p=>Bh p&&decide (p.id<nx)) (fun x y=>decide (x.id<y.id)) none [p]=true:=by simp[Ai,hp,h]
 rw[e]
 simp only[Bool.and_true,Bool.and_eq_true,decide_eq_true_eq]
 exact⟨⟨h0,h1⟩,by show 1<=64;omega⟩
structure Kz (V:List Vote):Prop where
 srt:Srt Vote.name V
 ok:∀ v∈V,CG v.name=true
 len:V.length<=1000
theorem Kz.nil:Kz []:=⟨List.Pairwise.nil,(fun v hv=>by cases hv),by simp⟩
theorem JO {α : Type}(f : α -> ByteArray)(x : α):∀ l:List α,(Kw f x l).length<=l.length+1
 | []=>Nat.le_refl _
 | y :: l => by
   unfold Kw
   split
   ·have:=JO f x l
    simp only[List.length_cons];omega
   ·split<;>simp
theorem Kz.put {V:List Vote}(h:Kz V)(hl:V.length<1000)(x:Vote)(hx:CG x.name=true):Kz (Bq V x):=by
 rw[Du]
 refine⟨h.srt.put _,fun v hv=>?_,by have:=JO Vote.name x V;omega⟩
 rcases JG _ _ _ hv with rfl|hv
 ·exact hx
 ·exact h.ok v hv
structure FC (p:Ab):Prop where
 id0:0<=p.id
 id1:p.id<1099511627776
 path:Bt p.path=true
 bel:belongs p.path ⟨#[97]⟩=true
 dig:Sig.digest p.digest=true
 op:0<=p.opened/\p.opened<=late/\p.opened<p.expires/\p.expires<=p.opened+256
def Al (p:Ab)(V:List Vote):Ab :={ p with Aq:=V }
theorem EP {p:Ab}(h:FC p){V:List Vote}(hV:Kz V):Bh (Al p V)=true:=by
 unfold Bh Al
 have e:Ai (fun v=>CG v.name) (fun x y=>Ak x.name y.name) none V=true:=QC (f:=Vote.name) hV.ok hV.srt (fun q hq=>by cases hq)
 dsimp only
 rw[e,h.path,h.dig]
 have:=h.op
 have:=h.id0
 have:=hV.len
 simp only[Bool.and_true,Bool.true_and,Bool.and_eq_true,decide_eq_true_eq]
 omega
theorem SN (p:Ab)(V:List Vote)(ag:Bool):Ay (Al p V) ag=Ay p ag:=rfl
def Bl (b:Nat)(i:Nat)(p:Ab)(ag:Bool):Ce:=⟨(Ag b).name,Sig.Bb (Az.Ah b) i (Ay p ag)⟩
theorem Uu {n b i:Nat}{th nx:Int}{K:List KeyUse}{p:Ab}{V:List Vote}{ag:Bool}(h1:n<=3)(h3:1<=th)(h4:th<=n)(hK:Ky K)(hp:FC p)(hV:Kz V)(hVl:V.length<1000)(hnx:p.id<nx)(hnx2:nx<=1099511627776)(hb:b<n)(hi:i<2)(hu:Bc K (Ag b).pub<=i):
 EZ ⟨nx,[Al p V]⟩ (DL (Bn n th) K) p.id ag (Bl b i p ag)=(⟨nx,[Al p (Bq V ⟨(Ag b).name,(Ag b).pub,ag⟩)]⟩,DL (Bn n th) (use K ⟨(Ag b).pub,(i:Int)+1⟩),0):=by
 have hn1:1<=n:=by omega
 have hsp:=JN hn1 h1 h3 h4
 have hq:A9 ⟨nx,[Al p V]⟩=true:=DI (by have:=hp.id0;omega) hnx2 (EP hp hV) hnx
 have hf:CW [Al p V] p.id=some (Al p V):=by simp[CW,Al]
 have hpl:=JO Vote.name ⟨(Ag b).name,(Ag b).pub,ag⟩ V
 unfold EZ
 rw[hq,Lj hsp hK]
 dsimp only
 rw[if_neg (by decide),hf]
 dsimp only
 rw[Ut hsp rfl hK (show Bt (Al p V).path=true from hp.path) hp.bel]
 have hv:Sig.verify (Ag b).pub (Ay p ag) (Sig.Bb (Az.Ah b) i (Ay p ag))=true:=by rw[Us];exact Sig.NG (Az.Ah b) i hi (Ay p ag)
 have hx:=QD (Az.Ah b) i (Ay p ag)
 unfold Bl
 generalize Sig.Bb (Az.Ah b) i (Ay p ag)=sg at*
 have hfm:find (Bn n th).members (Ag b).name=some (Ag b):=Yj hb (by omega)
 dsimp only
 rw[hfm]
 dsimp only
 rw[SN,hv,if_neg (fun h=>by cases h),hx,if_neg (show ¬ (i:Int)<Bc (DL (Bn n th) K).keys (Ag b).pub from Int.not_lt.2 hu)]
 rw[if_neg (show ¬ 1024<(Bq (Al p V).Aq ⟨(Ag b).name,(Ag b).pub,ag⟩).length by rw[Du];show ¬ 1024<(Kw Vote.name ⟨(Ag b).name,(Ag b).pub,ag⟩ V).length;omega)]
 have e:Qj [Al p V] { Al p V with Aq:=Bq (Al p V).Aq ⟨(Ag b).name,(Ag b).pub,ag⟩ } = [Al p (Bq V ⟨(Ag b).name,(Ag b).pub,ag⟩)]:=by
  simp[Qj,Al]
 rw[e]
 rfl
/-! ### What is agreed -/
theorem Yk {s:Space}{nx:Int}{K:List KeyUse}{p:Ab}{V:List Vote}(hs:Bu s=true)(hpre:s.pre=⟨#[97]⟩)(hK:Ky K)(hp:FC p)(hV:Kz V)(hnx:p.id<nx)(hnx2:nx<=1099511627776):
 agreed ⟨nx,[Al p V]⟩ (DL s K) p.id=((V.filter (counts s)).all (·.agrees)&&decide (s.threshold<=((V.filter (counts s)).length:Int))):=by
 have hq:A9 ⟨nx,[Al p V]⟩=true:=DI (by have:=hp.id0;omega) hnx2 (EP hp hV) hnx
 have hf:CW [Al p V] p.id=some (Al p V):=by simp[CW,Al]
 unfold agreed
 rw[hq,Lj hs hK]
 dsimp only
 rw[hf]
 show(true&&D9 (Al p V) (DL s K))=_
 unfold D9
 rw[Ut hs hpre hK (show Bt (Al p V).path=true from hp.path) hp.bel]
 rfl
def Ob (n:Nat)(V:List Vote):Prop:=∀ v∈V,∃ b,b<n/\v.name=(Ag b).name/\v.pub=(Ag b).pub
theorem Ob.nil (n:Nat):Ob n []:=fun v hv=>by cases hv
theorem Ob.put {n:Nat}{V:List Vote}(h:Ob n V){b:Nat}(hb:b<n)(ag:Bool):Ob n (Bq V ⟨(Ag b).name,(Ag b).pub,ag⟩):=fun v hv=>by
 rw[Du] at hv
 rcases JG _ _ _ hv with rfl|hv
 ·exact⟨b,hb,rfl,rfl⟩
 ·exact h v hv
theorem Ym {n:Nat}{th:Int}{v:Vote}(h:∃ b,b<n/\v.name=(Ag b).name/\v.pub=(Ag b).pub):counts (Bn n th) v=true:=by
 obtain⟨b,hb,h1,h2⟩:=h
 unfold counts Bn Et
 rw[List.any_eq_true]
 exact⟨Ag b,List.mem_map.2 ⟨b,List.mem_range.2 hb,rfl⟩,by simp[h1,h2]⟩
theorem Mv {n:Nat}{th nx:Int}{K:List KeyUse}{p:Ab}{V:List Vote}(h1:n<=3)(h3:1<=th)(h4:th<=n)(hK:Ky K)(hp:FC p)(hV:Kz V)(hM:Ob n V)(hnx:p.id<nx)(hnx2:nx<=1099511627776):
 agreed ⟨nx,[Al p V]⟩ (DL (Bn n th) K) p.id=(V.all (·.agrees)&&decide (th<=(V.length:Int))):=by
 rw[Yk (JN (by omega) h1 h3 h4) rfl hK hp hV hnx hnx2]
 have e:V.filter (counts (Bn n th))=V:=List.filter_eq_self.2 fun v hv=>Ym (hM v hv)
 rw[e]
 rfl
theorem SQ {n:Nat}{th nx size:Int}{K:List KeyUse}{p:Ab}{V:List Vote}(h1:n<=3)(h3:1<=th)(h4:th<=n)(hK:Ky K)(hp:FC p)(hV:Kz V)(hM:Ob n V)(hnx:p.id<nx)(hnx2:nx<=1099511627776):
 merge ⟨nx,[Al p V]⟩ (DL (Bn n th) K) size p.id=if p.expires<=size then (.none,.none,8) else if (V.all (·.agrees)&&decide (th<=(V.length:Int)))=false then (.none,.none,20) else (⟨nx,[]⟩,Al p V,0):=by
 have hsp:=JN (show 1<=n by omega) h1 h3 h4
 have hq:A9 ⟨nx,[Al p V]⟩=true:=DI (by have:=hp.id0;omega) hnx2 (EP hp hV) hnx
 have hf:CW [Al p V] p.id=some (Al p V):=by simp[CW,Al]
 have ha:=Mv h1 h3 h4 hK hp hV hM hnx hnx2
 unfold agreed at ha
 rw[hq,Lj hsp hK] at ha
 dsimp only at ha
 rw[hf] at ha
 have ha' : D9 (Al p V) (DL (Bn n th) K)=(V.all (·.agrees)&&decide (th<=(V.length:Int))):=ha
 unfold merge
 rw[hq,Lj hsp hK]
 dsimp only
 rw[if_neg (by decide),hf]
 dsimp only
 rw[ha']
 have e:without ⟨nx,[Al p V]⟩ p.id=⟨nx,[]⟩:=by simp[without,Al]
 rw[e]
 rfl
theorem QE {nx:Int}{p:Ab}{V:List Vote}(hp:FC p)(hV:Kz V)(hnx:p.id<nx)(hnx2:nx<=1099511627776):Fa ⟨nx,[Al p V]⟩ p.id=(⟨nx,[]⟩,0):=by
 have hq:A9 ⟨nx,[Al p V]⟩=true:=DI (by have:=hp.id0;omega) hnx2 (EP hp hV) hnx
 have hf:CW [Al p V] p.id=some (Al p V):=by simp[CW,Al]
 have e:without ⟨nx,[Al p V]⟩ p.id=⟨nx,[]⟩:=by simp[without,Al]
 unfold Fa
 rw[hq]
 dsimp only
 rw[hf,e]
 rfl
theorem fU {nx size:Int}{p:Ab}{V:List Vote}(hp:FC p)(hV:Kz V)(hnx:p.id<nx)(hnx2:nx<=1099511627776)(he:p.expires<=size):expire ⟨nx,[Al p V]⟩ size=⟨nx,[]⟩:=by
 have hq:A9 ⟨nx,[Al p V]⟩=true:=DI (by have:=hp.id0;omega) hnx2 (EP hp hV) hnx
 unfold expire
 rw[hq,if_neg (by decide)]
 have:decide (size<(Al p V).expires)=false:=decide_eq_false (by show ¬ size<p.expires;omega)
 simp[List.filter_cons,this]
def BG (id:Int)(path dg:ByteArray)(size window:Int):Ab:=⟨id,path,dg,size,size+window,[]⟩
theorem Nn {id size window:Int}{path dg:ByteArray}(h0:0<=id)(h1:id<1099511627776)(hp:Bt path=true)(hb:belongs path ⟨#[97]⟩=true)(hd:Sig.digest dg=true)(hs:0<=size/\size<=late)(hw:1<=window/\window<=256):FC (BG id path dg size window):=
 ⟨h0,h1,hp,hb,hd,hs.1,hs.2,by show size<size+window;omega,by show size+window<=size+256;omega⟩
theorem Dw (b:Nat):Sig.digest (Az.Ah b)=true:=decide_eq_true (EL b)
theorem IG {nx size window:Int}{path dg:ByteArray}(h0:0<=nx)(h1:nx<1099511627776)(hp:Bt path=true)(hd:Sig.digest dg=true)(hs:0<=size/\size<=late)(hw:1<=window/\window<=256):
 Eo ⟨nx,[]⟩ size window path dg=(⟨nx+1,[BG nx path dg size window]⟩,nx,0):=by
 have hq:A9 ⟨nx,[]⟩=true:=by
  unfold A9 late
  simp only[Ai,List.length_nil,Bool.and_true,Bool.and_eq_true,decide_eq_true_eq]
  omega
 unfold Eo
 rw[hq,hp,hd,if_neg (by decide),if_neg (by have:=hs;have:=hw;omega),if_neg (by decide),if_neg (by decide),if_neg (by simp),if_neg (by simp[late];omega)]
 rfl
end Own
end
section
open Go Go.RowKit Go.Maps
namespace Own
theorem Idx.find {α : Type}{p : α -> Bool}{l:List α}{i:Int}(h:Idx p l i):(i<0/\l.find? p=none)\/∃ j:Nat,∃ hj:j<l.length,i=(j:Int)/\l.find? p=some l[j]:=by
 rcases h with ⟨rfl,h1,_⟩|⟨j,hj,rfl,h1,h2,h3⟩
 ·exact .inl ⟨by omega,h1⟩
 ·exact .inr ⟨j,hj,rfl,h1⟩
end Own
theorem JQ (q:Own.Queue)(id:Int)(pv:Value)(w:World)(hM:Fx w)(hP:Own.AX w pv q.props)(hls:q.props.length<=1000000)(hlm:∀ p∈q.props,p.Aq.length<=3000000):
 Calls Tryz.prog 14 #[.agg #[.int .i64 q.next,pv],.int .i64 id] w fun e w' => (∃ qv,e=.returned (.tuple #[qv,.int .i64 (Own.Fa q id).2])/\Own.oU w (Own.Fa q id).1 qv w')/\Below w.heap.size w w':=by
 obtain⟨R,hR⟩:∃ R,R=Own.Fa q id:=⟨_,rfl⟩
 rw[<- hR]
 unfold Own.Fa at hR
 obtain⟨a,c,rfl⟩:=hP.len
 obtain⟨nx,L⟩:=q
 dsimp only at*
 have hb1:Below w.heap.size w (((w.alloc (.cells #[.int .i64 nx,.slice a L.length c] 24)).alloc (.cells #[.int .i64 id] 3)).alloc (.cells #[.int .i64 0,.slice none 0 0] 24)):=(zb.alloc (by simp) _).alloc (by simp;omega) _
 have a0:=((At.new w 24 #[.int .i64 nx,.slice a L.length c]).alloc (.cells #[.int .i64 id] 3)).alloc (.cells #[.int .i64 0,.slice none 0 0] 24)
 have a1:=(At.new1 w (.cells #[.int .i64 nx,.slice a L.length c] 24) 3 #[.int .i64 id]).alloc (.cells #[.int .i64 0,.slice none 0 0] 24)
 have a2:At (((w.alloc (.cells #[.int .i64 nx,.slice a L.length c] 24)).alloc (.cells #[.int .i64 id] 3)).alloc (.cells #[.int .i64 0,.slice none 0 0] 24)) (w.heap.size+1+1) 24 #[.int .i64 0,.slice none 0 0]:=by
  have:=At.new1 (w.alloc (.cells #[.int .i64 nx,.slice a L.length c] 24)) (.cells #[.int .i64 id] 3) 24 #[.int .i64 0,.slice none 0 0]
  rwa [World.size_alloc] at this
 have hz1:w.heap.size+3<=(((w.alloc (.cells #[.int .i64 nx,.slice a L.length c] 24)).alloc (.cells #[.int .i64 id] 3)).alloc (.cells #[.int .i64 0,.slice none 0 0] 24)).heap.size:=by simp
 obtain⟨c0,c1⟩:=a0.c2
 have hval:=Dv ⟨nx,L⟩ (.slice a L.length c) _ (hM.below hb1) (hP.below hb1) (by show L.length<=_;omega) (fun p hp=>by have:=hlm p hp;omega)
 have HV:=zh hval;have HP:=zh (hP.below hb1);have HB:=zh hb1;have HA0:=zh a0;have HA1:=zh a1;have HA2:=zh a2;have HLM:=zh hlm;have HR:=zh hR
 clear hval hP hM hb1 a0 a1 a2 hlm hR
 go_enter Tryz.func14,Tryz.ntmps14
 go_wp2_with fail
 generalize ((w.alloc (.cells #[.int .i64 nx,.slice a L.length c] 24)).alloc (.cells #[.int .i64 id] 3)).alloc (.cells #[.int .i64 0,.slice none 0 0] 24)=w1 at*
 refine HV.out.mono ?_
 rintro e w2 ⟨rfl,hb2⟩
 have a0:=HA0.out.below hb2 (by omega);have a1:=HA1.out.below hb2 (by omega);have a2:=HA2.out.below hb2 (by omega)
 have x0:=a0.cell 0;have x1:=a0.cell 1
 have r0:=a2.cell 0;have r1:=a2.cell 1;have r2:=a2.free 0;have r3:=a2.free 1
 have z0:=a1.cell 0
 simp only[zg] at x0 x1 r0 r1 z0
 have hP2:=HP.out.below hb2
 have hB2:=HB.out.trans (hb2.mono HB.out.size)
 have hs2:w.heap.size+3<=w2.heap.size:=Nat.le_trans hz1 hb2.size
 have uD:=zh a0;have uE:=zh a1;have aL:=zh a2;have HB2:=zh hB2
 have hfd:=I7 nx id _ L w2 hP2 (by omega)
 have HFD:=zh hfd;have HP2:=zh hP2
 clear hP2 hB2 hb2 a0 a1 a2 c0 c1 hfd HV HP HB HA0 HA1 HA2
 cases hq:Own.A9 ⟨nx,L⟩ with
 | false =>
   have e:R=(Own.Queue.none,1):=by rw[HR.out,hq];rfl
   have HE:=zh e;clear e
   go_wp2_with fail
   have F2:=(aL.out.set 0 (.int .i64 0)).set 1 (.slice none 0 0)
   refine BN rfl rfl rfl (Ad F2 Tryz.underlying24 rfl Ao) ⟨⟨.agg #[.int .i64 0,.slice none 0 0],?_,?_⟩,?_⟩
   ·rw[HE.out];rfl
   ·rw[HE.out];exact⟨_,rfl,Own.CB.nil _ _⟩
   ·exact(HB2.out.setCell (p:=⟨w.heap.size+1+1,0,none⟩) (by show w.heap.size<=w.heap.size+1+1;omega) _).setCell (p:=⟨w.heap.size+1+1,1,none⟩) (by show w.heap.size<=w.heap.size+1+1;omega) _
 | true =>
   have e:R=if (Own.CW L id).isNone=true then (Own.Queue.none,6) else (Own.without ⟨nx,L⟩ id,0):=by rw[HR.out,hq];rfl
   have HE:=zh e;clear e
   clear r0 r1 r2 r3
   go_wp2_with fail
   refine HFD.out.mono ?_
   rintro e w3 ⟨⟨i,rfl,hi⟩,hb3⟩
   have a0:=uD.out.below hb3 (by omega);have a1:=uE.out.below hb3 (by omega);have a2:=aL.out.below hb3 (by omega)
   have y0:=a0.cell 0;have y1:=a0.cell 1
   have r0:=a2.cell 0;have r1:=a2.cell 1;have r2:=a2.free 0;have r3:=a2.free 1
   have u0:=a1.cell 0
   simp only[zg] at y0 y1 r0 r1 u0
   have hkp:=I9 48 #[.pointer (some ⟨w.heap.size+1,0,none⟩)] (by intros;rfl) (fun p:Own.Ab => !decide (p.id=id)) nx _ L w3 (HP2.out.below hb3) hls HLM.out (fun W x u hb=>O1 x u _ id W ((hb.cell (p:=⟨w.heap.size+1,0,none⟩) a1.lt).trans u0))
   have HKP:=zh hkp;have uF:=zh a2;have HB3:=zh (HB2.out.trans (hb3.mono HB2.out.size))
   have hs3:=Nat.le_trans hs2 hb3.size
   have hfi:(i<0/\Own.CW L id=none)\/∃ j:Nat,∃ hj:j<L.length,i=(j:Int)/\Own.CW L id=some L[j]:=hi.find
   clear hkp a0 a1 a2 hb3 hi aL uE uD HB2 x0 x1 z0 u0
   rcases hfi with ⟨hi,hn⟩|⟨j,hj,rfl,hn⟩
   ·have di:decide (i<0)=true:=decide_eq_true hi
    have e:R=(Own.Queue.none,6):=by rw[HE.out,hn];rfl
    have HE2:=zh e;clear e
    go_wp2_with fail
    have F2:=(uF.out.set 0 (.int .i64 0)).set 1 (.slice none 0 0)
    refine BN rfl rfl rfl (Ad F2 Tryz.underlying24 rfl Ao) ⟨⟨.agg #[.int .i64 0,.slice none 0 0],?_,?_⟩,?_⟩
    ·rw[HE2.out];rfl
    ·rw[HE2.out];exact⟨_,rfl,Own.CB.nil _ _⟩
    ·exact(HB3.out.setCell (p:=⟨w.heap.size+1+1,0,none⟩) (by show w.heap.size<=w.heap.size+1+1;omega) _).setCell (p:=⟨w.heap.size+1+1,1,none⟩) (by show w.heap.size<=w.heap.size+1+1;omega) _
   ·have di:decide ((j:Int)<0)=false:=zf
    have e:R=(⟨nx,L.filter fun p => !decide (p.id=id)⟩,0):=by rw[HE.out,hn];rfl
    have HE2:=zh e;clear e
    clear r0 r1 r2 r3
    go_wp2_with fail
    refine HKP.out.mono ?_
    rintro e w4 ⟨⟨v',rfl,hpo⟩,hb4⟩
    obtain⟨va,vc,rfl⟩:=hpo.one
    obtain⟨M,hM⟩:∃ M,M=(L.filter fun p => !decide (p.id=id)).length:=⟨_,rfl⟩
    rw[<- hM] at hpo ⊢
    have a3:=uF.out.below hb4 (by omega)
    have r0:=a3.cell 0;have r1:=a3.cell 1;have r2:=a3.free 0;have r3:=a3.free 1
    simp only[zg] at r0 r1
    have HA3:=zh a3;have HPO:=zh hpo;have HB4:=zh (HB3.out.trans (hb4.mono HB3.out.size))
    clear a3 hpo hb4 hM
    go_wp2_with fail
    have F2:=(HA3.out.set 0 (.int .i64 nx)).set 1 (.slice va M vc)
    refine BN rfl rfl rfl (Ad F2 Tryz.underlying24 rfl Ao) ⟨⟨.agg #[.int .i64 nx,.slice va M vc],?_,?_⟩,?_⟩
    ·rw[HE2.out];rfl
    ·rw[HE2.out]
     refine⟨_,rfl,Own.CB.base (B:=w3.heap.size+3) (HPO.out.keep (by simp[World.setCell]) (fun k hk _=>?_)) (by omega)⟩
     have hk1:k≠w.heap.size+1+1:=by omega
     rw[zo hk1,zo hk1]
    ·exact(HB4.out.setCell (p:=⟨w.heap.size+1+1,0,none⟩) (by show w.heap.size<=w.heap.size+1+1;omega) _).setCell (p:=⟨w.heap.size+1+1,1,none⟩) (by show w.heap.size<=w.heap.size+1+1;omega) _
theorem KJ (p:Own.Ab)(ag:Bool)(v:Value)(w:World)(h0:0<=p.id)(h1:p.id<9223372036854775808)(h2:p.path.size<=1000000)(h3:p.digest.size<=1000000):
 Calls Tryz.prog 23 #[.agg #[.int .i64 p.id,.string p.path,.string p.digest,.int .i64 p.opened,.int .i64 p.expires,v],.bool ag] w fun e w' => e=.returned (.string (Own.Ay p ag))/\Below w.heap.size w w':=by
 obtain⟨R,hR⟩:∃ R,R=Own.Ay p ag:=⟨_,rfl⟩
 rw[<- hR]
 unfold Own.Ay at hR
 obtain⟨id,pa,di,op,ex,vs⟩:=p
 dsimp only at*
 obtain⟨n,rfl⟩:∃ n:Nat,id=(n:Int):=⟨id.toNat,by omega⟩
 rw[Int.toNat_natCast] at hR
 have a0:=At.new w 46 #[.int .i64 (n:Int),.string pa,.string di,.int .i64 op,.int .i64 ex,v]
 have hb1:Below w.heap.size w (w.alloc (.cells #[.int .i64 (n:Int),.string pa,.string di,.int .i64 op,.int .i64 ex,v] 46)):=zb
 have c0:=a0.cell 0;have c1:=a0.cell 1
 simp only[zg] at c0 c1
 have HA:=zh a0;have HB:=zh hb1;have HR:=zh hR
 have H1:=zh h1;have H2:=zh h2;have H3:=zh h3
 clear hR a0 hb1 h0 h1 h2 h3
 go_enter Tryz.func23,Tryz.ntmps23
 cases ag with
 | true =>
   go_upto_region 4 with fail
   obtain⟨T,hT⟩:∃ T:ByteArray,T=⟨#[13]⟩:=⟨_,rfl⟩
   rw[<- hT]
   have zT:T.size=1:=by rw[hT];rfl
   have HT:=zh hT;clear hT
   generalize w.alloc (.cells #[.int .i64 (n:Int),.string pa,.string di,.int .i64 op,.int .i64 ex,v] 46)=w1 at*
   go_wp2_with fail
   refine(MP n w1 (by have:=H1.out;omega)).mono ?_
   rintro e w2 ⟨rfl,hb2⟩
   have a2:=HA.out.below hb2 HA.out.lt
   have q1:=a2.cell 1;have q2:=a2.cell 2
   simp only[zg] at q1 q2
   have HA2:=zh a2;have HB2:=zh (HB.out.trans (hb2.mono HB.out.size))
   clear a2 hb2 c0 c1
   obtain⟨U,hU⟩:∃ U,U=Cod.uns n:=⟨_,rfl⟩
   rw[<- hU]
   have zU:U.size<=10:=by rw[hU];exact Cod.CQ n
   have HU:=zh hU;clear hU
   go_wp2_with fail
   refine Lex.zn (fun j=>j=w.heap.size) [8] 10 [6,4] ?_
   simp only[Lex.Bg,zd]
   go_wp2_with fail
   refine(Kh pa _ (by have:=H2.out;omega)).mono ?_
   rintro e w3 ⟨rfl,hb3⟩
   have Jp : Below w2.heap.size w2 w3:=(Below.refl w2.heap.size w2).drew.trans hb3
   have a3:=HA2.out.below Jp HA2.out.lt
   have p2:=a3.cell 2
   simp only[zg] at p2
   have HB3:=zh Jp;have HA3:=zh a3
   clear hb3 Jp a3
   obtain⟨TP,hTP⟩:∃ x,x=Cod.text pa:=⟨_,rfl⟩
   rw[<- hTP]
   have zP:TP.size<=1000010:=by rw[hTP];show(Cod.uns pa.size++pa).size<=_;rw[ByteArray.size_append];have:=Cod.CQ pa.size;have:=H2.out;omega
   have HTP:=zh hTP;clear hTP
   go_wp2_with fail
   refine Lex.Mid.intro (fun j hj _=>by rw[hj];exact HB3.out.block _ HA2.out.lt) ?_
   go_wp2_with fail
   refine(Kh di _ (by have:=H3.out;omega)).mono ?_
   rintro e w4 ⟨rfl,hb4⟩
   have fV : Below w2.heap.size w2 w4:=HB3.out.trans (hb4.mono HB3.out.size)
   have HB4:=zh fV
   clear hb4 fV
   obtain⟨TD,hTD⟩:∃ x,x=Cod.text di:=⟨_,rfl⟩
   rw[<- hTD]
   have zD:TD.size<=1000010:=by rw[hTD];show(Cod.uns di.size++di).size<=_;rw[ByteArray.size_append];have:=Cod.CQ di.size;have:=H3.out;omega
   have HTD:=zh hTD;clear hTD
   go_wp2_with fail
   refine Lex.Mid.intro (fun j hj _=>by rw[hj];exact HB4.out.block _ HA2.out.lt) ?_
   go_wp2_with fail
   refine Lex.zk ⟨⟨rfl,zi q2⟩,trivial⟩ ?_
   go_wp2_with fail
   go_ret
   refine⟨?_,HB2.out.trans (HB4.out.mono HB2.out.size)⟩
   rw[HR.out,HT.out,HU.out,HTP.out,HTD.out]
   rfl
 | false =>
   go_upto_region 4 with fail
   obtain⟨T,hT⟩:∃ T:ByteArray,T=⟨#[14]⟩:=⟨_,rfl⟩
   rw[<- hT]
   have zT:T.size=1:=by rw[hT];rfl
   have HT:=zh hT;clear hT
   generalize w.alloc (.cells #[.int .i64 (n:Int),.string pa,.string di,.int .i64 op,.int .i64 ex,v] 46)=w1 at*
   go_wp2_with fail
   refine(MP n w1 (by have:=H1.out;omega)).mono ?_
   rintro e w2 ⟨rfl,hb2⟩
   have a2:=HA.out.below hb2 HA.out.lt
   have q1:=a2.cell 1;have q2:=a2.cell 2
   simp only[zg] at q1 q2
   have HA2:=zh a2;have HB2:=zh (HB.out.trans (hb2.mono HB.out.size))
   clear a2 hb2 c0 c1
   obtain⟨U,hU⟩:∃ U,U=Cod.uns n:=⟨_,rfl⟩
   rw[<- hU]
   have zU:U.size<=10:=by rw[hU];exact Cod.CQ n
   have HU:=zh hU;clear hU
   go_wp2_with fail
   refine Lex.zn (fun j=>j=w.heap.size) [8] 10 [6,4] ?_
   simp only[Lex.Bg,zd]
   go_wp2_with fail
   refine(Kh pa _ (by have:=H2.out;omega)).mono ?_
   rintro e w3 ⟨rfl,hb3⟩
   have Jp : Below w2.heap.size w2 w3:=(Below.refl w2.heap.size w2).drew.trans hb3
   have a3:=HA2.out.below Jp HA2.out.lt
   have p2:=a3.cell 2
   simp only[zg] at p2
   have HB3:=zh Jp;have HA3:=zh a3
   clear hb3 Jp a3
   obtain⟨TP,hTP⟩:∃ x,x=Cod.text pa:=⟨_,rfl⟩
   rw[<- hTP]
   have zP:TP.size<=1000010:=by rw[hTP];show(Cod.uns pa.size++pa).size<=_;rw[ByteArray.size_append];have:=Cod.CQ pa.size;have:=H2.out;omega
   have HTP:=zh hTP;clear hTP
   go_wp2_with fail
   refine Lex.Mid.intro (fun j hj _=>by rw[hj];exact HB3.out.block _ HA2.out.lt) ?_
   go_wp2_with fail
   refine(Kh di _ (by have:=H3.out;omega)).mono ?_
   rintro e w4 ⟨rfl,hb4⟩
   have fV : Below w2.heap.size w2 w4:=HB3.out.trans (hb4.mono HB3.out.size)
   have HB4:=zh fV
   clear hb4 fV
   obtain⟨TD,hTD⟩:∃ x,x=Cod.text di:=⟨_,rfl⟩
   rw[<- hTD]
   have zD:TD.size<=1000010:=by rw[hTD];show(Cod.uns di.size++di).size<=_;rw[ByteArray.size_append];have:=Cod.CQ di.size;have:=H3.out;omega
   have HTD:=zh hTD;clear hTD
   go_wp2_with fail
   refine Lex.Mid.intro (fun j hj _=>by rw[hj];exact HB4.out.block _ HA2.out.lt) ?_
   go_wp2_with fail
   refine Lex.zk ⟨⟨rfl,zi q2⟩,trivial⟩ ?_
   go_wp2_with fail
   go_ret
   refine⟨?_,HB2.out.trans (HB4.out.mono HB2.out.size)⟩
   rw[HR.out,HT.out,HU.out,HTP.out,HTD.out]
   rfl
namespace Lex
section
variable {P:Program} {ops:Array Oper} {Q:Exit->Act->World->Prop}
abbrev Grown (w w' : World):Prop:=Below w.heap.size w w'
structure Kept (lo:Nat) (w1 w' : World):Prop where
 size:w1.heap.size<=w'.heap.size
 block:∀ b,lo<=b->b<w1.heap.size->w'.heap[b]? = w1.heap[b]?
theorem Kept.refl (lo:Nat)(w:World):Kept lo w w:=⟨Nat.le_refl _,fun _ _ _=>rfl⟩
theorem Kept.of_below {lo:Nat}{w w' : World}(h:Below w.heap.size w w'):Kept lo w w':=⟨h.size,fun b _ hb=>h.block b hb⟩
theorem Kept.grown {lo:Nat}{w1 w w' : World}(h:Kept lo w1 w)(hg:Grown w w'):Kept lo w1 w' :=
 ⟨Nat.le_trans h.size hg.size,fun b h1 h2=>(hg.block b (Nat.lt_of_lt_of_le h2 h.size)).trans (h.block b h1 h2)⟩
theorem Kept.kept {lo st:Nat}{w1 w w' : World}(h:Kept lo w1 w)(hs:st<=lo)(hg:Kept st w w'):Kept lo w1 w' :=
 ⟨Nat.le_trans h.size hg.size,fun b h1 h2=>(hg.block b (Nat.le_trans hs h1) (Nat.lt_of_lt_of_le h2 h.size)).trans (h.block b h1 h2)⟩
theorem Kept.at_ {w w' : World}{cs:Array Value}{t:TypeId}(h:Kept w.heap.size (w.alloc (.cells cs t)) w'):At w' w.heap.size t cs:=by
 have:=At.new w t cs
 unfold At at this ⊢
 rw[h.block _ (Nat.le_refl _) (by simp),this]
def Off (iv:List (Nat × Nat))(lo hi:Nat):Prop:=∀ x∈iv,hi<=x.1\/x.2<=lo
def Bd (st:Nat)(iv:List (Nat × Nat))(w:World):Prop:=st<=w.heap.size/\∀ x∈iv,x.2<=w.heap.size
theorem Dx {w w' : World}(h:Grown w w'):More w w':=fun i o hi=>by
 rw[h.block i (Array.getElem?_eq_some_iff.1 hi).1]
 exact hi
theorem Makes.below {α : Type}{s:Sem α}{w w' : World}{a : α}(h:Makes P s)(hr:s.run P w=.ok a w'):Below w.heap.size w w':=by
 induction s generalizing w w' with
 | pure x =>
   simp only[Sem.run,Result.ok.injEq] at hr
   obtain⟨rfl,rfl⟩:=hr
   exact Below.refl _ _
 | program k ih=>exact ih P h hr
 | mark m k ih=>exact ih h hr
 | halt h0=>simp[Sem.run] at hr
 | load m ad k ih =>
   simp only[Sem.run] at hr
   split at hr
   ·exact ih _ (h _) hr
   ·split at hr
    ·exact ih _ (h _) hr
    ·simp at hr
 | getObj r k ih =>
   simp only[Sem.run] at hr
   split at hr
   ·simp at hr
   ·exact ih _ (h _) hr
   ·simp at hr
 | new o k ih =>
   simp only[Sem.run] at hr
   have h1:Below w.heap.size w { w with heap:=w.heap.push o } :=⟨rfl,rfl,rfl,by simp,fun k hk=>by
    show(w.heap.push o)[k]? = _
    rw[Array.getElem?_push]
    simp[Nat.ne_of_lt hk]⟩
   exact h1.trans ((ih _ (h _) hr).mono h1.size)
 | store m ad v k ih=>exact h.elim
 | shape r k ih=>exact h.elim
 | freeze ad n k ih=>exact h.elim
 | frozen ad k ih=>exact h.elim
 | setObj r o k ih=>exact h.elim
 | choose q k ih =>
   simp only[Sem.run] at hr
   split at hr
   ·exact((h _).run hr).elim
   ·exact((h _).run hr).elim
 | sys c k ih=>exact h.elim
theorem Np {s:Sem Value}(h:Makes P s){n:Next}{w w' : World}(hr:(s >>= fun x=>pure (.value x):Sem Next).run P w=.ok n w'):Below w.heap.size w w':=by
 obtain⟨v,rfl,hv⟩:=LC hr
 exact h.below hv
theorem fZ {o:Oper}{ρ : Operand->Value}(hk:kind P o=2){n:Next}{w w' : World}(hr:(execOp ρ o).run P w=.ok n w'):Below w.heap.size w w':=by
 obtain⟨dst,op,type,pos,after,guard⟩:=o
 cases op<;>simp only[kind] at hk<;>try (exact absurd hk (by decide))
 case alloc t=>exact Np (Ny _) hr
 case box t x=>exact Np (RZ _ _) hr
 case buildSlice t n ps=>exact Np (He _ _ _) hr
 all_goals (split at hk<;>cases hk)
theorem Yl.Uv {o:Oper}{a:Act}{w w' : World}{v:Value}(h:Yl P ops o a w v w')(hk:kind P o=2):Below w.heap.size w w':=by
 rcases h with ⟨_,hr⟩|⟨_,_,rfl⟩
 ·exact fZ hk hr
 ·exact Below.refl _ _
theorem QF {a a' : Act}{k:Nat}{o:Oper}(hk:ops[k]? = some o)(hkd:kind P o=0)(hg:FN P ops a' = true)(hsame:needs o=true->∀ t,t∈o.looksAt ops->a'.tmps[t]? = a.tmps[t]?):
 Region.wanted o (yielded ops a.tmps)=true->Quiet P (execOp a.eval o):=by
 intro hw
 refine quiet_of hkd ?_
 cases hn:needs o with
 | false=>exact MJ hn _
 | true =>
   replace hsame:=hsame hn
   have hg1:=Array.all_eq_true_iff_forall_mem.1 hg o (Array.mem_of_getElem? hk)
   have hev:∀ x∈o.op.operands,a'.eval x=a.eval x:=fun x hx=>Hf fun t e=>hsame t (by
    subst e
    exact List.mem_append_left _ (List.mem_filterMap.2 ⟨.tmp t,by simpa using hx,rfl⟩))
   have hwn:Region.wanted o (yielded ops a'.tmps)=Region.wanted o (yielded ops a.tmps):=by
    unfold Region.wanted
    cases hgd:o.guard with
    | none=>rfl
    | some gw =>
      obtain⟨g,want⟩:=gw
      have:yielded ops a'.tmps g=yielded ops a.tmps g:=by
       unfold yielded
       cases hd:(ops[g]?).bind (·.dst) with
       | none=>rfl
       | some t =>
         have:=hsame t (by simp[Oper.looksAt,hgd,hd])
         simp[this]
      simp only[this]
   rw[hkd,hwn,hw] at hg1
   simp at hg1
   rw[<- KU o hev]
   exact hg1
theorem YX {B:Nat->Prop}{w0:World}{fl:List Nat}{a a' : Act}{k:Nat}{o:Oper}(hk:ops[k]? = some o)(hkd:kind P o=1)(hm:k∈fl)(hin:allIn B w0 ops a' fl)
 (hsame:∀ t,t∈o.looksAt ops->a'.tmps[t]? = a.tmps[t]?):Region.wanted o (yielded ops a.tmps)=true->Tx P (Same B w0) (execOp a.eval o):=by
 intro hw
 have hev:∀ x∈o.op.operands,a'.eval x=a.eval x:=fun x hx=>Hf fun t e=>hsame t (by
  subst e
  exact List.mem_append_left _ (List.mem_filterMap.2 ⟨.tmp t,by simpa using hx,rfl⟩))
 have hwn:Region.wanted o (yielded ops a'.tmps)=Region.wanted o (yielded ops a.tmps):=by
  unfold Region.wanted
  cases hgd:o.guard with
  | none=>rfl
  | some gw =>
    obtain⟨g,want⟩:=gw
    have:yielded ops a'.tmps g=yielded ops a.tmps g:=by
     unfold yielded
     cases hd:(ops[g]?).bind (·.dst) with
     | none=>rfl
     | some t =>
       have:=hsame t (by simp[Oper.looksAt,hgd,hd])
       simp[this]
    simp only[this]
 have h1:=Pm hin k hm o hk (by rw[hwn];exact hw)
 refine YE hkd ?_
 obtain⟨dst,op,type,pos,after,guard⟩:=o
 cases op<;>simp only[inB] at h1 ⊢
 case load t x=>rw[<- hev x (by simp[Op.operands])];exact h1
/-! ### The walk -/
def plain (P:Program)(ops:Array Oper)(i:Nat):Bool:=match ops[i]? with|some o=>kind P o==0 || kind P o==1|none=>false
def wpG (P:Program)(ops:Array Oper)(Q:Exit->Act->World->Prop)(S:World->Prop)(m:Nat)(fa:List Nat)(st:Nat):List Nat->List (Nat × Nat)->World->Act->World->Prop
 | [],_,wr,a,w=>w=wr/\Q .normal a w
 | i :: l,iv,wr,a,w =>
   if (i::l).any (fun x=>fa.contains x)=false then w=wr/\wpS P ops Q S m (i::l) a w
   else if fa.contains i=true then w=wr/\∀ w0,st<=w0.heap.size->wpOp P ops Q i (fun a1 w1=>∀ w',Grown w w' -> Kept w0.heap.size w1 w' -> Off iv w0.heap.size w1.heap.size->wpG P ops Q S m fa st l ((w0.heap.size,w1.heap.size)::iv) w' a1 w') a w0
   else if plain P ops i=true then wpOp P ops Q i (fun a1 w1=>wpG P ops Q S m fa st l iv wr a1 w1) a w
   else w=wr/\∀ w',Grown w w' -> wpOp P ops Q i (fun a1 w1=>S w1/\Kept st w' w1/\wpG P ops Q S m fa st l ((w'.heap.size,w1.heap.size)::iv) w1 a1 w1) a w'
section
variable {S:World->Prop} {m:Nat} {fa:List Nat} {st:Nat} {i:Nat} {l:List Nat} {iv:List (Nat × Nat)} {wr w:World} {a:Act}
theorem CV (h:l.any (fun x=>fa.contains x)=false):wpG P ops Q S m fa st l iv wr a w↔w=wr/\wpS P ops Q S m l a w:=by
 cases l with
 | nil=>exact Iff.rfl
 | cons i l=>unfold wpG;rw[if_pos h]
theorem FD (h:fa.contains i=true):wpG P ops Q S m fa st (i::l) iv wr a w↔w=wr/\∀ w0,st<=w0.heap.size->wpOp P ops Q i (fun a1 w1=>∀ w',Grown w w' -> Kept w0.heap.size w1 w' -> Off iv w0.heap.size w1.heap.size->wpG P ops Q S m fa st l ((w0.heap.size,w1.heap.size)::iv) w' a1 w') a w0:=by
 conv=>lhs;unfold wpG
 rw[if_neg (by simp only[List.any_cons,h,Bool.true_or];decide),if_pos h]
theorem FZ (h0:(i::l).any (fun x=>fa.contains x)=true)(h1:fa.contains i=false)(h:plain P ops i=true):wpG P ops Q S m fa st (i::l) iv wr a w↔wpOp P ops Q i (fun a1 w1=>wpG P ops Q S m fa st l iv wr a1 w1) a w:=by
 conv=>lhs;unfold wpG
 rw[if_neg (by rw[h0];decide),if_neg (by rw[h1];decide),if_pos h]
theorem DU (h0:(i::l).any (fun x=>fa.contains x)=true)(h1:fa.contains i=false)(h:plain P ops i=false):wpG P ops Q S m fa st (i::l) iv wr a w↔w=wr/\∀ w',Grown w w' -> wpOp P ops Q i (fun a1 w1=>S w1/\Kept st w' w1/\wpG P ops Q S m fa st l ((w'.heap.size,w1.heap.size)::iv) w1 a1 w1) a w':=by
 conv=>lhs;unfold wpG
 rw[if_neg (by rw[h0];decide),if_neg (by rw[h1];decide),if_neg (by rw[h];decide)]
end
theorem QG {S:World->Prop}{m:Nat}{fa:List Nat}{st:Nat} : ∀ (l:List Nat) (iv iv2:List (Nat × Nat)) (wr:World) (a:Act) (w:World),(∀ x∈iv,x∈iv2)->wpG P ops Q S m fa st l iv wr a w->wpG P ops Q S m fa st l iv2 wr a w
 | [],_,_,_,_,_,_,h=>h
 | i :: l,iv,iv2,wr,a,w,hs,h => by
   cases h0:(i::l).any (fun x=>fa.contains x) with
   | false=>rw[CV h0] at h ⊢;exact h
   | true =>
     cases h1:fa.contains i with
     | true =>
       rw[FD h1] at h ⊢
       refine⟨h.1,fun w0 hw0=>wpOp_mono (fun a1 w1 hh w' hg hk ho=>?_) (h.2 w0 hw0)⟩
       exact QG l _ _ _ _ _ (fun x hx=>by
        rcases List.mem_cons.1 hx with rfl|hx
        ·exact List.mem_cons_self
        ·exact List.mem_cons_of_mem _ (hs x hx)) (hh w' hg hk fun x hx=>ho x (hs x hx))
     | false =>
       cases h2:plain P ops i with
       | true =>
         rw[FZ h0 h1 h2] at h ⊢
         exact wpOp_mono (fun a1 w1 hh=>QG l _ _ _ _ _ hs hh) h
       | false =>
         rw[DU h0 h1 h2] at h ⊢
         refine⟨h.1,fun w' hg=>wpOp_mono (fun a1 w1 hh=>⟨hh.1,hh.2.1,?_⟩) (h.2 w' hg)⟩
         exact QG l _ _ _ _ _ (fun x hx=>by
          rcases List.mem_cons.1 hx with rfl|hx
          ·exact List.mem_cons_self
          ·exact List.mem_cons_of_mem _ (hs x hx)) hh.2.2
/-! ### The condition -/
def CF (P:Program)(ops:Array Oper)(fl fa:List Nat)(a b:Nat):Bool:=
 match ops[a]?,ops[b]? with
 | some oa,some ob => oa.apart ops ob && (if fa.contains b then true else if fa.contains a then kind P ob == 0 || (kind P ob == 1 && fl.contains b)
    else kind P ob==0 || kind P oa==0 || (kind P oa==1&&kind P ob==1) || (kind P oa==1&&fl.contains a) || (kind P ob==1&&fl.contains b))
 | _,_=>false
def Uw (P:Program)(ops:Array Oper)(fl fa:List Nat)(m:Nat):Bool:=
 Region.noSelect ops&&
 Ik ops (fun a b=>decide (b<m)&&CF P ops fl fa a b) ops.size ops.size 0 0&&
 ((List.range ops.size).all fun k => match ops[k]? with
   | some o => !needs o || (List.range ops.size).all fun i=>decide (i<k) || (match ops[i]? with|some o' => (match o'.dst with|some t => !(o.looksAt ops).contains t|none=>true)|none=>true)
   | none=>true)&&
 (fl.all fun k => match ops[k]? with
   | some o=>(List.range ops.size).all fun i=>decide (i<k) || (match ops[i]? with|some o' => (match o'.dst with|some t => !(o.looksAt ops).contains t|none=>true)|none=>true)
   | none=>true)&&
 (fa.all fun k=>decide (k<m)&&match ops[k]? with|some o=>kind P o==2|none=>false)
structure OkF (P:Program) (ops:Array Oper) (fl fa:List Nat) (m:Nat):Prop where
 sel:∀ (j:Nat) (o:Oper) (cs:Array SelectCase) (b:Bool),ops[j]? = some o->o.op≠.select cs b
 top:∀ (b:Nat) (ob:Oper),ops[b]? = some ob->∀ e∈ob.after,Region.binds .any e=true->e.on<b
 pair:∀ b a,b<ops.size->a<b->waits ops ops.size b a=true\/(b<m/\CF P ops fl fa a b=true)
 keep:∀ (k:Nat) (o:Oper),ops[k]? = some o->needs o=true\/k∈fl->∀ i,k<=i->∀ (o' : Oper),ops[i]? = some o' -> ∀ t,o'.dst=some t->t ∉ o.looksAt ops
 float:∀ k,fa.contains k=true->k<m/\∀ o,ops[k]? = some o->kind P o=2
theorem Oc {fl fa:List Nat}{m:Nat}(h:Uw P ops fl fa m=true):OkF P ops fl fa m:=by
 simp only[Uw,Bool.and_eq_true,List.all_eq_true,List.mem_range] at h
 obtain⟨⟨⟨⟨h1,h2⟩,h3⟩,h4⟩,h5⟩:=h
 refine⟨fun j o cs b hj=>Region.noSelect_spec h1 j o cs b hj,fun b ob hb e he hbi=>?_,fun b a hb ha=>?_,fun k o hk hn i hki o' hi t ht=>?_,fun k hk=>?_⟩
 ·exact(BM h2 hb).1 e he hbi
 ·have:=(BM h2 (Array.getElem?_eq_getElem hb)).2 a ha
  simpa using this
 ·have hkl:k<ops.size:=(Array.getElem?_eq_some_iff.1 hk).1
  have hil:i<ops.size:=(Array.getElem?_eq_some_iff.1 hi).1
  have key:((List.range ops.size).all fun i=>decide (i<k) || (match ops[i]? with|some o' => (match o'.dst with|some t => !(o.looksAt ops).contains t|none=>true)|none=>true))=true:=by
   rcases hn with hn|hn
   ·have:=h3 k hkl
    rw[hk] at this
    simpa [hn] using this
   ·have:=h4 k hn
    rw[hk] at this
    exact this
  simp only[List.all_eq_true,List.mem_range] at key
  have:=key i hil
  rw[hi] at this
  simp only[ht,Bool.or_eq_true,decide_eq_true_eq] at this
  rcases this with this|this
  ·omega
  ·simpa using this
 ·have hm:k∈fa:=by simpa using hk
  obtain⟨q1,q2⟩:=h5 k hm
  refine⟨by simpa using q1,fun o ho=>?_⟩
  rw[ho] at q2
  simpa using q2
theorem OkF.apart {fl fa:List Nat}{a b:Nat}{oa ob:Oper}(h:CF P ops fl fa a b=true)(ha:ops[a]? = some oa)(hb:ops[b]? = some ob):oa.apart ops ob=true:=by
 simp only[CF,ha,hb,Bool.and_eq_true] at h
 exact h.1
/-! ### The walk comes to an end -/
section
variable {B:Nat->Prop} {wS:World} {fl fa:List Nat} {m st:Nat}
theorem Wu {α : Type}{x a b : α}{l:List α}(h:x∈a::b::l):x∈b::a::l:=by
 rcases List.mem_cons.1 h with rfl|h
 ·exact List.mem_cons_of_mem _ List.mem_cons_self
 ·rcases List.mem_cons.1 h with rfl|h
  ·exact List.mem_cons_self
  ·exact List.mem_cons_of_mem _ (List.mem_cons_of_mem _ h)
theorem Nq {i:Nat}{l:List Nat}{o:Oper}(hi:ops[i]? = some o){a a1 a' : Act}(hR:Rch a o.dst a1)(ht:∀ t,(∀ j∈l,∀ o,ops[j]? = some o->o.dst≠some t)->a'.tmps[t]? = a1.tmps[t]?):
 ∀ t,(∀ j∈i::l,∀ o,ops[j]? = some o->o.dst≠some t)->a'.tmps[t]? = a.tmps[t]? :=fun t hn=>by
 obtain⟨v,ds,rfl⟩:=hR
 rw[ht t fun j hj o ho=>hn j (by simp[hj]) o ho]
 have:=hn i (by simp) _ hi
 cases hd:o.dst with
 | none=>rfl
 | some d =>
   have hne:d≠t:=fun e=>this (by rw[hd,e])
   simp[Act.put,Array.getElem?_setIfInBounds_ne hne]
theorem Bd.push {st:Nat}{iv:List (Nat × Nat)}{w w1:World}{lo:Nat}(h:Bd st iv w)(h1:w.heap.size<=w1.heap.size):Bd st ((lo,w1.heap.size)::iv) w1:=
 ⟨Nat.le_trans h.1 h1,fun x hx => by
   rcases List.mem_cons.1 hx with rfl|hx
   ·exact Nat.le_refl _
   ·exact Nat.le_trans (h.2 x hx) h1⟩
theorem Bd.off {st:Nat}{iv:List (Nat × Nat)}{w:World}{hi:Nat}(h:Bd st iv w):Off iv w.heap.size hi:=fun x hx=>.inr (h.2 x hx)
theorem Mw (hA:OkF P ops fl fa m):∀ (l:List Nat) (iv:List (Nat × Nat)) (wr:World) (a:Act) (w:World),(∀ i∈l,i<ops.size)->(l.any (fun x=>fa.contains x)=true->Bd st iv wr)->wpG P ops (Ac P ops B wS fl Q) (Same B wS) m fa st l iv wr a w->
 ∃ a',(FN P ops a' = true/\allIn B wS ops a' fl)/\∀ t,(∀ i∈l,∀ o,ops[i]? = some o->o.dst≠some t)->a'.tmps[t]? = a.tmps[t]?
 | [],iv,wr,a,w,_,_,h=>⟨a,⟨h.2.2.1,h.2.2.2.1⟩,fun _ _=>rfl⟩
 | i :: l,iv,wr,a,w,hl,hb,h => by
   have hQ:Di (Ac P ops B wS fl Q):=Ac.Br
   obtain⟨o,hi⟩:∃ o,ops[i]? = some o:=⟨_,Array.getElem?_eq_getElem (hl i (by simp))⟩
   cases h0:(i::l).any (fun x=>fa.contains x) with
   | false =>
     obtain⟨rfl,h'⟩:=(CV h0).1 h
     have h2:=Cc (fun e a w he=>Bz he) _ _ _ (Gy _ _ _ h')
     obtain⟨a',w',⟨_,hg,hin,_⟩,ht⟩:=fin (Q:=fun _ a w=>allIn B wS ops a fl/\Q .normal a w) (i::l) a w hl h2
     exact⟨a',⟨hg,hin⟩,ht⟩
   | true =>
     have hbd:=hb h0
     cases h1:fa.contains i with
     | true =>
       obtain⟨rfl,h'⟩:=(FD h1).1 h
       have hkd:=(hA.float i h1).2 o hi
       obtain⟨v,w1,hy,hK⟩:=Dn hQ hi (fun _=>FM hkd) (h' w hbd.1)
       have hb2:=hy.Uv hkd
       obtain⟨a',he,ht⟩:=Mw hA l _ w1 _ w1 (fun j hj=>hl j (by simp[hj])) (fun _=>hbd.push hb2.size) (hK w1 hb2 (Kept.refl _ _) hbd.off)
       exact⟨a',he,Nq hi (Rch.Gf a o.dst v) ht⟩
     | false =>
       cases h2:plain P ops i with
       | true =>
         obtain⟨a1,w1,hR,hK⟩:=EO hQ hi ((FZ h0 h1 h2).1 h)
         obtain⟨a',he,ht⟩:=Mw hA l iv wr a1 w1 (fun j hj=>hl j (by simp[hj])) (fun _=>hbd) hK
         exact⟨a',he,Nq hi hR ht⟩
       | false =>
         obtain⟨rfl,h'⟩:=(DU h0 h1 h2).1 h
         obtain⟨a1,w1,hR,_,hk,hK⟩:=EO hQ hi (h' w (Below.refl _ _))
         obtain⟨a',he,ht⟩:=Mw hA l _ w1 a1 w1 (fun j hj=>hl j (by simp[hj])) (fun _=>hbd.push hk.size) hK
         exact⟨a',he,Nq hi hR ht⟩
theorem II (hA:OkF P ops fl fa m){i:Nat}{oi:Oper}(hi:ops[i]? = some oi)(hif:fa.contains i=true){rest:List Nat} : ∀ (ks:List Nat) (iv:List (Nat × Nat)) (wr:World) (a:Act) (w:World),(∀ x∈ks++i::rest,x<ops.size)->(∀ k∈ks,CF P ops fl fa k i=true)->Bd st iv wr->
 wpG P ops (Ac P ops B wS fl Q) (Same B wS) m fa st (ks++i::rest) iv wr a w->∀ wq,st<=wq.heap.size->∃ v w1,Yl P ops oi a wq v w1
 | [],iv,wr,a,w,hl,hp,hbd,h => fun wq hwq => by
   obtain⟨rfl,h'⟩:=(FD hif).1 h
   obtain⟨v,w1,hy,_⟩:=Dn (Ac.Br) hi (fun _=>FM ((hA.float i hif).2 oi hi)) (h' wq hwq)
   exact⟨v,w1,hy⟩
 | k :: ks,iv,wr,a,w,hl,hp,hbd,h => fun wq hwq => by
   have hQ:Di (Ac P ops B wS fl Q):=Ac.Br
   obtain⟨ok,hk⟩:∃ o,ops[k]? = some o:=⟨_,Array.getElem?_eq_getElem (hl k (by simp))⟩
   have hap:=Oper.apart_spec (OkF.apart (hp k (by simp)) hk hi)
   have hsel:∀ cs b,oi.op≠.select cs b:=fun cs b=>hA.sel i oi cs b hi
   have h0:(k::(ks++i::rest)).any (fun x=>fa.contains x)=true:=by
    simp only[List.any_cons,List.any_append,hif,Bool.true_or,Bool.or_true]
   have back:∀ a1,Rch a ok.dst a1->(∃ v w1,Yl P ops oi a1 wq v w1)->∃ v w1,Yl P ops oi a wq v w1:=fun a1 hR ⟨v,w1,hy⟩=>by
    have he:=hR.exec (o:=oi) (ops:=ops) hsel hap.1
    exact⟨v,w1,hy.same ⟨he.1.symm,he.2.symm⟩⟩
   have hl' : ∀ x∈ks++i::rest,x<ops.size:=fun x hx=>hl x (by simp at hx ⊢;right;exact hx)
   have hp' : ∀ x∈ks,CF P ops fl fa x i=true:=fun x hx=>hp x (by simp[hx])
   have h:wpG P ops (Ac P ops B wS fl Q) (Same B wS) m fa st (k::(ks++i::rest)) iv wr a w:=h
   cases h1:fa.contains k with
   | true =>
     obtain⟨rfl,h'⟩:=(FD h1).1 h
     have hkd:=(hA.float k h1).2 ok hk
     obtain⟨v,w1,hy,hK⟩:=Dn hQ hk (fun _=>FM hkd) (h' w hbd.1)
     have hb2:=hy.Uv hkd
     exact back _ (Rch.Gf a ok.dst v) (II hA hi hif ks _ w1 _ w1 hl' hp' (hbd.push hb2.size) (hK w1 hb2 (Kept.refl _ _) hbd.off) wq hwq)
   | false =>
     cases h2:plain P ops k with
     | true =>
       obtain⟨a1,w1,hR,hK⟩:=EO hQ hk ((FZ h0 h1 h2).1 h)
       exact back _ hR (II hA hi hif ks iv wr a1 w1 hl' hp' hbd hK wq hwq)
     | false =>
       obtain⟨rfl,h'⟩:=(DU h0 h1 h2).1 h
       obtain⟨a1,w1,hR,_,hkp,hK⟩:=EO hQ hk (h' w (Below.refl _ _))
       exact back _ hR (II hA hi hif ks _ w1 a1 w1 hl' hp' (hbd.push hkp.size) hK wq hwq)
/-! ### Steps -/
theorem Gw (hA:OkF P ops fl fa m){k:Nat}{ok:Oper}{L:List Nat}{iv:List (Nat × Nat)}{a:Act}{w:World}(hk:ops[k]? = some ok)(hkp:plain P ops k=true)(hkf:fa.contains k=false)(hl:∀ x∈k::L,x<ops.size)(hs:(k::L).Pairwise (· < ·))
 (hS:Same B wS w) (hb:(k::L).any (fun x=>fa.contains x)=true->Bd st iv w) (h:wpG P ops (Ac P ops B wS fl Q) (Same B wS) m fa st (k::L) iv w a w):
 (∃ v,Yl P ops ok a w v w/\(∀ w2,More w w2->Yl P ops ok a w2 v w2)/\(kind P ok=0\/k∈fl->∀ w2,Same B wS w2->Yl P ops ok a w2 v w2)/\wpG P ops (Ac P ops B wS fl Q) (Same B wS) m fa st L iv w (a.put ok.dst v) w):=by
 obtain⟨a',⟨hg,hin⟩,ht⟩:=Mw hA (k::L) iv w a w hl hb h
 have hsame:needs ok=true\/k∈fl->∀ t,t∈ok.looksAt ops->a'.tmps[t]? = a.tmps[t]? :=fun hn t hm=>ht t fun j hj o' ho' e=>hA.keep k ok hk hn j (by
  rcases List.mem_cons.1 hj with h|h
  ·omega
  ·have:=(List.pairwise_cons.1 hs).1 j h;omega) o' ho' t e hm
 have hkd:kind P ok=0\/kind P ok=1:=by simpa [plain,hk] using hkp
 have hq0:kind P ok=0->Region.wanted ok (yielded ops a.tmps)=true->Quiet P (execOp a.eval ok):=fun h0=>QF hk h0 hg (fun hn=>hsame (.inl hn))
 have hre:Region.wanted ok (yielded ops a.tmps)=true->Reads P (execOp a.eval ok):=fun hw=>by
  rcases hkd with h0|h1
  ·intro n w w' hr
   obtain⟨q1,q2,q3⟩:=hq0 h0 hw n w w' hr
   exact⟨q1,q2,fun w2 _=>q3 w2⟩
  ·exact C8 h1
 have hcore:∃ v w',Yl P ops ok a w v w' /\ (∀ w'',w'' = w->w' = w'' -> wpG P ops (Ac P ops B wS fl Q) (Same B wS) m fa st L iv w (a.put ok.dst v) w''):=by
  cases h0:(k::L).any (fun x=>fa.contains x) with
  | false =>
    have hL:L.any (fun x=>fa.contains x)=false:=by
     simp only[List.any_cons,Bool.or_eq_false_iff] at h0
     exact h0.2
    obtain⟨_,h⟩:=(CV h0).1 h
    obtain⟨v,w',hy,hK⟩:=Dn Ac.Br hk (fun hw=>(hre hw).news) (show wpOp P ops _ k (fun a' w' => (k<m->Same B wS w')/\wpS P ops (Ac P ops B wS fl Q) (Same B wS) m L a' w') a w from h)
    refine⟨v,w',hy,fun w'' e1 e2=>(CV hL).2 ⟨e1,?_⟩⟩
    rw[<- e2]
    exact hK.2
  | true =>
    obtain⟨v,w',hy,hK⟩:=Dn Ac.Br hk (fun hw=>(hre hw).news) ((FZ h0 hkf hkp).1 h)
    exact⟨v,w',hy,fun w'' _ e2=>by rw[<- e2];exact hK⟩
 obtain⟨v,w',hy,hK⟩:=hcore
 obtain⟨rfl,hm⟩:=hy.reads hre
 refine⟨v,hy,hm,fun hc=>?_,hK _ rfl rfl⟩
 have hf:Region.wanted ok (yielded ops a.tmps)=true->Tx P (Same B wS) (execOp a.eval ok):=by
  rcases hc with hc|hc
  ·exact fun hw=>(hq0 hc hw).Ku
  ·rcases hkd with h0|h1
   ·exact fun hw=>(hq0 h0 hw).Ku
   ·exact YX hk h1 hc hin (hsame (.inr hc))
 exact(hy.Ku hS hf).2
theorem Kq {k:Nat}{ok:Oper}{L:List Nat}{iv:List (Nat × Nat)}{a:Act}{w:World}{v:Value}(hk:ops[k]? = some ok)(hkp:plain P ops k=true)(hkf:fa.contains k=false)(hS:Same B wS w)(hy:Yl P ops ok a w v w)
 (h:wpG P ops (Ac P ops B wS fl Q) (Same B wS) m fa st L iv w (a.put ok.dst v) w):wpG P ops (Ac P ops B wS fl Q) (Same B wS) m fa st (k::L) iv w a w:=by
 cases h0:(k::L).any (fun x=>fa.contains x) with
 | false =>
   have hL:L.any (fun x=>fa.contains x)=false:=by
    simp only[List.any_cons,Bool.or_eq_false_iff] at h0
    exact h0.2
   refine(CV h0).2 ⟨rfl,?_⟩
   show wpOp P ops _ k (fun a' w' => (k<m->Same B wS w')/\wpS P ops (Ac P ops B wS fl Q) (Same B wS) m L a' w') a w
   exact Yl.mk hk hy ⟨fun _=>hS,((CV hL).1 h).2⟩
 | true=>exact(FZ h0 hkf hkp).2 (Yl.mk hk hy h)
theorem Od {k:Nat}{L:List Nat}{iv:List (Nat × Nat)}{a:Act}{w:World}(hkp:plain P ops k=false)(hkf:fa.contains k=false)
 (h:∀ w',Grown w w' -> wpOp P ops (Ac P ops B wS fl Q) k (fun a1 w1=>Same B wS w1/\Kept st w' w1/\wpG P ops (Ac P ops B wS fl Q) (Same B wS) m fa st L ((w'.heap.size,w1.heap.size)::iv) w1 a1 w1) a w'):
 wpG P ops (Ac P ops B wS fl Q) (Same B wS) m fa st (k::L) iv w a w:=by
 cases h0:(k::L).any (fun x=>fa.contains x) with
 | false =>
   have hL:L.any (fun x=>fa.contains x)=false:=by
    simp only[List.any_cons,Bool.or_eq_false_iff] at h0
    exact h0.2
   refine(CV h0).2 ⟨rfl,?_⟩
   show wpOp P ops _ k (fun a' w' => (k<m->Same B wS w')/\wpS P ops (Ac P ops B wS fl Q) (Same B wS) m L a' w') a w
   exact wpOp_mono (fun a1 w1 hh=>⟨fun _=>hh.1,((CV hL).1 hh.2.2).2⟩) (h w (Below.refl _ _))
 | true=>exact(DU h0 hkf hkp).2 ⟨rfl,h⟩
theorem early (hA:OkF P ops fl fa m){i:Nat}{oi:Oper}(hi:ops[i]? = some oi)(hif:fa.contains i=true){rest:List Nat}{v:Value}{w0 w1:World}(hw0:st<=w0.heap.size):∀ (ks:List Nat) (iv:List (Nat × Nat)) (a:Act) (w:World),(∀ x∈ks++i::rest,x<ops.size)->(ks++i::rest).Pairwise (· < ·)->
 (∀ k∈ks,CF P ops fl fa k i=true)->Same B wS w->Bd st iv w->Yl P ops oi a w0 v w1->Kept w0.heap.size w1 w->Off iv w0.heap.size w1.heap.size->wpG P ops (Ac P ops B wS fl Q) (Same B wS) m fa st (ks++i::rest) iv w a w->
 wpG P ops (Ac P ops B wS fl Q) (Same B wS) m fa st (ks++rest) ((w0.heap.size,w1.heap.size)::iv) w (a.put oi.dst v) w
 | [],iv,a,w,hl,hs,hp,hS,hbd,hy,hkw,ho,h => by
   obtain⟨_,h⟩:=(FD hif).1 h
   obtain⟨v',w1',hy',hK⟩:=Dn Ac.Br hi (fun _=>FM ((hA.float i hif).2 oi hi)) (h w0 hw0)
   obtain⟨rfl,rfl⟩:=hy'.det hy
   exact hK w (Below.refl _ _) hkw ho
 | k :: ks,iv,a,w,hl,hs,hp,hS,hbd,hy,hkw,ho,h => by
   obtain⟨ok,hk⟩:∃ o,ops[k]? = some o:=⟨_,Array.getElem?_eq_getElem (hl k (by simp))⟩
   have hap:=Oper.apart_spec (OkF.apart (hp k (by simp)) hk hi)
   have GL:∀ cs b,oi.op≠.select cs b:=fun cs b=>hA.sel i oi cs b hi
   have Jg:∀ cs b,ok.op≠.select cs b:=fun cs b=>hA.sel k ok cs b hk
   have hds:∀ t,oi.dst=some t->ok.dst≠some t:=fun t ht hk' => hap.2.1 t hk' ht
   have hs':=List.pairwise_cons.1 hs
   have hl' : ∀ x∈ks++i::rest,x<ops.size:=fun x hx=>hl x (by simp at hx ⊢;right;exact hx)
   have hp' : ∀ x∈ks,CF P ops fl fa x i=true:=fun x hx=>hp x (by simp[hx])
   have h0:(k::(ks++i::rest)).any (fun x=>fa.contains x)=true:=by
    simp only[List.any_cons,List.any_append,hif,Bool.true_or,Bool.or_true]
   have h:wpG P ops (Ac P ops B wS fl Q) (Same B wS) m fa st (k::(ks++i::rest)) iv w a w:=h
   show wpG P ops (Ac P ops B wS fl Q) (Same B wS) m fa st (k::(ks++rest)) ((w0.heap.size,w1.heap.size)::iv) w (a.put oi.dst v) w
   cases h1:fa.contains k with
   | true =>
     obtain⟨_,h⟩:=(FD h1).1 h
     refine(FD h1).2 ⟨rfl,fun wk hwk=>Ij Ac.Br hk Jg hap.2.2 hds (h wk hwk) fun a1 w1k hR hK w' hg hkp hoff=>?_⟩
     have he:=hR.exec (o:=oi) (ops:=ops) GL hap.1
     have hx:=hoff (w0.heap.size,w1.heap.size) List.mem_cons_self
     have h3:=early hA hi hif hw0 ks ((wk.heap.size,w1k.heap.size)::iv) a1 w' hl' hs'.2 hp' (hS.more (Dx hg))
      ⟨Nat.le_trans hbd.1 hg.size,fun x hx => by
        rcases List.mem_cons.1 hx with rfl|hx
        ·exact hkp.size
        ·exact Nat.le_trans (hbd.2 x hx) hg.size⟩
      (hy.same he) (hkw.grown hg) (fun x hx' => by
        rcases List.mem_cons.1 hx' with rfl|hx'
        ·exact hx.symm
        ·exact ho x hx') (hK w' hg hkp fun x hx=>hoff x (List.mem_cons_of_mem _ hx))
     exact QG _ _ _ _ _ _ (fun x hx=>Wu hx) h3
   | false =>
     cases h2:plain P ops k with
     | true =>
       obtain⟨vk,hyk,hmk,_,hK⟩:=Gw hA hk h2 h1 hl hs hS (fun _=>hbd) h
       have he:=(Rch.Gf a ok.dst vk).exec (o:=oi) (ops:=ops) GL hap.1
       have hek:=(Rch.Gf a oi.dst v).exec (o:=ok) (ops:=ops) Jg hap.2.2
       have h3:=early hA hi hif hw0 ks iv (a.put ok.dst vk) w hl' hs'.2 hp' hS hbd (hy.same he) hkw ho hK
       refine Kq hk h2 h1 hS (hyk.same hek) ?_
       rw[Act.put_comm a v vk hds]
       exact h3
     | false =>
       obtain⟨_,h⟩:=(DU h0 h1 h2).1 h
       refine Od h2 h1 fun w' hg=>Ij Ac.Br hk Jg hap.2.2 hds (h w' hg) fun a1 w1k hR hK=>?_
       obtain⟨hS1,hkp,hK⟩:=hK
       have he:=hR.exec (o:=oi) (ops:=ops) GL hap.1
       have uG:=hkw.grown hg
       have h3:=early hA hi hif hw0 ks ((w'.heap.size,w1k.heap.size)::iv) a1 w1k hl' hs'.2 hp' hS1
        ⟨Nat.le_trans hbd.1 (Nat.le_trans hg.size hkp.size),fun x hx => by
          rcases List.mem_cons.1 hx with rfl|hx
          ·exact Nat.le_refl _
          ·exact Nat.le_trans (hbd.2 x hx) (Nat.le_trans hg.size hkp.size)⟩
        (hy.same he) (uG.kept hw0 hkp) (fun x hx' => by
          rcases List.mem_cons.1 hx' with rfl|hx'
          ·exact .inl uG.size
          ·exact ho x hx') hK
       exact⟨hS1,hkp,QG _ _ _ _ _ _ (fun x hx=>Wu hx) h3⟩
theorem Yn (hA:OkF P ops fl fa m){i:Nat}(him:i<m)(hif:fa.contains i=false){rest:List Nat} : ∀ (ks:List Nat) (a:Act) (w:World),(∀ k∈ks,fa.contains k=false)->Same B wS w->(∀ x∈ks++i::rest,x<ops.size)->(ks++i::rest).Pairwise (· < ·)->
 (∀ k∈ks,CF P ops fl fa k i=true)->wpS P ops (Ac P ops B wS fl Q) (Same B wS) m (ks++i::rest) a w->wpS P ops (Ac P ops B wS fl Q) (Same B wS) m (i::(ks++rest)) a w
 | [],_,_,_,_,_,_,_,h=>h
 | k :: ks,a,w,hkf,hS,hl,hs,hp,h => by
   have hs':=List.pairwise_cons.1 hs
   have h0:=Gy _ _ _ h
   have hki:k<i:=hs'.1 i (by simp)
   have h:wpOp P ops (Ac P ops B wS fl Q) k (fun a' w' => (k<m->Same B wS w')/\wpS P ops (Ac P ops B wS fl Q) (Same B wS) m (ks++i::rest) a' w') a w:=h
   have h1:wpOp P ops (Ac P ops B wS fl Q) k (fun a' w' => Same B wS w' /\ wpS P ops (Ac P ops B wS fl Q) (Same B wS) m (i::(ks++rest)) a' w') a w:=
    wpOp_mono (fun a' w' hh=>⟨hh.1 (by omega),Yn hA him hif ks a' w' (fun x hx=>hkf x (by simp[hx])) (hh.1 (by omega)) (fun x hx=>hl x (by simp at hx ⊢;right;exact hx)) hs'.2 (fun x hx=>hp x (by simp[hx])) hh.2⟩) h
   have hkl:k<ops.size:=hl k (by simp)
   have hil:i<ops.size:=hl i (by simp)
   obtain⟨ok,hk⟩:∃ o,ops[k]? = some o:=⟨_,Array.getElem?_eq_getElem hkl⟩
   obtain⟨oi,hi⟩:∃ o,ops[i]? = some o:=⟨_,Array.getElem?_eq_getElem hil⟩
   have hpk:=hp k (by simp)
   simp only[CF,hk,hi,hif,hkf k (by simp),if_false,Bool.false_eq_true,Bool.and_eq_true,Bool.or_eq_true,beq_iff_eq,List.contains_iff_mem] at hpk
   obtain⟨hap,hc⟩:=hpk
   have h2:wpOp P ops (Ac P ops B wS fl Q) k (fun a' w' => Same B wS w' /\ wpOp P ops (Ac P ops B wS fl Q) i (fun a'' w'' => Same B wS w'' /\ wpS P ops (Ac P ops B wS fl Q) (Same B wS) m (ks++rest) a'' w'') a' w') a w:=
    wpOp_mono (fun a' w' hh=>⟨hh.1,wpOp_mono (fun a'' w'' h3=>⟨h3.1 him,h3.2⟩) (show wpOp P ops _ i (fun a'' w'' => (i<m->Same B wS w'')/\wpS P ops _ (Same B wS) m (ks++rest) a'' w'') a' w' from hh.2)⟩) h1
   have ET:∀ x∈k::ks++i::rest,∀ o',ops[x]? = some o' -> (needs oi=true\/i∈fl)->∀ t,o'.dst=some t->t ∉ oi.looksAt ops:=fun x hx o' ho' hn t ht=>by
    by_cases hxi:i<=x
    ·exact hA.keep i oi hi hn x hxi o' ho' t ht
    ·have hxm : x ∈ k :: ks :=by
      rcases List.mem_append.1 hx with h|h
      ·exact h
      ·rcases List.mem_cons.1 h with h|h
       ·omega
       ·have:=(List.pairwise_append.1 hs).2.1
        have:=(List.pairwise_cons.1 this).1 x h
        omega
     exact(Oper.apart_spec (OkF.apart (hp x hxm) ho' hi)).1 t ht
   have EU:∀ x∈k::ks++i::rest,∀ o',ops[x]? = some o' -> (needs ok=true\/k∈fl)->∀ t,o'.dst=some t->t ∉ ok.looksAt ops:=fun x hx o' ho' hn t ht=>by
    refine hA.keep k ok hk hn x ?_ o' ho' t ht
    rcases List.mem_cons.1 hx with h|h
    ·omega
    ·have:=hs'.1 x h;omega
   have h0g:wpOps P ops (Ends P ops (fun _ a w=>allIn B wS ops a fl/\Q .normal a w)) (k::ks++i::rest) a w:=Cc (fun e a w he=>Bz he) _ _ _ h0
   have h3:=cO (S:=Same B wS) Ac.Br hk hi hap (fun cs b=>hA.sel k ok cs b hk) (fun cs b=>hA.sel i oi cs b hi) hS ?_ h2
   ·show wpOp P ops _ i (fun a' w' => (i<m->Same B wS w')/\wpS P ops _ (Same B wS) m (k::(ks++rest)) a' w') a w
    refine wpOp_mono (fun a' w' hh=>⟨fun _=>hh.1,?_⟩) h3
    show wpOp P ops _ k (fun a'' w'' => (k<m->Same B wS w'')/\wpS P ops _ (Same B wS) m (ks++rest) a'' w'') a' w'
    exact wpOp_mono (fun a'' w'' h4=>⟨fun _=>h4.1,h4.2⟩) hh.2
   ·rcases hc with (((hc|hc)|⟨hc1,hc2⟩)|⟨hc,hm⟩)|⟨hc,hm⟩
    ·have hq:=BK (l:=k::ks++i::rest) hl h0g hi hc fun hn x hx o' ho' t ht=>ET x hx o' ho' (.inl hn) t ht
     exact .inl ⟨fun hw=>(hq hw).Ku,fun hw=>(hq hw).news⟩
    ·have hq:=BK (l:=k::ks++i::rest) hl h0g hk hc fun hn x hx o' ho' t ht=>EU x hx o' ho' (.inl hn) t ht
     exact .inr (.inl ⟨fun hw=>(hq hw).Ku,fun hw=>(hq hw).news⟩)
    ·exact .inr (.inr ⟨fun _=>C8 hc1,fun _=>Cy (.inl hc2)⟩)
    ·exact .inr (.inl ⟨Hl (l:=k::ks++i::rest) hl h0 hk hc hm fun x hx o' ho' t ht=>EU x hx o' ho' (.inr hm) t ht,fun _=>Cy (.inl hc)⟩)
    ·exact .inl ⟨Hl (l:=k::ks++i::rest) hl h0 hi hc hm fun x hx o' ho' t ht=>ET x hx o' ho' (.inr hm) t ht,fun _=>Cy (.inl hc)⟩
theorem OL {l:List Nat}(h:l.any (fun x=>fa.contains x)=false):∀ x∈l,fa.contains x=false:=by
 intro x hx
 have:=List.any_eq_false.1 h x hx
 simpa using this
theorem YZ {l l' : List Nat}(hs:∀ x∈l',x∈l)(h:l.any (fun x=>fa.contains x)=false):l'.any (fun x=>fa.contains x)=false:=
 List.any_eq_false.2 fun x hx=>by rw[OL h x (hs x hx)];decide
theorem QI (hA:OkF P ops fl fa m){i:Nat}{oi:Oper}(hi:ops[i]? = some oi)(hip:plain P ops i=true)(hif:fa.contains i=false){rest:List Nat} : ∀ (ks:List Nat) (iv:List (Nat × Nat)) (a:Act) (w:World),(∀ x∈ks++i::rest,x<ops.size)->(ks++i::rest).Pairwise (· < ·)->
 (∀ k∈ks,i<m/\CF P ops fl fa k i=true)->Same B wS w->((ks++i::rest).any (fun x=>fa.contains x)=true->Bd st iv w)->wpG P ops (Ac P ops B wS fl Q) (Same B wS) m fa st (ks++i::rest) iv w a w->
 ∃ v,Yl P ops oi a w v w/\((∀ k∈ks,plain P ops k=true)\/(∀ w2,Same B wS w2->Yl P ops oi a w2 v w2))/\wpG P ops (Ac P ops B wS fl Q) (Same B wS) m fa st (ks++rest) iv w (a.put oi.dst v) w
 | [],iv,a,w,hl,hs,hp,hS,hbd,h => by
   obtain⟨v,hy,_,_,hK⟩:=Gw hA hi hip hif hl hs hS hbd h
   exact⟨v,hy,.inl (fun k hk=>by cases hk),hK⟩
 | k :: ks,iv,a,w,hl,hs,hp,hS,hbd,h => by
   obtain⟨ok,hk⟩:∃ o,ops[k]? = some o:=⟨_,Array.getElem?_eq_getElem (hl k (by simp))⟩
   obtain⟨him,hpk⟩:=hp k (by simp)
   have hap:=Oper.apart_spec (OkF.apart hpk hk hi)
   have GL:∀ cs b,oi.op≠.select cs b:=fun cs b=>hA.sel i oi cs b hi
   have Jg:∀ cs b,ok.op≠.select cs b:=fun cs b=>hA.sel k ok cs b hk
   have hds:∀ t,oi.dst=some t->ok.dst≠some t:=fun t ht hk' => hap.2.1 t hk' ht
   have hs':=List.pairwise_cons.1 hs
   have hl' : ∀ x∈ks++i::rest,x<ops.size:=fun x hx=>hl x (by simp at hx ⊢;right;exact hx)
   have hp' : ∀ x∈ks,i<m/\CF P ops fl fa x i=true:=fun x hx=>hp x (by simp[hx])
   have h:wpG P ops (Ac P ops B wS fl Q) (Same B wS) m fa st (k::(ks++i::rest)) iv w a w:=h
   have hbd:(k::(ks++i::rest)).any (fun x=>fa.contains x)=true->Bd st iv w:=hbd
   obtain⟨a',⟨hg,hin⟩,ht⟩:=Mw hA (k::(ks++i::rest)) iv w a w hl hbd h
   have hsame:needs oi=true\/i∈fl->∀ t,t∈oi.looksAt ops->a'.tmps[t]? = a.tmps[t]? :=fun hn t hm=>ht t fun j hj o' ho' e=>by
    by_cases hij:i<=j
    ·exact hA.keep i oi hi hn j hij o' ho' t e hm
    ·have hxm : j ∈ k :: ks :=by
      rcases List.mem_append.1 (show j∈(k::ks)++i::rest from hj) with h|h
      ·exact h
      ·rcases List.mem_cons.1 h with h|h
       ·omega
       ·have:=(List.pairwise_append.1 (show((k::ks)++i::rest).Pairwise (· < ·) from hs)).2.1
        have:=(List.pairwise_cons.1 this).1 j h
        omega
     exact(Oper.apart_spec (OkF.apart (hp j hxm).2 ho' hi)).1 t e hm
   have uH:kind P oi=0\/(kind P oi=1/\i∈fl)->Region.wanted oi (yielded ops a.tmps)=true->Tx P (Same B wS) (execOp a.eval oi):=fun hc=>by
    rcases hc with hc|⟨hc,hm⟩
    ·exact fun hw=>(QF hi hc hg (fun hn=>hsame (.inl hn)) hw).Ku
    ·exact YX hi hc hm hin (hsame (.inr hm))
   show ∃ v,Yl P ops oi a w v w/\((∀ x∈k::ks,plain P ops x=true)\/(∀ w2,Same B wS w2->Yl P ops oi a w2 v w2))/\wpG P ops (Ac P ops B wS fl Q) (Same B wS) m fa st (k::(ks++rest)) iv w (a.put oi.dst v) w
   cases h2:plain P ops k with
   | true =>
     cases h1:fa.contains k with
     | true =>
       exfalso
       have:=(hA.float k h1).2 ok hk
       simp only[plain,hk,this] at h2
       exact absurd h2 (by decide)
     | false =>
       obtain⟨vk,hyk,hmk,hfk,hK⟩:=Gw hA hk h2 h1 hl hs hS hbd h
       have he:=(Rch.Gf a ok.dst vk).exec (o:=oi) (ops:=ops) GL hap.1
       have yH : (ks++i::rest).any (fun x=>fa.contains x)=true->Bd st iv w:=fun hx=>hbd (by simp only[List.any_cons,hx,Bool.or_true])
       obtain⟨v,hy,hc,h3⟩:=QI hA hi hip hif ks iv (a.put ok.dst vk) w hl' hs'.2 hp' hS yH hK
       have hy':=hy.same ⟨he.1.symm,he.2.symm⟩
       have hek:=(Rch.Gf a oi.dst v).exec (o:=ok) (ops:=ops) Jg hap.2.2
       refine⟨v,hy',?_,Kq hk h2 h1 hS (hyk.same hek) (by rw[Act.put_comm a v vk hds];exact h3)⟩
       rcases hc with hc|hc
       ·exact .inl fun x hx => by
         rcases List.mem_cons.1 hx with rfl|hx
         ·exact h2
         ·exact hc x hx
       ·exact .inr fun w2 hw2=>(hc w2 hw2).same ⟨he.1.symm,he.2.symm⟩
   | false =>
     have hkd:¬ (kind P ok=0)/\¬ (kind P ok=1):=by simpa [plain,hk] using h2
     have hci:kind P oi=0\/(kind P oi=1/\i∈fl):=by
      simp only[CF,hk,hi,hif,if_false,Bool.false_eq_true,Bool.and_eq_true,Bool.or_eq_true,beq_iff_eq,List.contains_iff_mem,hkd.1,hkd.2,or_false,false_and,and_false,false_or] at hpk
      have:=hpk.2
      split at this
      ·simpa using this
      ·simpa [hkd.1,hkd.2] using this
     have hF:=uH hci
     cases h0:(k::(ks++i::rest)).any (fun x=>fa.contains x) with
     | false =>
       have hsub:∀ x∈k::(ks++rest),x∈k::(ks++i::rest):=fun x hx=>by simp at hx ⊢;rcases hx with h|h|h<;>simp[h]
       obtain⟨_,h⟩:=(CV h0).1 h
       have h4:=Yn hA him hif (k::ks) a w (fun x hx=>OL h0 x (by simp at hx ⊢;rcases hx with h|h<;>simp[h])) hS hl hs (fun x hx=>(hp x hx).2) h
       obtain⟨v,w',hy,hK⟩:=Dn Ac.Br hi (fun hw n w w' hr=>by
        rcases hci with hc|⟨hc,_⟩
        ·exact(QF hi hc hg (fun hn=>hsame (.inl hn)) hw).news n w w' hr
        ·exact(C8 hc).news n w w' hr) (show wpOp P ops _ i (fun a' w' => (i<m->Same B wS w')/\wpS P ops (Ac P ops B wS fl Q) (Same B wS) m (k::(ks++rest)) a' w') a w from h4)
       obtain⟨rfl,hall⟩:=hy.Ku hS hF
       exact⟨v,hy,.inr hall,(CV (YZ hsub h0)).2 ⟨rfl,hK.2⟩⟩
     | true =>
       have Ia:=hbd h0
       have move:∀ {v:Value} (hall:∀ w2,Same B wS w2->Yl P ops oi a w2 v w2) (a1:Act) (w' : World) (iv' : List (Nat × Nat)),Rch a ok.dst a1->Same B wS w' -> Bd st iv' w' -> wpG P ops (Ac P ops B wS fl Q) (Same B wS) m fa st (ks++i::rest) iv' w' a1 w' ->
        wpG P ops (Ac P ops B wS fl Q) (Same B wS) m fa st (ks++rest) iv' w' (a1.put oi.dst v) w':=fun {v} hall a1 w' iv' hR hS' hb' hK=>by
        obtain⟨v',hy',_,h3⟩:=QI hA hi hip hif ks iv' a1 w' hl' hs'.2 hp' hS' (fun _=>hb') hK
        have he:=hR.exec (o:=oi) (ops:=ops) GL hap.1
        obtain⟨rfl,_⟩:=hy'.det ((hall w' hS').same he)
        exact h3
       cases h1:fa.contains k with
       | true =>
         obtain⟨_,h⟩:=(FD h1).1 h
         obtain⟨vk,wk,hyk,hK⟩:=Dn Ac.Br hk (fun _=>FM ((hA.float k h1).2 ok hk)) (h w Ia.1)
         have hgk:=hyk.Uv ((hA.float k h1).2 ok hk)
         have hSk:=hS.more (Dx hgk)
         obtain⟨v,hy,_,_⟩:=QI hA hi hip hif ks _ (a.put ok.dst vk) wk hl' hs'.2 hp' hSk (fun _=>Ia.push hgk.size) (hK wk hgk (Kept.refl _ _) Ia.off)
         have he:=(Rch.Gf a ok.dst vk).exec (o:=oi) (ops:=ops) GL hap.1
         obtain⟨_,hall⟩:=(hy.same ⟨he.1.symm,he.2.symm⟩).Ku hSk hF
         refine⟨v,hall w hS,.inr hall,(FD h1).2 ⟨rfl,fun w0 hw0=>Ij Ac.Br hk Jg hap.2.2 hds (h w0 hw0) fun a1 w1 hR hK w' hg hkp hoff=>?_⟩⟩
         refine move hall a1 w' _ hR (hS.more (Dx hg)) ⟨Nat.le_trans Ia.1 hg.size,fun x hx=>?_⟩ (hK w' hg hkp hoff)
         rcases List.mem_cons.1 hx with rfl|hx
         ·exact hkp.size
         ·exact Nat.le_trans (Ia.2 x hx) hg.size
       | false =>
         obtain⟨_,h⟩:=(DU h0 h1 h2).1 h
         obtain⟨a1,w1,hR,hS1,hkp,hK⟩:=EO Ac.Br hk (h w (Below.refl _ _))
         obtain⟨v,hy,_,_⟩:=QI hA hi hip hif ks _ a1 w1 hl' hs'.2 hp' hS1 (fun _=>Ia.push hkp.size) hK
         have he:=hR.exec (o:=oi) (ops:=ops) GL hap.1
         obtain⟨_,hall⟩:=(hy.same ⟨he.1.symm,he.2.symm⟩).Ku hS1 hF
         refine⟨v,hall w hS,.inr hall,Od h2 h1 fun w' hg=>Ij Ac.Br hk Jg hap.2.2 hds (h w' hg) fun a1 w1 hR hK=>?_⟩
         obtain⟨hS1,hkp,hK⟩:=hK
         refine⟨hS1,hkp,move hall a1 w1 _ hR hS1 ⟨Nat.le_trans Ia.1 (Nat.le_trans hg.size hkp.size),fun x hx=>?_⟩ hK⟩
         rcases List.mem_cons.1 hx with rfl|hx
         ·exact Nat.le_refl _
         ·exact Nat.le_trans (Ia.2 x hx) (Nat.le_trans hg.size hkp.size)
theorem gq (hA:OkF P ops fl fa m){i:Nat}{oi:Oper}(hi:ops[i]? = some oi)(hip:plain P ops i=false)(hif:fa.contains i=false){rest:List Nat}(hrest:rest.any (fun x=>fa.contains x)=true):∀ (ks:List Nat) (iv:List (Nat × Nat)) (a:Act) (w:World),(∀ x∈ks++i::rest,x<ops.size)->(ks++i::rest).Pairwise (· < ·)->
 (∀ k∈ks,CF P ops fl fa k i=true)->Same B wS w->Bd st iv w->wpG P ops (Ac P ops B wS fl Q) (Same B wS) m fa st (ks++i::rest) iv w a w->
 wpOp P ops (Ac P ops B wS fl Q) i (fun a1 w1=>Same B wS w1/\Kept st w w1/\wpG P ops (Ac P ops B wS fl Q) (Same B wS) m fa st (ks++rest) ((w.heap.size,w1.heap.size)::iv) w1 a1 w1) a w
 | [],iv,a,w,hl,hs,hp,hS,hbd,h=>((DU (by simp only[List.any_cons,hrest,Bool.or_true]) hif hip).1 h).2 w (Below.refl _ _)
 | k :: ks,iv,a,w,hl,hs,hp,hS,hbd,h => by
   obtain⟨ok,hk⟩:∃ o,ops[k]? = some o:=⟨_,Array.getElem?_eq_getElem (hl k (by simp))⟩
   have hpk:=hp k (by simp)
   have hap:=Oper.apart_spec (OkF.apart hpk hk hi)
   have GL:∀ cs b,oi.op≠.select cs b:=fun cs b=>hA.sel i oi cs b hi
   have Jg:∀ cs b,ok.op≠.select cs b:=fun cs b=>hA.sel k ok cs b hk
   have hs':=List.pairwise_cons.1 hs
   have hkd:¬ (kind P oi=0)/\¬ (kind P oi=1):=by simpa [plain,hi] using hip
   have hc:fa.contains k=false/\(kind P ok=0\/(kind P ok=1/\k∈fl)):=by
    simp only[CF,hk,hi,hif,if_false,Bool.false_eq_true,Bool.and_eq_true,Bool.or_eq_true,beq_iff_eq,List.contains_iff_mem,hkd.1,hkd.2,or_false,false_and,and_false,false_or] at hpk
    have:=hpk.2
    cases hfk:fa.contains k with
    | true=>rw[if_pos (by simpa using hfk)] at this;simp[hkd.1,hkd.2] at this
    | false =>
      rw[if_neg (by simpa using hfk)] at this
      exact⟨rfl,by simpa [hkd.1,hkd.2] using this⟩
   have hkp:plain P ops k=true:=by
    simp only[plain,hk,Bool.or_eq_true,beq_iff_eq]
    rcases hc.2 with h|h
    ·exact .inl h
    ·exact .inr h.1
   obtain⟨vk,hyk,_,hfk,hK⟩:=Gw hA hk hkp hc.1 hl hs hS (fun _=>hbd) h
   have hall :=hfk (by rcases hc.2 with h | h
                       ·exact .inl h
                       ·exact .inr h.2)
   have h3:=gq hA hi hip hif hrest ks iv (a.put ok.dst vk) w (fun x hx=>hl x (by simp at hx ⊢;right;exact hx)) hs'.2 (fun x hx=>hp x (by simp[hx])) hS hbd hK
   refine Pf Ac.Br hi GL hap.1 hap.2.1 h3 fun a1 w1 hR hK1=>?_
   have he:=hR.exec (o:=ok) (ops:=ops) Jg hap.2.2
   exact⟨hK1.1,hK1.2.1,Kq hk hkp hc.1 hK1.1 ((hall w1 hK1.1).same he) hK1.2.2⟩
theorem Wv (hA:OkF P ops fl fa m):∀ (l:List Nat) (iv:List (Nat × Nat)) (a:Act) (w w2:World),(∀ x∈l,x<ops.size)->l.Pairwise (· < ·)->Same B wS w->(l.any (fun x=>fa.contains x)=true->Bd st iv w)->Grown w w2->l.any (fun x=>fa.contains x)=true->
 wpG P ops (Ac P ops B wS fl Q) (Same B wS) m fa st l iv w a w->wpG P ops (Ac P ops B wS fl Q) (Same B wS) m fa st l iv w2 a w2
 | [],iv,a,w,w2,_,_,_,_,_,h0,_=>by cases h0
 | k :: l,iv,a,w,w2,hl,hs,hS,hbd,hg,h0,h => by
   obtain⟨ok,hk⟩:∃ o,ops[k]? = some o:=⟨_,Array.getElem?_eq_getElem (hl k (by simp))⟩
   cases h1:fa.contains k with
   | true =>
     obtain⟨_,h⟩:=(FD h1).1 h
     exact(FD h1).2 ⟨rfl,fun w0 hw0=>wpOp_mono (fun a1 w1 hh w' hg' hkp ho=>hh w' (hg.trans (hg'.mono hg.size)) hkp ho) (h w0 hw0)⟩
   | false =>
     cases h2:plain P ops k with
     | true =>
       obtain⟨v,hy,hm,_,hK⟩:=Gw hA hk h2 h1 hl hs hS hbd h
       have hL:l.any (fun x=>fa.contains x)=true:=by rw[List.any_cons,h1,Bool.false_or] at h0;exact h0
       exact Kq hk h2 h1 (hS.more (Dx hg)) (hm w2 (Dx hg)) (Wv hA l iv _ w w2 (fun x hx=>hl x (by simp[hx])) (List.pairwise_cons.1 hs).2 hS (fun _=>hbd h0) hg hL hK)
     | false =>
       obtain⟨_,h⟩:=(DU h0 h1 h2).1 h
       exact(DU h0 h1 h2).2 ⟨rfl,fun w' hg' => h w' (hg.trans (hg'.mono hg.size))⟩
/-! ### Any order -/
theorem Ww (hA:OkF P ops fl fa m):∀ (fuel:Nat) (l:List Nat) (listed:Array Bool) (iv:List (Nat × Nat)) (a:Act) (w:World),l.length=fuel->listed.size=ops.size->Closed ops listed->
 l.Pairwise (· < ·)->(∀ x,x∈l↔x<ops.size/\listed.getD x false=false)->((∃ x∈l,x<m)->Same B wS w)->(l.any (fun x=>fa.contains x)=true->Bd st iv w)->wpG P ops (Ac P ops B wS fl Q) (Same B wS) m fa st l iv w a w->wpAny P .any ops (Ac P ops B wS fl Q) fuel listed a w
 | 0,l,listed,iv,a,w,hlen,hsz,hcl,hs,hm,_,_,h => by
   have hl0:l=[]:=List.eq_nil_of_length_eq_zero hlen
   subst hl0
   refine⟨?_,h.2⟩
   refine List.eq_nil_iff_forall_not_mem.2 fun j hj=>?_
   obtain⟨h0,o,ho,_⟩:=mem_ready.1 hj
   have hjl:j<ops.size:=(Array.getElem?_eq_some_iff.1 ho).1
   have:=(hm j).2 ⟨hjl,getD_both h0⟩
   cases this
 | fuel + 1,l,listed,iv,a,w,hlen,hsz,hcl,hs,hm,hSl,hbd,h => by
   have both:∀ x,x<ops.size->listed.getD x false=false->listed.getD x true=false:=fun x hx hf=>getD_in (by omega) hf
   refine⟨fun hr=>?_,fun i hi=>?_⟩
   ·exfalso
    cases l with
    | nil=>cases hlen
    | cons k l =>
      have hm0:=(hm k).1 (by simp)
      obtain⟨o,ho⟩:∃ o,ops[k]? = some o:=⟨_,Array.getElem?_eq_getElem hm0.1⟩
      have:k∈Region.ready .any ops listed:=mem_ready.2 ⟨both k hm0.1 hm0.2,o,ho,fun e he hb=>by
       have hlt:=hA.top k o ho e he hb
       cases hx:listed.getD e.on false with
       | true=>rfl
       | false =>
         have hin:=(hm e.on).2 ⟨by omega,hx⟩
         rcases List.mem_cons.1 hin with h1|h1
         ·omega
         ·have:=(List.pairwise_cons.1 hs).1 _ h1
          omega⟩
      rw[hr] at this
      cases this
   ·obtain⟨hun,oi,hoi,hall⟩:=mem_ready.1 hi
    have hil:i<ops.size:=(Array.getElem?_eq_some_iff.1 hoi).1
    have hin:i∈l:=(hm i).2 ⟨hil,getD_both hun⟩
    obtain⟨ks,rest,rfl⟩:=List.append_of_mem hin
    have hpw:=List.pairwise_append.1 hs
    have hlt:∀ x∈ks++i::rest,x<ops.size:=fun x hx=>((hm x).1 hx).1
    have hks:∀ k∈ks,i<m/\CF P ops fl fa k i=true:=fun k hk=>by
     have hki:k<i:=hpw.2.2 k hk i (by simp)
     rcases hA.pair i k hil hki with hw|hp
     ·have:=CZ hcl ops.size i k oi hoi hall hw
      have hk2:=((hm k).1 (by simp[hk])).2
      rw[hk2] at this
      cases this
     ·exact hp
    have hfr:wpOp P ops (Ac P ops B wS fl Q) i (fun a' w' => (i<m->Same B wS w')/\∃ iv',((ks++rest).any (fun x=>fa.contains x)=true->Bd st iv' w')/\wpG P ops (Ac P ops B wS fl Q) (Same B wS) m fa st (ks++rest) iv' w' a' w') a w:=by
     cases h0:(ks++i::rest).any (fun x=>fa.contains x) with
     | false =>
       obtain⟨_,h⟩:=(CV h0).1 h
       have hn:(ks++rest).any (fun x=>fa.contains x)=false:=YZ (fun x hx=>by simp at hx ⊢;rcases hx with h|h<;>simp[h]) h0
       have h4:wpS P ops (Ac P ops B wS fl Q) (Same B wS) m (i::(ks++rest)) a w:=by
        cases ks with
        | nil=>exact h
        | cons k ks =>
          have him:=(hks k (by simp)).1
          exact Yn hA him (OL h0 i (by simp)) (k::ks) a w (fun x hx=>OL h0 x (by simp at hx ⊢;rcases hx with h|h<;>simp[h])) (hSl ⟨i,hin,him⟩) hlt hs (fun x hx=>(hks x hx).2) h
       exact wpOp_mono (fun a1 w1 hh=>⟨hh.1,iv,(fun hx=>by rw[hn] at hx;cases hx),(CV hn).2 ⟨rfl,hh.2⟩⟩) (show wpOp P ops _ i (fun a' w' => (i<m->Same B wS w')/\wpS P ops (Ac P ops B wS fl Q) (Same B wS) m (ks++rest) a' w') a w from h4)
     | true =>
       have Ia:=hbd h0
       have hmem:∃ x∈ks++i::rest,x<m:=by
        obtain⟨x,hx,hxf⟩:=List.any_eq_true.1 h0
        exact⟨x,hx,(hA.float x hxf).1⟩
       have hS:=hSl hmem
       cases hif:fa.contains i with
       | true =>
         obtain⟨v,w1,hy⟩:=II hA hoi hif ks iv w a w hlt (fun k hk=>(hks k hk).2) Ia h w Ia.1
         have hg:=hy.Uv ((hA.float i hif).2 oi hoi)
         refine Yl.mk hoi hy ⟨fun _=>hS.more (Dx hg),(w.heap.size,w1.heap.size)::iv,fun _=>Ia.push hg.size,?_⟩
         have grow:wpG P ops (Ac P ops B wS fl Q) (Same B wS) m fa st (ks++i::rest) iv w1 a w1:=Wv hA (ks++i::rest) iv a w w1 hlt hs hS (fun _=>Ia) hg h0 h
         exact early hA hoi hif Ia.1 ks iv a w1 hlt hs (fun k hk=>(hks k hk).2) (hS.more (Dx hg)) ⟨Nat.le_trans Ia.1 hg.size,fun x hx=>Nat.le_trans (Ia.2 x hx) hg.size⟩ hy (Kept.refl _ _) Ia.off grow
       | false =>
         cases hip:plain P ops i with
         | true =>
           obtain⟨v,hy,_,hK⟩:=QI hA hoi hip hif ks iv a w hlt hs hks hS hbd h
           exact Yl.mk hoi hy ⟨fun _=>hS,iv,fun _=>Ia,hK⟩
         | false =>
           have hrest:rest.any (fun x=>fa.contains x)=true:=by
            have hkn:∀ k∈ks,fa.contains k=false:=fun k hk=>by
             obtain⟨ok,hok⟩:∃ o,ops[k]? = some o:=⟨_,Array.getElem?_eq_getElem (hlt k (by simp[hk]))⟩
             have hpk:=(hks k hk).2
             have hkd:¬ (kind P oi=0)/\¬ (kind P oi=1):=by simpa [plain,hoi] using hip
             cases hfk:fa.contains k with
             | false=>rfl
             | true =>
               simp only[CF,hok,hoi,hif,if_false,Bool.false_eq_true,Bool.and_eq_true,Bool.or_eq_true,beq_iff_eq,List.contains_iff_mem,hkd.1,hkd.2,or_false,false_and,and_false,false_or] at hpk
               have:=hpk.2
               rw[if_pos (by simpa using hfk)] at this
               simp[hkd.1,hkd.2] at this
            obtain⟨x,hx,hxf⟩:=List.any_eq_true.1 h0
            refine List.any_eq_true.2 ⟨x,?_,hxf⟩
            rcases List.mem_append.1 hx with h1|h1
            ·rw[hkn x h1] at hxf;cases hxf
            ·rcases List.mem_cons.1 h1 with rfl|h1
             ·rw[hif] at hxf;cases hxf
             ·exact h1
           refine wpOp_mono (fun a1 w1 hh=>⟨fun _=>hh.1,_,fun _=>Ia.push hh.2.1.size,hh.2.2⟩) (gq hA hoi hip hif hrest ks iv a w hlt hs (fun k hk=>(hks k hk).2) hS Ia h)
    refine wpOp_mono (fun a' w' hh=>?_) hfr
    obtain⟨hS',iv',hb',hK⟩:=hh
    refine Ww hA fuel (ks++rest) _ iv' a' w' (by simp at hlen ⊢;omega) (by simp[hsz]) ?_ ?_ ?_ ?_ hb' hK
    ·intro j o ho hl e he hb
     by_cases hij:i=j
     ·subst hij
      have:o=oi:=Option.some.inj (ho.symm.trans hoi)
      subst this
      exact getD_set_true (hall e he hb)
     ·refine getD_set_true (hcl j o ho ?_ e he hb)
      rw[getD_set_ne false (by exact hij)] at hl
      exact hl
    ·exact List.pairwise_append.2 ⟨hpw.1,(List.pairwise_cons.1 hpw.2.1).2,fun x hx y hy=>hpw.2.2 x hx y (by simp[hy])⟩
    ·intro x
     have hx:=hm x
     have hne:x∈ks++rest->i≠x:=by
      intro hxm e
      subst e
      rcases List.mem_append.1 hxm with h1|h1
      ·have:=hpw.2.2 i h1 i (by simp)
       omega
      ·have:=(List.pairwise_cons.1 hpw.2.1).1 i h1
       omega
     constructor
     ·intro hxm
      have h1:=hx.1 (by simp at hxm ⊢;rcases hxm with h|h<;>simp[h])
      exact⟨h1.1,by rw[getD_set_ne false (hne hxm)];exact h1.2⟩
     ·rintro⟨h1,h2⟩
      by_cases hix:i=x
      ·subst hix
       simp[hsz,h1] at h2
      ·rw[getD_set_ne false hix] at h2
       have:=hx.2 ⟨h1,h2⟩
       simp at this ⊢
       rcases this with h|h|h
       ·exact .inl h
       ·exact absurd h.symm hix
       ·exact .inr h
    ·rintro⟨x,hx,hxm⟩
     refine hS' ?_
     rcases List.mem_append.1 hx with h1|h1
     ·exact(hks x h1).1
     ·have:=(List.pairwise_cons.1 hpw.2.1).1 x h1
      omega
/-! ### The walk in pieces -/
theorem upS (hA:OkF P ops fl fa m):∀ (l:List Nat) (a:Act) (w:World),(∀ x∈l,x<ops.size)->l.Pairwise (· < ·)->((∃ x∈l,x<m)->Same B wS w)->
 wpC P ops (Ac P ops B wS fl Q) (Same B wS) m l a w->wpS P ops (Ac P ops B wS fl Q) (Same B wS) m l a w
 | [],_,_,_,_,_,h=>h
 | i :: l,a,w,hl,hs,hS,h => by
   have h0:=OE _ _ _ h
   have hs':=List.pairwise_cons.1 hs
   obtain⟨o,hi⟩:∃ o,ops[i]? = some o:=⟨_,Array.getElem?_eq_getElem (hl i (by simp))⟩
   have h:wpOp P ops (Ac P ops B wS fl Q) i (fun a' w' => (i<m->wild P ops i=true->Same B wS w')/\wpC P ops (Ac P ops B wS fl Q) (Same B wS) m l a' w') a w:=h
   show wpOp P ops (Ac P ops B wS fl Q) i (fun a' w' => (i<m->Same B wS w')/\wpS P ops (Ac P ops B wS fl Q) (Same B wS) m l a' w') a w
   have Po:∀ a' w',(i<m->Same B wS w')->wpC P ops (Ac P ops B wS fl Q) (Same B wS) m l a' w' -> wpS P ops (Ac P ops B wS fl Q) (Same B wS) m l a' w':=fun a' w' hS' hh=>
    upS hA l a' w' (fun x hx=>hl x (by simp[hx])) hs'.2 (fun⟨x,hx,hxm⟩=>hS' (by have:=hs'.1 x hx;omega)) hh
   by_cases him:i<m
   ·have hSw:=hS ⟨i,by simp,him⟩
    by_cases hwd:wild P ops i=true
    ·exact wpOp_mono (fun a' w' hh=>⟨fun hm=>hh.1 hm hwd,Po a' w' (fun hm=>hh.1 hm hwd) hh.2⟩) h
    ·have hn : Region.wanted o (yielded ops a.tmps) = true → LB P (execOp a.eval o) :=by
      simp only[wild,hi,Bool.and_eq_true,bne_iff_ne,ne_eq,not_and,Classical.not_not] at hwd
      intro hw
      by_cases h0k:kind P o=0
      ·have h0g:wpOps P ops (Ends P ops (fun _ a w=>allIn B wS ops a fl/\Q .normal a w)) (i::l) a w:=Cc (fun e a w he=>Bz he) _ _ _ h0
       exact(BK hl h0g hi h0k (fun hn x hx o' ho' t ht=>hA.keep i o hi (.inl hn) x (by
        rcases List.mem_cons.1 hx with h|h
        ·omega
        ·have:=hs'.1 x h;omega) o' ho' t ht) hw).news
      ·by_cases h1k:kind P o=1
       ·exact(C8 h1k).news
       ·exact FM (hwd ⟨h0k,h1k⟩)
     obtain⟨v,w',hy,hc,hh⟩:=Dn Ac.Br hi hn h
     have UY : Same B wS w':=hSw.more (hy.more hn)
     exact Yl.mk hi hy ⟨fun _=>UY,Po _ _ (fun _=>UY) hh⟩
   ·exact wpOp_mono (fun a' w' hh=>⟨fun hm=>absurd hm him,Po a' w' (fun hm=>absurd hm him) hh.2⟩) h
end
inductive Pc where
 | pure (n:Nat)
 | call
 | new
def GU (w:World)(K:Act->Prop):Exit->Act->World->Prop:=fun e a1 w1=>e=.normal/\w1=w/\K a1
def JR (S:World->Prop)(st:Nat)(w' : World)(K:Act->World->Prop):Exit->Act->World->Prop:=fun e a1 w1=>e=.normal/\S w1/\Kept st w' w1/\K a1 w1
def Nr (w w0:World)(iv:List (Nat × Nat))(K:Act->World->World->Prop):Exit->Act->World->Prop:=fun e a1 w1=>e=.normal/\∀ w',Grown w w' -> Kept w0.heap.size w1 w' -> Off iv w0.heap.size w1.heap.size->K a1 w1 w'
theorem GU.intro {w:World}{K:Act->Prop}{a:Act}(h:K a):GU w K .normal a w:=⟨rfl,rfl,h⟩
theorem JR.intro {S:World->Prop}{st:Nat}{w' : World}{K:Act->World->Prop}{a:Act}{w:World}(hS:S w)(hk:Kept st w' w)(h:K a w):JR S st w' K .normal a w:=⟨rfl,hS,hk,h⟩
theorem Nr.intro {w w0 w1:World}{iv:List (Nat × Nat)}{K:Act->World->World->Prop}{a:Act}(h:∀ w',Grown w w' -> Kept w0.heap.size w1 w' -> Off iv w0.heap.size w1.heap.size->K a w1 w'):Nr w w0 iv K .normal a w1:=⟨rfl,h⟩
def Fq (P:Program)(ops:Array Oper)(Q:Exit->Act->World->Prop)(S:World->Prop)(st:Nat)(cs:List Nat):List Pc->List Oper->List (Nat × Nat)->Act->World->Prop
 | [],l,_,a,w=>Bg P ops Q S cs l a w
 | .pure n::ps,l,iv,a,w=>wpList P ops (GU w (fun a1=>Fq P ops Q S st cs ps (l.drop n) iv a1 w)) (l.take n) a w
 | .call::ps,l,iv,a,w=>∀ w',Grown w w' -> wpList P ops (JR S st w' (fun a1 w1=>Fq P ops Q S st cs ps (l.drop 1) ((w'.heap.size,w1.heap.size)::iv) a1 w1)) (l.take 1) a w'
 | .new::ps,l,iv,a,w=>∀ w0,st<=w0.heap.size->wpList P ops (Nr w w0 iv (fun a1 w1 w' => Fq P ops Q S st cs ps (l.drop 1) ((w0.heap.size,w1.heap.size)::iv) a1 w')) (l.take 1) a w0
def KL (P:Program)(ops:Array Oper)(m:Nat)(fa:List Nat)(cs:List Nat):List Pc->Nat->Nat->Bool
 | [],n,k => !((List.range' k n).any fun x=>fa.contains x)&&NC P ops m cs n k
 | .pure c::ps,n,k=>decide (c<=n)&&((List.range c).all fun j=>plain P ops (k+j) && !fa.contains (k+j))&&((List.range' (k+c) (n-c)).any fun x=>fa.contains x)&&KL P ops m fa cs ps (n-c) (k+c)
 | .call::ps,n,k=>decide (0<n) && !plain P ops k && !fa.contains k&&((List.range' k n).any fun x=>fa.contains x)&&KL P ops m fa cs ps (n-1) (k+1)
 | .new::ps,n,k=>decide (0<n)&&fa.contains k&&KL P ops m fa cs ps (n-1) (k+1)
theorem SS {S:World->Prop}{m:Nat}{fa:List Nat}{st:Nat}{iv:List (Nat × Nat)}{wr:World}{K:Act->Prop}{L:List Nat}(hL:L.any (fun x=>fa.contains x)=true)(hK:∀ a,K a->wpG P ops Q S m fa st L iv wr a wr):∀ (l:List Oper) (k:Nat) (a:Act) (w:World),w=wr\/l≠[]->(∀ j,j<l.length->l[j]? = ops[k+j]?)->((List.range l.length).all fun j=>plain P ops (k+j) && !fa.contains (k+j))=true->
 wpList P ops (fun e a1 w1=>e=.normal/\w1=wr/\K a1) l a w->wpG P ops Q S m fa st (List.range' k l.length++L) iv wr a w
 | [],k,a,w,_,_,_,h => by
   obtain⟨_,rfl,h⟩:=(h:(_:Exit)=.normal/\_/\K a)
   exact hK a h
 | o :: l,k,a,w,_,hl,hw,h => by
   have h0:ops[k]? = some o:=by simpa using (hl 0 (by simp)).symm
   have hNE:Di (fun(e:Exit) (a1:Act) (w1:World)=>e=.normal/\w1=wr/\K a1):=fun _ _ _ he h=>he h.1
   have hh:=EG (Q2:=Q) hNE (FX h0 h)
   simp only[List.all_eq_true,List.mem_range,List.length_cons,Bool.and_eq_true,Bool.not_eq_true'] at hw
   have hk:=hw 0 (by omega)
   simp only[Nat.add_zero] at hk
   rw[List.length_cons,List.range'_succ,List.cons_append]
   refine(FZ (by simp only[List.any_cons,List.any_append,hL,Bool.or_true]) hk.2 hk.1).2 (wpOp_mono (fun a1 w1 h1=>?_) hh)
   refine SS hL hK l (k+1) a1 w1 ?_ (fun j hj=>?_) ?_ h1
   ·cases l with
    | nil=>exact .inl h1.2.1
    | cons _ _=>exact .inr (by simp)
   ·have:=hl (j+1) (by simp;omega)
    simpa [Nat.add_assoc,Nat.add_comm 1 j] using this
   ·simp only[List.all_eq_true,List.mem_range,Bool.and_eq_true,Bool.not_eq_true']
    intro j hj
    have:=hw (j+1) (by omega)
    rwa [show k+(j+1)=k+1+j from by omega] at this
section
variable {B:Nat->Prop} {wS:World} {fl fa:List Nat} {m st:Nat}
theorem Mx (hA:OkF P ops fl fa m){cs:List Nat} : ∀ (ps:List Pc) (l:List Oper) (k:Nat) (iv:List (Nat × Nat)) (a:Act) (w:World),(∀ j,j<l.length->l[j]? = ops[k+j]?)->(k+l.length=ops.size)->Same B wS w->KL P ops m fa cs ps l.length k=true->
 Fq P ops (Ac P ops B wS fl Q) (Same B wS) st cs ps l iv a w->wpG P ops (Ac P ops B wS fl Q) (Same B wS) m fa st (List.range' k l.length) iv w a w
 | [],l,k,iv,a,w,hl,hsz,hS,hc,h => by
   simp only[KL,Bool.and_eq_true,Bool.not_eq_true'] at hc
   refine(CV hc.1).2 ⟨rfl,upS hA _ a w (fun x hx=>?_) List.pairwise_lt_range' (fun _=>hS) (Kg cs l k a w hl hc.2 h)⟩
   have:=List.mem_range'_1.1 hx
   omega
 | .pure c :: ps,l,k,iv,a,w,hl,hsz,hS,hc,h => by
   simp only[KL,Bool.and_eq_true,decide_eq_true_eq] at hc
   obtain⟨⟨⟨h1,h2⟩,h3⟩,h4⟩:=hc
   have hlen:(l.take c).length=c:=by simp;omega
   have hr:List.range' k l.length=List.range' k (l.take c).length++List.range' (k+c) (l.drop c).length:=by
    rw[hlen,List.length_drop,List.range'_append_1,show c+(l.length-c)=l.length from by omega]
   rw[hr]
   refine SS (K:=fun a1=>Fq P ops (Ac P ops B wS fl Q) (Same B wS) st cs ps (l.drop c) iv a1 w) (by rw[List.length_drop];exact h3) (fun a1 hk=>Mx hA ps (l.drop c) (k+c) iv a1 w (fun j hj=>?_) (by rw[List.length_drop];omega) hS (by rw[List.length_drop];exact h4) hk) (l.take c) k a w (.inl rfl) (fun j hj=>?_) (by rw[hlen];exact h2) h
   ·rw[List.getElem?_drop,hl (c+j) (by simp at hj;omega),Nat.add_assoc]
   ·rw[List.getElem?_take,if_pos (by omega),hl j (by simp at hj;omega)]
 | .call :: ps,l,k,iv,a,w,hl,hsz,hS,hc,h => by
   simp only[KL,Bool.and_eq_true,decide_eq_true_eq,Bool.not_eq_true'] at hc
   obtain⟨⟨⟨⟨h1,h2⟩,h3⟩,h4⟩,h5⟩:=hc
   cases l with
   | nil=>simp at h1
   | cons o l =>
     have h0:ops[k]? = some o:=by simpa using (hl 0 (by simp)).symm
     rw[List.length_cons,List.range'_succ] at h4 ⊢
     refine(DU h4 h3 h2).2 ⟨rfl,fun w' hg=>?_⟩
     have hNE:Di (fun(e:Exit) (a1:Act) (w1:World)=>e=.normal/\Same B wS w1/\Kept st w' w1/\Fq P ops (Ac P ops B wS fl Q) (Same B wS) st cs ps l ((w'.heap.size,w1.heap.size)::iv) a1 w1):=fun _ _ _ he h=>he h.1
     refine wpOp_mono (fun a1 w1 hh=>?_) (EG (Q2:=Ac P ops B wS fl Q) hNE (FX h0 (l:=[]) (h w' hg)))
     obtain⟨_,hS1,hk,hK⟩:=(hh:(_:Exit)=.normal/\_)
     refine⟨hS1,hk,Mx hA ps l (k+1) _ a1 w1 (fun j hj=>?_) (by simp at hsz;omega) hS1 (by simpa using h5) hK⟩
     have:=hl (j+1) (by simp;omega)
     simpa [Nat.add_assoc,Nat.add_comm 1 j] using this
 | .new :: ps,l,k,iv,a,w,hl,hsz,hS,hc,h => by
   simp only[KL,Bool.and_eq_true,decide_eq_true_eq] at hc
   obtain⟨⟨h1,h3⟩,h5⟩:=hc
   cases l with
   | nil=>simp at h1
   | cons o l =>
     have h0:ops[k]? = some o:=by simpa using (hl 0 (by simp)).symm
     rw[List.length_cons,List.range'_succ]
     refine(FD h3).2 ⟨rfl,fun w0 hw0=>?_⟩
     have hNE:Di (fun(e:Exit) (a1:Act) (w1:World)=>e=.normal/\∀ w',Grown w w' -> Kept w0.heap.size w1 w' -> Off iv w0.heap.size w1.heap.size->Fq P ops (Ac P ops B wS fl Q) (Same B wS) st cs ps l ((w0.heap.size,w1.heap.size)::iv) a1 w'):=fun _ _ _ he h=>he h.1
     refine wpOp_mono (fun a1 w1 hh w' hg hk ho=>?_) (EG (Q2:=Ac P ops B wS fl Q) hNE (FX h0 (l:=[]) (h w0 hw0)))
     obtain⟨_,hK⟩:=(hh:(_:Exit)=.normal/\_)
     refine Mx hA ps l (k+1) _ a1 w' (fun j hj=>?_) (by simp at hsz;omega) (hS.more (Dx hg)) (by simpa using h5) (hK w' hg hk ho)
     have:=hl (j+1) (by simp;omega)
     simpa [Nat.add_assoc,Nat.add_comm 1 j] using this
end
theorem kF {l:List Oper}{a:Act}{w:World}(B:Nat->Prop)(fl fa:List Nat)(m:Nat)(ps:List Pc)(cs:List Nat)(hA:Uw P l.toArray fl fa m=true)(hC:KL P l.toArray m fa cs ps l.length 0=true)
 (h:Fq P l.toArray (Ac P l.toArray B w fl Q) (Same B w) w.heap.size cs ps l [] a w):wpAny P .any l.toArray (Ac P l.toArray B w fl Q) l.toArray.size (Array.replicate l.toArray.size false) a w:=by
 refine Ww (Oc hA) (st:=w.heap.size) l.toArray.size (List.range l.toArray.size) _ [] a _ (by simp) (by simp) ?_ List.pairwise_lt_range (fun x=>by
  constructor
  ·intro hx
   have:=List.mem_range.1 hx
   exact⟨this,by simp only[Array.getD_eq_getD_getElem?];simp at this ⊢;simp[this]⟩
  ·exact fun hx=>List.mem_range.2 hx.1) (fun _=>Same.refl _ _) (fun _=>⟨Nat.le_refl _,fun _ hx=>by cases hx⟩) ?_
 ·intro j o ho hl
  rw[getD_replicate_false] at hl
  cases hl
 ·rw[List.range_eq_range',show l.toArray.size=l.length from by simp]
  exact Mx (Oc hA) ps l 0 [] a w (by simp) (by simp) (Same.refl _ _) hC h
theorem Cj {id:Nat}{l:List Oper}{a:Act}{w:World}(B:Nat->Prop)(fl fa:List Nat)(m:Nat)(ps:List Pc)(cs:List Nat)(hm:P.follows .mixedOrders=true)(hA:Uw P l.toArray fl fa m=true)(hC:KL P l.toArray m fa cs ps l.length 0=true)
 (h:Fq P l.toArray (Ac P l.toArray B w.drew fl Q) (Same B w.drew) w.drew.heap.size cs ps l [] a w.drew):(Code.region id l.toArray true).wp P Q a w:=
 Code.wp_mono (Q:=Ac P l.toArray B w.drew fl Q) (fun e a' w' he=>by obtain⟨rfl,_,_,h⟩:=he;exact h) (wp_region_any hm (kF B fl fa m ps cs hA hC h))
end
end Lex
end
section
open Go Go.RowKit Go.Maps
def QJ (w:World)(a:Own.Ce):Ending->World->Prop:=fun e w' => ∃ cv pv,e=.returned (.agg #[.string a.name,.int .i64 a.sig.index,cv,pv])/\w'.ownsRow w.heap.size 9 1 cv 67 (a.sig.chains.map Value.string)/\w'.ownsRow w.heap.size 9 1 pv 1 (a.sig.path.map Value.string)/\Below w.heap.size w w'
theorem RF:(Tryz.prog.info? 43).map (·.size)=some 4:=by kernel_rfl
theorem aN (W:World)(a b:ByteArray):(Instr.field 73 (.agg #[.string a,.string b]) 0).run Tryz.prog W=.ok (.string a) W:=by kernel_rfl
theorem O4 (b i:Nat)(p:Own.Ab)(ag:Bool)(v:Value)(w:World)(hb:b<256)(hi:i<2)(h0:0<=p.id)(h1:p.id<9223372036854775808)(h2:p.path.size<=1000000)(h3:p.digest.size<=1000000):
 Calls Tryz.prog 35 #[.int .u8 b,.int .i64 i,.agg #[.int .i64 p.id,.string p.path,.string p.digest,.int .i64 p.opened,.int .i64 p.expires,v],.bool ag] w (QJ w (Own.Bl b i p ag)):=by
 have hk:=fun W=>Me b W hb
 have hm:=fun W=>Jf b W hb
 have hms:=fun W=>KJ p ag v W h0 h1 h2 h3
 have hzm:(Own.Ay p ag).size<=140737488350000:=by
  have e1:=Cod.CQ p.id.toNat;have e2:=Cod.CQ p.path.size;have e3:=Cod.CQ p.digest.size
  unfold Own.Ay Cod.text
  simp only[ByteArray.size_append]
  have:(Sig.b1 (if ag then 13 else 14)).size=1:=rfl
  omega
 have hsg:=fun W=>V3 (Az.Ah b) (Own.Ay p ag) i W (EL b) hi hzm
 obtain⟨R,hR⟩:∃ R,R=Own.Bl b i p ag:=⟨_,rfl⟩
 rw[<- hR]
 unfold Own.Bl at hR
 generalize Own.Ay p ag=MG at*
 generalize Az.Ah b=S at*
 generalize Own.Ag b=m at*
 have HK:=zh hk;have HM:=zh hm;have HMS:=zh hms;have HSG:=zh hsg;have HR:=zh hR
 clear hk hm hms hsg hR hzm
 obtain⟨pid,ppa,pdi,pop,pex,pvs⟩:=p
 dsimp only at HMS ⊢
 have F1:=zh (show AQ w _ [(46,#[.int .i64 pid,.string ppa,.string pdi,.int .i64 pop,.int .i64 pex,v]),(43,#[.string ⟨#[]⟩,.int .i64 0,.slice none 0 0,.slice none 0 0])] from(((Fg.nil w).push 46 #[.int .i64 pid,.string ppa,.string pdi,.int .i64 pop,.int .i64 pex,v]).push 43 #[.string ⟨#[]⟩,.int .i64 0,.slice none 0 0,.slice none 0 0]).boxes)
 have hz:((w.alloc (.cells #[.int .i64 pid,.string ppa,.string pdi,.int .i64 pop,.int .i64 pex,v] 46)).alloc (.cells #[.string ⟨#[]⟩,.int .i64 0,.slice none 0 0,.slice none 0 0] 43)).heap.size=w.heap.size+2:=by simp
 have HZ:=zh hz;clear hz
 go_enter Tryz.func35,Tryz.ntmps35
 go_wp2_with fail
 generalize ((w.alloc (.cells #[.int .i64 pid,.string ppa,.string pdi,.int .i64 pop,.int .i64 pex,v] 46)).alloc (.cells #[.string ⟨#[]⟩,.int .i64 0,.slice none 0 0,.slice none 0 0] 43))=w1 at*
 refine(HK.out _).mono ?_
 rintro e w2 ⟨rfl,hb2⟩
 have hz2:w.heap.size+2<=w2.heap.size:=by have:=HZ.out;have:=hb2.size;omega
 have F2:=zh (F1.out.step hb2);have HZ2:=zh hz2
 clear hb2 hz2
 go_upto_region 3 with fail
 have hb3:Below w2.heap.size w2 (w2.alloc (.cells #[.string S,.int .i64 1,.int .i64 i] 113)):=zb
 have hk3:=At.new w2 113 #[.string S,.int .i64 1,.int .i64 i]
 have F3:=zh (F2.out.step hb3);have K3:=zh hk3
 have hz3:w2.heap.size+1=(w2.alloc (.cells #[.string S,.int .i64 1,.int .i64 i] 113)).heap.size:=by simp
 have HZ3:=zh hz3
 clear hb3 hk3 hz3 F1 F2
 generalize w2.alloc (.cells #[.string S,.int .i64 1,.int .i64 i] 113)=w3 at*
 have K0:=zh (show w2.heap.size<w3.heap.size by have:=HZ3.out;omega)
 obtain⟨hk0,hk1,hk2⟩:=K3.out.c3
 obtain⟨x00,x01,x02,x03,x04,x05⟩:=F3.out.oq rfl
 have hlw:w.heap.size<w3.heap.size:=F3.out.lt (i:=0) (by show 0<2;omega)
 have hlk:=K0.out
 have Y0:=zh (show(w3.drew.cell? ⟨w2.heap.size,0,none⟩).isSome=true from(congrArg Option.isSome hk0).trans rfl)
 have Y1:=zh (show(w3.drew.cell? ⟨w2.heap.size,1,none⟩).isSome=true from(congrArg Option.isSome hk1).trans rfl)
 have Y2:=zh (show(w3.drew.cell? ⟨w2.heap.size,2,none⟩).isSome=true from(congrArg Option.isSome hk2).trans rfl)
 go_cut [10,12] (fun v10 v12 wx=>∃ g cv pv,v10=.pointer (some ⟨g,0,none⟩)/\v12=.int .i64 0/\At wx g 41 #[.int .i64 i,cv,pv]/\wx.ownsRow w3.heap.size 9 1 cv 67 ((Sig.Bb S i MG).chains.map Value.string)/\wx.ownsRow w3.heap.size 9 1 pv 1 ((Sig.Bb S i MG).path.map Value.string)/\w3.heap.size<=g/\Below w3.heap.size w3 wx)
 case first=>
  refine Lex.Cj (fun k=>k=w2.heap.size) [0] [9,10] 13 [.pure 3,.call,.call,.pure 4,.new,.new] [1,1] (by kernel_rfl) (by kernel_rfl) (by kernel_rfl) ?_
  simp only[Lex.Fq,Lex.Bg,zd]
  have bd:Below w3.heap.size w3 w3.drew:=(Below.refl _ _).drew
  have BD:=zh bd
  have zd:w3.drew.heap.size=w3.heap.size:=by rw[Ar]
  have ZD:=zh zd
  clear bd zd
  go_wp2_with fail
  refine Lex.GU.intro ?_
  intro w4 hg4
  have BE4:=zh (BD.out.trans (hg4.mono BD.out.size));have BX4:=zh hg4
  clear hg4 hk0 hk1 hk2
  (try clear x00 x01 x02 x03 x04 x05)
  go_wp2_with fail
  refine(HMS.out _).mono ?_
  rintro e w5 ⟨rfl,hb5⟩
  have BE5:=zh (BE4.out.trans (hb5.mono BE4.out.size));have BX5:=zh (BX4.out.trans (hb5.mono BX4.out.size));have BB:=zh hb5
  clear hb5
  go_wp2_with fail
  refine Lex.JR.intro (fun j hj hjl=>by rw[hj];exact BX5.out.block _ (by rw[<- hj];exact hjl)) (Lex.Kept.of_below BB.out) ?_
  intro w6 hg6
  have BE6:=zh (BE5.out.trans (hg6.mono BE5.out.size));have BX6:=zh (BX5.out.trans (hg6.mono BX5.out.size))
  clear hg6
  go_wp2_with fail
  refine(HSG.out _).mono ?_
  rintro e w7 ⟨cv,pv,rfl,hoc,hop,hb7⟩
  obtain⟨ca,cm,cc,rfl⟩:=Ae hoc
  obtain⟨pa,pm,pc,rfl⟩:=Ae hop
  have BE7:=zh (BE6.out.trans (hb7.mono BE6.out.size));have BX7:=zh (BX6.out.trans (hb7.mono BX6.out.size));have BB7:=zh hb7;have OC:=zh hoc;have OP:=zh hop
  clear hb7 hoc hop
  go_wp2_with fail
  refine Lex.JR.intro (fun j hj hjl=>by rw[hj];exact BX7.out.block _ (by rw[<- hj];exact hjl)) (Lex.Kept.of_below BB7.out) ?_
  go_wp2_with fail
  refine Lex.GU.intro ?_
  intro w8 hw8
  go_wp2_with fail
  refine Lex.Nr.intro (fun w9 hg9 hk9 ho9=>?_)
  have hs9:=hk9.at_
  have hl8:w3.heap.size<=w8.heap.size:=by rw[<- ZD.out];exact hw8
  obtain⟨gs,hgs⟩:∃ g,g=w8.heap.size:=⟨_,rfl⟩
  rw[<- hgs] at hs9 hl8
  have BE9:=zh (BE7.out.trans (hg9.mono BE7.out.size));have BX9:=zh (BX7.out.trans (hg9.mono BX7.out.size));have OC9:=zh (own_below OC.out hg9);have OP9:=zh (own_below OP.out hg9);have GS9:=zh hs9
  rw[<- hgs]
  clear hg9 hk9 ho9 hs9 hgs hw8
  intro w10 uI
  go_wp2_with fail
  refine Lex.Nr.intro (fun w11 Ow uJ yI=>?_)
  have oW:=uJ.at_
  have kG:w3.heap.size<=w10.heap.size:=by rw[<- ZD.out];exact uI
  obtain⟨gk,hgk⟩:∃ g,g=w10.heap.size:=⟨_,rfl⟩
  rw[<- hgk] at oW kG
  have yJ:=zh (BE9.out.trans (Ow.mono BE9.out.size));have uK:=zh (BX9.out.trans (Ow.mono BX9.out.size));have oZ:=zh (own_below OC9.out Ow);have pq:=zh (own_below OP9.out Ow);have RG:=zh (GS9.out.below Ow GS9.out.lt);have RH:=zh oW
  rw[<- hgk]
  clear Ow uJ yI oW hgk uI
  have s0:=RG.out.cell 0;have s1:=RG.out.cell 1;have s2:=RG.out.cell 2;have s3:=RG.out.free 0;have s4:=RG.out.free 1;have s5:=RG.out.free 2
  simp only[zg] at s0 s1 s2
  have k0:=RH.out.cell 0;have k1:=RH.out.cell 1;have k2:=RH.out.cell 2;have k3:=RH.out.free 0;have k4:=RH.out.free 1;have k5:=RH.out.free 2
  simp only[zg] at k0 k1 k2
  have hne:gs≠gk:=RG.out.ne RH.out (by decide)
  have h36:=BE6.out.size
  have zai:=K0.out
  go_wp2_with fail
  refine Lex.Mid.intro (fun j hj hjl=>by
   have h3:j≠gs:=by omega
   rw[zo h3,zo h3,zo h3]
   exact uK.out.block _ hjl) ?_
  have K3:=zh (RH.out.far (p:=⟨gs,0,none⟩) hne.symm (.int .i64 i))
  go_wp2_with fail
  refine Lex.Mid.intro (fun j hj hjl=>by
   have h3:j≠gs:=by omega
   have h4:j≠gk:=by omega
   rw[zo h4,zo h4,zo h4,zo h3,zo h3,zo h3]
   exact uK.out.block _ hjl) ?_
  go_wp2_with fail
  refine Lex.zk ⟨⟨rfl,Y0.out⟩,trivial⟩ ?_
  go_wp2_with fail
  go_meet
  have e1:=RG.out.own_ne oZ.out (by decide);have e2:=RG.out.own_ne pq.out (by decide);have e3:=RH.out.own_ne oZ.out (by decide);have e4:=RH.out.own_ne pq.out (by decide)
  have keep:∀ k,k≠gs->k≠gk->((((((w11.setCell ⟨gs,0,none⟩ (.int .i64 i)).setCell ⟨gs,1,none⟩ (.slice ca cm cc)).setCell ⟨gs,2,none⟩ (.slice pa pm pc)).setCell ⟨gk,0,none⟩ (.string S)).setCell ⟨gk,1,none⟩ (.int .i64 1)).setCell ⟨gk,2,none⟩ (.int .i64 (i+1))).heap[k]? = w11.heap[k]? :=fun k h3 h4=>by
   rw[zo h4,zo h4,zo h4,zo h3,zo h3,zo h3]
  refine⟨gs,_,_,rfl,rfl,(((((RG.out.set 0 _).set 1 _).set 2 _).far (p:=⟨gk,0,none⟩) (by simp;omega) _).far (p:=⟨gk,1,none⟩) (by simp;omega) _).far (p:=⟨gk,2,none⟩) (by simp;omega) _,?_,?_,hl8,?_⟩
  ·exact AA (Cm oZ.out h36) (fun k hk=>keep k (fun e=>e1 (by rw[hk,e])) (fun e=>e3 (by rw[hk,e])))
  ·exact AA (Cm pq.out h36) (fun k hk=>keep k (fun e=>e2 (by rw[hk,e])) (fun e=>e4 (by rw[hk,e])))
  ·exact((((((yJ.out.setCell (p:=⟨gs,0,none⟩) hl8 _).setCell (p:=⟨gs,1,none⟩) hl8 _).setCell (p:=⟨gs,2,none⟩) hl8 _).setCell (p:=⟨gk,0,none⟩) kG _).setCell (p:=⟨gk,1,none⟩) kG _).setCell (p:=⟨gk,2,none⟩) kG _)
 obtain⟨g,cv,pv,rfl,rfl,hg,hoc,hop,hgl,hbx⟩:=hcut
 obtain⟨ca,cm,cc,rfl⟩:=Ae hoc
 obtain⟨pa,pm,pc,rfl⟩:=Ae hop
 have F4:=zh (F3.out.step hbx);have OC:=zh hoc;have OP:=zh hop;have HG:=zh hg
 clear hk0 hk1 hk2 hbx hoc hop hg Y0 Y1 Y2 K3
 (try clear x00 x01 x02 x03 x04 x05)
 obtain⟨g0,g1,g2⟩:=HG.out.c3
 have pz:=HG.out.lt
 have HX:=zh (zi g0)
 go_wp2_with fail
 refine Lex.zn (fun k=>k=g) [3] 4 [2,1] ?_
 simp only[Lex.Bg,zd]
 go_wp2_with fail
 refine(HM.out _).mono ?_
 rintro e w5 ⟨rfl,hb5⟩
 obtain⟨mn,mp⟩:=m
 have Gp : Below wc.heap.size wc w5:=(Below.refl wc.heap.size wc).drew.trans hb5
 have hg5:=HG.out.below Gp pz
 have F5:=zh (F4.out.step Gp);have OC5:=zh (own_below OC.out Gp);have OP5:=zh (own_below OP.out Gp);have HB5:=zh Gp
 clear hb5 Gp g0 g1 g2
 obtain⟨g0,g1,g2⟩:=hg5.c3
 clear hg5
 obtain⟨x10,x11,x12,x13,uL,uM,zaj,zak⟩:=F5.out.xU rfl
 go_wp2_with fail
 refine Lex.Mid.intro (fun j hj _=>by rw[hj];exact HB5.out.block _ pz) ?_
 go_wp2_with fail
 rw[aN]
 go_wp2_with fail
 refine Lex.Mid.intro (fun j hj _=>by rw[hj];exact HB5.out.block _ pz) ?_
 go_wp2_with fail
 refine Lex.zk ⟨⟨rfl,HX.out⟩,trivial⟩ ?_
 go_wp2_with fail
 have G2:=(((F5.out.put 1 0 (.string mn) rfl).put 1 1 (.int .i64 i) rfl).put 1 2 (.slice ca cm cc) rfl).put 1 3 (.slice pa pm pc) rfl
 refine Gn rfl rfl (Ad (G2.at1 1 rfl) Tryz.underlying43 rfl RF) ?_
 have hx:(Sig.Bb S i MG).index=(i:Int):=by unfold Sig.Bb;rfl
 have h3:w.heap.size+2<=w3.heap.size:=F3.out.size
 have yK:=Bo OC5.out;have yL:=Bo OP5.out
 have keep:∀ k,w3.heap.size<=k->((((w5.setCell ⟨w.heap.size+1,0,none⟩ (.string mn)).setCell ⟨w.heap.size+1,1,none⟩ (.int .i64 i)).setCell ⟨w.heap.size+1,2,none⟩ (.slice ca cm cc)).setCell ⟨w.heap.size+1,3,none⟩ (.slice pa pm pc)).heap[k]? = w5.heap[k]? :=fun k hk=>by
  have h4:k≠w.heap.size+1:=by omega
  rw[zo h4,zo h4,zo h4,zo h4]
 rw[HR.out]
 refine⟨.slice ca cm cc,.slice pa pm pc,(show Ending.returned (.agg #[.string mn,.int .i64 i,.slice ca cm cc,.slice pa pm pc])=.returned (.agg #[.string mn,.int .i64 (Sig.Bb S i MG).index,.slice ca cm cc,.slice pa pm pc]) by rw[hx]),AA (Cm OC5.out (by omega)) (fun k hk=>keep k (yK k hk)),AA (Cm OP5.out (by omega)) (fun k hk=>keep k (yL k hk)),G2.under⟩
end
end Go.Proofs.YtnijhlphcjjpbaaGreatDoor
