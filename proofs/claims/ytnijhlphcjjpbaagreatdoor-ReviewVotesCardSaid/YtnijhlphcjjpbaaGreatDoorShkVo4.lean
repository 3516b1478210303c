/- The program's owners: spaces, and which owners are valid. -/
import Derived.Lib.Overlaps
import Derived.Laws.Externs
import Derived.Lib.AppendZeros
import Derived.Laws.IdiomCopy
import Derived.Laws.CopyRow
import Derived.Test.YtnijhlphcjjpbaaGreatDoorShkVo3
set_option linter.unusedVariables false
set_option linter.unusedSimpArgs false
set_option maxRecDepth 100000
set_option maxHeartbeats 8000000
namespace Go.Proofs.YtnijhlphcjjpbaaGreatDoor
section
open Go Go.RowKit Go.Maps
theorem Vl (v:Value)(s:Own.Space)(w:World)(hM:Fe w)(h:Own.Ar w v s.members)(hl:s.members.length<=140737488355328):
 Calls Tryz.prog 90 #[.agg #[.string s.pre,v,.int .i64 s.threshold]] w fun e w' => e=.returned (.bool (Own.AO s))/\Below w.heap.size w w':=by
 obtain⟨R,hR⟩:∃ R,R=Own.AO s:=⟨_,rfl⟩
 rw[<- hR]
 unfold Own.AO at hR
 obtain⟨a,c,rfl⟩:=h.len
 have ha:=At.new w 70 #[.string s.pre,.slice a s.members.length c,.int .i64 s.threshold]
 have hb1:Below w.heap.size w (w.alloc (.cells #[.string s.pre,.slice a s.members.length c,.int .i64 s.threshold] 70)):=zb
 have HR:=zh hR;have HL:=zh (h.below hb1);have HM:=zh (hM.below hb1);have HB:=zh hb1;have HA:=zh ha
 have c0:=ha.cell 0;have c1:=ha.cell 1;have c2:=ha.cell 2
 simp only[zg] at c0 c1 c2
 clear hR h hM ha hb1
 go_enter Tryz.func90,Tryz.ntmps90
 go_wp2_with fail
 generalize w.alloc (.cells #[.string s.pre,.slice a s.members.length c,.int .i64 s.threshold] 70)=w1 at*
 refine(Rb s.pre w1 HM.out).mono ?_
 rintro e w2 ⟨rfl,hb2⟩
 have HB2:=zh (HB.out.trans (hb2.mono HB.out.size));have HL2:=zh (HL.out.below hb2)
 have ha2:=HA.out.below hb2 HA.out.lt
 obtain⟨q0,q1,q2⟩:=ha2.c3
 have HA2:=zh ha2
 clear hb2 ha2 c0 c1 c2
 cases hp:Own.Bp s.pre with
 | false =>
   have e:R=false:=by rw[HR.out,hp];rfl
   have HE:=zh e;clear e
   go_wp2_with fail
   go_ret
   exact⟨by rw[HE.out];rfl,HB2.out⟩
 | true=>
 go_wp2_with fail
 refine(SA _ s.members w2 HL2.out hl).mono ?_
 rintro e w3 ⟨rfl,hb3⟩
 have HB3:=zh (HB2.out.trans (hb3.mono HB2.out.size))
 have ha3:=HA2.out.below hb3 HA2.out.lt
 obtain⟨p0,p1,p2⟩:=ha3.c3
 clear hb3 ha3 q0 q1 q2
 cases hm:Own.Cv s.members with
 | false =>
   have e:R=false:=by rw[HR.out,hm];simp
   have HE:=zh e;clear e
   go_wp2_with fail
   go_ret
   exact⟨by rw[HE.out];rfl,HB3.out⟩
 | true=>
 have e:R=(decide (1<=s.threshold)&&decide (s.threshold<=s.members.length)):=by rw[HR.out,hp,hm];simp
 have HE:=zh e;clear e
 by_cases h1:1<=s.threshold
 ·have d1:decide (1<=s.threshold)=true:=decide_eq_true h1
  have e:R=decide (s.threshold<=s.members.length):=by rw[HE.out,d1];rfl
  have HE2:=zh e;clear e
  go_wp2_with fail
  go_ret
  exact⟨by rw[HE2.out];rfl,HB3.out⟩
 ·have d1:decide (1<=s.threshold)=false:=decide_eq_false h1
  have e:R=false:=by rw[HE.out,d1];rfl
  have HE2:=zh e;clear e
  go_wp2_with fail
  go_ret
  exact⟨by rw[HE2.out];rfl,HB3.out⟩
namespace Own
theorem JO {α : Type}(ok : α -> Bool)(lt : α -> α -> Bool):∀ (p:Option α) (a b:List α),Aj ok lt p (a++b)=(Aj ok lt p a&&Aj ok lt (match a.getLast? with|none=>p|some x=>some x) b)
 | p,[],b=>by simp[Aj]
 | p,x :: a,b => by
   have ih:=JO ok lt (some x) a b
   show(ok x&&(match p with|none=>true|some y=>lt y x)&&Aj ok lt (some x) (a++b))=((ok x&&(match p with|none=>true|some y=>lt y x)&&Aj ok lt (some x) a)&&_)
   rw[ih,Bool.and_assoc,Bool.and_assoc,Bool.and_assoc]
   congr 3
   cases a with
   | nil=>rfl
   | cons y a => rw [List.getLast?_cons_cons];cases h : (y :: a).getLast? with
     | none=>simp at h
     | some z=>rfl
def ahead {α : Type}(lt : α -> α -> Bool)(p:Option α)(x : α):Bool:=match p with
 | none=>true
 | some y=>lt y x
theorem D7 {α : Type}(ok : α -> Bool)(lt : α -> α -> Bool)(l:List α)(k:Nat)(hk:k<l.length):
 Aj ok lt none l=(Aj ok lt none (l.take k)&&((ok l[k]&&ahead lt (l.take k).getLast? l[k])&&Aj ok lt (some l[k]) (l.drop (k+1)))):=by
 have e:l=l.take k++l[k]::l.drop (k+1):=by rw[<- List.drop_eq_getElem_cons hk,List.take_append_drop]
 conv=>lhs;rw[e]
 rw[JO]
 congr 1
 cases (l.take k).getLast? <;> rfl
theorem CV {α : Type}(ok : α -> Bool)(lt : α -> α -> Bool)(l:List α)(k:Nat)(hk:k<l.length):
 Aj ok lt none (l.take (k+1))=(Aj ok lt none (l.take k)&&(ok l[k]&&ahead lt (l.take k).getLast? l[k])):=by
 rw[List.take_succ_eq_append_getElem hk,JO]
 congr 1
 cases (l.take k).getLast? <;> simp[Aj,ahead]
end Own
theorem EU (o:Own.Ak)(sv kv:Value)(w:World)(hM:Fe w)(hS:Own.AJ w sv o.spaces)(hK:Own.Bo w kv o.keys)(hls:o.spaces.length<=140737488355328)(hlk:o.keys.length<=140737488355328)(hlm:∀ s∈o.spaces,s.members.length<=140737488355328):
 Calls Tryz.prog 60 #[.agg #[.int .i64 o.count,sv,kv]] w fun e w' => e=.returned (.bool (Own.AQ o))/\Below w.heap.size w w':=by
 obtain⟨R,hR⟩:∃ R,R=Own.AQ o:=⟨_,rfl⟩
 rw[<- hR]
 unfold Own.AQ Own.late at hR
 obtain⟨sa,sc,rfl⟩:=hS.len
 obtain⟨ka,kc,rfl⟩:=hK.len
 obtain⟨cnt,S,K⟩:=o
 dsimp only at*
 have ha:=At.new w 38 #[.int .i64 cnt,.slice sa S.length sc,.slice ka K.length kc]
 have hb1:Below w.heap.size w (w.alloc (.cells #[.int .i64 cnt,.slice sa S.length sc,.slice ka K.length kc] 38)):=zb
 have HR:=zh hR;have HS:=zh (hS.below hb1);have HK:=zh (hK.below hb1);have HM:=zh (hM.below hb1);have HB:=zh hb1;have HA:=zh ha;have HLM:=zh hlm
 have c0:=ha.cell 0;have c1:=ha.cell 1;have c2:=ha.cell 2
 simp only[zg] at c0 c1 c2
 clear hR hS hK hM ha hb1 hlm
 go_enter Tryz.func60,Tryz.ntmps60
 by_cases h1:0<=cnt
 case neg=>
  have d1:decide (cnt<0)=true:=zt
  have e:R=false:=by rw[HR.out,decide_eq_false h1];rfl
  have HE:=zh e;clear e
  go_wp2_with fail
  go_ret
  exact⟨by rw[HE.out];rfl,HB.out⟩
 have d1:decide (cnt<0)=false:=zf
 by_cases h2:cnt<=1099511627776
 case neg=>
  have d2:decide (1099511627776<cnt)=true:=zt
  have e:R=false:=by rw[HR.out,decide_eq_false h2];simp
  have HE:=zh e;clear e
  go_wp2_with fail
  go_ret
  exact⟨by rw[HE.out];rfl,HB.out⟩
 have d2:decide (1099511627776<cnt)=false:=zf
 by_cases h3:S.length<=64
 case neg=>
  have d3:decide ((64:Int)<S.length)=true:=zt
  have e:R=false:=by rw[HR.out,decide_eq_false h3];simp
  have HE:=zh e;clear e
  go_wp2_with fail
  go_ret
  exact⟨by rw[HE.out];rfl,HB.out⟩
 have d3:decide ((64:Int)<S.length)=false:=zf
 have e:R=(Own.Aj Own.AO (fun x y=>Own.Ah x.pre y.pre) none S&&Own.Aj Own.Cy (fun x y=>Own.Ah x.pub y.pub) none K):=by
  rw[HR.out,decide_eq_true h1,decide_eq_true h2,decide_eq_true h3];simp
 have HR2:=zh e;clear e HR
 go_wp2_with fail
 generalize w.alloc (.cells #[.int .i64 cnt,.slice sa S.length sc,.slice ka K.length kc] 38)=w1 at*
 clear d1 d2 d3 h1 h2
 go_loopw [24] (fun i wr=>∃ k:Nat,k<=S.length/\i=.int .i64 k/\Own.Aj Own.AO (fun x y=>Own.Ah x.pre y.pre) none (S.take k)=true/\Below w1.heap.size w1 wr) (fun i _=>S.length-(intOf i).toNat)
 case atStart=>exact⟨0,by omega,rfl,rfl,Below.refl _ _⟩
 case round=>
  obtain⟨k,hk,rfl,hok,hb⟩:=hrel
  have HOK:=zh hok;have HBW:=zh hb
  have hz1:=HA.out.lt
  have hbs:=hb.size
  have ha2:=HA.out.below hb hz1
  obtain⟨c0,c1,c2⟩:=ha2.c3
  clear ha2
  by_cases hlt:k<S.length
  case neg=>
   have hke:k=S.length:=by omega
   have dk:decide ((k:Int)<S.length)=false:=zf
   have e:R=Own.Aj Own.Cy (fun x y=>Own.Ah x.pub y.pub) none K:=by
    rw[HR2.out]
    rw[hke,List.take_length] at hok
    rw[hok,Bool.true_and]
   have HR3:=zh e
   have HKW:=zh (HK.out.below hb)
   have HB2:=zh (HB.out.trans (hb.mono HB.out.size))
   have HA2:=zh (HA.out.below hb hz1)
   clear e hok hke hb HR2 HK HB HA HOK HBW HS HM
   go_wp2_with fail
   have hzw:w.heap.size<wr.heap.size:=by omega
   clear dk
   obtain⟨w5,hw5⟩:∃ w5,w5=wr:=⟨_,rfl⟩
   subst hw5
   go_loopw [52] (fun i wr=>∃ j:Nat,j<=K.length/\i=.int .i64 j/\Own.Aj Own.Cy (fun x y=>Own.Ah x.pub y.pub) none (K.take j)=true/\Below w5.heap.size w5 wr) (fun i _=>K.length-(intOf i).toNat)
   case atStart=>exact⟨0,by omega,rfl,rfl,Below.refl _ _⟩
   case round=>
    obtain⟨j,hj,rfl,hok,hb⟩:=hrel
    have HBX:=zh hb
    have ha2:=HA2.out.below hb hzw
    obtain⟨c0,c1,c2⟩:=ha2.c3
    clear ha2
    by_cases hlt:j<K.length
    case neg=>
     have hje:j=K.length:=by omega
     have dk:decide ((j:Int)<K.length)=false:=zf
     have e:R=true:=by rw[HR3.out,<- hok,hje,List.take_length]
     have HE:=zh e;clear e hok hb hje
     go_wp2_with fail
     go_ret
     exact⟨by rw[HE.out];rfl,HB2.out.trans (HBX.out.mono HB2.out.size)⟩
    have dk:decide ((j:Int)<K.length)=true:=zt
    have hra:R=((Own.Cy K[j]&&Own.ahead (fun x y=>Own.Ah x.pub y.pub) (K.take j).getLast? K[j])&&Own.Aj Own.Cy (fun x y=>Own.Ah x.pub y.pub) (some K[j]) (K.drop (j+1))):=by rw[HR3.out,Own.D7 _ _ K j hlt,hok,Bool.true_and]
    have htk:Own.Aj Own.Cy (fun x y=>Own.Ah x.pub y.pub) none (K.take (j+1))=(Own.Cy K[j]&&Own.ahead (fun x y=>Own.Ah x.pub y.pub) (K.take j).getLast? K[j]):=by rw[Own.CV _ _ K j hlt,hok,Bool.true_and]
    have hlk:=HKW.out.below hb
    obtain⟨b,o,ha,hbl,e0,e1⟩:=Own.Bo.cells hlk hlt
    have BR:∀ i,j=i+1->∃ x:Own.KeyUse,wr.cell? ⟨b,o+i*2,none⟩=some (.string x.pub)/\(K.take j).getLast? = some x:=by
     intro i hi
     obtain⟨b',o',ha',_,e0,_⟩:=Own.Bo.cells hlk (i:=i) (by omega)
     rw[ha] at ha'
     cases ha'
     have hg:=Own.getLast_take K i (by omega)
     rw[<- hi] at hg
     exact⟨_,e0,hg⟩
    subst ha
    obtain⟨ku,hku⟩:∃ x,x=K[j]:=⟨_,rfl⟩
    rw[<- hku] at hra htk e0 e1
    obtain⟨rest,hrest⟩:∃ x,x=Own.Aj Own.Cy (fun x y=>Own.Ah x.pub y.pub) (some ku) (K.drop (j+1)):=⟨_,rfl⟩
    rw[<- hrest] at hra
    obtain⟨pb,nx⟩:=ku
    have hkk:Own.Cy ⟨pb,nx⟩=(Sig.Bw pb&&decide (0<=nx)&&decide (nx<=2^(pb.get! 32).toNat)):=rfl
    rw[hkk] at hra htk
    dsimp only at hra htk e0 e1
    have hb5:Below w5.heap.size w5 (wr.alloc (.cells #[.string pb,.int .i64 nx] 91)).drew:=(hb.alloc hb.size _).drew
    have ha5:=((HA2.out.below hb hzw).alloc (.cells #[.string pb,.int .i64 nx] 91)).drew
    have b2:=ha5.cell 2
    simp only[zg] at b2
    have Du:=zh BR;have HB5:=zh hb5
    clear hok hb hlk BR hb5 ha5 hrest hku hkk HKW
    cases hp:Sig.Bw pb with
    | false =>
      have e:R=false:=by rw[hra,hp];rfl
      have HE:=zh e;clear e hra htk
      go_wp2_with fail
      refine Lex.zl ?_
      go_wp2_with fail
      refine(BO pb _).mono ?_
      rintro e2 w2 ⟨rfl,rfl⟩
      rw[hp]
      go_wp2_with fail
      refine Lex.ze ?_
      go_wp2_with fail
      go_ret
      exact⟨by rw[HE.out];rfl,HB2.out.trans (HB5.out.mono HB2.out.size)⟩
    | true=>
    rw[hp,Bool.true_and] at hra htk
    have h33:pb.size=33:=of_decide_eq_true (Bool.and_eq_true_iff.1 hp).1
    have h6:(pb.get! 32).toNat<=6:=of_decide_eq_true (Bool.and_eq_true_iff.1 hp).2
    have h32:32<pb.size:=by omega
    have hg:pb.get! 32=pb[32]:=getElem!_pos pb.data 32 h32
    rw[hg] at h6 hra htk
    obtain⟨N,hN⟩:∃ N:Nat,N=2^pb[32].toNat:=⟨_,rfl⟩
    have rC:N<=64:=by
     rw[hN]
     exact Nat.le_trans (Nat.pow_le_pow_right (by omega) h6) (by decide)
    have hNN:((2:Int)^pb[32].toNat)=(N:Int):=by rw[hN];exact(Int.natCast_pow 2 _).symm
    have hsh:wrap64 ((2:Int)^pb[32].toNat)=(N:Int):=by
     rw[hNN]
     unfold wrap64
     omega
    rw[hNN] at hra htk
    have H33:=zh h33;have HHP:=zh hp;have HSH:=zh hsh
    clear hN hNN hg h33 hp hsh
    have dsz:((pb.size:Int)==33)=true:=by rw[beq_iff_eq];have:=H33.out;omega
    by_cases n1:0<=nx
    case neg=>
     have dn1:decide (nx<0)=true:=zt
     have e:R=false:=by rw[hra,decide_eq_false n1];rfl
     have HE:=zh e;clear e hra htk
     go_wp2_with fail
     refine Lex.zl ?_
     go_wp2_with fail
     refine(BO pb _).mono ?_
     rintro e2 w2 ⟨rfl,rfl⟩
     rw[HHP.out]
     go_wp2_with (rw[HSH.out])
     refine Lex.ze ?_
     go_wp2_with fail
     go_ret
     exact⟨by rw[HE.out];rfl,HB2.out.trans (HB5.out.mono HB2.out.size)⟩
    have dn1:decide (nx<0)=false:=zf
    rw[decide_eq_true n1,Bool.true_and] at hra htk
    by_cases n2:nx<=(N:Int)
    case neg=>
     have dn2:decide ((N:Int)<nx)=true:=zt
     have e:R=false:=by rw[hra,decide_eq_false n2];rfl
     have HE:=zh e;clear e hra htk n1 n2
     go_wp2_with fail
     refine Lex.zl ?_
     go_wp2_with fail
     refine(BO pb _).mono ?_
     rintro e2 w2 ⟨rfl,rfl⟩
     rw[HHP.out]
     go_wp2_with (rw[HSH.out])
     refine Lex.ze ?_
     go_wp2_with fail
     go_ret
     exact⟨by rw[HE.out];rfl,HB2.out.trans (HB5.out.mono HB2.out.size)⟩
    have dn2:decide ((N:Int)<nx)=false:=zf
    rw[decide_eq_true n2,Bool.true_and] at hra htk
    rcases Nat.eq_zero_or_pos j with hj0|hjp
    ·have hl0:(K.take j).getLast? = none:=by rw[hj0];rfl
     rw[hl0] at htk
     have HT:=zh htk
     have HJ0:=zh hj0
     have dz:decide ((0:Int)<(j:Int))=false:=zf
     have dz' : decide (0<j)=false:=zf
     clear hl0 hra htk hj0
     go_wp2_with fail
     refine Lex.zl ?_
     go_wp2_with fail
     refine(BO pb _).mono ?_
     rintro e2 w2 ⟨rfl,rfl⟩
     rw[HHP.out]
     go_wp2_with (rw[HSH.out])
     refine Lex.ze ?_
     go_wp2_with fail
     go_round
     case measure=>simp[intOf];omega
     case rel=>exact⟨j+1,by omega,by go_num,HT.out,HB5.out⟩
    ·obtain⟨i,hi⟩:∃ i,j=i+1:=⟨j-1,by omega⟩
     obtain⟨x,f0,hx⟩:=Du.out i hi
     rw[hx] at hra htk
     have Cr:R=(Own.Ah x.pub pb&&rest):=hra
     have Cn:Own.Aj Own.Cy (fun x y=>Own.Ah x.pub y.pub) none (K.take (j+1))=Own.Ah x.pub pb:=htk
     unfold Own.Ah at Cr
     have dz:decide ((0:Int)<(j:Int))=true:=zt
     have dz' : decide (0<j)=true:=zt
     have ek:(j:Int)-1=(i:Int):=by omega
     have hjl:i<K.length:=by omega
     have f1:(wr.alloc (.cells #[.string pb,.int .i64 nx] 91)).cell? ⟨b,o+i*2,none⟩=some (.string x.pub):=(((Below.refl wr.heap.size wr).alloc (Nat.le_refl _) _).cell (p:=⟨b,o+i*2,none⟩) hbl).trans f0
     cases hlb:Op.bytesLess x.pub.toList pb.toList with
     | false =>
       have e:R=false:=by rw[Cr,hlb];rfl
       have HE:=zh e;clear e hra htk Cr Cn hx f0 hi
       go_wp2_with fail
       refine Lex.zl ?_
       go_wp2_with fail
       refine(BO pb _).mono ?_
       rintro e2 w2 ⟨rfl,rfl⟩
       rw[HHP.out]
       go_wp2_with (rw[HSH.out])
       refine Lex.ze ?_
       go_wp2_with fail
       go_ret
       exact⟨by rw[HE.out];rfl,HB2.out.trans (HB5.out.mono HB2.out.size)⟩
     | true =>
       have Xr:Own.Aj Own.Cy (fun x y=>Own.Ah x.pub y.pub) none (K.take (j+1))=true:=by rw[Cn];exact hlb
       have HT:=zh Xr
       clear hra htk Cr Cn Xr hx f0 hi
       go_wp2_with fail
       refine Lex.zl ?_
       go_wp2_with fail
       refine(BO pb _).mono ?_
       rintro e2 w2 ⟨rfl,rfl⟩
       rw[HHP.out]
       go_wp2_with (rw[HSH.out])
       refine Lex.ze ?_
       go_wp2_with fail
       go_round
       case measure=>simp[intOf];omega
       case rel=>exact⟨j+1,by omega,by go_num,HT.out,HB5.out⟩
  have dk:decide ((k:Int)<S.length)=true:=zt
  have hra:R=(((Own.AO S[k]&&Own.ahead (fun x y=>Own.Ah x.pre y.pre) (S.take k).getLast? S[k])&&Own.Aj Own.AO (fun x y=>Own.Ah x.pre y.pre) (some S[k]) (S.drop (k+1)))&&Own.Aj Own.Cy (fun x y=>Own.Ah x.pub y.pub) none K):=by rw[HR2.out,Own.D7 _ _ S k hlt,hok,Bool.true_and]
  have htk:Own.Aj Own.AO (fun x y=>Own.Ah x.pre y.pre) none (S.take (k+1))=(Own.AO S[k]&&Own.ahead (fun x y=>Own.Ah x.pre y.pre) (S.take k).getLast? S[k]):=by rw[Own.CV _ _ S k hlt,hok,Bool.true_and]
  have hlk:=HS.out.below hb
  obtain⟨b,o,mv,ha,hbl,e0,e1,e2,hmv⟩:=Own.AJ.cells hlk hlt
  have BR:∀ i,k=i+1->∃ x:Own.Space,wr.cell? ⟨b,o+i*3,none⟩=some (.string x.pre)/\(S.take k).getLast? = some x:=by
   intro i hi
   obtain⟨b',o',_,ha',_,e0,_⟩:=Own.AJ.cells hlk (i:=i) (by omega)
   rw[ha] at ha'
   cases ha'
   have hg:=Own.getLast_take S i (by omega)
   rw[<- hi] at hg
   exact⟨_,e0,hg⟩
  subst ha
  have hml:=HLM.out S[k] (List.getElem_mem hlt)
  obtain⟨sp,hsp⟩:∃ x,x=S[k]:=⟨_,rfl⟩
  rw[<- hsp] at hra htk e0 e2 hmv hml
  obtain⟨rest,hrest⟩:∃ x,x=(Own.Aj Own.AO (fun x y=>Own.Ah x.pre y.pre) (some sp) (S.drop (k+1))&&Own.Aj Own.Cy (fun x y=>Own.Ah x.pub y.pub) none K):=⟨_,rfl⟩
  rw[Bool.and_assoc,<- hrest] at hra
  obtain⟨ma,mc,rfl⟩:=hmv.len
  have hb5:Below w1.heap.size w1 (wr.alloc (.cells #[.string sp.pre,.slice ma sp.members.length mc,.int .i64 sp.threshold] 70)).drew:=(hb.alloc hb.size _).drew
  have DT:Below wr.heap.size wr (wr.alloc (.cells #[.string sp.pre,.slice ma sp.members.length mc,.int .i64 sp.threshold] 70)).drew:=zb.drew
  have hn5:=(At.new wr 70 #[.string sp.pre,.slice ma sp.members.length mc,.int .i64 sp.threshold]).drew
  have hz5:(wr.alloc (.cells #[.string sp.pre,.slice ma sp.members.length mc,.int .i64 sp.threshold] 70)).drew.heap.size=wr.heap.size+1:=World.size_alloc _ _
  have Rh:=Vl (.slice ma sp.members.length mc) sp _ ((HM.out.below hb).below DT) (hmv.below DT) hml
  have LU:=zh Rh;have Du:=zh BR;have HB5:=zh hb5;have EW:=zh DT;have HN5:=zh hn5;have HZ5:=zh hz5
  clear hok hb hlk BR hb5 DT hn5 Rh hrest hsp hmv hz5
  cases hs:Own.AO sp with
  | false =>
    have e:R=false:=by rw[hra,hs];rfl
    have HE:=zh e;clear e hra htk
    go_wp2_with fail
    refine Lex.zl ?_
    go_wp2_with fail
    refine LU.out.mono ?_
    rintro e2 w7 ⟨rfl,hb7⟩
    rw[hs]
    have HB7:=zh (HB.out.trans ((HB5.out.trans (hb7.mono HB5.out.size)).mono HB.out.size));clear hb7
    go_wp2_with fail
    refine Lex.ze ?_
    go_wp2_with fail
    go_ret
    exact⟨by rw[HE.out];rfl,HB7.out⟩
  | true=>
  rw[hs,Bool.true_and] at hra htk
  have HHS:=zh hs;clear hs
  rcases Nat.eq_zero_or_pos k with hk0|hkp
  ·have hl0:(S.take k).getLast? = none:=by rw[hk0];rfl
   rw[hl0] at htk
   have Ri : Own.Aj Own.AO (fun x y=>Own.Ah x.pre y.pre) none (S.take (k+1))=true:=htk
   have HT:=zh Ri
   have HK0:=zh hk0
   have dz:decide ((0:Int)<(k:Int))=false:=zf
   have dz' : decide (0<k)=false:=zf
   clear hl0 hra htk Ri hk0
   go_wp2_with fail
   refine Lex.zl ?_
   go_wp2_with fail
   refine LU.out.mono ?_
   rintro e3 w7 ⟨rfl,hb7⟩
   rw[HHS.out]
   have Dq:=HB5.out.trans (hb7.mono HB5.out.size)
   have g1:=((HA.out.below Dq hz1)).cell 1
   have g0:=(HN5.out.below hb7 HN5.out.lt).cell 0
   simp only[zg] at g0 g1
   try have f1:=((EW.out.trans (hb7.mono EW.out.size)).cell (p:=⟨b,o+i*3,none⟩) hbl).trans F0.out
   have HB7:=zh Dq;clear hb7 Dq
   go_wp2_with fail
   refine Lex.ze ?_
   go_wp2_with fail
   go_round
   case measure=>simp[intOf];omega
   case rel=>exact⟨k+1,by omega,by go_num,HT.out,HB7.out⟩
  ·obtain⟨i,hi⟩:∃ i,k=i+1:=⟨k-1,by omega⟩
   obtain⟨x,f0,hx⟩:=Du.out i hi
   rw[hx] at hra htk
   have Cr:R=(Own.Ah x.pre sp.pre&&rest):=hra
   have Cn:Own.Aj Own.AO (fun x y=>Own.Ah x.pre y.pre) none (S.take (k+1))=Own.Ah x.pre sp.pre:=htk
   have dz:decide ((0:Int)<(k:Int))=true:=zt
   have dz' : decide (0<k)=true:=zt
   have ek:(k:Int)-1=(i:Int):=by omega
   have hjl:i<S.length:=by omega
   have F0:=zh f0
   cases hlb:Own.Ah x.pre sp.pre with
   | false =>
     have e:R=false:=by rw[Cr,hlb];rfl
     have HE:=zh e
     have jm : Op.bytesLess x.pre.toList sp.pre.toList=false:=hlb
     clear e hra htk Cr Cn hx f0 hi hlb
     go_wp2_with fail
     refine Lex.zl ?_
     go_wp2_with fail
     refine LU.out.mono ?_
     rintro e3 w7 ⟨rfl,hb7⟩
     rw[HHS.out]
     have Dq:=HB5.out.trans (hb7.mono HB5.out.size)
     have g1:=((HA.out.below Dq hz1)).cell 1
     have g0:=(HN5.out.below hb7 HN5.out.lt).cell 0
     simp only[zg] at g0 g1
     try have f1:=((EW.out.trans (hb7.mono EW.out.size)).cell (p:=⟨b,o+i*3,none⟩) hbl).trans F0.out
     have HB7:=zh Dq;clear hb7 Dq
     go_wp2_with fail
     refine Lex.ze ?_
     go_wp2_with fail
     go_ret
     exact⟨by rw[HE.out];rfl,HB.out.trans (HB7.out.mono HB.out.size)⟩
   | true =>
     rw[hlb] at Cn
     have HT:=zh Cn
     have jm : Op.bytesLess x.pre.toList sp.pre.toList=true:=hlb
     clear hra htk Cr Cn hx f0 hi hlb
     go_wp2_with fail
     refine Lex.zl ?_
     go_wp2_with fail
     refine LU.out.mono ?_
     rintro e3 w7 ⟨rfl,hb7⟩
     rw[HHS.out]
     have Dq:=HB5.out.trans (hb7.mono HB5.out.size)
     have g1:=((HA.out.below Dq hz1)).cell 1
     have g0:=(HN5.out.below hb7 HN5.out.lt).cell 0
     simp only[zg] at g0 g1
     try have f1:=((EW.out.trans (hb7.mono EW.out.size)).cell (p:=⟨b,o+i*3,none⟩) hbl).trans F0.out
     have HB7:=zh Dq;clear hb7 Dq
     go_wp2_with fail
     refine Lex.ze ?_
     go_wp2_with fail
     go_round
     case measure=>simp[intOf];omega
     case rel=>exact⟨k+1,by omega,by go_num,HT.out,HB7.out⟩
namespace Own
def Ie (m:Member):List Value:=[.string m.name,.string m.pub]
def Co (k:KeyUse):List Value:=[.string k.pub,.int .i64 k.next]
def BP (v:Vote):List Value:=[.string v.name,.string v.pub,.bool v.agrees]
end Own
theorem MO {α : Type}{enc : α -> List Value} : ∀ {css:List (List Value)} {l:List α},css.length=l.length->(∀ i (hi:i<l.length) (hi' : i<css.length),css[i]=enc l[i])->css.flatten=l.flatMap enc
 | [],[],_,_=>rfl
 | c :: css,x :: l,hl,h => by
   have h0:c=enc x:=h 0 (by simp) (by simp)
   rw[List.flatten_cons,List.flatMap_cons,h0,MO (by simpa using hl) (fun i hi hi' => h (i+1) (by simp;omega) (by simp;omega))]
 | [],_::_,hl,_=>by simp at hl
 | _::_,[],hl,_=>by simp at hl
section
variable {w w' : World} {v:Value} {F:Nat->Prop}
theorem NZ {α : Type}{size:Nat}{R:Elem α}{enc : α -> List Value}(hR:∀ cs x,R F w cs x->cs=enc x){l:List α}(h:Ag size R F w v l):Bz w v size l.length (l.flatMap enc):=by
 obtain⟨css,h1,h2,h3⟩:=h.cells
 have:css.flatten=l.flatMap enc:=MO h1 (fun i hi hi' => hR _ _ (h2 i hi hi').2)
 rw[<- this]
 exact h3
theorem Ck {α : Type}{size n:Nat}{R:Elem α}{enc : α -> List Value}(hR:∀ x,R F w (enc x) x)(hs:∀ x,(enc x).length=size){l:List α}(h:Bz w v size n (l.flatMap enc))(hn:n=l.length)(hF:∀ k,v.ownBlock=some k->F k):Ag size R F w v l:=by
 refine Ag.PX (css:=l.map enc) (by rw[<- List.flatMap_def];exact h) hn (by simp) hF (fun i hi hi' => ?_)
 rw[List.getElem_map]
 exact⟨hs _,hR _⟩
end
namespace Own
theorem Ar.rows {w:World}{v:Value}{l:List Member}(h:Ar w v l):Bz w v 2 l.length (l.flatMap Ie):=NZ (fun _ _ h=>h) h
theorem Bo.rows {w:World}{v:Value}{l:List KeyUse}(h:Bo w v l):Bz w v 2 l.length (l.flatMap Co):=NZ (fun _ _ h=>h) h
theorem Br.rows {w:World}{v:Value}{l:List Vote}(h:Br w v l):Bz w v 3 l.length (l.flatMap BP):=NZ (fun _ _ h=>h) h
theorem Ar.of {w:World}{v:Value}{n:Nat}{l:List Member}(h:Bz w v 2 n (l.flatMap Ie))(hn:n=l.length):Ar w v l:=Ck (enc:=Ie) (fun _=>rfl) (fun _=>rfl) h hn (fun _ _=>trivial)
theorem Bo.of {w:World}{v:Value}{n:Nat}{l:List KeyUse}(h:Bz w v 2 n (l.flatMap Co))(hn:n=l.length):Bo w v l:=Ck (enc:=Co) (fun _=>rfl) (fun _=>rfl) h hn (fun _ _=>trivial)
theorem Br.of {w:World}{v:Value}{n:Nat}{l:List Vote}(h:Bz w v 3 n (l.flatMap BP))(hn:n=l.length):Br w v l:=Ck (enc:=BP) (fun _=>rfl) (fun _=>rfl) h hn (fun _ _=>trivial)
theorem jo (l:List Member):∀ u∈l.flatMap Ie,u.oneCell' = true:=by
 intro u hu
 obtain⟨x,_,hx⟩:=List.mem_flatMap.1 hu
 unfold Ie at hx
 simp at hx
 rcases hx with rfl|rfl<;>rfl
theorem qC (l:List KeyUse):∀ u∈l.flatMap Co,u.oneCell' = true:=by
 intro u hu
 obtain⟨x,_,hx⟩:=List.mem_flatMap.1 hu
 unfold Co at hx
 simp at hx
 rcases hx with rfl|rfl<;>rfl
theorem jq (l:List Vote):∀ u∈l.flatMap BP,u.oneCell' = true:=by
 intro u hu
 obtain⟨x,_,hx⟩:=List.mem_flatMap.1 hu
 unfold BP at hx
 simp at hx
 rcases hx with rfl|rfl|rfl<;>rfl
end Own
theorem GD:Nonempty (Gi Tryz.prog 68 73 2 32):=Ef (z:=.agg #[.string ⟨#[]⟩,.string ⟨#[]⟩]) Tryz.underlying68 (by kernel_rfl) rfl (by omega)
theorem DX:Nonempty (Gi Tryz.prog 36 91 2 24):=Ef (z:=.agg #[.string ⟨#[]⟩,.int .i64 0]) Tryz.underlying36 (by kernel_rfl) rfl (by omega)
theorem Dk:Nonempty (Gi Tryz.prog 44 82 3 40):=Ef (z:=.agg #[.string ⟨#[]⟩,.string ⟨#[]⟩,.bool false]) Tryz.underlying44 (by kernel_rfl) rfl (by omega)
theorem Zt:Nonempty (Gi Tryz.prog 35 70 3 48):=Ef (z:=.agg #[.string ⟨#[]⟩,.slice none 0 0,.int .i64 0]) Tryz.underlying35 (by kernel_rfl) rfl (by omega)
theorem K9:Nonempty (Gi Tryz.prog 22 46 6 80):=Ef (z:=.agg #[.int .i64 0,.string ⟨#[]⟩,.string ⟨#[]⟩,.int .i64 0,.int .i64 0,.slice none 0 0]) Tryz.underlying22 (by kernel_rfl) rfl (by omega)
theorem Ld (v:Value)(n:Nat)(xs:List Value)(w:World)(h:Bz w v 2 n xs)(h1:∀ u∈xs,u.oneCell' = true)(hn:n<=3000000):
 Calls Tryz.prog 36 #[v] w fun e w' => ∃ v',e=.returned v' /\ w'.ownsRow w.heap.size 73 2 v' n xs/\Below w.heap.size w w':=by
 obtain⟨a,c,rfl⟩:=h.len
 have H:=zh h;have H1:=zh h1;clear h h1
 have q22:∀ (w:World) (a:Option Addr) (n c n' c' : Nat),(binOp .eql 68 (.slice a n c) (.slice none n' c')).run Tryz.prog w=.ok (.bool a.isNone) w:=fun w a n c n' c' => Lib.run_eql_slice_nil w _ _ a n c n' c' Tryz.underlying68
 go_enter Tryz.func36,Tryz.ntmps36
 cases a with
 | none =>
   have h0:n=0/\xs=[]:=by
    obtain⟨hl,a',c',he,h0|⟨b,o,hb,_⟩⟩:=H.out
    ·subst h0
     exact⟨rfl,List.eq_nil_of_length_eq_zero (by simpa using hl)⟩
    ·cases he;cases hb
   obtain⟨rfl,rfl⟩:=h0
   go_wp2_with fail
   go_ret
   exact⟨_,rfl,⟨rfl,.inl ⟨rfl,rfl⟩⟩,Below.refl _ _⟩
 | some p =>
   have hb1:Below w.heap.size w (w.alloc (.cells #[] 73)):=zb
   have HO:=zh (ES w 73 2 w.heap.size (Nat.le_refl _));have H2:=zh (H.out.below hb1);have HB1:=zh hb1
   clear hb1
   go_wp2_with (at_builtin;go_must (refine Ai GD rfl _ _ rfl w.heap.size 0 _ [] rfl HO.out (.slice (some p) n c) n xs rfl H2.out H1.out (by omega) (by omega) HB1.out.size ?_);intro v5 w5 ho5 hg5 _;obtain⟨va,vm,vc,rfl⟩:=Ac ho5;have HB5:=zh (Bc HB1.out HB1.out.size HO.out hg5);rw[Nat.zero_add,List.nil_append] at ho5;have HO5:=zh ho5;clear ho5 hg5)
   go_ret
   exact⟨_,rfl,HO5.out,HB5.out⟩
theorem Zu (v:Value)(n:Nat)(xs:List Value)(w:World)(h:Bz w v 2 n xs)(h1:∀ u∈xs,u.oneCell' = true)(hn:n<=3000000):
 Calls Tryz.prog 168 #[v] w fun e w' => ∃ v',e=.returned v' /\ w'.ownsRow w.heap.size 91 2 v' n xs/\Below w.heap.size w w':=by
 obtain⟨a,c,rfl⟩:=h.len
 have H:=zh h;have H1:=zh h1;clear h h1
 have q22:∀ (w:World) (a:Option Addr) (n c n' c' : Nat),(binOp .eql 36 (.slice a n c) (.slice none n' c')).run Tryz.prog w=.ok (.bool a.isNone) w:=fun w a n c n' c' => Lib.run_eql_slice_nil w _ _ a n c n' c' Tryz.underlying36
 go_enter Tryz.func168,Tryz.ntmps168
 cases a with
 | none =>
   have h0:n=0/\xs=[]:=by
    obtain⟨hl,a',c',he,h0|⟨b,o,hb,_⟩⟩:=H.out
    ·subst h0
     exact⟨rfl,List.eq_nil_of_length_eq_zero (by simpa using hl)⟩
    ·cases he;cases hb
   obtain⟨rfl,rfl⟩:=h0
   go_wp2_with fail
   go_ret
   exact⟨_,rfl,⟨rfl,.inl ⟨rfl,rfl⟩⟩,Below.refl _ _⟩
 | some p =>
   have hb1:Below w.heap.size w (w.alloc (.cells #[] 91)):=zb
   have HO:=zh (ES w 91 2 w.heap.size (Nat.le_refl _));have H2:=zh (H.out.below hb1);have HB1:=zh hb1
   clear hb1
   go_wp2_with (at_builtin;go_must (refine Ai DX rfl _ _ rfl w.heap.size 0 _ [] rfl HO.out (.slice (some p) n c) n xs rfl H2.out H1.out (by omega) (by omega) HB1.out.size ?_);intro v5 w5 ho5 hg5 _;obtain⟨va,vm,vc,rfl⟩:=Ac ho5;have HB5:=zh (Bc HB1.out HB1.out.size HO.out hg5);rw[Nat.zero_add,List.nil_append] at ho5;have HO5:=zh ho5;clear ho5 hg5)
   go_ret
   exact⟨_,rfl,HO5.out,HB5.out⟩
theorem Xt (v:Value)(n:Nat)(xs:List Value)(w:World)(h:Bz w v 3 n xs)(h1:∀ u∈xs,u.oneCell' = true)(hn:n<=3000000):
 Calls Tryz.prog 111 #[v] w fun e w' => ∃ v',e=.returned v' /\ w'.ownsRow w.heap.size 82 3 v' n xs/\Below w.heap.size w w':=by
 obtain⟨a,c,rfl⟩:=h.len
 have H:=zh h;have H1:=zh h1;clear h h1
 have q22:∀ (w:World) (a:Option Addr) (n c n' c' : Nat),(binOp .eql 44 (.slice a n c) (.slice none n' c')).run Tryz.prog w=.ok (.bool a.isNone) w:=fun w a n c n' c' => Lib.run_eql_slice_nil w _ _ a n c n' c' Tryz.underlying44
 go_enter Tryz.func111,Tryz.ntmps111
 cases a with
 | none =>
   have h0:n=0/\xs=[]:=by
    obtain⟨hl,a',c',he,h0|⟨b,o,hb,_⟩⟩:=H.out
    ·subst h0
     exact⟨rfl,List.eq_nil_of_length_eq_zero (by simpa using hl)⟩
    ·cases he;cases hb
   obtain⟨rfl,rfl⟩:=h0
   go_wp2_with fail
   go_ret
   exact⟨_,rfl,⟨rfl,.inl ⟨rfl,rfl⟩⟩,Below.refl _ _⟩
 | some p =>
   have hb1:Below w.heap.size w (w.alloc (.cells #[] 82)):=zb
   have HO:=zh (ES w 82 3 w.heap.size (Nat.le_refl _));have H2:=zh (H.out.below hb1);have HB1:=zh hb1
   clear hb1
   go_wp2_with (at_builtin;go_must (refine Ai Dk rfl _ _ rfl w.heap.size 0 _ [] rfl HO.out (.slice (some p) n c) n xs rfl H2.out H1.out (by omega) (by omega) HB1.out.size ?_);intro v5 w5 ho5 hg5 _;obtain⟨va,vm,vc,rfl⟩:=Ac ho5;have HB5:=zh (Bc HB1.out HB1.out.size HO.out hg5);rw[Nat.zero_add,List.nil_append] at ho5;have HO5:=zh ho5;clear ho5 hg5)
   go_ret
   exact⟨_,rfl,HO5.out,HB5.out⟩
theorem Vm (v:Value)(n:Nat)(xs:List Value)(w:World)(h:Bz w v 3 n xs)(h1:∀ u∈xs,u.oneCell' = true)(hn:n<=3000000):
 Calls Tryz.prog 98 #[v] w fun e w' => ∃ v',e=.returned v' /\ w'.ownsRow w.heap.size 70 3 v' n xs/\Below w.heap.size w w':=by
 obtain⟨a,c,rfl⟩:=h.len
 have H:=zh h;have H1:=zh h1;clear h h1
 have q22:∀ (w:World) (a:Option Addr) (n c n' c' : Nat),(binOp .eql 35 (.slice a n c) (.slice none n' c')).run Tryz.prog w=.ok (.bool a.isNone) w:=fun w a n c n' c' => Lib.run_eql_slice_nil w _ _ a n c n' c' Tryz.underlying35
 go_enter Tryz.func98,Tryz.ntmps98
 cases a with
 | none =>
   have h0:n=0/\xs=[]:=by
    obtain⟨hl,a',c',he,h0|⟨b,o,hb,_⟩⟩:=H.out
    ·subst h0
     exact⟨rfl,List.eq_nil_of_length_eq_zero (by simpa using hl)⟩
    ·cases he;cases hb
   obtain⟨rfl,rfl⟩:=h0
   go_wp2_with fail
   go_ret
   exact⟨_,rfl,⟨rfl,.inl ⟨rfl,rfl⟩⟩,Below.refl _ _⟩
 | some p =>
   have hb1:Below w.heap.size w (w.alloc (.cells #[] 70)):=zb
   have HO:=zh (ES w 70 3 w.heap.size (Nat.le_refl _));have H2:=zh (H.out.below hb1);have HB1:=zh hb1
   clear hb1
   go_wp2_with (at_builtin;go_must (refine Ai Zt rfl _ _ rfl w.heap.size 0 _ [] rfl HO.out (.slice (some p) n c) n xs rfl H2.out H1.out (by omega) (by omega) HB1.out.size ?_);intro v5 w5 ho5 hg5 _;obtain⟨va,vm,vc,rfl⟩:=Ac ho5;have HB5:=zh (Bc HB1.out HB1.out.size HO.out hg5);rw[Nat.zero_add,List.nil_append] at ho5;have HO5:=zh ho5;clear ho5 hg5)
   go_ret
   exact⟨_,rfl,HO5.out,HB5.out⟩
end
section
open Go Go.RowKit Go.Maps
namespace Own
def longer (b:Option Space)(x:Space):Bool:=match b with
 | none=>true
 | some y=>decide (y.pre.size<x.pre.size)
def GH (s:ByteArray)(b:Option Space)(x:Space):Option Space:=if belongs s x.pre&&longer b x then some x else b
theorem EG (s:ByteArray)(b:Option Space)(x:Space)(l:List Space):ET s b (x::l)=ET s (GH s b x) l:=by
 cases b<;>rfl
theorem Rj (s:ByteArray)(x:Space):∀ (l:List Space) (b:Option Space),ET s b (l++[x])=GH s (ET s b l) x
 | [],b=>by rw[List.nil_append,EG];rfl
 | y::l,b=>by rw[List.cons_append,EG,Rj s x l,EG]
theorem Rk (s:ByteArray)(l:List Space)(k:Nat)(hk:k<l.length):ET s none (l.take (k+1))=GH s (ET s none (l.take k)) l[k]:=by
 rw[List.take_succ_eq_append_getElem hk,Rj]
def Zv (l:List Space)(b:Option Space)(i:Int):Prop:=(i = -1/\b=none)\/∃ j:Nat,i=(j:Int)/\∃ h:j<l.length,b=some l[j]
end Own
theorem Pq (o:Own.Ak)(s:ByteArray)(sv kv:Value)(w:World)(hS:Own.AJ w sv o.spaces)(hls:o.spaces.length<=64)(hp:∀ x∈o.spaces,x.pre.size<=64):
 Calls Tryz.prog 93 #[.agg #[.int .i64 o.count,sv,kv],.string s] w fun e w' => (∃ i,e=.returned (.int .i64 i)/\Own.Zv o.spaces (Own.ET s none o.spaces) i)/\Below w.heap.size w w':=by
 obtain⟨sa,sc,rfl⟩:=hS.len
 obtain⟨cnt,S,K⟩:=o
 dsimp only at*
 have ha:=At.new w 38 #[.int .i64 cnt,.slice sa S.length sc,kv]
 have hb1:Below w.heap.size w (w.alloc (.cells #[.int .i64 cnt,.slice sa S.length sc,kv] 38)):=zb
 have HS:=zh (hS.below hb1);have HB:=zh hb1;have HA:=zh ha;have HP:=zh hp
 have c0:=ha.cell 0;have c1:=ha.cell 1;have c2:=ha.cell 2
 simp only[zg] at c0 c1 c2
 obtain⟨B,hB⟩:∃ B:List Own.Space->Option Own.Space,B=Own.ET s none:=⟨_,rfl⟩
 have hB0:B []=none:=by rw[hB];rfl
 have hBs:∀ k (hk:k<S.length),B (S.take (k+1))=Own.GH s (B (S.take k)) S[k]:=fun k hk=>by rw[hB];exact Own.Rk s S k hk
 rw[<- hB]
 have HBS:=zh hBs
 clear hS ha hb1 hp hB hBs
 go_enter Tryz.func93,Tryz.ntmps93
 go_wp2_with fail
 generalize w.alloc (.cells #[.int .i64 cnt,.slice sa S.length sc,kv] 38)=w1 at*
 go_loopw [5,11] (fun r i wr=>∃ k:Nat,k<=S.length/\i=.int .i64 k/\(∃ b,r=.int .i64 b/\Own.Zv S (B (S.take k)) b)/\Below w1.heap.size w1 wr) (fun _ i _=>S.length-(intOf i).toNat)
 case atStart=>exact⟨0,by omega,rfl,⟨-1,rfl,.inl ⟨rfl,hB0⟩⟩,Below.refl _ _⟩
 case round=>
  obtain⟨k,hk,rfl,⟨bi,rfl,hbi⟩,hb⟩:=hrel
  have HBW:=zh hb
  have hz1:=HA.out.lt
  have hbs:=hb.size
  have ha2:=HA.out.below hb hz1
  have d1:=ha2.cell 1
  simp only[zg] at d1
  clear ha2
  by_cases hlt:k<S.length
  case neg=>
   have hke:k=S.length:=by omega
   have dk:decide ((k:Int)<S.length)=false:=zf
   rw[hke,List.take_length] at hbi
   have HBI:=zh hbi
   clear hbi hb hke
   go_wp2_with fail
   go_ret
   exact⟨⟨_,rfl,HBI.out⟩,HB.out.trans (HBW.out.mono HB.out.size)⟩
  have dk:decide ((k:Int)<S.length)=true:=zt
  have hlk:=HS.out.below hb
  obtain⟨b,o,mv,ha,hbl,e0,e1,e2,hmv⟩:=Own.AJ.cells hlk hlt
  have hpk:=HP.out S[k] (List.getElem_mem hlt)
  have hst:=HBS.out k hlt
  have BR:∀ j (hj:j<S.length),wr.cell? ⟨b,o+j*3,none⟩=some (.string S[j].pre):=by
   intro j hj
   obtain⟨b',o',_,ha',_,e0,_⟩:=Own.AJ.cells hlk hj
   rw[ha] at ha'
   cases ha'
   exact e0
  subst ha
  obtain⟨ma,mc,rfl⟩:=hmv.len
  obtain⟨pre,hpre⟩:∃ x,x=S[k].pre:=⟨_,rfl⟩
  obtain⟨mm,hmm⟩:∃ x,x=S[k].members:=⟨_,rfl⟩
  obtain⟨th,hth⟩:∃ x,x=S[k].threshold:=⟨_,rfl⟩
  rw[<- hpre] at e0 hpk
  rw[<- hmm] at e1
  rw[<- hth] at e2
  have hb5:Below w1.heap.size w1 (wr.alloc (.cells #[.string pre,.slice ma mm.length mc,.int .i64 th] 70)).drew:=(hb.alloc hb.size _).drew
  have DT:Below wr.heap.size wr (wr.alloc (.cells #[.string pre,.slice ma mm.length mc,.int .i64 th] 70)):=zb
  have f1:=(HA.out.below (hb5) hz1).cell 1
  simp only[zg] at f1
  have LW:=zh hpre;have HST:=zh hst;have HBI:=zh hbi;have HB5:=zh hb5;have Du:=zh BR
  have hbel:=fun W=>S9 s pre W (by omega)
  have Rl:=zh hbel
  clear hb hlk BR hmv hb5 hbel hpre hmm hth hst hbi
  cases hbg:Own.belongs s pre with
  | false =>
    have hn:B (S.take (k+1))=B (S.take k):=by rw[HST.out];unfold Own.GH;rw[<- LW.out,hbg];rfl
    have HN:=zh hn
    clear hn
    go_wp2_with fail
    refine Lex.zl ?_
    go_wp2_with fail
    refine(Rl.out _).mono ?_
    rintro e3 w7 ⟨rfl,rfl⟩
    rw[hbg]
    go_wp2_with fail
    refine Lex.ze ?_
    go_wp2_with fail
    go_round
    case measure=>simp[intOf];omega
    case rel=>exact⟨k+1,by omega,by go_num,⟨bi,rfl,by rw[HN.out];exact HBI.out⟩,HB5.out⟩
  | true=>
  rcases HBI.out with ⟨h1,h2⟩|⟨j,h1,hj,h2⟩
  ·have hn:B (S.take (k+1))=some S[k]:=by rw[HST.out,h2];unfold Own.GH;rw[<- LW.out,hbg];rfl
   have HN:=zh hn
   subst h1
   clear hn h2
   go_wp2_with fail
   refine Lex.zl ?_
   go_wp2_with fail
   refine(Rl.out _).mono ?_
   rintro e3 w7 ⟨rfl,rfl⟩
   rw[hbg]
   go_wp2_with fail
   refine Lex.ze ?_
   go_wp2_with fail
   go_round
   case measure=>simp[intOf];omega
   case rel=>exact⟨k+1,by omega,by go_num,⟨k,rfl,.inr ⟨k,rfl,hlt,HN.out⟩⟩,HB5.out⟩
  ·have g0:=Du.out j hj
   obtain⟨pn,hpn⟩:∃ x,x=S[j].pre:=⟨_,rfl⟩
   rw[<- hpn] at g0
   have g1:(wr.alloc (.cells #[.string pre,.slice ma mm.length mc,.int .i64 th] 70)).cell? ⟨b,o+j*3,none⟩=some (.string pn):=(DT.cell (p:=⟨b,o+j*3,none⟩) hbl).trans g0
   have hn:B (S.take (k+1))=if decide (pn.size<pre.size) then some S[k] else some S[j]:=by
    rw[HST.out,h2,hpn,LW.out];unfold Own.GH;rw[<- LW.out,hbg,LW.out];rfl
   have HN:=zh hn
   subst h1
   have dj:decide ((j:Int)<0)=false:=zf
   clear hn h2 g0 hpn
   by_cases hlg:pn.size<pre.size
   ·have dl:decide ((pn.size:Int)<(pre.size:Int))=true:=zt
    have dl' : decide (pn.size<pre.size)=true:=decide_eq_true hlg
    go_wp2_with fail
    refine Lex.zl ?_
    go_wp2_with fail
    refine(Rl.out _).mono ?_
    rintro e3 w7 ⟨rfl,rfl⟩
    rw[hbg]
    go_wp2_with fail
    refine Lex.ze ?_
    go_wp2_with fail
    go_round
    case measure=>simp[intOf];omega
    case rel=>exact⟨k+1,by omega,by go_num,⟨k,rfl,.inr ⟨k,rfl,hlt,by rw[HN.out,dl'];rfl⟩⟩,HB5.out⟩
   ·have dl:decide ((pn.size:Int)<(pre.size:Int))=false:=zf
    have dl' : decide (pn.size<pre.size)=false:=decide_eq_false hlg
    go_wp2_with fail
    refine Lex.zl ?_
    go_wp2_with fail
    refine(Rl.out _).mono ?_
    rintro e3 w7 ⟨rfl,rfl⟩
    rw[hbg]
    go_wp2_with fail
    refine Lex.ze ?_
    go_wp2_with fail
    go_round
    case measure=>simp[intOf];omega
    case rel=>exact⟨k+1,by omega,by go_num,⟨j,rfl,.inr ⟨j,rfl,hj,by rw[HN.out,dl'];rfl⟩⟩,HB5.out⟩
theorem Dc:(Tryz.prog.info? 70).map (·.size)=some 3:=by kernel_rfl
theorem Am:(Tryz.prog.info? 38).map (·.size)=some 3:=by kernel_rfl
theorem JQ:(Tryz.prog.info? 73).map (·.size)=some 2:=by kernel_rfl
theorem GI (pre:ByteArray)(th:Int)(v:Value)(l:List Own.Member)(w:World)(h:Own.Ar w v l)(hl:l.length<=3000000):
 Calls Tryz.prog 94 #[.agg #[.string pre,v,.int .i64 th]] w fun e w' => ∃ v',e=.returned (.agg #[.string pre,v',.int .i64 th])/\w'.ownsRow w.heap.size 73 2 v' l.length (l.flatMap Own.Ie)/\Below w.heap.size w w':=by
 have ha1:=(At.new w 70 #[.string pre,v,.int .i64 th]).alloc (.cells #[.string ⟨#[]⟩,.slice none 0 0,.int .i64 0] 70)
 have ha2:=At.new1 w (.cells #[.string pre,v,.int .i64 th] 70) 70 #[.string ⟨#[]⟩,.slice none 0 0,.int .i64 0]
 have hb1:Below w.heap.size w ((w.alloc (.cells #[.string pre,v,.int .i64 th] 70)).alloc (.cells #[.string ⟨#[]⟩,.slice none 0 0,.int .i64 0] 70)):=zb.alloc (by simp) _
 obtain⟨a,c,rfl⟩:=h.len
 have H:=zh (h.below hb1);have HA1:=zh ha1;have HA2:=zh ha2;have HB1:=zh hb1
 have c1:=ha1.cell 1
 simp only[zg] at c1
 clear h ha1 ha2 hb1
 go_enter Tryz.func94,Tryz.ntmps94
 go_wp2_with fail
 have hz:((w.alloc (.cells #[.string pre,.slice a l.length c,.int .i64 th] 70)).alloc (.cells #[.string ⟨#[]⟩,.slice none 0 0,.int .i64 0] 70)).heap.size=w.heap.size+2:=by simp
 generalize (w.alloc (.cells #[.string pre,.slice a l.length c,.int .i64 th] 70)).alloc (.cells #[.string ⟨#[]⟩,.slice none 0 0,.int .i64 0] 70)=w1 at*
 refine(Ld _ l.length _ w1 (Own.Ar.rows H.out) (Own.jo l) hl).mono ?_
 rintro e w2 ⟨v',rfl,ho,hb⟩
 have ha1:=HA1.out.below hb (by omega)
 have ha2:=HA2.out.below hb (by omega)
 have hne1:=ha1.own_ne ho (by decide)
 have hne2:=ha2.own_ne ho (by decide)
 have hb2:=HB1.out.trans (hb.mono HB1.out.size)
 have z1:=ha1.free 1;have y0:=ha1.cell 0;have y1:=ha1.cell 1;have y2:=ha1.cell 2
 have x0:=ha2.cell 0;have x1:=ha2.cell 1;have x2:=ha2.cell 2;have x3:=ha2.free 0;have x4:=ha2.free 1;have x5:=ha2.free 2
 simp only[zg] at y0 y1 y2 x0 x1 x2
 obtain⟨va,vm,vc,rfl⟩:=Ac ho
 have HO:=zh ho;have G1:=zh ha1;have G2:=zh ha2;have HB2:=zh hb2
 clear ho hb ha1 ha2 hb2 c1
 go_wp2_with fail
 have F2:=(((G2.out.far (p:=⟨w.heap.size,1,none⟩) (by simp) (.slice va vm vc)).set 0 (.string pre)).set 1 (.slice va vm vc)).set 2 (.int .i64 th)
 refine Es rfl rfl (Ab F2 Tryz.underlying70 rfl Dc) ⟨_,rfl,?_,?_⟩
 ·refine BG (Aq HO.out (fun k hk=>?_)) (by omega)
  have k1:k≠w.heap.size:=by rintro rfl;exact hne1 hk
  have k2:k≠w.heap.size+1:=by rintro rfl;exact hne2 hk
  rw[zo k2,zo k2,zo k2,zo k1]
 ·exact(((HB2.out.setCell (p:=⟨w.heap.size,1,none⟩) (Nat.le_refl _) _).setCell (p:=⟨w.heap.size+1,0,none⟩) (by simp) _).setCell (p:=⟨w.heap.size+1,1,none⟩) (by simp) _).setCell (p:=⟨w.heap.size+1,2,none⟩) (by simp) _
namespace Own
theorem GJ {α : Type}{ok : α -> Bool}{lt : α -> α -> Bool} : ∀ {l:List α} {p:Option α},Aj ok lt p l=true->∀ x∈l,ok x=true
 | [],_,_,x,hx=>by cases hx
 | y :: l,p,h,x,hx => by
   have h' : ((ok y&&(match p with|none=>true|some z=>lt z y))&&Aj ok lt (some y) l)=true:=by cases p<;>exact h
   obtain⟨h1,h2⟩:=Bool.and_eq_true_iff.1 h'
   rcases List.mem_cons.1 hx with rfl|hx
   ·exact(Bool.and_eq_true_iff.1 h1).1
   ·exact GJ h2 x hx
structure OK (o:Ak):Prop where
 c0:0<=o.count
 c1:o.count<=1099511627776
 ls:o.spaces.length<=64
 sp:∀ s∈o.spaces,AO s=true
 ks:∀ k∈o.keys,Cy k=true
theorem OK.of {o:Ak}(h:AQ o=true):OK o:=by
 unfold AQ late at h
 simp only[Bool.and_eq_true,decide_eq_true_eq] at h
 obtain⟨⟨⟨⟨h1,h2⟩,h3⟩,h4⟩,h5⟩:=h
 exact⟨h1,h2,h3,GJ h4,GJ h5⟩
structure Vn (s:Space):Prop where
 path:Bp s.pre=true
 pre:s.pre.size<=64
 rU:1<=s.members.length
 len:s.members.length<=8
 mem:Aw [] s.members=true
 t0:1<=s.threshold
 t1:s.threshold<=s.members.length
theorem Vn.of {s:Space}(h:AO s=true):Vn s:=by
 unfold AO Cv at h
 simp only[Bool.and_eq_true,decide_eq_true_eq] at h
 obtain⟨⟨⟨h1,⟨h2,h3⟩,h4⟩,h5⟩,h6⟩:=h
 refine⟨h1,?_,h2,h3,h4,h5,h6⟩
 unfold Bp at h1
 simp only[Bool.and_eq_true,decide_eq_true_eq] at h1
 exact h1.1.2
theorem Ud (s:ByteArray):∀ (l:List Space) (b:Option Space) (x:Space),ET s b l=some x->x∈l\/b=some x
 | [],b,x,h=>.inr h
 | y :: l,b,x,h => by
   rw[EG] at h
   rcases Ud s l _ x h with h|h
   ·exact .inl (List.mem_cons_of_mem _ h)
   ·unfold GH at h
    split at h
    ·cases h;exact .inl List.mem_cons_self
    ·exact .inr h
theorem Le {o:Ak}{s:ByteArray}{x:Space}(h:authority o s=some x):x∈o.spaces:=by
 unfold authority at h
 split at h
 ·rcases Ud s _ _ x h with h|h
  ·exact h
  ·cases h
 ·cases h
end Own
def Gq (w:World)(r:Option Own.Space)(e:Ending)(w' : World):Prop:=
 (match r with
   | none=>e=.returned (.tuple #[.agg #[.string ⟨#[]⟩,.slice none 0 0,.int .i64 0],.bool false])
   | some sp=>∃ v',e=.returned (.tuple #[.agg #[.string sp.pre,v',.int .i64 sp.threshold],.bool true])/\w'.ownsRow w.heap.size 73 2 v' sp.members.length (sp.members.flatMap Own.Ie))/\Below w.heap.size w w'
theorem EH (o:Own.Ak)(s:ByteArray)(sv kv:Value)(w:World)(hM:Fe w)(hS:Own.AJ w sv o.spaces)(hK:Own.Bo w kv o.keys)(hls:o.spaces.length<=140737488355328)(hlk:o.keys.length<=140737488355328)(hlm:∀ s∈o.spaces,s.members.length<=140737488355328):
 Calls Tryz.prog 61 #[.agg #[.int .i64 o.count,sv,kv],.string s] w (Gq w (Own.authority o s)):=by
 obtain⟨R,hR⟩:∃ R,R=Gq w (Own.authority o s):=⟨_,rfl⟩
 rw[<- hR]
 have HR:=zh hR;clear hR
 obtain⟨sa,sc,rfl⟩:=hS.len
 obtain⟨ka,kc,rfl⟩:=hK.len
 have ha1:=(At.new w 38 #[.int .i64 o.count,.slice sa o.spaces.length sc,.slice ka o.keys.length kc]).alloc (.cells #[.string ⟨#[]⟩,.slice none 0 0,.int .i64 0] 70)
 have ha2:=At.new1 w (.cells #[.int .i64 o.count,.slice sa o.spaces.length sc,.slice ka o.keys.length kc] 38) 70 #[.string ⟨#[]⟩,.slice none 0 0,.int .i64 0]
 have hb1:Below w.heap.size w ((w.alloc (.cells #[.int .i64 o.count,.slice sa o.spaces.length sc,.slice ka o.keys.length kc] 38)).alloc (.cells #[.string ⟨#[]⟩,.slice none 0 0,.int .i64 0] 70)):=zb.alloc (by simp) _
 have hs1:=hS.below hb1;have hk1:=hK.below hb1;have hm1:=hM.below hb1
 have hz1:((w.alloc (.cells #[.int .i64 o.count,.slice sa o.spaces.length sc,.slice ka o.keys.length kc] 38)).alloc (.cells #[.string ⟨#[]⟩,.slice none 0 0,.int .i64 0] 70)).heap.size=w.heap.size+2:=by simp
 obtain⟨c0,c1,c2⟩:=ha1.c3
 have HS:=zh hs1;have HK:=zh hk1;have HM:=zh hm1;have HA1:=zh ha1;have HA2:=zh ha2;have HB1:=zh hb1;have HLM:=zh hlm
 clear hS hK hM hs1 hk1 hm1 ha1 ha2 hb1 hlm
 go_enter Tryz.func61,Tryz.ntmps61
 go_wp2_with fail
 generalize (w.alloc (.cells #[.int .i64 o.count,.slice sa o.spaces.length sc,.slice ka o.keys.length kc] 38)).alloc (.cells #[.string ⟨#[]⟩,.slice none 0 0,.int .i64 0] 70)=w1 at*
 refine(EU o _ _ w1 HM.out HS.out HK.out hls hlk HLM.out).mono ?_
 rintro e w2 ⟨rfl,hb2⟩
 have HM2:=zh (HM.out.below hb2);have HS2:=zh (HS.out.below hb2);have HK2:=zh (HK.out.below hb2);have A1:=zh (HA1.out.below hb2 (by omega));have A2:=zh (HA2.out.below hb2 (by omega));have B2:=zh (HB1.out.trans (hb2.mono HB1.out.size))
 have hz2:=hb2.size
 clear hb2 HM HS HK HA1 HA2 HB1 c0 c1 c2
 cases hv:Own.AQ o with
 | false =>
   have e:Own.authority o s=none:=by unfold Own.authority;rw[hv];rfl
   have T2:=A2;have TB:=B2
   have x0:=A2.out.cell 0;have x1:=A2.out.cell 1;have x2:=A2.out.cell 2;have x3:=A2.out.free 0;have x4:=A2.out.free 1;have x5:=A2.out.free 2
   simp only[zg] at x0 x1 x2
   have HE:=zh e
   clear e
   go_wp2_with fail
   have F2:=((T2.out.set 0 (.string ⟨#[]⟩)).set 1 (.slice none 0 0)).set 2 (.int .i64 0)
   rw[HR.out,HE.out]
   refine Bu rfl rfl rfl (Ab F2 Tryz.underlying70 rfl Dc) ⟨rfl,((TB.out.setCell (p:=⟨w.heap.size+1,0,none⟩) (by simp) _).setCell (p:=⟨w.heap.size+1,1,none⟩) (by simp) _).setCell (p:=⟨w.heap.size+1,2,none⟩) (by simp) _⟩
 | true=>
 have hok:=Own.OK.of hv
 go_wp2_with fail
 refine(Rb s w2 HM2.out).mono ?_
 rintro e w3 ⟨rfl,hb3⟩
 have HS3:=zh (HS2.out.below hb3);have A13:=zh (A1.out.below hb3 (by omega));have A23:=zh (A2.out.below hb3 (by omega));have B3:=zh (B2.out.trans (hb3.mono B2.out.size))
 have hz3:=hb3.size
 clear hb3 HM2 HS2 HK2 A1 A2 B2
 cases hp:Own.Bp s with
 | false =>
   have e:Own.authority o s=none:=by unfold Own.authority;rw[hv,hp];rfl
   have T2:=A23;have TB:=B3
   have x0:=A23.out.cell 0;have x1:=A23.out.cell 1;have x2:=A23.out.cell 2;have x3:=A23.out.free 0;have x4:=A23.out.free 1;have x5:=A23.out.free 2
   simp only[zg] at x0 x1 x2
   have HE:=zh e
   clear e
   go_wp2_with fail
   have F2:=((T2.out.set 0 (.string ⟨#[]⟩)).set 1 (.slice none 0 0)).set 2 (.int .i64 0)
   rw[HR.out,HE.out]
   refine Bu rfl rfl rfl (Ab F2 Tryz.underlying70 rfl Dc) ⟨rfl,((TB.out.setCell (p:=⟨w.heap.size+1,0,none⟩) (by simp) _).setCell (p:=⟨w.heap.size+1,1,none⟩) (by simp) _).setCell (p:=⟨w.heap.size+1,2,none⟩) (by simp) _⟩
 | true=>
 have hau:Own.authority o s=Own.ET s none o.spaces:=by unfold Own.authority;rw[hv,hp];rfl
 have hpre:∀ x∈o.spaces,x.pre.size<=64:=fun x hx=>(Own.Vn.of (hok.sp x hx)).pre
 obtain⟨y0,y1,y2⟩:=A13.out.c3
 have HAU:=zh hau;have HOK:=zh hok;have LW:=zh hpre
 clear hau hok hpre hv hp
 go_wp2_with fail
 refine(Pq o s _ _ w3 HS3.out HOK.out.ls LW.out).mono ?_
 rintro e w4 ⟨⟨i,rfl,hbi⟩,hb4⟩
 have HS4:=zh (HS3.out.below hb4);have A14:=zh (A13.out.below hb4 (by omega));have A24:=zh (A23.out.below hb4 (by omega));have B4:=zh (B3.out.trans (hb4.mono B3.out.size))
 have hz4:=hb4.size
 clear hb4 HS3 A13 A23 B3 y0 y1 y2
 rcases hbi with ⟨rfl,hnone⟩|⟨j,rfl,hj,hsome⟩
 ·have e:Own.authority o s=none:=by rw[HAU.out,hnone]
  have T2:=A24;have TB:=B4
  have x0:=A24.out.cell 0;have x1:=A24.out.cell 1;have x2:=A24.out.cell 2;have x3:=A24.out.free 0;have x4:=A24.out.free 1;have x5:=A24.out.free 2
  simp only[zg] at x0 x1 x2
  clear hnone
  have HE:=zh e
  clear e
  go_wp2_with fail
  have F2:=((T2.out.set 0 (.string ⟨#[]⟩)).set 1 (.slice none 0 0)).set 2 (.int .i64 0)
  rw[HR.out,HE.out]
  refine Bu rfl rfl rfl (Ab F2 Tryz.underlying70 rfl Dc) ⟨rfl,((TB.out.setCell (p:=⟨w.heap.size+1,0,none⟩) (by simp) _).setCell (p:=⟨w.heap.size+1,1,none⟩) (by simp) _).setCell (p:=⟨w.heap.size+1,2,none⟩) (by simp) _⟩
 ·have SC:Own.authority o s=some o.spaces[j]:=by rw[HAU.out,hsome]
  obtain⟨y0,y1,y2⟩:=A14.out.c3
  obtain⟨b,q,mv,ha,hbl,e0,e1,e2,hmv⟩:=Own.AJ.cells HS4.out hj
  subst ha
  have jr:=Own.Vn.of (HOK.out.sp _ (List.getElem_mem hj))
  obtain⟨sp,hsp⟩:∃ x,x=o.spaces[j]:=⟨_,rfl⟩
  rw[<- hsp] at SC e0 e2 hmv jr
  have hcp:=GI sp.pre sp.threshold mv sp.members w4 hmv (by have:=jr.len;omega)
  have HCP:=zh hcp;have za2:=zh SC
  obtain⟨ma,mc,rfl⟩:=hmv.len
  have dj:decide ((j:Int)<0)=false:=zf
  have hjl:j<o.spaces.length:=hj
  clear hcp SC hsp jr hmv hsome
  go_wp2_with fail
  refine HCP.out.mono ?_
  rintro e w5 ⟨v',rfl,ho,hb5⟩
  have A25:=zh (A24.out.below hb5 (by omega));have B5:=zh (B4.out.trans (hb5.mono B4.out.size))
  have x0:=A25.out.cell 0;have x1:=A25.out.cell 1;have x2:=A25.out.cell 2;have x3:=A25.out.free 0;have x4:=A25.out.free 1;have x5:=A25.out.free 2
  simp only[zg] at x0 x1 x2
  obtain⟨va,vm,vc,rfl⟩:=Ac ho
  have HO:=zh ho
  clear ho hb5 e0 e1 e2 y0 y1 y2
  go_wp2_with fail
  have F2:=((A25.out.set 0 (.string sp.pre)).set 1 (.slice va vm vc)).set 2 (.int .i64 sp.threshold)
  rw[HR.out,za2.out]
  refine Bu rfl rfl rfl (Ab F2 Tryz.underlying70 rfl Dc) ⟨⟨_,rfl,?_⟩,((B5.out.setCell (p:=⟨w.heap.size+1,0,none⟩) (by simp) _).setCell (p:=⟨w.heap.size+1,1,none⟩) (by simp) _).setCell (p:=⟨w.heap.size+1,2,none⟩) (by simp) _⟩
  refine BG (Aq HO.out (fun k hk=>?_)) (by omega)
  have k2:k≠w.heap.size+1:=by have:=Az HO.out k hk;omega
  rw[zo k2,zo k2,zo k2]
namespace Own
def Idx {α : Type}(p : α -> Bool)(l:List α)(i:Int):Prop:=(i = -1/\l.find? p=none/\∀ x∈l,p x=false)\/∃ j:Nat,∃ h:j<l.length,i=(j:Int)/\l.find? p=some l[j]/\p l[j]=true/\∀ k (hk:k<j),p l[k]=false
theorem Idx.hit {α : Type}{p : α -> Bool}{l:List α}{k:Nat}(hk:k<l.length)(h:p l[k]=true)(hn:∀ j (hj:j<k),p l[j]=false):Idx p l (k:Int):=by
 refine .inr ⟨k,hk,rfl,?_,h,hn⟩
 rw[List.find?_eq_some_iff_getElem]
 exact⟨h,k,hk,rfl,fun j hj=>by rw[hn j hj];rfl⟩
theorem Idx.miss {α : Type}{p : α -> Bool}{l:List α}(hn:∀ j (hj:j<l.length),p l[j]=false):Idx p l (-1):=by
 have:∀ x∈l,p x=false:=fun x hx=>by
  obtain⟨j,hj,rfl⟩:=List.getElem_of_mem hx
  exact hn j hj
 exact .inl ⟨rfl,List.find?_eq_none.2 fun x hx=>by rw[this x hx];simp,this⟩
theorem Idx.any {α : Type}{p : α -> Bool}{l:List α}{i:Int}(h:Idx p l i):decide (0<=i)=l.any p:=by
 rcases h with ⟨rfl,_,h⟩|⟨j,hj,rfl,_,h,_⟩
 ·rw[Bool.eq_iff_iff,List.any_eq_true]
  constructor
  ·intro h;simp at h
  ·rintro⟨x,hx,hp⟩;rw[h x hx] at hp;cases hp
 ·rw[Bool.eq_iff_iff,List.any_eq_true]
  exact⟨fun _=>⟨_,List.getElem_mem hj,h⟩,fun _=>zt⟩
end Own
theorem Lf (g:Nat)(lb:Array Value)(eg:∀ args w,(callFunc g args).run Tryz.prog w=.ok (.enter g args) w)(p:Own.Member->Bool)(v:Value)(l:List Own.Member)(w:World)(h:Own.Ar w v l)(hl:l.length<=140737488355328)
 (hp:∀ (W:World) (x:Own.Member),Below w.heap.size w W->Calls Tryz.prog g (#[.agg #[.string x.name,.string x.pub]]++lb) W fun e w' => e=.returned (.bool (p x))/\Below W.heap.size W w'):
 Calls Tryz.prog 95 #[v,.func (.func g) #[] lb] w fun e w' => (∃ i,e=.returned (.int .i64 i)/\Own.Idx p l i)/\Below w.heap.size w w':=by
 obtain⟨a,c,rfl⟩:=h.len
 have HL:=zh h;have HP:=zh hp;clear h hp
 go_enter Tryz.func95,Tryz.ntmps95
 go_wp2_with fail
 go_loopw [8] (fun i wr=>∃ k:Nat,∃ hk:k<=l.length,i=.int .i64 k/\(∀ j (hj:j<k),p (l[j]'(by omega))=false)/\Below w.heap.size w wr) (fun i _=>l.length-(intOf i).toNat)
 case atStart=>exact⟨0,by omega,rfl,(fun j hj=>absurd hj (by omega)),Below.refl _ _⟩
 case round=>
  obtain⟨k,hk,rfl,hn,hb⟩:=hrel
  have HBW:=zh hb;have HN:=zh hn
  by_cases hlt:k<l.length
  case neg=>
   have hke:k=l.length:=by omega
   have dk:decide ((k:Int)<l.length)=false:=zf
   have hix:=Own.Idx.miss (p:=p) (l:=l) (fun j hj=>hn j (by omega))
   have HIX:=zh hix
   clear hix hke hb hn
   go_wp2_with fail
   go_ret
   exact⟨⟨_,rfl,HIX.out⟩,HBW.out⟩
  have dk:decide ((k:Int)<l.length)=true:=zt
  obtain⟨b,o,ha,hbl,e0,e1⟩:=Own.Ar.cells (HL.out.below hb) hlt
  subst ha
  have hcall:=HP.out wr l[k] hb
  obtain⟨nm,hnm⟩:∃ x,x=l[k].name:=⟨_,rfl⟩
  obtain⟨pb,hpb⟩:∃ x,x=l[k].pub:=⟨_,rfl⟩
  rw[<- hnm] at e0 hcall
  rw[<- hpb] at e1 hcall
  clear hb hn hnm hpb
  cases hq:p l[k] with
  | true =>
    rw[hq] at hcall
    have hix:=Own.Idx.hit hlt hq (HN.out)
    have HIX:=zh hix
    clear hix hq
    go_wp2_with (go_at_fn g;refine hcall.mono ?_;rintro e w' ⟨rfl,hb'⟩)
    go_ret
    exact⟨⟨_,rfl,HIX.out⟩,HBW.out.trans (hb'.mono HBW.out.size)⟩
  | false =>
    rw[hq] at hcall
    have hn2:∀ j (hj:j<k+1),p (l[j]'(by omega))=false:=fun j hj=>by
     by_cases e:j=k
     ·subst e;exact hq
     ·exact HN.out j (by omega)
    have HN2:=zh hn2
    clear hn2 hq
    go_wp2_with (go_at_fn g;refine hcall.mono ?_;rintro e w' ⟨rfl,hb'⟩)
    go_round
    case measure=>simp[intOf];omega
    case rel=>exact⟨k+1,by omega,by go_num,HN2.out,HBW.out.trans (hb'.mono HBW.out.size)⟩
theorem Jk (g:Nat)(lb:Array Value)(eg:∀ args w,(callFunc g args).run Tryz.prog w=.ok (.enter g args) w)(p:Own.Aa->Bool)(v:Value)(l:List Own.Aa)(w:World)(h:Own.A9 w v l)(hl:l.length<=140737488355328)
 (hp:∀ (W:World) (x:Own.Aa) (u:Value),Below w.heap.size w W->Calls Tryz.prog g (#[.agg #[.int .i64 x.id,.string x.path,.string x.digest,.int .i64 x.opened,.int .i64 x.expires,u]]++lb) W fun e w' => e=.returned (.bool (p x))/\Below W.heap.size W w'):
 Calls Tryz.prog 81 #[v,.func (.func g) #[] lb] w fun e w' => (∃ i,e=.returned (.int .i64 i)/\Own.Idx p l i)/\Below w.heap.size w w':=by
 obtain⟨a,c,rfl⟩:=h.len
 have HL:=zh h;have HP:=zh hp;clear h hp
 go_enter Tryz.func81,Tryz.ntmps81
 go_wp2_with fail
 go_loopw [8] (fun i wr=>∃ k:Nat,∃ hk:k<=l.length,i=.int .i64 k/\(∀ j (hj:j<k),p (l[j]'(by omega))=false)/\Below w.heap.size w wr) (fun i _=>l.length-(intOf i).toNat)
 case atStart=>exact⟨0,by omega,rfl,(fun j hj=>absurd hj (by omega)),Below.refl _ _⟩
 case round=>
  obtain⟨k,hk,rfl,hn,hb⟩:=hrel
  have HBW:=zh hb;have HN:=zh hn
  by_cases hlt:k<l.length
  case neg=>
   have hke:k=l.length:=by omega
   have dk:decide ((k:Int)<l.length)=false:=zf
   have hix:=Own.Idx.miss (p:=p) (l:=l) (fun j hj=>hn j (by omega))
   have HIX:=zh hix
   clear hix hke hb hn
   go_wp2_with fail
   go_ret
   exact⟨⟨_,rfl,HIX.out⟩,HBW.out⟩
  have dk:decide ((k:Int)<l.length)=true:=zt
  obtain⟨b,o,u,ha,hbl,e0,e1,e2,e3,e4,e5,_⟩:=Own.A9.cells (HL.out.below hb) hlt
  subst ha
  have hcall:=HP.out wr l[k] u hb
  obtain⟨q0,hq0⟩:∃ x,x=l[k].id:=⟨_,rfl⟩
  obtain⟨q1,hq1⟩:∃ x,x=l[k].path:=⟨_,rfl⟩
  obtain⟨q2,hq2⟩:∃ x,x=l[k].digest:=⟨_,rfl⟩
  obtain⟨q3,hq3⟩:∃ x,x=l[k].opened:=⟨_,rfl⟩
  obtain⟨q4,hq4⟩:∃ x,x=l[k].expires:=⟨_,rfl⟩
  rw[<- hq0,<- hq1,<- hq2,<- hq3,<- hq4] at hcall
  rw[<- hq0] at e0
  rw[<- hq1] at e1
  rw[<- hq2] at e2
  rw[<- hq3] at e3
  rw[<- hq4] at e4
  clear hb hn hq0 hq1 hq2 hq3 hq4
  cases hq:p l[k] with
  | true =>
    rw[hq] at hcall
    have hix:=Own.Idx.hit hlt hq (HN.out)
    have HIX:=zh hix
    clear hix hq
    go_wp2_with (go_at_fn g;refine hcall.mono ?_;rintro e w' ⟨rfl,hb'⟩)
    go_ret
    exact⟨⟨_,rfl,HIX.out⟩,HBW.out.trans (hb'.mono HBW.out.size)⟩
  | false =>
    rw[hq] at hcall
    have hn2:∀ j (hj:j<k+1),p (l[j]'(by omega))=false:=fun j hj=>by
     by_cases e:j=k
     ·subst e;exact hq
     ·exact HN.out j (by omega)
    have HN2:=zh hn2
    clear hn2 hq
    go_wp2_with (go_at_fn g;refine hcall.mono ?_;rintro e w' ⟨rfl,hb'⟩)
    go_round
    case measure=>simp[intOf];omega
    case rel=>exact⟨k+1,by omega,by go_num,HN2.out,HBW.out.trans (hb'.mono HBW.out.size)⟩
theorem Pt (g:Nat)(lb:Array Value)(eg:∀ args w,(callFunc g args).run Tryz.prog w=.ok (.enter g args) w)(p:Own.Aa->Bool)(v:Value)(l:List Own.Aa)(w:World)(h:Own.A9 w v l)(hl:l.length<=140737488355328)
 (hp:∀ (W:World) (x:Own.Aa) (u:Value),Below w.heap.size w W->Calls Tryz.prog g (#[.agg #[.int .i64 x.id,.string x.path,.string x.digest,.int .i64 x.opened,.int .i64 x.expires,u]]++lb) W fun e w' => e=.returned (.bool (p x))/\Below W.heap.size W w'):
 Calls Tryz.prog 40 #[v,.func (.func g) #[] lb] w fun e w' => e=.returned (.bool (l.any p))/\Below w.heap.size w w':=by
 have HI:=zh (Jk g lb eg p v l w h hl hp);clear h hp
 go_enter Tryz.func40,Tryz.ntmps40
 go_wp2_with fail
 refine HI.out.mono ?_
 rintro e w2 ⟨⟨i,rfl,hi⟩,hb⟩
 have HB:=zh hb;have HJ:=zh hi.any;clear hb hi
 go_wp2_with fail
 go_ret
 exact⟨by rw[<- HJ.out];rfl,HB.out⟩
theorem SE (x:Own.Member)(g:Nat)(nm:ByteArray)(w:World)(hc:w.cell? ⟨g,0,none⟩=some (.string nm)):
 Calls Tryz.prog 169 (#[.agg #[.string x.name,.string x.pub]]++#[.pointer (some ⟨g,0,none⟩)]) w fun e w' => e=.returned (.bool (decide (x.name=nm)))/\Below w.heap.size w w':=by
 obtain⟨R,hR⟩:∃ R,R=decide (x.name=nm):=⟨_,rfl⟩
 rw[<- hR]
 rw[<- bytes_beq] at hR
 have hb1:Below w.heap.size w (w.alloc (.cells #[.string x.name,.string x.pub] 73)):=zb
 have q:=(hb1.cell (p:=⟨g,0,none⟩) (block_lt hc)).trans hc
 have HB:=zh hb1;have HR:=zh hR
 clear hb1 hc hR
 show Calls Tryz.prog 169 #[.agg #[.string x.name,.string x.pub],.pointer (some ⟨g,0,none⟩)] w _
 go_enter Tryz.func169,Tryz.ntmps169
 go_wp2_with fail
 go_ret
 exact⟨by rw[HR.out];rfl,HB.out⟩
def bB (w:World)(r:Option Own.Member)(e:Ending)(w' : World):Prop:=
 (match r with
   | none=>e=.returned (.tuple #[.agg #[.string ⟨#[]⟩,.string ⟨#[]⟩],.bool false])
   | some m=>e=.returned (.tuple #[.agg #[.string m.name,.string m.pub],.bool true]))/\Below w.heap.size w w'
theorem Vo (pre:ByteArray)(th:Int)(v:Value)(l:List Own.Member)(nm:ByteArray)(w:World)(h:Own.Ar w v l)(hl:l.length<=140737488355328):
 Calls Tryz.prog 152 #[.agg #[.string pre,v,.int .i64 th],.string nm] w (bB w (Own.find l nm)):=by
 obtain⟨R,hR⟩:∃ R,R=bB w (Own.find l nm):=⟨_,rfl⟩
 rw[<- hR]
 have HR:=zh hR;clear hR
 obtain⟨a,c,rfl⟩:=h.len
 have ha0:=((At.new w 70 #[.string pre,.slice a l.length c,.int .i64 th]).alloc (.cells #[.string nm] 9)).alloc (.cells #[.string ⟨#[]⟩,.string ⟨#[]⟩] 73)
 have ha1:=(At.new1 w (.cells #[.string pre,.slice a l.length c,.int .i64 th] 70) 9 #[.string nm]).alloc (.cells #[.string ⟨#[]⟩,.string ⟨#[]⟩] 73)
 have ha2:=At.new ((w.alloc (.cells #[.string pre,.slice a l.length c,.int .i64 th] 70)).alloc (.cells #[.string nm] 9)) 73 #[.string ⟨#[]⟩,.string ⟨#[]⟩]
 rw[World.size_alloc,World.size_alloc] at ha2
 have hb1:Below w.heap.size w (((w.alloc (.cells #[.string pre,.slice a l.length c,.int .i64 th] 70)).alloc (.cells #[.string nm] 9)).alloc (.cells #[.string ⟨#[]⟩,.string ⟨#[]⟩] 73)):=(zb.alloc (by simp) _).alloc (by simp;omega) _
 have hz1:(((w.alloc (.cells #[.string pre,.slice a l.length c,.int .i64 th] 70)).alloc (.cells #[.string nm] 9)).alloc (.cells #[.string ⟨#[]⟩,.string ⟨#[]⟩] 73)).heap.size=w.heap.size+3:=by simp
 have hl1:=h.below hb1
 have c1:=ha0.cell 1
 simp only[zg] at c1
 have HL:=zh hl1;have A0:=zh ha0;have A1:=zh ha1;have A2:=zh ha2;have B1:=zh hb1
 clear h hl1 ha0 ha1 ha2 hb1
 go_enter Tryz.func152,Tryz.ntmps152
 go_wp2_with fail
 generalize ((w.alloc (.cells #[.string pre,.slice a l.length c,.int .i64 th] 70)).alloc (.cells #[.string nm] 9)).alloc (.cells #[.string ⟨#[]⟩,.string ⟨#[]⟩] 73)=w1 at*
 refine(Lf 169 #[.pointer (some ⟨w.heap.size+1,0,none⟩)] Tryz.call169 (fun m=>decide (m.name=nm)) _ l w1 HL.out hl (fun W x hW=>SE x _ nm W ((hW.cell (p:=⟨w.heap.size+1,0,none⟩) (by show w.heap.size+1<w1.heap.size;omega)).trans (A1.out.cell 0)))).mono ?_
 rintro e w2 ⟨⟨i,rfl,hi⟩,hb2⟩
 have A02:=zh (A0.out.below hb2 (by omega));have A22:=zh (A2.out.below hb2 (by omega));have B2:=zh (B1.out.trans (hb2.mono B1.out.size));have HL2:=zh (HL.out.below hb2)
 have y1:=A02.out.cell 1
 have x0:=A22.out.cell 0;have x1:=A22.out.cell 1;have x3:=A22.out.free 0;have x4:=A22.out.free 1
 simp only[zg] at y1 x0 x1
 clear hb2 c1 HL A0 A1 A2 B1
 rcases hi with ⟨rfl,hnone,_⟩|⟨j,hj,rfl,hsome,_,_⟩
 ·have e:Own.find l nm=none:=hnone
  have HE:=zh e
  clear e hnone
  go_wp2_with fail
  have F2:=(A22.out.set 0 (.string ⟨#[]⟩)).set 1 (.string ⟨#[]⟩)
  rw[HR.out,HE.out]
  exact Bu rfl rfl rfl (Ab F2 Tryz.underlying73 rfl JQ) ⟨rfl,(B2.out.setCell (p:=⟨w.heap.size+1+1,0,none⟩) (by show w.heap.size<=w.heap.size+1+1;omega) _).setCell (p:=⟨w.heap.size+1+1,1,none⟩) (by show w.heap.size<=w.heap.size+1+1;omega) _⟩
 ·have e:Own.find l nm=some l[j]:=hsome
  obtain⟨b,o,ha,hbl,e0,e1⟩:=Own.Ar.cells HL2.out hj
  subst ha
  obtain⟨m,hm⟩:∃ x,x=l[j]:=⟨_,rfl⟩
  rw[<- hm] at e e0 e1
  have HE:=zh e
  have dj:decide ((j:Int)<0)=false:=zf
  have hjl:j<l.length:=hj
  clear e hsome hm
  go_wp2_with fail
  have F2:=(A22.out.set 0 (.string m.name)).set 1 (.string m.pub)
  rw[HR.out,HE.out]
  exact Bu rfl rfl rfl (Ab F2 Tryz.underlying73 rfl JQ) ⟨rfl,(B2.out.setCell (p:=⟨w.heap.size+1+1,0,none⟩) (by show w.heap.size<=w.heap.size+1+1;omega) _).setCell (p:=⟨w.heap.size+1+1,1,none⟩) (by show w.heap.size<=w.heap.size+1+1;omega) _⟩
def JR (a b:ByteArray):Int:=if Own.Ah a b then -1 else if a=b then 0 else 1
theorem Ue (a:ByteArray)(w:World):Calls Tryz.prog 99 #[.string a] w fun e w' => e=.returned (.bool false)/\w' = w:=by
 go_enter Tryz.func99,Tryz.ntmps99
 go_wp2_with fail
 go_ret
 exact⟨by simp,rfl⟩
theorem Rm (a b:ByteArray)(w:World):Calls Tryz.prog 65 #[.string a,.string b] w fun e w' => e=.returned (.int .i64 (JR a b))/\w' = w:=by
 obtain⟨R,hR⟩:∃ R,R=JR a b:=⟨_,rfl⟩
 rw[<- hR]
 unfold JR Own.Ah at hR
 have HR:=zh hR;clear hR
 go_enter Tryz.func65,Tryz.ntmps65
 go_wp2_with fail
 refine(Ue a w).mono ?_
 rintro e w1 ⟨rfl,rfl⟩
 go_wp2_with fail
 refine(Ue b w1).mono ?_
 rintro e w1 ⟨rfl,rfl⟩
 cases h1:Op.bytesLess a.toList b.toList with
 | true =>
   have e:R = -1:=by rw[HR.out,h1];rfl
   have HE:=zh e;clear e
   go_wp2_with fail
   go_ret
   exact⟨by rw[HE.out];rfl,rfl⟩
 | false=>
 by_cases h2:a=b
 ·have d:(a.toList==b.toList)=true:=by rw[bytes_beq];exact decide_eq_true h2
  have e:R=0:=by rw[HR.out,h1,if_pos h2];rfl
  have HE:=zh e;clear e
  have H2:=zh h2;clear h2
  go_wp2_with fail
  go_ret
  exact⟨by rw[HE.out];rfl,rfl⟩
 ·have d:(a.toList==b.toList)=false:=by rw[bytes_beq];exact decide_eq_false h2
  have e:R=1:=by rw[HR.out,h1,if_neg h2];rfl
  have HE:=zh e;clear e
  go_wp2_with fail
  go_ret
  exact⟨by rw[HE.out];rfl,rfl⟩
namespace Own
def Av (b:Nat):Member:=⟨⟨#[109,(97+b%8).toUInt8]⟩,Sig.Eo (C9.Bn b)⟩
end Own
theorem IG (b:Nat):(C9.Bn b).size=32:=by
 show(List.replicate 32 b.toUInt8).toArray.size=32
 simp
theorem Jl (b:Nat)(w:World)(hb:b<256):Calls Tryz.prog 37 #[.int .u8 b] w fun e w' => e=.returned (.agg #[.string (Own.Av b).name,.string (Own.Av b).pub])/\Below w.heap.size w w':=by
 have hk:=fun W=>MJ b W hb
 have hp:=fun W=>Sz (C9.Bn b) W (IG b)
 have hcv:=fun W g=>jh W g (97+b%8) (by omega)
 have LK:(Own.Av b).pub=Sig.Eo (C9.Bn b):=rfl
 have hname:(Own.Av b).name=⟨#[109]⟩++⟨#[(97+b%8).toUInt8]⟩:=rfl
 generalize C9.Bn b=S at*
 generalize Sig.Eo S=U at*
 generalize Own.Av b=m at*
 have HK:=zh hk;have HP:=zh hp;have HCV:=zh hcv;have HPU:=zh LK;have HN:=zh hname
 clear hk hp hcv LK hname
 have hm8:(97:Int)+(b:Int)%8=((97+b%8:Nat):Int):=by omega
 generalize 97+b%8=c at*
 have HM:=zh hm8;clear hm8
 go_enter Tryz.func37,Tryz.ntmps37
 go_wp2_with fail
 have ha1:At (w.alloc (.cells #[.string ⟨#[]⟩,.string ⟨#[]⟩] 73)) w.heap.size 73 #[.string ⟨#[]⟩,.string ⟨#[]⟩]:=At.new w _ _
 have hb1:Below w.heap.size w (w.alloc (.cells #[.string ⟨#[]⟩,.string ⟨#[]⟩] 73)):=zb
 generalize w.alloc (.cells #[.string ⟨#[]⟩,.string ⟨#[]⟩] 73)=w1 at*
 refine(HK.out _).mono ?_
 rintro e w2 ⟨rfl,hb2⟩
 have hlt:=ha1.lt
 have ha2:=ha1.below hb2 hlt;have rV:=hb1.trans (hb2.mono hb1.size)
 go_wp2_with fail
 refine(HP.out _).mono ?_
 rintro e w3 ⟨rfl,hb3⟩
 have hlt2:=ha2.lt
 have HA3:=zh (ha2.below hb3 hlt2);have HB3:=zh (rV.trans (hb3.mono rV.size))
 clear ha1 hb1 hb2 ha2 rV hb3
 have z0:w3.frozen? ⟨w.heap.size,0,none⟩=false:=HA3.out.free 0
 have z1:w3.frozen? ⟨w.heap.size,1,none⟩=false:=HA3.out.free 1
 obtain⟨c0,c1⟩:=HA3.out.c2
 go_wp2_with fail
 rw[HM.out,HCV.out _ _ (At.new _ _ _)]
 have hlt3:=HA3.out.lt
 have HA4:=zh (HA3.out.below ((Below.refl w3.heap.size w3).alloc (Nat.le_refl _) (.cells #[.int .u8 (c:Int)] 5)) hlt3)
 have HB4:=zh ((HB3.out).alloc HB3.out.size (.cells #[.int .u8 (c:Int)] 5))
 clear z0 z1 c0 c1
 generalize w3.alloc (.cells #[.int .u8 (c:Int)] 5)=w4 at*
 have z0:w4.frozen? ⟨w.heap.size,0,none⟩=false:=HA4.out.free 0
 have z1:w4.frozen? ⟨w.heap.size,1,none⟩=false:=HA4.out.free 1
 obtain⟨c0,c1⟩:=HA4.out.c2
 go_wp2_with fail
 have F2:=(HA4.out.set 0 (.string (⟨#[109]⟩++⟨#[c.toUInt8]⟩))).set 1 (.string U)
 rw[HN.out,HPU.out]
 refine Es rfl rfl (Ab F2 Tryz.underlying73 rfl JQ) ⟨rfl,(HB4.out.setCell (p:=⟨w.heap.size,0,none⟩) (Nat.le_refl _) _).setCell (p:=⟨w.heap.size,1,none⟩) (Nat.le_refl _) _⟩
structure BL (w0 w:World) (bs:List (TypeId × Array Value)):Prop where
 size:w.heap.size=w0.heap.size+bs.length
 under:Below w0.heap.size w0 w
 at_:∀ (i:Nat) (t:TypeId) (cs:Array Value),bs[i]? = some (t,cs)->At w (w0.heap.size+i) t cs
structure Ap (w0 w:World) (bs:List (TypeId × Array Value)):Prop where
 size:w0.heap.size+bs.length<=w.heap.size
 under:Below w0.heap.size w0 w
 at_:∀ (i:Nat) (t:TypeId) (cs:Array Value),bs[i]? = some (t,cs)->At w (w0.heap.size+i) t cs
section
variable {w0 w w' : World} {bs:List (TypeId × Array Value)}
theorem BL.nil (w:World):BL w w []:=⟨by simp,Below.refl _ _,fun i t cs h=>by simp at h⟩
theorem BL.push (h:BL w0 w bs)(t:TypeId)(cs:Array Value):BL w0 (w.alloc (.cells cs t)) (bs++[(t,cs)]):=by
 refine⟨by rw[World.size_alloc,h.size,List.length_append];rfl,h.under.alloc h.under.size _,fun i t' cs' hi=>?_⟩
 by_cases hl:i<bs.length
 ·rw[List.getElem?_append_left hl] at hi
  exact(h.at_ i t' cs' hi).alloc _
 ·rw[List.getElem?_append_right (by omega)] at hi
  have:i-bs.length=0:=by
   have:=(List.getElem?_eq_some_iff.1 hi).1
   simp at this
   omega
  rw[this] at hi
  cases hi
  have e:w0.heap.size+i=w.heap.size:=by rw[h.size];omega
  rw[e]
  exact At.new _ _ _
theorem BL.boxes (h:BL w0 w bs):Ap w0 w bs:=⟨Nat.le_of_eq h.size.symm,h.under,h.at_⟩
theorem Ap.step (h:Ap w0 w bs)(hb:Below w.heap.size w w'):Ap w0 w' bs:=
 ⟨Nat.le_trans h.size hb.size,h.under.trans (hb.mono h.under.size),fun i t cs hi=>(h.at_ i t cs hi).below hb (h.at_ i t cs hi).lt⟩
theorem Ap.over (h:Ap w0 w bs)(hb:Below (w0.heap.size+bs.length) w w'):Ap w0 w' bs:=
 ⟨Nat.le_trans h.size hb.size,h.under.trans (hb.mono (by omega)),fun i t cs hi=>(h.at_ i t cs hi).below hb (by have:=(List.getElem?_eq_some_iff.1 hi).1;omega)⟩
theorem Ap.cell (h:Ap w0 w bs)(i j:Nat){t:TypeId}{cs:Array Value}{v:Value}(hi:bs[i]? = some (t,cs))(hj:cs[j]? = some v):w.cell? ⟨w0.heap.size+i,j,none⟩=some v:=((h.at_ i t cs hi).cell j).trans hj
theorem Ap.free (h:Ap w0 w bs)(i j:Nat){t:TypeId}{cs:Array Value}(hi:bs[i]? = some (t,cs)):w.frozen? ⟨w0.heap.size+i,j,none⟩=false:=(h.at_ i t cs hi).free j
theorem Ap.at1 (h:Ap w0 w bs)(i:Nat){t:TypeId}{cs:Array Value}(hi:bs[i]? = some (t,cs)):At w (w0.heap.size+i) t cs:=h.at_ i t cs hi
theorem Ap.lt (h:Ap w0 w bs){i:Nat}(hi:i<bs.length):w0.heap.size+i<w.heap.size:=by have:=h.size;omega
theorem Ap.put (h:Ap w0 w bs)(i j:Nat)(u:Value){t:TypeId}{cs:Array Value}(hi:bs[i]? = some (t,cs)):Ap w0 (w.setCell ⟨w0.heap.size+i,j,none⟩ u) (bs.set i (t,cs.setIfInBounds j u)):=by
 refine⟨by rw[List.length_set];exact Nat.le_trans h.size (by simp[World.setCell]),h.under.setCell (by show w0.heap.size<=w0.heap.size+i;omega) _,fun k t' cs' hk=>?_⟩
 have hl:=(List.getElem?_eq_some_iff.1 hi).1
 by_cases hki:k=i
 ·subst hki
  rw[List.getElem?_set_self hl] at hk
  cases hk
  exact(h.at_ k t cs hi).set j u
 ·rw[List.getElem?_set_ne (fun e=>hki e.symm)] at hk
  exact(h.at_ k t' cs' hk).far (p:=⟨w0.heap.size+i,j,none⟩) (by show w0.heap.size+k≠w0.heap.size+i;omega) _
theorem Ap.drew (h:Ap w0 w bs):Ap w0 w.drew bs:=⟨h.size,h.under.drew,fun i t cs hi=>(h.at_ i t cs hi).drew⟩
end
theorem Ap.Dw{u w:World}{l:List (TypeId×Array Value)}{t:TypeId}{a b:Value}(h:Ap u w l)(r:l[0]?=some (t,#[a,b])):w.cell? ⟨u.heap.size,0,none⟩=some a/\w.cell? ⟨u.heap.size,1,none⟩=some b:=⟨h.cell 0 0 r rfl,h.cell 0 1 r rfl⟩
theorem Ap.Jo{u w:World}{l:List (TypeId×Array Value)}{t:TypeId}{a b c:Value}(h:Ap u w l)(r:l[0]?=some (t,#[a,b,c])):w.cell? ⟨u.heap.size,0,none⟩=some a/\w.cell? ⟨u.heap.size,1,none⟩=some b/\w.cell? ⟨u.heap.size,2,none⟩=some c:=⟨h.cell 0 0 r rfl,h.cell 0 1 r rfl,h.cell 0 2 r rfl⟩
theorem Ap.MP{u w:World}{l:List (TypeId×Array Value)}{t:TypeId}{a b c d e f:Value}(h:Ap u w l)(r:l[0]?=some (t,#[a,b,c,d,e,f])):w.cell? ⟨u.heap.size,0,none⟩=some a/\w.cell? ⟨u.heap.size,1,none⟩=some b/\w.cell? ⟨u.heap.size,2,none⟩=some c/\w.cell? ⟨u.heap.size,3,none⟩=some d/\w.cell? ⟨u.heap.size,4,none⟩=some e/\w.cell? ⟨u.heap.size,5,none⟩=some f:=⟨h.cell 0 0 r rfl,h.cell 0 1 r rfl,h.cell 0 2 r rfl,h.cell 0 3 r rfl,h.cell 0 4 r rfl,h.cell 0 5 r rfl⟩
theorem Ap.wF{u w:World}{l:List (TypeId×Array Value)}{t:TypeId}{a b:Value}(h:Ap u w l)(r:l[1]?=some (t,#[a,b])):w.cell? ⟨u.heap.size+1,0,none⟩=some a/\w.cell? ⟨u.heap.size+1,1,none⟩=some b/\w.frozen? ⟨u.heap.size+1,0,none⟩=false/\w.frozen? ⟨u.heap.size+1,1,none⟩=false:=⟨h.cell 1 0 r rfl,h.cell 1 1 r rfl,h.free 1 0 r,h.free 1 1 r⟩
theorem Ap.JU{u w:World}{l:List (TypeId×Array Value)}{t:TypeId}{a b c:Value}(h:Ap u w l)(r:l[1]?=some (t,#[a,b,c])):w.cell? ⟨u.heap.size+1,0,none⟩=some a/\w.cell? ⟨u.heap.size+1,1,none⟩=some b/\w.cell? ⟨u.heap.size+1,2,none⟩=some c:=⟨h.cell 1 0 r rfl,h.cell 1 1 r rfl,h.cell 1 2 r rfl⟩
theorem Ap.rW{u w:World}{l:List (TypeId×Array Value)}{t:TypeId}{a b c:Value}(h:Ap u w l)(r:l[1]?=some (t,#[a,b,c])):w.cell? ⟨u.heap.size+1,0,none⟩=some a/\w.cell? ⟨u.heap.size+1,1,none⟩=some b/\w.cell? ⟨u.heap.size+1,2,none⟩=some c/\w.frozen? ⟨u.heap.size+1,0,none⟩=false/\w.frozen? ⟨u.heap.size+1,1,none⟩=false/\w.frozen? ⟨u.heap.size+1,2,none⟩=false:=⟨h.cell 1 0 r rfl,h.cell 1 1 r rfl,h.cell 1 2 r rfl,h.free 1 0 r,h.free 1 1 r,h.free 1 2 r⟩
theorem Ap.za3{u w:World}{l:List (TypeId×Array Value)}{t:TypeId}{a b c d:Value}(h:Ap u w l)(r:l[1]?=some (t,#[a,b,c,d])):w.cell? ⟨u.heap.size+1,0,none⟩=some a/\w.cell? ⟨u.heap.size+1,1,none⟩=some b/\w.cell? ⟨u.heap.size+1,2,none⟩=some c/\w.cell? ⟨u.heap.size+1,3,none⟩=some d/\w.frozen? ⟨u.heap.size+1,0,none⟩=false/\w.frozen? ⟨u.heap.size+1,1,none⟩=false/\w.frozen? ⟨u.heap.size+1,2,none⟩=false/\w.frozen? ⟨u.heap.size+1,3,none⟩=false:=⟨h.cell 1 0 r rfl,h.cell 1 1 r rfl,h.cell 1 2 r rfl,h.cell 1 3 r rfl,h.free 1 0 r,h.free 1 1 r,h.free 1 2 r,h.free 1 3 r⟩
theorem Ap.za4{u w:World}{l:List (TypeId×Array Value)}{t:TypeId}{a b:Value}(h:Ap u w l)(r:l[2]?=some (t,#[a,b])):w.cell? ⟨u.heap.size+1+1,0,none⟩=some a/\w.cell? ⟨u.heap.size+1+1,1,none⟩=some b:=⟨h.cell 2 0 r rfl,h.cell 2 1 r rfl⟩
theorem Ap.nX{u w:World}{l:List (TypeId×Array Value)}{t:TypeId}{a b:Value}(h:Ap u w l)(r:l[2]?=some (t,#[a,b])):w.cell? ⟨u.heap.size+1+1,0,none⟩=some a/\w.cell? ⟨u.heap.size+1+1,1,none⟩=some b/\w.frozen? ⟨u.heap.size+1+1,0,none⟩=false/\w.frozen? ⟨u.heap.size+1+1,1,none⟩=false:=⟨h.cell 2 0 r rfl,h.cell 2 1 r rfl,h.free 2 0 r,h.free 2 1 r⟩
theorem Ap.Zw{u w:World}{l:List (TypeId×Array Value)}{t:TypeId}{a b c:Value}(h:Ap u w l)(r:l[2]?=some (t,#[a,b,c])):w.cell? ⟨u.heap.size+1+1,0,none⟩=some a/\w.cell? ⟨u.heap.size+1+1,1,none⟩=some b/\w.cell? ⟨u.heap.size+1+1,2,none⟩=some c/\w.frozen? ⟨u.heap.size+1+1,0,none⟩=false/\w.frozen? ⟨u.heap.size+1+1,1,none⟩=false/\w.frozen? ⟨u.heap.size+1+1,2,none⟩=false:=⟨h.cell 2 0 r rfl,h.cell 2 1 r rfl,h.cell 2 2 r rfl,h.free 2 0 r,h.free 2 1 r,h.free 2 2 r⟩
theorem Ap.SF{u w:World}{l:List (TypeId×Array Value)}{t:TypeId}{a b c d:Value}(h:Ap u w l)(r:l[2]?=some (t,#[a,b,c,d])):w.cell? ⟨u.heap.size+1+1,0,none⟩=some a/\w.cell? ⟨u.heap.size+1+1,1,none⟩=some b/\w.cell? ⟨u.heap.size+1+1,2,none⟩=some c/\w.cell? ⟨u.heap.size+1+1,3,none⟩=some d:=⟨h.cell 2 0 r rfl,h.cell 2 1 r rfl,h.cell 2 2 r rfl,h.cell 2 3 r rfl⟩
theorem Ap.GZ{u w:World}{l:List (TypeId×Array Value)}{t:TypeId}{a b:Value}(h:Ap u w l)(r:l[3]?=some (t,#[a,b])):w.cell? ⟨u.heap.size+1+1+1,0,none⟩=some a/\w.cell? ⟨u.heap.size+1+1+1,1,none⟩=some b/\w.frozen? ⟨u.heap.size+1+1+1,0,none⟩=false/\w.frozen? ⟨u.heap.size+1+1+1,1,none⟩=false:=⟨h.cell 3 0 r rfl,h.cell 3 1 r rfl,h.free 3 0 r,h.free 3 1 r⟩
theorem Ap.za5{u w:World}{l:List (TypeId×Array Value)}{t:TypeId}{a b c:Value}(h:Ap u w l)(r:l[3]?=some (t,#[a,b,c])):w.cell? ⟨u.heap.size+1+1+1,0,none⟩=some a/\w.cell? ⟨u.heap.size+1+1+1,1,none⟩=some b/\w.cell? ⟨u.heap.size+1+1+1,2,none⟩=some c:=⟨h.cell 3 0 r rfl,h.cell 3 1 r rfl,h.cell 3 2 r rfl⟩
theorem Ap.wG{u w:World}{l:List (TypeId×Array Value)}{t:TypeId}{a b c:Value}(h:Ap u w l)(r:l[3]?=some (t,#[a,b,c])):w.cell? ⟨u.heap.size+1+1+1,0,none⟩=some a/\w.cell? ⟨u.heap.size+1+1+1,1,none⟩=some b/\w.cell? ⟨u.heap.size+1+1+1,2,none⟩=some c/\w.frozen? ⟨u.heap.size+1+1+1,0,none⟩=false/\w.frozen? ⟨u.heap.size+1+1+1,1,none⟩=false/\w.frozen? ⟨u.heap.size+1+1+1,2,none⟩=false:=⟨h.cell 3 0 r rfl,h.cell 3 1 r rfl,h.cell 3 2 r rfl,h.free 3 0 r,h.free 3 1 r,h.free 3 2 r⟩
theorem Ap.rX{u w:World}{l:List (TypeId×Array Value)}{t:TypeId}{a b c d e f:Value}(h:Ap u w l)(r:l[3]?=some (t,#[a,b,c,d,e,f])):w.cell? ⟨u.heap.size+1+1+1,0,none⟩=some a/\w.cell? ⟨u.heap.size+1+1+1,1,none⟩=some b/\w.cell? ⟨u.heap.size+1+1+1,2,none⟩=some c/\w.cell? ⟨u.heap.size+1+1+1,3,none⟩=some d/\w.cell? ⟨u.heap.size+1+1+1,4,none⟩=some e/\w.cell? ⟨u.heap.size+1+1+1,5,none⟩=some f:=⟨h.cell 3 0 r rfl,h.cell 3 1 r rfl,h.cell 3 2 r rfl,h.cell 3 3 r rfl,h.cell 3 4 r rfl,h.cell 3 5 r rfl⟩
theorem Ap.LX{u w:World}{l:List (TypeId×Array Value)}{t:TypeId}{a b c:Value}(h:Ap u w l)(r:l[4]?=some (t,#[a,b,c])):w.cell? ⟨u.heap.size+1+1+1+1,0,none⟩=some a/\w.cell? ⟨u.heap.size+1+1+1+1,1,none⟩=some b/\w.cell? ⟨u.heap.size+1+1+1+1,2,none⟩=some c/\w.frozen? ⟨u.heap.size+1+1+1+1,0,none⟩=false/\w.frozen? ⟨u.heap.size+1+1+1+1,1,none⟩=false/\w.frozen? ⟨u.heap.size+1+1+1+1,2,none⟩=false:=⟨h.cell 4 0 r rfl,h.cell 4 1 r rfl,h.cell 4 2 r rfl,h.free 4 0 r,h.free 4 1 r,h.free 4 2 r⟩
theorem Ap.eD{u w:World}{l:List (TypeId×Array Value)}{t:TypeId}{a b c d e f:Value}(h:Ap u w l)(r:l[4]?=some (t,#[a,b,c,d,e,f])):w.cell? ⟨u.heap.size+1+1+1+1,0,none⟩=some a/\w.cell? ⟨u.heap.size+1+1+1+1,1,none⟩=some b/\w.cell? ⟨u.heap.size+1+1+1+1,2,none⟩=some c/\w.cell? ⟨u.heap.size+1+1+1+1,3,none⟩=some d/\w.cell? ⟨u.heap.size+1+1+1+1,4,none⟩=some e/\w.cell? ⟨u.heap.size+1+1+1+1,5,none⟩=some f/\w.frozen? ⟨u.heap.size+1+1+1+1,0,none⟩=false/\w.frozen? ⟨u.heap.size+1+1+1+1,1,none⟩=false/\w.frozen? ⟨u.heap.size+1+1+1+1,2,none⟩=false/\w.frozen? ⟨u.heap.size+1+1+1+1,3,none⟩=false/\w.frozen? ⟨u.heap.size+1+1+1+1,4,none⟩=false/\w.frozen? ⟨u.heap.size+1+1+1+1,5,none⟩=false:=⟨h.cell 4 0 r rfl,h.cell 4 1 r rfl,h.cell 4 2 r rfl,h.cell 4 3 r rfl,h.cell 4 4 r rfl,h.cell 4 5 r rfl,h.free 4 0 r,h.free 4 1 r,h.free 4 2 r,h.free 4 3 r,h.free 4 4 r,h.free 4 5 r⟩
theorem Ap.eF{u w:World}{l:List (TypeId×Array Value)}{t:TypeId}{a b:Value}(h:Ap u w l)(r:l[5]?=some (t,#[a,b])):w.cell? ⟨u.heap.size+1+1+1+1+1,0,none⟩=some a/\w.cell? ⟨u.heap.size+1+1+1+1+1,1,none⟩=some b:=⟨h.cell 5 0 r rfl,h.cell 5 1 r rfl⟩
theorem Ap.eG{u w:World}{l:List (TypeId×Array Value)}{t:TypeId}{a b c:Value}(h:Ap u w l)(r:l[6]?=some (t,#[a,b,c])):w.cell? ⟨u.heap.size+1+1+1+1+1+1,0,none⟩=some a/\w.cell? ⟨u.heap.size+1+1+1+1+1+1,1,none⟩=some b/\w.cell? ⟨u.heap.size+1+1+1+1+1+1,2,none⟩=some c:=⟨h.cell 6 0 r rfl,h.cell 6 1 r rfl,h.cell 6 2 r rfl⟩
end
section
open Go Go.RowKit Go.Maps
namespace Own
def Xu (L:List UInt8)(i:Nat):Prop:=L[i]? = some 47/\(i=0\/∀ c,L[i+1]? = some c->c=47)
theorem Oa:∀ (L:List UInt8) (f:Bool),Lb f L=true↔((f=true->L≠[]/\L[0]? ≠ some 47)/\∀ i:Nat,L[i]? = some 47->∃ c:UInt8,L[i+1]? = some c/\c≠47)
 | [],f => by
   have h:∀ i:Nat,([]:List UInt8)[i]? = some 47->∃ c:UInt8,([]:List UInt8)[i+1]? = some c/\c≠47:=fun i hi=>by simp at hi
   cases f with
   | false=>exact⟨fun _=>⟨fun e=>(by cases e),h⟩,fun _=>rfl⟩
   | true=>exact⟨fun e=>(by cases e),fun e=>absurd rfl (e.1 rfl).1⟩
 | c :: l,f => by
   unfold Lb
   by_cases h:c=47
   ·subst h
    rw[if_pos rfl,Bool.and_eq_true,Oa l true]
    constructor
    ·rintro⟨h1,h2,h3⟩
     refine⟨fun hf=>(by rw[hf] at h1;cases h1),fun i hi=>?_⟩
     cases i with
     | zero =>
       obtain⟨h4,h5⟩:=h2 rfl
       cases l with
       | nil=>exact absurd rfl h4
       | cons d l=>exact⟨d,rfl,fun e=>h5 (by rw[e];rfl)⟩
     | succ i=>exact h3 i hi
    ·rintro⟨h1,h2⟩
     refine⟨?_,fun _=>?_,fun i hi=>h2 (i+1) hi⟩
     ·cases f with
      | false=>rfl
      | true=>exact absurd rfl (h1 rfl).2
     ·obtain⟨d,h4,h5⟩:=h2 0 rfl
      have h4:l[0]? = some d:=h4
      refine⟨fun e=>(by rw[e] at h4;cases h4),fun e=>h5 ?_⟩
      rw[e] at h4
      exact(Option.some.inj h4).symm
   ·rw[if_neg h,Oa l false]
    constructor
    ·rintro⟨_,h3⟩
     refine⟨fun _=>⟨by simp,fun e=>h (Option.some.inj e)⟩,fun i hi=>?_⟩
     cases i with
     | zero=>exact absurd (Option.some.inj hi) h
     | succ i=>exact h3 i hi
    ·rintro⟨_,h2⟩
     exact⟨fun e=>(by cases e),fun i hi=>h2 (i+1) hi⟩
theorem Uf (L:List UInt8)(h:L≠[]):Ib L=true↔∀ i,¬ Xu L i:=by
 rw[(Xn L).1,Oa]
 constructor
 ·rintro⟨h1,h2⟩ i ⟨h3,h4⟩
  rcases h4 with rfl|h4
  ·exact(h1 rfl).2 h3
  ·obtain⟨c,h5,h6⟩:=h2 i h3
   exact h6 (h4 c h5)
 ·intro hb
  refine⟨fun _=>⟨h,fun e=>hb 0 ⟨e,.inl rfl⟩⟩,fun i hi=>?_⟩
  cases hn:L[i+1]? with
  | none=>exact absurd ⟨hi,.inr (fun c hc=>by rw[hn] at hc;cases hc)⟩ (hb i)
  | some c=>exact⟨c,rfl,fun e=>hb i ⟨hi,.inr (fun d hd=>by rw[hn] at hd;rw[<- Option.some.inj hd];exact e)⟩⟩
end Own
theorem wH {s:ByteArray}{k:Nat}(h:k<s.size):s.data.toList[k]? = some s[k]:=by
 rw[Array.getElem?_toList]
 exact Array.getElem?_eq_getElem h
theorem Ug {s:ByteArray}{k:Nat}(h:s.size<=k):s.data.toList[k]? = none:=by
 rw[Array.getElem?_toList]
 exact Array.getElem?_eq_none h
theorem qD {c:UInt8}(n:Nat)(hn:n<256)(h:(c.toNat:Int)=n):c=n.toUInt8:=by
 apply UInt8.toNat_inj.1
 rw[show(n.toUInt8).toNat=n from by simp[Nat.mod_eq_of_lt hn]]
 omega
theorem Ct (s:ByteArray)(w:World)(hs:s.size<=9223372036854775000):Calls Tryz.prog 44 #[.string s] w fun e w' => e=.returned (.bool (Own.Bp s))/\w' = w:=by
 obtain⟨R,hR⟩:∃ R,R=Own.Bp s:=⟨_,rfl⟩
 rw[<- hR]
 have HR:=zh hR;clear hR
 go_enter Tryz.func44,Tryz.ntmps44
 go_wp2_with fail
 go_loopw [3] (fun i wr=>∃ k:Nat,k<=s.size/\i=.int .i64 k/\(∀ j,j<k->¬ Own.Xu s.data.toList j)/\wr=w) (fun i _=>s.size-(intOf i).toNat)
 case atStart=>exact⟨0,by omega,rfl,(fun j hj=>absurd hj (by omega)),rfl⟩
 case round=>
  obtain⟨k,hk,rfl,hgo,rfl⟩:=hrel
  by_cases hlt:k<s.size
  case neg=>
   have dk:decide ((k:Int)<(s.size:Int))=false:=zf
   have e:R=(decide (1<=(s.size:Int))&&decide ((s.size:Int)<=64)):=by
    rw[HR.out]
    unfold Own.Bp
    by_cases h0:s.data.toList=[]
    ·have : s.size = 0 :=by
      have:=congrArg List.length h0
      rw[Array.length_toList] at this
      exact this
     rw[this];rfl
    ·have : Own.Ib s.data.toList = true :=(Own.Uf _ h0).2 fun i hi => by
      by_cases hik:i<k
      ·exact hgo i hik hi
      ·have:=hi.1
       rw[Ug (by omega)] at this
       cases this
     rw[this,Bool.and_true,show decide (1<=s.size)=decide (1<=(s.size:Int)) from decide_eq_decide.2 (by omega),show decide (s.size<=64)=decide ((s.size:Int)<=64) from decide_eq_decide.2 (by omega)]
   have HE:=zh e;clear e hgo
   by_cases h1:1<=(s.size:Int)
   ·have d1:decide (1<=(s.size:Int))=true:=decide_eq_true h1
    go_wp2_with fail
    go_ret
    exact⟨by rw[HE.out,d1];rfl,rfl⟩
   ·have d1:decide (1<=(s.size:Int))=false:=decide_eq_false h1
    go_wp2_with fail
    go_ret
    exact⟨by rw[HE.out,d1];rfl,rfl⟩
  have dk:decide ((k:Int)<(s.size:Int))=true:=zt
  have hbad:Own.Xu s.data.toList k->R=false:=fun hb=>by
   rw[HR.out]
   unfold Own.Bp
   have:Own.Ib s.data.toList=false:=by
    cases hp:Own.Ib s.data.toList with
    | false=>rfl
    | true=>exact absurd hb ((Own.Uf _ (fun e=>by have:=hb.1;rw[e] at this;cases this)).1 hp k)
   rw[this,Bool.and_false]
  have hnx:¬ Own.Xu s.data.toList k->∀ j,j<k+1->¬ Own.Xu s.data.toList j:=fun h j hj=>by
   rcases(by omega:j<k\/j=k) with h1|rfl
   ·exact hgo j h1
   ·exact h
  have h0:s.data.toList[k]? = some s[k]:=wH hlt
  have HBAD:=zh hbad;have HNX:=zh hnx;have H0:=zh h0
  clear hbad hnx hgo h0
  by_cases h47:(s[k].toNat:Int)=47
  case neg=>
   have d47:((s[k].toNat:Int)==47)=false:=beq_eq_false_iff_ne.2 h47
   have hn:=HNX.out (by intro hb;have:=hb.1;rw[H0.out] at this;exact h47 (by rw[Option.some.inj this];rfl))
   have HN:=zh hn;clear hn
   go_wp2_with fail
   exact⟨⟨k+1,by omega,by go_num,HN.out,(by first|rfl|trivial)⟩,by simp[intOf];omega⟩
  have d47:((s[k].toNat:Int)==47)=true:=beq_iff_eq.2 h47
  have hc:s[k]=47:=qD 47 (by omega) h47
  have HC:=zh hc;clear hc
  by_cases hk0:k=0
  ·have dk0:((k:Int)==0)=true:=beq_iff_eq.2 (by omega)
   have HK0:=zh hk0;clear hk0
   have e:R=false:=HBAD.out (by exact⟨by rw[H0.out,HC.out],.inl HK0.out⟩)
   have HE:=zh e;clear e
   go_wp2_with fail
   go_ret
   exact⟨by rw[HE.out];rfl,rfl⟩
  have dk0:((k:Int)==0)=false:=beq_eq_false_iff_ne.2 (by omega)
  by_cases hkl:(k:Int)=(s.size:Int)-1
  ·have dkl:((k:Int)==(s.size:Int)-1)=true:=beq_iff_eq.2 hkl
   have HKL:=zh hkl;clear hkl
   have e:R=false:=HBAD.out (by exact⟨by rw[H0.out,HC.out],.inr (fun c hc=>by have:=HKL.out;rw[Ug (by omega)] at hc;cases hc)⟩)
   have HE:=zh e;clear e
   go_wp2_with fail
   go_ret
   exact⟨by rw[HE.out];rfl,rfl⟩
  have dkl:((k:Int)==(s.size:Int)-1)=false:=beq_eq_false_iff_ne.2 hkl
  have hk1:k+1<s.size:=by omega
  have h1:s.data.toList[k+1]? = some s[k+1]:=wH hk1
  have H1:=zh h1;clear h1
  by_cases h48:(s[k+1].toNat:Int)=47
  ·have d48:((s[k+1].toNat:Int)==47)=true:=beq_iff_eq.2 h48
   have e:R=false:=HBAD.out (by exact⟨by rw[H0.out,HC.out],.inr (fun c hc=>by rw[H1.out] at hc;rw[<- Option.some.inj hc];exact qD 47 (by omega) h48)⟩)
   have HE:=zh e;clear e
   go_wp2_with fail
   go_ret
   exact⟨by rw[HE.out];rfl,rfl⟩
  ·have d48:((s[k+1].toNat:Int)==47)=false:=beq_eq_false_iff_ne.2 h48
   have hn:=HNX.out (by intro hb;exact hb.2.elim hk0 (fun h=>h48 (by rw[h _ H1.out];rfl)))
   have HN:=zh hn;clear hn
   go_wp2_with fail
   exact⟨⟨k+1,by omega,by go_num,HN.out,(by first|rfl|trivial)⟩,by simp[intOf];omega⟩
theorem Bb (p:ByteArray)(w:World):Calls Tryz.prog 103 #[.string p] w fun e w' => e=.returned (.bool (Sig.Bw p))/\w' = w:=by
 obtain⟨R,hR⟩:∃ R,R=Sig.Bw p:=⟨_,rfl⟩
 rw[<- hR]
 unfold Sig.Bw at hR
 have HR:=zh hR;clear hR
 go_enter Tryz.func103,Tryz.ntmps103
 by_cases h33:p.size=33
 case neg=>
  have d1:((p.size:Int)==33)=false:=by rw[beq_eq_false_iff_ne];omega
  have hx:R=false:=by rw[HR.out,decide_eq_false h33];rfl
  have HX:=zh hx;clear hx
  go_wp2_with fail
  go_ret
  exact⟨by rw[HX.out];rfl,rfl⟩
 have d1:((p.size:Int)==33)=true:=by rw[beq_iff_eq];omega
 have h32:32<p.size:=by omega
 have hg:p.get! 32=p[32]:=getElem!_pos p.data 32 h32
 have hxl:p[32].toNat<256:=p[32].toNat_lt
 have hx:R=decide ((p[32].toNat:Int)<=6):=by
  rw[HR.out,decide_eq_true h33,hg,Bool.true_and,decide_eq_decide]
  omega
 have HX:=zh hx;clear hx
 go_wp2_with fail
 go_ret
 exact⟨by rw[HX.out];rfl,rfl⟩
theorem SG (pub m:ByteArray)(s:Sig.T)(cv pv:Value)(w:World)(hc:Ay w cv s.chains)(hp:Ay w pv s.path)(hcap:CS pv)(hl:s.chains.length<=140737488355328)(hpl:s.path.length<=140737488355328)(hm:m.size<=140737488350000):
 Calls Tryz.prog 107 #[.string pub,.string m,.agg #[.int .i64 s.index,cv,pv]] w fun e w' => e=.returned (.bool (Sig.verify pub m s))/\Below w.heap.size w w':=by
 obtain⟨R,hR⟩:∃ R,R=Sig.verify pub m s:=⟨_,rfl⟩
 rw[<- hR]
 unfold Sig.verify at hR
 obtain⟨ca,cc,rfl⟩:=hc.len
 obtain⟨pa,pc,rfl⟩:=hp.len
 have HR:=zh hR;have HC:=zh hc;have HP:=zh hp;have HCAP:=zh hcap
 clear hR hc hp hcap
 go_enter Tryz.func107,Tryz.ntmps107
 have hb1:Below w.heap.size w (w.alloc (.cells #[.int .i64 s.index,.slice ca s.chains.length cc,.slice pa s.path.length pc] 41)):=zb
 have ha1:At (w.alloc (.cells #[.int .i64 s.index,.slice ca s.chains.length cc,.slice pa s.path.length pc] 41)) w.heap.size 41 #[.int .i64 s.index,.slice ca s.chains.length cc,.slice pa s.path.length pc]:=At.new w _ _
 have hlw:w.heap.size<(w.alloc (.cells #[.int .i64 s.index,.slice ca s.chains.length cc,.slice pa s.path.length pc] 41)).heap.size:=by simp
 have HC1:=zh (HC.out.below hb1);have HP1:=zh (HP.out.below hb1)
 have HB1:=zh hb1;have HA1:=zh ha1
 clear hb1 ha1
 obtain⟨c0,c1,c2⟩:=HA1.out.c3
 go_wp2_with fail
 generalize w.alloc (.cells #[.int .i64 s.index,.slice ca s.chains.length cc,.slice pa s.path.length pc] 41)=w1 at*
 refine(Bb pub w1).mono ?_
 rintro e w2 ⟨rfl,rfl⟩
 cases LK:Sig.Bw pub with
 | false =>
   have hx:R=false:=by rw[HR.out,LK];rfl
   have HX:=zh hx;clear hx LK
   go_wp2_with fail
   go_ret
   exact⟨by rw[HX.out];rfl,HB1.out⟩
 | true=>
 have h33:pub.size=33:=of_decide_eq_true (Bool.and_eq_true_iff.1 LK).1
 have h6' : (pub.get! 32).toNat<=6:=of_decide_eq_true (Bool.and_eq_true_iff.1 LK).2
 have h32:32<pub.size:=by omega
 have hg:pub.get! 32=pub[32]:=getElem!_pos pub.data 32 h32
 have h6:pub[32].toNat<=6:=hg ▸ h6'
 rw[LK,hg] at HR
 obtain⟨N,hN⟩:∃ N:Nat,N=2^pub[32].toNat:=⟨_,rfl⟩
 have rC:N<=64:=by
  rw[hN]
  exact Nat.le_trans (Nat.pow_le_pow_right (by omega) h6) (by decide)
 have hN0:0<N:=by rw[hN];exact Nat.two_pow_pos _
 have hsh:wrap64 ((2:Int)^pub[32].toNat)=(N:Int):=by
  have:((2:Int)^pub[32].toNat)=((2^pub[32].toNat:Nat):Int):=(Int.natCast_pow 2 _).symm
  rw[this,<- hN]
  unfold wrap64
  omega
 have hR2:R=(decide (0<=s.index)&&decide (s.index<(N:Int))&&decide (s.chains.length=67)&&s.chains.all Sig.digest&&Sig.included (Sig.Fb (Sig.ends s.index.toNat m s.chains)) s.index N s.path (pub.extract 0 32)):=by
  have:((2:Int)^pub[32].toNat)=(N:Int):=by rw[hN];exact(Int.natCast_pow 2 _).symm
  rw[HR.out,this]
  simp
 have HR2:=zh hR2;have HSH:=zh hsh
 clear hR2 LK hN hsh hg h6'
 by_cases i3:s.chains.length=67
 case neg=>
  have e3:((s.chains.length:Int) != 67)=true:=by rw[bne_iff_ne];omega
  have hx:R=false:=by rw[HR2.out,decide_eq_false i3];simp
  have HX:=zh hx;clear hx
  go_wp2_with fail
  go_ret
  exact⟨by rw[HX.out];rfl,HB1.out⟩
 have e3:((s.chains.length:Int) != 67)=false:=by rw[bne_eq_false_iff_eq];omega
 have I3:=zh i3;clear i3
 go_wp2_with fail
 refine(Gh _ s.chains w2 HC1.out hl).mono ?_
 rintro e w3 ⟨rfl,rfl⟩
 rw[LJ]
 cases hall:s.chains.all Sig.digest with
 | false =>
   have hx:R=false:=by rw[HR2.out,hall];simp
   have HX:=zh hx;clear hx hall
   go_wp2_with fail
   go_ret
   exact⟨by rw[HX.out];rfl,HB1.out⟩
 | true=>
 have Xb:∀ x∈s.chains,x.size=32:=fun x hx=>of_decide_eq_true (List.all_eq_true.1 hall x hx)
 have hR3:R=(decide (0<=s.index)&&decide (s.index<(N:Int))&&Sig.included (Sig.Fb (Sig.ends s.index.toNat m s.chains)) s.index N s.path (pub.extract 0 32)):=by
  rw[HR2.out,hall,decide_eq_true I3.out]
  simp
 have HR3:=zh hR3;have QJ:=zh Xb
 clear hR3 hall Xb HR HR2
 go_upto_region 4 with fail
 rw[HSH.out]
 by_cases i1:s.index<0
 ·have e1:decide (s.index<0)=true:=decide_eq_true i1
  have hx:R=false:=by rw[HR3.out,zf];rfl
  have HX:=zh hx;clear hx
  go_wp2_with fail
  go_ret
  exact⟨by rw[HX.out];rfl,HB1.out⟩
 have e1:decide (s.index<0)=false:=decide_eq_false i1
 by_cases i2:(N:Int)<=s.index
 ·have e2:decide ((N:Int)<=s.index)=true:=decide_eq_true i2
  have hx:R=false:=by rw[HR3.out,decide_eq_false (p:=s.index<(N:Int)) (by omega)];simp
  have HX:=zh hx;clear hx
  go_wp2_with fail
  go_ret
  exact⟨by rw[HX.out];rfl,HB1.out⟩
 have e2:decide ((N:Int)<=s.index)=false:=decide_eq_false i2
 obtain⟨I,hI⟩:∃ I:Nat,s.index=I:=⟨s.index.toNat,by omega⟩
 have hR4:R=Sig.included (Sig.Fb (Sig.ends I m s.chains)) (I:Int) N s.path (pub.extract 0 32):=by
  rw[HR3.out,decide_eq_true (p:=0<=s.index) (by omega),decide_eq_true (p:=s.index<(N:Int)) (by omega),hI]
  simp
 have HR4:=zh hR4;clear hR4 HR3
 rw[hI] at e1 e2 c0 HA1 ⊢
 have hIN:I<64:=by omega
 have e3' : decide (N<=I)=false:=zf
 clear hI i1 i2 e1 e2
 go_wp2_with fail
 refine(KY m w3 hm).mono ?_
 rintro e w4 ⟨dv,rfl,hdo,hb4⟩
 have HB4:=zh (HB1.out.trans (hb4.mono HB1.out.size));have HD4:=zh hdo
 have HA4:=zh (HA1.out.below hb4 HA1.out.lt);have HC4:=zh (HC1.out.below hb4);have HP4:=zh (HP1.out.below hb4)
 obtain⟨g,zav,hdv,hdc⟩:=CO hdo (by omega)
 have HDC:=zh hdc
 have hgl:g<w4.heap.size:=by
  obtain⟨cur,hc⟩:=Dx hdo (g:=g) (by rw[hdv];rfl)
  exact At.lt hc
 subst hdv
 clear hb4 hdo hdc c0 c1 c2 HA1 HC1 HP1 HB1
 obtain⟨F,hF⟩:∃ F:Nat->ByteArray,F=fun k=>Cod.cat ((Sig.ends I m s.chains).take k):=⟨_,rfl⟩
 have hEl:(Sig.ends I m s.chains).length=67:=by unfold Sig.ends;rw[List.length_map,List.length_range]
 have hEz:∀ x∈Sig.ends I m s.chains,x.size=32:=by
  intro x hx
  unfold Sig.ends at hx
  obtain⟨c,hc,rfl⟩:=List.mem_map.1 hx
  have hc:=List.mem_range.1 hc
  refine Sig.Ec _ _ _ _ _ ?_
  rw[List.getD_eq_getElem?_getD,List.getElem?_eq_getElem (by have:=I3.out;omega)]
  exact QJ.out _ (List.getElem_mem _)
 have hFz:∀ k,k<=67->(F k).size=32*k:=fun k hk=>by
  rw[hF]
  show(Cod.cat _).size=_
  rw[ME _ (fun z hz=>hEz z (List.mem_of_mem_take hz)),List.length_take,hEl,Nat.min_eq_left hk]
 have hFs:∀ k,k<67->F (k+1)=F k++Sig.chain I k ((Sig.digits m).getD k 0) (15-(Sig.digits m).getD k 0) (s.chains.getD k ⟨#[]⟩):=fun k hk=>by
  rw[hF]
  show Cod.cat _=Cod.cat _++_
  rw[TR _ _ _ _ hk,J8]
 have hF0:F 0=⟨#[]⟩:=by rw[hF];rfl
 have hR5:R=Sig.included (Sha.sha (Sig.b1 0++F 67)) (I:Int) N s.path (pub.extract 0 32):=by
  rw[HR4.out,hF]
  show _=Sig.included (Sha.sha (Sig.b1 0++Cod.cat (List.take 67 (Sig.ends I m s.chains)))) _ _ _ _
  rw[List.take_of_length_le (by omega)]
  rfl
 have HFZ:=zh hFz;have HFS:=zh hFs;have HF0:=zh hF0;have HR5:=zh hR5
 clear hF hEl hEz hFz hFs hF0 hR5 HR4
 go_wp2_with fail
 go_loopw [9,10] (fun x i wr=>∃ k:Nat,k<=67/\i=.int .i64 k/\x=.string (F k)/\Below w4.heap.size w4 wr) (fun _ i _=>67-(intOf i).toNat)
 case atStart=>exact⟨0,by omega,rfl,by rw[HF0.out],Below.refl _ _⟩
 case round=>
  obtain⟨k,hk,rfl,rfl,hbr⟩:=hrel
  have HBR:=zh hbr
  have hat:=HA4.out.below hbr HA4.out.lt
  obtain⟨c0,c1,c2⟩:=hat.c3
  clear hat
  by_cases hlt:k<67
  ·have dk:decide ((k:Int)<67)=true:=by simp;omega
   have hdl:k<(Sig.digits m).length:=by rw[Sig.Lv];omega
   have hd0:w4.cell? ⟨g,k,none⟩=some (.int .i64 (((Sig.digits m).getD k 0:Nat):Int)):=HDC.out k _ (by unfold GX;rw[List.getElem?_map,List.getElem?_eq_getElem hdl,List.getD_eq_getElem?_getD,List.getElem?_eq_getElem hdl];rfl)
   have hd:wr.cell? ⟨g,k,none⟩=some (.int .i64 (((Sig.digits m).getD k 0:Nat):Int)):=(hbr.cell (p:=⟨g,k,none⟩) hgl).trans hd0
   have nH:=Sig.Mr m k
   have hkl:k<s.chains.length:=by have:=I3.out;omega
   have hcs:=HC4.out.below hbr
   obtain⟨cb,co,hca⟩:=hcs.addrOf hkl
   subst hca
   have hcell:=hcs.cellAt hkl
   have hFs:=HFS.out k hlt
   have hxz:(s.chains.getD k ⟨#[]⟩).size=32:=by
    rw[List.getD_eq_getElem?_getD,List.getElem?_eq_getElem hkl]
    exact QJ.out _ (List.getElem_mem _)
   obtain⟨d,hdd⟩:∃ d,d=(Sig.digits m).getD k 0:=⟨_,rfl⟩
   obtain⟨x,hx⟩:∃ x,x=s.chains.getD k ⟨#[]⟩:=⟨_,rfl⟩
   rw[<- hdd] at hd nH hFs
   rw[<- hx] at hcell hFs hxz
   have HFK:=zh hFs
   have hfz:=HFZ.out k hk
   clear hFs hd0 hdd hx hcs hdl
   go_wp2_with fail
   refine Lex.zl ?_
   go_wp2_with fail
   refine(show Calls Tryz.prog 120 #[.int .i64 I,.int .i64 k,.int .i64 d,.int .i64 15,.string x] wr.drew _ from JB I k d (15-d) 15 x wr.drew (by omega) (by omega) (by omega) (by omega) (by omega)).mono ?_
   rintro e w5 ⟨rfl,hb5⟩
   have Dt : Below w4.heap.size w4 w5:=hbr.trans (((Below.refl wr.heap.size wr).drew.trans hb5).mono hbr.size)
   have hyz:=Sig.Ec I k d (15-d) x hxz
   obtain⟨y,hy⟩:∃ y,y=Sig.chain I k d (15-d) x:=⟨_,rfl⟩
   rw[<- hy] at hyz HFK ⊢
   have HB5:=zh Dt
   clear hb5 Dt hy hbr
   go_wp2_with fail
   refine Lex.ze ?_
   go_wp2_with fail
   exact⟨⟨k+1,by omega,by go_num,by rw[HFK.out],HB5.out⟩,by simp[intOf];omega⟩
  ·obtain rfl:k=67:=by omega
   have zce:w.heap.size<w4.heap.size:=HA4.out.lt
   have hlr:=hbr.size
   have hfz:=HFZ.out 67 (by omega)
   have hp:=HP4.out.below hbr
   have HPR:=zh hp
   clear hp hbr
   go_wp2_with fail
   refine Lex.zn (fun j=>j=w.heap.size) [3,6] 9 [2] ?_
   simp only[Lex.AA,zd]
   go_wp2_with fail
   refine(OG (F 67) wr.drew (by omega)).mono ?_
   rintro e w5 ⟨rfl,hb5⟩
   have Dt : Below wr.heap.size wr w5:=(Below.refl wr.heap.size wr).drew.trans hb5
   have q0:=(Dt.cell (p:=⟨w.heap.size,0,none⟩) (by show w.heap.size<wr.heap.size;omega)).trans c0
   have q2:=(Dt.cell (p:=⟨w.heap.size,2,none⟩) (by show w.heap.size<wr.heap.size;omega)).trans c2
   have hsm:∀ j,j=w.heap.size->w5.heap[j]? = wr.drew.heap[j]? :=fun j hj=>Dt.block j (by omega)
   have hi:=Pk (Sha.sha (Sig.b1 0++F 67)) (I:Int) N _ s.path (pub.extract 0 32) w5 (HPR.out.below Dt) HCAP.out hpl
   rw[<- HR5.out] at hi
   have HI:=zh hi;have HB5:=zh Dt;have HSM:=zh hsm
   clear hb5 Dt hi hsm
   generalize Sha.sha (Sig.b1 0++F 67)=L at*
   go_wp2_with fail
   refine Lex.Mid.intro (fun j hj _=>HSM.out j hj) ?_
   go_wp2_with fail
   refine HI.out.mono ?_
   rintro e w6 ⟨rfl,hb6⟩
   have HB6:=zh (HB4.out.trans ((HBR.out.trans ((HB5.out.trans (hb6.mono HB5.out.size)).mono HBR.out.size)).mono HB4.out.size));clear hb6
   go_wp2_with fail
   refine Lex.zk ⟨⟨rfl,zi c0⟩,⟨rfl,zi c2⟩,trivial⟩ ?_
   go_wp2_with fail
   go_ret
   exact⟨rfl,HB6.out⟩
theorem Xv (x s:List UInt8):x.isPrefixOf s=true↔x.length<=s.length/\s.take x.length=x:=by
 rw[List.isPrefixOf_iff_prefix,List.prefix_iff_eq_take]
 constructor
 ·intro h
  have hl:=congrArg List.length h
  rw[List.length_take] at hl
  exact⟨by omega,h.symm⟩
 ·rintro⟨_,h⟩
  exact h.symm
theorem Uh {α : Type}{l:List α}{p : α -> Bool}{j:Nat}(h:j<l.length)(h1:(l.take j).any p=false)(h2:p l[j]=false):(l.take (j+1)).any p=false:=by
 rw[List.take_succ_eq_append_getElem h,List.any_append,h1]
 simp[h2]
theorem Rn (s p:ByteArray)(w:World)(hs:s.size<=140737488355328)(hp:p.size<=140737488355000):Calls Tryz.prog 104 #[.string s,.string p] w fun e w' => e=.returned (.bool (Own.belongs s p))/\w' = w:=by
 obtain⟨R,hR⟩:∃ R,R=Own.belongs s p:=⟨_,rfl⟩
 rw[<- hR]
 unfold Own.belongs at hR
 have HR:=zh hR;clear hR
 go_enter Tryz.func104,Tryz.ntmps104
 by_cases h:s=p
 ·have d:(s.toList==p.toList)=true:=by rw[bytes_beq];exact decide_eq_true h
  have e:R=true:=by rw[HR.out,decide_eq_true h];rfl
  have HE:=zh e;clear e
  go_wp2_with fail
  go_ret
  exact⟨by rw[HE.out];rfl,rfl⟩
 have d:(s.toList==p.toList)=false:=by rw[bytes_beq];exact decide_eq_false h
 have l1:s.data.toList.length=s.size:=by rw[Array.length_toList];rfl
 have l2:p.data.toList.length=p.size:=by rw[Array.length_toList];rfl
 have l3:(p.data.toList++[47]).length=p.size+1:=by rw[List.length_append,l2];rfl
 by_cases hlt:p.size<s.size
 ·have d1:decide ((p.size:Int)<(s.size:Int))=true:=zt
  have d2:decide ((p.size:Int)+1<=(s.size:Int))=true:=zt
  have e:R=((s.extract 0 (p.size+1)).toList==(p++⟨#[47]⟩:ByteArray).toList):=by
   rw[HR.out,decide_eq_false h,Bool.false_or,Bool.eq_iff_iff,Xv,beq_iff_eq,ByteArray.toList_eq,ByteArray.toList_eq,Sha.Dn,l1,l3,Sha.Bh]
   simp
   intro _;omega
  have HE:=zh e
  clear e l1 l2 l3
  have ek:(p.size:Int)+1=((p.size+1:Nat):Int):=by omega
  have HEK:=zh ek;clear ek
  cases hb:((s.extract 0 (p.size+1)).toList==(p++⟨#[47]⟩:ByteArray).toList) with
  | true =>
    go_wp2_with (rw[HEK.out])
    go_ret
    exact⟨by rw[HE.out,hb];rfl,rfl⟩
  | false =>
    go_wp2_with (rw[HEK.out])
    go_ret
    exact⟨by rw[HE.out,hb];rfl,rfl⟩
 ·have d1:decide ((p.size:Int)<(s.size:Int))=false:=zf
  have e:R=false:=by
   rw[HR.out,decide_eq_false h,Bool.false_or,Bool.eq_false_iff]
   intro hh
   have:=((Xv _ _).1 hh).1
   omega
  have HE:=zh e;clear e l1 l2 l3
  go_wp2_with fail
  go_ret
  exact⟨by rw[HE.out];rfl,rfl⟩
theorem KM (v:Value)(l:List Own.Member)(w:World)(h:Own.Ar w v l)(hl:l.length<=140737488355328):
 Calls Tryz.prog 131 #[v] w fun e w' => e=.returned (.bool (Own.Cv l))/\Below w.heap.size w w':=by
 obtain⟨R,hR⟩:∃ R,R=Own.Cv l:=⟨_,rfl⟩
 rw[<- hR]
 unfold Own.Cv at hR
 obtain⟨a,c,rfl⟩:=h.len
 have HR:=zh hR;have HL:=zh h;clear hR h
 go_enter Tryz.func131,Tryz.ntmps131
 go_wp2_with fail
 go_loopw [3] (fun i wr=>∃ k:Nat,k<=l.length/\i=.int .i64 k/\Own.Aw [] (l.take k)=true/\Below w.heap.size w wr) (fun i _=>l.length-(intOf i).toNat)
 case atStart=>exact⟨0,by omega,rfl,rfl,Below.refl _ _⟩
 case round=>
  obtain⟨k,hk,rfl,hok,hb⟩:=hrel
  have HB:=zh hb
  by_cases hlt:k<l.length
  case neg=>
   have hke:k=l.length:=by omega
   have dk:decide ((k:Int)<l.length)=false:=zf
   have e:R=(decide (1<=(l.length:Int))&&decide ((l.length:Int)<=8)):=by
    rw[hke,List.take_length] at hok
    rw[HR.out,hok,Bool.and_true,show decide (1<=l.length)=decide (1<=(l.length:Int)) from decide_eq_decide.2 (by omega),show decide (l.length<=8)=decide ((l.length:Int)<=8) from decide_eq_decide.2 (by omega)]
   have HE:=zh e;clear e hok hb hke
   by_cases h1:1<=(l.length:Int)
   ·have d1:decide (1<=(l.length:Int))=true:=decide_eq_true h1
    have d1' : decide (1<=l.length)=true:=zt
    go_wp2_with fail
    go_ret
    exact⟨by rw[HE.out,d1];rfl,HB.out⟩
   ·have d1:decide (1<=(l.length:Int))=false:=decide_eq_false h1
    have d1' : decide (1<=l.length)=false:=zf
    go_wp2_with fail
    go_ret
    exact⟨by rw[HE.out,d1];rfl,HB.out⟩
  have dk:decide ((k:Int)<l.length)=true:=zt
  have hra:R=false\/(Own.Bj (l.take k) l[k]=true):=by
   cases hm:Own.Bj (l.take k) l[k] with
   | true=>exact .inr rfl
   | false=>refine .inl ?_;rw[HR.out,Own.JN l k hlt,hok,hm];simp
  have hra:Own.Bj (l.take k) l[k]=false->R=false:=fun hm=>by
   rcases hra with h|h
   ·exact h
   ·rw[hm] at h;cases h
  have htk:Own.Aw [] (l.take (k+1))=Own.Bj (l.take k) l[k]:=by rw[Own.Ic l k hlt,hok,Bool.true_and]
  have hmo:Own.Bj (l.take k) l[k]=(Own.Bq l[k].name&&Sig.Bw l[k].pub && !((l.take k).any fun x=>decide (x.pub=l[k].pub))&&(match (l.take k).getLast? with|none=>true|some x=>Own.Ah x.name l[k].name)):=rfl
  have hlk:=HL.out.below hb
  obtain⟨b,o,ha,hbl,c0,c1⟩:=Own.Ar.cells hlk hlt
  have BR:∀ j,k=j+1->∃ x:Own.Member,wr.cell? ⟨b,o+j*2,none⟩=some (.string x.name)/\(l.take k).getLast? = some x:=by
   intro j hj
   obtain⟨b',o',ha',_,e0,_⟩:=Own.Ar.cells hlk (i:=j) (by omega)
   rw[ha] at ha'
   cases ha'
   have hg:=Own.getLast_take l j (by omega)
   rw[<- hj] at hg
   exact⟨_,e0,hg⟩
  subst ha
  obtain⟨nm,hnm⟩:∃ x,x=l[k].name:=⟨_,rfl⟩
  obtain⟨pb,hpb⟩:∃ x,x=l[k].pub:=⟨_,rfl⟩
  rw[<- hnm,<- hpb] at hmo
  rw[<- hnm] at c0
  rw[<- hpb] at c1
  rw[hmo] at hra htk
  have HPB:=zh hpb.symm
  have HRA:=zh hra;have HTK:=zh htk;have Du:=zh BR
  clear hra htk hmo BR hnm hpb hok hlk hb hbl
  by_cases h1:(nm.size:Int)<1
  ·have d1:decide ((nm.size:Int)<1)=true:=decide_eq_true h1
   have d1' : decide (nm.size<1)=true:=zt
   have hn:Own.Bq nm=false:=by unfold Own.Bq;rw[zf];rfl
   have e:R=false:=HRA.out (by rw[hn];rfl)
   have HE:=zh e;clear e hn
   go_wp2_with fail
   refine Lex.zl ?_
   go_wp2_with fail
   refine Lex.ze ?_
   go_wp2_with fail
   go_ret
   exact⟨by rw[HE.out];rfl,(HB.out).drew⟩
  have d1:decide ((nm.size:Int)<1)=false:=decide_eq_false h1
  have d1' : decide (nm.size<1)=false:=zf
  by_cases h2:32<(nm.size:Int)
  ·have d2:decide (32<(nm.size:Int))=true:=decide_eq_true h2
   have d2' : decide (32<nm.size)=true:=zt
   have hn:Own.Bq nm=false:=by unfold Own.Bq;rw[decide_eq_false (show ¬ nm.size<=32 by omega),Bool.and_false]
   have e:R=false:=HRA.out (by rw[hn];rfl)
   have HE:=zh e;clear e hn
   go_wp2_with fail
   refine Lex.zl ?_
   go_wp2_with fail
   refine Lex.ze ?_
   go_wp2_with fail
   go_ret
   exact⟨by rw[HE.out];rfl,(HB.out).drew⟩
  have d2:decide (32<(nm.size:Int))=false:=decide_eq_false h2
  have d2' : decide (32<nm.size)=false:=zf
  have hn:Own.Bq nm=true:=by unfold Own.Bq;rw[decide_eq_true (show 1<=nm.size by omega),decide_eq_true (show nm.size<=32 by omega)];rfl
  have hra:=HRA.out;have htk:=HTK.out
  rw[hn,Bool.true_and] at hra htk
  clear HRA HTK hn
  cases hp:Sig.Bw pb with
  | false =>
    have e:R=false:=hra (by rw[hp];rfl)
    have HE:=zh e;clear e hra htk
    go_wp2_with fail
    refine Lex.zl ?_
    go_wp2_with fail
    refine(Bb pb _).mono ?_
    rintro e2 w2 ⟨rfl,rfl⟩
    rw[hp]
    go_wp2_with fail
    refine Lex.ze ?_
    go_wp2_with fail
    go_ret
    exact⟨by rw[HE.out];rfl,(HB.out).drew⟩
  | true=>
  rw[hp,Bool.true_and] at hra htk
  rcases Nat.eq_zero_or_pos k with hk0|hkp
  ·have hl0:(l.take k).getLast? = none:=by rw[hk0];rfl
   rw[hl0] at hra htk
   simp only[Bool.and_true] at hra htk
   have HRA:=zh hra;have HTK:=zh htk
   have dz:decide ((0:Int)<(k:Int))=false:=zf
   have dz' : decide (0<k)=false:=zf
   have HK0:=zh hk0
   have HBD:=zh HB.out.drew
   clear hl0 hra htk hk0
   go_wp2_with fail
   refine Lex.zl ?_
   go_wp2_with fail
   refine(Bb pb _).mono ?_
   rintro e2 w2 ⟨rfl,rfl⟩
   rw[hp]
   go_wp2_with fail
   refine Lex.ze ?_
   go_wp2_with fail
   clear c0 c1 hp
   go_loopw [4] (fun q wr=>∃ j:Nat,j<=k/\q=.int .i64 j/\((l.take k).take j).any (fun x=>decide (x.pub=pb))=false/\Below w.heap.size w wr) (fun q _=>k-(intOf q).toNat)
   case atStart=>exact⟨0,by omega,rfl,rfl,HBD.out⟩
   case round=>
    obtain⟨j,hj,rfl,hno,hb⟩:=hrel
    have HB3:=zh hb
    have HNO:=zh hno
    by_cases hjl:j<k
    case neg=>
     have hje:j=k:=by omega
     have dj:decide ((j:Int)<(k:Int))=false:=zf
     have htl:((l.take k).take j)=l.take k:=by rw[hje,List.take_take,Nat.min_self]
     have hok:Own.Aw [] (l.take (k+1))=true:=by rw[htl] at hno;rw[HTK.out,hno];rfl
     have rY:=zh hok;clear hok hno htl hje hb
     go_wp2_with fail
     exact⟨⟨k+1,by omega,by go_num,rY.out,HB3.out⟩,by simp[intOf];omega⟩
    have dj:decide ((j:Int)<(k:Int))=true:=zt
    obtain⟨b2,o2,ha2,nY,_,f1⟩:=Own.Ar.cells (HL.out.below hb) (show j<l.length by omega)
    obtain⟨b3,o3,ha3,rZ,_,g1⟩:=Own.Ar.cells (HL.out.below hb) hlt
    cases ha2;cases ha3
    rw[HPB.out] at g1
    have hjt:j<(l.take k).length:=by rw[List.length_take];omega
    have hjg:(l.take k)[j]=l[j]:=List.getElem_take
    obtain⟨pj,hpj⟩:∃ x,x=l[j].pub:=⟨_,rfl⟩
    rw[<- hpj] at f1
    have hbeq:(pj.toList==pb.toList)=decide ((l.take k)[j].pub=pb):=by rw[bytes_beq,hjg,hpj]
    have HBE:=zh hbeq;have HJT:=zh hjt
    clear hbeq hjg hpj hno hb nY rZ
    cases hc:(pj.toList==pb.toList) with
    | true =>
      have hany:(l.take k).any (fun x=>decide (x.pub=pb))=true:=List.any_eq_true.2 ⟨_,List.getElem_mem HJT.out,by rw[<- HBE.out];exact hc⟩
      have e:R=false:=HRA.out (by rw[hany];rfl)
      have HE:=zh e;clear e hany
      go_wp2_with fail
      refine Lex.zl ?_
      go_wp2_with fail
      refine Lex.ze ?_
      go_wp2_with fail
      go_ret
      exact⟨by rw[HE.out];rfl,(HB3.out).drew⟩
    | false =>
      have hn2:=Uh (p:=fun x=>decide (x.pub=pb)) HJT.out HNO.out (by rw[<- HBE.out];exact hc)
      have HN2:=zh hn2;clear hn2
      go_wp2_with fail
      refine Lex.zl ?_
      go_wp2_with fail
      refine Lex.ze ?_
      go_wp2_with fail
      exact⟨⟨j+1,by omega,by go_num,HN2.out,HB3.out.drew⟩,by simp[intOf];omega⟩
  obtain⟨j0,hj0⟩:∃ j,k=j+1:=⟨k-1,by omega⟩
  obtain⟨x,e0,hx⟩:=Du.out j0 hj0
  rw[hx] at hra htk
  have Cr:(!((l.take k).any fun x=>decide (x.pub=pb))&&Own.Ah x.name nm)=false->R=false:=hra
  have Cn:Own.Aw [] (l.take (k+1))=(!((l.take k).any fun x=>decide (x.pub=pb))&&Own.Ah x.name nm):=htk
  unfold Own.Ah at Cr Cn
  have dz:decide ((0:Int)<(k:Int))=true:=zt
  have dz' : decide (0<k)=true:=zt
  have ek:(k:Int)-1=(j0:Int):=by omega
  have hjl:j0<l.length:=by omega
  have HBD:=zh HB.out.drew
  cases hlb:Op.bytesLess x.name.toList nm.toList with
  | false =>
    have e:R=false:=Cr (by rw[hlb,Bool.and_false])
    have HE:=zh e;clear e hra htk Cr Cn hx hj0
    go_wp2_with fail
    refine Lex.zl ?_
    go_wp2_with fail
    refine(Bb pb _).mono ?_
    rintro e2 w2 ⟨rfl,rfl⟩
    rw[hp]
    go_wp2_with fail
    refine Lex.ze ?_
    go_wp2_with fail
    go_ret
    exact⟨by rw[HE.out];rfl,(HB.out).drew⟩
  | true =>
    rw[hlb,Bool.and_true] at Cn Cr
    have HTK:=zh Cn;have HRA:=zh Cr
    clear hra htk Cr Cn hx
    have HJ0:=zh hj0;clear hj0
    go_wp2_with fail
    refine Lex.zl ?_
    go_wp2_with fail
    refine(Bb pb _).mono ?_
    rintro e2 w2 ⟨rfl,rfl⟩
    rw[hp]
    go_wp2_with fail
    refine Lex.ze ?_
    go_wp2_with fail
    clear c0 c1 e0 hp hlb ek
    go_loopw [4] (fun q wr=>∃ j:Nat,j<=k/\q=.int .i64 j/\((l.take k).take j).any (fun x=>decide (x.pub=pb))=false/\Below w.heap.size w wr) (fun q _=>k-(intOf q).toNat)
    case atStart=>exact⟨0,by omega,rfl,rfl,HBD.out⟩
    case round=>
     obtain⟨j,hj,rfl,hno,hb⟩:=hrel
     have HB3:=zh hb
     have HNO:=zh hno
     by_cases hjl:j<k
     case neg=>
      have hje:j=k:=by omega
      have dj:decide ((j:Int)<(k:Int))=false:=zf
      have htl:((l.take k).take j)=l.take k:=by rw[hje,List.take_take,Nat.min_self]
      have hok:Own.Aw [] (l.take (k+1))=true:=by rw[htl] at hno;rw[HTK.out,hno];rfl
      have rY:=zh hok;clear hok hno htl hje hb
      go_wp2_with fail
      exact⟨⟨k+1,by omega,by go_num,rY.out,HB3.out⟩,by simp[intOf];omega⟩
     have dj:decide ((j:Int)<(k:Int))=true:=zt
     obtain⟨b2,o2,ha2,nY,_,f1⟩:=Own.Ar.cells (HL.out.below hb) (show j<l.length by omega)
     obtain⟨b3,o3,ha3,rZ,_,g1⟩:=Own.Ar.cells (HL.out.below hb) hlt
     cases ha2;cases ha3
     rw[HPB.out] at g1
     have hjt:j<(l.take k).length:=by rw[List.length_take];omega
     have hjg:(l.take k)[j]=l[j]:=List.getElem_take
     obtain⟨pj,hpj⟩:∃ x,x=l[j].pub:=⟨_,rfl⟩
     rw[<- hpj] at f1
     have hbeq:(pj.toList==pb.toList)=decide ((l.take k)[j].pub=pb):=by rw[bytes_beq,hjg,hpj]
     have HBE:=zh hbeq;have HJT:=zh hjt
     clear hbeq hjg hpj hno hb nY rZ
     cases hc:(pj.toList==pb.toList) with
     | true =>
       have hany:(l.take k).any (fun x=>decide (x.pub=pb))=true:=List.any_eq_true.2 ⟨_,List.getElem_mem HJT.out,by rw[<- HBE.out];exact hc⟩
       have e:R=false:=HRA.out (by rw[hany];rfl)
       have HE:=zh e;clear e hany
       go_wp2_with fail
       refine Lex.zl ?_
       go_wp2_with fail
       refine Lex.ze ?_
       go_wp2_with fail
       go_ret
       exact⟨by rw[HE.out];rfl,(HB3.out).drew⟩
     | false =>
       have hn2:=Uh (p:=fun x=>decide (x.pub=pb)) HJT.out HNO.out (by rw[<- HBE.out];exact hc)
       have HN2:=zh hn2;clear hn2
       go_wp2_with fail
       refine Lex.zl ?_
       go_wp2_with fail
       refine Lex.ze ?_
       go_wp2_with fail
       exact⟨⟨j+1,by omega,by go_num,HN2.out,HB3.out.drew⟩,by simp[intOf];omega⟩
section
variable {P:Program} (w:World)
theorem run_append_grow_zeros (t tn ty e:TypeId)(i:TypeInfo)(z:Value)(kn:IntKind)(ht:P.underlying t=some (.slice e))(htn:P.underlying tn=some (.int kn))(hi:P.info? e=some i)(hz:i.zero=some z)
 (b:Addr) (sLen sCap:Nat) (olds:List Value) (hlo:olds.length=sLen*i.size) (holds:∀ j v,olds[j]? = some v->w.cell? (b.add j)=some v)
 (n:Nat) (k:IntKind) (h0:0<n) (hsz:0<i.size) (hg:sCap<sLen+n) (h63:((sLen+n:Nat):Int)<=9223372036854775807) (zcf:n*i.bytes<=281474976710656) (hfit:Builtin.nextslicecap (sLen+n) sCap*i.bytes<=281474976710656):
 (Builtin.append_ #[t,tn] ty #[.slice (some b) sLen sCap,.int k n]).run P w =
   .ok (.slice (some ⟨w.heap.size,0,none⟩) (sLen+n) (grownCap w (sLen+n) sCap e))
    (w.drew.alloc (.cells (olds.toArray++Builtin.zeroCells z.cells n++Builtin.zeroCells z.cells (grownCap w (sLen+n) sCap e-(sLen+n))) e)):=by
 have hn:¬ (sLen+n<=sCap):=by omega
 have hn0:n≠0:=by omega
 have hw:IntKind.i64.wrap (n:Int)=n:=by rw[IntKind.wrap_i64];omega
 have h63' : ¬ (9223372036854775807<((sLen:Int)+(n:Int))):=by omega
 have h48' : ¬ (281474976710656<Builtin.nextslicecap (sLen+n) sCap*i.bytes):=by omega
 have h48i:¬ (281474976710656<(n:Int)*(i.bytes:Int)):=by
  rw[<- Int.natCast_mul]
  omega
 have hneg:¬ ((n:Int)<0):=by omega
 have hns:¬ (n*i.size=0):=Nat.mul_ne_zero hn0 (by omega)
 have hfo:=run_firstCells_some (P:=P) w.drew i.size sLen b sLen sCap olds hlo (by simpa using holds)
 simp[Builtin.append_,run_underlying ht,run_underlying htn,sizeOf,typeInfo,zeroValue,hi,hz,asInt,asIntOf,hw,hn,hn0,hneg,hns,h63',h48',h48i,Question.forced,hfo,newRow,grownCap]
theorem SH (dT sT ty elem:TypeId)(size g o dLen dCap:Nat)(a:Addr)(sLen sCap:Nat)(cur:Array Value)(t:TypeId)(cs:List Value)
 (hu:P.underlying dT=some (.slice elem)) (hs:(P.info? elem).map (·.size)=some size)
 (hg:w.heap[g]? = some (.cells cur t (0,0))) (hn:cs.length=Nat.min sLen dLen*size)
 (hsrc:∀ j v,cs[j]? = some v->w.cell? (a.add j)=some v) (hfit:o+cs.length<=cur.size) (h1:∀ v∈cs,v.oneCell' = true):
 (Builtin.copy_ #[dT,sT] ty #[.slice (some ⟨g,o,none⟩) dLen dCap,.slice (some a) sLen sCap]).run P w =
   .ok (goInt (Nat.min sLen dLen)) (w.setRow g (cur.toList.take o++cs++cur.toList.drop (o+cs.length)).toArray):=by
 have hl:=run_loadCells_list (P:=P) w a cs hsrc
 have hst:=run_storeCells_at P g o t cs 0 cur w hg (by simpa using hfit) h1
 cases hq:P.info? elem with
 | none=>simp[hq] at hs
 | some i =>
   have hi:i.size=size:=by simpa [hq] using hs
   simp[Builtin.copy_,run_underlying hu,Builtin.lenOf,Builtin.firstCells,sizeOf,typeInfo,hq,hi,<- hn,hl,hst]
end
section
variable {P:Program} {w:World} {ops:Array Oper} {rest:List Oper} {o:Oper} {a:Act} {Q:Exit->Act->World->Prop}
theorem JV {t tn e:TypeId}{size bytes:Nat}{kn:IntKind}(T:Nonempty (Gi P t e size bytes))(htn:P.underlying tn=some (.int kn))(hgd:o.guard=none)(s x:Operand)(ho:o.op=.call { callee:=.builtin .append,args:=#[s,x],argTypes:=#[t,tn] })
 (g i m cap:Nat) (k:IntKind) (xs:List Value) (hs:a.eval s=.slice (some ⟨g,0,none⟩) i cap) (mi:Int) (hmi:mi=(m:Int)) (hx:a.eval x=.int k mi) (hl:xs.length=i*size) (hxs:∀ (j:Nat) (v:Value),xs[j]? = some v->w.cell? ⟨g,j,none⟩=some v)
 (h0:0<m) (hcap:cap<i+m) (hn:i+m<=4000000) (hbs:bytes<=1000)
 (h:∀ (nc:Nat) (w' : World) (zs:List Value),i+m<=nc->nc<=maxLen->At w' w.heap.size e (xs++zs).toArray->(xs++zs).length=nc*size->Below w.heap.size w w' -> wpList P ops Q rest (a.put o.dst (.slice (some ⟨w.heap.size,0,none⟩) (i+m) nc)) w'):
 wpList P ops Q (o::rest) a w:=by
 obtain⟨T⟩:=T
 subst hmi
 have hmul:(i+m)*bytes<=4000000000:=Nat.mul_le_mul hn hbs
 have hmm:m*bytes<=4000000000:=Nat.le_trans (Nat.mul_le_mul_right _ (by omega)) hmul
 have hr:=run_append_grow_zeros (P:=P) w t tn o.type e T.i T.z kn T.under htn T.info T.zero ⟨g,0,none⟩ i cap xs (by rw[T.aV];exact hl) (fun j v hj=>by
  have hadd:(⟨g,0,none⟩:Addr).add j=⟨g,j,none⟩:=by unfold Addr.add;split<;>simp_all
  rw[hadd];exact hxs j v hj) m k h0 (by rw[T.aV];exact T.pos) hcap (by omega) (by rw[T.bytes_];omega)
  (growslice_fits (by omega) (by rw[T.bytes_];omega))
 have hge:=grownCap_ge w (i+m) cap e
 have hle:=grownCap_le_maxLen w (i+m) cap e (by unfold maxLen;omega)
 refine Lib.wpList_append_run w hgd s x t tn ho _ _ hs hx _ _ hr ?_
 refine h _ _ ((Builtin.zeroCells T.z.cells m++Builtin.zeroCells T.z.cells (grownCap w (i+m) cap e-(i+m))).toList) hge hle ?_ ?_ ?_
 ·have:=At.new w.drew e (xs.toArray++Builtin.zeroCells T.z.cells m++Builtin.zeroCells T.z.cells (grownCap w (i+m) cap e-(i+m)))
  have e2:(xs++(Builtin.zeroCells T.z.cells m++Builtin.zeroCells T.z.cells (grownCap w (i+m) cap e-(i+m))).toList).toArray=xs.toArray++Builtin.zeroCells T.z.cells m++Builtin.zeroCells T.z.cells (grownCap w (i+m) cap e-(i+m)):=by
   apply Array.ext'
   simp[List.append_assoc]
  rw[e2]
  exact this
 ·simp only[List.length_append,Array.toList_append,Array.length_toList,size_zeroCells,T.qj,hl,<- Nat.add_mul]
  congr 1
  omega
 ·exact(Below.refl w.heap.size w).drew.alloc (Nat.le_refl _) _
theorem Em {dT sT elem:TypeId}{size:Nat}(hgd:o.guard=none)(d s:Operand)(ho:o.op=.call { callee:=.builtin .copy,args:=#[d,s],argTypes:=#[dT,sT] })
 (hu:P.underlying dT=some (.slice elem)) (hsz:(P.info? elem).map (·.size)=some size)
 (g off dLen dCap:Nat) (sb so sLen sCap:Nat) (hd:a.eval d=.slice (some ⟨g,off,none⟩) dLen dCap) (hs:a.eval s=.slice (some ⟨sb,so,none⟩) sLen sCap)
 (cur:List Value) (t:TypeId) (hg:At w g t cur.toArray) (cs:List Value) (hn:cs.length=Nat.min sLen dLen*size)
 (hsrc:∀ (j:Nat) (v:Value),cs[j]? = some v->w.cell? ⟨sb,so+j,none⟩=some v) (hfit:off+cs.length<=cur.length) (h1:∀ v∈cs,v.oneCell' = true)
 (h:∀ w',At w' g t (cur.take off++(cs++cur.drop (off+cs.length))).toArray->w.grownBy w' (some g)->w'.heap.size=w.heap.size->wpList P ops Q rest (a.put o.dst (goInt (Nat.min sLen dLen))) w'):wpList P ops Q (o::rest) a w:=by
 have hrun:=SH (P:=P) w dT sT o.type elem size g off dLen dCap ⟨sb,so,none⟩ sLen sCap cur.toArray t cs hu hsz hg hn (fun j v hj=>by
  have hadd:(⟨sb,so,none⟩:Addr).add j=⟨sb,so+j,none⟩:=by unfold Addr.add;split<;>simp_all
  rw[hadd];exact hsrc j v hj) (by simpa using hfit) h1
 refine wpList_plain hgd fun K hK=>?_
 unfold Oper.wp
 simp[execOp,ho,resolve,invoke,builtin,hd,hs,hrun,Result.andThen]
 refine hK _ _ (h _ ?_ ⟨rfl,rfl,rfl,by simp[World.setRow],fun k _ hne=>setRow_other w g k _ (fun e=>hne (by rw[e]))⟩ (by simp[World.setRow]))
 have:=At.setRow hg (cur.take off++(cs++cur.drop (off+cs.length))).toArray
 simpa [List.append_assoc] using this
end
end
section
open Go
theorem Ui:∀ x:List UInt8,Op.bytesLess x x=false
 | []=>rfl
 | a :: x => by
   unfold Op.bytesLess
   rw[Ui x]
   simp
theorem Xw:∀ x y z:List UInt8,Op.bytesLess x y=true->Op.bytesLess y z=true->Op.bytesLess x z=true
 | _,[],_,h,_=>by unfold Op.bytesLess at h;cases h
 | _,_::_,[],_,h=>by unfold Op.bytesLess at h;cases h
 | [],_::_,_::_,_,_=>rfl
 | a :: x,b :: y,c :: z,h1,h2 => by
   unfold Op.bytesLess at h1 h2 ⊢
   simp only[Bool.or_eq_true,Bool.and_eq_true,decide_eq_true_eq,beq_iff_eq] at h1 h2 ⊢
   rcases h1 with h1|⟨rfl,h1⟩
   ·rcases h2 with h2|⟨rfl,h2⟩
    ·exact .inl (UInt8.lt_trans h1 h2)
    ·exact .inl h1
   ·rcases h2 with h2|⟨rfl,h2⟩
    ·exact .inl h2
    ·exact .inr ⟨rfl,Xw x y z h1 h2⟩
theorem jv:∀ x y:List UInt8,Op.bytesLess x y=false->Op.bytesLess y x=false->x=y
 | [],[],_,_=>rfl
 | [],_::_,h,_=>by unfold Op.bytesLess at h;cases h
 | _::_,[],_,h=>by unfold Op.bytesLess at h;cases h
 | a :: x,b :: y,h1,h2 => by
   unfold Op.bytesLess at h1 h2
   simp only[Bool.or_eq_false_iff,Bool.and_eq_false_iff,decide_eq_false_iff_not,beq_eq_false_iff_ne] at h1 h2
   obtain⟨h1a,h1b⟩:=h1
   obtain⟨h2a,h2b⟩:=h2
   have e:a=b:=UInt8.le_antisymm (UInt8.not_lt.1 h2a) (UInt8.not_lt.1 h1a)
   subst e
   rw[jv x y (h1b.resolve_left (fun h=>h rfl)) (h2b.resolve_left (fun h=>h rfl))]
namespace Own
theorem Ev (x:ByteArray):Ah x x=false:=Ui _
theorem D8 {x y z:ByteArray}(h1:Ah x y=true)(h2:Ah y z=true):Ah x z=true:=Xw _ _ _ h1 h2
theorem toList_inj {x y:ByteArray}(h:x.toList=y.toList):x=y:=by
 rw[ByteArray.toList_eq,ByteArray.toList_eq] at h
 exact Sha.Di h
theorem eH {x y:ByteArray}(h1:Ah x y=false)(h2:Ah y x=false):x=y:=toList_inj (jv _ _ h1 h2)
section
variable {α : Type} (f : α -> ByteArray)
def Srt (l:List α):Prop:=l.Pairwise fun x y=>Ah (f x) (f y)=true
def posB (t:ByteArray):List α -> Nat
 | []=>0
 | x::l=>if Ah (f x) t then posB t l+1 else 0
def DY (x : α):List α -> List α
 | []=>[x]
 | y::l=>if Ah (f y) (f x) then y::DY x l else if f y=f x then x::l else x::y::l
variable {f}
theorem II (t:ByteArray):∀ l:List α,posB f t l<=l.length
 | []=>Nat.le_refl _
 | x :: l => by
   unfold posB
   split
   ·have:=II t l;simp;omega
   ·simp
theorem Ob (t:ByteArray):∀ (l:List α) (k:Nat) (_:k<posB f t l) (h:k<l.length),Ah (f l[k]) t=true
 | [],k,hk,h=>by cases h
 | x :: l,k,hk,h => by
   unfold posB at hk
   split at hk
   ·rename_i hx
    cases k with
    | zero=>exact hx
    | succ k=>exact Ob t l k (by omega) (by simpa using h)
   ·omega
theorem Srt.ge {l:List α}(hs:Srt f l)(t:ByteArray):∀ (k:Nat) (_:posB f t l<=k) (h:k<l.length),Ah (f l[k]) t=false:=by
 induction l with
 | nil=>intro k _ h;cases h
 | cons x l ih =>
   intro k hk h
   unfold posB at hk
   obtain⟨h1,h2⟩:=List.pairwise_cons.1 hs
   split at hk
   ·cases k with
    | zero=>omega
    | succ k=>exact ih h2 k (by omega) (by simpa using h)
   ·rename_i hx
    have hx' : Ah (f x) t=false:=by simpa using hx
    cases k with
    | zero=>exact hx'
    | succ k =>
      have hl:k<l.length:=by simpa using h
      show Ah (f l[k]) t=false
      cases hc:Ah (f l[k]) t with
      | false=>rfl
      | true =>
        have:=D8 (h1 _ (List.getElem_mem hl)) hc
        rw[hx'] at this
        cases this
theorem OL (t:ByteArray){l:List α}{i:Nat}(hi:i<=l.length)(h1:∀ k (h:k<l.length),k<i->Ah (f l[k]) t=true)(h2:∀ k (h:k<l.length),i<=k->Ah (f l[k]) t=false):i=posB f t l:=by
 have hp:=II (f:=f) t l
 rcases Nat.lt_trichotomy i (posB f t l) with h|h|h
 ·have a:=Ob t l i h (by omega)
  have b:=h2 i (by omega) (Nat.le_refl _)
  rw[a] at b;cases b
 ·exact h
 ·have a:=h1 (posB f t l) (by omega) h
  exfalso
  have key:∀ (l:List α),posB f t l<l.length->∀ (hh:posB f t l<l.length),Ah (f l[posB f t l]) t=false:=by
   intro l
   induction l with
   | nil=>intro h;cases h
   | cons x l ih =>
     intro hlt hh
     by_cases hx:Ah (f x) t=true
     ·have e:posB f t (x::l)=posB f t l+1:=by rw[posB,if_pos hx]
      have hl2:posB f t l<l.length:=by rw[e] at hlt;simpa using hlt
      have:=ih hl2 hl2
      simp only[e,List.getElem_cons_succ]
      exact this
     ·have e:posB f t (x::l)=0:=by rw[posB,if_neg hx]
      simp only[e,List.getElem_cons_zero]
      simpa using hx
  have b:=key l (by omega) (by omega)
  rw[a] at b
  cases b
def Dl (f : α -> ByteArray)(t:ByteArray)(l:List α):Bool:=match l[posB f t l]? with
 | none=>false
 | some y=>decide (f y=t)
theorem GK (x : α):∀ l:List α,DY f x l=l.take (posB f (f x) l)++x::l.drop (posB f (f x) l+if Dl f (f x) l then 1 else 0)
 | []=>rfl
 | y :: l => by
   by_cases h:Ah (f y) (f x)=true
   ·have e:posB f (f x) (y::l)=posB f (f x) l+1:=by rw[posB,if_pos h]
    have eh:Dl f (f x) (y::l)=Dl f (f x) l:=by unfold Dl;rw[e];rfl
    rw[DY,if_pos h,GK x l,e,eh,List.take_succ_cons,Nat.add_right_comm,List.drop_succ_cons]
    rfl
   ·have e:posB f (f x) (y::l)=0:=by rw[posB,if_neg h]
    have eh:Dl f (f x) (y::l)=decide (f y=f x):=by unfold Dl;rw[e];rfl
    rw[DY,if_neg h,e,eh]
    by_cases h2:f y=f x
    ·rw[if_pos h2,decide_eq_true h2];rfl
    ·rw[if_neg h2,decide_eq_false h2];rfl
theorem JW (x : α):∀ (l:List α) (y : α),y∈DY f x l->y=x\/y∈l
 | [],y,h=>.inl (by simpa [DY] using h)
 | z :: l,y,h => by
   unfold DY at h
   split at h
   ·rcases List.mem_cons.1 h with rfl|h
    ·exact .inr List.mem_cons_self
    ·exact(JW x l y h).imp id (List.mem_cons_of_mem _)
   ·split at h
    ·exact(List.mem_cons.1 h).imp id (List.mem_cons_of_mem _)
    ·exact List.mem_cons.1 h
theorem Srt.put (x : α):∀ {l:List α},Srt f l->Srt f (DY f x l)
 | [],_=>List.pairwise_singleton _ _
 | y :: l,h => by
   obtain⟨h1,h2⟩:=List.pairwise_cons.1 h
   unfold DY
   split
   ·rename_i hy
    refine List.pairwise_cons.2 ⟨fun z hz=>?_,Srt.put x h2⟩
    rcases JW x l z hz with rfl|hz
    ·exact hy
    ·exact h1 z hz
   ·rename_i hy
    have hy' : Ah (f y) (f x)=false:=by simpa using hy
    split
    ·rename_i he
     exact List.pairwise_cons.2 ⟨fun z hz=>by rw[<- he];exact h1 z hz,h2⟩
    ·rename_i he
     have hxy:Ah (f x) (f y)=true:=by
      cases hc:Ah (f x) (f y) with
      | true=>rfl
      | false=>exact absurd (eH hy' hc) he
     refine List.pairwise_cons.2 ⟨fun z hz=>?_,h⟩
     rcases List.mem_cons.1 hz with rfl|hz
     ·exact hxy
     ·exact D8 hxy (h1 z hz)
theorem IJ {ok : α -> Bool} : ∀ {l:List α} {p:Option α},Aj ok (fun x y=>Ah (f x) (f y)) p l=true->Srt f l/\∀ q,p=some q->∀ x∈l,Ah (f q) (f x)=true
 | [],_,_=>⟨List.Pairwise.nil,fun _ _ _ h=>by cases h⟩
 | y :: l,p,h => by
   have h' : ((ok y&&(match p with|none=>true|some z=>Ah (f z) (f y)))&&Aj ok (fun x y=>Ah (f x) (f y)) (some y) l)=true:=by cases p<;>exact h
   obtain⟨h1,h2⟩:=Bool.and_eq_true_iff.1 h'
   obtain⟨hs,hq⟩:=IJ h2
   refine⟨List.pairwise_cons.2 ⟨hq y rfl,hs⟩,?_⟩
   rintro q rfl x hx
   have hqy:Ah (f q) (f y)=true:=(Bool.and_eq_true_iff.1 h1).2
   rcases List.mem_cons.1 hx with rfl|hx
   ·exact hqy
   ·exact D8 hqy (hq y rfl x hx)
end
theorem GL:∀ (l:List KeyUse) (x:KeyUse),use l x=DY KeyUse.pub x l
 | [],_=>rfl
 | y::l,x=>by unfold use DY;rw[GL l x]
theorem CW:∀ (l:List Vote) (x:Vote),BI l x=DY Vote.name x l
 | [],_=>rfl
 | y::l,x=>by unfold BI DY;rw[CW l x]
theorem LY (p:ByteArray):∀ {l:List KeyUse},Srt KeyUse.pub l->Bf l p=if Dl KeyUse.pub p l then (match l[posB KeyUse.pub p l]? with|none=>0|some k=>k.next) else 0
 | [],_=>rfl
 | y :: l,h => by
   obtain⟨h1,h2⟩:=List.pairwise_cons.1 h
   have ih:=LY p h2
   by_cases hy:Ah y.pub p=true
   ·have e:posB KeyUse.pub p (y::l)=posB KeyUse.pub p l+1:=by rw[posB,if_pos hy]
    have eh:Dl KeyUse.pub p (y::l)=Dl KeyUse.pub p l:=by unfold Dl;rw[e];rfl
    have hn:¬ y.pub=p:=fun e=>by rw[e,Ev] at hy;cases hy
    have e2:Bf (y::l) p=Bf l p:=by
     unfold Bf
     rw[List.find?_cons_of_neg (by simpa using hn)]
    rw[e2,ih,eh,e]
    rfl
   ·have e:posB KeyUse.pub p (y::l)=0:=by rw[posB,if_neg hy]
    have eh:Dl KeyUse.pub p (y::l)=decide (y.pub=p):=by unfold Dl;rw[e];rfl
    rw[eh,e]
    by_cases he:y.pub=p
    ·rw[decide_eq_true he]
     unfold Bf
     rw[List.find?_cons_of_pos (by simpa using he)]
     rfl
    ·rw[decide_eq_false he]
     have:l.find? (fun k=>decide (k.pub=p))=none:=by
      rw[List.find?_eq_none]
      intro z hz hp
      have hz2:z.pub=p:=of_decide_eq_true hp
      have h3:=h1 z hz
      rw[hz2] at h3
      exact hy h3
     unfold Bf
     rw[List.find?_cons_of_neg (by simpa using he),this]
     rfl
end Own
end
section
open Go Go.RowKit Go.Maps
theorem Ro (k:Own.KeyUse)(t:ByteArray)(w:World):Calls Tryz.prog 177 #[.agg #[.string k.pub,.int .i64 k.next],.string t] w fun e w' => e=.returned (.int .i64 (JR k.pub t))/\Below w.heap.size w w':=by
 have HB:=zh ((Below.refl w.heap.size w).alloc (Nat.le_refl _) (.cells #[.string k.pub,.int .i64 k.next] 91))
 go_enter Tryz.func177,Tryz.ntmps177
 go_wp2_with fail
 refine(Rm k.pub t _).mono ?_
 rintro e w2 ⟨rfl,rfl⟩
 go_wp2_with fail
 go_ret
 exact⟨rfl,HB.out⟩
theorem Zx (v:Value)(l:List Own.KeyUse)(t:ByteArray)(w:World)(h:Own.Bo w v l)(hs:Own.Srt Own.KeyUse.pub l)(hl:l.length<=1000000):
 Calls Tryz.prog 176 #[v,.string t,.func (.func 177) #[] #[]] w fun e w' => e=.returned (.tuple #[.int .i64 (Own.posB Own.KeyUse.pub t l:Nat),.bool (Own.Dl Own.KeyUse.pub t l)])/\Below w.heap.size w w':=by
 obtain⟨a,c,rfl⟩:=h.len
 have HL:=zh h;have HS:=zh hs;clear h hs
 go_enter Tryz.func176,Tryz.ntmps176
 go_wp2_with fail
 go_loopw [9,10] (fun i j wr=>∃ p q:Nat,p<=q/\∃ hq:q<=l.length,i=.int .i64 p/\j=.int .i64 q/\(∀ k (h:k<l.length),k<p->Own.Ah l[k].pub t=true)/\(∀ k (h:k<l.length),q<=k->Own.Ah l[k].pub t=false)/\Below w.heap.size w wr) (fun i j _=>(intOf j).toNat-(intOf i).toNat)
 case atStart=>exact⟨0,l.length,by omega,Nat.le_refl _,rfl,rfl,fun _ _ h=>by omega,fun _ _ h=>by omega,Below.refl _ _⟩
 case round=>
  obtain⟨p,q,hpq,hq,rfl,rfl,h1,h2,hb⟩:=hrel
  have HB:=zh hb;have H1:=zh h1;have H2:=zh h2
  by_cases hlt:p<q
  ·have dk:decide ((p:Int)<(q:Int))=true:=zt
   obtain⟨m,hm⟩:∃ m,m=(p+q)/2:=⟨_,rfl⟩
   have em:((p:Int)+(q:Int))/2=(m:Int):=by omega
   have m1:p<=m:=by omega
   have m2:m<q:=by omega
   have hml:m<l.length:=by omega
   obtain⟨b,o,ha,hbl,e0,e1⟩:=Own.Bo.cells (HL.out.below hb) hml
   subst ha
   have hlow:Own.Ah l[m].pub t=true->∀ k (h:k<l.length),k<m+1->Own.Ah l[k].pub t=true:=fun hx k hk hkm=>by
    by_cases e:k=m
    ·subst e;exact hx
    ·exact Own.D8 ((List.pairwise_iff_getElem.1 HS.out) k m hk hml (by omega)) hx
   have hhigh:Own.Ah l[m].pub t=false->∀ k (h:k<l.length),m<=k->Own.Ah l[k].pub t=false:=fun hx k hk hkm=>by
    by_cases e:k=m
    ·subst e;exact hx
    ·cases hc:Own.Ah l[k].pub t with
     | false=>rfl
     | true =>
       have:=Own.D8 ((List.pairwise_iff_getElem.1 HS.out) m k hml hk (by omega)) hc
       rw[hx] at this
       cases this
   obtain⟨ku,hku⟩:∃ x,x=l[m]:=⟨_,rfl⟩
   rw[<- hku] at hlow hhigh e0 e1
   have hcall:=Ro ku t wr
   have sj:=zh hlow;have jw:=zh hhigh
   clear hb h1 h2 hm hlow hhigh hku
   cases hc:Own.Ah ku.pub t with
   | true =>
     have ec:JR ku.pub t = -1:=by unfold JR;rw[hc];rfl
     rw[ec] at hcall
     clear ec
     go_wp2_with fail
     refine hcall.mono ?_
     rintro e w' ⟨rfl,hb'⟩
     go_wp2_with fail
     exact⟨⟨m+1,q,by omega,by omega,by go_num,rfl,sj.out hc,H2.out,HB.out.trans (hb'.mono HB.out.size)⟩,by simp[intOf];omega⟩
   | false =>
     obtain⟨r,hr⟩:∃ r,r=JR ku.pub t:=⟨_,rfl⟩
     have er:0<=r:=by rw[hr];unfold JR;rw[hc];simp;split<;>decide
     rw[<- hr] at hcall
     have dr:decide (r<0)=false:=zf
     clear hr
     go_wp2_with fail
     refine hcall.mono ?_
     rintro e w' ⟨rfl,hb'⟩
     go_wp2_with fail
     exact⟨⟨p,m,by omega,by omega,rfl,rfl,H1.out,jw.out hc,HB.out.trans (hb'.mono HB.out.size)⟩,by simp[intOf];omega⟩
  ·obtain rfl:p=q:=by omega
   have dk:decide ((p:Int)<(p:Int))=false:=zf
   have hpos:=Own.OL (f:=Own.KeyUse.pub) t hq (fun k h=>h1 k h) (fun k h=>h2 k h)
   have jy:=zh hpos
   by_cases hpl:p<l.length
   ·have dp:decide ((p:Int)<(l.length:Int))=true:=zt
    obtain⟨b,o,ha,hbl,e0,e1⟩:=Own.Bo.cells (HL.out.below hb) hpl
    subst ha
    have hge:=h2 p hpl (Nat.le_refl _)
    have hhit:Own.Dl Own.KeyUse.pub t l=decide (l[p].pub=t):=by unfold Own.Dl;rw[<- hpos,List.getElem?_eq_getElem hpl]
    obtain⟨ku,hku⟩:∃ x,x=l[p]:=⟨_,rfl⟩
    rw[<- hku] at hhit hge e0 e1
    have hcall:=Ro ku t wr
    obtain⟨r,hr⟩:∃ r,r=JR ku.pub t:=⟨_,rfl⟩
    have er:(r==0)=Own.Dl Own.KeyUse.pub t l:=by
     rw[hhit,hr];unfold JR;rw[hge]
     by_cases h:ku.pub=t
     ·simp[h]
     ·simp[h]
    rw[<- hr] at hcall
    have ER:=zh er
    clear hb h1 h2 hhit hge hku hr hpos er
    go_wp2_with fail
    refine hcall.mono ?_
    rintro e w' ⟨rfl,hb'⟩
    go_wp2_with fail
    go_ret2
    exact⟨by rw[<- ER.out,<- jy.out];rfl,HB.out.trans (hb'.mono HB.out.size)⟩
   ·have dp:decide ((p:Int)<(l.length:Int))=false:=zf
    have hhit:Own.Dl Own.KeyUse.pub t l=false:=by unfold Own.Dl;rw[<- hpos,List.getElem?_eq_none (by omega)]
    have Zy:=zh hhit
    clear hb h1 h2 hhit hpos
    go_wp2_with fail
    go_ret2
    exact⟨by rw[Zy.out,<- jy.out];rfl,HB.out⟩
theorem OM (k:Own.Vote)(t:ByteArray)(w:World):Calls Tryz.prog 64 #[.agg #[.string k.name,.string k.pub,.bool k.agrees],.string t] w fun e w' => e=.returned (.int .i64 (JR k.name t))/\Below w.heap.size w w':=by
 have HB:=zh ((Below.refl w.heap.size w).alloc (Nat.le_refl _) (.cells #[.string k.name,.string k.pub,.bool k.agrees] 82))
 go_enter Tryz.func64,Tryz.ntmps64
 go_wp2_with fail
 refine(Rm k.name t _).mono ?_
 rintro e w2 ⟨rfl,rfl⟩
 go_wp2_with fail
 go_ret
 exact⟨rfl,HB.out⟩
theorem Xx (v:Value)(l:List Own.Vote)(t:ByteArray)(w:World)(h:Own.Br w v l)(hs:Own.Srt Own.Vote.name l)(hl:l.length<=1000000):
 Calls Tryz.prog 63 #[v,.string t,.func (.func 64) #[] #[]] w fun e w' => e=.returned (.tuple #[.int .i64 (Own.posB Own.Vote.name t l:Nat),.bool (Own.Dl Own.Vote.name t l)])/\Below w.heap.size w w':=by
 obtain⟨a,c,rfl⟩:=h.len
 have HL:=zh h;have HS:=zh hs;clear h hs
 go_enter Tryz.func63,Tryz.ntmps63
 go_wp2_with fail
 go_loopw [9,10] (fun i j wr=>∃ p q:Nat,p<=q/\∃ hq:q<=l.length,i=.int .i64 p/\j=.int .i64 q/\(∀ k (h:k<l.length),k<p->Own.Ah l[k].name t=true)/\(∀ k (h:k<l.length),q<=k->Own.Ah l[k].name t=false)/\Below w.heap.size w wr) (fun i j _=>(intOf j).toNat-(intOf i).toNat)
 case atStart=>exact⟨0,l.length,by omega,Nat.le_refl _,rfl,rfl,fun _ _ h=>by omega,fun _ _ h=>by omega,Below.refl _ _⟩
 case round=>
  obtain⟨p,q,hpq,hq,rfl,rfl,h1,h2,hb⟩:=hrel
  have HB:=zh hb;have H1:=zh h1;have H2:=zh h2
  by_cases hlt:p<q
  ·have dk:decide ((p:Int)<(q:Int))=true:=zt
   obtain⟨m,hm⟩:∃ m,m=(p+q)/2:=⟨_,rfl⟩
   have em:((p:Int)+(q:Int))/2=(m:Int):=by omega
   have m1:p<=m:=by omega
   have m2:m<q:=by omega
   have hml:m<l.length:=by omega
   obtain⟨b,o,ha,hbl,e0,e1,e2⟩:=Own.Br.cells (HL.out.below hb) hml
   subst ha
   have hlow:Own.Ah l[m].name t=true->∀ k (h:k<l.length),k<m+1->Own.Ah l[k].name t=true:=fun hx k hk hkm=>by
    by_cases e:k=m
    ·subst e;exact hx
    ·exact Own.D8 ((List.pairwise_iff_getElem.1 HS.out) k m hk hml (by omega)) hx
   have hhigh:Own.Ah l[m].name t=false->∀ k (h:k<l.length),m<=k->Own.Ah l[k].name t=false:=fun hx k hk hkm=>by
    by_cases e:k=m
    ·subst e;exact hx
    ·cases hc:Own.Ah l[k].name t with
     | false=>rfl
     | true =>
       have:=Own.D8 ((List.pairwise_iff_getElem.1 HS.out) m k hml hk (by omega)) hc
       rw[hx] at this
       cases this
   obtain⟨ku,hku⟩:∃ x,x=l[m]:=⟨_,rfl⟩
   rw[<- hku] at hlow hhigh e0 e1 e2
   have hcall:=OM ku t wr
   have sj:=zh hlow;have jw:=zh hhigh
   clear hb h1 h2 hm hlow hhigh hku
   cases hc:Own.Ah ku.name t with
   | true =>
     have ec:JR ku.name t = -1:=by unfold JR;rw[hc];rfl
     rw[ec] at hcall
     clear ec
     go_wp2_with fail
     refine hcall.mono ?_
     rintro e w' ⟨rfl,hb'⟩
     go_wp2_with fail
     exact⟨⟨m+1,q,by omega,by omega,by go_num,rfl,sj.out hc,H2.out,HB.out.trans (hb'.mono HB.out.size)⟩,by simp[intOf];omega⟩
   | false =>
     obtain⟨r,hr⟩:∃ r,r=JR ku.name t:=⟨_,rfl⟩
     have er:0<=r:=by rw[hr];unfold JR;rw[hc];simp;split<;>decide
     rw[<- hr] at hcall
     have dr:decide (r<0)=false:=zf
     clear hr
     go_wp2_with fail
     refine hcall.mono ?_
     rintro e w' ⟨rfl,hb'⟩
     go_wp2_with fail
     exact⟨⟨p,m,by omega,by omega,rfl,rfl,H1.out,jw.out hc,HB.out.trans (hb'.mono HB.out.size)⟩,by simp[intOf];omega⟩
  ·obtain rfl:p=q:=by omega
   have dk:decide ((p:Int)<(p:Int))=false:=zf
   have hpos:=Own.OL (f:=Own.Vote.name) t hq (fun k h=>h1 k h) (fun k h=>h2 k h)
   have jy:=zh hpos
   by_cases hpl:p<l.length
   ·have dp:decide ((p:Int)<(l.length:Int))=true:=zt
    obtain⟨b,o,ha,hbl,e0,e1,e2⟩:=Own.Br.cells (HL.out.below hb) hpl
    subst ha
    have hge:=h2 p hpl (Nat.le_refl _)
    have hhit:Own.Dl Own.Vote.name t l=decide (l[p].name=t):=by unfold Own.Dl;rw[<- hpos,List.getElem?_eq_getElem hpl]
    obtain⟨ku,hku⟩:∃ x,x=l[p]:=⟨_,rfl⟩
    rw[<- hku] at hhit hge e0 e1 e2
    have hcall:=OM ku t wr
    obtain⟨r,hr⟩:∃ r,r=JR ku.name t:=⟨_,rfl⟩
    have er:(r==0)=Own.Dl Own.Vote.name t l:=by
     rw[hhit,hr];unfold JR;rw[hge]
     by_cases h:ku.name=t
     ·simp[h]
     ·simp[h]
    rw[<- hr] at hcall
    have ER:=zh er
    clear hb h1 h2 hhit hge hku hr hpos er
    go_wp2_with fail
    refine hcall.mono ?_
    rintro e w' ⟨rfl,hb'⟩
    go_wp2_with fail
    go_ret2
    exact⟨by rw[<- ER.out,<- jy.out];rfl,HB.out.trans (hb'.mono HB.out.size)⟩
   ·have dp:decide ((p:Int)<(l.length:Int))=false:=zf
    have hhit:Own.Dl Own.Vote.name t l=false:=by unfold Own.Dl;rw[<- hpos,List.getElem?_eq_none (by omega)]
    have Zy:=zh hhit
    clear hb h1 h2 hhit hpos
    go_wp2_with fail
    go_ret2
    exact⟨by rw[Zy.out,<- jy.out];rfl,HB.out⟩
theorem j3 {fn:Nat}{tS e:TypeId}{size:Nat}(w:World)
 (hf:∀ args,(callFunc fn args).run Tryz.prog w=((Extern.SlicesOverlaps.overlaps #[tS,tS] #[4] args).run Tryz.prog w).andThen fun v w' => .ok (.value v) w')
 (ht:Tryz.prog.underlying tS=some (.slice e)) (hz:∀ w,(Go.sizeOf e).run Tryz.prog w=.ok size w) (vb b o la ca lb cb:Nat) (hne:vb≠b) (cv cb' : Array Value) (hv:At w vb e cv) (hb:At w b e cb') (h0:cb'.size≠0):
 (callFunc fn #[.slice (some ⟨vb,0,none⟩) la ca,.slice (some ⟨b,o,none⟩) lb cb]).run Tryz.prog w=.ok (.value (.bool false)) w:=by
 rw[hf,Lib.run_overlaps_apart w tS 4 e ht size hz ⟨vb,0,none⟩ ⟨b,o,none⟩ la ca lb cb hne e e cv.size cb'.size ?_ ?_ h0 (hv.free 0) (hv.free _)]
 ·rfl
 ·unfold At at hv;simp[World.shape?,hv]
 ·unfold At at hb;simp[World.shape?,hb]
theorem Uj {P:Program}{e:TypeId}{k:Nat}(h:(P.info? e).map (·.size)=some k)(w:World):(Go.sizeOf e).run P w=.ok k w:=by
 cases hq:P.info? e with
 | none=>rw[hq] at h;cases h
 | some i =>
   have hi:i.size=k:=by simpa [hq] using h
   simp[Go.sizeOf,typeInfo,hq,hi]
theorem EI {w:World}{base g n cap size:Nat}{e:TypeId}{cur xs:List Value}(hg:At w g e cur.toArray)(hb:base<=g)(hn:n<=cap)(hc:cap<=maxLen)(hs:cur.length=cap*size)(ht:cur.take (n*size)=xs):w.ownsRow base e size (.slice (some ⟨g,0,none⟩) n cap) n xs:=by
 refine⟨?_,.inr ⟨g,cap,cur.toArray,rfl,hb,hg,hn,hc,by simpa using hs,by simpa using ht⟩⟩
 rw[<- ht,List.length_take,hs]
 exact Nat.min_eq_left (Nat.mul_le_mul_right _ hn)
theorem KA {w:World}{base g n cap size:Nat}{e:TypeId}{xs:List Value}(h:w.ownsRow base e size (.slice (some ⟨g,0,none⟩) n cap) n xs):∃ ys:List Value,At w g e (xs++ys).toArray/\base<=g/\n<=cap/\cap<=maxLen/\(xs++ys).length=cap*size/\xs.length=n*size:=by
 obtain⟨hl,⟨h0,_⟩|⟨g',cap',cur,hv,hb,hg,h1,h2,h3,h4⟩⟩:=h
 ·cases h0
 ·cases hv
  have e1:xs++cur.toList.drop (n*size)=cur.toList:=by rw[<- h4,List.take_append_drop]
  refine⟨cur.toList.drop (n*size),by rw[e1];exact hg,hb,h1,h2,by rw[e1];simpa using h3,hl⟩
theorem EX:(Tryz.prog.info? 91).map (·.size)=some 2:=by kernel_rfl
theorem Xy (base n i vb:Nat)(v:Value)(xs nw:List Value)(w:World)(ho:w.ownsRow base 91 2 v n xs)(h1:∀ u∈xs,u.oneCell' = true)(hi:i<=n)(hn:n<=3000000)(hnw:nw.length=2)(hnv:At w vb 91 nw.toArray)(h2:∀ u∈nw,u.oneCell' = true)(hvb:v.ownBlock≠some vb)(hbs:base<=w.heap.size):
 Calls Tryz.prog 155 #[v,.int .i64 i,.slice (some ⟨vb,0,none⟩) 1 1] w fun e w' => ∃ v',e=.returned v' /\ w'.ownsRow base 91 2 v' (n+1) (xs.take (i*2)++(nw++xs.drop (i*2)))/\w.grownBy w' v.ownBlock/\(v'.ownBlock=v.ownBlock\/v'.ownBlock=some w.heap.size):=by
 have hrows:Bz w (.slice (some ⟨vb,0,none⟩) 1 1) 2 1 nw:=by
  refine⟨by rw[hnw],_,_,rfl,.inr ⟨vb,0,rfl,hnv.lt,fun j u hj=>?_⟩⟩
  rw[Nat.zero_add,hnv.cell]
  simpa using hj
 have HO:=zh ho;have H1:=zh h1;have H2:=zh h2;have HNV:=zh hnv;have HR:=zh hrows;have HVB:=zh hvb
 clear h1 h2 hnv hrows hvb
 go_enter Tryz.func155,Tryz.ntmps155
 obtain⟨a,m,c,rfl⟩:=Ac ho
 obtain rfl:=Bt ho
 by_cases hie:i=m
 ·subst hie
  have hsl:i<=c:=by
   rcases ho.2 with ⟨h0,_⟩|⟨g,cap,cur,h0,_,_,h3,_⟩
   ·cases h0;exact Nat.le_refl _
   ·cases h0;exact h3
  have hcz:(a=none/\c=0/\i=0)\/∃ g,a=some ⟨g,0,none⟩:=by
   rcases ho.2 with ⟨h0,h5⟩|⟨g,cap,cur,h0,_⟩
   ·cases h0;exact .inl ⟨rfl,rfl,h5⟩
   ·cases h0;exact .inr ⟨g,rfl⟩
  have hxl:xs.take (i*2)=xs/\xs.drop (i*2)=[]:=by
   have:=ho.1
   exact⟨List.take_of_length_le (by omega),List.drop_eq_nil_of_le (by omega)⟩
  have HXL:=zh hxl
  clear ho hxl
  rcases hcz with ⟨rfl,rfl,rfl⟩|⟨g,rfl⟩
  ·go_wp2_with (at_builtin;go_must (refine Ai DX rfl _ _ rfl base 0 _ xs rfl HO.out (.slice (some ⟨vb,0,none⟩) 1 1) 1 nw rfl HR.out H2.out (by omega) (by omega) hbs ?_);intro v5 w5 ho5 hg5 hx5;obtain⟨va,vm,vc,rfl⟩:=Ac ho5;have HO5:=zh ho5;have HG5:=zh hg5;have HX5:=zh hx5;clear ho5 hg5 hx5)
   go_ret
   exact⟨_,rfl,by rw[HXL.out.1,HXL.out.2,List.append_nil];exact HO5.out,HG5.out,HX5.out⟩
  ·by_cases hci:c=i
   ·subst hci
    go_wp2_with (at_builtin;go_must (refine Ai DX rfl _ _ rfl base c _ xs rfl HO.out (.slice (some ⟨vb,0,none⟩) 1 1) 1 nw rfl HR.out H2.out (by omega) (by omega) hbs ?_);intro v5 w5 ho5 hg5 hx5;obtain⟨va,vm,vc,rfl⟩:=Ac ho5;have HO5:=zh ho5;have HG5:=zh hg5;have HX5:=zh hx5;clear ho5 hg5 hx5)
    go_ret
    exact⟨_,rfl,by rw[HXL.out.1,HXL.out.2,List.append_nil];exact HO5.out,HG5.out,HX5.out⟩
   ·go_wp2_with (at_builtin;go_must (refine Ai DX rfl _ _ rfl base i _ xs rfl HO.out (.slice (some ⟨vb,0,none⟩) 1 1) 1 nw rfl HR.out H2.out (by omega) (by omega) hbs ?_);intro v5 w5 ho5 hg5 hx5;obtain⟨va,vm,vc,rfl⟩:=Ac ho5;have HO5:=zh ho5;have HG5:=zh hg5;have HX5:=zh hx5;clear ho5 hg5 hx5)
    go_ret
    exact⟨_,rfl,by rw[HXL.out.1,HXL.out.2,List.append_nil];exact HO5.out,HG5.out,HX5.out⟩
 ·have him:i<m:=by omega
  obtain⟨g,rfl⟩:∃ g,a=some ⟨g,0,none⟩:=by
   rcases ho.2 with ⟨h0,h5⟩|⟨g,cap,cur,h0,_⟩
   ·omega
   ·cases h0;exact⟨g,rfl⟩
  obtain⟨ys,hat,hbg,hmc,hcm,hcl,hxl⟩:=KA ho
  have hne:vb≠g:=fun e=>HVB.out (by rw[e];rfl)
  have HAT:=zh hat
  have de:((i:Int)==(m:Int))=false:=by rw[beq_eq_false_iff_ne];omega
  have ci:¬ c=i:=by omega
  clear ho hat
  by_cases hroom:m+1<=c
  ·have dr:decide ((c:Int)<(m:Int)+1)=false:=zf
   have hov:∀ o lb cb,(callFunc 178 #[.slice (some ⟨vb,0,none⟩) 1 1,.slice (some ⟨g,o,none⟩) lb cb]).run Tryz.prog w=.ok (.value (.bool false)) w:=fun o lb cb=>
    j3 w (run_callFunc_extern Tryz.func178 (by kernel_rfl) (by kernel_rfl) (by kernel_rfl) (e:=Extern.SlicesOverlaps.overlaps #[36,36] #[4]) (by kernel_rfl) · w) Tryz.underlying36 (Uj EX) vb g o 1 1 lb cb hne _ _ HNV.out HAT.out (by rw[List.size_toArray];omega)
   go_wp2_with (simp only[hov])
   refine Lex.zl ?_
   clear hov
   have mn1:Nat.min (m+1-i) (m-i)=m-i:=by simp only[Nat.min_def];split<;>omega
   have hcs:(xs.drop (i*2)).length=(m-i)*2:=by rw[List.length_drop,hxl,Nat.sub_mul]
   have Rp:At w.drew g 91 (xs++ys).toArray:=HAT.out
   have hsrc:∀ (j:Nat) (u:Value),(xs.drop (i*2))[j]? = some u->w.drew.cell? ⟨g,i*2+j,none⟩=some u:=fun j u hj=>by
    show w.cell? ⟨g,i*2+j,none⟩=some u
    rw[HAT.out.cell]
    rw[List.getElem?_drop] at hj
    simp[List.getElem?_append_left (List.getElem?_eq_some_iff.1 hj).1,hj]
   have Zz:=zh Rp;have HCS:=zh hcs;have MN1:=zh mn1;have Z0:=zh hsrc
   clear Rp hcs mn1 hsrc
   go_wp2_with (refine Em rfl _ _ rfl Tryz.underlying36 EX g ((i+1)*2) (m-i) (c-(i+1)) g (i*2) (m+1-i) (c-i) (by rfl) (by rfl) (xs++ys) 91 Zz.out (xs.drop (i*2)) (by rw[HCS.out,MN1.out]) Z0.out (by rw[HCS.out,hcl];omega) (fun u hu=>H1.out u (List.mem_of_mem_drop hu)) ?_;intro w5 Rq hg5 hz5;have Oc:=zh Rq;have HG5:=zh hg5;clear Rq hg5)
   refine Lex.ze ?_
   have Rs:At w5 vb 91 nw.toArray:=(HG5.out.block vb HNV.out.lt (fun e=>hne (Option.some.inj e))).trans HNV.out
   have Z4:=zh Rs
   have mn2:Nat.min 1 (m+1-i)=1:=by simp only[Nat.min_def];split<;>omega
   have j4:((xs++ys).take ((i+1)*2)++(xs.drop (i*2)++(xs++ys).drop ((i+1)*2+(xs.drop (i*2)).length))).length=c*2:=by
    simp only[List.length_append,List.length_take,List.length_drop] at hcl ⊢
    omega
   have Vp:=zh j4;have MN2:=zh mn2
   clear Rs mn2 j4
   obtain⟨C5,hC5⟩:∃ C5,C5=(xs++ys).take ((i+1)*2)++(xs.drop (i*2)++(xs++ys).drop ((i+1)*2+(xs.drop (i*2)).length)):=⟨_,rfl⟩
   rw[<- hC5] at Oc Vp
   have JX:∀ (j:Nat) (u:Value),nw[j]? = some u->w5.cell? ⟨vb,0+j,none⟩=some u:=fun j u hj=>by
    rw[Nat.zero_add,Z4.out.cell]
    simpa using hj
   have HC5:=zh hC5;have Rt:=zh JX
   clear hC5 JX
   go_wp2_with (refine Em rfl _ _ rfl Tryz.underlying36 EX g (i*2) (m+1-i) (c-i) vb 0 1 1 (by rfl) (by rfl) C5 91 Oc.out nw (by rw[hnw,MN2.out]) Rt.out (by rw[hnw,Vp.out];omega) H2.out ?_;intro w6 FL hg6 hz6;have LM:=zh FL;have HG6:=zh hg6;clear FL hg6)
   go_wp2_with fail
   go_ret
   refine⟨_,rfl,EI LM.out hbg (by omega) hcm ?_ ?_,?_,.inl rfl⟩
   ·have:=Vp.out
    simp only[List.length_append,List.length_take,List.length_drop,hnw] at this ⊢
    omega
   ·have hl:=Vp.out
    have e1:C5.take (i*2)=xs.take (i*2):=by
     rw[HC5.out,List.take_append_of_le_length (by rw[List.length_take,hcl];omega),List.take_take,Nat.min_eq_left (by omega),List.take_append_of_le_length (by omega)]
    have e2:(C5.drop (i*2+nw.length)).take ((m-i)*2)=xs.drop (i*2):=by
     have e3:i*2+nw.length=((xs++ys).take ((i+1)*2)).length:=by rw[List.length_take,hcl,hnw];omega
     rw[HC5.out,e3,List.drop_left,List.take_append_of_le_length (by rw[HCS.out];omega),List.take_of_length_le (by rw[HCS.out];omega)]
    have e4:(m+1)*2=(C5.take (i*2)).length+(nw.length+(m-i)*2):=by rw[List.length_take,hl,hnw];omega
    rw[e4,List.take_length_add_append,List.take_length_add_append,e1,e2]
   ·exact⟨HG6.out.os.trans HG5.out.os,HG6.out.tape.trans HG5.out.tape,HG6.out.output.trans HG5.out.output,Nat.le_trans HG5.out.size HG6.out.size,fun k hk hk2=>(HG6.out.block k (Nat.lt_of_lt_of_le hk HG5.out.size) hk2).trans (HG5.out.block k hk hk2)⟩
  ·have dr:decide ((c:Int)<(m:Int)+1)=true:=zt
   have hxi:(xs.take (i*2)).length=i*2:=by rw[List.length_take,hxl];exact Nat.min_eq_left (Nat.mul_le_mul_right _ hi)
   have HXI:=zh hxi;clear hxi
   have hxs:∀ (j:Nat) (u:Value),(xs.take (i*2))[j]? = some u->w.cell? ⟨g,j,none⟩=some u:=fun j u hj=>by
    rw[HAT.out.cell]
    rw[List.getElem?_take] at hj
    split at hj
    ·simp[List.getElem?_append_left (List.getElem?_eq_some_iff.1 hj).1,hj]
    ·cases hj
   have HXS:=zh hxs;clear hxs
   go_upto_region 10 with (at_builtin;go_must (refine JV DX Tryz.underlying3 rfl _ _ rfl g i (m+1-i) c .i64 (xs.take (i*2)) rfl _ (show _=((m+1-i:Nat):Int) by omega) rfl HXI.out HXS.out (by omega) (by omega) (by omega) (by omega) ?_);intro nc w5 zs j5 su Rq hl5 hb5;rw[show i+(m+1-i)=m+1 by omega] at j5 ⊢;have HL5:=zh hl5;have Oc:=zh Rq;have HB5:=zh hb5;have cnc:¬ nc=i:=(by omega);have za6:¬ nc=i+1:=(by omega);(obtain⟨G,hG⟩:∃ G,G=w.heap.size:=⟨_,rfl⟩);rw[<- hG] at Oc ⊢;have HGG:=zh hG;clear hl5 Rq hb5 hG)
   have hgl:g<w.heap.size:=HAT.out.lt
   have hgG:g≠G:=by have:=HGG.out;omega
   have hvl:vb<w.heap.size:=HNV.out.lt
   have Rs:At w5 vb 91 nw.toArray:=HNV.out.below HB5.out hvl
   have j6:At w5 g 91 (xs++ys).toArray:=HAT.out.below HB5.out hgl
   have Z4:=zh Rs;have sw:=zh j6
   have mn2:Nat.min 1 (m+1-i)=1:=by simp only[Nat.min_def];split<;>omega
   have MN2:=zh mn2
   clear Rs j6 mn2
   obtain⟨C5,hC5⟩:∃ C5,C5=xs.take (i*2)++zs:=⟨_,rfl⟩
   have hl5:=HL5.out
   rw[<- hC5] at Oc hl5
   have HC5:=zh hC5;clear hC5 HL5
   have HL5:=zh hl5;clear hl5
   have JX:∀ (j:Nat) (u:Value),nw[j]? = some u->w5.cell? ⟨vb,0+j,none⟩=some u:=fun j u hj=>by
    rw[Nat.zero_add,Z4.out.cell]
    simpa using hj
   have Rt:=zh JX
   clear JX
   go_wp2_with (refine Em rfl _ _ rfl Tryz.underlying36 EX G (i*2) (m+1-i) (nc-i) vb 0 1 1 (by rfl) (by rfl) C5 91 Oc.out nw (by rw[hnw,MN2.out]) Rt.out (by rw[hnw,HL5.out];omega) H2.out ?_;intro w6 FL hg6 hz6;have LM:=zh FL;have HG6:=zh hg6;clear FL hg6)
   have jA:At w6 g 91 (xs++ys).toArray:=(HG6.out.block g (Nat.lt_of_lt_of_le hgl HB5.out.size) (fun e=>hgG (Option.some.inj e))).trans sw.out
   have sD:=zh jA
   have hl6:(C5.take (i*2)++(nw++C5.drop (i*2+nw.length))).length=nc*2:=by
    simp only[List.length_append,List.length_take,List.length_drop,hnw,HL5.out]
    omega
   obtain⟨C6,hC6⟩:∃ C6,C6=C5.take (i*2)++(nw++C5.drop (i*2+nw.length)):=⟨_,rfl⟩
   rw[<- hC6] at LM hl6
   have HC6:=zh hC6;have HL6:=zh hl6
   clear jA hC6 hl6
   go_wp2_with fail
   refine Lex.zl ?_
   have mn1:Nat.min (m-i) (m-i)=m-i:=Nat.min_self _
   have hcs:(xs.drop (i*2)).length=(m-i)*2:=by rw[List.length_drop,hxl,Nat.sub_mul]
   have Rp:At w6.drew G 91 C6.toArray:=LM.out
   have hsrc:∀ (j:Nat) (u:Value),(xs.drop (i*2))[j]? = some u->w6.drew.cell? ⟨g,i*2+j,none⟩=some u:=fun j u hj=>by
    show w6.cell? ⟨g,i*2+j,none⟩=some u
    rw[sD.out.cell]
    rw[List.getElem?_drop] at hj
    simp[List.getElem?_append_left (List.getElem?_eq_some_iff.1 hj).1,hj]
   have Zz:=zh Rp;have HCS:=zh hcs;have MN1:=zh mn1;have Z0:=zh hsrc
   clear Rp hcs mn1 hsrc
   go_wp2_with (refine Em rfl _ _ rfl Tryz.underlying36 EX G ((i+1)*2) (m-i) (nc-(i+1)) g (i*2) (m-i) (c-i) (by rfl) (by rfl) C6 91 Zz.out (xs.drop (i*2)) (by rw[HCS.out,MN1.out]) Z0.out (by rw[HCS.out,HL6.out];omega) (fun u hu=>H1.out u (List.mem_of_mem_drop hu)) ?_;intro w7 LP hg7 hz7;have Xf:=zh LP;have HG7:=zh hg7;clear LP hg7)
   refine Lex.ze ?_
   go_wp2_with fail
   go_ret
   refine⟨_,rfl,EI Xf.out (by have:=HGG.out;omega) j5 su ?_ ?_,?_,.inr (by rw[HGG.out];rfl)⟩
   ·simp only[List.length_append,List.length_take,List.length_drop,HCS.out,HL6.out]
    omega
   ·have e1 : C6.take ((i + 1) * 2) = xs.take (i * 2) ++ nw :=by
     have e2:C5.take (i*2)=xs.take (i*2):=by rw[HC5.out,List.take_append_of_le_length (by rw[HXI.out];omega),List.take_of_length_le (by rw[HXI.out];omega)]
     have e3:(i+1)*2=(xs.take (i*2)).length+(nw.length+0):=by rw[HXI.out,hnw];omega
     rw[HC6.out,e2,e3,List.take_length_add_append,List.take_length_add_append,List.take_zero,List.append_nil]
    have e4:(m+1)*2=(xs.take (i*2)).length+(nw.length+((xs.drop (i*2)).length+0)):=by rw[HXI.out,hnw,HCS.out];omega
    rw[e1,List.append_assoc,e4,List.take_length_add_append,List.take_length_add_append,List.take_length_add_append,List.take_zero,List.append_nil]
   ·refine⟨?_,?_,?_,?_,fun k hk hk2=>?_⟩
    ·exact(HG7.out.os.trans HG6.out.os).trans HB5.out.os
    ·exact(HG7.out.tape.trans HG6.out.tape).trans HB5.out.tape
    ·exact(HG7.out.output.trans HG6.out.output).trans HB5.out.output
    ·exact Nat.le_trans HB5.out.size (Nat.le_trans HG6.out.size HG7.out.size)
    ·have hkG:some k≠some G:=fun e=>by have:=Option.some.inj e;have:=HGG.out;omega
     have k5:=HB5.out.block k hk
     have s5:=HB5.out.size
     exact((HG7.out.block k (by show k<w6.heap.size;have:=HG6.out.size;omega) hkG).trans (HG6.out.block k (by omega) hkG)).trans k5
theorem Ew:(Tryz.prog.info? 82).map (·.size)=some 3:=by kernel_rfl
theorem Vq (base n i vb:Nat)(v:Value)(xs nw:List Value)(w:World)(ho:w.ownsRow base 82 3 v n xs)(h1:∀ u∈xs,u.oneCell' = true)(hi:i<=n)(hn:n<=3000000)(hnw:nw.length=3)(hnv:At w vb 82 nw.toArray)(h2:∀ u∈nw,u.oneCell' = true)(hvb:v.ownBlock≠some vb)(hbs:base<=w.heap.size):
 Calls Tryz.prog 66 #[v,.int .i64 i,.slice (some ⟨vb,0,none⟩) 1 1] w fun e w' => ∃ v',e=.returned v' /\ w'.ownsRow base 82 3 v' (n+1) (xs.take (i*3)++(nw++xs.drop (i*3)))/\w.grownBy w' v.ownBlock/\(v'.ownBlock=v.ownBlock\/v'.ownBlock=some w.heap.size):=by
 have hrows:Bz w (.slice (some ⟨vb,0,none⟩) 1 1) 3 1 nw:=by
  refine⟨by rw[hnw],_,_,rfl,.inr ⟨vb,0,rfl,hnv.lt,fun j u hj=>?_⟩⟩
  rw[Nat.zero_add,hnv.cell]
  simpa using hj
 have HO:=zh ho;have H1:=zh h1;have H2:=zh h2;have HNV:=zh hnv;have HR:=zh hrows;have HVB:=zh hvb
 clear h1 h2 hnv hrows hvb
 go_enter Tryz.func66,Tryz.ntmps66
 obtain⟨a,m,c,rfl⟩:=Ac ho
 obtain rfl:=Bt ho
 by_cases hie:i=m
 ·subst hie
  have hsl:i<=c:=by
   rcases ho.2 with ⟨h0,_⟩|⟨g,cap,cur,h0,_,_,h3,_⟩
   ·cases h0;exact Nat.le_refl _
   ·cases h0;exact h3
  have hcz:(a=none/\c=0/\i=0)\/∃ g,a=some ⟨g,0,none⟩:=by
   rcases ho.2 with ⟨h0,h5⟩|⟨g,cap,cur,h0,_⟩
   ·cases h0;exact .inl ⟨rfl,rfl,h5⟩
   ·cases h0;exact .inr ⟨g,rfl⟩
  have hxl:xs.take (i*3)=xs/\xs.drop (i*3)=[]:=by
   have:=ho.1
   exact⟨List.take_of_length_le (by omega),List.drop_eq_nil_of_le (by omega)⟩
  have HXL:=zh hxl
  clear ho hxl
  rcases hcz with ⟨rfl,rfl,rfl⟩|⟨g,rfl⟩
  ·go_wp2_with (at_builtin;go_must (refine Ai Dk rfl _ _ rfl base 0 _ xs rfl HO.out (.slice (some ⟨vb,0,none⟩) 1 1) 1 nw rfl HR.out H2.out (by omega) (by omega) hbs ?_);intro v5 w5 ho5 hg5 hx5;obtain⟨va,vm,vc,rfl⟩:=Ac ho5;have HO5:=zh ho5;have HG5:=zh hg5;have HX5:=zh hx5;clear ho5 hg5 hx5)
   go_ret
   exact⟨_,rfl,by rw[HXL.out.1,HXL.out.2,List.append_nil];exact HO5.out,HG5.out,HX5.out⟩
  ·by_cases hci:c=i
   ·subst hci
    go_wp2_with (at_builtin;go_must (refine Ai Dk rfl _ _ rfl base c _ xs rfl HO.out (.slice (some ⟨vb,0,none⟩) 1 1) 1 nw rfl HR.out H2.out (by omega) (by omega) hbs ?_);intro v5 w5 ho5 hg5 hx5;obtain⟨va,vm,vc,rfl⟩:=Ac ho5;have HO5:=zh ho5;have HG5:=zh hg5;have HX5:=zh hx5;clear ho5 hg5 hx5)
    go_ret
    exact⟨_,rfl,by rw[HXL.out.1,HXL.out.2,List.append_nil];exact HO5.out,HG5.out,HX5.out⟩
   ·go_wp2_with (at_builtin;go_must (refine Ai Dk rfl _ _ rfl base i _ xs rfl HO.out (.slice (some ⟨vb,0,none⟩) 1 1) 1 nw rfl HR.out H2.out (by omega) (by omega) hbs ?_);intro v5 w5 ho5 hg5 hx5;obtain⟨va,vm,vc,rfl⟩:=Ac ho5;have HO5:=zh ho5;have HG5:=zh hg5;have HX5:=zh hx5;clear ho5 hg5 hx5)
    go_ret
    exact⟨_,rfl,by rw[HXL.out.1,HXL.out.2,List.append_nil];exact HO5.out,HG5.out,HX5.out⟩
 ·have him:i<m:=by omega
  obtain⟨g,rfl⟩:∃ g,a=some ⟨g,0,none⟩:=by
   rcases ho.2 with ⟨h0,h5⟩|⟨g,cap,cur,h0,_⟩
   ·omega
   ·cases h0;exact⟨g,rfl⟩
  obtain⟨ys,hat,hbg,hmc,hcm,hcl,hxl⟩:=KA ho
  have hne:vb≠g:=fun e=>HVB.out (by rw[e];rfl)
  have HAT:=zh hat
  have de:((i:Int)==(m:Int))=false:=by rw[beq_eq_false_iff_ne];omega
  have ci:¬ c=i:=by omega
  clear ho hat
  by_cases hroom:m+1<=c
  ·have dr:decide ((c:Int)<(m:Int)+1)=false:=zf
   have hov:∀ o lb cb,(callFunc 100 #[.slice (some ⟨vb,0,none⟩) 1 1,.slice (some ⟨g,o,none⟩) lb cb]).run Tryz.prog w=.ok (.value (.bool false)) w:=fun o lb cb=>
    j3 w (run_callFunc_extern Tryz.func100 (by kernel_rfl) (by kernel_rfl) (by kernel_rfl) (e:=Extern.SlicesOverlaps.overlaps #[44,44] #[4]) (by kernel_rfl) · w) Tryz.underlying44 (Uj Ew) vb g o 1 1 lb cb hne _ _ HNV.out HAT.out (by rw[List.size_toArray];omega)
   go_wp2_with (simp only[hov])
   refine Lex.zl ?_
   clear hov
   have mn1:Nat.min (m+1-i) (m-i)=m-i:=by simp only[Nat.min_def];split<;>omega
   have hcs:(xs.drop (i*3)).length=(m-i)*3:=by rw[List.length_drop,hxl,Nat.sub_mul]
   have Rp:At w.drew g 82 (xs++ys).toArray:=HAT.out
   have hsrc:∀ (j:Nat) (u:Value),(xs.drop (i*3))[j]? = some u->w.drew.cell? ⟨g,i*3+j,none⟩=some u:=fun j u hj=>by
    show w.cell? ⟨g,i*3+j,none⟩=some u
    rw[HAT.out.cell]
    rw[List.getElem?_drop] at hj
    simp[List.getElem?_append_left (List.getElem?_eq_some_iff.1 hj).1,hj]
   have Zz:=zh Rp;have HCS:=zh hcs;have MN1:=zh mn1;have Z0:=zh hsrc
   clear Rp hcs mn1 hsrc
   go_wp2_with (refine Em rfl _ _ rfl Tryz.underlying44 Ew g ((i+1)*3) (m-i) (c-(i+1)) g (i*3) (m+1-i) (c-i) (by rfl) (by rfl) (xs++ys) 82 Zz.out (xs.drop (i*3)) (by rw[HCS.out,MN1.out]) Z0.out (by rw[HCS.out,hcl];omega) (fun u hu=>H1.out u (List.mem_of_mem_drop hu)) ?_;intro w5 Rq hg5 hz5;have Oc:=zh Rq;have HG5:=zh hg5;clear Rq hg5)
   refine Lex.ze ?_
   have Rs:At w5 vb 82 nw.toArray:=(HG5.out.block vb HNV.out.lt (fun e=>hne (Option.some.inj e))).trans HNV.out
   have Z4:=zh Rs
   have mn2:Nat.min 1 (m+1-i)=1:=by simp only[Nat.min_def];split<;>omega
   have j4:((xs++ys).take ((i+1)*3)++(xs.drop (i*3)++(xs++ys).drop ((i+1)*3+(xs.drop (i*3)).length))).length=c*3:=by
    simp only[List.length_append,List.length_take,List.length_drop] at hcl ⊢
    omega
   have Vp:=zh j4;have MN2:=zh mn2
   clear Rs mn2 j4
   obtain⟨C5,hC5⟩:∃ C5,C5=(xs++ys).take ((i+1)*3)++(xs.drop (i*3)++(xs++ys).drop ((i+1)*3+(xs.drop (i*3)).length)):=⟨_,rfl⟩
   rw[<- hC5] at Oc Vp
   have JX:∀ (j:Nat) (u:Value),nw[j]? = some u->w5.cell? ⟨vb,0+j,none⟩=some u:=fun j u hj=>by
    rw[Nat.zero_add,Z4.out.cell]
    simpa using hj
   have HC5:=zh hC5;have Rt:=zh JX
   clear hC5 JX
   go_wp2_with (refine Em rfl _ _ rfl Tryz.underlying44 Ew g (i*3) (m+1-i) (c-i) vb 0 1 1 (by rfl) (by rfl) C5 82 Oc.out nw (by rw[hnw,MN2.out]) Rt.out (by rw[hnw,Vp.out];omega) H2.out ?_;intro w6 FL hg6 hz6;have LM:=zh FL;have HG6:=zh hg6;clear FL hg6)
   go_wp2_with fail
   go_ret
   refine⟨_,rfl,EI LM.out hbg (by omega) hcm ?_ ?_,?_,.inl rfl⟩
   ·have:=Vp.out
    simp only[List.length_append,List.length_take,List.length_drop,hnw] at this ⊢
    omega
   ·have hl:=Vp.out
    have e1:C5.take (i*3)=xs.take (i*3):=by
     rw[HC5.out,List.take_append_of_le_length (by rw[List.length_take,hcl];omega),List.take_take,Nat.min_eq_left (by omega),List.take_append_of_le_length (by omega)]
    have e2:(C5.drop (i*3+nw.length)).take ((m-i)*3)=xs.drop (i*3):=by
     have e3:i*3+nw.length=((xs++ys).take ((i+1)*3)).length:=by rw[List.length_take,hcl,hnw];omega
     rw[HC5.out,e3,List.drop_left,List.take_append_of_le_length (by rw[HCS.out];omega),List.take_of_length_le (by rw[HCS.out];omega)]
    have e4:(m+1)*3=(C5.take (i*3)).length+(nw.length+(m-i)*3):=by rw[List.length_take,hl,hnw];omega
    rw[e4,List.take_length_add_append,List.take_length_add_append,e1,e2]
   ·exact⟨HG6.out.os.trans HG5.out.os,HG6.out.tape.trans HG5.out.tape,HG6.out.output.trans HG5.out.output,Nat.le_trans HG5.out.size HG6.out.size,fun k hk hk2=>(HG6.out.block k (Nat.lt_of_lt_of_le hk HG5.out.size) hk2).trans (HG5.out.block k hk hk2)⟩
  ·have dr:decide ((c:Int)<(m:Int)+1)=true:=zt
   have hxi:(xs.take (i*3)).length=i*3:=by rw[List.length_take,hxl];exact Nat.min_eq_left (Nat.mul_le_mul_right _ hi)
   have HXI:=zh hxi;clear hxi
   have hxs:∀ (j:Nat) (u:Value),(xs.take (i*3))[j]? = some u->w.cell? ⟨g,j,none⟩=some u:=fun j u hj=>by
    rw[HAT.out.cell]
    rw[List.getElem?_take] at hj
    split at hj
    ·simp[List.getElem?_append_left (List.getElem?_eq_some_iff.1 hj).1,hj]
    ·cases hj
   have HXS:=zh hxs;clear hxs
   go_upto_region 10 with (at_builtin;go_must (refine JV Dk Tryz.underlying3 rfl _ _ rfl g i (m+1-i) c .i64 (xs.take (i*3)) rfl _ (show _=((m+1-i:Nat):Int) by omega) rfl HXI.out HXS.out (by omega) (by omega) (by omega) (by omega) ?_);intro nc w5 zs j5 su Rq hl5 hb5;rw[show i+(m+1-i)=m+1 by omega] at j5 ⊢;have HL5:=zh hl5;have Oc:=zh Rq;have HB5:=zh hb5;have cnc:¬ nc=i:=(by omega);have za6:¬ nc=i+1:=(by omega);(obtain⟨G,hG⟩:∃ G,G=w.heap.size:=⟨_,rfl⟩);rw[<- hG] at Oc ⊢;have HGG:=zh hG;clear hl5 Rq hb5 hG)
   have hgl:g<w.heap.size:=HAT.out.lt
   have hgG:g≠G:=by have:=HGG.out;omega
   have hvl:vb<w.heap.size:=HNV.out.lt
   have Rs:At w5 vb 82 nw.toArray:=HNV.out.below HB5.out hvl
   have j6:At w5 g 82 (xs++ys).toArray:=HAT.out.below HB5.out hgl
   have Z4:=zh Rs;have sw:=zh j6
   have mn2:Nat.min 1 (m+1-i)=1:=by simp only[Nat.min_def];split<;>omega
   have MN2:=zh mn2
   clear Rs j6 mn2
   obtain⟨C5,hC5⟩:∃ C5,C5=xs.take (i*3)++zs:=⟨_,rfl⟩
   have hl5:=HL5.out
   rw[<- hC5] at Oc hl5
   have HC5:=zh hC5;clear hC5 HL5
   have HL5:=zh hl5;clear hl5
   have JX:∀ (j:Nat) (u:Value),nw[j]? = some u->w5.cell? ⟨vb,0+j,none⟩=some u:=fun j u hj=>by
    rw[Nat.zero_add,Z4.out.cell]
    simpa using hj
   have Rt:=zh JX
   clear JX
   go_wp2_with (refine Em rfl _ _ rfl Tryz.underlying44 Ew G (i*3) (m+1-i) (nc-i) vb 0 1 1 (by rfl) (by rfl) C5 82 Oc.out nw (by rw[hnw,MN2.out]) Rt.out (by rw[hnw,HL5.out];omega) H2.out ?_;intro w6 FL hg6 hz6;have LM:=zh FL;have HG6:=zh hg6;clear FL hg6)
   have jA:At w6 g 82 (xs++ys).toArray:=(HG6.out.block g (Nat.lt_of_lt_of_le hgl HB5.out.size) (fun e=>hgG (Option.some.inj e))).trans sw.out
   have sD:=zh jA
   have hl6:(C5.take (i*3)++(nw++C5.drop (i*3+nw.length))).length=nc*3:=by
    simp only[List.length_append,List.length_take,List.length_drop,hnw,HL5.out]
    omega
   obtain⟨C6,hC6⟩:∃ C6,C6=C5.take (i*3)++(nw++C5.drop (i*3+nw.length)):=⟨_,rfl⟩
   rw[<- hC6] at LM hl6
   have HC6:=zh hC6;have HL6:=zh hl6
   clear jA hC6 hl6
   go_wp2_with fail
   refine Lex.zl ?_
   have mn1:Nat.min (m-i) (m-i)=m-i:=Nat.min_self _
   have hcs:(xs.drop (i*3)).length=(m-i)*3:=by rw[List.length_drop,hxl,Nat.sub_mul]
   have Rp:At w6.drew G 82 C6.toArray:=LM.out
   have hsrc:∀ (j:Nat) (u:Value),(xs.drop (i*3))[j]? = some u->w6.drew.cell? ⟨g,i*3+j,none⟩=some u:=fun j u hj=>by
    show w6.cell? ⟨g,i*3+j,none⟩=some u
    rw[sD.out.cell]
    rw[List.getElem?_drop] at hj
    simp[List.getElem?_append_left (List.getElem?_eq_some_iff.1 hj).1,hj]
   have Zz:=zh Rp;have HCS:=zh hcs;have MN1:=zh mn1;have Z0:=zh hsrc
   clear Rp hcs mn1 hsrc
   go_wp2_with (refine Em rfl _ _ rfl Tryz.underlying44 Ew G ((i+1)*3) (m-i) (nc-(i+1)) g (i*3) (m-i) (c-i) (by rfl) (by rfl) C6 82 Zz.out (xs.drop (i*3)) (by rw[HCS.out,MN1.out]) Z0.out (by rw[HCS.out,HL6.out];omega) (fun u hu=>H1.out u (List.mem_of_mem_drop hu)) ?_;intro w7 LP hg7 hz7;have Xf:=zh LP;have HG7:=zh hg7;clear LP hg7)
   refine Lex.ze ?_
   go_wp2_with fail
   go_ret
   refine⟨_,rfl,EI Xf.out (by have:=HGG.out;omega) j5 su ?_ ?_,?_,.inr (by rw[HGG.out];rfl)⟩
   ·simp only[List.length_append,List.length_take,List.length_drop,HCS.out,HL6.out]
    omega
   ·have e1 : C6.take ((i + 1) * 3) = xs.take (i * 3) ++ nw :=by
     have e2:C5.take (i*3)=xs.take (i*3):=by rw[HC5.out,List.take_append_of_le_length (by rw[HXI.out];omega),List.take_of_length_le (by rw[HXI.out];omega)]
     have e3:(i+1)*3=(xs.take (i*3)).length+(nw.length+0):=by rw[HXI.out,hnw];omega
     rw[HC6.out,e2,e3,List.take_length_add_append,List.take_length_add_append,List.take_zero,List.append_nil]
    have e4:(m+1)*3=(xs.take (i*3)).length+(nw.length+((xs.drop (i*3)).length+0)):=by rw[HXI.out,hnw,HCS.out];omega
    rw[e1,List.append_assoc,e4,List.take_length_add_append,List.take_length_add_append,List.take_length_add_append,List.take_zero,List.append_nil]
   ·refine⟨?_,?_,?_,?_,fun k hk hk2=>?_⟩
    ·exact(HG7.out.os.trans HG6.out.os).trans HB5.out.os
    ·exact(HG7.out.tape.trans HG6.out.tape).trans HB5.out.tape
    ·exact(HG7.out.output.trans HG6.out.output).trans HB5.out.output
    ·exact Nat.le_trans HB5.out.size (Nat.le_trans HG6.out.size HG7.out.size)
    ·have hkG:some k≠some G:=fun e=>by have:=Option.some.inj e;have:=HGG.out;omega
     have k5:=HB5.out.block k hk
     have s5:=HB5.out.size
     exact((HG7.out.block k (by show k<w6.heap.size;have:=HG6.out.size;omega) hkG).trans (HG6.out.block k (by omega) hkG)).trans k5
theorem jB {css:List (List Value)}(h:∀ cs∈css,∀ u∈cs,u.oneCell' = true):∀ u∈css.flatten,u.oneCell' = true:=by
 intro u hu
 obtain⟨cs,h1,h2⟩:=List.mem_flatten.1 hu
 exact h cs h1 u h2
theorem Uk {css:List (List Value)}{k:Nat}(h:∀ cs∈css,cs.length=k):∀ (i j:Nat) (hi:i<css.length),j<k->css.flatten[i*k+j]? = (css[i])[j]? :=by
 induction css with
 | nil=>intro i j hi;cases hi
 | cons c css ih =>
   intro i j hi hj
   have hc:c.length=k:=h c List.mem_cons_self
   rw[List.flatten_cons]
   cases i with
   | zero=>rw[Nat.zero_mul,Nat.zero_add,List.getElem?_append_left (by omega)];rfl
   | succ i =>
     have hi2:i<css.length:=by simpa using hi
     rw[Nat.succ_mul,List.getElem?_append_right (by omega),hc,show i*k+k+j-k=i*k+j by omega,ih (fun cs hcs=>h cs (List.mem_cons_of_mem _ hcs)) i j hi2 hj]
     rfl
namespace Own
structure DN (w:World) (g:Nat) (F:Nat->Prop) (S:List Space):Prop where
 row:∃ (cur:Array Value) (vs:Nat->Value),At w g 70 cur/\∀ i (hi:i<S.length),cur[i*3]? = some (.string S[i].pre)/\cur[i*3+1]? = some (vs i)/\cur[i*3+2]? = some (.int .i64 S[i].threshold)/\Ag 2 Cb F w (vs i) S[i].members
theorem DN.mono {w:World}{g:Nat}{F G:Nat->Prop}{S:List Space}(h:DN w g F S)(hF:∀ k,F k->k<w.heap.size->G k):DN w g G S:=by
 obtain⟨cur,vs,h1,h2⟩:=h.row
 exact⟨cur,vs,h1,fun i hi=>by obtain⟨a,b,c,d⟩:=h2 i hi;exact⟨a,b,c,d.mono hF⟩⟩
theorem DN.keep {w w' : World}{g:Nat}{F:Nat->Prop}{S:List Space}(h:DN w g F S)(hs:w.heap.size<=w'.heap.size)(hk:∀ k,k=g\/F k->k<w.heap.size->w'.heap[k]? = w.heap[k]?):DN w' g F S:=by
 obtain⟨cur,vs,h1,h2⟩:=h.row
 exact⟨cur,vs,h1.keep (hk g (.inl rfl) h1.lt),fun i hi=>by obtain⟨a,b,c,d⟩:=h2 i hi;exact⟨a,b,c,d.keep hs fun k hf hl=>hk k (.inr hf) hl⟩⟩
theorem DN.below {w w' : World}{g:Nat}{F:Nat->Prop}{S:List Space}(h:DN w g F S)(hb:Below w.heap.size w w'):DN w' g F S:=h.keep hb.size fun k _ hl=>hb.block k hl
theorem DN.list {w:World}{g n c:Nat}{F G:Nat->Prop}{S:List Space}(h:DN w g F S)(hg:G g)(hF:∀ k,F k->k<w.heap.size->G k)(hn:n=S.length):Ag 3 CB G w (.slice (some ⟨g,0,none⟩) n c) S:=by
 obtain⟨cur,vs,h1,h2⟩:=h.row
 subst hn
 refine⟨_,c,rfl,.inr ⟨g,0,rfl,hg,h1.lt,fun i hi=>?_⟩⟩
 obtain⟨a,b,d,e⟩:=h2 i hi
 refine⟨[.string S[i].pre,vs i,.int .i64 S[i].threshold],rfl,fun j u hj=>?_,vs i,rfl,e.mono hF⟩
 rw[Nat.zero_add,h1.cell]
 match j,hj with
 | 0,hj=>rw[<- hj];exact a
 | 1,hj=>rw[<- hj];exact b
 | 2,hj=>rw[<- hj];exact d
theorem DN.set {w:World}{g k:Nat}{F:Nat->Prop}{S:List Space}(h:DN w g F S)(hF:∀ k,F k->k≠g)(hk:k<S.length)(v' : Value)(hv:Ag 2 Cb F w v' S[k].members):
 DN (((w.setCell ⟨g,k*3,none⟩ (.string S[k].pre)).setCell ⟨g,k*3+1,none⟩ v').setCell ⟨g,k*3+2,none⟩ (.int .i64 S[k].threshold)) g F S:=by
 obtain⟨cur,vs,h1,h2⟩:=h.row
 have keep:∀ (l:List Member) (v:Value),Ag 2 Cb F w v l->Ag 2 Cb F (((w.setCell ⟨g,k*3,none⟩ (.string S[k].pre)).setCell ⟨g,k*3+1,none⟩ v').setCell ⟨g,k*3+2,none⟩ (.int .i64 S[k].threshold)) v l:=fun l v hl=>
  hl.keep (by simp[World.setCell]) (fun j hj _=>by rw[zo (hF j hj),zo (hF j hj),zo (hF j hj)])
 refine⟨_,fun i=>if i=k then v' else vs i,((h1.set (k*3) _).set (k*3+1) _).set (k*3+2) _,fun i hi=>?_⟩
 obtain⟨a,b,d,e⟩:=h2 i hi
 by_cases hik:i=k
 ·subst hik
  have s0:=(Array.getElem?_eq_some_iff.1 a).1
  have s1:=(Array.getElem?_eq_some_iff.1 b).1
  have s2:=(Array.getElem?_eq_some_iff.1 d).1
  refine⟨?_,?_,?_,?_⟩
  ·rw[Array.getElem?_setIfInBounds_ne (by omega),Array.getElem?_setIfInBounds_ne (by omega),Array.getElem?_setIfInBounds_self_of_lt s0]
  ·show _=some (if i=i then v' else vs i)
   rw[Array.getElem?_setIfInBounds_ne (by omega),Array.getElem?_setIfInBounds_self_of_lt (by simpa using s1),if_pos rfl]
  ·rw[Array.getElem?_setIfInBounds_self_of_lt (by simpa using s2)]
  ·show Ag _ _ _ _ (if i=i then v' else vs i) _
   rw[if_pos rfl];exact keep _ _ hv
 ·refine⟨?_,?_,?_,?_⟩
  ·rw[Array.getElem?_setIfInBounds_ne (by omega),Array.getElem?_setIfInBounds_ne (by omega),Array.getElem?_setIfInBounds_ne (by omega)];exact a
  ·show _=some (if i=k then v' else vs i)
   rw[Array.getElem?_setIfInBounds_ne (by omega),Array.getElem?_setIfInBounds_ne (by omega),Array.getElem?_setIfInBounds_ne (by omega),if_neg hik];exact b
  ·rw[Array.getElem?_setIfInBounds_ne (by omega),Array.getElem?_setIfInBounds_ne (by omega),Array.getElem?_setIfInBounds_ne (by omega)];exact d
  ·show Ag _ _ _ _ (if i=k then v' else vs i) _
   rw[if_neg hik];exact keep _ _ e
end Own
theorem Lg (F:Nat->Prop)(v:Value)(S:List Own.Space)(w:World)(h:Ag 3 Own.CB F w v S)(hn:S.length<=3000000):
 Calls Tryz.prog 98 #[v] w fun e w' => ∃ a c,e=.returned (.slice a S.length c)/\(S.length=0\/∃ g,a=some ⟨g,0,none⟩/\w.heap.size<=g/\Own.DN w' g F S)/\Below w.heap.size w w':=by
 obtain⟨css,h1,h2,h3⟩:=Ag.cells h
 have hc3:∀ cs∈css,cs.length=3:=fun cs hcs=>by
  obtain⟨i,hi,rfl⟩:=List.getElem_of_mem hcs
  exact(h2 i (by omega) hi).1
 have hone:∀ u∈css.flatten,u.oneCell' = true:=jB fun cs hcs u hu=>by
  obtain⟨i,hi,rfl⟩:=List.getElem_of_mem hcs
  obtain⟨_,v,hv,hm⟩:=h2 i (by omega) hi
  rw[hv] at hu
  obtain⟨a,c,rfl⟩:=hm.len
  simp at hu
  rcases hu with rfl|rfl|rfl<;>rfl
 refine(Vm v S.length css.flatten w h3 hone hn).mono ?_
 rintro e w' ⟨v',rfl,ho,hb⟩
 obtain⟨a,m,c,rfl⟩:=Ac ho
 obtain rfl:=Bt ho
 refine⟨a,c,rfl,?_,hb⟩
 by_cases h0:S.length=0
 ·exact .inl h0
 ·obtain⟨g,cap,hv,_⟩:=CO ho (by omega)
  cases hv
  obtain⟨ys,hat,hbg,_,_,_,hxl⟩:=KA ho
  refine .inr ⟨g,rfl,hbg,⟨_,fun i=>(css.getD i []).getD 1 undef,hat,fun i hi=>?_⟩⟩
  have hi' : i<css.length:=by omega
  obtain⟨h4,v,h5,h6⟩:=h2 i hi hi'
  have hcell:∀ j,j<3->(css.flatten++ys).toArray[i*3+j]? = (css[i])[j]? :=fun j hj=>by
   have:=Uk hc3 i j hi' hj
   rw[List.getElem?_toArray,List.getElem?_append_left (by rw[hxl];omega),this]
  have e1:(css.getD i []).getD 1 undef=v:=by
   have:css.getD i []=[.string S[i].pre,v,.int .i64 S[i].threshold]:=by rw[<- h5,List.getD_eq_getElem?_getD,List.getElem?_eq_getElem hi'];rfl
   rw[this]
   rfl
  refine⟨?_,?_,?_,?_⟩
  ·have:=hcell 0 (by omega);rw[h5] at this;exact this
  ·show _=some ((css.getD i []).getD 1 undef)
   rw[e1];have:=hcell 1 (by omega);rw[h5] at this;exact this
  ·have:=hcell 2 (by omega);rw[h5] at this;exact this
  ·show Ag _ _ _ _ ((css.getD i []).getD 1 undef) _
   rw[e1];exact h6.below hb
structure nZ (X:Nat->Prop) (w:World) (o:Own.Ak) (sv kv:Value) (w' : World):Prop where
 ex:∃ B,w.heap.size<=B/\B<=w'.heap.size/\Ag 3 Own.CB (fun k=>k<B/\¬ X k) w' sv o.spaces/\w'.ownsRow B 91 2 kv o.keys.length (o.keys.flatMap Own.Co)
 bel:Below w.heap.size w w'
theorem Vr (X:Nat->Prop)(o:Own.Ak)(sv kv:Value)(w:World)(hX:∀ k,X k->k<w.heap.size)(hS:Ag 3 Own.CB (fun k=>¬ X k) w sv o.spaces)(hK:Own.Bo w kv o.keys)(hls:o.spaces.length<=3000000)(hlk:o.keys.length<=3000000)(hlm:∀ s∈o.spaces,s.members.length<=3000000):
 Calls Tryz.prog 151 #[.agg #[.int .i64 o.count,sv,kv]] w fun e w' => ∃ sv' kv',e=.returned (.agg #[.int .i64 o.count,sv',kv'])/\nZ X w o sv' kv' w':=by
 obtain⟨sa,sc,rfl⟩:=hS.len
 obtain⟨ka,kc,rfl⟩:=hK.len
 have ha1:=(At.new w 38 #[.int .i64 o.count,.slice sa o.spaces.length sc,.slice ka o.keys.length kc]).alloc (.cells #[.int .i64 0,.slice none 0 0,.slice none 0 0] 38)
 have ha2:=At.new1 w (.cells #[.int .i64 o.count,.slice sa o.spaces.length sc,.slice ka o.keys.length kc] 38) 38 #[.int .i64 0,.slice none 0 0,.slice none 0 0]
 have hb1:Below w.heap.size w ((w.alloc (.cells #[.int .i64 o.count,.slice sa o.spaces.length sc,.slice ka o.keys.length kc] 38)).alloc (.cells #[.int .i64 0,.slice none 0 0,.slice none 0 0] 38)):=zb.alloc (by simp) _
 have hz1:((w.alloc (.cells #[.int .i64 o.count,.slice sa o.spaces.length sc,.slice ka o.keys.length kc] 38)).alloc (.cells #[.int .i64 0,.slice none 0 0,.slice none 0 0] 38)).heap.size=w.heap.size+2:=by simp
 have hs1:=(hS.mono (G:=fun k=>k<w.heap.size/\¬ X k) (fun k hx hk=>⟨hk,hx⟩)).below hb1;have hk1:=(hK.mono (G:=fun k=>k<w.heap.size) (fun k _ hk=>hk)).below hb1
 have c1:=ha1.cell 1
 simp only[zg] at c1
 have HS:=zh hs1;have HK:=zh hk1;have HA1:=zh ha1;have HA2:=zh ha2;have HB1:=zh hb1;have HLM:=zh hlm
 clear hS hK hs1 hk1 ha1 ha2 hb1 hlm
 go_enter Tryz.func151,Tryz.ntmps151
 go_wp2_with fail
 generalize (w.alloc (.cells #[.int .i64 o.count,.slice sa o.spaces.length sc,.slice ka o.keys.length kc] 38)).alloc (.cells #[.int .i64 0,.slice none 0 0,.slice none 0 0] 38)=w1 at*
 refine(Lg _ _ o.spaces w1 HS.out hls).mono ?_
 rintro e w2 ⟨a,c,rfl,hsp,hb2⟩
 have A1:=zh (HA1.out.below hb2 (by omega));have A2:=zh (HA2.out.below hb2 (by omega));have B2:=zh (HB1.out.trans (hb2.mono HB1.out.size));have HK2:=zh (HK.out.below hb2)
 have hz2:=hb2.size
 have HSP:=zh hsp
 have z1:=A1.out.free 1;have y1:=A1.out.cell 1
 simp only[zg] at y1
 clear hb2 hsp HA1 HA2 HB1 HK HS c1
 go_upto_region 2 with fail
 have dI:=A1.out.set 1 (.slice a o.spaces.length c)
 have sF:At (w2.setCell ⟨w.heap.size,1,none⟩ (.slice a o.spaces.length c)) w.heap.size 38 #[.int .i64 o.count,.slice a o.spaces.length c,.slice ka o.keys.length kc]:=dI
 have wI:=A2.out.far (p:=⟨w.heap.size,1,none⟩) (by simp) (.slice a o.spaces.length c)
 have hb4:=B2.out.setCell (p:=⟨w.heap.size,1,none⟩) (Nat.le_refl _) (.slice a o.spaces.length c)
 have hz4:(w2.setCell ⟨w.heap.size,1,none⟩ (.slice a o.spaces.length c)).heap.size=w2.heap.size:=by simp[World.setCell]
 have hk4:=HK2.out.keep (w':=w2.setCell ⟨w.heap.size,1,none⟩ (.slice a o.spaces.length c)) (by simp[World.setCell]) (fun k hk _=>zo (by show k≠w.heap.size;omega))
 have wJ:o.spaces.length=0\/∃ g,a=some ⟨g,0,none⟩/\w1.heap.size<=g/\Own.DN (w2.setCell ⟨w.heap.size,1,none⟩ (.slice a o.spaces.length c)) g (fun k=>k≠g/\k≠w.heap.size/\k≠w.heap.size+1/\¬ X k) o.spaces:=by
  rcases HSP.out with h0|⟨g,h1,h2,h3⟩
  ·exact .inl h0
  ·refine .inr ⟨g,h1,h2,?_⟩
   refine(h3.keep (by simp[World.setCell]) (fun k hk _=>zo (by show k≠w.heap.size;rcases hk with rfl|hk<;>omega))).mono (fun k hk _=>⟨by omega,by omega,by omega,hk.2⟩)
 have A4:=zh sF;have R4:=zh wI;have B4:=zh hb4;have HK4:=zh hk4;have za7:=zh wJ
 have c1:=sF.cell 1
 simp only[zg] at c1
 clear dI sF wI hb4 hk4 wJ HSP HK2 A1 A2 B2 z1 y1
 generalize w2.setCell ⟨w.heap.size,1,none⟩ (.slice a o.spaces.length c)=w4 at*
 go_wp2_with fail
 go_loopw [11] (fun i wr=>∃ k:Nat,k<=o.spaces.length/\i=.int .i64 k/\(o.spaces.length=0\/∃ g,a=some ⟨g,0,none⟩/\w1.heap.size<=g/\g<w4.heap.size/\Own.DN wr g (fun k=>k≠g/\k≠w.heap.size/\k≠w.heap.size+1/\¬ X k) o.spaces)/\Fr (fun k=>w1.heap.size<=k/\a=some ⟨k,0,none⟩) w4 wr) (fun i _=>o.spaces.length-(intOf i).toNat)
 case atStart=>
  refine⟨0,by omega,rfl,?_,Fr.refl _ _⟩
  rcases za7.out with h0|⟨g,h1,h2,h3⟩
  ·exact .inl h0
  ·obtain⟨cur,vs,h4,_⟩:=h3.row
   exact .inr ⟨g,h1,h2,h4.lt,h3⟩
 case round=>
  obtain⟨k,hk,rfl,hrow,hfr⟩:=hrel
  have Vs:=hfr.at A4.out (fun h=>by omega)
  have jC:=hfr.at R4.out (fun h=>by omega)
  have ng:=zh hrow;have HFR:=zh hfr;have AR:=zh Vs;have RR:=zh jC
  have c1:=Vs.cell 1
  simp only[zg] at c1
  have hfz:=hfr.size
  have hbl:=Vs.lt
  clear Vs jC
  by_cases hlt:k<o.spaces.length
  ·have dk:decide ((k:Int)<o.spaces.length)=true:=zt
   obtain⟨g,rfl,hg1,hg2,hsr⟩:=hrow.resolve_left (by omega)
   obtain⟨cur,vs,q1,q2⟩:=hsr.row
   obtain⟨e0,e1,e2,e3⟩:=q2 k hlt
   have f0:=q1.cell (k*3);have f1:=q1.cell (k*3+1);have f2:=q1.cell (k*3+2)
   have z0:=q1.free (k*3);have z1:=q1.free (k*3+1);have z2:=q1.free (k*3+2)
   rw[e0] at f0
   rw[e1] at f1
   rw[e2] at f2
   have hlm:=HLM.out o.spaces[k] (List.getElem_mem hlt)
   obtain⟨ma,mc,hvk⟩:=e3.len
   rw[hvk] at e3 f1
   have Q1:=zh q1;have HSR:=zh hsr
   have hcp:=GI o.spaces[k].pre o.spaces[k].threshold _ o.spaces[k].members wr.drew ((e3.below ((Below.refl _ _).drew)).mono (fun _ _ _=>trivial)) hlm
   have HCP:=zh hcp
   obtain⟨pre,hpre⟩:∃ x,x=o.spaces[k].pre:=⟨_,rfl⟩
   obtain⟨th,hth⟩:∃ x,x=o.spaces[k].threshold:=⟨_,rfl⟩
   rw[<- hpre] at f0 HCP
   rw[<- hth] at f2 HCP
   have LW:=zh hpre;have HTH:=zh hth
   have hgl:g<wr.heap.size:=q1.lt
   clear hrow q1 q2 e0 e1 e2 e3 hvk hlm hcp hsr hpre hth
   go_wp2_with fail
   refine Lex.zn (fun j=>j=w.heap.size) [1] 9 [9] ?_
   simp only[Lex.AA,zd]
   go_wp2_with fail
   refine HCP.out.mono ?_
   rintro e w5 ⟨v',rfl,hov,hb5⟩
   have Dt : Below wr.heap.size wr w5:=(Below.refl wr.heap.size wr).drew.trans hb5
   have hne:v'.ownBlock≠some g:=fun e=>by have:=Az hov g e;have:wr.heap.size<=g:=this;omega
   have hup:=Az hov
   obtain⟨va,vm,vc,rfl⟩:=Ac hov
   have y0:=(Dt.cell (p:=⟨g,k*3,none⟩) hgl).trans f0;have y1:=(Dt.cell (p:=⟨g,k*3+1,none⟩) hgl).trans f1;have y2:=(Dt.cell (p:=⟨g,k*3+2,none⟩) hgl).trans f2
   have q5:=Q1.out.below Dt hgl
   have x0:=q5.free (k*3);have x1:=q5.free (k*3+1);have x2:=q5.free (k*3+2)
   have c5:=(Dt.cell (p:=⟨w.heap.size,1,none⟩) hbl).trans c1
   have HB5:=zh Dt;have HOV:=zh hov;have HUP:=zh hup
   clear hb5 Dt hov hup q5 f0 f1 f2 z0 z1 z2 Q1
   go_wp2_with fail
   refine Lex.Mid.intro (fun j hj _=>by rw[hj];exact HB5.out.block _ hbl) ?_
   go_wp2_with fail
   refine Lex.zk ⟨⟨rfl,zi c1⟩,trivial⟩ ?_
   go_wp2_with fail
   go_round
   case measure=>simp[intOf];omega
   case rel=>
    have hm5:Ag 2 Own.Cb (fun k=>k≠g/\k≠w.heap.size/\k≠w.heap.size+1/\¬ X k) w5 (.slice va vm vc) o.spaces[k].members:=
     Ck (enc:=Own.Ie) (fun _=>rfl) (fun _=>rfl) (Bz.own HOV.out) rfl (fun j hj=>by have:wr.heap.size<=j:=HUP.out j hj;exact⟨by omega,by omega,by omega,fun hx=>by have:=hX j hx;omega⟩)
    have hs5:=(HSR.out.below HB5.out).set (fun k hk=>hk.1) hlt _ hm5
    rw[<- LW.out,<- HTH.out] at hs5
    refine⟨k+1,by omega,by go_num,.inr ⟨g,rfl,hg1,hg2,hs5⟩,?_⟩
    have f5:Fr (fun k=>w1.heap.size<=k/\(some ⟨g,0,none⟩:Option Addr)=some ⟨k,0,none⟩) w4 w5:=HFR.out.trans (Fr.of_below HB5.out) (fun _ h=>.inl h)
    exact((f5.setCell (p:=⟨g,k*3,none⟩) (.inl ⟨hg1,rfl⟩) _).setCell (p:=⟨g,k*3+1,none⟩) (.inl ⟨hg1,rfl⟩) _).setCell (p:=⟨g,k*3+2,none⟩) (.inl ⟨hg1,rfl⟩) _
  ·have dk:decide ((k:Int)<o.spaces.length)=false:=zf
   have hsl:Ag 3 Own.CB (fun k=>k<wr.heap.size/\k≠w.heap.size/\k≠w.heap.size+1/\¬ X k) wr (.slice a o.spaces.length c) o.spaces:=by
    rcases hrow with h0|⟨g,rfl,hg1,hg2,hsr⟩
    ·have:o.spaces=[]:=List.eq_nil_of_length_eq_zero h0
     rw[this]
     exact Ag.nil _ _
    ·obtain⟨cur,vs,q1,_⟩:=hsr.row
     exact hsr.list ⟨q1.lt,by omega,by omega,fun hx=>by have:=hX g hx;omega⟩ (fun k hk hl=>⟨hl,hk.2.1,hk.2.2.1,hk.2.2.2⟩) rfl
   have hkr:=HK4.out.fr hfr (fun k hk h=>by omega)
   have hkm:=Own.Bo.rows (hkr.mono (G:=Own.IE) (fun _ _ _=>trivial))
   have c2:=AR.out.cell 2
   simp only[zg] at c2
   have HSL:=zh hsl;have HKM:=zh hkm
   clear hrow hsl hkr hkm hfr
   go_wp2_with fail
   refine(Zu _ o.keys.length _ wr HKM.out (Own.qC _) hlk).mono ?_
   rintro e w5 ⟨v',rfl,hov,hb5⟩
   have hup:=Az hov
   obtain⟨va,vm,vc,rfl⟩:=Ac hov
   have q5:=AR.out.below hb5 hbl
   have r5:=RR.out.below hb5 RR.out.lt
   have x0:=q5.cell 0;have x1:=q5.cell 1;have x2:=q5.cell 2;have x3:=q5.free 2
   have y0:=r5.cell 0;have y1:=r5.cell 1;have y2:=r5.cell 2;have y3:=r5.free 0;have y4:=r5.free 1;have y5:=r5.free 2
   simp only[zg] at x0 x1 x2 y0 y1 y2
   have HB5:=zh hb5;have HOV:=zh hov;have HUP:=zh hup;have R5:=zh r5
   clear hb5 hov hup q5 r5 c1 c2
   go_wp2_with fail
   have F2:=(((R5.out.far (p:=⟨w.heap.size,2,none⟩) (by simp) (.slice va vm vc)).set 0 (.int .i64 o.count)).set 1 (.slice a o.spaces.length c)).set 2 (.slice va vm vc)
   have far:∀ k,k≠w.heap.size->k≠w.heap.size+1->((((w5.setCell ⟨w.heap.size,2,none⟩ (.slice va vm vc)).setCell ⟨w.heap.size+1,0,none⟩ (.int .i64 o.count)).setCell ⟨w.heap.size+1,1,none⟩ (.slice a o.spaces.length c)).setCell ⟨w.heap.size+1,2,none⟩ (.slice va vm vc)).heap[k]? = w5.heap[k]? :=fun k h1 h2=>by
    rw[zo h2,zo h2,zo h2,zo h1]
   have hrz:w.heap.size+1<wr.heap.size:=RR.out.lt
   refine Es rfl rfl (Ab F2 Tryz.underlying38 rfl Am) ⟨_,_,rfl,⟨wr.heap.size,by omega,by simpa [World.setCell] using HB5.out.size,?_,?_⟩,?_⟩
   ·refine Ag.mono (F:=fun k=>k<wr.heap.size/\k≠w.heap.size/\k≠w.heap.size+1/\¬ X k) ?_ (fun k hk _=>⟨hk.1,hk.2.2.2⟩)
    exact(HSL.out.below HB5.out).keep (by simp[World.setCell]) (fun k hk _=>far k hk.2.1 hk.2.2.1)
   ·exact Aq HOV.out (fun k hk=>far k (by have:=HUP.out k hk;omega) (by have:=HUP.out k hk;omega))
   ·have SI:Below w.heap.size w w5:=(B4.out.trans (HFR.out.below (B:=w.heap.size) (by omega) (fun k hk=>by omega))).trans (HB5.out.mono (by omega))
    exact(((SI.setCell (p:=⟨w.heap.size,2,none⟩) (Nat.le_refl _) _).setCell (p:=⟨w.heap.size+1,0,none⟩) (by simp) _).setCell (p:=⟨w.heap.size+1,1,none⟩) (by simp) _).setCell (p:=⟨w.heap.size+1,2,none⟩) (by simp) _
end
end Go.Proofs.YtnijhlphcjjpbaaGreatDoor
