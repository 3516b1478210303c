/- The program's operations on owners: which are well-formed. -/
import Derived.Test.YtjlmglgmcekmhaaGreatDoorShkD6
set_option linter.unusedVariables false
set_option linter.unusedSimpArgs false
set_option maxRecDepth 100000
set_option maxHeartbeats 8000000
namespace Go.Proofs.YtjlmglgmcekmhaaGreatDoor
section
open Go Go.RowKit Go.Maps
namespace Own
def opV (op:Op)(mv av:Value):Value:=.agg #[.int .i64 op.kind,.string op.pre,mv,.int .i64 op.threshold,.string op.name,.string op.pub,av]
theorem Ef (s:ByteArray):(s.toList.isEmpty=true↔s=⟨#[]⟩):=by
 rw[ByteArray.toList_eq,List.isEmpty_iff]
 constructor
 ·intro h;exact Sha.BG h
 ·rintro rfl;rfl
end Own
theorem Ja (op:Own.Op)(mv av:Value)(w:World)(hM:Il w)(hm:Own.Af w mv op.members)(ha:∃ a c,av=.slice a op.Aa.length c)(hl:op.members.length<=140737488355328):
 Calls Tryz.prog 49 #[Own.opV op mv av] w fun e w' => e=.returned (.bool (Own.Eh op))/\Below w.heap.size w w':=by
 obtain⟨R,hR⟩:∃ R,R=Own.Eh op:=⟨_,rfl⟩
 rw[<- hR]
 unfold Own.Eh at hR
 obtain⟨PM,hPM⟩:∃ P,P=Own.U7 op:=⟨_,rfl⟩
 obtain⟨PN,hPN⟩:∃ P,P=Own.opName op:=⟨_,rfl⟩
 rw[<- hPM,<- hPN] at hR
 unfold Own.U7 at hPM
 unfold Own.opName at hPN
 unfold Own.opV
 obtain⟨aa,ac,rfl⟩:=ha
 obtain⟨kd,pre,ms,th,nm,pb,aps⟩:=op
 dsimp only at*
 obtain⟨ma,mc,rfl⟩:=hm.len
 have F1:=zh (show Au w _ [(29,#[.int .i64 kd,.string pre,.slice ma ms.length mc,.int .i64 th,.string nm,.string pb,.slice aa aps.length ac])] from((CY.nil w).push 29 #[.int .i64 kd,.string pre,.slice ma ms.length mc,.int .i64 th,.string nm,.string pb,.slice aa aps.length ac]).boxes)
 have hcp:=fun W (hW:Below w.heap.size w W)=>LJ pre W (hM.below hW)
 have hcm:=fun W (hW:Below w.heap.size w W)=>KR _ ms W (hm.below hW) hl
 have hcn:=fun W=>Dv nm W
 have hcq:=fun W=>Bz pb W
 have HCP:=zh hcp;have HCM:=zh hcm;have HCN:=zh hcn;have HCQ:=zh hcq
 have HR:=zh hR;have HPM:=zh hPM;have HPN:=zh hPN
 clear hM hm hcp hcm hcn hcq hR hPM hPN
 have x00:(w.alloc (.cells #[.int .i64 kd,.string pre,.slice ma ms.length mc,.int .i64 th,.string nm,.string pb,.slice aa aps.length ac] 29)).cell? ⟨w.heap.size,0,none⟩=some (.int .i64 kd):=F1.out.cell 0 0 rfl rfl
 have x01:(w.alloc (.cells #[.int .i64 kd,.string pre,.slice ma ms.length mc,.int .i64 th,.string nm,.string pb,.slice aa aps.length ac] 29)).cell? ⟨w.heap.size,1,none⟩=some (.string pre):=F1.out.cell 0 1 rfl rfl
 have x02:(w.alloc (.cells #[.int .i64 kd,.string pre,.slice ma ms.length mc,.int .i64 th,.string nm,.string pb,.slice aa aps.length ac] 29)).cell? ⟨w.heap.size,2,none⟩=some (.slice ma ms.length mc):=F1.out.cell 0 2 rfl rfl
 have x03:(w.alloc (.cells #[.int .i64 kd,.string pre,.slice ma ms.length mc,.int .i64 th,.string nm,.string pb,.slice aa aps.length ac] 29)).cell? ⟨w.heap.size,3,none⟩=some (.int .i64 th):=F1.out.cell 0 3 rfl rfl
 have x04:(w.alloc (.cells #[.int .i64 kd,.string pre,.slice ma ms.length mc,.int .i64 th,.string nm,.string pb,.slice aa aps.length ac] 29)).cell? ⟨w.heap.size,4,none⟩=some (.string nm):=F1.out.cell 0 4 rfl rfl
 have x05:(w.alloc (.cells #[.int .i64 kd,.string pre,.slice ma ms.length mc,.int .i64 th,.string nm,.string pb,.slice aa aps.length ac] 29)).cell? ⟨w.heap.size,5,none⟩=some (.string pb):=F1.out.cell 0 5 rfl rfl
 have x06:(w.alloc (.cells #[.int .i64 kd,.string pre,.slice ma ms.length mc,.int .i64 th,.string nm,.string pb,.slice aa aps.length ac] 29)).cell? ⟨w.heap.size,6,none⟩=some (.slice aa aps.length ac):=F1.out.cell 0 6 rfl rfl
 go_enter Tryz.func49,Tryz.ntmps49
 by_cases h0:kd<0
 ·have d0:decide (kd<0)=true:=decide_eq_true h0
  have HE:=zh (show R=false by rw[HR.out,decide_eq_false (show ¬ 0<=kd by omega)];rfl)
  go_wp2
  go_ret
  exact⟨by rw[HE.out];rfl,F1.out.under⟩
 have d0:decide (kd<0)=false:=decide_eq_false h0
 by_cases h4:4<kd
 ·have d4:decide ((4:Int)<kd)=true:=decide_eq_true h4
  have HE:=zh (show R=false by rw[HR.out,decide_eq_true (show 0<=kd by omega),decide_eq_false (show ¬ kd<=4 by omega)];rfl)
  go_wp2
  go_ret
  exact⟨by rw[HE.out];rfl,F1.out.under⟩
 have d4:decide ((4:Int)<kd)=false:=decide_eq_false h4
 have hr1:R=(Own.BI pre&&decide (aps.length<=8)&&PM&&PN):=by rw[HR.out,decide_eq_true (show 0<=kd by omega),decide_eq_true (show kd<=4 by omega)];rfl
 have HR1:=zh hr1;clear hr1 HR
 go_upto_region 1 with fail
 generalize (w.alloc (.cells #[.int .i64 kd,.string pre,.slice ma ms.length mc,.int .i64 th,.string nm,.string pb,.slice aa aps.length ac] 29))=w1 at*
 go_wp2_with fail
 refine(HCP.out w1 F1.out.under).mono ?_
 rintro e w2 ⟨rfl,hb2⟩
 have F2:=zh (F1.out.step hb2);clear hb2
 (try clear x00);(try clear x01);(try clear x02);(try clear x03);(try clear x04);(try clear x05);(try clear x06)
 obtain⟨x00,x01,x02,x03,x04,x05,x06⟩:=F2.out.JI rfl
 cases hpo:Own.BI pre with
 | false =>
   have HE:=zh (show R=false by rw[HR1.out,hpo];rfl)
   clear hpo
   go_wp2
   go_ret
   exact⟨by rw[HE.out];rfl,F2.out.under⟩
 | true=>
 by_cases h8:8<aps.length
 ·have d8:decide ((8:Int)<(aps.length:Int))=true:=zt
  have d8' : decide (8<aps.length)=true:=decide_eq_true h8
  have HE:=zh (show R=false by rw[HR1.out,hpo,decide_eq_false (show ¬ aps.length<=8 by omega)];rfl)
  clear hpo
  go_wp2
  go_ret
  exact⟨by rw[HE.out];rfl,F2.out.under⟩
 have d8:decide ((8:Int)<(aps.length:Int))=false:=zf
 have d8' : decide (8<aps.length)=false:=decide_eq_false h8
 have hr2:R=(PM&&PN):=by rw[HR1.out,hpo,decide_eq_true (show aps.length<=8 by omega)];rfl
 have HR2:=zh hr2;clear hr2 hpo HR1
 by_cases hk2:kd<=2
 ·have d2:decide (kd<=2)=true:=decide_eq_true hk2
  have hpm:=HPM.out
  rw[if_neg (show ¬ (3:Int)<=kd by omega)] at hpm
  have Ub:=zh hpm;clear hpm HPM
  go_upto_region 4 with fail
  go_wp2_with fail
  refine(HCM.out w2 F2.out.under).mono ?_
  rintro e w3 ⟨rfl,hb3⟩
  have F3:=zh (F2.out.step hb3);clear hb3
  (try clear x00);(try clear x01);(try clear x02);(try clear x03);(try clear x04);(try clear x05);(try clear x06)
  obtain⟨x00,x01,x02,x03,x04,x05,x06⟩:=F3.out.JI rfl
  cases hmo:Own.Co ms with
  | false =>
    have HE:=zh (show R=false by rw[HR2.out,Ub.out,hmo];rfl)
    clear hmo
    go_wp2
    go_ret
    exact⟨by rw[HE.out];rfl,F3.out.under⟩
  | true=>
  by_cases ht1:th<1
  ·have dt:decide (th<1)=true:=decide_eq_true ht1
   have HE:=zh (show R=false by rw[HR2.out,Ub.out,decide_eq_false (show ¬ 1<=th by omega)];simp)
   clear hmo
   go_wp2
   go_ret
   exact⟨by rw[HE.out];rfl,F3.out.under⟩
  have dt:decide (th<1)=false:=decide_eq_false ht1
  by_cases ht2:(ms.length:Int)<th
  ·have du:decide ((ms.length:Int)<th)=true:=decide_eq_true ht2
   have HE:=zh (show R=false by rw[HR2.out,Ub.out,decide_eq_false (show ¬ th<=(ms.length:Int) by omega)];simp)
   clear hmo
   go_wp2
   go_ret
   exact⟨by rw[HE.out];rfl,F3.out.under⟩
  have du:decide ((ms.length:Int)<th)=false:=decide_eq_false ht2
  have hk4:(kd==4)=false:=by rw[beq_eq_false_iff_ne];omega
  have hpn:=HPN.out
  rw[if_neg (show ¬ kd=4 by omega)] at hpn
  have HE0:=zh (show R=PN by rw[HR2.out,Ub.out,hmo,decide_eq_true (show 1<=th by omega),decide_eq_true (show th<=(ms.length:Int) by omega)];rfl)
  have Uc:=zh hpn;clear hpn HPN hmo Ub HR2
  go_upto_region 8 with fail
  by_cases hn:nm=⟨#[]⟩
  case neg=>
   have q1:nm.toList.isEmpty=false:=by rw[Bool.eq_false_iff];exact fun h=>hn ((Own.Ef nm).1 h)
   have q2:(nm.toList==[])=false:=by rw[beq_eq_false_iff_ne];intro h;rw[h] at q1;cases q1
   have HE:=zh (show R=false by rw[HE0.out,Uc.out,decide_eq_false hn];rfl)
   clear hn
   go_wp2
   go_ret
   exact⟨by rw[HE.out];rfl,F3.out.under⟩
  have q1:nm.toList.isEmpty=true:=(Own.Ef nm).2 hn
  have q2:(nm.toList==[])=true:=by rw[List.isEmpty_iff.1 q1];rfl
  have HN:=zh hn;clear hn
  by_cases hp:pb=⟨#[]⟩
  case neg=>
   have q3:pb.toList.isEmpty=false:=by rw[Bool.eq_false_iff];exact fun h=>hp ((Own.Ef pb).1 h)
   have q4:(pb.toList==[])=false:=by rw[beq_eq_false_iff_ne];intro h;rw[h] at q3;cases q3
   have HE:=zh (show R=false by rw[HE0.out,Uc.out,decide_eq_false hp];simp)
   clear hp
   go_wp2
   go_ret
   exact⟨by rw[HE.out];rfl,F3.out.under⟩
  have q3:pb.toList.isEmpty=true:=(Own.Ef pb).2 hp
  have q4:(pb.toList==[])=true:=by rw[List.isEmpty_iff.1 q3];rfl
  have HE:=zh (show R=true by rw[HE0.out,Uc.out,decide_eq_true HN.out,decide_eq_true hp];rfl)
  clear hp
  go_wp2
  go_ret
  exact⟨by rw[HE.out];rfl,F3.out.under⟩
 ·have d2:decide (kd<=2)=false:=decide_eq_false hk2
  have hpm:=HPM.out
  rw[if_pos (show(3:Int)<=kd by omega)] at hpm
  have Ub:=zh hpm;clear hpm HPM
  by_cases hl0:ms.length=0
  case neg=>
   have dl:decide ((0:Int)<(ms.length:Int))=true:=zt
   have dl' : decide (0<ms.length)=true:=zt
   have HE:=zh (show R=false by rw[HR2.out,Ub.out,decide_eq_false hl0];rfl)
   go_wp2
   go_ret
   exact⟨by rw[HE.out];rfl,F2.out.under⟩
  have dl:decide ((0:Int)<(ms.length:Int))=false:=zf
  have dl' : decide (0<ms.length)=false:=zf
  have HL0:=zh hl0;clear hl0
  by_cases ht0:th=0
  case neg=>
   have dt:(th != 0)=true:=by rw[bne_iff_ne];exact ht0
   have dt' : (th==0)=false:=by rw[beq_eq_false_iff_ne];exact ht0
   have HE:=zh (show R=false by rw[HR2.out,Ub.out,decide_eq_false ht0];simp)
   go_wp2
   go_ret
   exact⟨by rw[HE.out];rfl,F2.out.under⟩
  have HT0:=zh ht0
  have dt:(th != 0)=false:=by rw[bne_eq_false_iff_eq];exact ht0
  have dt' : (th==0)=true:=by rw[beq_iff_eq];exact ht0
  clear ht0
  have HE0:=zh (show R=PN by rw[HR2.out,Ub.out,decide_eq_true HL0.out,decide_eq_true HT0.out];rfl)
  clear Ub HR2
  by_cases hk:kd=4
  ·have hk4:(kd==4)=true:=by rw[beq_iff_eq];exact hk
   have hpn:=HPN.out
   rw[if_pos hk] at hpn
   have Uc:=zh hpn;clear hpn HPN
   have HK:=zh hk;clear hk
   go_upto_region 9 with fail
   go_wp2_with fail
   refine(HCN.out w2).mono ?_
   rintro e w3 ⟨rfl,rfl⟩
   cases hno:Own.EG nm with
   | false =>
     have HE:=zh (show R=false by rw[HE0.out,Uc.out,hno];rfl)
     clear hno
     go_wp2
     go_ret
     exact⟨by rw[HE.out];rfl,F2.out.under⟩
   | true =>
     have HE:=zh (show R=Sig.Bn pb by rw[HE0.out,Uc.out,hno];rfl)
     clear hno
     go_wp2_with fail
     refine(HCQ.out _).mono ?_
     rintro e w3 ⟨rfl,rfl⟩
     go_wp2
     go_ret
     exact⟨by rw[HE.out];rfl,F2.out.under⟩
  ·have hk4:(kd==4)=false:=by rw[beq_eq_false_iff_ne];exact hk
   have hpn:=HPN.out
   rw[if_neg hk] at hpn
   have Uc:=zh hpn;clear hpn HPN hk
   go_upto_region 8 with fail
   by_cases hn:nm=⟨#[]⟩
   case neg=>
    have q1:nm.toList.isEmpty=false:=by rw[Bool.eq_false_iff];exact fun h=>hn ((Own.Ef nm).1 h)
    have q2:(nm.toList==[])=false:=by rw[beq_eq_false_iff_ne];intro h;rw[h] at q1;cases q1
    have HE:=zh (show R=false by rw[HE0.out,Uc.out,decide_eq_false hn];rfl)
    clear hn
    go_wp2
    go_ret
    exact⟨by rw[HE.out];rfl,F2.out.under⟩
   have q1:nm.toList.isEmpty=true:=(Own.Ef nm).2 hn
   have q2:(nm.toList==[])=true:=by rw[List.isEmpty_iff.1 q1];rfl
   have HN:=zh hn;clear hn
   by_cases hp:pb=⟨#[]⟩
   case neg=>
    have q3:pb.toList.isEmpty=false:=by rw[Bool.eq_false_iff];exact fun h=>hp ((Own.Ef pb).1 h)
    have q4:(pb.toList==[])=false:=by rw[beq_eq_false_iff_ne];intro h;rw[h] at q3;cases q3
    have HE:=zh (show R=false by rw[HE0.out,Uc.out,decide_eq_false hp];simp)
    clear hp
    go_wp2
    go_ret
    exact⟨by rw[HE.out];rfl,F2.out.under⟩
   have q3:pb.toList.isEmpty=true:=(Own.Ef pb).2 hp
   have q4:(pb.toList==[])=true:=by rw[List.isEmpty_iff.1 q3];rfl
   have HE:=zh (show R=true by rw[HE0.out,Uc.out,decide_eq_true HN.out,decide_eq_true hp];rfl)
   clear hp
   go_wp2
   go_ret
   exact⟨by rw[HE.out];rfl,F2.out.under⟩
theorem tL (b:UInt8):bits BinOp.and IntKind.u8 (b.toNat:Int) 127=((b.toNat%128:Nat):Int):=by
 have h:∀ k:Fin 256,bits BinOp.and IntKind.u8 (k.val:Int) 127=((k.val%128:Nat):Int):=by decide +kernel
 exact h ⟨b.toNat,b.toNat_lt⟩
theorem bg (k:Nat):128^k=2^(7*k):=by rw[show(128:Nat)=2^7 by decide,<- Nat.pow_mul]
theorem pq (N k:Nat)(b:UInt8)(hN:N<128^k)(hk:k<=9)(h9:k=9->b.toNat<=1):
 bits .or .u64 (N:Int) (IntKind.u64.wrap (IntKind.u64.wrap (bits .and .u8 (b.toNat:Int) 127)*2^(7*k)))=((N+b.toNat%128*128^k:Nat):Int):=by
 have hP:b.toNat%128*128^k<18446744073709551616:=by
  by_cases h:k=9
  ·have:=h9 h
   subst h
   have h2:(128:Nat)^9=9223372036854775808:=by decide
   rw[h2]
   omega
  ·have h5:128^k<=128^8:=Nat.pow_le_pow_right (by omega) (by omega)
   have h6:(128:Nat)^8=72057594037927936:=by decide
   rw[h6] at h5
   have:=Nat.mul_le_mul (show b.toNat%128<=127 by omega) h5
   omega
 have hN2:N<18446744073709551616:=by
  have h5:128^k<=128^9:=Nat.pow_le_pow_right (by omega) hk
  have h6:(128:Nat)^9=9223372036854775808:=by decide
  omega
 have e1:(((b.toNat%128:Nat):Int)*2^(7*k))=((b.toNat%128*128^k:Nat):Int):=by
  rw[bg]
  push_cast
  rfl
 rw[tL,wraps_u64 ((b.toNat%128:Nat):Int) (by omega) (by omega),e1,wraps_u64 _ (by omega) (by omega)]
 rw[bits_join_low .u64 64 (by decide) (fun n h0 h1=>wraps_u64 n h0 h1) (7*k) (N:Int) _ (by omega) (by rw[bg] at hN;exact_mod_cast hN) (by omega) (by omega) (by
  rw[bg]
  push_cast
  exact Int.mul_emod_left _ _) (by omega)]
 omega
theorem mJ (x:UInt8)(l:List UInt8)(i:Nat):Cod.rdL (x::l) i=if i=9/\1<x.toNat then none else if x.toNat<128 then (if x.toNat=0/\i≠0 then none else some (x.toNat,1)) else match Cod.rdL l (i+1) with
 | some (v,c)=>some (x.toNat%128+128*v,c+1)
 | none=>none:=rfl
def YM (r:Option (Nat × Nat))(e:Ending):Prop:=match r with
 | some (v,b)=>e=.returned (.tuple #[.int .u64 v,.int .i64 b,.bool true])
 | none=>∃ n b:Int,e=.returned (.tuple #[.int .u64 n,.int .i64 b,.bool false])
def yJ (s:ByteArray)(a:Nat)(at_ n sh:Value):Prop:=
 ∃ k N : Nat,k ≤ 9 ∧ at_ = .int .i64 ((a + k : Nat) : Int) ∧ n = .int .u64 N ∧ sh = .int .i64 ((7 * k : Nat) : Int) ∧ N < 128 ^ k ∧ a + k ≤ s.size ∧
   Cod.rdL (s.data.toList.drop a) 0=match Cod.rdL (s.data.toList.drop (a+k)) k with
    | some (v,c)=>some (N+128^k*v,k+c)
    | none=>none
theorem bB (rb:Nat)(s:ByteArray)(a0 a:Nat)(e0:Int)(w:World)(h:At w rb 157 (rdV s a0 e0))(ha:a<=s.size)(hs:s.size<=140737488355328):
 Calls Tryz.prog 173 #[.pointer (some ⟨rb,0,none⟩),.int .i64 a] w fun e w' => YM (Cod.rdU s a) e/\w' = w:=by
 have k0:=h.cell 0
 simp only[rdV,List.getElem?_toArray,List.getElem?_cons_zero] at k0
 obtain⟨R,hR⟩:∃ R,R=YM (Cod.rdU s a):=⟨_,rfl⟩
 rw[<- hR]
 have HR:=zh hR;clear hR h
 go_enter Tryz.func173,Tryz.ntmps173
 go_wp2
 go_loopw [1,7,8] (fun at_ n sh wr=>yJ s a at_ n sh/\wr=w) (fun at_ _ _ _=>s.size-(intOf at_).toNat)
 case atStart=>
  refine⟨⟨0,0,by omega,rfl,rfl,rfl,by simp,by omega,?_⟩,rfl⟩
  rw[Nat.add_zero]
  cases Cod.rdL (s.data.toList.drop a) 0 with
  | none=>rfl
  | some x=>obtain⟨v,c⟩:=x;simp
 case round=>
  obtain⟨⟨k,N,hk,rfl,rfl,rfl,hN,hak,hrd⟩,rfl⟩:=hrel
  have HRD:=zh hrd;have HN:=zh hN;clear hrd hN
  by_cases hlt:a+k<s.size
  ·obtain⟨x,hx⟩:∃ x,s[a+k]=x:=⟨_,rfl⟩
   have hd:s.data.toList.drop (a+k)=x::s.data.toList.drop (a+k+1):=by
    rw[List.drop_eq_getElem_cons (by rw[Sha.Bo];exact hlt),<- hx]
    rfl
   have hr:=HRD.out
   rw[hd,mJ] at hr
   have HR2:=zh hr;clear hr hd HRD
   have dk:decide (((a+k:Nat):Int)<s.size)=true:=by simp;omega
   have d2:decide (((7*k:Nat):Int)<64)=true:=by simp;omega
   have hadd:((a:Int)+k+1)=((a+(k+1):Nat):Int):=by omega
   have yL:=zh hadd;clear hadd
   have hno:(k=9/\1<x.toNat)\/(x.toNat=0/\k≠0)->Cod.rdU s a=none:=by
    intro h
    have hr:=HR2.out
    unfold Cod.rdU
    rcases h with h|h
    ·rw[if_pos h] at hr
     rw[hr]
    ·by_cases h2:k=9/\1<x.toNat
     ·rw[if_pos h2] at hr
      rw[hr]
     ·rw[if_neg h2,if_pos (by omega),if_pos h] at hr
      rw[hr]
   have hyes:¬ (k=9/\1<x.toNat)->x.toNat<128->¬ (x.toNat=0/\k≠0)->Cod.rdU s a=some (N+x.toNat%128*128^k,a+(k+1)):=by
    intro h1 h2 h3
    have hr:=HR2.out
    rw[if_neg h1,if_pos h2,if_neg h3] at hr
    unfold Cod.rdU
    rw[hr,Nat.mod_eq_of_lt h2,Nat.mul_comm]
   have HNO:=zh hno;have zaE:=zh hyes;clear hno hyes
   by_cases hn:(k=9/\1<x.toNat)\/(x.toNat=0/\k≠0)
   ·have hfin : ∀ n b : Int,R (.returned (.tuple #[.int .u64 n,.int .i64 b,.bool false])) :=by
     intro n b
     rw[HR.out,HNO.out hn]
     exact⟨n,b,rfl⟩
    have HF:=zh hfin;clear hfin
    rcases hn with ⟨rfl,h1⟩|⟨h0,hk0⟩
    ·have h2:(1:Int)<x.toNat:=by omega
     go_wp2
     go_ret3
     exact⟨HF.out _ _,rfl⟩
    ·have e1:((7*(k:Int))==0)=false:=by simp;omega
     go_wp2_with fail
     all_goals
      go_ret3
      exact⟨HF.out _ _,rfl⟩
   ·have hn1:¬ (k=9/\1<x.toNat):=fun h=>hn (.inl h)
    have hn2:¬ (x.toNat=0/\k≠0):=fun h=>hn (.inr h)
    have hk9:k=9->x.toNat<=1:=fun h=>by
     rcases Nat.lt_or_ge 1 x.toNat with h1|h1
     ·exact absurd ⟨h,h1⟩ hn1
     ·exact h1
    have hor:=pq N k x HN.out hk hk9
    have HOR:=zh hor;have HK9:=zh hk9;have HN1:=zh hn1;have HN2:=zh hn2;clear hor hk9 hn hn1 hn2
    by_cases hb:x.toNat<128
    ·have hb2:(x.toNat:Int)<128:=by omega
     have hfin:R (.returned (.tuple #[.int .u64 ((N+x.toNat%128*128^k:Nat):Int),.int .i64 ((a:Int)+k+1),.bool true])):=by
      rw[HR.out,zaE.out HN1.out hb HN2.out,yL.out]
      rfl
     have HF:=zh hfin;clear hfin hb
     by_cases h0:x.toNat=0
     ·obtain rfl : k = 0 :=by
       rcases Nat.eq_zero_or_pos k with h|h
       ·exact h
       ·exact absurd ⟨h0,by omega⟩ HN2.out
      obtain rfl:N=0:=by have:=HN.out;simpa using this
      have hf:R (.returned (.tuple #[.int .u64 0,.int .i64 ((a:Int)+1),.bool true])):=by
       have h1:=HF.out
       rw[h0] at h1
       simpa using h1
      have hx2:s[a]=x:=by simpa using hx
      have HF2:=zh hf;clear hf hx
      have hz:bits BinOp.or IntKind.u64 0 (IntKind.u64.wrap (IntKind.u64.wrap (bits BinOp.and IntKind.u8 0 127)))=0:=by decide +kernel
      have HZ:=zh hz;clear hz
      go_wp2
      go_ret3
      refine⟨?_,rfl⟩
      rw[HZ.out]
      exact HF2.out
     ·by_cases h9:k=9
      ·subst h9
       have h1:(x.toNat:Int)<=1:=by have:=HK9.out rfl;omega
       have hor:=HOR.out
       rw[show(2:Int)^(7*9)=9223372036854775808 by decide] at hor
       have zaF:=zh hor;clear hor
       go_wp2
       go_ret3
       refine⟨?_,rfl⟩
       rw[zaF.out]
       exact HF.out
      ·have e9:¬ (7*(k:Int)=63):=by omega
       go_wp2
       go_ret3
       refine⟨?_,rfl⟩
       rw[HOR.out]
       exact HF.out
    ·have hb2:¬ ((x.toNat:Int)<128):=by omega
     have h9:k≠9:=fun h=>by have:=HK9.out h;omega
     have e9:¬ (7*(k:Int)=63):=by omega
     have hr:=HR2.out
     rw[if_neg HN1.out,if_neg hb] at hr
     have HR3:=zh hr;clear hr hb
     have hN2:N+x.toNat%128*128^k<128^(k+1):=by
      have h1:=HN.out
      have h2:=Nat.mul_le_mul_right (128^k) (show x.toNat%128<=127 by omega)
      rw[Nat.pow_succ]
      omega
     have hr2:Cod.rdL (s.data.toList.drop a) 0=match Cod.rdL (s.data.toList.drop (a+(k+1))) (k+1) with
      | some (v,c)=>some ((N+x.toNat%128*128^k)+128^(k+1)*v,(k+1)+c)
      | none=>none:=by
      rw[HR3.out,show a+(k+1)=a+k+1 by omega]
      cases Cod.rdL (s.data.toList.drop (a+k+1)) (k+1) with
      | none=>rfl
      | some y =>
        obtain⟨v,c⟩:=y
        show some _=some _
        congr 2
        ·rw[Nat.pow_succ,Nat.mul_add,Nat.mul_comm (128^k) (x.toNat%128),Nat.mul_assoc,Nat.add_assoc]
        ·omega
     have HN3:=zh hN2;have HR4:=zh hr2;clear hN2 hr2
     go_wp2_with fail
     rw[HOR.out]
     exact⟨⟨⟨k+1,N+x.toNat%128*128^k,by omega,by rw[yL.out],rfl,by congr 1<;>omega,HN3.out,by omega,HR4.out⟩,by first|rfl|trivial⟩,by simp[intOf];omega⟩
  ·have dk:decide (((a+k:Nat):Int)<s.size)=false:=by simp;omega
   have hd:s.data.toList.drop (a+k)=[]:=List.drop_eq_nil_of_le (by rw[Sha.Bo];omega)
   have hr:=HRD.out
   rw[hd] at hr
   have hfin:R (.returned (.tuple #[.int .u64 0,.int .i64 0,.bool false])):=by
    rw[HR.out]
    unfold Cod.rdU
    rw[hr]
    exact⟨0,0,rfl⟩
   have HF:=zh hfin;clear hfin hr hd
   go_wp2
   go_ret3
   exact⟨HF.out,rfl⟩
def Nn (r:Option (Nat × Nat))(e:Ending):Prop:=match r with
 | some (v,b)=>e=.returned (.tuple #[.int .i64 v,.int .i64 b,.bool true])
 | none=>∃ n b:Int,e=.returned (.tuple #[.int .i64 n,.int .i64 b,.bool false])
def YO (r:Option (ByteArray × Nat))(e:Ending):Prop:=match r with
 | some (x,b)=>e=.returned (.tuple #[.string x,.int .i64 b,.bool true])
 | none=>e=.returned (.tuple #[.string ⟨#[]⟩,.int .i64 0,.bool false])
theorem Jb (rb:Nat)(s:ByteArray)(a0 a:Nat)(e0:Int)(w:World)(h:At w rb 157 (rdV s a0 e0))(ha:a<=s.size)(hs:s.size<=140737488355328):
 Calls Tryz.prog 135 #[.pointer (some ⟨rb,0,none⟩),.int .i64 a] w fun e w' => Nn (Cod.rdN s a) e/\w' = w:=by
 obtain⟨R,hR⟩:∃ R,R=Nn (Cod.rdN s a):=⟨_,rfl⟩
 rw[<- hR]
 have HR:=zh hR;have H:=zh h;clear hR h
 go_enter Tryz.func135,Tryz.ntmps135
 go_wp2_with fail
 refine(bB rb s a0 a e0 _ H.out ha hs).mono ?_
 rintro e w1 ⟨hp,rfl⟩
 cases hr:Cod.rdU s a with
 | none =>
   rw[hr] at hp
   obtain⟨n,b,rfl⟩:=hp
   have hf:∀ n b:Int,R (.returned (.tuple #[.int .i64 n,.int .i64 b,.bool false])):=by
    intro n b
    rw[HR.out]
    unfold Cod.rdN
    rw[hr]
    exact⟨n,b,rfl⟩
   have HF:=zh hf;clear hf hr
   go_wp2
   go_ret3
   exact⟨HF.out _ _,rfl⟩
 | some y =>
   obtain⟨v,b⟩:=y
   rw[hr] at hp
   have hp' : e=.returned (.tuple #[.int .u64 v,.int .i64 b,.bool true]):=hp
   subst hp'
   clear hp
   have hv:=(Cod.Xo hr).2.2.2
   by_cases hlt:v<9223372036854775808
   ·have hf : R (.returned (.tuple #[.int .i64 v,.int .i64 b,.bool true])) :=by
     rw[HR.out]
     unfold Cod.rdN
     simp only[hr,if_pos hlt]
     rfl
    have HF:=zh hf;clear hf hr
    have hz:(v:Int)/9223372036854775808=0:=by omega
    go_wp2
    go_ret3
    exact⟨HF.out,rfl⟩
   ·have hf : ∀ n b : Int,R (.returned (.tuple #[.int .i64 n,.int .i64 b,.bool false])) :=by
     intro n b
     rw[HR.out]
     unfold Cod.rdN
     simp only[hr,if_neg hlt]
     exact⟨n,b,rfl⟩
    have HF:=zh hf;clear hf hr
    have hz:(v:Int)/9223372036854775808=1:=by omega
    go_wp2
    go_ret3
    exact⟨HF.out _ _,rfl⟩
theorem Sk (rb:Nat)(s:ByteArray)(a0 a:Nat)(e0:Int)(w:World)(h:At w rb 157 (rdV s a0 e0))(ha:a<=s.size)(hs:s.size<=140737488355328):
 Calls Tryz.prog 137 #[.pointer (some ⟨rb,0,none⟩),.int .i64 a] w fun e w' => YO (Cod.rdT s a) e/\w' = w:=by
 obtain⟨R,hR⟩:∃ R,R=YO (Cod.rdT s a):=⟨_,rfl⟩
 rw[<- hR]
 have k0:=h.cell 0
 simp only[rdV,List.getElem?_toArray,List.getElem?_cons_zero] at k0
 have HR:=zh hR;have H:=zh h;clear hR h
 go_enter Tryz.func137,Tryz.ntmps137
 go_wp2_with fail
 refine(Jb rb s a0 a e0 _ H.out ha hs).mono ?_
 rintro e w1 ⟨hp,rfl⟩
 cases hr:Cod.rdN s a with
 | none =>
   rw[hr] at hp
   obtain⟨n,b,rfl⟩:=hp
   have hf:R (.returned (.tuple #[.string ⟨#[]⟩,.int .i64 0,.bool false])):=by
    rw[HR.out]
    unfold Cod.rdT
    rw[hr]
    rfl
   have HF:=zh hf;clear hf hr
   go_wp2
   go_ret3
   exact⟨HF.out,rfl⟩
 | some y =>
   obtain⟨v,b⟩:=y
   rw[hr] at hp
   have hp' : e=.returned (.tuple #[.int .i64 v,.int .i64 b,.bool true]):=hp
   subst hp'
   clear hp
   obtain⟨g1,g2,_,g4⟩:=Cod.Fa hr
   by_cases hlt:v<=s.size-b
   ·have hf : R (.returned (.tuple #[.string (s.extract b (b + v)),.int .i64 ((b : Int) + v),.bool true])) :=by
     rw[HR.out]
     unfold Cod.rdT
     simp only[hr,if_pos hlt]
     show _=Ending.returned (.tuple #[.string (s.extract b (b+v)),.int .i64 ((b+v:Nat):Int),.bool true])
     rw[Int.natCast_add]
    have HF:=zh hf;clear hf hr
    have hz:¬ ((s.size:Int)-b<v):=by omega
    go_wp2
    go_ret3
    exact⟨HF.out,rfl⟩
   ·have hf : R (.returned (.tuple #[.string ⟨#[]⟩,.int .i64 0,.bool false])) :=by
     rw[HR.out]
     unfold Cod.rdT
     simp only[hr,if_neg hlt]
     rfl
    have HF:=zh hf;clear hf hr
    have hz:((s.size:Int)-b<v):=by omega
    go_wp2
    go_ret3
    exact⟨HF.out,rfl⟩
structure Av (rb:Nat) (w w' : World) (cs:Array Value):Prop where
 at_:At w' rb 157 cs
 fr:Fr (fun k=>k=rb) w w'
theorem Av.refl {rb:Nat}{w:World}{cs:Array Value}(h:At w rb 157 cs):Av rb w w cs:=⟨h,Fr.refl _ _⟩
def Eo (rb:Nat)(s:ByteArray)(a:Nat)(r:Option (Nat × Nat))(w:World)(e:Ending)(w' : World):Prop:=match r with
 | some (v,b)=>e=.returned (.int .i64 v)/\Av rb w w' (rdV s b 0)
 | none=>e=.returned (.int .i64 0)/\Av rb w w' (rdV s a 9)
def Np (rb:Nat)(s:ByteArray)(a:Nat)(r:Option (ByteArray × Nat))(w:World)(e:Ending)(w' : World):Prop:=match r with
 | some (x,b)=>e=.returned (.string x)/\Av rb w w' (rdV s b 0)
 | none=>e=.returned (.string ⟨#[]⟩)/\Av rb w w' (rdV s a 9)
theorem Av.set1 {rb:Nat}{w:World}{s:ByteArray}{a:Nat}{e:Int}(h:At w rb 157 (rdV s a e))(b:Nat):Av rb w (w.setCell ⟨rb,1,none⟩ (.int .i64 b)) (rdV s b e):=
 ⟨h.set 1 _,(Fr.refl (fun k=>k=rb) _).setCell (p:=⟨rb,1,none⟩) (.inl rfl) _⟩
theorem Av.set2 {rb:Nat}{w:World}{s:ByteArray}{a:Nat}{e:Int}(h:At w rb 157 (rdV s a e))(b:Int):Av rb w (w.setCell ⟨rb,2,none⟩ (.int .i64 b)) (rdV s a b):=
 ⟨h.set 2 _,(Fr.refl (fun k=>k=rb) _).setCell (p:=⟨rb,2,none⟩) (.inl rfl) _⟩
theorem WC (rb:Nat)(s:ByteArray)(a:Nat)(w:World)(h:At w rb 157 (rdV s a 0))(ha:a<=s.size)(hs:s.size<=140737488355328):
 Calls Tryz.prog 134 #[.pointer (some ⟨rb,0,none⟩),.func (.func 135) #[.pointer (some ⟨rb,0,none⟩)] #[]] w (Eo rb s a (Cod.rdN s a) w):=by
 obtain⟨R,hR⟩:∃ R,R=Eo rb s a (Cod.rdN s a) w:=⟨_,rfl⟩
 rw[<- hR]
 have k1:=h.cell 1;have k2:=h.cell 2;have z1:=h.free 1;have z2:=h.free 2
 simp only[rdV,List.getElem?_toArray,List.getElem?_cons_zero,List.getElem?_cons_succ] at k1 k2
 have HR:=zh hR;have H:=zh h;clear hR h
 go_enter Tryz.func134,Tryz.ntmps134
 go_wp2_with fail
 refine(Jb rb s a a 0 _ H.out ha hs).mono ?_
 rintro e w1 ⟨hp,rfl⟩
 cases hr:Cod.rdN s a with
 | none =>
   rw[hr] at hp
   obtain⟨n,b,rfl⟩:=hp
   have hf:R (.returned (.int .i64 0)) (w1.setCell ⟨rb,2,none⟩ (.int .i64 9)):=by
    rw[HR.out,hr]
    exact⟨rfl,Av.set2 H.out 9⟩
   have HF:=zh hf;clear hf hr
   go_wp2_with fail
   exact HF.out
 | some y =>
   obtain⟨v,b⟩:=y
   rw[hr] at hp
   have hp' : e=.returned (.tuple #[.int .i64 v,.int .i64 b,.bool true]):=hp
   subst hp'
   clear hp
   have hf:R (.returned (.int .i64 v)) (w1.setCell ⟨rb,1,none⟩ (.int .i64 b)):=by
    rw[HR.out,hr]
    exact⟨rfl,Av.set1 H.out b⟩
   have HF:=zh hf;clear hf hr
   go_wp2_with fail
   exact HF.out
theorem Oq (rb:Nat)(s:ByteArray)(a:Nat)(e:Int)(he:e≠0)(w:World)(h:At w rb 157 (rdV s a e)):
 Calls Tryz.prog 134 #[.pointer (some ⟨rb,0,none⟩),.func (.func 135) #[.pointer (some ⟨rb,0,none⟩)] #[]] w fun e w' => e=.returned (.int .i64 0)/\w' = w:=by
 have k2:=h.cell 2
 simp only[rdV,List.getElem?_toArray,List.getElem?_cons_zero,List.getElem?_cons_succ] at k2
 have he2:(e != 0)=true:=by simpa using he
 clear h
 go_enter Tryz.func134,Tryz.ntmps134
 go_wp2
 go_ret
 exact⟨rfl,rfl⟩
theorem WE (rb:Nat)(s:ByteArray)(a:Nat)(w:World)(h:At w rb 157 (rdV s a 0))(ha:a<=s.size)(hs:s.size<=140737488355328):
 Calls Tryz.prog 136 #[.pointer (some ⟨rb,0,none⟩),.func (.func 137) #[.pointer (some ⟨rb,0,none⟩)] #[]] w (Np rb s a (Cod.rdT s a) w):=by
 obtain⟨R,hR⟩:∃ R,R=Np rb s a (Cod.rdT s a) w:=⟨_,rfl⟩
 rw[<- hR]
 have k1:=h.cell 1;have k2:=h.cell 2;have z1:=h.free 1;have z2:=h.free 2
 simp only[rdV,List.getElem?_toArray,List.getElem?_cons_zero,List.getElem?_cons_succ] at k1 k2
 have HR:=zh hR;have H:=zh h;clear hR h
 go_enter Tryz.func136,Tryz.ntmps136
 go_wp2_with fail
 refine(Sk rb s a a 0 _ H.out ha hs).mono ?_
 rintro e w1 ⟨hp,rfl⟩
 cases hr:Cod.rdT s a with
 | none =>
   rw[hr] at hp
   obtain rfl:e=_:=hp
   have hf:R (.returned (.string ⟨#[]⟩)) (w1.setCell ⟨rb,2,none⟩ (.int .i64 9)):=by
    rw[HR.out,hr]
    exact⟨rfl,Av.set2 H.out 9⟩
   have HF:=zh hf;clear hf hr
   go_wp2_with fail
   exact HF.out
 | some y =>
   obtain⟨v,b⟩:=y
   rw[hr] at hp
   have hp' : e=.returned (.tuple #[.string v,.int .i64 b,.bool true]):=hp
   subst hp'
   clear hp
   have hf:R (.returned (.string v)) (w1.setCell ⟨rb,1,none⟩ (.int .i64 b)):=by
    rw[HR.out,hr]
    exact⟨rfl,Av.set1 H.out b⟩
   have HF:=zh hf;clear hf hr
   go_wp2_with fail
   exact HF.out
theorem Ot (rb:Nat)(s:ByteArray)(a:Nat)(e:Int)(he:e≠0)(w:World)(h:At w rb 157 (rdV s a e)):
 Calls Tryz.prog 136 #[.pointer (some ⟨rb,0,none⟩),.func (.func 137) #[.pointer (some ⟨rb,0,none⟩)] #[]] w fun e w' => e=.returned (.string ⟨#[]⟩)/\w' = w:=by
 have k2:=h.cell 2
 simp only[rdV,List.getElem?_toArray,List.getElem?_cons_zero,List.getElem?_cons_succ] at k2
 have he2:(e != 0)=true:=by simpa using he
 clear h
 go_enter Tryz.func136,Tryz.ntmps136
 go_wp2
 go_ret
 exact⟨rfl,rfl⟩
theorem bC (rb:Nat)(s:ByteArray)(a:Nat)(w:World)(h:At w rb 157 (rdV s a 0))(ha:a<=s.size)(hs:s.size<=140737488355328):
 Calls Tryz.prog 81 #[.pointer (some ⟨rb,0,none⟩)] w (Eo rb s a (Cod.rdN s a) w):=by
 obtain⟨R,hR⟩:∃ R,R=Eo rb s a (Cod.rdN s a) w:=⟨_,rfl⟩
 rw[<- hR]
 have HR:=zh hR;have H:=zh h;clear hR h
 go_enter Tryz.func81,Tryz.ntmps81
 go_wp2_with fail
 refine(WC rb s a _ H.out ha hs).mono ?_
 intro e w1 hp
 rw[<- HR.out] at hp
 have hv:∃ v,e=.returned v:=by
  rw[HR.out] at hp
  unfold Eo at hp
  split at hp
  ·exact⟨_,hp.1⟩
  ·exact⟨_,hp.1⟩
 obtain⟨v,rfl⟩:=hv
 have HP:=zh hp;clear hp
 go_wp2_with fail
 exact HP.out
theorem Sl (rb:Nat)(s:ByteArray)(a:Nat)(e:Int)(he:e≠0)(w:World)(h:At w rb 157 (rdV s a e)):
 Calls Tryz.prog 81 #[.pointer (some ⟨rb,0,none⟩)] w fun e w' => e=.returned (.int .i64 0)/\w' = w:=by
 have H:=zh h;clear h
 go_enter Tryz.func81,Tryz.ntmps81
 go_wp2_with fail
 refine(Oq rb s a e he _ H.out).mono ?_
 rintro e w1 ⟨rfl,rfl⟩
 go_wp2
 go_ret
 exact⟨rfl,rfl⟩
theorem bD (rb:Nat)(s:ByteArray)(a:Nat)(w:World)(h:At w rb 157 (rdV s a 0))(ha:a<=s.size)(hs:s.size<=140737488355328):
 Calls Tryz.prog 82 #[.pointer (some ⟨rb,0,none⟩)] w (Np rb s a (Cod.rdT s a) w):=by
 obtain⟨R,hR⟩:∃ R,R=Np rb s a (Cod.rdT s a) w:=⟨_,rfl⟩
 rw[<- hR]
 have HR:=zh hR;have H:=zh h;clear hR h
 go_enter Tryz.func82,Tryz.ntmps82
 go_wp2_with fail
 refine(WE rb s a _ H.out ha hs).mono ?_
 intro e w1 hp
 rw[<- HR.out] at hp
 have hv:∃ v,e=.returned v:=by
  rw[HR.out] at hp
  unfold Np at hp
  split at hp
  ·exact⟨_,hp.1⟩
  ·exact⟨_,hp.1⟩
 obtain⟨v,rfl⟩:=hv
 have HP:=zh hp;clear hp
 go_wp2_with fail
 exact HP.out
theorem Sm (rb:Nat)(s:ByteArray)(a:Nat)(e:Int)(he:e≠0)(w:World)(h:At w rb 157 (rdV s a e)):
 Calls Tryz.prog 82 #[.pointer (some ⟨rb,0,none⟩)] w fun e w' => e=.returned (.string ⟨#[]⟩)/\w' = w:=by
 have H:=zh h;clear h
 go_enter Tryz.func82,Tryz.ntmps82
 go_wp2_with fail
 refine(Ot rb s a e he _ H.out).mono ?_
 rintro e w1 ⟨rfl,rfl⟩
 go_wp2
 go_ret
 exact⟨rfl,rfl⟩
def rdC (s:ByteArray)(m:Int)(a:Nat):Option (Nat × Nat):=match Cod.rdN s a with
 | some (v,b)=>if (v:Int)<=m then some (v,b) else none
 | none=>none
theorem WG (rb b1 b2:Nat)(m:Int)(s:ByteArray)(a0 a:Nat)(e0:Int)(w:World)(h1:w.cell? ⟨b1,0,none⟩=some (.pointer (some ⟨rb,0,none⟩)))(h2:w.cell? ⟨b2,0,none⟩=some (.int .i64 m))(h:At w rb 157 (rdV s a0 e0))(ha:a<=s.size)(hs:s.size<=140737488355328):
 Calls Tryz.prog 138 #[.int .i64 a,.pointer (some ⟨b1,0,none⟩),.pointer (some ⟨b2,0,none⟩)] w fun e w' => Nn (rdC s m a) e/\w' = w.drew:=by
 obtain⟨R,hR⟩:∃ R,R=Nn (rdC s m a):=⟨_,rfl⟩
 rw[<- hR]
 have HR:=zh hR;have H:=zh h;clear hR h
 go_enter Tryz.func138,Tryz.ntmps138
 go_wp2_with fail
 refine(Jb rb s a0 a e0 _ H.out ha hs).mono ?_
 rintro e w1 ⟨hp,rfl⟩
 cases hr:Cod.rdN s a with
 | none =>
   rw[hr] at hp
   obtain⟨n,b,rfl⟩:=hp
   have hf:∀ n b:Int,R (.returned (.tuple #[.int .i64 n,.int .i64 b,.bool false])):=by
    intro n b
    rw[HR.out]
    unfold rdC
    rw[hr]
    exact⟨n,b,rfl⟩
   have HF:=zh hf;clear hf hr
   go_wp2
   refine Lex.zl ?_
   go_wp2
   refine Lex.ze ?_
   go_wp2
   go_ret3
   exact⟨HF.out _ _,rfl⟩
 | some y =>
   obtain⟨v,b⟩:=y
   rw[hr] at hp
   have hp' : e=.returned (.tuple #[.int .i64 v,.int .i64 b,.bool true]):=hp
   subst hp'
   clear hp
   have hv:=(Cod.Fa hr).2.2.2
   by_cases hlt:(v:Int)<=m
   ·have dlt:decide ((v:Int)<=m)=true:=by simpa using hlt
    have hf:R (.returned (.tuple #[.int .i64 v,.int .i64 b,.bool true])):=by
     rw[HR.out]
     unfold rdC
     simp only[hr,if_pos hlt]
     rfl
    have HF:=zh hf;clear hf hr
    go_wp2
    refine Lex.zl ?_
    go_wp2
    refine Lex.ze ?_
    go_wp2
    go_ret3
    exact⟨HF.out,rfl⟩
   ·have dlt:decide ((v:Int)<=m)=false:=by simpa using hlt
    have hf:∀ n b:Int,R (.returned (.tuple #[.int .i64 n,.int .i64 b,.bool false])):=by
     intro n b
     rw[HR.out]
     unfold rdC
     simp only[hr,if_neg hlt]
     exact⟨n,b,rfl⟩
    have HF:=zh hf;clear hf hr
    go_wp2
    refine Lex.zl ?_
    go_wp2
    refine Lex.ze ?_
    go_wp2
    go_ret3
    exact⟨HF.out _ _,rfl⟩
theorem Av.pre {rb:Nat}{w w1 w' : World}{cs:Array Value}(hf:Fr (fun k=>k=rb) w w1)(h:Av rb w1 w' cs):Av rb w w' cs:=⟨h.at_,hf.trans h.fr (fun _ hk=>.inl hk)⟩
theorem Ud (rb b1 b2:Nat)(m:Int)(s:ByteArray)(a:Nat)(w:World)(h1:w.cell? ⟨b1,0,none⟩=some (.pointer (some ⟨rb,0,none⟩)))(h2:w.cell? ⟨b2,0,none⟩=some (.int .i64 m))(h:At w rb 157 (rdV s a 0))(ha:a<=s.size)(hs:s.size<=140737488355328):
 Calls Tryz.prog 134 #[.pointer (some ⟨rb,0,none⟩),.func (.func 138) #[] #[.pointer (some ⟨b1,0,none⟩),.pointer (some ⟨b2,0,none⟩)]] w (Eo rb s a (rdC s m a) w):=by
 obtain⟨R,hR⟩:∃ R,R=Eo rb s a (rdC s m a) w:=⟨_,rfl⟩
 rw[<- hR]
 have k1:=h.cell 1;have k2:=h.cell 2;have z1:=h.free 1;have z2:=h.free 2
 simp only[rdV,List.getElem?_toArray,List.getElem?_cons_zero,List.getElem?_cons_succ] at k1 k2
 have HR:=zh hR;have H:=zh h;have H1:=zh h1;have H2:=zh h2;clear hR h h1 h2
 go_enter Tryz.func134,Tryz.ntmps134
 go_wp2_with fail
 refine(WG rb b1 b2 m s a a 0 _ H1.out H2.out H.out ha hs).mono ?_
 rintro e w1 ⟨hp,rfl⟩
 have hd:Fr (fun k=>k=rb) w w.drew:=(Fr.refl (fun k=>k=rb) w).drew
 cases hr:rdC s m a with
 | none =>
   rw[hr] at hp
   obtain⟨n,b,rfl⟩:=hp
   have hf:R (.returned (.int .i64 0)) (w.drew.setCell ⟨rb,2,none⟩ (.int .i64 9)):=by
    rw[HR.out,hr]
    exact⟨rfl,Av.pre hd (Av.set2 H.out.drew 9)⟩
   have HF:=zh hf;clear hf hr hd
   go_wp2_with fail
   exact HF.out
 | some y =>
   obtain⟨v,b⟩:=y
   rw[hr] at hp
   have hp' : e=.returned (.tuple #[.int .i64 v,.int .i64 b,.bool true]):=hp
   subst hp'
   clear hp
   have hf:R (.returned (.int .i64 v)) (w.drew.setCell ⟨rb,1,none⟩ (.int .i64 b)):=by
    rw[HR.out,hr]
    exact⟨rfl,Av.pre hd (Av.set1 H.out.drew b)⟩
   have HF:=zh hf;clear hf hr hd
   go_wp2_with fail
   exact HF.out
theorem iZ (fv:Value)(rb:Nat)(s:ByteArray)(a:Nat)(e:Int)(he:e≠0)(w:World)(h:At w rb 157 (rdV s a e)):
 Calls Tryz.prog 134 #[.pointer (some ⟨rb,0,none⟩),fv] w fun e w' => e=.returned (.int .i64 0)/\w' = w:=by
 have k2:=h.cell 2
 simp only[rdV,List.getElem?_toArray,List.getElem?_cons_zero,List.getElem?_cons_succ] at k2
 have he2:(e != 0)=true:=by simpa using he
 clear h
 go_enter Tryz.func134,Tryz.ntmps134
 go_wp2
 go_ret
 exact⟨rfl,rfl⟩
theorem YP (rb:Nat)(s:ByteArray)(a:Nat)(m:Int)(w:World)(h:At w rb 157 (rdV s a 0))(ha:a<=s.size)(hs:s.size<=140737488355328):
 Calls Tryz.prog 83 #[.pointer (some ⟨rb,0,none⟩),.int .i64 m] w (Eo rb s a (rdC s m a) w):=by
 obtain⟨R,hR⟩:∃ R,R=Eo rb s a (rdC s m a) w:=⟨_,rfl⟩
 rw[<- hR]
 have hlt:=h.lt
 have HR:=zh hR;have H:=zh h;clear hR h
 go_enter Tryz.func83,Tryz.ntmps83
 go_wp2_with fail
 have hfr:Fr (fun k=>k=rb) w ((w.alloc (.cells #[.pointer (some ⟨rb,0,none⟩)] 101)).alloc (.cells #[.int .i64 m] 3)):=((Fr.refl (fun k=>k=rb) w).alloc _).alloc _
 refine(Ud rb w.heap.size (w.heap.size+1) m s a _ (((At.new w _ _).alloc _).cell 0) ((At.new1 w _ _ _).cell 0) ((H.out.alloc _).alloc _) ha hs).mono ?_
 intro e w1 hp
 have hv:∃ v,e=.returned v:=by
  unfold Eo at hp
  split at hp
  ·exact⟨_,hp.1⟩
  ·exact⟨_,hp.1⟩
 have hq:R e w1:=by
  rw[HR.out]
  unfold Eo at hp ⊢
  split at hp
  ·exact⟨hp.1,Av.pre hfr hp.2⟩
  ·exact⟨hp.1,Av.pre hfr hp.2⟩
 obtain⟨v,rfl⟩:=hv
 have HP:=zh hq;clear hp hq hfr
 go_wp2_with fail
 exact HP.out
theorem YQ (rb:Nat)(s:ByteArray)(a:Nat)(m:Int)(e:Int)(he:e≠0)(w:World)(h:At w rb 157 (rdV s a e)):
 Calls Tryz.prog 83 #[.pointer (some ⟨rb,0,none⟩),.int .i64 m] w fun e w' => e=.returned (.int .i64 0)/\Below w.heap.size w w':=by
 have hlt:=h.lt
 have H:=zh h;clear h
 go_enter Tryz.func83,Tryz.ntmps83
 go_wp2_with fail
 refine(iZ _ rb s a e he _ ((H.out.alloc _).alloc _)).mono ?_
 rintro e w1 ⟨rfl,rfl⟩
 go_wp2
 go_ret
 exact⟨rfl,zb.alloc (by simp) _⟩
def DX (s:ByteArray)(a:Nat)(e:Int):Int:=if e=0/\a<s.size then 9 else e
theorem je (rb:Nat)(s:ByteArray)(a:Nat)(e:Int)(w:World)(h:At w rb 157 (rdV s a e)):
 Calls Tryz.prog 85 #[.pointer (some ⟨rb,0,none⟩)] w fun e' w' => e' = .returned (.int .i64 (DX s a e))/\w' = w.drew:=by
 have k0:=h.cell 0;have k1:=h.cell 1;have k2:=h.cell 2
 simp only[rdV,List.getElem?_toArray,List.getElem?_cons_zero,List.getElem?_cons_succ] at k0 k1 k2
 obtain⟨E,hE⟩:∃ E,E=DX s a e:=⟨_,rfl⟩
 rw[<- hE]
 have HE:=zh hE;clear hE h
 go_enter Tryz.func85,Tryz.ntmps85
 by_cases h0:e=0
 ·have d0:(e==0)=true:=by simpa using h0
  by_cases hl:a<s.size
  ·have d1:decide ((a:Int)<s.size)=true:=by simp;omega
   have hf:E=9:=by rw[HE.out];unfold DX;rw[if_pos ⟨h0,hl⟩]
   have HF:=zh hf;clear hf h0
   go_wp2
   refine Lex.zl ?_
   go_wp2
   refine Lex.ze ?_
   go_wp2
   go_ret
   exact⟨by rw[HF.out];rfl,rfl⟩
  ·have d1:decide ((a:Int)<s.size)=false:=by simp;omega
   have hf:E=e:=by rw[HE.out];unfold DX;rw[if_neg (fun h=>hl h.2)]
   have HF:=zh hf;clear hf h0
   go_wp2
   refine Lex.zl ?_
   go_wp2
   refine Lex.ze ?_
   go_wp2
   go_ret
   exact⟨by rw[HF.out];rfl,rfl⟩
 ·have d0:(e==0)=false:=by simpa using h0
  have hf:E=e:=by rw[HE.out];unfold DX;rw[if_neg (fun h=>h0 h.1)]
  have HF:=zh hf;clear hf h0
  go_wp2
  refine Lex.zl ?_
  go_wp2
  refine Lex.ze ?_
  go_wp2
  go_ret
  exact⟨by rw[HF.out];rfl,rfl⟩
def YS (w:World)(r:Option (List ByteArray × Nat))(e:Ending)(w' : World):Prop:=match r with
 | some (l,b)=>∃ v,e=.returned (.tuple #[v,.int .i64 b,.bool true])/\Al w' v l/\(∀ k,v.ownBlock=some k->w.heap.size<=k)/\(∃ a c,v=.slice (some a) l.length c/\l.length<=c)/\Below w.heap.size w w'
 | none=>e=.returned (.tuple #[.slice none 0 0,.int .i64 0,.bool false])/\Below w.heap.size w w'
def filled (n:Nat)(xs:List ByteArray):List Value:=(xs++List.replicate (n-xs.length) (⟨#[]⟩:ByteArray)).map Value.string
theorem bE (n:Nat)(xs:List ByteArray)(x:ByteArray)(h:xs.length<n):(filled n xs).set xs.length (.string x)=filled n (xs++[x]):=by
 unfold filled
 obtain⟨k,hk⟩:∃ k,n-xs.length=k+1:=⟨n-xs.length-1,by omega⟩
 rw[<- List.map_set,hk,List.length_append,List.length_singleton,show n-(xs.length+1)=k by omega,List.replicate_succ]
 congr 1
 rw[List.set_append_right _ _ (Nat.le_refl _),Nat.sub_self,List.set_cons_zero,List.append_assoc]
 rfl
theorem bF (n:Nat)(xs:List ByteArray)(h:xs.length=n):filled n xs=xs.map Value.string:=by
 unfold filled
 rw[h,Nat.sub_self]
 simp
def TsI (s:ByteArray)(w0:World)(n a:Nat)(at_ i:Value)(wr:World):Prop:=
 ∃ (k b : Nat) (xs : List ByteArray),k ≤ n ∧ xs.length = k ∧ i = .int .i64 k ∧ at_ = .int .i64 b ∧ b ≤ s.size ∧ wr.ownsRow w0.heap.size 9 1 (.slice (some ⟨w0.heap.size,0,none⟩) n n) n (filled n xs) ∧ Below w0.heap.size w0 wr ∧
   Cod.Kw s n a=match Cod.Kw s (n-k) b with
    | some (l,c)=>some (xs++l,c)
    | none=>none
theorem WH (rb b1:Nat)(s:ByteArray)(a0 a:Nat)(e0:Int)(w:World)(h1:w.cell? ⟨b1,0,none⟩=some (.pointer (some ⟨rb,0,none⟩)))(hb1:b1<w.heap.size)(h:At w rb 157 (rdV s a0 e0))(ha:a<=s.size)(hs:s.size<=1000000):
 Calls Tryz.prog 140 #[.int .i64 a,.pointer (some ⟨b1,0,none⟩)] w (YS w (Cod.Br s a)):=by
 obtain⟨R,hR⟩:∃ R,R=YS w (Cod.Br s a):=⟨_,rfl⟩
 rw[<- hR]
 have k0:=h.cell 0
 simp only[rdV,List.getElem?_toArray,List.getElem?_cons_zero] at k0
 have HR:=zh hR;have H:=zh h;clear hR h
 obtain⟨i0,hi,hz0,hz1,hz2⟩:=info_parts XJ
 go_enter Tryz.func140,Tryz.ntmps140
 go_wp2_with fail
 refine(Jb rb s a0 a e0 _ H.out ha (by omega)).mono ?_
 rintro e w1 ⟨hp,rfl⟩
 cases hr:Cod.rdN s a with
 | none =>
   rw[hr] at hp
   obtain⟨n,b,rfl⟩:=hp
   have hf:R (.returned (.tuple #[.slice none 0 0,.int .i64 0,.bool false])) w1:=by
    rw[HR.out]
    unfold Cod.Br
    rw[hr]
    exact⟨rfl,Below.refl _ _⟩
   have HF:=zh hf;clear hf hr
   go_wp2
   go_ret3
   exact HF.out
 | some y =>
   obtain⟨n,b⟩:=y
   rw[hr] at hp
   have hp' : e=.returned (.tuple #[.int .i64 n,.int .i64 b,.bool true]):=hp
   subst hp'
   clear hp
   obtain⟨g1,g2,_,g4⟩:=Cod.Fa hr
   by_cases hlt:n<=s.size-b
   ·have hz:¬ ((s.size:Int)-b<n):=by omega
    have hf:Cod.Br s a=Cod.Kw s n b:=by
     unfold Cod.Br
     simp only[hr,if_pos hlt]
    have HF:=zh hf;clear hf hr
    go_wp2_with (at_make;go_must (refine wpList_make_full _ rfl _ _ 68 rfl w1.heap.size 9 i0 (.string ⟨#[]⟩) 1 Tryz.underlying68 hi hz0 hz1 .i64 .i64 n n n rfl rfl rfl rfl (by rw[hz2];omega) (by unfold maxLen;omega) (Nat.le_refl _) ?_);intro w2 how hg)
    have hrow:(madeCells (Value.string ⟨#[]⟩).cells (n*1)).toList=filled n []:=by
     rw[Nat.mul_one]
     show(madeCells #[Value.string ⟨#[]⟩] n).toList=_
     rw[toList_madeCells_one]
     simp[filled]
    rw[hrow] at how
    have hb2:Below w1.heap.size w1 w2:=(Below.refl w1.heap.size w1).grown hg (Nat.le_refl _) (fun i hi=>by cases hi)
    have hlt1:=H.out.lt
    have hti:TsI s w1 n b (.int .i64 b) (.int .i64 0) w2:=⟨0,b,[],Nat.zero_le _,rfl,rfl,rfl,g2,how,hb2,by
     rw[Nat.sub_zero]
     cases Cod.Kw s n b with
     | none=>rfl
     | some y=>obtain⟨l,c⟩:=y;rfl⟩
    have HTI:=zh hti;clear hti how hg hb2 hrow k0
    go_wp2
    go_loopw [0,34] (fun at_ i wr=>TsI s w1 n b at_ i wr) (fun _ i _=>n-(intOf i).toNat)
    case atStart=>exact HTI.out
    case round=>
     obtain⟨k,b2,xs,hk,hxl,rfl,rfl,hb2,how,hbl,htr⟩:=hrel
     have HOW:=zh how;have HBL:=zh hbl;have HTR:=zh htr;have HXL:=zh hxl;clear how hbl htr hxl
     by_cases hkn:k<n
     ·have dk:decide ((k:Int)<n)=true:=by simp;omega
      obtain⟨M,hM⟩:∃ M,n-k=M+1:=⟨n-k-1,by omega⟩
      have htr:=HTR.out
      rw[hM,Cod.Kw] at htr
      have c1:wr.cell? ⟨b1,0,none⟩=some (.pointer (some ⟨rb,0,none⟩)):=(HBL.out.cell (p:=⟨b1,0,none⟩) hb1).trans h1
      have hat:=H.out.below HBL.out hlt1
      have hce:(wr.cell? ⟨w1.heap.size,k,none⟩).isSome=true:=by
       rw[HOW.out.cellAt k (by omega)]
       simp[filled,HXL.out]
       omega
      obtain⟨cv,hcv⟩:=Option.isSome_iff_exists.1 hce
      have hfz:wr.frozen? ⟨w1.heap.size,k,none⟩=false:=HOW.out.frozenAt k
      have HAT:=zh hat;have HM:=zh hM;clear hat hce hM
      go_wp2_with fail
      refine(Sk rb s a0 b2 e0 _ HAT.out hb2 (by omega)).mono ?_
      rintro e w3 ⟨hp,rfl⟩
      cases hr3:Cod.rdT s b2 with
      | none =>
        rw[hr3] at hp
        have hp' : e=.returned (.tuple #[.string ⟨#[]⟩,.int .i64 0,.bool false]):=hp
        subst hp'
        rw[hr3] at htr
        have hf2:R (.returned (.tuple #[.slice none 0 0,.int .i64 0,.bool false])) (w3.setCell ⟨w1.heap.size,k,none⟩ (.string ⟨#[]⟩)):=by
         rw[HR.out,HF.out,htr]
         exact⟨rfl,HBL.out.setCell (p:=⟨w1.heap.size,k,none⟩) (Nat.le_refl _) _⟩
        have HF2:=zh hf2;clear hf2 hr3 hp htr
        go_wp2
        go_ret3
        exact HF2.out
      | some y =>
        obtain⟨x,b3⟩:=y
        rw[hr3] at hp
        have hp' : e=.returned (.tuple #[.string x,.int .i64 b3,.bool true]):=hp
        subst hp'
        simp only[hr3] at htr
        have hb3:=(Cod.Mc hr3).2.1
        have hst:=(HOW.out.stored k (.string x)).1
        rw[<- HXL.out,bE n xs x (by rw[HXL.out];exact hkn),HXL.out] at hst
        have rA:TsI s w1 n b (.int .i64 b3) (.int .i64 ((k:Int)+1)) (w3.setCell ⟨w1.heap.size,k,none⟩ (.string x)):=by
         refine⟨k+1,b3,xs++[x],by omega,by rw[List.length_append,HXL.out];rfl,by go_num,rfl,hb3,hst,HBL.out.setCell (p:=⟨w1.heap.size,k,none⟩) (Nat.le_refl _) _,?_⟩
         rw[htr,show n-(k+1)=M by have:=HM.out;omega]
         cases Cod.Kw s M b3 with
         | none=>rfl
         | some z=>obtain⟨l,c⟩:=z;simp
        have zaG:=zh rA;clear rA hst hr3 hp htr
        go_wp2_with fail
        exact⟨zaG.out,by simp[intOf];omega⟩
     ·have dk:decide ((k:Int)<n)=false:=by simp;omega
      have hkn2:k=n:=by omega
      have htr:=HTR.out
      rw[hkn2,Nat.sub_self] at htr
      have hxn:xs.length=n:=by rw[HXL.out];exact hkn2
      have hf2:R (.returned (.tuple #[.slice (some ⟨w1.heap.size,0,none⟩) n n,.int .i64 b2,.bool true])) wr:=by
       rw[HR.out,HF.out,htr]
       simp only[Cod.Kw,List.append_nil]
       have how:=HOW.out
       rw[bF n xs hxn,<- hxn] at how
       refine⟨_,rfl,?_,fun i hi=>by simp[Value.ownBlock] at hi;omega,⟨_,n,by rw[hxn],by omega⟩,HBL.out⟩
       rw[<- hxn]
       exact Al.own how
      have HF2:=zh hf2;clear hf2 htr hkn2 hxn
      go_wp2
      go_ret3
      exact HF2.out
   ·have hz:((s.size:Int)-b<n):=by omega
    have hf:R (.returned (.tuple #[.slice none 0 0,.int .i64 0,.bool false])) w1:=by
     rw[HR.out]
     unfold Cod.Br
     simp only[hr,if_neg hlt]
     exact⟨rfl,Below.refl _ _⟩
    have HF:=zh hf;clear hf hr
    go_wp2
    go_ret3
    exact HF.out
def Gj (rb:Nat)(s:ByteArray)(a:Nat)(r:Option (List ByteArray × Nat))(w:World)(e:Ending)(w' : World):Prop:=match r with
 | some (l,b)=>∃ c d,e=.returned (.slice (some c) l.length d)/\(Al w' (.slice (some c) l.length d) l/\l.length<=d)/\(∀ k,(Value.slice (some c) l.length d).ownBlock=some k->w.heap.size<=k)/\Av rb w w' (rdV s b 0)
 | none=>e=.returned (.slice none 0 0)/\Av rb w w' (rdV s a 9)
theorem Ue (rb b1:Nat)(s:ByteArray)(a:Nat)(w:World)(h1:w.cell? ⟨b1,0,none⟩=some (.pointer (some ⟨rb,0,none⟩)))(hb1:b1<w.heap.size)(h:At w rb 157 (rdV s a 0))(ha:a<=s.size)(hs:s.size<=1000000):
 Calls Tryz.prog 139 #[.pointer (some ⟨rb,0,none⟩),.func (.func 140) #[] #[.pointer (some ⟨b1,0,none⟩)]] w (Gj rb s a (Cod.Br s a) w):=by
 obtain⟨R,hR⟩:∃ R,R=Gj rb s a (Cod.Br s a) w:=⟨_,rfl⟩
 rw[<- hR]
 have k1:=h.cell 1;have k2:=h.cell 2
 simp only[rdV,List.getElem?_toArray,List.getElem?_cons_zero,List.getElem?_cons_succ] at k1 k2
 have hlt:=h.lt
 have HR:=zh hR;have H:=zh h;have H1:=zh h1;clear hR h h1
 go_enter Tryz.func139,Tryz.ntmps139
 go_wp2_with fail
 refine(WH rb b1 s a a 0 _ H1.out hb1 H.out ha hs).mono ?_
 intro e w1 hp
 cases hr:Cod.Br s a with
 | none =>
   rw[hr] at hp
   obtain⟨rfl,hb⟩:=hp
   have hat:=H.out.below hb hlt
   have z2:=hat.free 2;have y2:=hat.cell 2
   simp only[rdV,List.getElem?_toArray,List.getElem?_cons_zero,List.getElem?_cons_succ] at y2
   have hf:R (.returned (.slice none 0 0)) (w1.setCell ⟨rb,2,none⟩ (.int .i64 9)):=by
    rw[HR.out,hr]
    exact⟨rfl,Av.pre (Fr.of_below hb) (Av.set2 hat 9)⟩
   have HF:=zh hf;clear hf hr hat hb
   go_wp2_with fail
   exact HF.out
 | some y =>
   obtain⟨l,b⟩:=y
   rw[hr] at hp
   obtain⟨v,rfl,hv,hfr,⟨c,d,rfl,hcd⟩,hb⟩:=hp
   have hat:=H.out.below hb hlt
   have z1:=hat.free 1;have y1:=hat.cell 1
   simp only[rdV,List.getElem?_toArray,List.getElem?_cons_zero,List.getElem?_cons_succ] at y1
   have hf:R (.returned (.slice (some c) l.length d)) (w1.setCell ⟨rb,1,none⟩ (.int .i64 b)):=by
    rw[HR.out,hr]
    exact⟨c,d,rfl,⟨hv.keep (fun k hk _=>zo (by have:=hfr k hk;show k≠rb;omega)),hcd⟩,hfr,Av.pre (Fr.of_below hb) (Av.set1 hat b)⟩
   have HF:=zh hf;clear hf hr hat hb hv hfr
   go_wp2_with fail
   exact HF.out
theorem jf (fv:Value)(rb:Nat)(s:ByteArray)(a:Nat)(e:Int)(he:e≠0)(w:World)(h:At w rb 157 (rdV s a e)):
 Calls Tryz.prog 139 #[.pointer (some ⟨rb,0,none⟩),fv] w fun e w' => e=.returned (.slice none 0 0)/\w' = w:=by
 have k2:=h.cell 2
 simp only[rdV,List.getElem?_toArray,List.getElem?_cons_zero,List.getElem?_cons_succ] at k2
 have he2:(e != 0)=true:=by simpa using he
 clear h
 go_enter Tryz.func139,Tryz.ntmps139
 go_wp2
 go_ret
 exact⟨rfl,rfl⟩
theorem YT (rb:Nat)(s:ByteArray)(a:Nat)(w:World)(h:At w rb 157 (rdV s a 0))(ha:a<=s.size)(hs:s.size<=1000000):
 Calls Tryz.prog 84 #[.pointer (some ⟨rb,0,none⟩)] w (Gj rb s a (Cod.Br s a) w):=by
 obtain⟨R,hR⟩:∃ R,R=Gj rb s a (Cod.Br s a) w:=⟨_,rfl⟩
 rw[<- hR]
 have hlt:=h.lt
 have HR:=zh hR;have H:=zh h;clear hR h
 go_enter Tryz.func84,Tryz.ntmps84
 go_wp2_with fail
 have hfr:Fr (fun k=>k=rb) w (w.alloc (.cells #[.pointer (some ⟨rb,0,none⟩)] 101)):=(Fr.refl (fun k=>k=rb) w).alloc _
 refine(Ue rb w.heap.size s a _ ((At.new w _ _).cell 0) (by simp) (H.out.alloc _) ha hs).mono ?_
 intro e w1 hp
 have hv:∃ v,e=.returned v:=by
  unfold Gj at hp
  split at hp
  ·obtain⟨c,d,rfl,_⟩:=hp;exact⟨_,rfl⟩
  ·exact⟨_,hp.1⟩
 have hq:R e w1:=by
  rw[HR.out]
  unfold Gj at hp ⊢
  split at hp
  ·obtain⟨c,d,h1,h2,h3,h4⟩:=hp
   exact⟨c,d,h1,h2,fun k hk=>by have:=h3 k hk;simp at this;omega,Av.pre hfr h4⟩
  ·exact⟨hp.1,Av.pre hfr hp.2⟩
 obtain⟨v,rfl⟩:=hv
 have HP:=zh hq;clear hp hq hfr
 go_wp2_with fail
 exact HP.out
theorem YU (rb:Nat)(s:ByteArray)(a:Nat)(e:Int)(he:e≠0)(w:World)(h:At w rb 157 (rdV s a e)):
 Calls Tryz.prog 84 #[.pointer (some ⟨rb,0,none⟩)] w fun e w' => e=.returned (.slice none 0 0)/\Below w.heap.size w w':=by
 have H:=zh h;clear h
 go_enter Tryz.func84,Tryz.ntmps84
 go_wp2_with fail
 refine(jf _ rb s a e he _ (H.out.alloc _)).mono ?_
 rintro e w1 ⟨rfl,rfl⟩
 go_wp2
 go_ret
 exact⟨rfl,zb⟩
theorem Ou (s:ByteArray):s++⟨#[]⟩=s:=by
 apply Sha.BG
 rw[Sha.Bq]
 simp
theorem WJ (s:ByteArray):(⟨#[]⟩:ByteArray)++s=s:=by
 apply Sha.BG
 rw[Sha.Bq]
 simp
theorem mK (xs:List ByteArray)(k:Nat)(h:k<xs.length):Cod.cat ((xs.take (k+1)).map Cod.text)=Cod.cat ((xs.take k).map Cod.text)++Cod.text xs[k]:=by
 induction xs generalizing k with
 | nil=>cases h
 | cons x l ih =>
   match k with
   | 0 =>
     show Cod.text x++Cod.cat []=(⟨#[]⟩:ByteArray)++Cod.text x
     rw[WJ]
     exact Ou _
   | k + 1 =>
     have h2:k<l.length:=by simpa using h
     show Cod.text x++Cod.cat ((l.take (k+1)).map Cod.text)=(Cod.text x++Cod.cat ((l.take k).map Cod.text))++Cod.text l[k]
     rw[ih k h2,ByteArray.append_assoc]
theorem mM (xs:List ByteArray)(k:Nat):(Cod.cat ((xs.take k).map Cod.text)).size<=(Cod.cat (xs.map Cod.text)).size:=by
 induction xs generalizing k with
 | nil=>simp
 | cons x l ih =>
   match k with
   | 0=>exact Nat.zero_le _
   | k + 1 =>
     show(Cod.text x++Cod.cat ((l.take k).map Cod.text)).size<=(Cod.text x++Cod.cat (l.map Cod.text)).size
     rw[Sha.Ag,Sha.Ag]
     have:=ih k
     omega
theorem YV (b:Nat)(X s:ByteArray)(w:World)(h:BK w b X)(hl:X.size+s.size<=140737488355328):
 Calls Tryz.prog 172 #[.string s,.pointer (some ⟨b,0,none⟩)] w fun e w' => e=.returned (.tuple #[])/\BK w' b (X++s)/\Below b w w':=by
 have H:=zh h;clear h
 go_enter Tryz.func172,Tryz.ntmps172
 go_wp2_with fail
 refine(kY b X s _ H.out hl).mono ?_
 rintro e w1 ⟨rfl,h1,hb1⟩
 have H1:=zh h1;have HB1:=zh hb1;clear h1 hb1
 go_wp2
 go_end0
 exact⟨rfl,H1.out,HB1.out⟩
theorem jg (w0:World)(b:Nat)(X:ByteArray)(v:Value)(xs:List ByteArray)(w:World)(h:BK w b X)(hb:Below b w0 w)(hw0:b=w0.heap.size)(hv:Al w0 v xs)(hx:∀ x∈xs,x.size<=140737488350000)(hl:xs.length<=140737488350000)(ht:X.size+(Cod.cat (xs.map Cod.text)).size<=140737488355328):
 Calls Tryz.prog 171 #[v,.func (.func 77) #[] #[],.func (.func 172) #[] #[.pointer (some ⟨b,0,none⟩)]] w fun e w' => e=.returned (.tuple #[])/\BK w' b (X++Cod.cat (xs.map Cod.text))/\Below b w0 w':=by
 obtain⟨a,c,rfl,hc⟩:=hv
 have H:=zh h;have HB:=zh hb;have HX:=zh hx;have HC:=zh hc;have HW0:=zh hw0;clear h hb hx hc hw0
 go_enter Tryz.func171,Tryz.ntmps171
 go_wp2
 go_loopw [10] (fun i wr=>∃ k:Nat,k<=xs.length/\i=.int .i64 k/\BK wr b (X++Cod.cat ((xs.take k).map Cod.text))/\Below b w0 wr) (fun i _=>xs.length-(intOf i).toNat)
 case atStart=>exact⟨0,by omega,rfl,by rw[List.take_zero];show BK _ _ (X++⟨#[]⟩);rw[Ou];exact H.out,HB.out⟩
 case round=>
  obtain⟨k,hk,rfl,hbl,hbw⟩:=hrel
  have HBL:=zh hbl;have HBW:=zh hbw;clear hbl hbw
  by_cases hlt:k<xs.length
  ·have dk:decide ((k:Int)<xs.length)=true:=by simp;omega
   obtain⟨g,o,rfl,hc⟩:=HC.out.resolve_left (by omega)
   have ce:=hc k hlt
   have hgl:=block_lt ce
   have ce2:=(HBW.out.cell (p:=⟨g,o+k,none⟩) (by rw[HW0.out];exact hgl)).trans ce
   obtain⟨s,hs⟩:∃ s,s=xs.getD k ⟨#[]⟩:=⟨_,rfl⟩
   rw[<- hs] at ce2
   have hsx:s=xs[k]:=by rw[hs];simp[List.getD_eq_getElem?_getD,hlt]
   have hsz:s.size<=140737488350000:=HX.out s (by rw[hsx];exact List.getElem_mem hlt)
   obtain⟨Y,hY⟩:∃ Y,Y=X++Cod.cat ((xs.take k).map Cod.text):=⟨_,rfl⟩
   have hY2:Y++Cod.text s=X++Cod.cat ((xs.take (k+1)).map Cod.text):=by rw[mK xs k hlt,hY,hsx,ByteArray.append_assoc]
   have hYs:Y.size+(Cod.text s).size<=140737488355328:=by
    rw[<- Sha.Ag,hY2,Sha.Ag]
    have:=mM xs (k+1)
    omega
   have hbl:=HBL.out
   rw[<- hY] at hbl
   have HBY:=zh hbl;have HY2:=zh hY2;have HYS:=zh hYs;have HCC:=zh hc;clear hbl hY hY2 hYs hs hsx ce hc
   go_wp2_with fail
   refine(ED s _ hsz).mono ?_
   rintro e w2 ⟨rfl,hb2⟩
   have HB2:=zh hb2;have zaH:=zh (HBY.out.below hb2);clear hb2
   generalize Cod.text s=t at*
   go_wp2_with fail
   refine(YV b Y t _ zaH.out HYS.out).mono ?_
   rintro e w3 ⟨rfl,h3,hb3⟩
   have hfin:Below b w0 w3:=(HBW.out.trans (HB2.out.mono (Nat.le_of_lt HBY.out.lt))).trans hb3
   rw[HY2.out] at h3
   have HF:=zh hfin;have H3:=zh h3;clear hfin h3 hb3
   go_wp2
   exact⟨⟨k+1,by omega,by go_num,H3.out,HF.out⟩,by simp[intOf];omega⟩
  ·have dk:decide ((k:Int)<xs.length)=false:=by simp;omega
   have hbl:=HBL.out
   rw[List.take_of_length_le (by omega)] at hbl
   have HBY:=zh hbl;clear hbl
   go_wp2
   go_end0
   exact⟨rfl,HBY.out,HBW.out⟩
theorem Sn (v:Value)(xs:List ByteArray)(w:World)(hv:Al w v xs)(hx:∀ x∈xs,x.size<=140737488350000)(hl:xs.length<=140737488350000)(ht:(Cod.texts xs).size<=140737488355328):
 Calls Tryz.prog 128 #[v] w fun e w' => e=.returned (.string (Cod.texts xs))/\Below w.heap.size w w':=by
 obtain⟨a,c,rfl⟩:=hv.len
 have HV:=zh hv;have HX:=zh hx;have HT:=zh ht;clear hv hx ht
 have hts:Cod.texts xs=Cod.uns xs.length++Cod.cat (xs.map Cod.text):=rfl
 have HTS:=zh hts;clear hts
 generalize Cod.texts xs=T at*
 go_enter Tryz.func128,Tryz.ntmps128
 go_wp2_with fail
 refine(zbN xs.length _ (by omega)).mono ?_
 rintro e w1 ⟨rfl,hb1⟩
 have hbl:BK w1 w.heap.size ⟨#[]⟩:=(BK.new w).below hb1
 have hbw:Below w.heap.size w w1:=zb.trans (hb1.mono (by simp))
 have hu:=Cod.Ce xs.length
 have HBL:=zh hbl;have HBW:=zh hbw;clear hbl hbw hb1
 obtain⟨u,hu2⟩:∃ u,u=Cod.uns xs.length:=⟨_,rfl⟩
 rw[<- hu2] at hu HTS ⊢
 clear hu2
 go_wp2_with fail
 refine(kY w.heap.size ⟨#[]⟩ u _ HBL.out (by show 0+u.size<=_;omega)).mono ?_
 rintro e w2 ⟨rfl,h2,hb2⟩
 rw[WJ] at h2
 have H2:=zh h2;have gL:=zh (HBW.out.trans hb2);clear h2 hb2
 go_wp2_with fail
 refine(jg w w.heap.size u (.slice a xs.length c) xs w2 H2.out gL.out rfl HV.out HX.out hl (by have:=HT.out;rw[HTS.out,Sha.Ag] at this;exact this)).mono ?_
 rintro e w3 ⟨rfl,h3,hb3⟩
 rw[<- HTS.out] at h3
 have H3:=zh h3;have HB3:=zh hb3;clear h3 hb3
 go_wp2_with fail
 refine(vL w.heap.size T _ H3.out).mono ?_
 rintro e w4 ⟨rfl,h4,hb4⟩
 have HB4:=zh (HB3.out.trans hb4);clear h4 hb4
 go_wp2
 go_ret
 exact⟨rfl,HB4.out⟩
theorem Ep (n:Nat)(w:World)(hn:n<9223372036854775808):
 Calls Tryz.prog 64 #[.int .i64 n] w fun e w' => e=.returned (.string (Cod.uns n))/\Below w.heap.size w w':=by
 go_enter Tryz.func64,Tryz.ntmps64
 go_wp2_with fail
 refine(Ux n _ hn).mono ?_
 rintro e w1 ⟨rfl,hb1⟩
 have HB:=zh hb1;clear hb1
 go_wp2
 go_ret
 exact⟨rfl,HB.out⟩
theorem J6 (n:Nat)(w:World)(hn:n<9223372036854775808):
 Calls Tryz.prog 66 #[.int .i64 n] w fun e w' => e=.returned (.string (Cod.uns n))/\Below w.heap.size w w':=by
 go_enter Tryz.func66,Tryz.ntmps66
 go_wp2_with fail
 refine(XK n _ hn).mono ?_
 rintro e w1 ⟨rfl,hb1⟩
 have HB:=zh hb1;clear hb1
 go_wp2
 go_ret
 exact⟨rfl,HB.out⟩
namespace Own
theorem Gy (l:List ByteArray)(x:ByteArray):Cod.cat (l++[x])=Cod.cat l++x:=by
 induction l with
 | nil=>show x++⟨#[]⟩=⟨#[]⟩++x;rw[Ou,WJ]
 | cons y l ih=>show y++Cod.cat (l++[x])=(y++Cod.cat l)++x;rw[ih,ByteArray.append_assoc]
theorem YW (ms:List Member)(k:Nat)(hk:k<ms.length):Cod.cat ((ms.take (k+1)).map AV)=Cod.cat ((ms.take k).map AV)++(Cod.text ms[k].name++Cod.text ms[k].pub):=by
 rw[List.take_succ_eq_append_getElem hk,List.map_append,List.map_cons,List.map_nil,Gy]
 rfl
theorem Cr (s:ByteArray):(Cod.text s).size<=10+s.size:=by
 have:=Cod.Ce s.size
 unfold Cod.text
 rw[Sha.Ag]
 omega
theorem bG (ms:List Member)(h:∀ m∈ms,m.name.size<=32/\m.pub.size=33):∀ k,(Cod.cat ((ms.take k).map AV)).size<=85*k
 | 0=>by rw[List.take_zero];exact Nat.le_refl _
 | k + 1 => by
   have ih:=bG ms h k
   by_cases hk:k<ms.length
   ·have h1:=h ms[k] (List.getElem_mem hk)
    have h2:=Cr ms[k].name
    have h3:=Cr ms[k].pub
    rw[YW ms k hk,Sha.Ag,Sha.Ag]
    omega
   ·rw[List.take_of_length_le (by omega)] at ih ⊢
    omega
end Own
theorem Pw (op:Own.Op)(mv av:Value)(w:World)(hm:Own.Af w mv op.members)(ha:∃ a c,av=.slice a op.Aa.length c)(hz:Own.KD op):
 Calls Tryz.prog 65 #[Own.opV op mv av] w fun e w' => e=.returned (.string (Own.CW op))/\Below w.heap.size w w':=by
 obtain⟨R,hR⟩:∃ R,R=Own.CW op:=⟨_,rfl⟩
 rw[<- hR]
 unfold Own.CW at hR
 unfold Own.opV
 obtain⟨aa,ac,rfl⟩:=ha
 obtain⟨kd,pre,ms,th,nm,pb,aps⟩:=op
 obtain⟨k0,k4,hpre,hal,hml,hms,t0,t8,hnm,hpb⟩:=hz
 dsimp only at*
 obtain⟨kn,rfl⟩:∃ k:Nat,kd=k:=⟨kd.toNat,by omega⟩
 obtain⟨tn,rfl⟩:∃ t:Nat,th=t:=⟨th.toNat,by omega⟩
 simp only[Int.toNat_natCast] at hR
 obtain⟨ma,mc,rfl⟩:=hm.len
 have hcz:=Own.bG ms hms
 have F1:=zh (show Au w _ [(29,#[.int .i64 (kn:Int),.string pre,.slice ma ms.length mc,.int .i64 (tn:Int),.string nm,.string pb,.slice aa aps.length ac])] from((CY.nil w).push 29 #[.int .i64 (kn:Int),.string pre,.slice ma ms.length mc,.int .i64 (tn:Int),.string nm,.string pb,.slice aa aps.length ac]).boxes)
 have HM:=zh hm;have HR:=zh hR;have HMS:=zh hms;have HCZ:=zh hcz
 clear hm hR hms hcz
 go_enter Tryz.func65,Tryz.ntmps65
 go_upto_region 2 with fail
 obtain⟨b,hb⟩:∃ b,b=w.heap.size+1:=⟨_,rfl⟩
 rw[<- hb]
 have yM:BK ((w.alloc (.cells #[.int .i64 (kn:Int),.string pre,.slice ma ms.length mc,.int .i64 (tn:Int),.string nm,.string pb,.slice aa aps.length ac] 29)).alloc (.cells #[.pointer none,.slice none 0 0] 142)) b ⟨#[]⟩:=by
  have h:=BK.new (w.alloc (.cells #[.int .i64 (kn:Int),.string pre,.slice ma ms.length mc,.int .i64 (tn:Int),.string nm,.string pb,.slice aa aps.length ac] 29))
  have e:(w.alloc (.cells #[.int .i64 (kn:Int),.string pre,.slice ma ms.length mc,.int .i64 (tn:Int),.string nm,.string pb,.slice aa aps.length ac] 29)).heap.size=b:=by rw[hb];simp
  rwa [e] at h
 have F2:=zh (F1.out.step ((Below.refl _ _).alloc (Nat.le_refl _) (.cells #[.pointer none,.slice none 0 0] 142)))
 have HBL:=zh yM;clear yM F1
 generalize (w.alloc (.cells #[.int .i64 (kn:Int),.string pre,.slice ma ms.length mc,.int .i64 (tn:Int),.string nm,.string pb,.slice aa aps.length ac] 29)).alloc (.cells #[.pointer none,.slice none 0 0] 142)=w1 at*
 have HBE:=zh hb;clear hb
 obtain⟨x00,x01,x02,x03,x04,x05,x06⟩:=F2.out.JI rfl
 have hlt:w.heap.size<w1.heap.size:=F2.out.lt (i:=0) (by show 0<1;omega)
 have X1:=zh (zi x01)
 have X2:=zh (zi x02)
 go_wp2
 refine Lex.zn (fun i=>i=w.heap.size) [4,8] 11 [3,3,5] ?_
 simp only[Lex.Bp,zd]
 go_wp2_with fail
 refine(Ep kn _ (by omega)).mono ?_
 rintro e w2 ⟨rfl,hb2⟩
 have B12:=zh (show Below w1.heap.size w1 w2 from(Below.refl w1.heap.size w1).drew.trans hb2)
 have F3:=zh (F2.out.step B12.out);clear hb2
 (try clear x00 x01 x02 x03 x04 x05 x06)
 obtain⟨x00,x01,x02,x03,x04,x05,x06⟩:=F3.out.JI rfl
 obtain⟨U,hU⟩:∃ U,U=Cod.uns kn:=⟨_,rfl⟩
 rw[<- hU]
 have zU:U.size<=10:=by rw[hU];exact Cod.Ce kn
 have HU:=zh hU;clear hU
 go_wp2
 refine Lex.Mid.intro (fun i hi hl=>by subst hi;exact B12.out.block _ hl) ?_
 go_wp2_with fail
 refine(ED pre _ (by omega)).mono ?_
 rintro e w3 ⟨rfl,hb3⟩
 have B13:=zh (B12.out.trans (hb3.mono B12.out.size))
 have F4:=zh (F2.out.step B13.out);clear hb3
 (try clear x00 x01 x02 x03 x04 x05 x06)
 obtain⟨x00,x01,x02,x03,x04,x05,x06⟩:=F4.out.JI rfl
 obtain⟨T,hT⟩:∃ T,T=Cod.text pre:=⟨_,rfl⟩
 rw[<- hT]
 have zT:T.size<=74:=by rw[hT];have:=Own.Cr pre;omega
 have HT:=zh hT;clear hT
 go_wp2
 refine Lex.Mid.intro (fun i hi hl=>by subst hi;exact B13.out.block _ hl) ?_
 go_wp2_with fail
 refine(Ep ms.length _ (by omega)).mono ?_
 rintro e w4 ⟨rfl,hb4⟩
 have B14:=zh (B13.out.trans (hb4.mono B13.out.size))
 have F5:=zh (F2.out.step B14.out);clear hb4
 (try clear x00 x01 x02 x03 x04 x05 x06)
 obtain⟨x00,x01,x02,x03,x04,x05,x06⟩:=F5.out.JI rfl
 obtain⟨V,hV⟩:∃ V,V=Cod.uns ms.length:=⟨_,rfl⟩
 rw[<- hV]
 have zV:V.size<=10:=by rw[hV];exact Cod.Ce _
 have HV:=zh hV;clear hV
 have pE:=zh (HBL.out.below B14.out)
 go_wp2
 refine Lex.Mid.intro (fun i hi hl=>by subst hi;exact B14.out.block _ hl) ?_
 obtain⟨X,hX⟩:∃ X,X=U++T++V:=⟨_,rfl⟩
 have zX:X.size<=94:=by rw[hX,Sha.Ag,Sha.Ag];omega
 have hwr:∀ W,BK W b ⟨#[]⟩->Calls Tryz.prog 118 #[.pointer (some ⟨b,0,none⟩),.string (U++T++V)] W fun e w' => e=.returned (.tuple #[.int .i64 X.size,.nilIface])/\BK w' b X/\Below b W w':=fun W hW=>by
  have:=kY b ⟨#[]⟩ X W hW (by show 0+X.size<=_;omega)
  rw[WJ] at this
  rw[<- hX]
  exact this
 have HWR:=zh hwr;have HX:=zh hX
 clear hwr hX
 go_wp2_with fail
 refine(HWR.out _ pE.out).mono ?_
 rintro e w5 ⟨rfl,yN,hb5⟩
 have F6:=zh (F5.out.over (show Below (w.heap.size+1) _ w5 by rw[<- HBE.out];exact hb5))
 have yO:=zh yN
 clear yN hb5 pE HWR HBL B12 B13 B14 F2 F3 F4 F5
 (try clear x00 x01 x02 x03 x04 x05 x06)
 obtain⟨x00,x01,x02,x03,x04,x05,x06⟩:=F6.out.JI rfl
 go_wp2
 refine Lex.zk ⟨⟨rfl,X1.out⟩,⟨rfl,X2.out⟩,trivial⟩ ?_
 clear X1 X2 hlt
 go_wp2_with fail
 (try clear x00 x01 x02 x03 x04 x05 x06)
 go_loopw [22] (fun i wr=>∃ k:Nat,k<=ms.length/\i=.int .i64 k/\Au w wr [(29,#[.int .i64 (kn:Int),.string pre,.slice ma ms.length mc,.int .i64 (tn:Int),.string nm,.string pb,.slice aa aps.length ac])]/\BK wr b (X++Cod.cat ((ms.take k).map Own.AV))) (fun i _=>ms.length-(intOf i).toNat)
 case atStart=>exact⟨0,by omega,rfl,F6.out,by rw[List.take_zero];show BK _ _ (X++⟨#[]⟩);rw[Ou];exact yO.out⟩
 case round=>
  obtain⟨k,hk,rfl,hbx,hbl⟩:=hrel
  obtain⟨Y,hY⟩:∃ Y,Y=X++Cod.cat ((ms.take k).map Own.AV):=⟨_,rfl⟩
  rw[<- hY] at hbl
  have zY:Y.size<=94+85*k:=by rw[hY,Sha.Ag];have:=HCZ.out k;omega
  have HBX:=zh hbx;have HBL:=zh hbl;have HY:=zh hY
  clear hbx hbl hY F6 yO
  by_cases hlt:k<ms.length
  ·have dk:decide ((k:Int)<(ms.length:Int))=true:=zt
   obtain⟨q,o,ha,hql,e0,e1⟩:=Own.Af.cells (HM.out.below HBX.out.under) hlt
   subst ha
   obtain⟨z1,z2⟩:=HMS.out ms[k] (List.getElem_mem hlt)
   have hnext:=Own.YW ms k hlt
   obtain⟨x,hx⟩:∃ x,x=ms[k]:=⟨_,rfl⟩
   rw[<- hx] at e0 e1 z1 z2 hnext
   obtain⟨mn,mp⟩:=x
   dsimp only at e0 e1 z1 z2 hnext
   have HNX:=zh hnext
   clear hx hnext
   have K1:=zh (show Au wr _ [(76,#[.string mn,.string mp])] from((CY.nil wr).push 76 #[.string mn,.string mp]).boxes)
   have zaI:=zh (HBX.out.step K1.out.under);have zaJ:=zh (HBL.out.below K1.out.under)
   go_upto_region 6 with fail
   generalize (wr.alloc (.cells #[.string mn,.string mp] 76))=w6 at*
   obtain⟨y00,y01⟩:=K1.out.wH rfl
   clear e0 e1
   have hkl:wr.heap.size<w6.heap.size:=K1.out.lt (i:=0) (by show 0<1;omega)
   have Y1:=zh (zi y01)
   go_wp2
   refine Lex.zn (fun i=>i=wr.heap.size) [4] 5 [3] ?_
   simp only[Lex.Bp,zd]
   go_wp2_with fail
   refine(ED mn _ (by omega)).mono ?_
   rintro e w7 ⟨rfl,hb7⟩
   have B67:=zh (show Below w6.heap.size w6 w7 from(Below.refl w6.heap.size w6).drew.trans hb7)
   have K2:=zh (K1.out.step B67.out);have zaK:=zh (zaI.out.step B67.out);have zaL:=zh (zaJ.out.below B67.out)
   clear hb7
   (try clear y00 y01)
   obtain⟨y00,y01⟩:=K2.out.wH rfl
   obtain⟨T1,hT1⟩:∃ T,T=Cod.text mn:=⟨_,rfl⟩
   rw[<- hT1] at HNX ⊢
   have zT1:T1.size<=42:=by rw[hT1];have:=Own.Cr mn;omega
   clear hT1
   go_wp2
   refine Lex.Mid.intro (fun i hi hl=>by subst hi;exact B67.out.block _ hl) ?_
   go_wp2_with fail
   refine(ED mp _ (by omega)).mono ?_
   rintro e w8 ⟨rfl,hb8⟩
   have zaM:=zh (zaK.out.step hb8);have zaN:=zh (zaL.out.below hb8)
   clear hb8
   (try clear y00 y01)
   obtain⟨T2,hT2⟩:∃ T,T=Cod.text mp:=⟨_,rfl⟩
   rw[<- hT2] at HNX ⊢
   have zT2:T2.size<=43:=by rw[hT2];have:=Own.Cr mp;omega
   clear hT2
   go_wp2_with fail
   refine(kY b Y (T1++T2) _ zaN.out (by rw[Sha.Ag];omega)).mono ?_
   rintro e w9 ⟨rfl,mO,hb9⟩
   have zaO:=zh (zaM.out.over (show Below (w.heap.size+1) _ w9 by rw[<- HBE.out];exact hb9))
   have pE:=zh mO
   clear mO hb9
   go_wp2
   refine Lex.zk ⟨⟨rfl,Y1.out⟩,trivial⟩ ?_
   go_wp2_with fail
   refine⟨⟨k+1,by omega,by go_num,zaO.out,?_⟩,by simp[intOf];omega⟩
   rw[HNX.out,<- ByteArray.append_assoc,<- HY.out]
   exact pE.out
  ·have dk:decide ((k:Int)<(ms.length:Int))=false:=zf
   have HYY:=zh (show Y=X++Cod.cat (ms.map Own.AV) by rw[HY.out,List.take_of_length_le (by omega)])
   clear HY
   obtain⟨x00,x01,x02,x03,x04,x05,x06⟩:=HBX.out.JI rfl
   have hlw:w.heap.size<wr.heap.size:=HBX.out.lt (i:=0) (by show 0<1;omega)
   have X1:=zh (zi x04)
   have X2:=zh (zi x05)
   go_wp2
   refine Lex.zn (fun i=>i=w.heap.size) [4,8] 10 [3,3,4] ?_
   simp only[Lex.Bp,zd]
   go_wp2_with fail
   refine(Ep tn _ (by omega)).mono ?_
   rintro e w6 ⟨rfl,hb6⟩
   have B6:=zh (show Below wr.heap.size wr w6 from(Below.refl wr.heap.size wr).drew.trans hb6)
   have F6:=zh (HBX.out.step B6.out);clear hb6
   (try clear x00 x01 x02 x03 x04 x05 x06)
   obtain⟨x00,x01,x02,x03,x04,x05,x06⟩:=F6.out.JI rfl
   obtain⟨U2,hU2⟩:∃ U,U=Cod.uns tn:=⟨_,rfl⟩
   rw[<- hU2]
   have zU2:U2.size<=10:=by rw[hU2];exact Cod.Ce tn
   have HU2:=zh hU2;clear hU2
   go_wp2
   refine Lex.Mid.intro (fun i hi hl=>by subst hi;exact B6.out.block _ hl) ?_
   go_wp2_with fail
   refine(ED nm _ (by omega)).mono ?_
   rintro e w7 ⟨rfl,hb7⟩
   have B7:=zh (B6.out.trans (hb7.mono B6.out.size))
   have F7:=zh (HBX.out.step B7.out);clear hb7
   (try clear x00 x01 x02 x03 x04 x05 x06)
   obtain⟨x00,x01,x02,x03,x04,x05,x06⟩:=F7.out.JI rfl
   obtain⟨T1,hT1⟩:∃ T,T=Cod.text nm:=⟨_,rfl⟩
   rw[<- hT1]
   have zT1:T1.size<=42:=by rw[hT1];have:=Own.Cr nm;omega
   have HT1:=zh hT1;clear hT1
   go_wp2
   refine Lex.Mid.intro (fun i hi hl=>by subst hi;exact B7.out.block _ hl) ?_
   go_wp2_with fail
   refine(ED pb _ (by omega)).mono ?_
   rintro e w8 ⟨rfl,hb8⟩
   have B8:=zh (B7.out.trans (hb8.mono B7.out.size))
   have F8:=zh (HBX.out.step B8.out);clear hb8
   (try clear x00 x01 x02 x03 x04 x05 x06)
   obtain⟨T2,hT2⟩:∃ T,T=Cod.text pb:=⟨_,rfl⟩
   rw[<- hT2]
   have zT2:T2.size<=43:=by rw[hT2];have:=Own.Cr pb;omega
   have HT2:=zh hT2;clear hT2
   have zaP:=zh (HBL.out.below B8.out)
   go_wp2
   refine Lex.Mid.intro (fun i hi hl=>by subst hi;exact B8.out.block _ hl) ?_
   go_wp2_with fail
   refine(kY b Y (U2++T1++T2) _ zaP.out (by rw[Sha.Ag,Sha.Ag];omega)).mono ?_
   rintro e w9 ⟨rfl,mO,hb9⟩
   have F9:=zh (F8.out.over (show Below (w.heap.size+1) _ w9 by rw[<- HBE.out];exact hb9))
   have yP:=zh mO
   clear mO hb9
   go_wp2
   refine Lex.zk ⟨⟨rfl,X1.out⟩,⟨rfl,X2.out⟩,trivial⟩ ?_
   obtain⟨Z,hZ⟩:∃ Z,Z=Y++(U2++T1++T2):=⟨_,rfl⟩
   have HZ:=zh hZ
   rw[<- hZ] at yP
   clear hZ
   go_wp2_with fail
   refine(vL b Z _ yP.out).mono ?_
   rintro e w10 ⟨rfl,_,IY⟩
   have F10:=zh (F9.out.over (show Below (w.heap.size+1) _ w10 by rw[<- HBE.out];exact IY))
   clear IY
   go_wp2
   go_ret
   refine⟨?_,F10.out.under⟩
   rw[HZ.out,HYY.out,HX.out,HR.out,HU.out,HT.out,HV.out,HU2.out,HT1.out,HT2.out]
   simp only[ByteArray.append_assoc]
   rfl
namespace Own
theorem Gg {op:Op}(h:KD op):(CW op).size<=2000:=by
 obtain⟨k0,k4,hpre,hal,hml,hms,t0,t8,hnm,hpb⟩:=h
 have h1:=Cod.Ce op.kind.toNat
 have h2:=Cr op.pre
 have h3:=Cod.Ce op.members.length
 have h4:=bG op.members hms op.members.length
 rw[List.take_length] at h4
 have h5:=Cod.Ce op.threshold.toNat
 have h6:=Cr op.name
 have h7:=Cr op.pub
 unfold CW
 simp only[Sha.Ag]
 omega
end Own
theorem KY (o:Own.Ao)(op:Own.Op)(sv kv mv av:Value)(w:World)(hM:Il w)(hs:∃ a n c,sv=.slice a n c)(hk:∃ a n c,kv=.slice a n c)(hm:Own.Af w mv op.members)(ha:∃ a c,av=.slice a op.Aa.length c)(hl:op.members.length<=140737488355328):
 Calls Tryz.prog 16 #[.agg #[.int .i64 o.count,sv,kv],Own.opV op mv av] w fun e w' => e=.returned (.tuple #[.string (Own.AZ o op).1,.int .i64 (Own.AZ o op).2])/\Below w.heap.size w w':=by
 obtain⟨R,hR⟩:∃ R,R=Own.AZ o op:=⟨_,rfl⟩
 rw[<- hR]
 unfold Own.AZ at hR
 obtain⟨cnt,hcnt⟩:∃ c,c=o.count:=⟨_,rfl⟩
 rw[<- hcnt] at hR ⊢
 obtain⟨sa,sn,sc,rfl⟩:=hs
 obtain⟨ka,kn,kc,rfl⟩:=hk
 obtain⟨ma,mc,rfl⟩:=hm.len
 obtain⟨aa,ac,rfl⟩:=ha
 have HR:=zh hR
 clear hR hcnt
 have F1:=zh (show Au w _ [(25,#[.int .i64 cnt,.slice sa sn sc,.slice ka kn kc]),(29,#[.int .i64 op.kind,.string op.pre,.slice ma op.members.length mc,.int .i64 op.threshold,.string op.name,.string op.pub,.slice aa op.Aa.length ac])] from(((CY.nil w).push 25 #[.int .i64 cnt,.slice sa sn sc,.slice ka kn kc]).push 29 #[.int .i64 op.kind,.string op.pre,.slice ma op.members.length mc,.int .i64 op.threshold,.string op.name,.string op.pub,.slice aa op.Aa.length ac]).boxes)
 have hcf:=fun W (hW:Below w.heap.size w W)=>Ja op (.slice ma op.members.length mc) (.slice aa op.Aa.length ac) W (hM.below hW) (hm.below hW) ⟨_,_,rfl⟩ hl
 have hcb:=fun(hz:Own.KD op) W (hW:Below w.heap.size w W)=>Pw op (.slice ma op.members.length mc) (.slice aa op.Aa.length ac) W (hm.below hW) ⟨_,_,rfl⟩ hz
 unfold Own.opV at hcf hcb
 have HCF:=zh hcf;have HCB:=zh hcb
 unfold Own.opV
 clear hM hm hcf hcb
 have x00:((w.alloc (.cells #[.int .i64 cnt,.slice sa sn sc,.slice ka kn kc] 25)).alloc (.cells #[.int .i64 op.kind,.string op.pre,.slice ma op.members.length mc,.int .i64 op.threshold,.string op.name,.string op.pub,.slice aa op.Aa.length ac] 29)).cell? ⟨w.heap.size,0,none⟩=some (.int .i64 cnt):=F1.out.cell 0 0 rfl rfl
 have x10:((w.alloc (.cells #[.int .i64 cnt,.slice sa sn sc,.slice ka kn kc] 25)).alloc (.cells #[.int .i64 op.kind,.string op.pre,.slice ma op.members.length mc,.int .i64 op.threshold,.string op.name,.string op.pub,.slice aa op.Aa.length ac] 29)).cell? ⟨w.heap.size+1,0,none⟩=some (.int .i64 op.kind):=F1.out.cell 1 0 rfl rfl
 have x11:((w.alloc (.cells #[.int .i64 cnt,.slice sa sn sc,.slice ka kn kc] 25)).alloc (.cells #[.int .i64 op.kind,.string op.pre,.slice ma op.members.length mc,.int .i64 op.threshold,.string op.name,.string op.pub,.slice aa op.Aa.length ac] 29)).cell? ⟨w.heap.size+1,1,none⟩=some (.string op.pre):=F1.out.cell 1 1 rfl rfl
 have x12:((w.alloc (.cells #[.int .i64 cnt,.slice sa sn sc,.slice ka kn kc] 25)).alloc (.cells #[.int .i64 op.kind,.string op.pre,.slice ma op.members.length mc,.int .i64 op.threshold,.string op.name,.string op.pub,.slice aa op.Aa.length ac] 29)).cell? ⟨w.heap.size+1,2,none⟩=some (.slice ma op.members.length mc):=F1.out.cell 1 2 rfl rfl
 have x13:((w.alloc (.cells #[.int .i64 cnt,.slice sa sn sc,.slice ka kn kc] 25)).alloc (.cells #[.int .i64 op.kind,.string op.pre,.slice ma op.members.length mc,.int .i64 op.threshold,.string op.name,.string op.pub,.slice aa op.Aa.length ac] 29)).cell? ⟨w.heap.size+1,3,none⟩=some (.int .i64 op.threshold):=F1.out.cell 1 3 rfl rfl
 have x14:((w.alloc (.cells #[.int .i64 cnt,.slice sa sn sc,.slice ka kn kc] 25)).alloc (.cells #[.int .i64 op.kind,.string op.pre,.slice ma op.members.length mc,.int .i64 op.threshold,.string op.name,.string op.pub,.slice aa op.Aa.length ac] 29)).cell? ⟨w.heap.size+1,4,none⟩=some (.string op.name):=F1.out.cell 1 4 rfl rfl
 have x15:((w.alloc (.cells #[.int .i64 cnt,.slice sa sn sc,.slice ka kn kc] 25)).alloc (.cells #[.int .i64 op.kind,.string op.pre,.slice ma op.members.length mc,.int .i64 op.threshold,.string op.name,.string op.pub,.slice aa op.Aa.length ac] 29)).cell? ⟨w.heap.size+1,5,none⟩=some (.string op.pub):=F1.out.cell 1 5 rfl rfl
 have x16:((w.alloc (.cells #[.int .i64 cnt,.slice sa sn sc,.slice ka kn kc] 25)).alloc (.cells #[.int .i64 op.kind,.string op.pre,.slice ma op.members.length mc,.int .i64 op.threshold,.string op.name,.string op.pub,.slice aa op.Aa.length ac] 29)).cell? ⟨w.heap.size+1,6,none⟩=some (.slice aa op.Aa.length ac):=F1.out.cell 1 6 rfl rfl
 go_enter Tryz.func16,Tryz.ntmps16
 by_cases h0:cnt<0
 ·have d0:decide (cnt<0)=true:=decide_eq_true h0
  have HE:=zh (show R=(⟨#[]⟩,1) by rw[HR.out,decide_eq_false (show ¬ 0<=cnt by omega)];rfl)
  go_wp2
  go_ret2
  exact⟨by rw[HE.out];rfl,F1.out.under⟩
 have d0:decide (cnt<0)=false:=decide_eq_false h0
 by_cases h4:1099511627776<cnt
 ·have d4:decide ((1099511627776:Int)<cnt)=true:=decide_eq_true h4
  have HE:=zh (show R=(⟨#[]⟩,1) by rw[HR.out,decide_eq_true (show 0<=cnt by omega),decide_eq_false (show ¬ cnt<=Own.late by unfold Own.late;omega)];rfl)
  go_wp2
  go_ret2
  exact⟨by rw[HE.out];rfl,F1.out.under⟩
 have d4:decide ((1099511627776:Int)<cnt)=false:=decide_eq_false h4
 go_upto_region 1 with fail
 generalize ((w.alloc (.cells #[.int .i64 cnt,.slice sa sn sc,.slice ka kn kc] 25)).alloc (.cells #[.int .i64 op.kind,.string op.pre,.slice ma op.members.length mc,.int .i64 op.threshold,.string op.name,.string op.pub,.slice aa op.Aa.length ac] 29))=w1 at*
 go_wp2_with fail
 refine(HCF.out w1 F1.out.under).mono ?_
 rintro e w2 ⟨rfl,hb2⟩
 have F2:=zh (F1.out.step hb2);clear hb2
 (try clear x00);(try clear x10);(try clear x11);(try clear x12);(try clear x13);(try clear x14);(try clear x15);(try clear x16)
 have x00:w2.cell? ⟨w.heap.size,0,none⟩=some (.int .i64 cnt):=F2.out.cell 0 0 rfl rfl
 obtain⟨x10,x11,x12,x13,x14,x15,x16⟩:=F2.out.KE rfl
 cases hok:Own.Eh op with
 | false =>
   have HE:=zh (show R=(⟨#[]⟩,1) by rw[HR.out,hok,Bool.and_false];rfl)
   clear hok
   go_wp2
   go_ret2
   exact⟨by rw[HE.out];rfl,F2.out.under⟩
 | true=>
 have hz:=Own.KD.of hok
 have hbz:=Own.Gg hz
 obtain⟨n,rfl⟩:∃ n:Nat,cnt=n:=⟨cnt.toNat,by omega⟩
 have HE0:=zh (show R=(Sig.b1 12++(Cod.uns n++Own.CW op),0) by
  rw[HR.out,hok,decide_eq_true (show(0:Int)<=(n:Int) by omega),decide_eq_true (show(n:Int)<=Own.late by unfold Own.late;omega)]
  rfl)
 have pF:=zh (HCB.out hz)
 clear hok HR HCB hz
 have hlt:w.heap.size+1<w2.heap.size:=F2.out.lt (i:=1) (by show 1<2;omega)
 have X1:=zh (zi x10)
 go_upto_region 3 with fail
 refine Lex.zn (fun i=>i=w.heap.size+1) [4] 6 [3,3] ?_
 simp only[Lex.Bp,zd]
 go_wp2_with fail
 refine(Ep n _ (by omega)).mono ?_
 rintro e w3 ⟨rfl,hb3⟩
 have B3:=zh (show Below w2.heap.size w2 w3 from(Below.refl w2.heap.size w2).drew.trans hb3)
 have F3:=zh (F2.out.step B3.out);clear hb3
 (try clear x00);(try clear x10);(try clear x11);(try clear x12);(try clear x13);(try clear x14);(try clear x15);(try clear x16)
 obtain⟨x10,x11,x12,x13,x14,x15,x16⟩:=F3.out.KE rfl
 obtain⟨U,hU⟩:∃ U,U=Cod.uns n:=⟨_,rfl⟩
 rw[<- hU] at HE0 ⊢
 have zU:U.size<=10:=by rw[hU];exact Cod.Ce n
 clear hU
 obtain⟨T,hT⟩:∃ T:ByteArray,T=⟨#[12]⟩:=⟨_,rfl⟩
 have zT:T.size=1:=by rw[hT];rfl
 have HT:=zh hT;clear hT
 go_wp2
 refine Lex.Mid.intro (fun i hi hl=>by subst hi;exact B3.out.block _ hl) ?_
 go_wp2_with fail
 refine(pF.out w3 F3.out.under).mono ?_
 rintro e w4 ⟨rfl,hb4⟩
 have B4:=zh (B3.out.trans (hb4.mono B3.out.size))
 have F4:=zh (F2.out.step B4.out);clear hb4
 (try clear x00);(try clear x10);(try clear x11);(try clear x12);(try clear x13);(try clear x14);(try clear x15);(try clear x16)
 obtain⟨V,hV⟩:∃ V,V=Own.CW op:=⟨_,rfl⟩
 rw[<- hV] at HE0 hbz ⊢
 clear hV
 go_wp2
 refine Lex.Mid.intro (fun i hi hl=>by subst hi;exact B4.out.block _ hl) ?_
 go_wp2
 refine Lex.zk ⟨⟨rfl,X1.out⟩,trivial⟩ ?_
 go_wp2
 go_ret2
 refine⟨?_,F4.out.under⟩
 rw[HE0.out]
 unfold Sig.b1
 rw[ByteArray.append_assoc]
 rfl
namespace Own
theorem KZ:∀ (A:List Space) (ua:List Value) (B:List Space) (ub:List Value),ua.length=A.length->Az (A++B) (ua++ub)=Az A ua++Az B ub:=fun A ua B ub h=>by
 unfold Az
 rw[List.zipWith_append h.symm,List.flatten_append]
theorem Er:∀ (S:List Space) (us:List Value),us.length=S.length->∀ i,(Az S us).take (i*3)=Az (S.take i) (us.take i)/\(Az S us).drop (i*3)=Az (S.drop i) (us.drop i)
 | [],[],_,i=>by simp[Az]
 | [],_::_,h,_=>by cases h
 | _::_,[],h,_=>by cases h
 | s :: S,u :: us,h,i => by
   cases i with
   | zero=>exact⟨by simp[Az],by simp⟩
   | succ i =>
     obtain⟨h1,h2⟩:=Er S us (by simpa using h) i
     have hl:(encS s u).length=3:=rfl
     have e:Az (s::S) (u::us)=encS s u++Az S us:=rfl
     rw[e,List.take_append,List.drop_append,hl,show(i+1)*3-3=i*3 by omega,h1,h2,List.take_of_length_le (by omega),List.drop_of_length_le (by omega),List.take_succ_cons,List.take_succ_cons,List.drop_succ_cons,List.drop_succ_cons]
     exact⟨rfl,rfl⟩
theorem Ov {B:Nat}{w:World}{v:Value}{S:List Space}{us:List Value}{F:Nat->Prop}(hl:us.length=S.length)(hr:w.ownsRow B 39 3 v S.length (Az S us))(hF:∀ k,v.ownBlock=some k->F k)(hm:∀ i (h:i<S.length) (h' : i<us.length),Aq 2 DU F w us[i] S[i].members):Aq 3 EI F w v S:=by
 refine Aq.Qk (css:=List.zipWith encS S us) (Bc.own hr) rfl (by simp[hl]) hF (fun i hi hi' => ?_)
 have h2:i<us.length:=by rw[hl];exact hi
 rw[List.getElem_zipWith]
 exact⟨rfl,us[i],rfl,hm i hi h2⟩
theorem Ca.mem_grown {B:Nat}{w w' : World}{v:Value}{S:List Space}{us:List Value}(h:Ca B w v S us)(hk:∀ k,k<w.heap.size->v.ownBlock≠some k->w'.heap[k]? = w.heap[k]?){F:Nat->Prop}(hF:∀ k,B<=k->F k)(i:Nat)(hi:i<S.length)(hi' : i<us.length):Aq 2 DU F w' us[i] S[i].members:=by
 have hm:=h.GJ i hi hi'
 have hm' : w'.ownsRow B 76 2 us[i] S[i].members.length (S[i].members.flatMap Cy):=Ae hm (fun k e=>hk k (ET hm k e) (fun e2=>Ho hm h.row (by decide) k e e2))
 exact Cq (enc:=Cy) (fun _=>rfl) (fun _=>rfl) (Bc.own hm') rfl (fun k hk=>hF k (Ak hm' k hk))
theorem Ca.ins {B B' : Nat}{w w' : World}{v v' u:Value}{S:List Space}{us:List Value}{x:Space}{i:Nat}(h:Ca B w v S us)(hi:i<=S.length)(hr:w'.ownsRow B' 39 3 v' (S.length+1) ((Az S us).take (i*3)++(encS x u++(Az S us).drop (i*3))))(hk:∀ k,k<w.heap.size->v.ownBlock≠some k->w'.heap[k]? = w.heap[k]?)
 {F:Nat->Prop} (hF:∀ k,B<=k->F k) (hv:∀ k,v'.ownBlock=some k->F k) (hu:Aq 2 DU F w' u x.members):Aq 3 EI F w' v' (S.take i++x::S.drop i):=by
 have hiu:i<=us.length:=by rw[h.len];exact hi
 have hl:(us.take i++u::us.drop i).length=(S.take i++x::S.drop i).length:=by simp[h.len]
 have hz:(S.take i++x::S.drop i).length=S.length+1:=by simp;omega
 have hc:Az (S.take i++x::S.drop i) (us.take i++u::us.drop i)=(Az S us).take (i*3)++(encS x u++(Az S us).drop (i*3)):=by
  rw[KZ _ _ _ _ (by simp[h.len]),(Er S us h.len i).1,(Er S us h.len i).2]
  rfl
 refine Ov (us:=us.take i++u::us.drop i) hl (by rw[hz,hc];exact hr) hv (fun j hj hj' => ?_)
 by_cases h1:j<i
 ·rw[List.getElem_append_left (by simp;omega),List.getElem_append_left (by simp;omega),List.getElem_take,List.getElem_take]
  exact h.mem_grown hk hF j (by omega) (by omega)
 ·have e1:(us.take i).length=i:=by simp;omega
  have e2:(S.take i).length=i:=by simp;omega
  rw[List.getElem_append_right (by omega),List.getElem_append_right (by omega)]
  simp only[e1,e2]
  by_cases h2:j=i
  ·subst h2
   simp only[Nat.sub_self,List.getElem_cons_zero]
   exact hu
  ·obtain⟨q,hq⟩:∃ q,j-i=q+1:=⟨j-i-1,by omega⟩
   simp only[hq,List.getElem_cons_succ,List.getElem_drop]
   exact h.mem_grown hk hF (i+q) (by rw[hz] at hj;omega) (by rw[hl,hz] at hj';rw[h.len];omega)
theorem Ca.del {B B' : Nat}{w w' : World}{v v' : Value}{S:List Space}{us:List Value}{i:Nat}(h:Ca B w v S us)(hi:i<S.length)(hr:w'.ownsRow B' 39 3 v' (S.length-1) ((Az S us).take (i*3)++(Az S us).drop ((i+1)*3)))(hk:∀ k,k<w.heap.size->v.ownBlock≠some k->w'.heap[k]? = w.heap[k]?)
 {F:Nat->Prop} (hF:∀ k,B<=k->F k) (hv:∀ k,v'.ownBlock=some k->F k):Aq 3 EI F w' v' (S.take i++S.drop (i+1)):=by
 have hl:(us.take i++us.drop (i+1)).length=(S.take i++S.drop (i+1)).length:=by simp[h.len]
 have hz:(S.take i++S.drop (i+1)).length=S.length-1:=by simp;omega
 have hc:Az (S.take i++S.drop (i+1)) (us.take i++us.drop (i+1))=(Az S us).take (i*3)++(Az S us).drop ((i+1)*3):=by
  rw[KZ _ _ _ _ (by simp[h.len]),(Er S us h.len i).1,(Er S us h.len (i+1)).2]
 refine Ov (us:=us.take i++us.drop (i+1)) hl (by rw[hz,hc];exact hr) hv (fun j hj hj' => ?_)
 have hul:=h.len
 by_cases h1:j<i
 ·rw[List.getElem_append_left (by simp;omega),List.getElem_append_left (by simp;omega),List.getElem_take,List.getElem_take]
  exact h.mem_grown hk hF j (by omega) (by omega)
 ·have e1:(us.take i).length=i:=by simp;omega
  have e2:(S.take i).length=i:=by simp;omega
  rw[List.getElem_append_right (by omega),List.getElem_append_right (by omega)]
  simp only[e1,e2,List.getElem_drop]
  exact h.mem_grown hk hF (i+1+(j-i)) (by rw[hz] at hj;omega) (by rw[hl,hz] at hj';omega)
def Uf (w:World)(g i:Nat)(x:Space)(u:Value):World:=((w.setCell ⟨g,i*3,none⟩ (.string x.pre)).setCell ⟨g,i*3+1,none⟩ u).setCell ⟨g,i*3+2,none⟩ (.int .i64 x.threshold)
theorem Sq (w:World)(g i:Nat)(x:Space)(u:Value){k:Nat}(h:k≠g):(Uf w g i x u).heap[k]? = w.heap[k]? :=by
 unfold Uf
 rw[zo h,zo h,zo h]
theorem jh (w:World)(g i:Nat)(x:Space)(u:Value):(Uf w g i x u).heap.size=w.heap.size:=by simp[Uf,World.setCell]
theorem Ca.put {B g c:Nat}{w:World}{S:List Space}{us:List Value}{i:Nat}(h:Ca B w (.slice (some ⟨g,0,none⟩) S.length c) S us)(hi:i<S.length)(x:Space)(u:Value){F:Nat->Prop}(hF:∀ k,B<=k->F k)(hu:Aq 2 DU (fun k=>F k/\k≠g) w u x.members):
 Aq 3 EI F (Uf w g i x u) (.slice (some ⟨g,0,none⟩) S.length c) (S.set i x):=by
 have hcl:=IW S us h.len
 have hgB:B<=g:=Ak h.row g rfl
 have hr:(Uf w g i x u).ownsRow B 39 3 (.slice (some ⟨g,0,none⟩) S.length c) (S.set i x).length (Az (S.set i x) (us.set i u)):=by
  rw[List.length_set,LU S us i hi h.len x u]
  unfold Uf
  exact GH (GH (GH h.row _ (by omega) _) _ (by rw[List.length_set];omega) _) _ (by rw[List.length_set,List.length_set];omega) _
 have e:S.length=(S.set i x).length:=by rw[List.length_set]
 rw[e] at hr ⊢
 refine Ov (us:=us.set i u) (by simp[h.len]) (by rw[<- e] at hr ⊢;exact hr) (fun k hk=>by cases hk;exact hF g hgB) (fun j hj hj' => ?_)
 rw[List.length_set] at hj hj'
 by_cases hij:i=j
 ·subst hij
  rw[List.getElem_set_self,List.getElem_set_self]
  exact(hu.keep (by rw[jh];exact Nat.le_refl _) (fun k hk _=>Sq w g i x u hk.2)).mono (fun k hk _=>hk.1)
 ·rw[List.getElem_set_ne hij,List.getElem_set_ne hij]
  exact h.mem_grown (fun k _ hk=>Sq w g i x u (fun e=>hk (by rw[e];rfl))) hF j hj hj'
def GK (s:Space)(M:List Member):Space:=⟨s.pre,M,s.threshold⟩
theorem Px:∀ (S:List Space) (us:List Value) (i:Nat) (hi:i<S.length) (M:List Member),Az (S.set i (GK S[i] M)) us=Az S us
 | [],_,i,hi,_=>by cases hi
 | s :: S,[],i,_,_ => by
   cases i<;>rfl
 | s::S,u::us,0,_,_=>rfl
 | s :: S,u :: us,i + 1,hi,M => by
   have hi2:i<S.length:=by simpa using hi
   have:=Px S us i hi2 M
   show encS s u++Az (S.set i (GK S[i] M)) us=encS s u++Az S us
   rw[this]
theorem Ca.turn {B:Nat}{w w' : World}{v:Value}{S:List Space}{us:List Value}{i:Nat}(h:Ca B w v S us)(hi:i<S.length)(hi' : i<us.length){M:List Member}(hM:w'.ownsRow B 76 2 us[i] M.length (M.flatMap Cy))(hk:∀ k,us[i].ownBlock≠some k->w'.heap[k]? = w.heap[k]?):Ca B w' v (S.set i (GK S[i] M)) us:=by
 refine⟨by simp[h.len],?_,fun j hj hj' => ?_,h.apart⟩
 ·rw[List.length_set,Px S us i hi M]
  exact Ae h.row (fun k e=>hk k (fun e2=>Ho (h.GJ i hi hi') h.row (by decide) k e2 e))
 ·rw[List.length_set] at hj
  by_cases hij:i=j
  ·subst hij
   rw[List.getElem_set_self]
   exact hM
  ·rw[List.getElem_set_ne hij]
   refine Ae (h.GJ j hj hj') (fun k e=>hk k (fun e2=>?_))
   rcases Nat.lt_or_ge i j with g|g
   ·exact(List.pairwise_iff_getElem.1 h.apart) i j hi' hj' g k e2 e
   ·exact(List.pairwise_iff_getElem.1 h.apart) j i hj' hi' (by omega) k e e2
theorem Vd (M:List Member):(M.flatMap Cy).length=M.length*2:=by
 induction M with
 | nil=>rfl
 | cons x M ih=>rw[List.flatMap_cons,List.length_append,ih,List.length_cons];show 2+_=_;omega
theorem Ve:∀ (M:List Member) (i:Nat) (hi:i<M.length) (c:Nat) (_:c<2),(M.flatMap Cy)[i*2+c]? = (Cy M[i])[c]?
 | [],i,hi,_,_=>by cases hi
 | x :: M,0,_,c,hc => by
   rw[List.flatMap_cons,Nat.zero_mul,Nat.zero_add,List.getElem?_append_left (by show c<2;exact hc)]
   rfl
 | x :: M,i + 1,hi,c,hc => by
   rw[List.flatMap_cons,List.getElem?_append_right (by show 2<=_;omega)]
   have:=Ve M i (by simpa using hi) c hc
   show(M.flatMap Cy)[(i+1)*2+c-2]? = _
   rw[show(i+1)*2+c-2=i*2+c by omega,this]
   rfl
theorem Vf:∀ (M:List Member) (i:Nat) (hi:i<M.length) (p:ByteArray),(M.set i ⟨M[i].name,p⟩).flatMap Cy=(M.flatMap Cy).set (i*2+1) (.string p)
 | [],i,hi,_=>by cases hi
 | x::M,0,_,p=>rfl
 | x :: M,i + 1,hi,p => by
   have hi2:i<M.length:=by simpa using hi
   have ih:=Vf M i hi2 p
   show Cy x++(M.set i ⟨M[i].name,p⟩).flatMap Cy=(Cy x++M.flatMap Cy).set ((i+1)*2+1) (.string p)
   rw[ih,List.set_append_right _ _ (by show 2<=_;omega)]
   congr 2
   show i*2+1=(i+1)*2+1-2
   omega
end Own
namespace Own
end Own
def zdh (X:Nat->Prop)(w:World)(o:Own.Ao)(R:Except Int (List Own.KeyUse))(e:Ending)(w' : World):Prop:=
 (match R with
   | .error c=>e=.returned (.tuple #[Own.nobody,.int .i64 c])
   | .ok K=>∃ sv kv,e=.returned (.tuple #[.agg #[.int .i64 o.count,sv,kv],.int .i64 0])/\Aq 3 Own.EI (fun k=>¬ X k) w' sv o.spaces/\Aq 2 Own.aQ (fun k=>¬ X k) w' kv K)/\Below w.heap.size w w'
namespace Own
theorem Sy (o:Ao)(op:Op):(AZ o op).1.size<=3000:=by
 unfold AZ
 split
 ·rename_i h
  simp only[Bool.and_eq_true] at h
  have h1:=Gg (KD.of h.2)
  have h2:=Cod.Ce o.count.toNat
  have h3:(Sig.b1 12).size=1:=rfl
  dsimp only
  simp only[Sha.Ag]
  omega
 ·show(0:Nat)<=3000
  omega
theorem JZ (s:Space)(msg:ByteArray):∀ (l:List Ai) (seen:List ByteArray) (K:List KeyUse) (c:Int),Bl s msg seen K l=.error c->c≠0
 | [],_,_,c,h=>by cases h
 | a :: l,seen,K,c,h => by
   unfold Bl at h
   split at h
   ·cases h;decide
   ·split at h
    ·cases h;decide
    ·split at h
     ·split at h
      ·cases h;decide
      ·exact JZ s msg l _ _ c h
     ·cases h;decide
theorem Ns (s:Space)(msg:ByteArray):∀ (l:List Ai) (seen:List ByteArray) (K K' : List KeyUse),Bl s msg seen K l=.ok K' -> K'.length<=K.length+l.length
 | [],_,_,_,h=>by cases h;exact Nat.le_refl _
 | a :: l,seen,K,K',h => by
   unfold Bl at h
   split at h
   ·cases h
   ·split at h
    ·cases h
    ·split at h
     ·split at h
      ·cases h
      ·rename_i m _ _ _ _
       have h1:=Ns s msg l _ _ K' h
       rw[EP] at h1
       have h2:=Im KeyUse.pub (⟨m.pub,a.sig.index+1⟩:KeyUse) K
       rw[List.length_cons]
       omega
     ·cases h
def DY (cnt:Int)(sv kv:Value)(op:Op)(mv av:Value)(ex:Int):Array Value:=#[.int .i64 cnt,sv,kv,.int .i64 op.kind,.string op.pre,mv,.int .i64 op.threshold,.string op.name,.string op.pub,av,.int .i64 ex]
theorem OY {w:World}{g:Nat}{cnt:Int}{sv kv:Value}{op:Op}{mv av:Value}{ex:Int}(h:At w g 87 (DY cnt sv kv op mv av ex)):w.cell? ⟨g,0,none⟩=some (.int .i64 cnt)/\w.cell? ⟨g,1,none⟩=some (sv)/\w.cell? ⟨g,2,none⟩=some (kv)/\w.cell? ⟨g,3,none⟩=some (.int .i64 op.kind)/\w.cell? ⟨g,4,none⟩=some (.string op.pre)/\w.cell? ⟨g,5,none⟩=some (mv)/\w.cell? ⟨g,6,none⟩=some (.int .i64 op.threshold)/\w.cell? ⟨g,7,none⟩=some (.string op.name)/\w.cell? ⟨g,8,none⟩=some (.string op.pub)/\w.cell? ⟨g,9,none⟩=some (av)/\w.cell? ⟨g,10,none⟩=some (.int .i64 ex):=
 ⟨h.cell 0,h.cell 1,h.cell 2,h.cell 3,h.cell 4,h.cell 5,h.cell 6,h.cell 7,h.cell 8,h.cell 9,h.cell 10⟩
structure Chg (B:Nat) (w:World) (g:Nat) (o:Ao) (op:Op) (ex:Int) (sv kv mv av:Value) (us:List Value):Prop where
 at_:At w g 87 (DY o.count sv kv op mv av ex)
 sp:Ca B w sv o.spaces us
 ks:w.ownsRow B 59 2 kv o.keys.length (o.keys.flatMap Dw)
 ms:Aq 2 DU (fun k=>k≠g) w mv op.members
section
variable {B g:Nat} {w w' : World} {o:Ao} {op:Op} {ex:Int} {sv kv mv av:Value} {us:List Value}
theorem Chg.below (h:Chg B w g o op ex sv kv mv av us)(hb:Below w.heap.size w w'):Chg B w' g o op ex sv kv mv av us:=
 ⟨h.at_.below hb h.at_.lt,h.sp.below hb,own_below h.ks hb,h.ms.below hb⟩
theorem Chg.keys (h:Chg B w g o op ex sv kv mv av us):Du w kv o.keys:=Du.of (Bc.own h.ks) rfl
theorem Chg.spaces (h:Chg B w g o op ex sv kv mv av us):BF w sv o.spaces:=h.sp.list (F:=aP) (fun _ _=>trivial)
theorem Chg.GJ (h:Chg B w g o op ex sv kv mv av us):Af w mv op.members:=h.ms.mono (fun _ _ _=>trivial)
end
def WR (w:World)(g:Nat)(o:Ao)(op:Op)(ex:Int)(mv av:Value)(R:Except Int (List KeyUse))(e:Ending)(w' : World):Prop:=match R with
 | .error c=>e=.returned (.int .i64 c)/\Below w.heap.size w w'
 | .ok K=>e=.returned (.int .i64 0)/\(∃ sv kv us,Chg w.heap.size w' g ⟨o.count,o.spaces,K⟩ op ex sv kv mv av us)/\Fr (fun k=>k=g) w w'
end Own
theorem Sz (B g:Nat)(o:Own.Ao)(op:Own.Op)(ex:Int)(s:Own.Space)(sv kv mv av smv:Value)(us:List Value)(w:World)(hM:Il w)(h:Own.Chg B w g o op ex sv kv mv av us)(hA:Own.Hq w av op.Aa)(hsm:Own.Af w smv s.members)
 (hsrt:Own.Srt Own.KeyUse.pub o.keys) (hls:o.spaces.length<=3000000) (hlk:o.keys.length+op.Aa.length<=900000) (hlm:∀ s∈o.spaces,s.members.length<=3000000) (hml:s.members.length<=3000000) (hol:op.members.length<=140737488355328)
 (hal:∀ a∈op.Aa,a.name.size<=140737488355328/\a.sig.chains.length<=140737488355328/\a.sig.path.length<=140737488355328):
 Calls Tryz.prog 107 #[.pointer (some ⟨g,0,none⟩),.agg #[.string s.pre,smv,.int .i64 s.threshold]] w (Own.WR w g o op ex mv av (Own.AO s (Own.AZ o op).1 o.keys op.Aa)):=by
 obtain⟨R,hR⟩:∃ R,R=Own.AO s (Own.AZ o op).1 o.keys op.Aa:=⟨_,rfl⟩
 obtain⟨Q,hQ⟩:∃ Q,Q=Own.WR w g o op ex mv av R:=⟨_,rfl⟩
 rw[<- hR,<- hQ]
 obtain⟨sa,sc,hsv⟩:=h.sp.slice
 subst hsv
 obtain⟨ka,kn,kc,hkv⟩:=Ac h.ks
 subst hkv
 obtain rfl:=Ba h.ks
 obtain⟨ma,mc,hmv⟩:=h.ms.len
 subst hmv
 obtain⟨aa,ac,hav,_⟩:=id hA
 subst hav
 obtain⟨sma,smc,rfl⟩:=hsm.len
 have hms:=Own.Sy o op
 have JF:=fun W (hW:Below w.heap.size w W)=>KY o op (.slice sa o.spaces.length sc) (.slice ka o.keys.length kc) (.slice ma op.members.length mc) (.slice aa op.Aa.length ac) W (hM.below hW) ⟨_,_,_,rfl⟩ ⟨_,_,_,rfl⟩ (h.GJ.below hW) ⟨_,_,rfl⟩ hol
 have yT:=fun(M:ByteArray) (hz:M.size<=3000) W (hW:Below w.heap.size w W)=>Si o s M op.Aa (.slice sa o.spaces.length sc) (.slice ka o.keys.length kc) (.slice sma s.members.length smc) (.slice aa op.Aa.length ac) W (h.spaces.below hW) (h.keys.below hW) (hsm.below hW) (hA.below hW) hsrt hls hlk hlm hml (by omega) hal
 have hRK:∀ K,R=.ok K->K.length<=900000:=fun K hK=>by
  rw[hR] at hK
  unfold Own.AO at hK
  split at hK
  ·cases hK
  ·rename_i K2 he
   split at hK
   ·cases hK
   ·cases hK
    have:=Own.Ns s _ _ _ _ _ he
    omega
 unfold Own.opV at JF
 have HR:=zh hR;have HQ:=zh hQ;have H:=zh h;have zaR:=zh JF;have zaS:=zh yT;have HRK:=zh hRK
 clear hR hQ h JF yT hA hsm hM hsrt hlm hal hRK
 have K1:=zh (show Au w _ [(39,#[.string s.pre,.slice sma s.members.length smc,.int .i64 s.threshold])] from((CY.nil w).push 39 #[.string s.pre,.slice sma s.members.length smc,.int .i64 s.threshold]).boxes)
 have H1:=zh (H.out.below K1.out.under)
 go_enter Tryz.func107,Tryz.ntmps107
 go_upto_region 1 with fail
 generalize (w.alloc (.cells #[.string s.pre,.slice sma s.members.length smc,.int .i64 s.threshold] 39))=w1 at*
 obtain⟨c0,c1,c2,c3,c4,c5,c6,c7,c8,c9,c10⟩:=Own.OY H1.out.at_
 refine Lex.zl ?_
 go_wp2_with fail
 refine(zaR.out _ (K1.out.under.trans ((Below.refl w1.heap.size w1).drew.mono K1.out.under.size))).mono ?_
 rintro e w2 ⟨rfl,hb2⟩
 have B2:=zh (show Below w1.heap.size w1 w2 from(Below.refl w1.heap.size w1).drew.trans hb2)
 have K2:=zh (K1.out.step B2.out);have H2:=zh (H1.out.below B2.out)
 clear hb2
 clear c0 c1 c2 c3 c4 c5 c6 c7 c8 c9 c10
 obtain⟨M,hM⟩:∃ M,M=(Own.AZ o op).1:=⟨_,rfl⟩
 rw[<- hM] at hms HR ⊢
 obtain⟨mc2,yU⟩:∃ c,c=(Own.AZ o op).2:=⟨_,rfl⟩
 rw[<- yU]
 clear hM yU
 go_wp2
 refine Lex.ze ?_
 go_upto_region 2 with fail
 obtain⟨c0,c1,c2,c3,c4,c5,c6,c7,c8,c9,c10⟩:=Own.OY H2.out.at_
 obtain⟨x00,x01,x02⟩:=K2.out.Fw rfl
 refine Lex.EU (fun _=>False) [] [15] 17 [.pure 11,.call,.pure 3,.new] [1] (by kernel_rfl) (by kernel_rfl) (by kernel_rfl) ?_
 simp only[Lex.Iw,Lex.Bp,zd]
 have bd:Below w2.heap.size w2 w2.drew:=(Below.refl _ _).drew
 have BD:=zh bd
 clear bd
 go_wp2
 refine Lex.Oy.intro ?_
 intro w4 hg4
 have B4:=zh (BD.out.trans (hg4.mono BD.out.size))
 have K4:=zh (K2.out.step B4.out);have H4:=zh (H2.out.below B4.out)
 clear hg4
 (try clear x00 x01 x02)
 clear c0 c1 c2 c3 c4 c5 c6 c7 c8 c9 c10
 go_wp2_with fail
 refine(zaS.out M hms w4 K4.out.under).mono ?_
 intro e w5 hpost
 obtain⟨hval,hb5⟩:=hpost
 have HB5:=zh hb5
 have B5:=zh (B4.out.trans (hb5.mono B4.out.size))
 have K5:=zh (K4.out.step hb5);have H5:=zh (H4.out.below hb5)
 clear hb5
 cases hap:Own.Bl s M [] o.keys op.Aa with
 | error c =>
   rw[hap] at hval
   have hval:e=.returned (.tuple #[Own.nobody,.int .i64 c]):=hval
   subst hval
   have hc:=Own.JZ s M _ _ _ c hap
   have HE:=zh (show R=.error c by rw[HR.out,Own.AO,hap])
   clear hap HR
   have dz:(c==(0:Int))=false:=by rw[beq_eq_false_iff_ne];exact hc
   unfold Own.nobody
   clear hc
   go_wp2
   refine Lex.Ug.intro (fun j hj _=>absurd hj id) (Lex.Kept.of_below HB5.out) ?_
   go_wp2
   refine Lex.Oy.intro ?_
   intro w6 hw6
   go_wp2
   refine Lex.OA.intro (fun w7 hg7 hk7 ho7=>?_)
   have hs7:=hk7.at_
   have hl6:w.heap.size<=w6.heap.size:=Nat.le_trans K2.out.under.size hw6
   obtain⟨g7,hgs⟩:∃ g,g=w6.heap.size:=⟨_,rfl⟩
   rw[<- hgs] at hs7 hl6
   have mR:=zh hg7
   have B7:=zh (B5.out.trans (hg7.mono B5.out.size));have K7:=zh (K5.out.step hg7);have H7:=zh (H5.out.below hg7);have GS7:=zh hs7
   rw[<- hgs]
   clear hg7 hk7 ho7 hs7 hgs hw6
   have s0:=GS7.out.cell 0;have s1:=GS7.out.cell 1;have s2:=GS7.out.cell 2;have s3:=GS7.out.free 0;have s4:=GS7.out.free 1;have s5:=GS7.out.free 2
   simp only[zg] at s0 s1 s2
   go_wp2
   refine Lex.Mid.intro (fun j hj _=>absurd hj id) ?_
   go_wp2
   refine Lex.zk trivial ?_
   clear s0 s1 s2 s3 s4 s5
   go_wp2
   (try go_ret)
   rw[HQ.out,HE.out]
   exact⟨rfl,((K7.out.under.setCell (p:=⟨g7,0,none⟩) hl6 _).setCell (p:=⟨g7,1,none⟩) hl6 _).setCell (p:=⟨g7,2,none⟩) hl6 _⟩
 | ok L =>
   rw[hap] at hval
   have hval:if (op.Aa.length:Int)<s.threshold then e=.returned (.tuple #[Own.nobody,.int .i64 20]) else ∃ sv kv us,e=.returned (.tuple #[.agg #[.int .i64 o.count,sv,kv],.int .i64 0])/\Own.Ca w4.heap.size w5 sv o.spaces us/\w5.ownsRow w4.heap.size 59 2 kv L.length (L.flatMap Own.Dw):=hval
   by_cases ht:(op.Aa.length:Int)<s.threshold
   ·rw[if_pos ht] at hval
    subst hval
    have HE:=zh (show R=.error 20 by rw[HR.out,Own.AO,hap];exact if_pos ht)
    have hc:(20:Int)≠0:=by decide
    clear hap ht HR
    have dz:(20==(0:Int))=false:=by rw[beq_eq_false_iff_ne];exact hc
    unfold Own.nobody
    clear hc
    go_wp2
    refine Lex.Ug.intro (fun j hj _=>absurd hj id) (Lex.Kept.of_below HB5.out) ?_
    go_wp2
    refine Lex.Oy.intro ?_
    intro w6 hw6
    go_wp2
    refine Lex.OA.intro (fun w7 hg7 hk7 ho7=>?_)
    have hs7:=hk7.at_
    have hl6:w.heap.size<=w6.heap.size:=Nat.le_trans K2.out.under.size hw6
    obtain⟨g7,hgs⟩:∃ g,g=w6.heap.size:=⟨_,rfl⟩
    rw[<- hgs] at hs7 hl6
    have mR:=zh hg7
    have B7:=zh (B5.out.trans (hg7.mono B5.out.size));have K7:=zh (K5.out.step hg7);have H7:=zh (H5.out.below hg7);have GS7:=zh hs7
    rw[<- hgs]
    clear hg7 hk7 ho7 hs7 hgs hw6
    have s0:=GS7.out.cell 0;have s1:=GS7.out.cell 1;have s2:=GS7.out.cell 2;have s3:=GS7.out.free 0;have s4:=GS7.out.free 1;have s5:=GS7.out.free 2
    simp only[zg] at s0 s1 s2
    go_wp2
    refine Lex.Mid.intro (fun j hj _=>absurd hj id) ?_
    go_wp2
    refine Lex.zk trivial ?_
    clear s0 s1 s2 s3 s4 s5
    go_wp2
    (try go_ret)
    rw[HQ.out,HE.out]
    exact⟨rfl,((K7.out.under.setCell (p:=⟨g7,0,none⟩) hl6 _).setCell (p:=⟨g7,1,none⟩) hl6 _).setCell (p:=⟨g7,2,none⟩) hl6 _⟩
   ·rw[if_neg ht] at hval
    obtain⟨sv',kv',us',rfl,hsp,hks⟩:=hval
    have HE:=zh (show R=.ok L by rw[HR.out,Own.AO,hap];exact if_neg ht)
    obtain⟨sa',sc',hsv⟩:=hsp.slice
    subst hsv
    obtain⟨ka',kn',kc',hkv⟩:=Ac hks
    subst hkv
    have SP:=zh hsp;have KS:=zh hks
    have h45:w.heap.size<=w4.heap.size:=K4.out.under.size
    clear hap ht HR hsp hks
    go_wp2
    refine Lex.Ug.intro (fun j hj _=>absurd hj id) (Lex.Kept.of_below HB5.out) ?_
    go_wp2
    refine Lex.Oy.intro ?_
    intro w6 hw6
    go_wp2
    refine Lex.OA.intro (fun w7 hg7 hk7 ho7=>?_)
    have hs7:=hk7.at_
    have hl6:w.heap.size<=w6.heap.size:=Nat.le_trans K2.out.under.size hw6
    obtain⟨g7,hgs⟩:∃ g,g=w6.heap.size:=⟨_,rfl⟩
    rw[<- hgs] at hs7 hl6
    have mR:=zh hg7
    have B7:=zh (B5.out.trans (hg7.mono B5.out.size));have K7:=zh (K5.out.step hg7);have H7:=zh (H5.out.below hg7);have GS7:=zh hs7
    rw[<- hgs]
    clear hg7 hk7 ho7 hs7 hgs hw6
    have s0:=GS7.out.cell 0;have s1:=GS7.out.cell 1;have s2:=GS7.out.cell 2;have s3:=GS7.out.free 0;have s4:=GS7.out.free 1;have s5:=GS7.out.free 2
    simp only[zg] at s0 s1 s2
    go_wp2
    refine Lex.Mid.intro (fun j hj _=>absurd hj id) ?_
    go_wp2
    refine Lex.zk trivial ?_
    clear s0 s1 s2 s3 s4 s5
    have hne:g≠g7:=H7.out.at_.ne GS7.out (by decide)
    have HN:=zh hne
    have GST:=zh (((GS7.out.set 0 (.int .i64 o.count)).set 1 (.slice sa' o.spaces.length sc')).set 2 (.slice ka' kn' kc'))
    have HG7:=zh (((H7.out.at_.far (p:=⟨g7,0,none⟩) hne (.int .i64 o.count)).far (p:=⟨g7,1,none⟩) hne (.slice sa' o.spaces.length sc')).far (p:=⟨g7,2,none⟩) hne (.slice ka' kn' kc'))
    obtain⟨w8,hw8⟩:∃ w8,w8=((w7.setCell ⟨g7,0,none⟩ (.int .i64 o.count)).setCell ⟨g7,1,none⟩ (.slice sa' o.spaces.length sc')).setCell ⟨g7,2,none⟩ (.slice ka' kn' kc'):=⟨_,rfl⟩
    rw[<- hw8] at GST HG7 ⊢
    have pI:∀ k,k≠g7->w8.heap[k]? = w7.heap[k]? :=fun k hk=>by rw[hw8,zo hk,zo hk,zo hk]
    have hz8:w8.heap.size=w7.heap.size:=by rw[hw8];simp[World.setCell]
    have sp7:=SP.out.below mR.out
    have ks7:=own_below KS.out mR.out
    have sp8:Own.Ca w4.heap.size w8 (.slice sa' o.spaces.length sc') o.spaces us' :=
     ⟨sp7.len,Ae sp7.row (fun k e=>pI k (fun e2=>GS7.out.own_ne sp7.row (by decide) (by rw[e,e2]))),fun i h1 h2=>Ae (sp7.GJ i h1 h2) (fun k e=>pI k (fun e2=>GS7.out.own_ne (sp7.GJ i h1 h2) (by decide) (by rw[e,e2]))),sp7.apart⟩
    have ks8:=Ae ks7 (fun k e=>pI k (fun e2=>GS7.out.own_ne ks7 (by decide) (by rw[e,e2])))
    have hgw:=H.out.at_.lt
    have zaT:g≠g7:=hne
    have ms8:=H5.out.ms
    have b8:Below w.heap.size w w8:=by
     rw[hw8]
     exact((K7.out.under.setCell (p:=⟨g7,0,none⟩) hl6 _).setCell (p:=⟨g7,1,none⟩) hl6 _).setCell (p:=⟨g7,2,none⟩) hl6 _
    have SP8:=zh sp8;have KS8:=zh ks8;have B8:=zh b8
    clear sp7 ks7 sp8 ks8 b8 pI hz8 hw8 ms8 hne zaT H7 K7 GS7 B7 H5 K5 B5 HB5 mR SP KS
    have hst:At w8 g7 25 #[.int .i64 o.count,.slice sa' o.spaces.length sc',.slice ka' kn' kc']:=GST.out
    obtain⟨s0,s1,s2⟩:=hst.c3
    obtain⟨c0,c1,c2,c3,c4,c5,c6,c7,c8,c9,c10⟩:=Own.OY HG7.out
    have z0:=HG7.out.free 0;have z1:=HG7.out.free 1;have z2:=HG7.out.free 2
    clear hst GST
    have ms8:=zh (H.out.ms.below B8.out)
    go_wp2
    (try go_ret)
    have far:∀ k,k≠g->(((w8.setCell ⟨g,0,none⟩ (.int .i64 o.count)).setCell ⟨g,1,none⟩ (.slice sa' o.spaces.length sc')).setCell ⟨g,2,none⟩ (.slice ka' kn' kc')).heap[k]? = w8.heap[k]? :=fun k hk=>by
     rw[zo hk,zo hk,zo hk]
    rw[HQ.out,HE.out]
    refine⟨rfl,⟨_,_,us',((HG7.out.set 0 _).set 1 _).set 2 _,?_,?_,?_⟩,?_⟩
    ·exact Own.Ca.base ⟨SP8.out.len,Ae SP8.out.row (fun k e=>far k (fun e2=>HG7.out.own_ne SP8.out.row (by decide) (by rw[e,e2]))),fun i h1 h2=>Ae (SP8.out.GJ i h1 h2) (fun k e=>far k (fun e2=>HG7.out.own_ne (SP8.out.GJ i h1 h2) (by decide) (by rw[e,e2]))),SP8.out.apart⟩ h45
    ·exact Cw (Ae KS8.out (fun k e=>far k (fun e2=>HG7.out.own_ne KS8.out (by decide) (by rw[e,e2])))) h45
    ·exact ms8.out.keep (by simp[World.setCell]) (fun k hk _=>far k hk)
    ·exact(((show Fr (fun k=>k=g) w w8 from Fr.of_below B8.out).setCell (p:=⟨g,0,none⟩) (.inl rfl) _).setCell (p:=⟨g,1,none⟩) (.inl rfl) _).setCell (p:=⟨g,2,none⟩) (.inl rfl) _
end
section
open Go Go.RowKit Go.Maps
structure RS where
 a:Nat
 e:Int
def stN (s:ByteArray)(r:RS):Nat × RS:=if r.e=0 then (match Cod.rdN s r.a with|some (v,b)=>(v,⟨b,0⟩)|none=>(0,⟨r.a,9⟩)) else (0,r)
def stT (s:ByteArray)(r:RS):ByteArray × RS:=if r.e=0 then (match Cod.rdT s r.a with|some (v,b)=>(v,⟨b,0⟩)|none=>(⟨#[]⟩,⟨r.a,9⟩)) else (⟨#[]⟩,r)
def stC (s:ByteArray)(m:Int)(r:RS):Nat × RS:=if r.e=0 then (match rdC s m r.a with|some (v,b)=>(v,⟨b,0⟩)|none=>(0,⟨r.a,9⟩)) else (0,r)
def stL (s:ByteArray)(r:RS):List ByteArray × RS:=if r.e=0 then (match Cod.Br s r.a with|some (v,b)=>(v,⟨b,0⟩)|none=>([],⟨r.a,9⟩)) else ([],r)
theorem OD {s:ByteArray}{r:RS}(h:r.a<=s.size):(stN s r).2.a<=s.size:=by
 unfold stN
 split
 ·cases hr:Cod.rdN s r.a with
  | none=>exact h
  | some y=>exact(Cod.Fa hr).2.1
 ·exact h
theorem FJ {s:ByteArray}{r:RS}(h:r.a<=s.size):(stT s r).2.a<=s.size:=by
 unfold stT
 split
 ·cases hr:Cod.rdT s r.a with
  | none=>exact h
  | some y=>exact(Cod.Mc hr).2.1
 ·exact h
theorem Ze {s:ByteArray}{m:Int}{a v b:Nat}(h:rdC s m a=some (v,b)):Cod.rdN s a=some (v,b)/\(v:Int)<=m:=by
 unfold rdC at h
 cases hr:Cod.rdN s a with
 | none=>rw[hr] at h;cases h
 | some y =>
   obtain⟨v',b'⟩:=y
   simp only[hr] at h
   split at h
   ·cases h;exact⟨rfl,by assumption⟩
   ·cases h
theorem WU {s:ByteArray}{m:Int}{r:RS}(h:r.a<=s.size):(stC s m r).2.a<=s.size:=by
 unfold stC
 split
 ·cases hr:rdC s m r.a with
  | none=>exact h
  | some y=>exact(Cod.Fa (Ze hr).1).2.1
 ·exact h
theorem Zf {s:ByteArray}{m:Nat}{r:RS} : (stC s m r).1<=m:=by
 unfold stC
 split
 ·cases hr:rdC s m r.a with
  | none=>exact Nat.zero_le _
  | some y =>
    have:=(Ze hr).2
    show y.1<=m
    omega
 ·exact Nat.zero_le _
theorem WW {s:ByteArray}{r:RS}(h:r.a<=s.size):(stL s r).2.a<=s.size:=by
 unfold stL
 split
 ·cases hr:Cod.Br s r.a with
  | none=>exact h
  | some y=>exact(Cod.Md hr).2.1
 ·exact h
theorem tN {s:ByteArray}{r:RS} : (stN s r).1<9223372036854775808:=by
 unfold stN
 split
 ·cases hr:Cod.rdN s r.a with
  | none=>show(0:Nat)<9223372036854775808;decide
  | some y=>exact(Cod.Fa hr).2.2.2
 ·show(0:Nat)<9223372036854775808
  decide
theorem mX {s:ByteArray}{r:RS} : (stT s r).1.size<=s.size:=by
 unfold stT
 split
 ·cases hr:Cod.rdT s r.a with
  | none=>exact Nat.zero_le _
  | some y =>
    have h:=Cod.Mc hr
    have e:=congrArg ByteArray.size h.2.2
    rw[ByteArray.size_extract] at e
    unfold Cod.text at e
    rw[Sha.Ag] at e
    show y.1.size<=_
    omega
 ·exact Nat.zero_le _
theorem eU {s:ByteArray}{r:RS} : (stL s r).1.length<=s.size:=by
 unfold stL
 split
 ·cases hr:Cod.Br s r.a with
  | none=>exact Nat.zero_le _
  | some y =>
    have h:=Cod.Md hr
    have e:=congrArg ByteArray.size h.2.2
    rw[ByteArray.size_extract] at e
    unfold Cod.texts at e
    rw[Sha.Ag] at e
    have:=Cod.Xp y.1
    show y.1.length<=_
    omega
 ·exact Nat.zero_le _
def vI (n:Nat):Value:=.int .i64 n
theorem bJ (rb:Nat)(s:ByteArray)(r:RS)(w:World)(h:At w rb 157 (rdV s r.a r.e))(ha:r.a<=s.size)(hs:s.size<=1000000):
 Calls Tryz.prog 81 #[.pointer (some ⟨rb,0,none⟩)] w fun e w' => e=.returned (vI (stN s r).1)/\Av rb w w' (rdV s (stN s r).2.a (stN s r).2.e):=by
 by_cases he:r.e=0
 ·rw[he] at h
  refine(bC rb s r.a w h ha (by omega)).mono ?_
  intro e w' hp
  unfold stN
  rw[if_pos he]
  cases hr:Cod.rdN s r.a with
  | none=>rw[hr] at hp;exact hp
  | some y=>rw[hr] at hp;exact hp
 ·refine(Sl rb s r.a r.e he w h).mono ?_
  rintro e _ ⟨rfl,rfl⟩
  unfold stN
  rw[if_neg he]
  exact⟨rfl,Av.refl h⟩
theorem bK (rb:Nat)(s:ByteArray)(r:RS)(w:World)(h:At w rb 157 (rdV s r.a r.e))(ha:r.a<=s.size)(hs:s.size<=1000000):
 Calls Tryz.prog 82 #[.pointer (some ⟨rb,0,none⟩)] w fun e w' => e=.returned (Value.string (stT s r).1)/\Av rb w w' (rdV s (stT s r).2.a (stT s r).2.e):=by
 by_cases he:r.e=0
 ·rw[he] at h
  refine(bD rb s r.a w h ha (by omega)).mono ?_
  intro e w' hp
  unfold stT
  rw[if_pos he]
  cases hr:Cod.rdT s r.a with
  | none=>rw[hr] at hp;exact hp
  | some y=>rw[hr] at hp;exact hp
 ·refine(Sm rb s r.a r.e he w h).mono ?_
  rintro e _ ⟨rfl,rfl⟩
  unfold stT
  rw[if_neg he]
  exact⟨rfl,Av.refl h⟩
theorem OE (rb:Nat)(s:ByteArray)(r:RS)(w:World){n:Nat}{r' : RS}(hv:stN s r=(n,r'))(h:At w rb 157 (rdV s r.a r.e))(ha:r.a<=s.size)(hs:s.size<=1000000):
 Calls Tryz.prog 81 #[.pointer (some ⟨rb,0,none⟩)] w fun e w' => e=.returned (.int .i64 n)/\Av rb w w' (rdV s r'.a r'.e):=by
 have:=bJ rb s r w h ha hs
 rw[hv] at this
 exact this
theorem Gm (rb:Nat)(s:ByteArray)(r:RS)(w:World){x:ByteArray}{r' : RS}(hv:stT s r=(x,r'))(h:At w rb 157 (rdV s r.a r.e))(ha:r.a<=s.size)(hs:s.size<=1000000):
 Calls Tryz.prog 82 #[.pointer (some ⟨rb,0,none⟩)] w fun e w' => e=.returned (.string x)/\Av rb w w' (rdV s r'.a r'.e):=by
 have:=bK rb s r w h ha hs
 rw[hv] at this
 exact this
theorem Av.of_below {rb:Nat}{w w' : World}{s:ByteArray}{a:Nat}{e:Int}(h:At w rb 157 (rdV s a e))(hb:Below w.heap.size w w'):Av rb w w' (rdV s a e):=⟨h.below hb h.lt,Fr.of_below hb⟩
theorem Zg (rb:Nat)(s:ByteArray)(m:Int)(r:RS)(w:World)(h:At w rb 157 (rdV s r.a r.e))(ha:r.a<=s.size)(hs:s.size<=1000000):
 Calls Tryz.prog 83 #[.pointer (some ⟨rb,0,none⟩),.int .i64 m] w fun e w' => e=.returned (.int .i64 (stC s m r).1)/\Av rb w w' (rdV s (stC s m r).2.a (stC s m r).2.e):=by
 by_cases he:r.e=0
 ·rw[he] at h
  refine(YP rb s r.a m w h ha (by omega)).mono ?_
  intro e w' hp
  unfold stC
  rw[if_pos he]
  cases hr:rdC s m r.a with
  | none=>rw[hr] at hp;exact hp
  | some y=>rw[hr] at hp;exact hp
 ·refine(YQ rb s r.a m r.e he w h).mono ?_
  rintro e _ ⟨rfl,hb⟩
  unfold stC
  rw[if_neg he]
  exact⟨rfl,Av.of_below h hb⟩
theorem Zh (rb:Nat)(s:ByteArray)(r:RS)(w:World)(h:At w rb 157 (rdV s r.a r.e))(ha:r.a<=s.size)(hs:s.size<=1000000):
 Calls Tryz.prog 84 #[.pointer (some ⟨rb,0,none⟩)] w fun e w' => ∃ v,e=.returned v/\Al w' v (stL s r).1/\Eb v/\(∀ k,v.ownBlock=some k->w.heap.size<=k)/\Av rb w w' (rdV s (stL s r).2.a (stL s r).2.e):=by
 by_cases he:r.e=0
 ·rw[he] at h
  refine(YT rb s r.a w h ha hs).mono ?_
  intro e w' hp
  unfold stL
  rw[if_pos he]
  cases hr:Cod.Br s r.a with
  | none =>
    rw[hr] at hp
    obtain⟨h1,h2⟩:=hp
    exact⟨_,h1,⟨_,_,rfl,.inl rfl⟩,⟨_,_,_,rfl,Nat.le_refl _⟩,(fun k hk=>by cases hk),h2⟩
  | some y =>
    rw[hr] at hp
    obtain⟨c,d,h1,⟨h2,h3⟩,h4,h5⟩:=hp
    exact⟨_,h1,h2,⟨_,_,_,rfl,h3⟩,h4,h5⟩
 ·refine(YU rb s r.a r.e he w h).mono ?_
  rintro e _ ⟨rfl,hb⟩
  unfold stL
  rw[if_neg he]
  exact⟨_,rfl,⟨_,_,rfl,.inl rfl⟩,⟨_,_,_,rfl,Nat.le_refl _⟩,(fun k hk=>by cases hk),Av.of_below h hb⟩
theorem SF (rb:Nat)(s:ByteArray)(m:Int)(r:RS)(w:World){n:Nat}{r' : RS}(hv:stC s m r=(n,r'))(h:At w rb 157 (rdV s r.a r.e))(ha:r.a<=s.size)(hs:s.size<=1000000):
 Calls Tryz.prog 83 #[.pointer (some ⟨rb,0,none⟩),.int .i64 m] w fun e w' => e=.returned (.int .i64 n)/\Av rb w w' (rdV s r'.a r'.e):=by
 have:=Zg rb s m r w h ha hs
 rw[hv] at this
 exact this
theorem SG (rb:Nat)(s:ByteArray)(r:RS)(w:World){l:List ByteArray}{r' : RS}(hv:stL s r=(l,r'))(h:At w rb 157 (rdV s r.a r.e))(ha:r.a<=s.size)(hs:s.size<=1000000):
 Calls Tryz.prog 84 #[.pointer (some ⟨rb,0,none⟩)] w fun e w' => ∃ v,e=.returned v/\Al w' v l/\Eb v/\(∀ k,v.ownBlock=some k->w.heap.size<=k)/\Av rb w w' (rdV s r'.a r'.e):=by
 have:=Zh rb s r w h ha hs
 rw[hv] at this
 exact this
namespace Own
def Ch (s:ByteArray):Nat->RS->List Member × RS
 | 0,r=>([],r)
 | n + 1,r =>
   (⟨(stT s r).1,(stT s (stT s r).2).1⟩::(Ch s n (stT s (stT s r).2).2).1,(Ch s n (stT s (stT s r).2).2).2)
def D9 (s:ByteArray)(r:RS):Sig.T × RS:=(⟨(stN s r).1,(stL s (stN s r).2).1,(stL s (stL s (stN s r).2).2).1⟩,(stL s (stL s (stN s r).2).2).2)
def Ci (s:ByteArray):Nat->RS->List Ai × RS
 | 0,r=>([],r)
 | n+1,r=>(⟨(stT s r).1,(D9 s (stT s r).2).1⟩::(Ci s n (D9 s (stT s r).2).2).1,(Ci s n (D9 s (stT s r).2).2).2)
theorem PD (s:ByteArray):∀ (n:Nat) (r:RS),Ch s (n+1) r=((Ch s n r).1++[⟨(stT s (Ch s n r).2).1,(stT s (stT s (Ch s n r).2).2).1⟩],(stT s (stT s (Ch s n r).2).2).2)
 | 0,r=>rfl
 | n + 1,r => by
   have h:=PD s n (stT s (stT s r).2).2
   show(_::(Ch s (n+1) (stT s (stT s r).2).2).1,(Ch s (n+1) (stT s (stT s r).2).2).2)=_
   rw[h]
   rfl
theorem SH (s:ByteArray):∀ (n:Nat) (r:RS),Ci s (n+1) r=((Ci s n r).1++[⟨(stT s (Ci s n r).2).1,(D9 s (stT s (Ci s n r).2).2).1⟩],(D9 s (stT s (Ci s n r).2).2).2)
 | 0,r=>rfl
 | n + 1,r => by
   have h:=SH s n (D9 s (stT s r).2).2
   show(_::(Ci s (n+1) (D9 s (stT s r).2).2).1,(Ci s (n+1) (D9 s (stT s r).2).2).2)=_
   rw[h]
   rfl
theorem LW (s:ByteArray):∀ (n:Nat) (r:RS),(Ch s n r).1.length=n
 | 0,_=>rfl
 | n+1,r=>by show(Ch s n _).1.length+1=n+1;rw[LW s n]
theorem Vh (s:ByteArray):∀ (n:Nat) (r:RS),(Ci s n r).1.length=n
 | 0,_=>rfl
 | n+1,r=>by show(Ci s n _).1.length+1=n+1;rw[Vh s n]
theorem OG (s:ByteArray):∀ (n:Nat) (r:RS),r.a<=s.size->(Ch s n r).2.a<=s.size
 | 0,_,h=>h
 | n+1,r,h=>OG s n _ (FJ (FJ h))
theorem mY {s:ByteArray}{r:RS}(h:r.a<=s.size):(D9 s r).2.a<=s.size:=WW (WW (OD h))
theorem SI (s:ByteArray):∀ (n:Nat) (r:RS),r.a<=s.size->(Ci s n r).2.a<=s.size
 | 0,_,h=>h
 | n+1,r,h=>SI s n _ (mY (FJ h))
/-! ### after an error -/
section
variable {s:ByteArray} {r:RS}
theorem eX (h:r.e≠0):stN s r=(0,r):=by unfold stN;rw[if_neg h]
theorem Je (h:r.e≠0):stT s r=(⟨#[]⟩,r):=by unfold stT;rw[if_neg h]
theorem WX {m:Int}(h:r.e≠0):stC s m r=(0,r):=by unfold stC;rw[if_neg h]
theorem Nt (h:r.e≠0):stL s r=([],r):=by unfold stL;rw[if_neg h]
theorem Vi (h:r.e≠0):(D9 s r).2=r:=by
 unfold D9
 rw[eX h]
 dsimp only
 rw[Nt h]
 dsimp only
 rw[Nt h]
end
theorem LY {s:ByteArray} : ∀ (n:Nat) {r:RS},r.e≠0->(Ch s n r).2=r
 | 0,_,_=>rfl
 | n + 1,r,h => by
   show(Ch s n (stT s (stT s r).2).2).2=r
   rw[Je h]
   dsimp only
   rw[Je h]
   exact LY n h
theorem OH {s:ByteArray} : ∀ (n:Nat) {r:RS},r.e≠0->(Ci s n r).2=r
 | 0,_,_=>rfl
 | n + 1,r,h => by
   show(Ci s n (D9 s (stT s r).2).2).2=r
   rw[Je h]
   dsimp only
   rw[Vi h]
   exact OH n h
/-! ### read,or an error -/
section
variable {s:ByteArray} {a:Nat}
theorem bL:stN s ⟨a,0⟩=match Cod.rdN s a with|some (v,b)=>(v,⟨b,0⟩)|none=>(0,⟨a,9⟩):=by unfold stN;rw[if_pos rfl]<;>(cases Cod.rdN s a<;>rfl)
theorem OI:stT s ⟨a,0⟩=match Cod.rdT s a with|some (v,b)=>(v,⟨b,0⟩)|none=>(⟨#[]⟩,⟨a,9⟩):=by unfold stT;rw[if_pos rfl]<;>(cases Cod.rdT s a<;>rfl)
theorem mZ {m:Int} : stC s m ⟨a,0⟩=match rdC s m a with|some (v,b)=>(v,⟨b,0⟩)|none=>(0,⟨a,9⟩):=by unfold stC;rw[if_pos rfl]<;>(cases rdC s m a<;>rfl)
theorem ng:stL s ⟨a,0⟩=match Cod.Br s a with|some (v,b)=>(v,⟨b,0⟩)|none=>([],⟨a,9⟩):=by unfold stL;rw[if_pos rfl]<;>(cases Cod.Br s a<;>rfl)
end
def Bad (r:RS):Prop:=r.e=9
theorem Bad.ne {r:RS}(h:Bad r):r.e≠0:=by rw[show r.e=9 from h];decide
theorem Vj {s:ByteArray} : ∀ (n a:Nat),(match IL s n a with|some (l,b)=>Ch s n ⟨a,0⟩=(l,⟨b,0⟩)|none=>Bad (Ch s n ⟨a,0⟩).2)
 | 0,a=>rfl
 | n + 1,a => by
   unfold IL Ch
   rw[OI]
   cases h1:Cod.rdT s a with
   | none =>
     dsimp only
     have hb:Bad (⟨a,9⟩:RS):=rfl
     rw[Je hb.ne]
     dsimp only
     rw[LY n hb.ne]
     exact hb
   | some y =>
     obtain⟨nm,b⟩:=y
     dsimp only
     rw[OI]
     cases h2:Cod.rdT s b with
     | none =>
       dsimp only
       have hb:Bad (⟨b,9⟩:RS):=rfl
       rw[LY n hb.ne]
       exact hb
     | some y =>
       obtain⟨pb,c⟩:=y
       dsimp only
       have ih:=Vj (s:=s) n c
       cases h3:IL s n c with
       | none =>
         rw[h3] at ih
         exact ih
       | some y =>
         obtain⟨l,d⟩:=y
         rw[h3] at ih
         have ih' : Ch s n ⟨c,0⟩=(l,⟨d,0⟩):=ih
         rw[ih']
theorem ni {s:ByteArray}(a:Nat):(match UD s a with|some (x,b)=>D9 s ⟨a,0⟩=(x,⟨b,0⟩)|none=>Bad (D9 s ⟨a,0⟩).2):=by
 unfold UD D9
 rw[bL]
 cases h1:Cod.rdN s a with
 | none =>
   dsimp only
   have hb:Bad (⟨a,9⟩:RS):=rfl
   rw[Nt hb.ne]
   dsimp only
   rw[Nt hb.ne]
   exact hb
 | some y =>
   obtain⟨i,b⟩:=y
   dsimp only
   rw[ng]
   cases h2:Cod.Br s b with
   | none =>
     dsimp only
     have hb:Bad (⟨b,9⟩:RS):=rfl
     rw[Nt hb.ne]
     exact hb
   | some y =>
     obtain⟨ch,c⟩:=y
     dsimp only
     rw[ng]
     cases h3:Cod.Br s c with
     | none=>exact rfl
     | some y =>
       obtain⟨pa,d⟩:=y
       rfl
theorem Zi {s:ByteArray} : ∀ (n a:Nat),(match MI s n a with|some (l,b)=>Ci s n ⟨a,0⟩=(l,⟨b,0⟩)|none=>Bad (Ci s n ⟨a,0⟩).2)
 | 0,a=>rfl
 | n + 1,a => by
   unfold MI Ci
   rw[OI]
   cases h1:Cod.rdT s a with
   | none =>
     dsimp only
     have hb:Bad (⟨a,9⟩:RS):=rfl
     rw[Vi hb.ne]
     rw[OH n hb.ne]
     exact hb
   | some y =>
     obtain⟨nm,b⟩:=y
     dsimp only
     have hs:=ni (s:=s) b
     cases h2:UD s b with
     | none =>
       rw[h2] at hs
       have hb:Bad (D9 s ⟨b,0⟩).2:=hs
       dsimp only
       rw[OH n hb.ne]
       exact hb
     | some y =>
       obtain⟨sg,c⟩:=y
       rw[h2] at hs
       have hs' : D9 s ⟨b,0⟩=(sg,⟨c,0⟩):=hs
       rw[hs']
       dsimp only
       have ih:=Zi (s:=s) n c
       cases h3:MI s n c with
       | none =>
         rw[h3] at ih
         exact ih
       | some y =>
         obtain⟨l,d⟩:=y
         rw[h3] at ih
         have ih' : Ci s n ⟨c,0⟩=(l,⟨d,0⟩):=ih
         rw[ih']
structure nu (s:ByteArray) where
 k:Nat × RS
 pre:ByteArray × RS
 n:Nat × RS
 ms:List Member × RS
 t:Nat × RS
 nm:ByteArray × RS
 pb:ByteArray × RS
 m:Nat × RS
 aps:List Ai × RS
def stOp (s:ByteArray):nu s:=
 let k:=stN s ⟨0,0⟩
 let pre:=stT s k.2
 let n:=stC s 8 pre.2
 let ms:=Ch s n.1 n.2
 let t:=stN s ms.2
 let nm:=stT s t.2
 let pb:=stT s nm.2
 let m:=stC s 8 pb.2
 ⟨k,pre,n,ms,t,nm,pb,m,Ci s m.1 m.2⟩
def nu.op {s:ByteArray}(x:nu s):Op:=⟨x.k.1,x.pre.1,x.ms.1,x.t.1,x.nm.1,x.pb.1,x.aps.1⟩
theorem rD {s:ByteArray}(pb:ByteArray × RS)(h:Bad pb.2):Bad (Ci s (stC s 8 pb.2).1 (stC s 8 pb.2).2).2:=by
 rw[WX h.ne]
 exact h
theorem ny {s:ByteArray}(nm:ByteArray × RS)(h:Bad nm.2):Bad (Ci s (stC s 8 (stT s nm.2).2).1 (stC s 8 (stT s nm.2).2).2).2:=by
 rw[Je h.ne]
 exact rD (s:=s) (⟨#[]⟩,nm.2) h
theorem rE {s:ByteArray}(t:Nat × RS)(h:Bad t.2):Bad (Ci s (stC s 8 (stT s (stT s t.2).2).2).1 (stC s 8 (stT s (stT s t.2).2).2).2).2:=by
 rw[Je h.ne]
 exact ny (s:=s) (⟨#[]⟩,t.2) h
theorem SK {s:ByteArray}(r:RS)(h:Bad r):Bad (Ci s (stC s 8 (stT s (stT s (stN s r).2).2).2).1 (stC s 8 (stT s (stT s (stN s r).2).2).2).2).2:=by
 rw[eX h.ne]
 exact rE (s:=s) (0,r) h
theorem pJ (s:ByteArray):(match iE s with|some (op,e)=>(stOp s).op=op/\(stOp s).aps.2=⟨e,0⟩|none=>Bad (stOp s).aps.2):=by
 unfold stOp iE nu.op
 dsimp only
 rw[bL]
 cases h1:Cod.rdN s 0 with
 | none =>
   dsimp only
   have hb:Bad (⟨0,9⟩:RS):=rfl
   rw[Je hb.ne]
   dsimp only
   rw[WX hb.ne]
   exact SK _ hb
 | some y =>
   obtain⟨k,a1⟩:=y
   dsimp only
   rw[OI]
   cases h2:Cod.rdT s a1 with
   | none =>
     dsimp only
     have hb:Bad (⟨a1,9⟩:RS):=rfl
     rw[WX hb.ne]
     exact SK _ hb
   | some y =>
     obtain⟨pre,a2⟩:=y
     dsimp only
     rw[mZ]
     unfold rdC
     cases h3:Cod.rdN s a2 with
     | none=>exact SK _ (rfl:Bad (⟨a2,9⟩:RS))
     | some y =>
       obtain⟨n,a3⟩:=y
       dsimp only
       by_cases hn:8<n
       ·rw[if_pos hn,if_neg (show ¬ ((n:Int)<=8) by omega)]
        exact SK _ (rfl:Bad (⟨a2,9⟩:RS))
       rw[if_neg hn,if_pos (show(n:Int)<=8 by omega)]
       dsimp only
       have hm:=Vj (s:=s) n a3
       cases h4:IL s n a3 with
       | none =>
         rw[h4] at hm
         exact SK _ hm
       | some y =>
         obtain⟨ms,a4⟩:=y
         rw[h4] at hm
         have hm' : Ch s n ⟨a3,0⟩=(ms,⟨a4,0⟩):=hm
         rw[hm']
         dsimp only
         rw[bL]
         cases h5:Cod.rdN s a4 with
         | none=>exact rE (s:=s) (0,⟨a4,9⟩) rfl
         | some y =>
           obtain⟨t,a5⟩:=y
           dsimp only
           rw[OI]
           cases h6:Cod.rdT s a5 with
           | none=>exact ny (s:=s) (⟨#[]⟩,⟨a5,9⟩) rfl
           | some y =>
             obtain⟨nm,a6⟩:=y
             dsimp only
             rw[OI]
             cases h7:Cod.rdT s a6 with
             | none=>exact rD (s:=s) (⟨#[]⟩,⟨a6,9⟩) rfl
             | some y =>
               obtain⟨pb,a7⟩:=y
               dsimp only
               rw[mZ]
               unfold rdC
               cases h8:Cod.rdN s a7 with
               | none=>exact(rfl:Bad (⟨a7,9⟩:RS))
               | some y =>
                 obtain⟨m,a8⟩:=y
                 dsimp only
                 by_cases hn8:8<m
                 ·rw[if_pos hn8,if_neg (show ¬ ((m:Int)<=8) by omega)]
                  exact(rfl:Bad (⟨a7,9⟩:RS))
                 rw[if_neg hn8,if_pos (show(m:Int)<=8 by omega)]
                 dsimp only
                 have ha:=Zi (s:=s) m a8
                 cases h9:MI s m a8 with
                 | none =>
                   rw[h9] at ha
                   exact ha
                 | some y =>
                   obtain⟨aps,a9⟩:=y
                   rw[h9] at ha
                   have ha' : Ci s m ⟨a8,0⟩=(aps,⟨a9,0⟩):=ha
                   rw[ha']
                   exact⟨rfl,rfl⟩
theorem pK (s:ByteArray):(stOp s).aps.2.a<=s.size:=
 SI s _ _ (WU (FJ (FJ (OD (OG s _ _ (WU (FJ (OD (Nat.zero_le _)))))))))
theorem nC (s:ByteArray):MJ s=if DX s (stOp s).aps.2.a (stOp s).aps.2.e=0/\Fv (stOp s).op=true then ((stOp s).op,0) else (.none,9):=by
 have h:=pJ s
 have hl:=pK s
 unfold MJ
 cases h1:iE s with
 | none =>
   rw[h1] at h
   have hb:(stOp s).aps.2.e=9:=h
   rw[if_neg]
   intro hx
   have:=hx.1
   unfold DX at this
   rw[hb] at this
   rw[if_neg (by intro h;cases h.1)] at this
   cases this
 | some y =>
   obtain⟨op,e⟩:=y
   rw[h1] at h
   obtain⟨ho,he⟩:=h
   rw[ho,he]
   rw[he] at hl
   dsimp only at hl ⊢
   by_cases hs:e=s.size
   ·rw[decide_eq_true hs]
    have:DX s e 0=0:=by unfold DX;rw[if_neg (by omega)]
    rw[this]
    cases hf:Fv op<;>simp
   ·rw[decide_eq_false hs]
    have:DX s e 0=9:=by unfold DX;rw[if_pos ⟨rfl,by omega⟩]
    rw[this]
    simp
end Own
end
section
open Go Go.RowKit Go.Maps
namespace Own
theorem Jf (l:List ByteArray)(h:∀ x∈l,x.size=32):(Cod.texts l).size<=10+42*l.length:=by
 have h1:=Cod.Ce l.length
 have h2:∀ l:List ByteArray,(∀ x∈l,x.size=32)->(Cod.cat (l.map Cod.text)).size<=42*l.length:=by
  intro l
  induction l with
  | nil=>intro _;exact Nat.le_refl _
  | cons x l ih =>
    intro h
    have h3:=Cr x
    have h4:=h x List.mem_cons_self
    have h5:=ih (fun y hy=>h y (List.mem_cons_of_mem _ hy))
    show(Cod.text x++Cod.cat (l.map Cod.text)).size<=_
    rw[Sha.Ag,List.length_cons]
    omega
 have h3:=h2 l h
 unfold Cod.texts
 rw[Sha.Ag]
 omega
def Ka (s:Sig.T):ByteArray × Int:=if Dq s=true then (Bw s,0) else (⟨#[]⟩,1)
theorem bM {s:Sig.T}(h:Dq s=true):(Bw s).size<=4000:=by
 unfold Dq at h
 simp only[Bool.and_eq_true,decide_eq_true_eq] at h
 obtain⟨⟨⟨⟨h0,h1⟩,h2⟩,h3⟩,h4⟩:=h
 have a:=Jf s.chains (fun x hx=>of_decide_eq_true (List.all_eq_true.1 h3 x hx))
 have b:=Jf s.path (fun x hx=>of_decide_eq_true (List.all_eq_true.1 h4 x hx))
 have c:=Cod.Ce s.index.toNat
 unfold Bw
 rw[Sha.Ag,Sha.Ag]
 omega
end Own
theorem Zj (s:Sig.T)(cv pv:Value)(w:World)(hc:Al w cv s.chains)(hp:Al w pv s.path)(hi:s.index<9223372036854775808)(hl:s.chains.length<=140737488355328)(hlp:s.path.length<=140737488355328):
 Calls Tryz.prog 76 #[.agg #[.int .i64 s.index,cv,pv]] w fun e w' => e=.returned (.tuple #[.string (Own.Ka s).1,.int .i64 (Own.Ka s).2])/\Below w.heap.size w w':=by
 obtain⟨R,hR⟩:∃ R,R=Own.Ka s:=⟨_,rfl⟩
 rw[<- hR]
 unfold Own.Ka Own.Dq at hR
 obtain⟨ca,cc,rfl⟩:=hc.len
 obtain⟨pa,pc,rfl⟩:=hp.len
 have HR:=zh hR;clear hR
 have F1:=zh (show Au w _ [(70,#[.int .i64 s.index,.slice ca s.chains.length cc,.slice pa s.path.length pc])] from((CY.nil w).push 70 #[.int .i64 s.index,.slice ca s.chains.length cc,.slice pa s.path.length pc]).boxes)
 have HC:=zh (hc.below F1.out.under);have HP:=zh (hp.below F1.out.under)
 clear hc hp
 go_enter Tryz.func76,Tryz.ntmps76
 go_upto_region 1 with fail
 generalize (w.alloc (.cells #[.int .i64 s.index,.slice ca s.chains.length cc,.slice pa s.path.length pc] 70))=w1 at*
 obtain⟨x00,x01,x02⟩:=F1.out.Fw rfl
 by_cases i1:s.index<0
 ·have e1:decide (s.index<0)=true:=decide_eq_true i1
  have HE:=zh (show R=(⟨#[]⟩,1) by rw[HR.out,decide_eq_false (show ¬ 0<=s.index by omega)];rfl)
  go_wp2
  go_ret2
  exact⟨by rw[HE.out];rfl,F1.out.under⟩
 have e1:decide (s.index<0)=false:=decide_eq_false i1
 by_cases i3:s.chains.length=67
 case neg=>
  have e3:((s.chains.length:Int) != 67)=true:=by rw[bne_iff_ne];omega
  have HE:=zh (show R=(⟨#[]⟩,1) by rw[HR.out,decide_eq_false i3];simp)
  go_wp2
  go_ret2
  exact⟨by rw[HE.out];rfl,F1.out.under⟩
 have e3:((s.chains.length:Int) != 67)=false:=by rw[bne_eq_false_iff_eq];omega
 by_cases i4:s.path.length<=6
 case neg=>
  have e4:decide ((6:Int)<(s.path.length:Int))=true:=zt
  have HE:=zh (show R=(⟨#[]⟩,1) by rw[HR.out,decide_eq_false i4];simp)
  go_wp2
  go_ret2
  exact⟨by rw[HE.out];rfl,F1.out.under⟩
 have e4:decide ((6:Int)<(s.path.length:Int))=false:=zf
 have I3:=zh i3;clear i3
 go_wp2_with fail
 refine(Hg 126 #[] Tryz.call126 (fun x => !Sig.digest x) _ s.chains _ (fun W x=>Ls x W) HC.out hl).mono ?_
 rintro e _ ⟨rfl,q,rfl⟩
 rw[Hl]
 have hbq:Below w1.heap.size w1 (w1.drewN q):=below_drewN (Below.refl _ _) q
 have F2:=zh (F1.out.step hbq);have HC2:=zh (HC.out.below hbq);have HP2:=zh (HP.out.below hbq)
 clear hbq HC HP
 generalize w1.drewN q=w2 at*
 (try clear x00 x01 x02)
 obtain⟨x00,x01,x02⟩:=F2.out.Fw rfl
 cases hall:s.chains.all Sig.digest with
 | false =>
   have HE:=zh (show R=(⟨#[]⟩,1) by rw[HR.out,hall];simp)
   clear hall
   go_wp2
   go_ret2
   exact⟨by rw[HE.out];rfl,F2.out.under⟩
 | true=>
 go_wp2_with fail
 refine(Hg 126 #[] Tryz.call126 (fun x => !Sig.digest x) _ s.path _ (fun W x=>Ls x W) HP2.out hlp).mono ?_
 rintro e _ ⟨rfl,q,rfl⟩
 rw[Hl]
 have hbq:Below w2.heap.size w2 (w2.drewN q):=below_drewN (Below.refl _ _) q
 have F3:=zh (F2.out.step hbq);have HC3:=zh (HC2.out.below hbq);have HP3:=zh (HP2.out.below hbq)
 clear hbq HC2 HP2
 generalize w2.drewN q=w3 at*
 (try clear x00 x01 x02)
 obtain⟨x00,x01,x02⟩:=F3.out.Fw rfl
 cases Pk:s.path.all Sig.digest with
 | false =>
   have HE:=zh (show R=(⟨#[]⟩,1) by rw[HR.out,Pk];simp)
   clear Pk hall
   go_wp2
   go_ret2
   exact⟨by rw[HE.out];rfl,F3.out.under⟩
 | true=>
 obtain⟨n,hn⟩:∃ n:Nat,s.index=n:=⟨s.index.toNat,by omega⟩
 have hz1:∀ x∈s.chains,x.size=32:=fun x hx=>of_decide_eq_true (List.all_eq_true.1 hall x hx)
 have hz2:∀ x∈s.path,x.size=32:=fun x hx=>of_decide_eq_true (List.all_eq_true.1 Pk x hx)
 have t1:(Cod.texts s.chains).size<=3000:=by have:=Own.Jf s.chains hz1;have:=I3.out;omega
 have t2:=Own.Jf s.path hz2
 have t0:=Cod.Ce n
 have HE:=zh (show R=(Cod.uns n++(Cod.texts s.chains++Cod.texts s.path),0) by
  rw[HR.out,hall,Pk,decide_eq_true I3.out,decide_eq_true i4,decide_eq_true (show 0<=s.index by omega),if_pos (by simp)]
  unfold Own.Bw
  rw[hn]
  rfl)
 rw[hn] at x00 hi e1
 have Z1:=zh hz1;have Z2:=zh hz2
 clear hall Pk hz1 hz2 HR hn
 have y1:(w3.cell? ⟨w.heap.size,1,none⟩).isSome=true:=by rw[x01];rfl
 have y2:(w3.cell? ⟨w.heap.size,2,none⟩).isSome=true:=by rw[x02];rfl
 have Y1:=zh y1;have Y2:=zh y2
 clear y1 y2
 have hl3:w.heap.size<w3.heap.size:=F3.out.lt (i:=0) (by simp)
 have hat:At (w3.drew.alloc (.cells #[.int .i64 (n:Int)] 3)) w3.heap.size 3 (([n]).map fun n:Nat=>Value.int .i64 (n:Int)).toArray:=At.new w3.drew 3 #[.int .i64 (n:Int)]
 have HNM:=zh (Ms w3.heap.size [n] _ hat (fun x hx=>by rcases List.mem_singleton.1 hx with rfl;omega) (by show 1<=1000;omega))
 clear hat
 go_wp2
 refine Lex.zn (fun k=>k=w.heap.size) [5,9] 11 [4,3,4] ?_
 simp only[Lex.Bp,zd]
 go_wp2_with fail
 refine HNM.out.mono ?_
 rintro e w4 ⟨rfl,hb4⟩
 have B4:=zh (show Below w3.heap.size w3 w4 from((Below.refl w3.heap.size w3).drew.alloc (Nat.le_refl _) _).trans (hb4.mono (by simp)))
 have F4:=zh (F3.out.step B4.out);clear hb4
 (try clear x00 x01 x02)
 obtain⟨x00,x01,x02⟩:=F4.out.Fw rfl
 have hu:Cod.cat ([n].map Cod.uns)=Cod.uns n:=Ou _
 rw[hu]
 clear hu
 obtain⟨U,hU⟩:∃ U,U=Cod.uns n:=⟨_,rfl⟩
 rw[<- hU] at t0 HE ⊢
 clear hU
 go_wp2
 refine Lex.Mid.intro (fun k hk hkl=>by rw[hk];exact B4.out.block _ hl3) ?_
 go_wp2_with fail
 refine(Sn _ s.chains _ (HC3.out.below B4.out) (fun x hx=>by rw[Z1.out x hx];omega) (by have:=I3.out;omega) (by omega)).mono ?_
 rintro e w5 ⟨rfl,hb5⟩
 have B5:=zh (B4.out.trans (hb5.mono B4.out.size))
 have F5:=zh (F3.out.step B5.out);clear hb5
 (try clear x00 x01 x02)
 obtain⟨x00,x01,x02⟩:=F5.out.Fw rfl
 obtain⟨T1,hT1⟩:∃ T,T=Cod.texts s.chains:=⟨_,rfl⟩
 rw[<- hT1] at t1 HE ⊢
 clear hT1
 go_wp2
 refine Lex.Mid.intro (fun k hk hkl=>by rw[hk];exact B5.out.block _ hl3) ?_
 go_wp2_with fail
 refine(Sn _ s.path _ (HP3.out.below B5.out) (fun x hx=>by rw[Z2.out x hx];omega) (by omega) (by omega)).mono ?_
 rintro e w6 ⟨rfl,hb6⟩
 have B6:=zh (B5.out.trans (hb6.mono B5.out.size))
 have F6:=zh (F3.out.step B6.out);clear hb6
 obtain⟨T2,hT2⟩:∃ T,T=Cod.texts s.path:=⟨_,rfl⟩
 rw[<- hT2] at t2 HE ⊢
 clear hT2
 (try clear x00 x01 x02)
 go_wp2
 refine Lex.Mid.intro (fun k hk hkl=>by rw[hk];exact B6.out.block _ hl3) ?_
 go_wp2
 refine Lex.zk ⟨⟨rfl,Y1.out⟩,⟨rfl,Y2.out⟩,trivial⟩ ?_
 go_wp2
 (try go_ret2)
 exact⟨by rw[HE.out,ByteArray.append_assoc];rfl,F6.out.under⟩
namespace Own
def Es:List Ai->Nat
 | []=>0
 | a::l=>a.name.size+Es l
theorem Qm:∀ (l:List Ai),(∀ a∈l,Dq a.sig=true)->(Cod.cat (l.map Ay)).size<=Es l+4010*l.length
 | [],_=>Nat.le_refl _
 | a :: l,h => by
   have h1:=Qm l (fun x hx=>h x (List.mem_cons_of_mem _ hx))
   have h2:=bM (h a List.mem_cons_self)
   have h3:=Cr a.name
   show((Cod.text a.name++Bw a.sig)++Cod.cat (l.map Ay)).size<=a.name.size+Es l+4010*(l.length+1)
   rw[Sha.Ag,Sha.Ag]
   omega
theorem Ma:∀ (l:List Ai) (k:Nat),Es (l.take k)<=Es l
 | [],k=>by simp[Es]
 | a::l,0=>Nat.zero_le _
 | a :: l,k + 1 => by
   have:=Ma l k
   show a.name.size+Es (l.take k)<=a.name.size+Es l
   omega
theorem Vk:∀ {l:List Ai} {a:Ai},a∈l->a.name.size<=Es l
 | [],_,h=>by cases h
 | b :: l,a,h => by
   rcases List.mem_cons.1 h with rfl|h
   ·exact Nat.le_add_right _ _
   ·have:=Vk h
    show _<=b.name.size+Es l
    omega
theorem pO (l:List Ai)(k:Nat)(hk:k<l.length):Cod.cat ((l.take (k+1)).map Ay)=Cod.cat ((l.take k).map Ay)++Ay l[k]:=by
 rw[List.take_succ_eq_append_getElem hk,List.map_append,List.map_cons,List.map_nil,Gy]
end Own
theorem Nu (op:Own.Op)(mv av:Value)(w:World)(hM:Il w)(hm:Own.Af w mv op.members)(hA:Own.Hq w av op.Aa)(hml:op.members.length<=140737488355328)(hsum:Own.Es op.Aa<=140737488000000)
 (hal:∀ a∈op.Aa,a.sig.index<9223372036854775808/\a.sig.chains.length<=140737488355328/\a.sig.path.length<=140737488355328):
 Calls Tryz.prog 24 #[Own.opV op mv av] w fun e w' => e=.returned (.tuple #[.string (Own.Dh op).1,.int .i64 (Own.Dh op).2])/\Below w.heap.size w w':=by
 obtain⟨R,hR⟩:∃ R,R=Own.Dh op:=⟨_,rfl⟩
 rw[<- hR]
 unfold Own.Dh Own.Fv at hR
 obtain⟨ma,mc,rfl⟩:=hm.len
 obtain⟨aa,ac,rfl,hap⟩:=id hA
 clear hap
 have HR:=zh hR;clear hR
 have F1:=zh (show Au w _ [(29,#[.int .i64 op.kind,.string op.pre,.slice ma op.members.length mc,.int .i64 op.threshold,.string op.name,.string op.pub,.slice aa op.Aa.length ac])] from((CY.nil w).push 29 #[.int .i64 op.kind,.string op.pre,.slice ma op.members.length mc,.int .i64 op.threshold,.string op.name,.string op.pub,.slice aa op.Aa.length ac]).boxes)
 have hcf:=fun W (hW:Below w.heap.size w W)=>Ja op (.slice ma op.members.length mc) (.slice aa op.Aa.length ac) W (hM.below hW) (hm.below hW) ⟨_,_,rfl⟩ hml
 have hcb:=fun(hz:Own.KD op) W (hW:Below w.heap.size w W)=>Pw op (.slice ma op.members.length mc) (.slice aa op.Aa.length ac) W (hm.below hW) ⟨_,_,rfl⟩ hz
 unfold Own.opV at hcf hcb ⊢
 have HCF:=zh hcf;have HCB:=zh hcb;have HA:=zh hA;have HAL:=zh hal
 clear hM hm hcf hcb hA hal
 go_enter Tryz.func24,Tryz.ntmps24
 go_upto_region 1 with fail
 generalize (w.alloc (.cells #[.int .i64 op.kind,.string op.pre,.slice ma op.members.length mc,.int .i64 op.threshold,.string op.name,.string op.pub,.slice aa op.Aa.length ac] 29))=w1 at*
 obtain⟨x00,x01,x02,x03,x04,x05,x06⟩:=F1.out.JI rfl
 go_wp2_with fail
 refine(HCF.out w1 F1.out.under).mono ?_
 rintro e w2 ⟨rfl,hb2⟩
 have F2:=zh (F1.out.step hb2);clear hb2
 (try clear x00 x01 x02 x03 x04 x05 x06)
 obtain⟨x00,x01,x02,x03,x04,x05,x06⟩:=F2.out.JI rfl
 cases hok:Own.Eh op with
 | false =>
   have HE:=zh (show R=(⟨#[]⟩,1) by rw[HR.out,hok];rfl)
   clear hok
   go_wp2
   go_ret2
   exact⟨by rw[HE.out];rfl,F2.out.under⟩
 | true=>
 have hz:=Own.KD.of hok
 have hbz:=Own.Gg hz
 have zbr:=hz.al
 have pF:=zh (HCB.out hz)
 have HR2:=zh (show R=if (op.Aa.all fun a=>Own.Dq a.sig)=true then (Own.CW op++(Cod.uns op.Aa.length++Cod.cat (op.Aa.map Own.Ay)),0) else (⟨#[]⟩,1) by rw[HR.out,hok];simp)
 clear hok hz HR
 have Y1:=zh (zi x06)
 have hl2:w.heap.size<w2.heap.size:=F2.out.lt (i:=0) (by simp)
 obtain⟨X,hX⟩:∃ X,X=Own.CW op:=⟨_,rfl⟩
 rw[<- hX] at hbz HR2 pF
 clear hX
 go_wp2
 refine Lex.zn (fun k=>k=w.heap.size) [3] 5 [2] ?_
 simp only[Lex.Bp,zd]
 go_wp2_with fail
 refine(pF.out _ (F2.out.under.trans ((Below.refl w2.heap.size w2).drew.mono F2.out.under.size))).mono ?_
 rintro e w3 ⟨rfl,hb3⟩
 have B3:=zh (show Below w2.heap.size w2 w3 from(Below.refl w2.heap.size w2).drew.trans hb3)
 have F3:=zh (F2.out.step B3.out);clear hb3
 (try clear x00 x01 x02 x03 x04 x05 x06)
 obtain⟨x00,x01,x02,x03,x04,x05,x06⟩:=F3.out.JI rfl
 go_wp2
 refine Lex.Mid.intro (fun k hk hkl=>by rw[hk];exact B3.out.block _ hl2) ?_
 go_wp2_with fail
 refine(Ep op.Aa.length _ (by omega)).mono ?_
 rintro e w4 ⟨rfl,hb4⟩
 have F4:=zh (F3.out.step hb4);clear hb4
 (try clear x00 x01 x02 x03 x04 x05 x06)
 obtain⟨x00,x01,x02,x03,x04,x05,x06⟩:=F4.out.JI rfl
 obtain⟨U,hU⟩:∃ U,U=Cod.uns op.Aa.length:=⟨_,rfl⟩
 rw[<- hU] at HR2 ⊢
 have zU:U.size<=10:=by rw[hU];exact Cod.Ce _
 clear hU
 go_wp2
 refine Lex.zk ⟨⟨rfl,Y1.out⟩,trivial⟩ ?_
 obtain⟨Y,hY⟩:∃ Y,Y=X++U:=⟨_,rfl⟩
 have zY:Y.size<=2010:=by rw[hY,Sha.Ag];omega
 have HR3:=zh (show R=if (op.Aa.all fun a=>Own.Dq a.sig)=true then (Y++Cod.cat (op.Aa.map Own.Ay),0) else (⟨#[]⟩,1) by rw[HR2.out,hY,ByteArray.append_assoc])
 rw[<- hY]
 clear hY HR2
 go_wp2_with fail
 (try clear x00 x01 x02 x03 x04 x05 x06)
 go_loopw [22,4] (fun i s wr=>∃ k:Nat,k<=op.Aa.length/\i=.int .i64 k/\s=.string (Y++Cod.cat ((op.Aa.take k).map Own.Ay))/\(∀ a∈op.Aa.take k,Own.Dq a.sig=true)/\Below w.heap.size w wr) (fun i _ _=>op.Aa.length-(intOf i).toNat)
 case atStart=>exact⟨0,by omega,rfl,by rw[List.take_zero];show _=Value.string (Y++⟨#[]⟩);rw[Ou],by simp,F4.out.under⟩
 case round=>
  obtain⟨k,hk,rfl,rfl,hs,hb⟩:=hrel
  have hsz:=Own.Qm (op.Aa.take k) hs
  have hnt:=Own.Ma op.Aa k
  rw[List.length_take,Nat.min_eq_left hk] at hsz
  by_cases hlt:k<op.Aa.length
  case neg=>
   have hke:k=op.Aa.length:=by omega
   have dk:decide ((k:Int)<(op.Aa.length:Int))=false:=zf
   rw[hke,List.take_length] at hs
   have HE:=zh (show R=(Y++Cod.cat ((op.Aa.take k).map Own.Ay),0) by rw[HR3.out,if_pos (List.all_eq_true.2 hs),hke,List.take_length])
   have HB:=zh hb
   clear hs hb hke hsz hnt
   go_wp2
   go_ret2
   exact⟨by rw[HE.out];rfl,HB.out⟩
  have dk:decide ((k:Int)<(op.Aa.length:Int))=true:=zt
  obtain⟨a',c',hv,hcells⟩:=HA.out.below hb
  cases hv
  obtain⟨b,q,cv,pv,ha,hbl,e0,e1,e2,e3,hcv,hpv,_⟩:=hcells k hlt
  subst ha
  clear hcells
  obtain⟨z1,z2,z3⟩:=HAL.out op.Aa[k] (List.getElem_mem hlt)
  have hnx:=Own.pO op.Aa k hlt
  have hnm:=Own.Vk (List.getElem_mem hlt)
  have hall:(op.Aa.all fun a=>Own.Dq a.sig)=true->Own.Dq op.Aa[k].sig=true:=fun h=>List.all_eq_true.1 h _ (List.getElem_mem hlt)
  have hs2:Own.Dq op.Aa[k].sig=true->∀ a∈op.Aa.take (k+1),Own.Dq a.sig=true:=fun h a ha=>by
   rw[List.take_succ_eq_append_getElem hlt] at ha
   rcases List.mem_append.1 ha with h1|h1
   ·exact hs a h1
   ·rw[List.mem_singleton.1 h1];exact h
  have htot:Own.Dq op.Aa[k].sig=true->(Y++Cod.cat ((op.Aa.take (k+1)).map Own.Ay)).size<=140737488200000:=fun h=>by
   have h1:=Own.Qm _ (hs2 h)
   have h2:=Own.Ma op.Aa (k+1)
   rw[List.length_take,Nat.min_eq_left (by omega)] at h1
   rw[Sha.Ag]
   omega
  obtain⟨Z,hZ⟩:∃ Z,Z=Y++Cod.cat ((op.Aa.take k).map Own.Ay):=⟨_,rfl⟩
  rw[hnx,<- ByteArray.append_assoc,<- hZ] at htot
  rw[<- ByteArray.append_right_inj Y,<- ByteArray.append_assoc,<- hZ] at hnx
  rw[<- hZ]
  obtain⟨A,hAe⟩:∃ A,A=op.Aa[k]:=⟨_,rfl⟩
  rw[<- hAe] at e0 e1 hcv hpv z1 z2 z3 hnx hnm hall hs2 htot
  obtain⟨an,sg⟩:=A
  obtain⟨ix,cs,ps⟩:=sg
  dsimp only at e0 e1 hcv hpv z1 z2 z3 hnx hnm hall hs2 htot
  obtain⟨ca,cc,rfl⟩:=hcv.len
  obtain⟨pa,pc,rfl⟩:=hpv.len
  have HB:=zh hb;have HNX:=zh hnx;have oF:=zh hall;have HS2:=zh hs2;have HT:=zh htot;have HCV:=zh hcv;have HPV:=zh hpv
  clear hb hnx hall hs2 htot hcv hpv hs hZ hAe hsz hnt
  have K1:=zh (show Au wr _ [(72,#[.string an,.int .i64 ix,.slice ca cs.length cc,.slice pa ps.length pc])] from((CY.nil wr).push 72 #[.string an,.int .i64 ix,.slice ca cs.length cc,.slice pa ps.length pc]).boxes)
  go_upto_region 7 with fail
  generalize (wr.alloc (.cells #[.string an,.int .i64 ix,.slice ca cs.length cc,.slice pa ps.length pc] 72))=w6 at*
  obtain⟨y00,y01,y02,y03⟩:=K1.out.wJ rfl
  clear e0 e1 e2 e3
  have hse:=Zj ⟨ix,cs,ps⟩ (.slice ca cs.length cc) (.slice pa ps.length pc) w6 (HCV.out.below K1.out.under) (HPV.out.below K1.out.under) z1 z2 z3
  dsimp only at hse
  have HSE:=zh hse
  clear hse
  go_wp2_with fail
  refine HSE.out.mono ?_
  rintro e w7 ⟨rfl,hb7⟩
  have K7:=zh (K1.out.step hb7)
  clear hb7 HSE
  (try clear y00 y01 y02 y03)
  obtain⟨y00,y01,y02,y03⟩:=K7.out.wJ rfl
  cases hso:Own.Dq ⟨ix,cs,ps⟩ with
  | false =>
    have e1:Own.Ka ⟨ix,cs,ps⟩=(⟨#[]⟩,1):=by unfold Own.Ka;rw[hso];rfl
    rw[e1]
    have HE:=zh (show R=(⟨#[]⟩,1) by
     rw[HR3.out,if_neg]
     intro h
     rw[oF.out h] at hso
     cases hso)
    clear hso e1
    go_wp2
    go_ret2
    exact⟨by rw[HE.out];rfl,(HB.out.trans (K7.out.under.mono HB.out.size))⟩
  | true=>
  have e1:Own.Ka ⟨ix,cs,ps⟩=(Own.Bw ⟨ix,cs,ps⟩,0):=by unfold Own.Ka;rw[hso];rfl
  rw[e1]
  have hto:=HT.out hso
  have hs3:=HS2.out hso
  unfold Own.Ay at hto
  rw[Sha.Ag,Sha.Ag] at hto
  dsimp only at hto ⊢
  have hn3:Y++Cod.cat ((op.Aa.take (k+1)).map Own.Ay)=Z++(Cod.text an++Own.Bw ⟨ix,cs,ps⟩):=HNX.out
  obtain⟨S,hS⟩:∃ S,S=Own.Bw ⟨ix,cs,ps⟩:=⟨_,rfl⟩
  rw[<- hS] at hto hn3 ⊢
  have HN3:=zh hn3;have HS3:=zh hs3
  clear hn3 hs3 hso e1 hS
  go_wp2_with fail
  refine(ED an _ (by omega)).mono ?_
  rintro e w8 ⟨rfl,hb8⟩
  have K8:=zh (K7.out.step hb8)
  clear hb8
  (try clear y00 y01 y02 y03)
  obtain⟨T,hT⟩:∃ T,T=Cod.text an:=⟨_,rfl⟩
  rw[<- hT] at hto HN3 ⊢
  clear hT
  go_wp2
  go_round
  case measure=>simp[intOf];omega
  case rel=>exact⟨k+1,by omega,by go_num,by rw[HN3.out],HS3.out,HB.out.trans (K8.out.under.mono HB.out.size)⟩
theorem EX : (Tryz.prog.info? 29).map (·.size)=some 7:=by kernel_rfl
structure OpI (w:World) (g:Nat) (s:ByteArray) (r:RS) (cs:Array Value) (wr:World):Prop where
 at0:At wr w.heap.size 29 #[.int .i64 0,.string ⟨#[]⟩,.slice none 0 0,.int .i64 0,.string ⟨#[]⟩,.string ⟨#[]⟩,.slice none 0 0]
 rd:At wr (w.heap.size+1) 157 (rdV s r.a r.e)
 op:At wr g 29 cs
 bel:Below w.heap.size w wr
 g2:w.heap.size+2<=g
theorem OpI.step {w wr wr' : World}{g:Nat}{s:ByteArray}{r r' : RS}{cs:Array Value}(h:OpI w g s r cs wr)(hs:Av (w.heap.size+1) wr wr' (rdV s r'.a r'.e)):OpI w g s r' cs wr' :=
 ⟨hs.fr.at h.at0 (by simp),hs.at_,hs.fr.at h.op (by have:=h.g2;intro e;have e2:g=w.heap.size+1:=e;omega),h.bel.trans (hs.fr.below h.bel.size (fun k hk=>by omega)),h.g2⟩
theorem OpI.under {w wr wr' : World}{g:Nat}{s:ByteArray}{r:RS}{cs:Array Value}(h:OpI w g s r cs wr)(hb:Below wr.heap.size wr wr'):OpI w g s r cs wr' :=
 ⟨h.at0.below hb h.at0.lt,h.rd.below hb h.rd.lt,h.op.below hb h.op.lt,h.bel.trans (hb.mono h.bel.size),h.g2⟩
theorem OpI.grown {w wr wr' : World}{g:Nat}{s:ByteArray}{r:RS}{cs:Array Value}(h:OpI w g s r cs wr){row:Option Nat}(hg:wr.grownBy wr' row)(hr:∀ k,row=some k->g+1<=k):OpI w g s r cs wr':=by
 have h2:=h.g2
 exact⟨h.at0.grown hg (fun e=>by have:=hr _ e.symm;omega),h.rd.grown hg (fun e=>by have:=hr _ e.symm;omega),h.op.grown hg (fun e=>by have:=hr _ e.symm;omega),h.bel.grown hg h.bel.size (fun k hk=>by have:=hr k hk;omega),h.g2⟩
theorem OpI.put {w wr:World}{g:Nat}{s:ByteArray}{r:RS}{cs:Array Value}(h:OpI w g s r cs wr)(i:Nat)(u:Value):OpI w g s r (cs.setIfInBounds i u) (wr.setCell ⟨g,i,none⟩ u):=by
 have h2:=h.g2
 exact⟨h.at0.far (by show w.heap.size≠g;omega) u,h.rd.far (by show w.heap.size+1≠g;omega) u,h.op.set i u,h.bel.setCell (by show w.heap.size<=g;omega) u,h.g2⟩
theorem OpI.far {w wr:World}{g b:Nat}{s:ByteArray}{r:RS}{cs:Array Value}(h:OpI w g s r cs wr)(hb:g<b)(i:Nat)(u:Value):OpI w g s r cs (wr.setCell ⟨b,i,none⟩ u):=by
 have h2:=h.g2
 exact⟨h.at0.far (by show w.heap.size≠b;omega) u,h.rd.far (by show w.heap.size+1≠b;omega) u,h.op.far (by show g≠b;omega) u,h.bel.setCell (by show w.heap.size<=b;omega) u,h.g2⟩
theorem OJ {rb base n size:Nat}{e:TypeId}{v:Value}{xs:List Value}{w w' : World}{cs:Array Value}(h:w.ownsRow base e size v n xs)(hs:Av rb w w' cs)(hb:rb<base):w'.ownsRow base e size v n xs:=
 Ae h (fun k hk=>hs.fr.keep k (Own.IZ h k hk) (fun e=>by have:=Ak h k hk;have e2:k=rb:=e;omega))
structure Op0 (w:World) (s:ByteArray) (r:RS) (wr:World):Prop where
 at0:At wr w.heap.size 29 #[.int .i64 0,.string ⟨#[]⟩,.slice none 0 0,.int .i64 0,.string ⟨#[]⟩,.string ⟨#[]⟩,.slice none 0 0]
 rd:At wr (w.heap.size+1) 157 (rdV s r.a r.e)
 bel:Below w.heap.size w wr
theorem Op0.step {w wr wr' : World}{s:ByteArray}{r r' : RS}(h:Op0 w s r wr)(hs:Av (w.heap.size+1) wr wr' (rdV s r'.a r'.e)):Op0 w s r' wr' :=
 ⟨hs.fr.at h.at0 (by simp),hs.at_,h.bel.trans (hs.fr.below h.bel.size (fun k hk=>by omega))⟩
theorem Op0.alloc {w wr:World}{s:ByteArray}{r:RS}(h:Op0 w s r wr)(cs:Array Value):OpI w wr.heap.size s r cs (wr.alloc (.cells cs 29)):=
 ⟨h.at0.alloc _,h.rd.alloc _,At.new _ _ _,h.bel.alloc h.bel.size _,h.rd.lt⟩
namespace Own
theorem Vl (s:ByteArray):∀ (n:Nat) (r:RS),Es (Ci s n r).1<=n*s.size
 | 0,_=>Nat.zero_le _
 | n + 1,r => by
   have h1:=Vl s n (D9 s (stT s r).2).2
   have h2:(stT s r).1.size<=s.size:=mX
   show(stT s r).1.size+Es (Ci s n (D9 s (stT s r).2).2).1<=(n+1)*s.size
   rw[Nat.succ_mul]
   omega
theorem Vm (s:ByteArray):∀ (n:Nat) (r:RS),∀ a∈(Ci s n r).1,a.sig.index<9223372036854775808/\a.sig.chains.length<=s.size/\a.sig.path.length<=s.size
 | 0,_,a,h=>by cases h
 | n + 1,r,a,h => by
   rcases List.mem_cons.1 (show a∈⟨(stT s r).1,(D9 s (stT s r).2).1⟩::(Ci s n (D9 s (stT s r).2).2).1 from h) with rfl|h
   ·refine⟨?_,eU,eU⟩
    have:(stN s (stT s r).2).1<9223372036854775808:=tN
    show(((stN s (stT s r).2).1:Nat):Int)<_
    omega
   ·exact Vm s n _ a h
def eY (w:World)(R:Op × Int)(e:Ending)(w' : World):Prop:=
 (∃ mv av,e=.returned (.tuple #[opV R.1 mv av,.int .i64 R.2])/\Aq 2 DU (fun k=>w.heap.size<=k) w' mv R.1.members/\Aq 4 RAp (fun k=>w.heap.size<=k) w' av R.1.Aa)/\Below w.heap.size w w'
end Own
def Qc (w:World)(b:Nat)(v0 v1 v2 v3 v4 v5 v6:Value):World:=((((((w.setCell ⟨b,0,none⟩ v0).setCell ⟨b,1,none⟩ v1).setCell ⟨b,2,none⟩ v2).setCell ⟨b,3,none⟩ v3).setCell ⟨b,4,none⟩ v4).setCell ⟨b,5,none⟩ v5).setCell ⟨b,6,none⟩ v6
theorem At.Qc {w:World}{b:Nat}{t:TypeId}{a0 a1 a2 a3 a4 a5 a6:Value}(h:At w b t #[a0,a1,a2,a3,a4,a5,a6])(v0 v1 v2 v3 v4 v5 v6:Value):At (Qc w b v0 v1 v2 v3 v4 v5 v6) b t #[v0,v1,v2,v3,v4,v5,v6]:=by
 have:=((((((h.set 0 v0).set 1 v1).set 2 v2).set 3 v3).set 4 v4).set 5 v5).set 6 v6
 simp only[List.setIfInBounds_toArray,List.set_cons_zero,List.set_cons_succ] at this
 exact this
theorem WY {B b:Nat}{w0 w:World}(h:Below B w0 w)(hb:B<=b)(v0 v1 v2 v3 v4 v5 v6:Value):Below B w0 (Qc w b v0 v1 v2 v3 v4 v5 v6):=
 ((((((h.setCell (p:=⟨b,0,none⟩) hb v0).setCell (p:=⟨b,1,none⟩) hb v1).setCell (p:=⟨b,2,none⟩) hb v2).setCell (p:=⟨b,3,none⟩) hb v3).setCell (p:=⟨b,4,none⟩) hb v4).setCell (p:=⟨b,5,none⟩) hb v5).setCell (p:=⟨b,6,none⟩) hb v6
theorem Nv {w:World}{b k:Nat}(h:k≠b)(v0 v1 v2 v3 v4 v5 v6:Value):(Qc w b v0 v1 v2 v3 v4 v5 v6).heap[k]? = w.heap[k]? :=by
 unfold Qc
 rw[zo h,zo h,zo h,zo h,zo h,zo h,zo h]
theorem zbC {w:World}{b:Nat}(v0 v1 v2 v3 v4 v5 v6:Value):(Qc w b v0 v1 v2 v3 v4 v5 v6).heap.size=w.heap.size:=by simp[Qc,World.setCell]
theorem WZ (s:ByteArray)(w:World)(hM:Il w)(hs:s.size<=1000000):
 Calls Tryz.prog 26 #[.string s] w (Own.eY w (Own.MJ s)):=by
 obtain⟨D,hD⟩:∃ D,D=Own.MJ s:=⟨_,rfl⟩
 obtain⟨R,hR⟩:∃ R,R=Own.eY w D:=⟨_,rfl⟩
 rw[<- hD,<- hR]
 rw[Own.nC] at hD
 obtain⟨⟨kd,r1⟩,h1⟩:∃ y,stN s ⟨0,0⟩=y:=⟨_,rfl⟩
 obtain⟨⟨pre,r2⟩,h2⟩:∃ y,stT s r1=y:=⟨_,rfl⟩
 obtain⟨⟨n,r3⟩,h3⟩:∃ y,stC s 8 r2=y:=⟨_,rfl⟩
 obtain⟨⟨ms,r4⟩,h4⟩:∃ y,Own.Ch s n r3=y:=⟨_,rfl⟩
 obtain⟨⟨th,r5⟩,h5⟩:∃ y,stN s r4=y:=⟨_,rfl⟩
 obtain⟨⟨nm,r6⟩,h6⟩:∃ y,stT s r5=y:=⟨_,rfl⟩
 obtain⟨⟨pb,r7⟩,h7⟩:∃ y,stT s r6=y:=⟨_,rfl⟩
 obtain⟨⟨m,r8⟩,h8⟩:∃ y,stC s 8 r7=y:=⟨_,rfl⟩
 obtain⟨⟨aps,r9⟩,h9⟩:∃ y,Own.Ci s m r8=y:=⟨_,rfl⟩
 have hop:(Own.stOp s).op=⟨kd,pre,ms,th,nm,pb,aps⟩/\(Own.stOp s).aps.2=r9:=by
  unfold Own.stOp Own.nu.op
  dsimp only
  simp only[h1,h2,h3,h4,h5,h6,h7,h8,h9]
  refine⟨?_,?_⟩<;>first|rfl|trivial
 rw[hop.1,hop.2] at hD
 have l1:r1.a<=s.size:=by have:=OD (s:=s) (r:=⟨0,0⟩) (Nat.zero_le _);rw[h1] at this;exact this
 have l2:r2.a<=s.size:=by have:=FJ (s:=s) (r:=r1) l1;rw[h2] at this;exact this
 have l3:r3.a<=s.size:=by have:=WU (s:=s) (m:=8) (r:=r2) l2;rw[h3] at this;exact this
 have n8:n<=8:=by have:=Zf (s:=s) (m:=8) (r:=r2);rw[show(((8:Nat):Int))=8 from rfl,h3] at this;exact this
 have l4:r4.a<=s.size:=by have:=Own.OG s n r3 l3;rw[h4] at this;exact this
 have l5:r5.a<=s.size:=by have:=OD (s:=s) (r:=r4) l4;rw[h5] at this;exact this
 have l6:r6.a<=s.size:=by have:=FJ (s:=s) (r:=r5) l5;rw[h6] at this;exact this
 have l7:r7.a<=s.size:=by have:=FJ (s:=s) (r:=r6) l6;rw[h7] at this;exact this
 have l8:r8.a<=s.size:=by have:=WU (s:=s) (m:=8) (r:=r7) l7;rw[h8] at this;exact this
 have m8:m<=8:=by have:=Zf (s:=s) (m:=8) (r:=r7);rw[show(((8:Nat):Int))=8 from rfl,h8] at this;exact this
 have l9:r9.a<=s.size:=by have:=Own.SI s m r8 l8;rw[h9] at this;exact this
 have yX:ms.length=n:=by have:=Own.LW s n r3;rw[h4] at this;exact this
 have yY:Own.Es aps<=8000000:=by
  have:=Own.Vl s m r8
  rw[h9] at this
  have h:=Nat.mul_le_mul m8 hs
  exact Nat.le_trans this h
 have yZ:∀ a∈aps,a.sig.index<9223372036854775808/\a.sig.chains.length<=s.size/\a.sig.path.length<=s.size:=by
  have:=Own.Vm s m r8
  rw[h9] at this
  exact this
 have HR:=zh hR;have HD:=zh hD;have H1:=zh h1;have H2:=zh h2;have H3:=zh h3;have H4:=zh h4;have H5:=zh h5;have H6:=zh h6;have H7:=zh h7;have H8:=zh h8;have H9:=zh h9
 have ML:=zh yX;have AS:=zh yY;have AA:=zh yZ;have HM:=zh hM
 clear hR hD h1 h2 h3 h4 h5 h6 h7 h8 h9 hop yX yY yZ hM
 go_enter Tryz.func26,Tryz.ntmps26
 go_wp2_with fail
 refine(kC s _).mono ?_
 rintro e _ ⟨rfl,rfl⟩
 have hde:Op0 w s ⟨0,0⟩ ((w.alloc (.cells #[.int .i64 0,.string ⟨#[]⟩,.slice none 0 0,.int .i64 0,.string ⟨#[]⟩,.string ⟨#[]⟩,.slice none 0 0] 29)).alloc (.cells (rdV s 0 0) 157)):=
  ⟨(At.new w _ _).alloc _,At.new1 w _ _ _,zb.alloc (by simp) _⟩
 have O1:=zh hde;clear hde
 go_wp2_with fail
 generalize (w.alloc (.cells #[.int .i64 0,.string ⟨#[]⟩,.slice none 0 0,.int .i64 0,.string ⟨#[]⟩,.string ⟨#[]⟩,.slice none 0 0] 29)).alloc (.cells (rdV s 0 0) 157)=w2 at*
 refine(OE (w.heap.size+1) s _ _ H1.out O1.out.rd (Nat.zero_le _) hs).mono ?_
 rintro e w3 ⟨rfl,hst⟩
 have O2:=zh (O1.out.step hst);clear hst
 go_wp2_with fail
 refine(Gm (w.heap.size+1) s _ _ H2.out O2.out.rd l1 hs).mono ?_
 rintro e w4 ⟨rfl,hst⟩
 have O3:=zh (O2.out.step hst);clear hst O1 O2
 go_wp2_with fail
 have P0:=zh (O3.out.alloc #[.int .i64 kd,.string pre,.slice none 0 0,.int .i64 0,.string ⟨#[]⟩,.string ⟨#[]⟩,.slice none 0 0])
 generalize w4.alloc (.cells #[.int .i64 kd,.string pre,.slice none 0 0,.int .i64 0,.string ⟨#[]⟩,.string ⟨#[]⟩,.slice none 0 0] 29)=w5 at*
 obtain⟨g,hg⟩:∃ g,g=w4.heap.size:=⟨_,rfl⟩
 rw[<- hg] at P0 ⊢
 clear hg O3
 refine(SF (w.heap.size+1) s 8 _ _ H3.out P0.out.rd l2 hs).mono ?_
 rintro e w6 ⟨rfl,hst⟩
 have P1:=zh (P0.out.step hst);clear hst P0
 go_wp2
 go_loopw [19] (fun i wr=>∃ (k:Nat) (l:List Own.Member) (v:Value) (r:RS),k<=n/\i=.int .i64 k/\Own.Ch s k r3=(l,r)/\r.a<=s.size/\wr.ownsRow (g+1) 76 2 v l.length (l.flatMap Own.Cy)/\OpI w g s r #[.int .i64 kd,.string pre,v,.int .i64 0,.string ⟨#[]⟩,.string ⟨#[]⟩,.slice none 0 0] wr) (fun i _=>n-(intOf i).toNat)
 case atStart=>exact⟨0,[],_,r3,by omega,rfl,rfl,l3,⟨rfl,.inl ⟨rfl,rfl⟩⟩,P1.out⟩
 case round=>
  obtain⟨k,l,v,r,hk,rfl,hms,hra,hown,hpi⟩:=hrel
  have hll:l.length=k:=by have:=Own.LW s k r3;rw[hms] at this;exact this
  obtain⟨va,vm,vc,rfl⟩:=Ac hown
  obtain rfl:=Ba hown
  have HO:=zh hown;have P2:=zh hpi;have HMS:=zh hms;have HLL:=zh hll
  clear hown hpi hms hll P1
  by_cases hlt:k<n
  case neg=>
   have hke:k=n:=by omega
   have dk:decide ((k:Int)<n)=false:=zf
   have hms:=HMS.out
   rw[hke,H4.out] at hms
   obtain⟨rfl,rfl⟩:l=ms/\r=r4:=⟨(congrArg Prod.fst hms).symm,(congrArg Prod.snd hms).symm⟩
   clear hms HMS
   clear hk hke HLL
   have ZM:=zh (show l.length<=8 by rw[ML.out];exact n8)
   go_wp2_with fail
   refine(OE (w.heap.size+1) s _ _ H5.out P2.out.rd l4 hs).mono ?_
   rintro e w7 ⟨rfl,hst⟩
   have P3:=zh (P2.out.step hst);have HO3:=zh (OJ HO.out hst (by have:=P2.out.g2;omega))
   clear hst
   go_wp2_with fail
   refine(Gm (w.heap.size+1) s _ _ H6.out P3.out.rd l5 hs).mono ?_
   rintro e w8 ⟨rfl,hst⟩
   have P4:=zh (P3.out.step hst);have HO4:=zh (OJ HO3.out hst (by have:=P3.out.g2;omega))
   clear hst
   go_wp2_with fail
   refine(Gm (w.heap.size+1) s _ _ H7.out P4.out.rd l6 hs).mono ?_
   rintro e w9 ⟨rfl,hst⟩
   have P5:=zh (P4.out.step hst);have HO5:=zh (OJ HO4.out hst (by have:=P4.out.g2;omega))
   clear hst
   clear P2 P3 P4 HO HO3 HO4
   have c0:=P5.out.op.cell 0;have c1:=P5.out.op.cell 1;have c2:=P5.out.op.cell 2;have c3:=P5.out.op.cell 3;have c4:=P5.out.op.cell 4;have c5:=P5.out.op.cell 5;have c6:=P5.out.op.cell 6
   have c0f:=P5.out.op.free 0;have c1f:=P5.out.op.free 1;have c2f:=P5.out.op.free 2;have c3f:=P5.out.op.free 3;have c4f:=P5.out.op.free 4;have c5f:=P5.out.op.free 5;have c6f:=P5.out.op.free 6
   simp only[zg] at c0 c1 c2 c3 c4 c5 c6
   go_wp2_with fail
   have P6:=zh (((P5.out.put 3 (.int .i64 th)).put 4 (.string nm)).put 5 (.string pb))
   have HO6:=zh (Ae (w':=((w9.setCell ⟨g,3,none⟩ (.int .i64 th)).setCell ⟨g,4,none⟩ (.string nm)).setCell ⟨g,5,none⟩ (.string pb)) HO5.out (fun k hk=>by
    have hne:k≠g:=by have:=Ak HO5.out k hk;omega
    rw[zo hne,zo hne,zo hne]))
   clear P5 HO5 c0 c1 c2 c3 c4 c5 c6 c0f c1f c2f c3f c4f c5f c6f
   generalize ((w9.setCell ⟨g,3,none⟩ (.int .i64 th)).setCell ⟨g,4,none⟩ (.string nm)).setCell ⟨g,5,none⟩ (.string pb)=w10 at*
   refine(SF (w.heap.size+1) s 8 _ _ H8.out P6.out.rd l7 hs).mono ?_
   rintro e w11 ⟨rfl,hst⟩
   have P7:=zh (P6.out.step hst);have HO7:=zh (OJ HO6.out hst (by have:=P6.out.g2;omega))
   clear hst P6 HO6
   go_wp2
   go_loopw [44] (fun i wr=>∃ (k:Nat) (la:List Own.Ai) (v:Value) (r:RS),k<=m/\i=.int .i64 k/\Own.Ci s k r8=(la,r)/\r.a<=s.size/\Own.CJ (g+1) wr v la/\wr.ownsRow (g+1) 76 2 (.slice va l.length vc) l.length (l.flatMap Own.Cy)/\OpI w g s r #[.int .i64 kd,.string pre,.slice va l.length vc,.int .i64 th,.string nm,.string pb,v] wr) (fun i _=>m-(intOf i).toNat)
   case atStart=>exact⟨0,[],_,r8,by omega,rfl,rfl,l8,Own.CJ.nil _ _,HO7.out,P7.out⟩
   case round=>
    obtain⟨k,la,v,r,hk,rfl,hms,hra,hown,hmem,hpi⟩:=hrel
    have hll:la.length=k:=by have:=Own.Vh s k r8;rw[hms] at this;exact this
    obtain⟨ua,uc,rfl⟩:=hown.len
    have HO:=zh hown;have P8:=zh hpi;have HMS:=zh hms;have HLL:=zh hll;have HMM:=zh hmem
    clear hown hpi hms hll hmem P7 HO7
    by_cases hlt:k<m
    case neg=>
     have hke:k=m:=by omega
     have dk:decide ((k:Int)<m)=false:=zf
     have hms:=HMS.out
     rw[hke,H9.out] at hms
     obtain⟨rfl,rfl⟩:la=aps/\r=r9:=⟨(congrArg Prod.fst hms).symm,(congrArg Prod.snd hms).symm⟩
     clear hms HMS hk hke HLL
     have c0:=P8.out.op.cell 0;have c1:=P8.out.op.cell 1;have c2:=P8.out.op.cell 2;have c3:=P8.out.op.cell 3;have c4:=P8.out.op.cell 4;have c5:=P8.out.op.cell 5;have c6:=P8.out.op.cell 6
     have c0f:=P8.out.op.free 0;have c1f:=P8.out.op.free 1;have c2f:=P8.out.op.free 2;have c3f:=P8.out.op.free 3;have c4f:=P8.out.op.free 4;have c5f:=P8.out.op.free 5;have c6f:=P8.out.op.free 6
     simp only[zg] at c0 c1 c2 c3 c4 c5 c6
     have hen:=Nu ⟨kd,pre,l,th,nm,pb,la⟩ (.slice va l.length vc) (.slice ua la.length uc) wr (HM.out.below P8.out.bel) (Cq (enc:=Own.Cy) (fun _=>rfl) (fun _=>rfl) (Bc.own HMM.out) rfl (fun _ _=>trivial)) HO.out.mG.out (by have:=ZM.out;show l.length<=_;omega) (by have:=AS.out;show Own.Es la<=_;omega) (fun a ha=>by obtain⟨q1,q2,q3⟩:=AA.out a ha;exact⟨q1,by omega,by omega⟩)
     unfold Own.opV at hen
     dsimp only at hen
     have HEN:=zh hen;clear hen
     go_wp2_with fail
     refine HEN.out.mono ?_
     rintro e w12 ⟨rfl,hb⟩
     have P9:=zh (P8.out.under hb);have HO9:=zh (HO.out.below hb);have HM9:=zh (own_below HMM.out hb)
     clear hb HEN P8 HO HMM c0 c1 c2 c3 c4 c5 c6 c0f c1f c2f c3f c4f c5f c6f
     cases hfu:Own.Fv ⟨kd,pre,l,th,nm,pb,la⟩ with
     | false =>
       have HE:=zh (show D=(.none,9) by rw[HD.out,hfu,if_neg (fun h=>by cases h.2)])
       rw[show Own.Dh ⟨kd,pre,l,th,nm,pb,la⟩=(⟨#[]⟩,1) by unfold Own.Dh;rw[hfu];rfl]
       clear hfu
       have y0:=P9.out.at0.free 0;have y1:=P9.out.at0.free 1;have y2:=P9.out.at0.free 2;have y3:=P9.out.at0.free 3;have y4:=P9.out.at0.free 4;have y5:=P9.out.at0.free 5;have y6:=P9.out.at0.free 6
       have z0:=P9.out.at0.cell 0;have z1:=P9.out.at0.cell 1;have z2:=P9.out.at0.cell 2;have z3:=P9.out.at0.cell 3;have z4:=P9.out.at0.cell 4;have z5:=P9.out.at0.cell 5;have z6:=P9.out.at0.cell 6
       simp only[zg] at z0 z1 z2 z3 z4 z5 z6
       go_wp2_with fail
       refine BJ rfl rfl rfl (AJ (At.Qc P9.out.at0 _ _ _ _ _ _ _) Tryz.underlying29 rfl EX) ?_
       rw[HR.out,HE.out]
       exact⟨⟨_,_,rfl,Aq.nil _ _,Aq.nil _ _⟩,WY (b:=w.heap.size) P9.out.bel (Nat.le_refl _) _ _ _ _ _ _ _⟩
     | true =>
       have HD2:=zh (show D=if DX s r.a r.e=0 then (⟨kd,pre,l,th,nm,pb,la⟩,0) else (.none,9) by
        rw[HD.out,hfu]
        by_cases hz:DX s r.a r.e=0
        ·rw[if_pos ⟨hz,rfl⟩,if_pos hz]
        ·rw[if_neg (fun h=>hz h.1),if_neg hz])
       obtain⟨EB,hEB⟩:∃ EB,Own.Dh ⟨kd,pre,l,th,nm,pb,la⟩=(EB,0):=⟨_,by unfold Own.Dh;rw[if_pos hfu]⟩
       rw[hEB]
       clear hfu hEB
       go_wp2_with fail
       refine(je (w.heap.size+1) s r.a r.e _ P9.out.rd).mono ?_
       rintro e _ ⟨rfl,rfl⟩
       have hbd:Below w12.heap.size w12 w12.drew:=(Below.refl _ _).drew
       have P10:=zh (P9.out.under hbd);have zaU:=zh (HO9.out.below hbd);have tO:=zh (own_below HM9.out hbd)
       clear hbd P9 HO9 HM9
       generalize w12.drew=w13 at*
       by_cases hz:DX s r.a r.e=0
       case neg=>
        have HE:=zh (show D=(.none,9) by rw[HD2.out,if_neg hz])
        have dz:(DX s r.a r.e != (0:Int))=true:=by simpa using hz
        clear hz
        have y0:=P10.out.at0.free 0;have y1:=P10.out.at0.free 1;have y2:=P10.out.at0.free 2;have y3:=P10.out.at0.free 3;have y4:=P10.out.at0.free 4;have y5:=P10.out.at0.free 5;have y6:=P10.out.at0.free 6
        have z0:=P10.out.at0.cell 0;have z1:=P10.out.at0.cell 1;have z2:=P10.out.at0.cell 2;have z3:=P10.out.at0.cell 3;have z4:=P10.out.at0.cell 4;have z5:=P10.out.at0.cell 5;have z6:=P10.out.at0.cell 6
        simp only[zg] at z0 z1 z2 z3 z4 z5 z6
        go_wp2_with fail
        refine BJ rfl rfl rfl (AJ (At.Qc P10.out.at0 _ _ _ _ _ _ _) Tryz.underlying29 rfl EX) ?_
        rw[HR.out,HE.out]
        exact⟨⟨_,_,rfl,Aq.nil _ _,Aq.nil _ _⟩,WY (b:=w.heap.size) P10.out.bel (Nat.le_refl _) _ _ _ _ _ _ _⟩
       have HE:=zh (show D=(⟨kd,pre,l,th,nm,pb,la⟩,0) by rw[HD2.out,if_pos hz])
       rw[hz]
       clear hz
       have c0:=P10.out.op.cell 0;have c1:=P10.out.op.cell 1;have c2:=P10.out.op.cell 2;have c3:=P10.out.op.cell 3;have c4:=P10.out.op.cell 4;have c5:=P10.out.op.cell 5;have c6:=P10.out.op.cell 6
       have c0f:=P10.out.op.free 0;have c1f:=P10.out.op.free 1;have c2f:=P10.out.op.free 2;have c3f:=P10.out.op.free 3;have c4f:=P10.out.op.free 4;have c5f:=P10.out.op.free 5;have c6f:=P10.out.op.free 6
       simp only[zg] at c0 c1 c2 c3 c4 c5 c6
       clear c0f c1f c2f c3f c4f c5f c6f
       have y0:=P10.out.at0.free 0;have y1:=P10.out.at0.free 1;have y2:=P10.out.at0.free 2;have y3:=P10.out.at0.free 3;have y4:=P10.out.at0.free 4;have y5:=P10.out.at0.free 5;have y6:=P10.out.at0.free 6
       have z0:=P10.out.at0.cell 0;have z1:=P10.out.at0.cell 1;have z2:=P10.out.at0.cell 2;have z3:=P10.out.at0.cell 3;have z4:=P10.out.at0.cell 4;have z5:=P10.out.at0.cell 5;have z6:=P10.out.at0.cell 6
       simp only[zg] at z0 z1 z2 z3 z4 z5 z6
       go_wp2_with fail
       refine BJ rfl rfl rfl (AJ (At.Qc P10.out.at0 _ _ _ _ _ _ _) Tryz.underlying29 rfl EX) ?_
       rw[HR.out,HE.out]
       have hg2:=P10.out.g2
       refine⟨⟨_,_,rfl,?_,?_⟩,WY (b:=w.heap.size) P10.out.bel (Nat.le_refl _) _ _ _ _ _ _ _⟩
       ·refine Cq (enc:=Own.Cy) (fun _=>rfl) (fun _=>rfl) (Bc.own (Ae tO.out (fun k hk=>Nv (by have:=Ak tO.out k hk;omega) _ _ _ _ _ _ _))) rfl (fun k hk=>by have:=Ak tO.out k hk;omega)
       ·exact((zaU.out.keep (Nat.le_of_eq (zbC (b:=w.heap.size) _ _ _ _ _ _ _).symm) (fun k hk _=>Nv (by omega) _ _ _ _ _ _ _)).list).mono (fun k hk _=>by omega)
    have dk:decide ((k:Int)<m)=true:=zt
    obtain⟨⟨x,ra⟩,hx⟩:∃ y,stT s r=y:=⟨_,rfl⟩
    obtain⟨⟨ix,rb⟩,hix⟩:∃ y,stN s ra=y:=⟨_,rfl⟩
    obtain⟨⟨ch,rc⟩,hch⟩:∃ y,stL s rb=y:=⟨_,rfl⟩
    obtain⟨⟨pa,rd⟩,hpa⟩:∃ y,stL s rc=y:=⟨_,rfl⟩
    have hla:ra.a<=s.size:=by have:=FJ (s:=s) (r:=r) hra;rw[hx] at this;exact this
    have hlb:rb.a<=s.size:=by have:=OD (s:=s) (r:=ra) hla;rw[hix] at this;exact this
    have hlc:rc.a<=s.size:=by have:=WW (s:=s) (r:=rb) hlb;rw[hch] at this;exact this
    have hld:rd.a<=s.size:=by have:=WW (s:=s) (r:=rc) hlc;rw[hpa] at this;exact this
    have hsn:Own.Ci s (k+1) r8=(la++[⟨x,⟨ix,ch,pa⟩⟩],rd):=by
     rw[Own.SH,HMS.out]
     dsimp only
     rw[hx]
     unfold Own.D9
     dsimp only
     rw[hix]
     dsimp only
     rw[hch]
     dsimp only
     rw[hpa]
    have HX:=zh hx;have HIX:=zh hix;have HCH:=zh hch;have HPA:=zh hpa;have HSN:=zh hsn
    clear hx hix hch hpa hsn HMS
    go_wp2_with fail
    refine(Gm (w.heap.size+1) s _ _ HX.out P8.out.rd hra hs).mono ?_
    rintro e w12 ⟨rfl,hst⟩
    have P9:=zh (P8.out.step hst);have F1:=zh hst.fr
    clear hst P8
    go_wp2_with fail
    have hbx:At (w12.alloc (.cells #[.string x,.int .i64 0,.slice none 0 0,.slice none 0 0] 72)) w12.heap.size 72 #[.string x,.int .i64 0,.slice none 0 0,.slice none 0 0]:=At.new _ _ _
    have P10:=zh (P9.out.under ((Below.refl w12.heap.size w12).alloc (Nat.le_refl _) (.cells #[.string x,.int .i64 0,.slice none 0 0,.slice none 0 0] 72)));have F2:=zh (F1.out.alloc (.cells #[.string x,.int .i64 0,.slice none 0 0,.slice none 0 0] 72))
    have hgb:g<w12.heap.size/\wr.heap.size<=w12.heap.size:=⟨P9.out.op.lt,F1.out.size⟩
    have BX:=zh hbx
    clear hbx P9 F1
    generalize w12.alloc (.cells #[.string x,.int .i64 0,.slice none 0 0,.slice none 0 0] 72)=w13 at*
    obtain⟨b,hb⟩:∃ b,b=w12.heap.size:=⟨_,rfl⟩
    rw[<- hb] at BX hgb ⊢
    clear hb
    refine(OE (w.heap.size+1) s _ _ HIX.out P10.out.rd hla hs).mono ?_
    rintro e w14 ⟨rfl,hst⟩
    have hbr:∀ k,g+1<=k->¬ (k=w.heap.size+1):=fun k hk=>by have:=P10.out.g2;omega
    have HBR:=zh hbr
    have P11:=zh (P10.out.step hst);have F3:=zh (F2.out.trans hst.fr (fun _ h=>.inl h));have BX1:=zh (hst.fr.at BX.out (hbr b (by omega)))
    clear hst P10 F2 BX hbr
    go_wp2_with fail
    refine(SG (w.heap.size+1) s _ _ HCH.out P11.out.rd hlb hs).mono ?_
    rintro e w15 ⟨cv,rfl,hcs,hcc,hcf,hst⟩
    have P12:=zh (P11.out.step hst);have F4:=zh (F3.out.trans hst.fr (fun _ h=>.inl h));have BX2:=zh (hst.fr.at BX1.out (HBR.out b (by omega)))
    have nD:b<w14.heap.size:=BX1.out.lt
    have C1:=zh hcs;have CC:=zh hcc;have CF:=zh (fun k hk=>Nat.lt_of_lt_of_le nD (hcf k hk))
    obtain⟨ca,cm,rfl⟩:=hcs.len
    clear hst P11 F3 BX1 hcs hcc hcf nD
    go_wp2_with fail
    refine(SG (w.heap.size+1) s _ _ HPA.out P12.out.rd hlc hs).mono ?_
    rintro e w16 ⟨pv,rfl,hcs,hcc,hcf,hst⟩
    have P13:=zh (P12.out.step hst);have F5:=zh (F4.out.trans hst.fr (fun _ h=>.inl h));have BX3:=zh (hst.fr.at BX2.out (HBR.out b (by omega)))
    have nD:b<w15.heap.size:=BX2.out.lt
    have C2:=zh (C1.out.keep (w':=w16) (fun k hk hl=>hst.fr.keep k hl (HBR.out k (by have:=CF.out k hk;omega))))
    have D1:=zh hcs;have DC:=zh hcc;have DF:=zh (fun k hk=>Nat.lt_of_lt_of_le nD (hcf k hk))
    obtain⟨pa',pm,rfl⟩:=hcs.len
    clear hst P12 F4 BX2 hcs hcc hcf nD C1
    have y0:=BX3.out.cell 0;have y1:=BX3.out.cell 1;have y2:=BX3.out.cell 2;have y3:=BX3.out.cell 3
    have y1f:=BX3.out.free 1;have y2f:=BX3.out.free 2;have y3f:=BX3.out.free 3
    simp only[zg] at y0 y1 y2 y3
    go_upto_region 13 with fail
    have hg2:=P13.out.g2
    have P14:=zh (((P13.out.far hgb.1 1 (.int .i64 ix)).far hgb.1 2 (.slice ca ch.length cm)).far hgb.1 3 (.slice pa' pa.length pm))
    have F6:=zh (((F5.out.setCell (p:=⟨b,1,none⟩) (.inr hgb.2) (.int .i64 ix)).setCell (p:=⟨b,2,none⟩) (.inr hgb.2) (.slice ca ch.length cm)).setCell (p:=⟨b,3,none⟩) (.inr hgb.2) (.slice pa' pa.length pm))
    have hbx:=((BX3.out.set 1 (.int .i64 ix)).set 2 (.slice ca ch.length cm)).set 3 (.slice pa' pa.length pm)
    simp only[List.setIfInBounds_toArray,List.set_cons_zero,List.set_cons_succ] at hbx
    have Ip:∀ k,b<k->(((w16.setCell ⟨b,1,none⟩ (.int .i64 ix)).setCell ⟨b,2,none⟩ (.slice ca ch.length cm)).setCell ⟨b,3,none⟩ (.slice pa' pa.length pm)).heap[k]? = w16.heap[k]? :=fun k hk=>by
     have hne:k≠b:=by omega
     rw[zo hne,zo hne,zo hne]
    have C3:=zh (C2.out.keep (fun k hk _=>Ip k (CF.out k hk)))
    have D2:=zh (D1.out.keep (fun k hk _=>Ip k (DF.out k hk)))
    have BX4:=zh hbx
    clear hbx Ip y0 y1 y2 y3 y1f y2f y3f BX3 P13 F5 C2 D1
    generalize ((w16.setCell ⟨b,1,none⟩ (.int .i64 ix)).setCell ⟨b,2,none⟩ (.slice ca ch.length cm)).setCell ⟨b,3,none⟩ (.slice pa' pa.length pm)=w17 at*
    have y0:=BX4.out.cell 0;have y1:=BX4.out.cell 1;have y2:=BX4.out.cell 2;have y3:=BX4.out.cell 3
    have c6:=P14.out.op.cell 6
    simp only[zg] at y0 y1 y2 y3 c6
    have pQ:Below w17.heap.size w17 (w17.alloc (.cells #[.string x,.int .i64 ix,.slice ca ch.length cm,.slice pa' pa.length pm] 72)):=zb
    have hF7:=F6.out.alloc (.cells #[.string x,.int .i64 ix,.slice ca ch.length cm,.slice pa' pa.length pm] 72)
    have hkeep:∀ k,g+1<=k->k<wr.heap.size->(w17.alloc (.cells #[.string x,.int .i64 ix,.slice ca ch.length cm,.slice pa' pa.length pm] 72)).heap[k]? = wr.heap[k]? :=fun k hk hl=>hF7.keep k hl (HBR.out k hk)
    have hap:=HO.out.keep hF7.size hkeep
    have hmm:=Ae HMM.out (fun k hk=>hkeep k (Ak HMM.out k hk) (Own.IZ HMM.out k hk))
    obtain⟨css,e1,e2,e3⟩:=hap
    obtain⟨tQ,z1,z2,z3⟩:=id HO.out
    have hob:∀ k,(Value.slice ua la.length uc).ownBlock=some k->k<wr.heap.size:=Own.IZ z2
    have hgw:g+1<=(w17.alloc (.cells #[.string x,.int .i64 ix,.slice ca ch.length cm,.slice pa' pa.length pm] 72)).heap.size:=by have:=P14.out.op.lt;rw[World.size_alloc];omega
    have hsc:Own.Jq (fun k=>g+1<=k/\(Value.slice ua la.length uc).ownBlock≠some k) (w17.alloc (.cells #[.string x,.int .i64 ix,.slice ca ch.length cm,.slice pa' pa.length pm] 72)) (.slice ca ch.length cm) ch:=⟨C3.out.below pQ,CC.out,fun _ k hk=>by
     have h1:=CF.out k hk
     exact⟨by omega,fun e=>by have:=hob k e;omega⟩⟩
    have hsp:Own.Jq (fun k=>g+1<=k/\(Value.slice ua la.length uc).ownBlock≠some k) (w17.alloc (.cells #[.string x,.int .i64 ix,.slice ca ch.length cm,.slice pa' pa.length pm] 72)) (.slice pa' pa.length pm) pa:=⟨D2.out.below pQ,DC.out,fun _ k hk=>by
     have h1:=DF.out k hk
     exact⟨by omega,fun e=>by have:=hob k e;omega⟩⟩
    have P18:=zh (P14.out.under pQ);have tT:=zh hmm
    have E1:=zh e1;have E2:=zh e2;have E3:=zh e3;have HSC:=zh hsc;have HSP:=zh hsp;have HGW:=zh hgw
    have hrw:=Cx w17 72 #[.string x,.int .i64 ix,.slice ca ch.length cm,.slice pa' pa.length pm] 4 1 1 rfl
    have HRW:=zh hrw
    have zbs:la.length+1<=8:=by rw[HLL.out];omega
    clear hrw hgw hsc hsp hob z1 z2 z3 tQ e1 e2 e3 hmm hkeep hF7 pQ HO F6 C3 D2 HMM hgb
    go_wp2_with (at_builtin;go_must (refine Ah KX rfl _ _ rfl (g+1) la.length (.slice ua la.length uc) css.flatten rfl E2.out (.slice (some ⟨w17.heap.size,0,none⟩) 1 1) 1 [.string x,.int .i64 ix,.slice ca ch.length cm,.slice pa' pa.length pm] rfl HRW.out (by intro u hu;simp at hu;rcases hu with rfl|rfl|rfl|rfl<;>rfl) (by omega) (by omega) HGW.out ?_);intro v9 w19 ho9 hg9 hw9;obtain⟨ya,ym,yc,rfl⟩:=Ac ho9;have zq:∀ k,(Value.slice va l.length vc).ownBlock=some k->some k≠(Value.slice ua la.length uc).ownBlock:=(fun k hk e=>Ho tT.out E2.out (by decide) k hk e.symm);have HM9:=zh (Ae tT.out (fun k hk=>hg9.block k (Own.IZ tT.out k hk) (zq k hk)));have AP9:=zh (Own.CJ.push (x:=⟨x,⟨ix,ch,pa⟩⟩) E1.out E2.out E3.out HSC.out HSP.out ho9 hg9 hw9);have P19:=zh (P18.out.grown hg9 (Ak E2.out));clear ho9 hg9 hw9 zq;have c6:=P19.out.op.cell 6;have c6f:=P19.out.op.free 6;simp only[zg] at c6)
    refine⟨⟨k+1,la++[⟨x,⟨ix,ch,pa⟩⟩],.slice ya ym yc,rd,by omega,by go_num,HSN.out,hld,?_,?_,P19.out.put 6 _⟩,by simp[intOf];omega⟩
    ·exact AP9.out.keep (by simp[World.setCell]) (fun k hk _=>zo (by show k≠g;omega))
    ·exact Ae HM9.out (fun k hk=>zo (by have:=Ak HM9.out k hk;show k≠g;omega))
  have dk:decide ((k:Int)<n)=true:=zt
  obtain⟨⟨x,ra⟩,hx⟩:∃ y,stT s r=y:=⟨_,rfl⟩
  obtain⟨⟨y,rb⟩,hy⟩:∃ y,stT s ra=y:=⟨_,rfl⟩
  have hla:ra.a<=s.size:=by have:=FJ (s:=s) (r:=r) hra;rw[hx] at this;exact this
  have hlb:rb.a<=s.size:=by have:=FJ (s:=s) (r:=ra) hla;rw[hy] at this;exact this
  have hsn:Own.Ch s (k+1) r3=(l++[⟨x,y⟩],rb):=by
   rw[Own.PD,HMS.out]
   dsimp only
   rw[hx]
   dsimp only
   rw[hy]
  have HX:=zh hx;have HY:=zh hy;have HSN:=zh hsn
  clear hx hy hsn HMS
  go_wp2_with fail
  refine(Gm (w.heap.size+1) s _ _ HX.out P2.out.rd hra hs).mono ?_
  rintro e w7 ⟨rfl,hst⟩
  have P3:=zh (P2.out.step hst);have HO3:=zh (OJ HO.out hst (by have:=P2.out.g2;omega))
  clear hst P2 HO
  have c2:=P3.out.op.cell 2
  simp only[zg] at c2
  have HX1:=zh (zi c2)
  go_wp2
  refine Lex.zn (fun j=>j=g) [1] 7 [5] ?_
  simp only[Lex.Bp,zd]
  go_wp2_with fail
  refine(Gm (w.heap.size+1) s _ _ HY.out P3.out.rd.drew hla hs).mono ?_
  rintro e w8 ⟨rfl,hst'⟩
  have hst:Av (w.heap.size+1) w7 w8 (rdV s rb.a rb.e):=⟨hst'.at_,hst'.fr.os,hst'.fr.tape,hst'.fr.output,hst'.fr.size,hst'.fr.keep⟩
  have hg2:=P3.out.g2
  have HB6:=zh (hst.fr.keep g P3.out.op.lt (by omega))
  have P4:=zh (P3.out.step hst);have HO4:=zh (OJ HO3.out hst (by omega))
  clear hst hst' P3 HO3
  have hb9:Below w8.heap.size w8 (w8.alloc (.cells #[.string x,.string y] 76)):=zb
  have P5:=zh (P4.out.under hb9);have HO5:=zh (own_below HO4.out hb9)
  have hrw:=Cx w8 76 #[.string x,.string y] 2 1 1 rfl
  have HRW:=zh hrw
  have hgw:g+1<=(w8.alloc (.cells #[.string x,.string y] 76)).heap.size:=by have:=P4.out.op.lt;rw[World.size_alloc];omega
  have HGW:=zh hgw
  have hl8:l.length+1<=8:=by rw[HLL.out];omega
  clear hrw hgw hb9 HO4 P4
  go_wp2
  refine Lex.Mid.intro (fun j hj _=>by rw[hj];exact HB6.out) ?_
  go_wp2_with (at_builtin;go_must (refine Ah JO rfl _ _ rfl (g+1) l.length (.slice va l.length vc) (l.flatMap Own.Cy) rfl HO5.out (.slice (some ⟨w8.heap.size,0,none⟩) 1 1) 1 [.string x,.string y] rfl HRW.out (by intro u hu;simp at hu;rcases hu with rfl|rfl<;>rfl) (by omega) (by omega) HGW.out ?_);intro v9 w9 ho9 hg9 hw9;obtain⟨ya,ym,yc,rfl⟩:=Ac ho9;have HO9:=zh ho9;have P9:=zh (P5.out.grown hg9 (Ak HO5.out));clear ho9 hg9 hw9;have d2:=P9.out.op.cell 2;have d2f:=P9.out.op.free 2;simp only[zg] at d2)
  refine Lex.zk ⟨⟨rfl,HX1.out⟩,trivial⟩ ?_
  go_wp2_with fail
  refine⟨⟨k+1,l++[⟨x,y⟩],.slice ya ym yc,rb,by omega,by go_num,HSN.out,hlb,?_,P9.out.put 2 _⟩,by simp[intOf];omega⟩
  have h9:w9.ownsRow (g+1) 76 2 (.slice ya ym yc) (l++[(⟨x,y⟩:Own.Member)]).length ((l++[(⟨x,y⟩:Own.Member)]).flatMap Own.Cy):=by
   rw[List.length_append,List.flatMap_append]
   simpa [Own.Cy] using HO9.out
  exact Ae h9 (fun j hj=>zo (by have:=Ak h9 j hj;show j≠g;omega))
end
end Go.Proofs.YtjlmglgmcekmhaaGreatDoor
