/- The reference's SHA-256: Length, padded, Sum: it gives the same digest as the program's. -/
import Derived.Maps.RangeWalk
import Derived.StringKeys
import Derived.Deep.DeepCutAuto
import Derived.Lib.OthersKept
import Derived.Test.YtdiiafgoccakkaaGreatDoorShkB3
set_option linter.unusedVariables false
set_option linter.unusedSimpArgs false
set_option maxRecDepth 100000
set_option maxHeartbeats 4000000
namespace Go.Proofs.YtdiiafgoccakkaaGreatDoor
section
open Go Go.RowKit
namespace Sha
def aD (n k:Nat):List Int:=(List.range k).map fun j=>((n/2^(56-8*j)%256:Nat):Int)
theorem ng (n k:Nat):aD n (k+1)=aD n k++[((n/2^(56-8*k)%256:Nat):Int)]:=by
 unfold aD
 rw[List.range_succ,List.map_append]
 rfl
theorem rM (n:Nat):strOfNums (aD n 8)=be8 n:=by
 apply Bl
 rw[strOfNums_data]
 unfold aD be8
 rw[List.map_map]
 rw[List.toList_toArray]
 apply List.map_congr_left
 intro j _
 show UInt8.ofNat (Int.toNat _)=_
 rw[Int.toNat_natCast]
theorem uX (n k:Nat)(h:k<8):(n:Int)/2^(8*(7-k))%256=((n/2^(56-8*k)%256:Nat):Int):=by
 rw[show 8*(7-k)=56-8*k by omega]
 rw[Int.natCast_emod,Int.natCast_ediv,Int.natCast_pow]
 rfl
theorem Yk (s:ByteArray):J9 s=(s.data.toList.map fun b=>(b.toNat:Int)).map (Value.int .u8):=by
 unfold J9
 rw[List.map_map]
 rfl
def nums (s:ByteArray):List Int:=s.data.toList.map fun b=>(b.toNat:Int)
theorem aF (s:ByteArray):(nums s).length=s.size:=by
 unfold nums
 rw[List.length_map,Aq]
theorem ni (s:ByteArray):J9 s=(nums s).map (Value.int .u8):=Yk s
theorem rO (s:ByteArray):strOfNums (nums s)=s:=by
 apply Bl
 rw[strOfNums_data]
 unfold nums
 rw[List.map_map]
 conv=>rhs;rw[<- List.map_id s.data.toList]
 apply List.map_congr_left
 intro b _
 show UInt8.ofNat (Int.toNat _)=b
 rw[Int.toNat_natCast,UInt8.ofNat_toNat]
theorem kW (a b:List Int):strOfNums (a++b)=strOfNums a++strOfNums b:=by
 apply Bl
 rw[Bf,strOfNums_data,strOfNums_data,strOfNums_data,List.map_append]
theorem Ir:∀ z:Nat,Lib.repeatL ([0]:List UInt8) z=List.replicate z 0
 | 0=>rfl
 | z + 1 => by
   show[0]++Lib.repeatL [0] z=_
   rw[Ir z]
   rfl
theorem rP (m:ByteArray)(z:Nat)(hz:z=(119-m.size%64)%64)(hm:8*m.size<18446744073709551616):strOfNums (nums m++[128]++List.replicate z 0)++be8 (8*m.size)=m++pad m:=by
 rw[kW,kW,rO,pad,<- hz,Ir,Nat.mod_eq_of_lt hm]
 apply Bl
 simp only[Bf,List.append_assoc]
 congr 2
 congr 1
 rw[strOfNums_data,List.map_replicate]
 rfl
end Sha
theorem QE (n:Nat)(w:World)(hn:n<9223372036854775808):
 Calls Tryz.prog 186 #[.int .i64 n] w fun e w' => e=.returned (.string (be8 n))/\Below w.heap.size w w':=by
 obtain⟨i0,hi,hz0,hz1,hz2⟩:=info_parts kU
 go_enter Tryz.func186,Tryz.ntmps186
 go_wp2
 go_loopw [3,4] (fun v i wr=>∃ k:Nat,k<=8/\i=.int .i64 (7-k:Int)/\wr.ownsRow w.heap.size 5 1 v k ((Sha.aD n k).map (Value.int .u8))/\Below w.heap.size w wr) (fun _ i _=>(intOf i+1).toNat)
 case atStart=>exact⟨0,by omega,rfl,⟨rfl,.inr ⟨w.heap.size,0,#[],rfl,Nat.le_refl _,At.new _ _ _,Nat.le_refl _,by decide,rfl,rfl⟩⟩,zb⟩
 case round=>
  obtain⟨k,hk,rfl,hv,hb⟩:=hrel
  have HV:=zh hv;have HB:=zh hb;clear hv hb
  by_cases hlt:k<8
  ·have dk:decide ((0:Int)<=7-k)=true:=by simp;omega
   have hv:=Sha.uX n k hlt
   have hnx:=Sha.ng n k
   have HX:=zh hv;have HN:=zh hnx;clear hv hnx
   go_wp2_with (at_builtin;go_must (refine wpList_append_own_at _ rfl _ _ 116 rfl w.heap.size 5 i0 (.int .u8 0) 1 1 Tryz.underlying116 hi hz0 hz1 hz2 rfl (by omega) _ k ((Sha.aD n k).map (Value.int .u8)) rfl (HV.out.alloc _) ⟨wr.heap.size,0,none⟩ 1 1 [.int .u8 ((n/2^(56-8*k)%256:Nat):Int)] rfl rfl ?c1 ?c2 ?c3 ?c4 ?c5 ?_))
   case c1=>
    intro j u hj
    match j,hj with
    | 0,hj=>simp only[List.getElem?_cons_zero,Option.some.injEq] at hj;subst hj;rw[<- HX.out];exact(At.new wr 5 _).cell 0
   case c2=>intro u hu;simp at hu;subst hu;rfl
   case c3=>unfold maxLen;omega
   case c4=>omega
   case c5=>have:=HB.out.size;simp;omega
   intro v2 w15 how hg _ hb'
   have Oj:Below w.heap.size w w15:=Cw (HB.out.alloc HB.out.size _) (by have:=HB.out.size;simp;omega) HV.out hg
   have how' : w15.ownsRow w.heap.size 5 1 v2 (k+1) ((Sha.aD n (k+1)).map (Value.int .u8)):=by rw[HN.out,List.map_append];exact how
   have rE:=zh Oj;have HOW:=zh how';clear how how' hg hb' Oj
   go_wp2_with fail
   refine⟨⟨k+1,by omega,?_,HOW.out,rE.out⟩,by simp[intOf];omega⟩
   congr 1
   omega
  ·have hk' : k=8:=by omega
   have dk:decide ((0:Int)<=7-k)=false:=by simp;omega
   have HK:=zh hk';clear hk'
   go_wp2_with fail
   rw[Dl wr 116 5 9 rfl rfl rfl _ HV.out]
   rw[HK.out,Sha.rM]
   go_wp2
   go_ret
   exact⟨rfl,HB.out⟩
def sliceLen:Value->Nat
 | .slice _ n _=>n
 | _=>0
theorem JV (w:World){base:Nat}{v:Value}(xs:List Int)(h:Gl w base v (xs.map (Value.int .u8))):(convert 116 9 v).run Tryz.prog w=.ok (.string (strOfNums xs)) w:=by
 obtain⟨g,cap,cur,fz,rfl,hb,hg,_,hcs,hle,hcm,ht⟩:=h
 rw[List.length_map] at*
 refine run_convert_bytes_arg w 116 5 rfl rfl g 0 xs.length cap xs rfl (fun i hi=>?_) 9 rfl
 rw[Nat.zero_add,cell_of_row w g i cur 5 fz hg]
 have h1:cur.toList[i]? = ((xs.map (Value.int .u8)))[i]? :=by
  rw[<- ht,List.getElem?_take_of_lt (by omega)]
 rw[<- Array.getElem?_toList,h1,List.getElem?_map,List.getD_eq_getElem?_getD,List.getElem?_eq_getElem (by omega)]
 rfl
theorem aG (m:ByteArray)(w:World)(hm:m.size<=140737488350000):
 Calls Tryz.prog 137 #[.string m] w fun e w' => e=.returned (.string (m++Sha.pad m))/\Below w.heap.size w w':=by
 go_enter Tryz.func137,Tryz.ntmps137
 go_wp2_with fail
 rw[Lib.run_convert_string_bytes w 9 116 5 m rfl rfl rfl]
 obtain⟨hbuf,hb1⟩:=mY w m (by omega)
 generalize Lib.bytesWorld w 5 m=w1 at*
 generalize grownCap w m.size 0 5=cap at*
 have zaI:=zh hbuf;have HB1:=zh hb1;clear hbuf hb1
 go_wp2_with (at_builtin;go_must (refine Ip rfl _ _ 116 rfl rfl w.heap.size _ (J9 m) rfl (zaI.out.below zb) ⟨w1.heap.size,0,none⟩ 1 (.int .u8 128) rfl ?c1 rfl ?c3 ?c4 ?_))
 case c1=>exact(At.new w1 5 _).cell 0
 case c3=>rw[Iq];omega
 case c4=>have:=HB1.out.size;simp;omega
 intro v2 w2 hb2 hg2
 have hbw:Below w.heap.size w w2:=(zaI.out.below_grown (w0:=w) HB1.out HB1.out.size (HB1.out.alloc HB1.out.size _) (by have:=HB1.out.size;simp;omega) hg2)
 rw[Sha.ni,show(Sha.nums m).map (Value.int .u8)++[Value.int .u8 128]=(Sha.nums m++[128]++List.replicate 0 0).map (Value.int .u8) by simp] at hb2
 have zaJ:=zh hb2;have HB2:=zh hbw;clear hb2 hg2 hbw
 obtain⟨z,hz⟩:∃ z,z=(119-m.size%64)%64:=⟨_,rfl⟩
 have hzm:∀ k,k<=z->((m.size+1+k)%64=56↔k=z):=fun k hk=>by omega
 have zbH:z<64:=by omega
 have HZ:=zh hz;have HZM:=zh hzm;clear hz hzm
 go_wp2
 go_loopw [3] (fun v wr=>∃ k:Nat,k<=z/\Gl wr w.heap.size v ((Sha.nums m++[128]++List.replicate k 0).map (Value.int .u8))/\Below w.heap.size w wr) (fun v _=>z+m.size+1-sliceLen v)
 case atStart=>exact⟨0,by omega,zaJ.out,HB2.out⟩
 case round=>
  obtain⟨k,hk,hbf,hbl⟩:=hrel
  obtain⟨g,cp,rfl⟩:=hbf.len
  have HBF:=zh hbf;have HBL:=zh hbl;clear hbf hbl
  obtain⟨L,hL⟩:∃ L,L=Sha.nums m++[128]++List.replicate k 0:=⟨_,rfl⟩
  have hlen:L.length=m.size+1+k:=by
   rw[hL,List.length_append,List.length_append,Sha.aF,List.length_replicate]
   rfl
  rw[<- hL] at HBF ⊢
  rw[List.length_map,hlen] at HBF ⊢
  have HLEN:=zh hlen;have HL:=zh hL;clear hlen hL
  by_cases hlt:k<z
  ·have hne:=HZM.out k hk
   have hmod:¬ ((m.size+1+k)%64=56):=by omega
   have dk:decide (((m.size:Int)+1+k)%64=56)=false:=by simp;omega
   clear hne
   go_wp2_with (at_builtin;go_must (refine Ip rfl _ _ 116 rfl rfl w.heap.size _ (L.map (Value.int .u8)) rfl (HBF.out.below zb) ⟨wr.heap.size,0,none⟩ 1 (.int .u8 0) rfl ?c1 rfl ?c3 ?c4 ?_))
   case c1=>exact(At.new wr 5 _).cell 0
   case c3=>rw[List.length_map,HLEN.out];omega
   case c4=>have:=HBL.out.size;simp;omega
   intro v3 w3 hb3 hg3
   have hb4:Below w.heap.size w w3:=HBF.out.below_grown (w0:=w) HBL.out HBL.out.size (HBL.out.alloc HBL.out.size _) (by have:=HBL.out.size;simp;omega) hg3
   have XL : Gl w3 w.heap.size v3 ((Sha.nums m++[128]++List.replicate (k+1) 0).map (Value.int .u8)):=by
    rw[List.replicate_succ',<- List.append_assoc,<- HL.out,List.map_append]
    exact hb3
   obtain⟨g3,cp3,rfl⟩:=XL.len
   have hlen3:((Sha.nums m++[128]++List.replicate (k+1) 0).map (Value.int .u8)).length=m.size+1+(k+1):=by
    rw[List.length_map,List.length_append,List.length_append,Sha.aF,List.length_replicate]
    rfl
   rw[hlen3] at XL ⊢
   have HB3:=zh XL;have HB4:=zh hb4;clear hb3 XL hb4 hg3 hlen3
   go_wp2
   exact⟨⟨k+1,by omega,HB3.out,HB4.out⟩,by simp[sliceLen];omega⟩
  ·have hk' : k=z:=by omega
   have hmod:(m.size+1+k)%64=56:=(HZM.out k hk).2 hk'
   have dk:decide (((m.size:Int)+1+k)%64=56)=true:=by simp;omega
   have HK:=zh hk';clear hk'
   have hpn:=Sha.rP m z HZ.out (by omega)
   rw[<- HK.out,<- HL.out] at hpn
   have HPN:=zh hpn;clear hpn
   have hls:(strOfNums L).size<=140737488350100:=by rw[strOfNums_size,HLEN.out];omega
   go_wp2_with fail
   have E8:=zh (show(8:Int)*m.size=((8*m.size:Nat):Int) by omega)
   refine Lex.Ua (by kernel_rfl) ?_
   refine Lex.iJ 1 5 (by decide) (by kernel_rfl) (Lex.ak (by kernel_rfl) ?_) (Lex.mZ [0,2,3,4,5,1,6,7] (by kernel_rfl) (Lex.ak (by kernel_rfl) ?_))
   all_goals simp only[Lex.late,Lex.Mt,Lex.QD,List.map_cons,List.map_nil,List.getD_cons_zero,List.getD_cons_succ,Option.map_none,Nat.reduceEqDiff,if_false,Nat.reduceAdd,Nat.zero_add]
   ·go_wp2_with fail
    rw[JV wr.drew L HBF.out]
    go_wp2_with fail
    rw[E8.out]
    refine(QE (8*m.size) _ (by omega)).mono ?_
    rintro e w5 ⟨rfl,hb5⟩
    have h8:=He (8*m.size)
    have HB5:=zh hb5;clear hb5
    go_wp2_with fail
    rw[HPN.out]
    refine Lex.ze ?_
    go_wp2
    go_ret
    exact⟨rfl,HBL.out.drew.trans (HB5.out.mono HBL.out.size)⟩
   ·go_wp2_with fail
    rw[E8.out]
    refine(QE (8*m.size) _ (by omega)).mono ?_
    rintro e w5 ⟨rfl,hb5⟩
    have h8:=He (8*m.size)
    have zbR:=zh (Gl.below (w:=wr.drew) HBF.out hb5)
    have HB5:=zh hb5;clear hb5
    go_wp2_with fail
    rw[JV w5 L zbR.out]
    go_wp2_with fail
    rw[HPN.out]
    refine Lex.ze ?_
    go_wp2
    go_ret
    exact⟨rfl,HBL.out.drew.trans (HB5.out.mono HBL.out.size)⟩
theorem aH (m:ByteArray):(m++Sha.pad m).size%64=0:=by
 rw[Sha.Ab,Sha.pad,Sha.Ab,Sha.Ab,He]
 have h1:(⟨#[128]⟩:ByteArray).size=1:=rfl
 have h2:(⟨(Lib.repeatL [0] ((119-m.size%64)%64)).toArray⟩:ByteArray).size=(119-m.size%64)%64:=by
  rw[Sha.Ir]
  show(List.replicate _ _).toArray.size=_
  simp
 rw[h1,h2]
 omega
theorem iK (m:ByteArray):(m++Sha.pad m).size<=m.size+72:=by
 rw[Sha.Ab,Sha.pad,Sha.Ab,Sha.Ab,He]
 have h1:(⟨#[128]⟩:ByteArray).size=1:=rfl
 have h2:(⟨(Lib.repeatL [0] ((119-m.size%64)%64)).toArray⟩:ByteArray).size=(119-m.size%64)%64:=by
  rw[Sha.Ir]
  show(List.replicate _ _).toArray.size=_
  simp
 rw[h1,h2]
 omega
theorem rQ (m:ByteArray)(w:World)(hm:m.size<=140737488350000):
 Calls Tryz.prog 74 #[.string m] w fun e w' => e=.returned (.string (Sha.sha m))/\Below w.heap.size w w':=by
 go_enter Tryz.func74,Tryz.ntmps74
 go_wp2_with fail
 have Yh:At (w.alloc (.cells #[.int .u32 1779033703,.int .u32 3144134277,.int .u32 1013904242,.int .u32 2773480762,.int .u32 1359893119,.int .u32 2600822924,.int .u32 528734635,.int .u32 1541459225] 204)) w.heap.size 204 (Sha.row Sha.IV):=At.new _ _ _
 refine(aG m _ hm).mono ?_
 rintro e w1 ⟨rfl,hb1⟩
 have hb0:Below w.heap.size w w1:=((Below.refl w.heap.size w).alloc (Nat.le_refl _) _).trans (hb1.mono (by simp))
 have zaK:=Yh.below hb1 (by simp)
 have hp0:=aH m
 have hp1:=iK m
 obtain⟨p,hp⟩:∃ p,p=m++Sha.pad m:=⟨_,rfl⟩
 rw[<- hp] at hp0 hp1 ⊢
 obtain⟨N,hN⟩:∃ N,N=p.size/64:=⟨_,rfl⟩
 have hpn:p.size=64*N:=by omega
 have HP:=zh hp;have HN:=zh hN;have HAT:=zh zaK;have HB0:=zh hb0;clear hp hN Yh zaK hb0 hb1
 go_wp2
 go_loopw [3,5] (fun v i wr=>∃ (k g:Nat),k<=N/\i=.int .i64 ((64*k:Nat):Int)/\v=.slice (some ⟨g,0,none⟩) 8 8/\At wr g 204 (Sha.row (Sha.run Sha.IV p k))/\Below w.heap.size w wr) (fun _ i _=>p.size-(intOf i).toNat)
 case atStart=>exact⟨0,w.heap.size,by omega,rfl,rfl,HAT.out,HB0.out⟩
 case round=>
  obtain⟨k,g,hk,rfl,rfl,hat,hb⟩:=hrel
  have hcap:64*N<=140737488350072:=by omega
  by_cases hlt:k<N
  ·have dk:decide (((64*k:Nat):Int)<p.size)=true:=by simp;omega
   have HA:=zh hat;have HB:=zh hb;clear hat hb
   go_wp2_with fail
   have hes:(p.extract (64*k) (64*k+64)).size=64:=by rw[ByteArray.size_extract];omega
   have hwd:=Sha.XJ.run p k
   refine(V7 _ g 8 _ wr hwd hes HA.out).mono ?_
   rintro e w3 ⟨g3,rfl,y8,hg3,hb3⟩
   have hrun:Sha.row (Sha.block (Sha.run Sha.IV p k) (p.extract (64*k) (64*k+64)))=Sha.row (Sha.run Sha.IV p (k+1)):=rfl
   rw[hrun] at y8
   have HA3:=zh y8;have HB3:=zh (HB.out.trans (hb3.mono HB.out.size));clear y8 hb3 hrun hwd hes
   go_wp2_with fail
   refine⟨⟨k+1,g3,by omega,?_,rfl,HA3.out,HB3.out⟩,by simp[intOf];omega⟩
   congr 1
  ·have dk:decide (((64*k:Nat):Int)<p.size)=false:=by simp;omega
   have hk' : k=N:=by omega
   subst hk'
   obtain⟨wo,rfl⟩:∃ wo:World,wo=wr:=⟨_,rfl⟩
   have HA:=zh hat;have HB:=zh hb;clear hat hb
   have hwd:=Sha.XJ.run p k
   have hl:=hwd.1
   have hbd:=hwd.2
   have hfin:strOfNums (Sha.bytes (Sha.run Sha.IV p k))=Sha.sha m:=by
    rw[Sha.sha,Sha.state,<- HP.out,<- HN.out]
   have Eh:=zh hfin;clear hfin
   generalize Sha.run Sha.IV p k=zs at*
   obtain⟨i0,hi,hz0,hz1,hz2⟩:=info_parts Lm
   go_wp2
   go_loopw [6,7] (fun v i wr=>∃ j:Nat,j<=8/\i=.int .i64 j/\wr.ownsRow wo.heap.size 5 1 v (4*j) ((Sha.bytes (zs.take j)).map (Value.int .u8))/\Below wo.heap.size wo wr) (fun _ i _=>8-(intOf i).toNat)
   case atStart=>exact⟨0,by omega,rfl,⟨rfl,.inr ⟨wo.heap.size,0,#[],rfl,Nat.le_refl _,At.new _ _ _,Nat.le_refl _,by decide,rfl,rfl⟩⟩,zb⟩
   case round=>
    obtain⟨j,hj,rfl,how,hbr⟩:=hrel
    by_cases hj8:j<8
    ·have dj:decide ((j:Int)<8)=true:=by simp;omega
     have rk:wr.cell? ⟨g,j,none⟩=some (.int .u32 (zs.getD j 0)):=by
      rw[(HA.out.below hbr HA.out.lt).cell j,Sha.Gs,List.getElem?_eq_getElem (by omega),List.getD_eq_getElem?_getD,List.getElem?_eq_getElem (by omega)]
      rfl
     have hsn:=Sha.SG zs j (by omega)
     have hx:0<=zs.getD j 0/\zs.getD j 0<4294967296:=by
      rw[List.getD_eq_getElem?_getD,List.getElem?_eq_getElem (by omega)]
      exact hbd _ (List.getElem_mem _)
     generalize zs.getD j 0=x at*
     have HOW:=zh how;have HBR:=zh hbr;have HSN:=zh hsn;have HBD:=zh hbd;clear how hbr hsn hbd
     have h16:x/16777216<256:=by omega
     go_wp2
     refine Lex.zl ?_
     go_wp2_with (at_builtin;go_must (refine wpList_append_own_at _ rfl _ _ 116 rfl wo.heap.size 5 i0 (.int .u8 0) 1 1 Tryz.underlying116 hi hz0 hz1 hz2 rfl (by omega) _ (4*j) _ rfl (World.ownsRow.alloc (by exact HOW.out) _).drew ⟨wr.heap.size,0,none⟩ 4 4 ((Sha.be4 x).map (Value.int .u8)) rfl rfl ?c1 ?c2 ?c3 ?c4 ?c5 ?_))
     case c1=>
      intro q u hq
      match q,hq with
      | 0,hq=>simp[Sha.be4] at hq;subst hq;simp[Addr.add]
      | 1,hq=>simp[Sha.be4] at hq;subst hq;simp[Addr.add]
      | 2,hq=>simp[Sha.be4] at hq;subst hq;simp[Addr.add]
      | 3,hq=>simp[Sha.be4] at hq;subst hq;simp[Addr.add]
     case c2=>intro u hu;simp[Sha.be4] at hu;rcases hu with rfl|rfl|rfl|rfl<;>rfl
     case c3=>unfold maxLen;omega
     case c4=>omega
     case c5=>have:=HBR.out.size;simp;omega
     intro v' w' how' hg _ _
     have hb' : Below wo.heap.size wo w':=Cw (HBR.out.alloc (by have:=HBR.out.size;omega) _).drew (by have:=HBR.out.size;simp;omega) HOW.out hg
     have ho' : w'.ownsRow wo.heap.size 5 1 v' (4*(j+1)) ((Sha.bytes (zs.take (j+1))).map (Value.int .u8)):=by
      rw[HSN.out,List.map_append]
      exact how'
     have HO:=zh ho';have HBB:=zh hb';clear how' hg ho' hb'
     go_wp2
     refine Lex.ze ?_
     go_wp2
     go_roundw
     case rel=>
      first
       | exact⟨j+1,by omega,by go_num,HO.out,HBB.out⟩
       | ((repeat apply Exists.intro);exact⟨⟨j+1,by omega,by go_num,HO.out,HBB.out⟩,rfl⟩)
     case measure=>simp[intOf];omega
    ·have hj' : j=8:=by omega
     have dj:decide ((j:Int)<8)=false:=by simp;omega
     have HJ:=zh hj';have HOW:=zh how;have HBR:=zh hbr;clear hj' how hbr
     go_wp2_with fail
     rw[Dl wr 116 5 9 rfl rfl rfl _ HOW.out]
     have hj8:=HJ.out
     have htk:zs.take j=zs:=List.take_of_length_le (by omega)
     rw[htk,Eh.out]
     go_wp2
     go_ret
     exact⟨rfl,HB.out.trans (HBR.out.mono HB.out.size)⟩
end
section
open Go Go.RowKit Go.Maps
def numOf (s:ByteArray):Nat->Nat
 | 0=>0
 | k+1=>256*numOf s k+AJ s k
def Ct (s:ByteArray):Int:=if numOf s (s.size-1)<18014398509481984 then (numOf s s.size:Nat) else -1
theorem iL (s:ByteArray)(k:Nat)(h:k<s.size):(s[k]).toNat=AJ s k:=by
 have:=Sha.Oi s k h
 unfold Sha.byt at this
 unfold AJ
 omega
theorem Hq (t:ByteArray):∀ k,numOf t k<256^k
 | 0=>Nat.one_pos
 | k + 1 => by
   have h1:=Hq t k
   have h2:=CW t k
   show 256*numOf t k+AJ t k<256^(k+1)
   rw[Nat.pow_succ]
   omega
theorem WK (t:ByteArray)(k:Nat):∀ j,numOf t (k+j)/256^j=numOf t k
 | 0=>by simp
 | j + 1 => by
   have h1:=WK t k j
   have h2:=CW t (k+j)
   have h3:numOf t (k+(j+1))=256*numOf t (k+j)+AJ t (k+j):=rfl
   rw[Nat.pow_succ,Nat.mul_comm,<- Nat.div_div_eq_div_mul,h3,show(256*numOf t (k+j)+AJ t (k+j))/256=numOf t (k+j) by omega,h1]
theorem aI (t:ByteArray)(k j:Nat):numOf t (k+1+j)/256^j%256=AJ t k:=by
 rw[WK t (k+1) j]
 have:=CW t k
 show(256*numOf t k+AJ t k)%256=_
 omega
theorem WL (t:ByteArray)(h:t.size=8):big (numOf t 8) 8=t:=by
 apply Sha.Bl
 have hl:t.data.toList.length=8:=by rw[Sha.Aq,h]
 apply List.ext_getElem
 ·rw[Sha.Aq,Bq,hl]
 ·intro i h1 h2
  rw[hl] at h2
  have e1:=TG (numOf t 8) i h2
  rw[List.getD_eq_getElem?_getD,List.getElem?_eq_getElem h1,Option.getD_some] at e1
  rw[e1]
  have e2:AJ t i=(t.data.toList[i]).toNat:=by
   unfold AJ
   rw[List.getD_eq_getElem?_getD,List.getElem?_eq_getElem (by omega)]
   rfl
  have e3:=aI t i (7-i)
  rw[show i+1+(7-i)=8 by omega] at e3
  have e4:(2:Nat)^(8*(8-1-i))=256^(7-i):=by rw[Nat.pow_mul]
  rw[e4,e3,e2]
  show UInt8.ofNat _=_
  rw[UInt8.ofNat_toNat]
theorem iM (t:ByteArray)(n:Nat)(h:t.size=8)(hn:n<=4611686018427387903):(t.toList==(big n 8).toList)=decide (Ct t=n):=by
 have hlt:=Hq t 8
 have zcZ:numOf t 8=256*numOf t 7+AJ t 7:=rfl
 have zda:(256:Nat)^8=18446744073709551616:=by decide
 have hrb:Ct t=n↔numOf t 8=n:=by
  unfold Ct
  rw[h]
  show(if numOf t 7<_ then ((numOf t 8:Nat):Int) else -1)=n↔_
  split
  ·omega
  ·have:=CW t 7
   omega
 rw[decide_eq_decide.2 hrb]
 by_cases e:numOf t 8=n
 ·rw[decide_eq_true e]
  have:t=big n 8:=by rw[<- e,WL t h]
  rw[<- this]
  simp
 ·rw[decide_eq_false e]
  have hne:t.toList≠(big n 8).toList:=by
   intro hh
   have e2:t=big n 8:=by
    apply Sha.Bl
    rw[ByteArray.toList_eq,ByteArray.toList_eq] at hh
    exact hh
   apply e
   apply ZQ (by omega) (by omega)
   rw[WL t h,e2]
  simpa using hne
theorem dropWhile_nil {l:List UInt8}(h:l.dropWhile (· == 0)=[]):∀ b∈l,b=0:=by
 induction l with
 | nil=>intro b hb;cases hb
 | cons x l ih =>
   by_cases hx:x=0
   ·subst hx
    have h2:l.dropWhile (· == 0)=[]:=by simpa using h
    intro b hb
    rcases List.mem_cons.1 hb with rfl|hb
    ·rfl
    ·exact ih h2 b hb
   ·simp[hx] at h
section
variable {epoch:Nat} {s chain:ByteArray}
end
end
section
open Go Go.RowKit Go.Maps
namespace Sto
def AY (n:Nat):Nat:=(n-2)/2
def Bo (n e:Nat):Nat:=2+e%2*AY n
def Ai (len:Nat):Nat:=(len+511)/512
def Ep (e:Nat)(data:ByteArray):ByteArray:=big e 8++(big data.size 8++(Sha.sha data++zeros 432))
def Er (e:Nat)(data:ByteArray):ByteArray:=Sha.sha (⟨#[11]⟩++Ep e data)++Ep e data
structure Hd where
 epoch:Nat
 len:Nat
 dg:ByteArray
structure FH (n at_:Nat) (s:ByteArray):Prop where
 size:s.size=512
 sum:Sha.sha (⟨#[11]⟩++s.extract 32 512)=s.extract 0 32
 zero:∀ i,80<=i->i<512->AJ s i=0
 ep1:1<=Ct (s.extract 32 40)
 ep2:Ct (s.extract 32 40)%2=at_
 zbS:0<=Ct (s.extract 40 48)
 len1:Ai (Ct (s.extract 40 48)).toNat<AY n
def Mi (s:ByteArray):Hd:=⟨(Ct (s.extract 32 40)).toNat,(Ct (s.extract 40 48)).toNat,s.extract 48 80⟩
theorem Mv (e:Nat)(data:ByteArray):(Ep e data).size=480:=by
 unfold Ep
 rw[Sha.Ab,Sha.Ab,Sha.Ab,Bq,Bq,Sha.Bn,BI]
theorem JA (e:Nat)(data:ByteArray):(Er e data).size=512:=by
 unfold Er
 rw[Sha.Ab,Mv,Sha.Bn]
theorem QF {n:Nat}(h:n<=4611686018427387903):Ct (big n 8)=n:=by
 have h1:=iM (big n 8) n (Bq n 8) h
 rw[beq_self_eq_true] at h1
 exact of_decide_eq_true h1.symm
theorem iN (P:ByteArray)(k i:Nat)(h:P.size<=i):AJ (P++zeros k) i=0:=by
 by_cases hi:i<P.size+k
 ·have h1:=J5 P (zeros k) (i-P.size) (by rw[BI];omega)
  rw[show P.size+(i-P.size)=i by omega] at h1
  rw[h1]
  unfold AJ zeros
  rw[List.getD_eq_getElem?_getD]
  cases hg:(Lib.repeatL [(0:UInt8)] k)[i-P.size]? with
  | none=>simp[hg]
  | some b =>
    have hm:b∈Lib.repeatL [(0:UInt8)] k:=List.mem_of_getElem? hg
    have hz:∀ (m:Nat) (b:UInt8),b∈Lib.repeatL [(0:UInt8)] m->b=0:=by
     intro m
     induction m with
     | zero=>intro b hb;cases hb
     | succ m ih =>
       intro b hb
       rcases List.mem_append.1 (show b∈[(0:UInt8)]++Lib.repeatL [0] m from hb) with hb|hb
       ·exact List.mem_singleton.1 hb
       ·exact ih b hb
    simp[hg,hz k b hm]
 ·unfold AJ
  rw[List.getD_eq_getElem?_getD,List.getElem?_eq_none (by rw[Sha.Aq,Sha.Ab,BI];omega)]
  rfl
theorem kX {n e:Nat}{data:ByteArray}(h1:1<=e)(h2:e<=4611686018427387903)(h3:data.size<=4611686018427387903)(h4:Ai data.size<AY n):FH n (e%2) (Er e data)/\Mi (Er e data)=⟨e,data.size,Sha.sha data⟩:=by
 have zA:(Sha.sha (⟨#[11]⟩++Ep e data)).size=32:=Sha.Bn _
 obtain⟨A,hA⟩:∃ A,A=Sha.sha (⟨#[11]⟩++Ep e data):=⟨_,rfl⟩
 rw[<- hA] at zA
 have zD:(Sha.sha data).size=32:=Sha.Bn _
 have z1:=Bq e 8
 have z2:=Bq data.size 8
 have e0:Er e data=A++Ep e data:=by rw[hA];rfl
 have e1:Er e data=A++(big e 8++(big data.size 8++(Sha.sha data++zeros 432))):=e0
 have e2:Er e data=(A++big e 8)++(big data.size 8++(Sha.sha data++zeros 432)):=e1.trans ByteArray.append_assoc.symm
 have e3:Er e data=((A++big e 8)++big data.size 8)++(Sha.sha data++zeros 432):=e2.trans ByteArray.append_assoc.symm
 have e4:Er e data=(((A++big e 8)++big data.size 8)++Sha.sha data)++zeros 432:=e3.trans ByteArray.append_assoc.symm
 have x0:(Er e data).extract 0 32=A:=by rw[e0];exact Fz _ _ _ zA.symm
 have xb:(Er e data).extract 32 512=Ep e data:=by rw[e0];exact EP _ _ _ _ zA.symm (by rw[zA,Mv])
 have x1:(Er e data).extract 32 40=big e 8:=by rw[e1];exact EH _ _ _ _ _ zA.symm (by rw[zA,z1])
 have x2:(Er e data).extract 40 48=big data.size 8:=by rw[e2];exact EH _ _ _ _ _ (by rw[Sha.Ab,zA,z1]) (by rw[Sha.Ab,zA,z1,z2])
 have x3:(Er e data).extract 48 80=Sha.sha data:=by rw[e3];exact EH _ _ _ _ _ (by rw[Sha.Ab,Sha.Ab,zA,z1,z2]) (by rw[Sha.Ab,Sha.Ab,zA,z1,z2,zD])
 have r1:=QF h2
 have r2:=QF h3
 refine⟨⟨JA e data,?_,fun i hi _=>?_,?_,?_,?_,?_⟩,?_⟩
 ·rw[xb,x0,hA]
 ·rw[e4]
  exact iN _ _ _ (by rw[Sha.Ab,Sha.Ab,Sha.Ab,zA,z1,z2,zD];exact hi)
 ·rw[x1,r1];omega
 ·rw[x1,r1];omega
 ·rw[x2,r2];omega
 ·rw[x2,r2];exact h4
 ·unfold Mi
  rw[x1,x2,x3,r1,r2]
  rfl
/-! ### an area -/
def piece (data:ByteArray)(i:Nat):ByteArray:=data.extract (i*512) ((i+1)*512)++zeros (512-(data.extract (i*512) ((i+1)*512)).size)
theorem ny (data:ByteArray)(i:Nat):(data.extract (i*512) ((i+1)*512)).size<=512:=by rw[ByteArray.size_extract];omega
theorem Hr (data:ByteArray)(i:Nat):(piece data i).size=512:=by
 have:=ny data i
 unfold piece
 rw[Sha.Ab,BI]
 omega
theorem iO {data:ByteArray}{i:Nat}(h:Ai data.size<=i):piece data i=zeros 512:=by
 unfold Ai at h
 have hz:(data.extract (i*512) ((i+1)*512)).size=0:=by rw[ByteArray.size_extract];omega
 have he:data.extract (i*512) ((i+1)*512)=⟨#[]⟩:=by
  apply Sha.Bl
  exact List.eq_nil_of_length_eq_zero (by rw[Sha.Aq];exact hz)
 unfold piece
 rw[he,Nk]
 rfl
def Mw (data:ByteArray):Nat->ByteArray
 | 0=>⟨#[]⟩
 | k+1=>Mw data k++piece data k
theorem Ug (data:ByteArray):∀ k,(Mw data k).size=512*k
 | 0=>rfl
 | k + 1 => by
   show(Mw data k++piece data k).size=_
   rw[Sha.Ab,Ug data k,Hr]
   omega
theorem Uh (data:ByteArray):∀ k,(Mw data k).extract 0 (min (512*k) data.size)=data.extract 0 (min (512*k) data.size)
 | 0 => by
   apply Sha.Bl
   rw[Sha.Ba,Sha.Ba,show min (512*0) data.size-0=0 by omega,List.take_zero,List.take_zero]
 | k + 1 => by
   have ih:=Uh data k
   have hs:=Ug data k
   have ihl:=congrArg (fun b:ByteArray=>b.data.toList) ih
   simp only[Sha.Ba,List.drop_zero,Nat.sub_zero] at ihl
   apply Sha.Bl
   show((Mw data k++piece data k).extract _ _).data.toList=_
   rw[Sha.Ba,Sha.Ba,Sha.Bf,List.drop_zero,List.drop_zero,Nat.sub_zero]
   have hl:(Mw data k).data.toList.length=512*k:=by rw[Sha.Aq,hs]
   by_cases h:512*k<=data.size
   ·rw[show min (512*k) data.size=512*k by omega] at ihl
    rw[List.take_of_length_le (by omega)] at ihl
    rw[List.take_append,hl,List.take_of_length_le (by omega),ihl]
    have e2:min (512*(k+1)) data.size=512*k+min 512 (data.size-512*k):=by omega
    rw[e2,List.take_add,Nat.add_sub_cancel_left]
    congr 1
    unfold piece
    rw[Sha.Bf,Sha.Ba,show(k+1)*512-k*512=512 by omega,show k*512=512*k by omega]
    have h4:((data.data.toList.drop (512*k)).take 512).length=min 512 (data.size-512*k):=by
     rw[List.length_take,List.length_drop,Sha.Aq]
    rw[List.take_append_of_le_length (by omega),List.take_take]
    congr 1
    omega
   ·rw[show min (512*k) data.size=data.size by omega] at ihl
    rw[show min (512*(k+1)) data.size=data.size by omega,List.take_append_of_le_length (by omega)]
    exact ihl
theorem nC (r:ByteArray):r.extract 0 r.size=r:=by
 apply Sha.Bl
 rw[Sha.Ba,List.drop_zero,Nat.sub_zero,List.take_of_length_le (by rw[Sha.Aq];exact Nat.le_refl _)]
theorem nD (data:ByteArray):(Mw data (Ai data.size)).extract 0 data.size=data:=by
 have h:=Uh data (Ai data.size)
 rw[show min (512*Ai data.size) data.size=data.size by unfold Ai;omega,nC data] at h
 exact h
def Bz (first:Nat)(data:ByteArray):Nat->List ByteArray->List ByteArray
 | 0,l=>l
 | k+1,l=>(Bz first data k l).set (first+k) (piece data k)
theorem Jt (first:Nat)(data:ByteArray):∀ (k:Nat) (l:List ByteArray),(Bz first data k l).length=l.length
 | 0,_=>rfl
 | k + 1,l => by
   show((Bz first data k l).set _ _).length=_
   rw[List.length_set,Jt first data k l]
theorem Ht (l:List ByteArray)(i j:Nat)(x:ByteArray):(l.set i x).getD j ⟨#[]⟩=if i=j/\i<l.length then x else l.getD j ⟨#[]⟩:=by
 rw[List.getD_eq_getElem?_getD,List.getD_eq_getElem?_getD,List.getElem?_set]
 by_cases h:i=j
 ·rw[if_pos h]
  by_cases h2:i<l.length
  ·rw[if_pos h2,if_pos ⟨h,h2⟩];rfl
  ·rw[if_neg h2,if_neg (fun e=>h2 e.2),List.getElem?_eq_none (by omega)]
 ·rw[if_neg h,if_neg (fun e=>h e.1)]
theorem rR (first:Nat)(data:ByteArray):∀ (k:Nat) (l:List ByteArray) (i:Nat),i<k->first+k<=l.length->(Bz first data k l).getD (first+i) ⟨#[]⟩=piece data i
 | 0,_,i,h,_=>by omega
 | k + 1,l,i,h,hl => by
   show((Bz first data k l).set (first+k) _).getD _ _=_
   rw[Ht,Jt]
   by_cases e:i=k
   ·subst e
    rw[if_pos ⟨rfl,by omega⟩]
   ·rw[if_neg (by omega)]
    exact rR first data k l i (by omega) (by omega)
theorem WR (first:Nat)(data:ByteArray)(q:Nat):∀ (k:Nat) (l:List ByteArray),(q<first\/first+k<=q)->(Bz first data k l).getD q ⟨#[]⟩=l.getD q ⟨#[]⟩
 | 0,_,_=>rfl
 | k + 1,l,h => by
   show((Bz first data k l).set (first+k) _).getD _ _=_
   rw[Ht,if_neg (by omega)]
   exact WR first data q k l (by omega)
def Dy (first:Nat)(data:ByteArray):Nat->List (Nat × ByteArray)
 | 0=>[]
 | k+1=>Dy first data k++[(first+k,piece data k)]
theorem KP (first:Nat)(data:ByteArray):∀ k,(Dy first data k).length=k
 | 0=>rfl
 | k + 1 => by
   show(Dy first data k++[_]).length=_
   rw[List.length_append,KP first data k]
   rfl
theorem Ui (first:Nat)(data:ByteArray)(l:List ByteArray):∀ k,flush l (Dy first data k)=Bz first data k l
 | 0=>rfl
 | k + 1 => by
   show flush l (Dy first data k++[_])=_
   rw[Sz,Ui first data l k]
   rfl
def begun (e:Nat)(data:ByteArray)(c:Ac):Ac :={ c with Aa:=(Bz (Bo c.Aa.length e) data (AY c.Aa.length) c.Aa).set (e%2) (Er e data) }
theorem Cy (e:Nat)(data:ByteArray)(c:Ac):(begun e data c).Aa.length=c.Aa.length:=by
 show((Bz _ _ _ _).set _ _).length=_
 rw[List.length_set,Jt]
theorem E9 {e:Nat}{data:ByteArray}{c:Ac}(h:Calm c):Calm (begun e data c):=⟨h.pend,h.off,h.none⟩
theorem JC {n:Nat}(e:Nat)(h:8<=n):Bo n e+AY n<=n/\3<=AY n/\2<=Bo n e:=by
 unfold Bo AY
 rcases Nat.mod_two_eq_zero_or_one e with h1|h1<;>rw[h1]<;>omega
theorem Nn {e i:Nat}{data:ByteArray}{c:Ac}(h:8<=c.Aa.length)(hi:i<AY c.Aa.length):(begun e data c).Aa.getD (Bo c.Aa.length e+i) ⟨#[]⟩=piece data i:=by
 obtain⟨h1,h2,h3⟩:=JC e h
 show((Bz _ _ _ _).set _ _).getD _ _=_
 rw[Ht,if_neg (by omega)]
 exact rR _ _ _ _ _ hi h1
theorem Uj {e:Nat}{data:ByteArray}{c:Ac}(h:8<=c.Aa.length):(begun e data c).Aa.getD (e%2) ⟨#[]⟩=Er e data:=by
 show((Bz _ _ _ _).set _ _).getD _ _=_
 rw[Ht,Jt,if_pos ⟨rfl,by omega⟩]
theorem QG {e q:Nat}{data:ByteArray}{c:Ac}(h1:q≠e%2)(h2:q<Bo c.Aa.length e\/Bo c.Aa.length e+AY c.Aa.length<=q):(begun e data c).Aa.getD q ⟨#[]⟩=c.Aa.getD q ⟨#[]⟩:=by
 show((Bz _ _ _ _).set _ _).getD _ _=_
 rw[Ht,if_neg (by omega)]
 exact WR _ _ _ _ _ h2
theorem Je {c:Ac}(h:Calm c)(q:Nat):c.read q=if q<c.Aa.length then (if c.Aa.getD q ⟨#[]⟩=Nb then (⟨#[]⟩,21) else (c.Aa.getD q ⟨#[]⟩,0)) else (⟨#[]⟩,2):=by
 unfold Ac.read
 rw[h.pend]
 by_cases hq:q<c.Aa.length
 ·rw[if_pos ⟨by omega,by omega⟩,if_pos hq]
  show(if ((c.Aa.getD (q:Int).toNat ⟨#[]⟩).toList==Nb.toList)=true then _ else _)=_
  rw[beq_toList,Int.toNat_natCast]
  simp only[decide_eq_true_eq]
 ·rw[if_neg (by omega),if_neg hq]
theorem Qa {c:Ac}(h:Calm c){q:Nat}(hq:q<c.Aa.length)(hs:(c.Aa.getD q ⟨#[]⟩).size=512):c.read q=(c.Aa.getD q ⟨#[]⟩,0):=by
 rw[Je h,if_pos hq,if_neg (fun e=>by rw[e] at hs;cases hs)]
theorem LQ {c:Ac}(h:Calm c):Ga c↔∀ q,q<c.Aa.length->(c.Aa.getD q ⟨#[]⟩).size<=512:=by
 constructor
 ·intro hz q hq
  have:=hz q
  rw[Je h,if_pos hq] at this
  by_cases e:c.Aa.getD q ⟨#[]⟩=Nb
  ·rw[e];decide
  ·rw[if_neg e] at this;exact this
 ·intro hz q
  rw[Je h]
  by_cases hq:q<c.Aa.length
  ·rw[if_pos hq]
   split
   ·decide
   ·exact hz q hq
  ·rw[if_neg hq];decide
theorem aJ {e:Nat}{data:ByteArray}{c:Ac}(h:Calm c)(h8:8<=c.Aa.length)(hz:Ga c):Ga (begun e data c):=by
 rw[LQ (E9 h)]
 intro q hq
 rw[Cy] at hq
 by_cases h1:q=e%2
 ·rw[h1,Uj h8,JA];exact Nat.le_refl _
 ·by_cases h2:q<Bo c.Aa.length e\/Bo c.Aa.length e+AY c.Aa.length<=q
  ·rw[QG h1 h2]
   exact(LQ h).1 hz q hq
  ·have:=Nn (e:=e) (data:=data) h8 (i:=q-Bo c.Aa.length e) (by omega)
   rw[show Bo c.Aa.length e+(q-Bo c.Aa.length e)=q by omega] at this
   rw[this,Hr]
   exact Nat.le_refl _
theorem Ym {e:Nat}(h1:1<=e)(h2:e<2^64)(k:Int):Ye e (zeros 512,k):=by
 refine .inr fun ch=>?_
 have e3:(zeros 512).extract 32 40=big 0 8:=by decide +kernel
 unfold parsed Ju
 simp only[e3]
 have:((big 0 8).toList==(big e 8).toList)=false:=by
  rw[beq_toList,decide_eq_false_iff_not]
  intro he
  have:=ZQ (by omega) h2 he
  omega
 rw[this]
 simp
theorem QI {e:Nat}{data:ByteArray}{c:Ac}(h:Calm c)(h8:8<=c.Aa.length)(h1:1<=e)(h2:e<2^64):Clean e (begun e data c) (Bo c.Aa.length e+Ai data.size) (AY c.Aa.length-Ai data.size):=by
 intro i hi
 obtain⟨a1,a2,a3⟩:=JC e h8
 unfold FE
 have hb:=Nn (e:=e) (data:=data) h8 (i:=Ai data.size+i) (by omega)
 have hr:=Qa (E9 (e:=e) (data:=data) h) (q:=Bo c.Aa.length e+(Ai data.size+i)) (by rw[Cy];omega) (by rw[hb,Hr])
 rw[show(((Bo c.Aa.length e+Ai data.size:Nat):Int)+(i:Nat))=((Bo c.Aa.length e+(Ai data.size+i):Nat):Int) by omega,hr,hb,iO (by omega)]
 exact Ym h1 h2 0
end Sto
end
section
open Go
namespace Sto
open Own (Bt Srt BH)
section
variable {α : Type} {f : α -> ByteArray}
theorem CX (t:ByteArray)(x : α)(l:List α):look f t (x::l)=if f x=t then some x else look f t l:=by
 unfold look
 by_cases h:f x=t
 ·rw[if_pos h,List.find?_cons_of_pos (by simpa using h)]
 ·rw[if_neg h,List.find?_cons_of_neg (by simpa using h)]
theorem Om (t:ByteArray)(x : α)(l:List α):has f t (x::l)=(decide (f x=t) || has f t l):=by
 unfold has
 rw[List.any_cons]
theorem KR (t:ByteArray):∀ l:List α,has f t l=(look f t l).isSome
 | []=>rfl
 | x :: l => by
   rw[Om,CX,KR t l]
   by_cases h:f x=t
   ·rw[if_pos h,decide_eq_true h];rfl
   ·rw[if_neg h,decide_eq_false h];rfl
theorem Oo (x : α)(t:ByteArray):∀ l:List α,look f t (BH f x l)=if f x=t then some x else look f t l
 | []=>CX t x []
 | y :: l => by
   unfold BH
   by_cases h1:Bt (f y) (f x)=true
   ·rw[if_pos h1,CX,Oo x t l,CX]
    by_cases h2:f x=t
    ·have:f y≠t:=fun e=>by rw[e,h2,Own.CJ] at h1;cases h1
     rw[if_pos h2,if_pos h2,if_neg this]
    ·rw[if_neg h2,if_neg h2]
   ·rw[if_neg h1]
    by_cases h2:f y=f x
    ·rw[if_pos h2,CX,CX]
     by_cases h3:f x=t
     ·rw[if_pos h3,if_pos h3]
     ·rw[if_neg h3,if_neg h3,if_neg (by rw[h2];exact h3)]
    ·rw[if_neg h2,CX]
theorem Gv (t k:ByteArray):∀ l:List α,look f k (without f t l)=if t=k then none else look f k l
 | [] => by
   show(none:Option α)=_
   split<;>rfl
 | y :: l => by
   have ih:=Gv t k l
   unfold without at ih ⊢
   by_cases h:f y=t
   ·rw[List.filter_cons_of_neg (by simp[h]),ih,CX]
    by_cases h2:t=k
    ·rw[if_pos h2,if_pos h2]
    ·rw[if_neg h2,if_neg h2,if_neg (by rw[h];exact h2)]
   ·rw[List.filter_cons_of_pos (by simp[h]),CX,ih,CX]
    by_cases h2:f y=k
    ·rw[if_pos h2,if_pos h2,if_neg (fun e=>h (h2.trans e.symm))]
    ·rw[if_neg h2,if_neg h2]
theorem JE (x : α):∀ l:List α,has f (f x) l=false->(BH f x l).length=l.length+1
 | [],_=>rfl
 | y :: l,h => by
   rw[Om,Bool.or_eq_false_iff,decide_eq_false_iff_not] at h
   unfold BH
   split
   ·rw[List.length_cons,JE x l h.2,List.length_cons]
   ·rw[if_neg h.1];rfl
theorem Yn (x : α):∀ {l:List α},Srt f l->has f (f x) l=true->(BH f x l).length=l.length
 | [],_,h=>by cases h
 | y :: l,hs,h => by
   obtain⟨h1,h2⟩:=List.pairwise_cons.1 hs
   rw[Om,Bool.or_eq_true,decide_eq_true_eq] at h
   unfold BH
   by_cases hy:Bt (f y) (f x)=true
   ·rw[if_pos hy,List.length_cons,List.length_cons]
    rcases h with h|h
    ·rw[h,Own.CJ] at hy;cases hy
    ·rw[Yn x h2 h]
   ·rw[if_neg hy]
    by_cases he:f y=f x
    ·rw[if_pos he];rfl
    ·rcases h with h|h
     ·exact absurd h he
     ·obtain⟨z,hz,e⟩:=LJ.1 h
      have:=h1 z hz
      rw[e] at this
      exact absurd this hy
theorem Uk (t:ByteArray){l:List α}(h:has f t l=false):without f t l=l:=by
 unfold without
 rw[List.filter_eq_self]
 intro x hx
 cases hd:decide (f x=t) with
 | false=>rfl
 | true =>
   have:has f t l=true:=LJ.2 ⟨x,hx,of_decide_eq_true hd⟩
   rw[h] at this;cases this
theorem KV (t:ByteArray):∀ {l:List α},Srt f l->has f t l=true->(without f t l).length+1=l.length
 | [],_,h=>by cases h
 | y :: l,hs,h => by
   obtain⟨h1,h2⟩:=List.pairwise_cons.1 hs
   by_cases e:f y=t
   ·have hn : has f t l = false :=by
     cases hc:has f t l with
     | false=>rfl
     | true =>
       obtain⟨z,hz,e2⟩:=LJ.1 hc
       have:=h1 z hz
       rw[e,e2,Own.CJ] at this;cases this
    have:without f t (y::l)=without f t l:=by unfold without;rw[List.filter_cons_of_neg (by simp[e])]
    rw[this,Uk t hn];rfl
   ·have:without f t (y::l)=y::without f t l:=by unfold without;rw[List.filter_cons_of_pos (by simp[e])]
    rw[Om,decide_eq_false e,Bool.false_or] at h
    rw[this,List.length_cons,List.length_cons,KV t h2 h]
end
theorem WS {α : Type}{f : α -> ByteArray}{t:ByteArray}{l:List α}(h:look f t l=none):has f t l=false:=by rw[KR,h];rfl
theorem aK {α : Type}{f : α -> ByteArray}{t:ByteArray}{l:List α}{x : α}(h:look f t l=some x):has f t l=true:=by rw[KR,h];rfl
end Sto
end
section
open Go
namespace Sto
open Own (Bt Srt BH)
section
variable {s:St} {x:SOp}
theorem rT (h:Bw s):small s=true:=GA.2 ⟨h.o1,h.e1,h.v1⟩
theorem Oq {t:St}(h:move s x=.ok t):step s x=if small t then .ok t else .error 7:=by
 unfold step
 rw[h]
theorem KW {t:St}(hm:move s x=.ok t)(h1:t.objs.length<=1024)(h2:t.ents.length<=4096)(h3:t.vals.length<=1024):step s x=.ok t:=by
 rw[Oq hm,if_pos (GA.2 ⟨h1,h2,h3⟩)]
theorem Ul (h0:x.kind=0):move s x=.ok (if has dig (dig x.obj) s.objs then s else { s with objs:=BH dig x.obj s.objs }):=by
 unfold move
 rw[if_pos h0]
theorem Yo (hs:Bw s)(h0:x.kind=0)(h:has dig (dig x.obj) s.objs=true):step s x=.ok s:=by
 have hm:=Ul (s:=s) h0
 rw[if_pos h] at hm
 rw[Oq hm,if_pos (rT hs)]
theorem Yp (hs:Bw s)(h0:x.kind=0)(h:has dig (dig x.obj) s.objs=false)(hl:s.objs.length≠1024):step s x=.ok { s with objs:=BH dig x.obj s.objs } :=by
 have hm:=Ul (s:=s) h0
 rw[if_neg (by rw[h];decide)] at hm
 exact KW hm (by show(BH dig x.obj s.objs).length<=1024;rw[JE _ _ h];have:=hs.o1;omega) hs.e1 hs.v1
theorem VD (h0:x.kind=0)(h:has dig (dig x.obj) s.objs=false)(hl:s.objs.length=1024):step s x=.error 7:=by
 have hm:=Ul (s:=s) h0
 rw[if_neg (by rw[h];decide)] at hm
 rw[Oq hm,if_neg]
 intro hz
 have:=(GA.1 hz).1
 have h2:(BH dig x.obj s.objs).length<=1024:=this
 rw[JE _ _ h] at h2
 omega
theorem Um (h1:x.kind=1)(h:has dig x.name s.objs=false):step s x=.error 6:=by
 unfold step move
 rw[if_neg (by omega),if_pos h1,if_neg (by rw[h];decide)]
theorem VG (hs:Bw s)(h1:x.kind=1)(h:has dig x.name s.objs=true):step s x=.ok { s with objs:=without dig x.name s.objs } :=by
 have hm:move s x=.ok { s with objs:=without dig x.name s.objs } :=by
  unfold move
  rw[if_neg (by omega),if_pos h1,if_pos h]
 exact KW hm (Nat.le_trans (List.length_filter_le _ _) hs.o1) hs.e1 hs.v1
theorem aL (h2:x.kind=2):move s x=.ok { s with ents:=s.ents++[x.data] } :=by
 unfold move
 rw[if_neg (by omega),if_neg (by omega),if_pos h2]
theorem rU (hs:Bw s)(h2:x.kind=2)(hl:s.ents.length≠4096):step s x=.ok { s with ents:=s.ents++[x.data] } :=by
 exact KW (aL h2) hs.o1 (by have:=hs.e1;show(s.ents++[x.data]).length<=4096;rw[List.length_append,List.length_singleton];omega) hs.v1
theorem VH (h2:x.kind=2)(hl:s.ents.length=4096):step s x=.error 7:=by
 rw[Oq (aL h2),if_neg]
 intro hz
 have h3:(s.ents++[x.data]).length<=4096:=(GA.1 hz).2.1
 rw[List.length_append,List.length_singleton] at h3
 omega
theorem Un (h3:x.kind=3):move s x=.ok { s with vals:=if x.data.size=0 then without Val.name x.name s.vals else BH Val.name ⟨x.name,x.data⟩ s.vals } :=by
 unfold move
 rw[if_neg (by omega),if_neg (by omega),if_neg (by omega)]
theorem rV (hs:Bw s)(h3:x.kind=3)(hd:x.data.size=0):step s x=.ok { s with vals:=without Val.name x.name s.vals } :=by
 have hm:=Un (s:=s) h3
 rw[if_pos hd] at hm
 exact KW hm hs.o1 hs.e1 (Nat.le_trans (List.length_filter_le _ _) hs.v1)
theorem aM (hs:Bw s)(h3:x.kind=3)(hd:¬ x.data.size=0)(hl:has Val.name x.name s.vals=true\/s.vals.length≠1024):step s x=.ok { s with vals:=BH Val.name ⟨x.name,x.data⟩ s.vals } :=by
 have hm:=Un (s:=s) h3
 rw[if_neg hd] at hm
 refine KW hm hs.o1 hs.e1 ?_
 show(BH Val.name ⟨x.name,x.data⟩ s.vals).length<=1024
 have:=hs.v1
 cases hh:has Val.name x.name s.vals with
 | true=>rw[Yn _ hs.vs hh];omega
 | false =>
   rw[JE _ _ hh]
   rcases hl with hl|hl
   ·rw[hh] at hl;cases hl
   ·omega
theorem VI (h3:x.kind=3)(hd:¬ x.data.size=0)(hh:has Val.name x.name s.vals=false)(hl:s.vals.length=1024):step s x=.error 7:=by
 have hm:=Un (s:=s) h3
 rw[if_neg hd] at hm
 rw[Oq hm,if_neg]
 intro hz
 have h4:(BH Val.name ⟨x.name,x.data⟩ s.vals).length<=1024:=(GA.1 hz).2.2
 rw[JE _ _ hh] at h4
 omega
theorem KX {c:Int}(h:step s x=.error c):c=6\/c=7:=by
 unfold step at h
 cases hm:move s x with
 | error d =>
   rw[hm] at h
   cases h
   unfold move at hm
   split at hm
   ·cases hm
   ·split at hm
    ·split at hm<;>cases hm
     exact .inl rfl
    ·split at hm<;>cases hm
 | ok t =>
   rw[hm] at h
   dsimp only at h
   split at h<;>cases h
   exact .inr rfl
end
theorem Uo {s t:St} : ∀ (l:List SOp) (k:Nat) (hk:k<l.length),steps (l.take k) s=.ok t->steps (l.take (k+1)) s=step t l[k]
 | x :: l,0,_,h => by
   cases h
   show(match step s x with|.error c=>Except.error c|.ok u=>steps [] u)=step s x
   cases step s x<;>rfl
 | x :: l,k + 1,hk,h => by
   have hk2:k<l.length:=by simpa using hk
   show steps (x::l.take (k+1)) s=step t l[k]
   have h' : steps (x::l.take k) s=.ok t:=h
   unfold steps at h' ⊢
   cases hs:step s x with
   | error c=>rw[hs] at h';cases h'
   | ok u =>
     rw[hs] at h'
     exact Uo l k hk2 h'
theorem Hu {s:St}{c:Int} : ∀ (l:List SOp) (k:Nat),steps (l.take k) s=.error c->steps l s=.error c
 | [],k,h=>by rw[List.take_nil] at h;exact h
 | x::l,0,h=>by cases h
 | x :: l,k + 1,h => by
   have h' : steps (x::l.take k) s=.error c:=h
   unfold steps at h' ⊢
   cases hs:step s x with
   | error d=>rw[hs] at h';exact h'
   | ok u =>
     rw[hs] at h'
     exact Hu l k h'
theorem WT {s:St}{c:Int} : ∀ (l:List SOp),steps l s=.error c->c=6\/c=7
 | [],h=>by cases h
 | x :: l,h => by
   have h':=h
   unfold steps at h'
   revert h'
   generalize hs:step s x=r
   cases r with
   | error d=>intro h';cases h';exact KX hs
   | ok u=>intro h';exact WT l h'
end Sto
end
section
open Go Go.RowKit Go.Maps
namespace Sto
open Classical in
noncomputable def Cg (n:Nat) (rd:Nat->ByteArray × Int) (p:Nat):Option Hd:=if (rd p).2=0/\FH n p (rd p).1 then some (Mi (rd p).1) else none
noncomputable def Ch (n:Nat) (rd:Nat->ByteArray × Int):Nat->List Hd
 | 0=>[]
 | k+1=>Ch n rd k++(Cg n rd k).toList
theorem Np (n:Nat)(rd:Nat->ByteArray × Int):∀ k,(Ch n rd k).length<=k
 | 0=>Nat.le_refl _
 | k + 1 => by
   have:=Np n rd k
   show(Ch n rd k++(Cg n rd k).toList).length<=_
   rw[List.length_append]
   cases Cg n rd k<;>simp<;>omega
theorem QJ {n p:Nat}{rd:Nat->ByteArray × Int}{h:Hd}(e:Cg n rd p=some h):(rd p).2=0/\FH n p (rd p).1/\h=Mi (rd p).1:=by
 unfold Cg at e
 split at e
 ·rename_i h1
  cases e
  exact⟨h1.1,h1.2,rfl⟩
 ·cases e
theorem Uq {n p:Nat}{rd:Nat->ByteArray × Int}(h1:(rd p).2=0)(h2:FH n p (rd p).1):Cg n rd p=some (Mi (rd p).1):=by
 unfold Cg
 rw[if_pos ⟨h1,h2⟩]
theorem nG {n p:Nat}{rd:Nat->ByteArray × Int}(h:¬ ((rd p).2=0/\FH n p (rd p).1)):Cg n rd p=none:=by
 unfold Cg
 rw[if_neg h]
structure y9 (n:Nat) (h:Hd):Prop where
 ep1:1<=h.epoch
 ep2:h.epoch<=4611686018427387903
 fit:Ai h.len<AY n
theorem Yq {x:ByteArray}(h:x.size=8):Ct x<=4611686018427387903:=by
 have h2:numOf x 8=256*numOf x 7+AJ x 7:=rfl
 have h3:=CW x 7
 unfold Ct
 rw[h]
 split
 ·rename_i h1
  have h1:numOf x 7<18014398509481984:=h1
  omega
 ·omega
theorem Ur (s:ByteArray):(Mi s).epoch=(Ct (s.extract 32 40)).toNat:=by unfold Mi;rfl
theorem rW (s:ByteArray):(Mi s).len=(Ct (s.extract 40 48)).toNat:=by unfold Mi;rfl
theorem nH {n p:Nat}{s:ByteArray}(h:FH n p s):y9 n (Mi s):=by
 have e1:=h.ep1;have l1:=h.len1
 have m1:=Yq (x:=s.extract 32 40) (by rw[ByteArray.size_extract,h.size];omega)
 refine⟨?_,?_,?_⟩
 ·rw[Ur]
  generalize Ct (s.extract 32 40)=v at*
  omega
 ·rw[Ur]
  generalize Ct (s.extract 32 40)=v at*
  omega
 ·rw[rW]
  exact l1
theorem WU {n:Nat}{rd:Nat->ByteArray × Int} : ∀ k,∀ h∈Ch n rd k,y9 n h
 | 0,h,hm=>by cases hm
 | k + 1,h,hm => by
   rcases List.mem_append.1 (show h∈Ch n rd k++(Cg n rd k).toList from hm) with hm|hm
   ·exact WU k h hm
   ·cases e:Cg n rd k with
    | none=>rw[e] at hm;cases hm
    | some h2 =>
      rw[e] at hm
      obtain rfl:h=h2:=by simpa using hm
      obtain⟨-,h3,rfl⟩:=QJ e
      exact nH h3
def FI (m:Hd)(l:List Hd):Hd:=l.foldl (fun m h=>if m.epoch<h.epoch then h else m) m
theorem rX (m:Hd)(l:List Hd):FI m l∈m::l:=by
 induction l generalizing m with
 | nil=>exact List.mem_cons_self
 | cons x l ih =>
   have:=ih (if m.epoch<x.epoch then x else m)
   show FI (if m.epoch<x.epoch then x else m) l∈_
   rcases List.mem_cons.1 this with h|h
   ·rw[h]
    split<;>simp
   ·exact List.mem_cons_of_mem _ (List.mem_cons_of_mem _ h)
def Es (rd:Nat->ByteArray × Int)(first:Nat):Nat->Option ByteArray
 | 0=>some ⟨#[]⟩
 | k + 1 => match Es rd first k with
   | none=>none
   | some b=>if (rd (first+k)).2=0/\(rd (first+k)).1.size=512 then some (b++(rd (first+k)).1) else none
theorem Nq {rd:Nat->ByteArray × Int}{first:Nat} : ∀ (k:Nat) {b:ByteArray},Es rd first k=some b->b.size=512*k
 | 0,b,h=>by cases h;rfl
 | k + 1,b,h => by
   have h:(match Es rd first k with|none=>none|some b=>if (rd (first+k)).2=0/\(rd (first+k)).1.size=512 then some (b++(rd (first+k)).1) else none)=some b:=h
   cases hs:Es rd first k with
   | none=>rw[hs] at h;cases h
   | some c =>
     rw[hs] at h
     dsimp only at h
     split at h
     ·rename_i h1
      cases h
      rw[Sha.Ab,Nq k hs,h1.2]
      omega
     ·cases h
theorem iP {rd:Nat->ByteArray × Int}{first k n:Nat}(h:k<=n)(hn:Es rd first k=none):Es rd first n=none:=by
 induction n with
 | zero => obtain rfl : k = 0 :=by omega
           exact hn
 | succ n ih =>
   by_cases e:k=n+1
   ·subst e;exact hn
   ·show(match Es rd first n with|none=>none|some b=>_)=none
    rw[ih (by omega)]
def replay:List ByteArray->St->Option St
 | [],s=>some s
 | r :: l,s => match D7 r with
   | none=>none
   | some ops => match txn s ops with
     | .ok t=>replay l t
     | .error _=>none
theorem QL:∀ (l:List ByteArray) (r:ByteArray) (s:St),replay (l++[r]) s=(match replay l s with|none=>none|some t=>match D7 r with|none=>none|some ops=>match txn t ops with|.ok u=>some u|.error _=>none)
 | [],r,s => by
   show(match D7 r with|none=>none|some ops=>match txn s ops with|.ok t=>some t|.error _=>none)=_
   rfl
 | x :: l,r,s => by
   show(match D7 x with|none=>none|some ops=>match txn s ops with|.ok t=>replay (l++[r]) t|.error _=>none)=match (match D7 x with|none=>none|some ops=>match txn s ops with|.ok t=>replay l t|.error _=>none) with|none=>none|some t=>match D7 r with|none=>none|some ops=>match txn t ops with|.ok u=>some u|.error _=>none
   cases D7 x with
   | none=>rfl
   | some ops =>
     dsimp only
     cases txn s ops with
     | error c=>rfl
     | ok t=>exact QL l r t
theorem aN {l:List ByteArray}{k:Nat}{s:St}(hn:replay (l.take k) s=none):replay l s=none:=by
 induction l generalizing k s with
 | nil=>rw[List.take_nil] at hn;cases hn
 | cons x l ih =>
   cases k with
   | zero=>cases hn
   | succ k =>
     have hn:(match D7 x with|none=>none|some ops=>match txn s ops with|.ok t=>replay (l.take k) t|.error _=>none)=none:=hn
     show(match D7 x with|none=>none|some ops=>match txn s ops with|.ok t=>replay l t|.error _=>none)=none
     cases hx:D7 x with
     | none=>rfl
     | some ops =>
       rw[hx] at hn
       dsimp only at hn ⊢
       cases ht:txn s ops with
       | error c=>rfl
       | ok t =>
         rw[ht] at hn
         exact ih hn
open Classical in
noncomputable def opn (n:Nat) (rd:Nat->ByteArray × Int):Except Int (Nat × St):=
 if n<8 then .error 2 else match Ch n rd 2 with
  | []=>.error 6
  | h0 :: l => match Es rd (Bo n (FI h0 l).epoch) (Ai (FI h0 l).len) with
    | none=>.error 9
    | some b => match Mh (b.extract 0 (FI h0 l).len) with
      | none=>.error 9
      | some s => if Bw s ∧ Sha.sha (b.extract 0 (FI h0 l).len) = (FI h0 l).dg then
         (match replay (opened (FI h0 l).epoch (AY n-Ai (FI h0 l).len) fun i=>rd (Bo n (FI h0 l).epoch+Ai (FI h0 l).len+i)).recs s with
         | none=>.error 9
         | some t=>.ok ((FI h0 l).epoch,t)) else .error 9
section
variable {n:Nat} {rd:Nat->ByteArray × Int} {h0 H:Hd} {l:List Hd} {b:ByteArray} {s t:St}
theorem uY (h:n<8):opn n rd=.error 2:=by unfold opn;rw[if_pos h]
theorem iQ (h:8<=n)(hl:Ch n rd 2=[]):opn n rd=.error 6:=by unfold opn;rw[if_neg (by omega),hl]
theorem rY (h:8<=n)(hl:Ch n rd 2=h0::l)(hH:FI h0 l=H)(hs:Es rd (Bo n H.epoch) (Ai H.len)=none):opn n rd=.error 9:=by
 subst hH
 unfold opn
 rw[if_neg (by omega),hl]
 dsimp only
 rw[hs]
theorem aO (h:8<=n)(hl:Ch n rd 2=h0::l)(hH:FI h0 l=H)(hs:Es rd (Bo n H.epoch) (Ai H.len)=some b)(hr:¬ ((∃ s,Mh (b.extract 0 H.len)=some s/\Bw s)/\Sha.sha (b.extract 0 H.len)=H.dg)):opn n rd=.error 9:=by
 subst hH
 unfold opn
 rw[if_neg (by omega),hl]
 dsimp only
 rw[hs]
 dsimp only
 cases hx:Mh (b.extract 0 (FI h0 l).len) with
 | none=>rfl
 | some s =>
   dsimp only
   rw[if_neg (fun e=>hr ⟨⟨s,hx,e.1⟩,e.2⟩)]
theorem aP (h:8<=n)(hl:Ch n rd 2=h0::l)(hH:FI h0 l=H)(hs:Es rd (Bo n H.epoch) (Ai H.len)=some b)(hr:Mh (b.extract 0 H.len)=some s)(hok:Bw s)(hd:Sha.sha (b.extract 0 H.len)=H.dg):opn n rd=match replay (opened H.epoch (AY n-Ai H.len) fun i=>rd (Bo n H.epoch+Ai H.len+i)).recs s with
 | none=>.error 9
 | some t=>.ok (H.epoch,t):=by
 subst hH
 unfold opn
 rw[if_neg (by omega),hl]
 dsimp only
 rw[hs]
 dsimp only
 rw[hr]
 dsimp only
 rw[if_pos ⟨hok,hd⟩]
end
end Sto
end
section
open Go Go.RowKit Go.Maps
def RV (v:Value):Option (DataW Value × List MemPlace):=some (.held v,[])
def Hw (k:ByteArray):Lit:=.string k.data.toList
theorem Ot (k:ByteArray):WideAt.IsKeyLit (Hw k):=by unfold Hw WideAt.IsKeyLit;trivial
theorem Yr {k j:ByteArray}(h:k≠j):Hw k≠Hw j:=by
 intro e
 apply h
 unfold Hw at e
 cases k;cases j
 simp at e
 simpa using e
theorem Nr:Keyed Tryz.prog 9:=string_keyed Tryz.underlying9
theorem keyOf_str {k:ByteArray}(h:k.size<=maxLen):keyOf Tryz.prog 9 (.string k)=some (Hw k):=WideMaps.keyOf_string_mk Tryz.underlying9 h
theorem VJ {v:Value}{l:Lit}(h:keyOf Tryz.prog 9 v=some l):∃ s:ByteArray,v=.string s/\l=Hw s/\s.size<=maxLen:=by
 rw[Go.keyOf_string Tryz.underlying9] at h
 cases v<;>simp[mapKey,Tryz.underlying9] at h
 exact⟨_,rfl,h.2.symm,h.1⟩
def Reads (D:DataW Value)(f:ByteArray->Option Value):Prop:=IsMap D/\∀ k:ByteArray,match f k with
 | some v=>has D (Hw k)=true/\∀ z,D.atKey (Hw k) z=.held v
 | none=>has D (Hw k)=false
def Hy (w:World)(b n:Nat)(f:ByteArray->Option Value):Prop:=∃ D,w.ownsMap Tryz.prog 9 RV b n D/\Reads D f
def Yt (f:ByteArray->Option Value)(k:ByteArray)(v:Value):ByteArray->Option Value:=fun j=>if k=j then some v else f j
def Yu (f:ByteArray->Option Value)(k:ByteArray):ByteArray->Option Value:=fun j=>if k=j then none else f j
theorem Reads.put {D:DataW Value}{f:ByteArray->Option Value}(h:Reads D f)(k:ByteArray)(v:Value):Reads (D.put (Hw k) (.held v)) (Yt f k v):=by
 refine⟨h.1.put _ _,fun j=>?_⟩
 unfold Yt
 by_cases e:k=j
 ·subst e
  rw[if_pos rfl]
  exact⟨has_put_same h.1 (Ot k) _,fun z=>atKey_put_same h.1 (Ot k) _ z⟩
 ·rw[if_neg e]
  have hn:Hw j≠Hw k:=Yr (Ne.symm e)
  have:=h.2 j
  cases hf:f j with
  | none=>rw[hf] at this;simp only at this ⊢;rw[has_put_other hn];exact this
  | some x=>rw[hf] at this;simp only at this ⊢;rw[has_put_other hn];exact⟨this.1,fun z=>by rw[atKey_put_other hn];exact this.2 z⟩
theorem Reads.del {D:DataW Value}{f:ByteArray->Option Value}(h:Reads D f)(k:ByteArray):Reads (D.del (Hw k)) (Yu f k):=by
 refine⟨h.1.del _,fun j=>?_⟩
 unfold Yu
 by_cases e:k=j
 ·subst e
  rw[if_pos rfl]
  exact has_del_same
 ·rw[if_neg e]
  have hn:Hw j≠Hw k:=Yr (Ne.symm e)
  have:=h.2 j
  cases hf:f j with
  | none=>rw[hf] at this;simp only at this ⊢;rw[has_del_other hn];exact this
  | some x=>rw[hf] at this;simp only at this ⊢;rw[has_del_other hn];exact⟨this.1,fun z=>by rw[atKey_del_other hn];exact this.2 z⟩
theorem Reads.at {D:DataW Value}{f:ByteArray->Option Value}(h:Reads D f)(k:ByteArray)(z:Value):D.atKey (Hw k) (.held z)=.held ((f k).getD z)/\has D (Hw k)=(f k).isSome:=by
 have:=h.2 k
 cases hf:f k with
 | none=>rw[hf] at this;exact⟨atKey_of_not_has this _,this⟩
 | some x=>rw[hf] at this;exact⟨this.2 _,this.1⟩
section
variable {w w' : World} {b n:Nat} {f:ByteArray->Option Value}
theorem Hy.lt (h:Hy w b n f):b<w.heap.size:=by obtain⟨D,h,_⟩:=h;exact h.lt
theorem Hy.keep (h:Hy w b n f)(hk:w'.heap[b]? = w.heap[b]?):Hy w' b n f:=by
 obtain⟨D,⟨es,clock,hb,F,hs,hD⟩,hr⟩:=h
 exact⟨D,⟨es,clock,by rw[hk];exact hb,F,hs,hD⟩,hr⟩
theorem Hy.below {B:Nat}(h:Hy w b n f)(hb:Below B w w')(hB:b<B):Hy w' b n f:=h.keep (hb.block b hB)
theorem Hy.JW {g:Nat}{t:TypeId}{cs:Array Value}(h:Hy w b n f)(ha:At w g t cs):g≠b:=by
 rintro rfl
 obtain⟨D,⟨es,clock,hb,_⟩,hr⟩:=h
 unfold At at ha
 rw[ha] at hb
 cases hb
variable {ops:Array Oper} {rest:List Oper} {o:Oper} {a:Act} {Q:Exit->Act->World->Prop}
theorem D8 (hg:o.guard=none)(m x:Operand)(t e:TypeId)(hop:o.op=Op.lookup t m x true)(ht:Tryz.prog.underlying t=some (.map 9 e))(z:Value)(hz:(zeroValue e).run Tryz.prog w=.ok z w)
 (h:Hy w b n f) (hm:a.eval m=.map (some b)) (k:ByteArray) (hx:a.eval x=.string k) (hk:k.size<=maxLen)
 (hK:wpList Tryz.prog ops Q rest (a.put o.dst (.tuple #[(f k).getD z,.bool (f k).isSome])) w):wpList Tryz.prog ops Q (o::rest) a w:=by
 obtain⟨D,hD,hr⟩:=h
 refine wpList_lookup_own_ok w hg m x t hop 9 e Nr ht RV hz (.held z) [] rfl b n D hm hD _ _ hx (keyOf_str hk) fun v ps hv=>?_
 have:=hr.at k z
 rw[this.1] at hv
 unfold RV at hv
 simp only[Option.some.injEq,Prod.mk.injEq,DataW.held.injEq] at hv
 rw[hv.1,this.2]
 exact hK
theorem Yv (hg:o.guard=none)(m x:Operand)(t e:TypeId)(hop:o.op=Op.lookup t m x false)(ht:Tryz.prog.underlying t=some (.map 9 e))(z:Value)(hz:(zeroValue e).run Tryz.prog w=.ok z w)
 (h:Hy w b n f) (hm:a.eval m=.map (some b)) (k:ByteArray) (hx:a.eval x=.string k) (hk:k.size<=maxLen)
 (hK:wpList Tryz.prog ops Q rest (a.put o.dst ((f k).getD z)) w):wpList Tryz.prog ops Q (o::rest) a w:=by
 obtain⟨D,hD,hr⟩:=h
 refine wpList_plain hg fun K' hK' => ?_
 obtain⟨v,ps,hrun,hv⟩:=hD.lookup Nr ht hz (R:=RV) (zd:=.held z) (zp:=[]) rfl (keyOf_str hk)
 have:=hr.at k z
 rw[this.1] at hv
 unfold RV at hv
 simp only[Option.some.injEq,Prod.mk.injEq,DataW.held.injEq] at hv
 rw[hv.1] at hrun
 unfold Oper.wp
 simp[execOp,hop,hm,hx,hrun,Result.andThen]
 exact hK' _ _ hK
end
def Ei (w:World)(b r n:Nat)(f:ByteArray->Option Value)(done:List ByteArray)(cnt:Nat):Prop:=
 ∃ D left,w.ranges Tryz.prog 9 RV b r n D left cnt/\Reads D f/\(∀ k:ByteArray,left (Hw k)=true↔(f k).isSome=true/\k ∉ done)/\done.Nodup/\∀ k∈done,(f k).isSome=true
section
variable {w w' : World} {b r n cnt:Nat} {f:ByteArray->Option Value} {done:List ByteArray}
theorem Ei.left_eq (h:Ei w b r n f done cnt):w.rangeLeft b r=cnt:=by obtain⟨D,left,h,_⟩:=h;exact h.left_eq
theorem Ei.keep (h:Ei w b r n f done cnt)(hb:w'.heap[b]? = w.heap[b]?)(hr:w'.heap[r]? = w.heap[r]?):Ei w' b r n f done cnt:=by
 obtain⟨D,left,h,hr1,hl⟩:=h
 obtain⟨es,clock,since,seen,c0,hb',F,hs,hD,hr',rest⟩:=h
 exact⟨D,left,⟨es,clock,since,seen,c0,hb.trans hb',F,hs,hD,hr.trans hr',rest⟩,hr1,hl⟩
variable {ops:Array Oper} {rest:List Oper} {o:Oper} {a:Act} {Q:Exit->Act->World->Prop}
theorem Hy.WX {t e:TypeId}(ht:Tryz.prog.underlying t=some (.map 9 e))(h:Hy w b n f):
 ∃ w' cnt,(Instr.range t (.map (some b))).run Tryz.prog w=.ok (.pointer (some ⟨w.heap.size,0,none⟩)) w' /\ Ei w' b w.heap.size n f [] cnt/\cnt<=n/\w.grownBy w' none/\w'.heap.size=w.heap.size+1:=by
 obtain⟨D,hD,hr⟩:=h
 obtain⟨w',hrun,r1,r2,r3⟩:=hD.range Nr ht
 refine⟨w',_,hrun,⟨D,_,r1,hr,fun k=>?_,List.nodup_nil,fun k hk=>(by cases hk)⟩,hD.size_le,r2,r3⟩
 rw[(hr.at k (.bool true)).2]
 simp
theorem Ei.aQ (h:Ei w b r n f done cnt):
 ((∀ k,(f k).isSome=true↔k∈done)/\∀ ty,(Instr.next (.pointer (some ⟨r,0,none⟩)) false ty).run Tryz.prog w=.ok (.tuple #[.bool false]) w)\/
 ∃ (k : ByteArray) (v : Value) (w' : World) (cnt' : Nat),k.size ≤ maxLen ∧ f k = some v ∧ k ∉ done ∧ Ei w' b r n f (done ++ [k]) cnt' ∧ cnt' < cnt ∧ w.grownBy w' (some r) ∧ w'.heap.size = w.heap.size ∧
   (Instr.entry (.pointer (some ⟨r,0,none⟩))).run Tryz.prog w' = .ok (.tuple #[.string k,v]) w' /\ (Instr.next (.pointer (some ⟨r,0,none⟩)) false 0).run Tryz.prog w=.ok (.tuple #[.bool true,.string k,v]) w':=by
 obtain⟨D,left,hR,hr,hl,hnd,hin⟩:=h
 rcases hR.next Nr 0 with ⟨hc0,hall,hrun⟩|⟨key,v,kl,y,w',cnt',hk,hlk,hy,hat,hrun,hrg,hlt,hgr,hsz,hen⟩
 ·refine .inl ⟨fun k=>⟨fun hs=>?_,hin k⟩,fun ty=>?_⟩
  ·apply Classical.byContradiction
   intro hn
   have:=(hl k).2 ⟨hs,hn⟩
   rw[hall] at this
   cases this
  ·rcases hR.next Nr ty with ⟨_,_,zaL⟩|⟨key,v,kl,y,w',cnt',_,hlk,_⟩
   ·exact zaL
   ·rw[hall] at hlk;cases hlk
 ·obtain⟨s,rfl,rfl,hsz'⟩:=VJ hk
  unfold RV at hy
  cases hy
  obtain⟨hs1,hs2⟩:=(hl s).1 hlk
  obtain⟨u,hu⟩:=Option.isSome_iff_exists.1 hs1
  have e2:=(hr.at s (.bool true)).1
  rw[hat,hu] at e2
  simp only[Option.getD_some,DataW.held.injEq] at e2
  subst e2
  refine .inr ⟨s,v,w',cnt',hsz',hu,hs2,⟨D,_,hrg,hr,fun k=>?_,?_,fun k hk=>?_⟩,hlt,hgr,hsz,hen,hrun⟩
  ·simp only[Bool.and_eq_true,Bool.not_eq_true',hl k,List.mem_append,List.mem_singleton,not_or]
   by_cases e:k=s
   ·subst e
    have:=WideAt.sameKey_self (Ot k)
    simp[this]
   ·have:=sameKey_ne (Yr e)
    simp[this,e]
  ·rw[List.nodup_append]
   exact⟨hnd,by simp,fun a ha b hb=>by rw[List.mem_singleton] at hb;rw[hb];exact fun e=>hs2 (e ▸ ha)⟩
  ·rcases List.mem_append.1 hk with hk|hk
   ·exact hin k hk
   ·rw[List.mem_singleton] at hk
    rw[hk];exact hs1
end
end
section
open Go Go.RowKit Go.Maps
def CY (w:World)(b n:Nat)(f:ByteArray->Option Value):Prop:=∃ D,w.ownsMap Tryz.prog 9 RV b n D/\Reads D f/\Tidy D/\Maps.size D=n
theorem Us {w:World}{b m:Nat}{D:DataW Value}(h:w.ownsMap Tryz.prog 9 RV b m D):w.ownsMap Tryz.prog 9 RV b (Maps.size D) D:=by
 obtain⟨es,clock,hb,F,hs,rfl⟩:=h
 exact⟨es,clock,hb,F,by simp[Maps.size,length_sorted],rfl⟩
section
variable {w w' : World} {b n:Nat} {f:ByteArray->Option Value}
theorem CY.smap (h:CY w b n f):Hy w b n f:=by obtain⟨D,h1,h2,_⟩:=h;exact⟨D,h1,h2⟩
theorem CY.made (w:World):CY (w.alloc (.map #[] 0)) w.heap.size 0 (fun _=>none):=
 ⟨_,World.ownsMap_made w _ _ _,⟨isMap_empty,fun k=>by show has (.map []) (Hw k)=false;rfl⟩,tidy_empty,rfl⟩
theorem CY.lt (h:CY w b n f):b<w.heap.size:=h.smap.lt
theorem CY.keep (h:CY w b n f)(hk:w'.heap[b]? = w.heap[b]?):CY w' b n f:=by
 obtain⟨D,⟨es,clock,hb,F,hs,hD⟩,hr⟩:=h
 exact⟨D,⟨es,clock,by rw[hk];exact hb,F,hs,hD⟩,hr⟩
theorem CY.below {B:Nat}(h:CY w b n f)(hb:Below B w w')(hB:b<B):CY w' b n f:=h.keep (hb.block b hB)
theorem CY.JW {g:Nat}{t:TypeId}{cs:Array Value}(h:CY w b n f)(ha:At w g t cs):g≠b:=h.smap.JW ha
variable {ops:Array Oper} {rest:List Oper} {o:Oper} {a:Act} {Q:Exit->Act->World->Prop}
def nI (n:Nat)(f:ByteArray->Option Value)(k:ByteArray):Nat:=if (f k).isSome then n else n+1
def aR (n:Nat)(f:ByteArray->Option Value)(k:ByteArray):Nat:=if (f k).isSome then n-1 else n
theorem JF (hg:o.guard=none)(m x y:Operand)(t e:TypeId)(hop:o.op=Op.mapUpdate t m x y)(ht:Tryz.prog.underlying t=some (.map 9 e))(h:CY w b n f)(hn:n<maxLen)(hm:a.eval m=.map (some b))(k:ByteArray)(v:Value)(hx:a.eval x=.string k)(hy:a.eval y=v)(hk:k.size<=maxLen)
 (hK:∀ w',CY w' b (nI n f k) (Yt f k v)->w.grownBy w' (some b)->wpList Tryz.prog ops Q rest (a.put o.dst undef) w'):wpList Tryz.prog ops Q (o::rest) a w:=by
 obtain⟨D,hD,hr,ht2,hs⟩:=h
 refine wpList_mapUpdate_own w hg m x y t hop 9 e Nr ht RV b n D hm hD hn _ _ _ hx hy (keyOf_str hk) (.held v) [] rfl fun w' h1 h2=>hK w' ⟨_,?_,hr.put k v,ht2.put (Ot k) _,?_⟩ h2
 ·have hz:=size_put (k:=Hw k) ht2 (.held v)
  have:=Us h1
  rw[hz,hs,(hr.at k (.bool true)).2] at this
  exact this
 ·rw[size_put ht2,hs,(hr.at k (.bool true)).2];rfl
theorem CY.kY {t e:TypeId}(ht:Tryz.prog.underlying t=some (.map 9 e))(h:CY w b n f)(k:ByteArray)(hk:k.size<=maxLen)(ty:TypeId):
 ∃ w',(Builtin.delete_ #[t,9] ty #[.map (some b),.string k]).run Tryz.prog w=.ok (.tuple #[]) w' /\ CY w' b (aR n f k) (Yu f k)/\w.grownBy w' (some b):=by
 obtain⟨D,hD,hr,ht2,hs⟩:=h
 obtain⟨w',h1,h2,h3⟩:=hD.drop Nr ht (keyOf_str hk) ty
 have hz:=size_del (k:=Hw k) ht2
 rw[hs,(hr.at k (.bool true)).2] at hz
 have hz2:Maps.size (D.del (Hw k))=aR n f k:=by
  unfold aR
  split
  ·rename_i h;rw[if_pos h] at hz;omega
  ·rename_i h;rw[if_neg h] at hz;omega
 refine⟨w',h1,⟨_,?_,hr.del k,ht2.del _,hz2⟩,h3.grown⟩
 have:=Us h2
 rw[hz2] at this
 exact this
theorem CY.kZ {t e:TypeId}(ht:Tryz.prog.underlying t=some (.map 9 e))(h:CY w b n f)(ty:TypeId):(Builtin.len_ #[t] ty #[.map (some b)]).run Tryz.prog w=.ok (.int .i64 n) w:=by
 obtain⟨D,hD,hr,ht2,hs⟩:=h
 have:=hD.len ht ty
 rw[hs] at this
 exact this
end
end
section
open Go Go.RowKit Go.Maps
theorem Ou {w:World}{base base' n size:Nat}{e:TypeId}{v:Value}{xs:List Value}(h:w.ownsRow base e size v n xs)(hb:base' <= base):w.ownsRow base' e size v n xs:=by
 obtain⟨hl,hn|⟨g,cap,cur,rfl,hg,rest⟩⟩:=h
 ·exact⟨hl,.inl hn⟩
 ·exact⟨hl,.inr ⟨g,cap,cur,rfl,Nat.le_trans hb hg,rest⟩⟩
theorem Iu {w:World}{base m n size c:Nat}{a:Option Addr}{e:TypeId}{xs:List Value}(h:w.ownsRow base e size (.slice a m c) n xs):m=n:=by
 obtain⟨_,⟨h0,hn⟩|⟨g,cap,cur,h0,_⟩⟩:=h
 ·cases h0;exact hn.symm
 ·cases h0;rfl
def JX (w:World)(v:Value)(size n:Nat)(xs:List Value):Prop:=
 xs.length=n*size/\∃ a c,v=.slice a n c/\(n=0\/∃ b o,a=some ⟨b,o,none⟩/\b<w.heap.size/\∀ (j:Nat) (u:Value),xs[j]? = some u->w.cell? ⟨b,o+j,none⟩=some u)
theorem JX.own {w:World}{base size n:Nat}{e:TypeId}{v:Value}{xs:List Value}(h:w.ownsRow base e size v n xs):JX w v size n xs:=by
 obtain⟨hl,⟨rfl,rfl⟩|⟨g,cap,cur,rfl,_,hg,hnc,_,hsz,ht⟩⟩:=h
 ·exact⟨hl,none,0,rfl,.inl rfl⟩
 ·refine⟨hl,_,cap,rfl,.inr ⟨g,0,rfl,(Array.getElem?_eq_some_iff.1 hg).1,fun j u hj=>?_⟩⟩
  rw[<- ht,List.getElem?_take] at hj
  split at hj
  ·unfold World.cell?
   rw[hg]
   simpa using hj
  ·cases hj
theorem JX.keep {w w' : World}{v:Value}{size n:Nat}{xs:List Value}(h:JX w v size n xs)(hs:w.heap.size<=w'.heap.size)(hk:∀ k,v.ownBlock=some k->k<w.heap.size->w'.heap[k]? = w.heap[k]?):JX w' v size n xs:=by
 obtain⟨hl,a,c,rfl,h0|⟨b,o,rfl,hb,hc⟩⟩:=h
 ·exact⟨hl,a,c,rfl,.inl h0⟩
 ·refine⟨hl,_,c,rfl,.inr ⟨b,o,rfl,Nat.lt_of_lt_of_le hb hs,fun j u hj=>?_⟩⟩
  rw[Pj (hk b rfl hb)]
  exact hc j u hj
theorem JX.below {w w' : World}{v:Value}{size n:Nat}{xs:List Value}(h:JX w v size n xs)(hb:Below w.heap.size w w'):JX w' v size n xs:=
 h.keep hb.size fun k _ hl=>hb.block k hl
theorem own_below {w w' : World}{base size n:Nat}{e:TypeId}{v:Value}{xs:List Value}(h:w.ownsRow base e size v n xs)(hb:Below w.heap.size w w'):w'.ownsRow base e size v n xs:=
 Ar h fun k hk=>hb.block k (by obtain⟨cur,hc⟩:=Ao h hk;exact hc.lt)
theorem uZ {w:World}{b b' size size' n m:Nat}{e e' : TypeId}{v u:Value}{xs ys:List Value}(h:w.ownsRow b e size v n xs)(h' : w.ownsRow b' e' size' u m ys)(he:e≠e'):∀ k,v.ownBlock=some k->u.ownBlock≠some k:=by
 intro k hk hu
 obtain⟨c,hc⟩:=Ao h hk
 obtain⟨c',hc'⟩:=Ao h' hu
 exact hc.ne hc' he rfl
structure Qb (P:Program) (t e:TypeId) (size bytes:Nat) where
 i:TypeInfo
 z:Value
 under:P.underlying t=some (.slice e)
 info:P.info? e=some i
 zero:i.zero=some z
 zaM:i.size=size
 bytes_:i.bytes=bytes
 zaN:z.cells.size=size
 pos:0<size
theorem LU {P:Program}{t e:TypeId}{z:Value}{size bytes:Nat}(h:P.underlying t=some (.slice e))(hi:(P.info? e).map (fun i=>(i.zero,i.size,i.bytes))=some (some z,size,bytes))(hz:z.cells.size=size)(hp:0<size):Nonempty (Qb P t e size bytes):=by
 obtain⟨i,h1,h2,h3,h4⟩:=info_parts hi
 exact⟨⟨i,z,h,h1,h2,h3,h4,hz,hp⟩⟩
section
variable {P:Program} {w:World} {ops:Array Oper} {rest:List Oper} {o:Oper} {a:Act} {Q:Exit->Act->World->Prop}
theorem BG {t e:TypeId}{size bytes:Nat}(T:Nonempty (Qb P t e size bytes))(hgd:o.guard=none)(s x:Operand)(ho:o.op=.call { callee:=.builtin .append,args:=#[s,x],argTypes:=#[t,t] })
 (base n:Nat) (v:Value) (xs:List Value) (hs:a.eval s=v) (hown:w.ownsRow base e size v n xs) (y:Value) (m:Nat) (ys:List Value) (hx:a.eval x=y) (hy:JX w y size m ys) (h1:∀ u∈ys,u.oneCell' = true) (hn:n+m<=4000000) (hbs:bytes<=1000) (hb:base<=w.heap.size)
 (h:∀ v' w',w'.ownsRow base e size v' (n+m) (xs++ys)->w.grownBy w' v.ownBlock->(v'.ownBlock=v.ownBlock\/v'.ownBlock=some w.heap.size)->wpList P ops Q rest (a.put o.dst v') w'):wpList P ops Q (o::rest) a w:=by
 obtain⟨T⟩:=T
 obtain⟨hl,ya,yc,rfl,hc⟩:=hy
 cases ya with
 | none =>
   have h0:m=0:=by
    rcases hc with h0|⟨b,o,e,_⟩
    ·exact h0
    ·cases e
   subst h0
   have hys:ys=[]:=List.eq_nil_of_length_eq_zero (by rw[hl];exact Nat.zero_mul _)
   subst hys
   refine wpList_plain hgd fun K hK=>?_
   have hrun:=JR (P:=P) (w:=w) base t o.type e T.i size T.under T.info v n yc xs hown
   unfold Oper.wp
   have hx' : a.eval x=.slice none 0 yc:=hx
   simp[execOp,ho,resolve,invoke,builtin,hs,hx',hrun,Result.andThen]
   exact hK _ _ (h v w (by simpa using hown) ⟨rfl,rfl,rfl,Nat.le_refl _,fun _ _ _=>rfl⟩ (.inl rfl))
 | some p =>
   refine wpList_append_own_at w hgd s x t ho base e T.i T.z size bytes T.under T.info T.zero T.zaM T.bytes_ T.zaN T.pos v n xs hs hown p m yc ys hx hl (fun j u hj=>?_) h1 (by unfold maxLen;omega) (by have:=Nat.mul_le_mul hn hbs;omega) hb (fun v' w' h1 h2 _ h4=>h v' w' h1 h2 h4)
   rcases hc with h0|⟨b,o',e,hb',hcell⟩
   ·subst h0
    rw[Nat.zero_mul] at hl
    rw[List.eq_nil_of_length_eq_zero hl] at hj
    simp at hj
   ·cases e
    have hadd:(⟨b,o',none⟩:Addr).add j=⟨b,o' + j,none⟩:=by unfold Addr.add;split<;>simp_all
    rw[hadd]
    exact hcell j u hj
end
theorem EY (w:World)(e:TypeId)(cs:Array Value)(size n c:Nat)(hs:cs.size=n*size):JX (w.alloc (.cells cs e)) (.slice (some ⟨w.heap.size,0,none⟩) n c) size n cs.toList:=by
 refine⟨by simpa using hs,_,_,rfl,.inr ⟨w.heap.size,0,rfl,by simp,fun j u hj=>?_⟩⟩
 have h:=At.new w e cs
 rw[Nat.zero_add]
 unfold World.cell?
 have h' : (w.alloc (.cells cs e)).heap[w.heap.size]? = some (.cells cs e (0,0)):=h
 rw[h']
 simpa using hj
end
section
open Go Go.RowKit Go.Maps
abbrev Elem (α : Type):=(Nat->Prop)->World->List Value -> α -> Prop
class Cc {α : Type} (R:Elem α):Prop where
 keep:∀ {F:Nat->Prop} {w w' : World} {cs:List Value} {x : α},R F w cs x->w.heap.size<=w'.heap.size->(∀ k,F k->k<w.heap.size->w'.heap[k]? = w.heap[k]?)->R F w' cs x
 mono:∀ {F G:Nat->Prop} {w:World} {cs:List Value} {x : α},R F w cs x->(∀ k,F k->k<w.heap.size->G k)->R G w cs x
def Dp {α : Type}(size:Nat)(R:Elem α)(F:Nat->Prop)(w:World)(v:Value)(l:List α):Prop:=
 ∃ a c,v = .slice a l.length c ∧ (l.length = 0 ∨ ∃ b o,a = some ⟨b,o,none⟩ ∧ F b ∧ b < w.heap.size ∧
   ∀ (i:Nat) (h:i<l.length),∃ cs,cs.length=size/\(∀ (j:Nat) (u:Value),cs[j]? = some u->w.cell? ⟨b,o+i*size+j,none⟩=some u)/\R F w cs l[i])
section
variable {α : Type} {size:Nat} {R:Elem α} {F G:Nat->Prop} {w w' : World} {v:Value} {l:List α}
theorem Dp.len (h:Dp size R F w v l):∃ a c,v=.slice a l.length c:=by obtain⟨a,c,h,_⟩:=h;exact⟨a,c,h⟩
theorem Dp.nil (a:Option Addr)(c:Nat):Dp size R F w (.slice a 0 c) []:=⟨a,c,rfl,.inl rfl⟩
theorem Dp.keep [Cc R](h:Dp size R F w v l)(hs:w.heap.size<=w'.heap.size)(hk:∀ k,F k->k<w.heap.size->w'.heap[k]? = w.heap[k]?):Dp size R F w' v l:=by
 obtain⟨a,c,e,h0|⟨b,o,ha,hF,hb,hc⟩⟩:=h
 ·exact⟨a,c,e,.inl h0⟩
 ·refine⟨a,c,e,.inr ⟨b,o,ha,hF,Nat.lt_of_lt_of_le hb hs,fun i hi=>?_⟩⟩
  obtain⟨cs,h1,h2,h3⟩:=hc i hi
  exact⟨cs,h1,fun j u hj=>(Pj (hk b hF hb)).trans (h2 j u hj),Cc.keep h3 hs hk⟩
theorem Dp.below [Cc R](h:Dp size R F w v l)(hb:Below w.heap.size w w'):Dp size R F w' v l:=h.keep hb.size fun k _ hl=>hb.block k hl
theorem Dp.mono [Cc R](h:Dp size R F w v l)(hF:∀ k,F k->k<w.heap.size->G k):Dp size R G w v l:=by
 obtain⟨a,c,e,h0|⟨b,o,ha,hb0,hb,hc⟩⟩:=h
 ·exact⟨a,c,e,.inl h0⟩
 ·refine⟨a,c,e,.inr ⟨b,o,ha,hF b hb0 hb,hb,fun i hi=>?_⟩⟩
  obtain⟨cs,h1,h2,h3⟩:=hc i hi
  exact⟨cs,h1,h2,Cc.mono h3 hF⟩
theorem Dp.at_ {a:Option Addr}{n c:Nat}(h:Dp size R F w (.slice a n c) l){i:Nat}(hi:i<l.length):∃ b o,a=some ⟨b,o,none⟩/\F b/\b<w.heap.size/\∃ cs,cs.length=size/\(∀ (j:Nat) (u:Value),cs[j]? = some u->w.cell? ⟨b,o+i*size+j,none⟩=some u)/\R F w cs l[i]:=by
 obtain⟨a',c',e,h0|⟨b,o,ha,hF,hb,hc⟩⟩:=h
 ·omega
 ·cases e
  exact⟨b,o,ha,hF,hb,hc i hi⟩
theorem Dp.Yw {n:Nat}{css:List (List Value)}(hr:JX w v size n css.flatten)(hn:n=l.length)(hl:css.length=l.length)(hF:∀ k,v.ownBlock=some k->F k)(he:∀ i (hi:i<l.length) (hi' : i<css.length),css[i].length=size/\R F w css[i] l[i]):Dp size R F w v l:=by
 subst hn
 obtain⟨_,a,c,rfl,h0|⟨b,o,rfl,hb,hc⟩⟩:=hr
 ·exact⟨a,c,rfl,.inl h0⟩
 ·refine⟨_,c,rfl,.inr ⟨b,o,rfl,hF b rfl,hb,fun i hi=>⟨css[i],(he i hi (by omega)).1,fun j u hj=>?_,(he i hi (by omega)).2⟩⟩⟩
  rw[Nat.add_assoc]
  refine hc _ _ ?_
  have hlen:∀ m,m<=css.length->(css.take m).flatten.length=m*size:=by
   intro m
   induction m with
   | zero=>simp
   | succ m ih =>
     intro hm
     rw[List.take_succ_eq_append_getElem (by omega),List.flatten_append,List.length_append,ih (by omega),List.flatten_singleton,(he m (by omega) (by omega)).1,Nat.succ_mul]
  have hi2:i<css.length:=by omega
  have hsplit:css.flatten=(css.take i).flatten++(css[i]++(css.drop (i+1)).flatten):=by
   conv=>lhs;rw[<- List.take_append_drop i css]
   rw[List.flatten_append,List.drop_eq_getElem_cons hi2,List.flatten_cons]
  rw[hsplit,List.getElem?_append_right (by rw[hlen i (by omega)];omega),hlen i (by omega),Nat.add_sub_cancel_left]
  have:=(List.getElem?_eq_some_iff.1 hj).1
  rw[List.getElem?_append_left this]
  exact hj
end
end
section
open Go Go.RowKit Go.Maps
def nums (L:List UInt8):List Int:=L.map fun x=>(x.toNat:Int)
theorem Ov (a b:List UInt8):nums (a++b)=nums a++nums b:=List.map_append
theorem Ut (L:List UInt8):strOfNums (nums L)=⟨L.toArray⟩:=by
 apply Sha.Bl
 rw[strOfNums_data]
 unfold nums
 rw[List.map_map]
 show L.map _=L
 rw[List.map_congr_left (g:=id) (fun x _=>by simp)]
 simp
theorem zaO (n:Nat):bits BinOp.or IntKind.u8 ((n:Int)%256) 128=((n%128+128:Nat):Int):=by
 have h:∀ k:Fin 256,bits BinOp.or IntKind.u8 (k.val:Int) 128=((k.val%128+128:Nat):Int):=by decide +kernel
 have h2:=h ⟨n%256,Nat.mod_lt _ (by omega)⟩
 simp only at h2
 have e:((n%256:Nat):Int)=(n:Int)%256:=by omega
 rw[e] at h2
 rw[h2]
 congr 2
 omega
theorem WY (f n:Nat)(h:128<=n):Cod.Gb (f+1) n=(n%128+128).toUInt8::Cod.Gb f (n/128):=by
 show(if n<128 then _ else _)=_
 rw[if_neg (by omega)]
theorem WZ (f n:Nat)(h:n<128):Cod.Gb (f+1) n=[n.toUInt8]:=by
 show(if n<128 then _ else _)=_
 rw[if_pos h]
def zaP (w0:World)(m0:Nat)(n b:Value)(wr:World):Prop:=
 ∃ (m f:Nat) (B:List UInt8),n=.int .u64 m/\m<128^(f+1)/\m<18446744073709551616/\B.length+f=9/\B++Cod.Gb (f+1) m=Cod.Gb 10 m0/\wr.ownsRow w0.heap.size 5 1 b B.length ((nums B).map (Value.int .u8))/\Below w0.heap.size w0 wr
theorem Uu (m:Nat)(w:World)(hm:m<18446744073709551616):
 Calls Tryz.prog 182 #[.int .u64 m] w fun e w' => e=.returned (.string (Cod.uns m))/\Below w.heap.size w w':=by
 obtain⟨i0,hi,hz0,hz1,hz2⟩:=info_parts Lm
 go_enter Tryz.func182,Tryz.ntmps182
 go_wp2
 go_loopw [0,3] (fun n b wr=>zaP w m n b wr) (fun n _ _=>(intOf n).toNat)
 case atStart=>
  have h10:(128:Nat)^10=1180591620717411303424:=by decide
  exact⟨m,9,[],rfl,by omega,hm,rfl,rfl,⟨rfl,.inl ⟨rfl,rfl⟩⟩,Below.refl _ _⟩
 case round=>
  obtain⟨n,f,B,rfl,hn,hn2,hl,hB,how,hb⟩:=hrel
  have HOW:=zh how;have HBL:=zh hb;have HBB:=zh hB;clear how hb hB
  obtain⟨ga,gm,gc,rfl⟩:=Ah HOW.out
  by_cases hlt:128<=n
  ·obtain⟨x,hx⟩:∃ x:UInt8,x=(n%128+128).toUInt8:=⟨_,rfl⟩
   have hxn:(x.toNat:Int)=bits BinOp.or IntKind.u8 ((n:Int)%256) 128:=by rw[hx,Cod.Ho _ (by omega)];exact(zaO n).symm
   have HX:=zh hx;have HXN:=zh hxn;clear hx hxn
   obtain⟨g,rfl⟩:∃ g,f=g+1:=by
    rcases f with _|g
    ·simp at hn;omega
    ·exact⟨g,rfl⟩
   have hn3:n/128<128^(g+1):=by
    rw[Nat.pow_succ] at hn
    omega
   have HN3:=zh hn3;clear hn3 hn
   go_wp2_with (at_builtin;go_must (refine wpList_append_own_at _ rfl _ _ 116 rfl w.heap.size 5 i0 _ 1 1 Tryz.underlying116 hi hz0 hz1 hz2 rfl (by omega) (.slice ga gm gc) B.length ((nums B).map (Value.int .u8)) rfl (HOW.out.alloc _) ⟨wr.heap.size,0,none⟩ 1 1 [.int .u8 (bits BinOp.or IntKind.u8 ((n:Int)%256) 128)] rfl rfl ?c1 ?c2 ?c3 ?c4 ?c5 ?_))
   case c1=>
    intro j u hj
    match j,hj with
    | 0,hj=>simp at hj;subst hj;simp[Addr.add]
   case c2=>intro u hu;simp at hu;subst hu;rfl
   case c3=>unfold maxLen;omega
   case c4=>omega
   case c5=>have:=HBL.out.size;simp;omega
   intro v1 w1 Uv hg1 _ _
   have hb1:Below w.heap.size w w1:=Cw (HBL.out.alloc HBL.out.size _) (by have:=HBL.out.size;simp;omega) HOW.out hg1
   have hrow:w1.ownsRow w.heap.size 5 1 v1 (B.length+1) ((nums (B++[x])).map (Value.int .u8)):=by
    rw[Ov,List.map_append]
    show w1.ownsRow _ _ _ _ _ (_++[Value.int .u8 (x.toNat:Int)])
    rw[HXN.out]
    exact Uv
   obtain⟨g2,cap2,rfl,_⟩:=BM hrow (by omega)
   have hB2:(B++[x])++Cod.Gb (g+1) (n/128)=Cod.Gb 10 m:=by
    rw[List.append_assoc,<- HBB.out,WY (g+1) n hlt,HX.out]
    rfl
   have HB1:=zh hb1;have yA:=zh hrow;have HB2:=zh hB2;clear Uv hg1 hb1 hrow hB2
   go_wp2_with fail
   refine⟨⟨n/128,g,B++[x],by first|rfl|(congr 1;omega),HN3.out,by omega,by rw[List.length_append];show B.length+1+g=9;omega,HB2.out,by rw[List.length_append];exact yA.out,HB1.out⟩,by simp[intOf];omega⟩
  ·obtain⟨x,hx⟩:∃ x:UInt8,x=n.toUInt8:=⟨_,rfl⟩
   have hxn:(x.toNat:Int)=n:=by rw[hx,Cod.Ho n (by omega)]
   have HX:=zh hx;have HXN:=zh hxn;clear hx hxn
   go_wp2_with (at_builtin;go_must (refine wpList_append_own_at _ rfl _ _ 116 rfl w.heap.size 5 i0 _ 1 1 Tryz.underlying116 hi hz0 hz1 hz2 rfl (by omega) (.slice ga gm gc) B.length ((nums B).map (Value.int .u8)) rfl (HOW.out.alloc _) ⟨wr.heap.size,0,none⟩ 1 1 [.int .u8 n] rfl rfl ?c1 ?c2 ?c3 ?c4 ?c5 ?_))
   case c1=>
    intro j u hj
    match j,hj with
    | 0,hj=>simp at hj;subst hj;simp[Addr.add]
   case c2=>intro u hu;simp at hu;subst hu;rfl
   case c3=>unfold maxLen;omega
   case c4=>omega
   case c5=>have:=HBL.out.size;simp;omega
   intro v1 w1 Uv hg1 _ _
   have hb1:Below w.heap.size w w1:=Cw (HBL.out.alloc HBL.out.size _) (by have:=HBL.out.size;simp;omega) HOW.out hg1
   have hrow:w1.ownsRow w.heap.size 5 1 v1 (B.length+1) ((nums (B++[x])).map (Value.int .u8)):=by
    rw[Ov,List.map_append]
    show w1.ownsRow _ _ _ _ _ (_++[Value.int .u8 (x.toNat:Int)])
    rw[HXN.out]
    exact Uv
   have hfin:(⟨(B++[x]).toArray⟩:ByteArray)=Cod.uns m:=by
    unfold Cod.uns
    rw[<- HBB.out,WZ f n (by omega),HX.out]
   have hcv:(convert 116 9 v1).run Tryz.prog w1=.ok (.string (Cod.uns m)) w1:=by
    rw[Dl w1 116 5 9 rfl rfl rfl _ hrow,Ut,hfin]
   have HB1:=zh hb1;clear Uv hg1 hb1 hrow hfin
   go_wp2
   go_ret
   exact⟨rfl,HB1.out⟩
theorem Ns (m:Nat)(w:World)(hm:m<18446744073709551616):
 Calls Tryz.prog 185 #[.int .u64 m] w fun e w' => e=.returned (.string (Cod.uns m))/\Below w.heap.size w w':=by
 obtain⟨i0,hi,hz0,hz1,hz2⟩:=info_parts Lm
 go_enter Tryz.func185,Tryz.ntmps185
 go_wp2
 go_loopw [0,3] (fun n b wr=>zaP w m n b wr) (fun n _ _=>(intOf n).toNat)
 case atStart=>
  have h10:(128:Nat)^10=1180591620717411303424:=by decide
  exact⟨m,9,[],rfl,by omega,hm,rfl,rfl,⟨rfl,.inr ⟨w.heap.size,0,#[],rfl,Nat.le_refl _,At.new w _ _,Nat.le_refl _,by decide,rfl,rfl⟩⟩,zb⟩
 case round=>
  obtain⟨n,f,B,rfl,hn,hn2,hl,hB,how,hb⟩:=hrel
  have HOW:=zh how;have HBL:=zh hb;have HBB:=zh hB;clear how hb hB
  obtain⟨ga,gm,gc,rfl⟩:=Ah HOW.out
  by_cases hlt:128<=n
  ·obtain⟨x,hx⟩:∃ x:UInt8,x=(n%128+128).toUInt8:=⟨_,rfl⟩
   have hxn:(x.toNat:Int)=(n:Int)%128+128:=by rw[hx,Cod.Ho _ (by omega)];omega
   have HX:=zh hx;have HXN:=zh hxn;clear hx hxn
   obtain⟨g,rfl⟩:∃ g,f=g+1:=by
    rcases f with _|g
    ·simp at hn;omega
    ·exact⟨g,rfl⟩
   have hn3:n/128<128^(g+1):=by
    rw[Nat.pow_succ] at hn
    omega
   have HN3:=zh hn3;clear hn3 hn
   go_wp2_with (at_builtin;go_must (refine wpList_append_own_at _ rfl _ _ 116 rfl w.heap.size 5 i0 _ 1 1 Tryz.underlying116 hi hz0 hz1 hz2 rfl (by omega) (.slice ga gm gc) B.length ((nums B).map (Value.int .u8)) rfl (HOW.out.alloc _) ⟨wr.heap.size,0,none⟩ 1 1 [.int .u8 ((n:Int)%128+128)] rfl rfl ?c1 ?c2 ?c3 ?c4 ?c5 ?_))
   case c1=>
    intro j u hj
    match j,hj with
    | 0,hj=>simp at hj;subst hj;simp[Addr.add]
   case c2=>intro u hu;simp at hu;subst hu;rfl
   case c3=>unfold maxLen;omega
   case c4=>omega
   case c5=>have:=HBL.out.size;simp;omega
   intro v1 w1 Uv hg1 _ _
   have hb1:Below w.heap.size w w1:=Cw (HBL.out.alloc HBL.out.size _) (by have:=HBL.out.size;simp;omega) HOW.out hg1
   have hrow:w1.ownsRow w.heap.size 5 1 v1 (B.length+1) ((nums (B++[x])).map (Value.int .u8)):=by
    rw[Ov,List.map_append]
    show w1.ownsRow _ _ _ _ _ (_++[Value.int .u8 (x.toNat:Int)])
    rw[HXN.out]
    exact Uv
   obtain⟨g2,cap2,rfl,_⟩:=BM hrow (by omega)
   have hB2:(B++[x])++Cod.Gb (g+1) (n/128)=Cod.Gb 10 m:=by
    rw[List.append_assoc,<- HBB.out,WY (g+1) n hlt,HX.out]
    rfl
   have HB1:=zh hb1;have yA:=zh hrow;have HB2:=zh hB2;clear Uv hg1 hb1 hrow hB2
   go_wp2_with fail
   refine⟨⟨n/128,g,B++[x],by first|rfl|(congr 1;omega),HN3.out,by omega,by rw[List.length_append];show B.length+1+g=9;omega,HB2.out,by rw[List.length_append];exact yA.out,HB1.out⟩,by simp[intOf];omega⟩
  ·obtain⟨x,hx⟩:∃ x:UInt8,x=n.toUInt8:=⟨_,rfl⟩
   have hxn:(x.toNat:Int)=n:=by rw[hx,Cod.Ho n (by omega)]
   have HX:=zh hx;have HXN:=zh hxn;clear hx hxn
   go_wp2_with (at_builtin;go_must (refine wpList_append_own_at _ rfl _ _ 116 rfl w.heap.size 5 i0 _ 1 1 Tryz.underlying116 hi hz0 hz1 hz2 rfl (by omega) (.slice ga gm gc) B.length ((nums B).map (Value.int .u8)) rfl (HOW.out.alloc _) ⟨wr.heap.size,0,none⟩ 1 1 [.int .u8 n] rfl rfl ?c1 ?c2 ?c3 ?c4 ?c5 ?_))
   case c1=>
    intro j u hj
    match j,hj with
    | 0,hj=>simp at hj;subst hj;simp[Addr.add]
   case c2=>intro u hu;simp at hu;subst hu;rfl
   case c3=>unfold maxLen;omega
   case c4=>omega
   case c5=>have:=HBL.out.size;simp;omega
   intro v1 w1 Uv hg1 _ _
   have hb1:Below w.heap.size w w1:=Cw (HBL.out.alloc HBL.out.size _) (by have:=HBL.out.size;simp;omega) HOW.out hg1
   have hrow:w1.ownsRow w.heap.size 5 1 v1 (B.length+1) ((nums (B++[x])).map (Value.int .u8)):=by
    rw[Ov,List.map_append]
    show w1.ownsRow _ _ _ _ _ (_++[Value.int .u8 (x.toNat:Int)])
    rw[HXN.out]
    exact Uv
   have hfin:(⟨(B++[x]).toArray⟩:ByteArray)=Cod.uns m:=by
    unfold Cod.uns
    rw[<- HBB.out,WZ f n (by omega),HX.out]
   have hcv:(convert 116 9 v1).run Tryz.prog w1=.ok (.string (Cod.uns m)) w1:=by
    rw[Dl w1 116 5 9 rfl rfl rfl _ hrow,Ut,hfin]
   have HB1:=zh hb1;clear Uv hg1 hb1 hrow hfin
   go_wp2
   go_ret
   exact⟨rfl,HB1.out⟩
theorem Xa (s:ByteArray)(w:World)(hs:s.size<=140737488350000):
 Calls Tryz.prog 181 #[.string s] w fun e w' => e=.returned (.string (Cod.text s))/\Below w.heap.size w w':=by
 have hu:=Cod.Cu s.size
 have ht:Cod.uns s.size++s=Cod.text s:=rfl
 have HT:=zh ht;clear ht
 go_enter Tryz.func181,Tryz.ntmps181
 go_wp2_with fail
 refine(Uu s.size _ (by omega)).mono ?_
 rintro e w1 ⟨rfl,hb1⟩
 have HB:=zh hb1;clear hb1
 generalize Cod.uns s.size=u at*
 go_wp2
 go_ret
 exact⟨by rw[HT.out];rfl,HB.out⟩
theorem QM (s:ByteArray)(w:World)(hs:s.size<=140737488350000):
 Calls Tryz.prog 136 #[.string s] w fun e w' => e=.returned (.string (Cod.text s))/\Below w.heap.size w w':=by
 have hu:=Cod.Cu s.size
 have ht:Cod.uns s.size++s=Cod.text s:=rfl
 have HT:=zh ht;clear ht
 go_enter Tryz.func136,Tryz.ntmps136
 go_wp2_with fail
 refine(Ns s.size _ (by omega)).mono ?_
 rintro e w1 ⟨rfl,hb1⟩
 have HB:=zh hb1;clear hb1
 generalize Cod.uns s.size=u at*
 go_wp2
 go_ret
 exact⟨by rw[HT.out];rfl,HB.out⟩
theorem Xb (n:Nat)(w:World)(hn:n<9223372036854775808):
 Calls Tryz.prog 179 #[.int .i64 n] w fun e w' => e=.returned (.tuple #[.string (Cod.uns n),.int .i64 0])/\Below w.heap.size w w':=by
 go_enter Tryz.func179,Tryz.ntmps179
 go_wp2_with fail
 refine(Uu n _ (by omega)).mono ?_
 rintro e w1 ⟨rfl,hb1⟩
 have HB:=zh hb1;clear hb1
 go_wp2
 go_ret2
 exact⟨rfl,HB.out⟩
theorem aS (n:Nat)(w:World)(hn:n<9223372036854775808):
 Calls Tryz.prog 134 #[.int .i64 n] w fun e w' => e=.returned (.tuple #[.string (Cod.uns n),.int .i64 0])/\Below w.heap.size w w':=by
 go_enter Tryz.func134,Tryz.ntmps134
 go_wp2_with fail
 refine(Ns n _ (by omega)).mono ?_
 rintro e w1 ⟨rfl,hb1⟩
 have HB:=zh hb1;clear hb1
 go_wp2
 go_ret2
 exact⟨rfl,HB.out⟩
theorem aT (n:Nat)(w:World)(hn:n<9223372036854775808):
 Calls Tryz.prog 180 #[.int .i64 n] w fun e w' => e=.returned (.string (Cod.uns n))/\Below w.heap.size w w':=by
 go_enter Tryz.func180,Tryz.ntmps180
 go_wp2_with fail
 refine(Xb n _ hn).mono ?_
 rintro e w1 ⟨rfl,hb1⟩
 have HB:=zh hb1;clear hb1
 go_wp2
 go_ret
 exact⟨rfl,HB.out⟩
def rdV (s:ByteArray)(a:Nat)(e:Int):Array Value:=#[.string s,.int .i64 a,.int .i64 e]
theorem Uw (s:ByteArray)(w:World):
 Calls Tryz.prog 103 #[.string s] w fun e w' => e=.returned (.pointer (some ⟨w.heap.size,0,none⟩))/\w' = w.alloc (.cells (rdV s 0 0) 223):=by
 go_enter Tryz.func103,Tryz.ntmps103
 go_wp2
 go_ret
 exact⟨rfl,rfl⟩
theorem yB (b:UInt8):bits BinOp.and IntKind.u8 (b.toNat:Int) 127=((b.toNat%128:Nat):Int):=by
 have h:∀ k:Fin 256,bits BinOp.and IntKind.u8 (k.val:Int) 127=((k.val%128:Nat):Int):=by decide +kernel
 exact h ⟨b.toNat,b.toNat_lt⟩
theorem iR (k:Nat):128^k=2^(7*k):=by rw[show(128:Nat)=2^7 by decide,<- Nat.pow_mul]
theorem vB (N k:Nat)(b:UInt8)(hN:N<128^k)(hk:k<=9)(h9:k=9->b.toNat<=1):
 bits .or .u64 (N:Int) (IntKind.u64.wrap (IntKind.u64.wrap (bits .and .u8 (b.toNat:Int) 127)*2^(7*k)))=((N+b.toNat%128*128^k:Nat):Int):=by
 have hP:b.toNat%128*128^k<18446744073709551616:=by
  by_cases h:k=9
  ·have:=h9 h
   subst h
   have h2:(128:Nat)^9=9223372036854775808:=by decide
   rw[h2]
   omega
  ·have h5:128^k<=128^8:=Nat.pow_le_pow_right (by omega) (by omega)
   have h6:(128:Nat)^8=72057594037927936:=by decide
   rw[h6] at h5
   have:=Nat.mul_le_mul (show b.toNat%128<=127 by omega) h5
   omega
 have hN2:N<18446744073709551616:=by
  have h5:128^k<=128^9:=Nat.pow_le_pow_right (by omega) hk
  have h6:(128:Nat)^9=9223372036854775808:=by decide
  omega
 have e1:(((b.toNat%128:Nat):Int)*2^(7*k))=((b.toNat%128*128^k:Nat):Int):=by
  rw[iR]
  push_cast
  rfl
 rw[yB,wraps_u64 ((b.toNat%128:Nat):Int) (by omega) (by omega),e1,wraps_u64 _ (by omega) (by omega)]
 rw[bits_join_low .u64 64 (by decide) (fun n h0 h1=>wraps_u64 n h0 h1) (7*k) (N:Int) _ (by omega) (by rw[iR] at hN;exact_mod_cast hN) (by omega) (by omega) (by
  rw[iR]
  push_cast
  exact Int.mul_emod_left _ _) (by omega)]
 omega
theorem rZ (x:UInt8)(l:List UInt8)(i:Nat):Cod.rdL (x::l) i=if i=9/\1<x.toNat then none else if x.toNat<128 then (if x.toNat=0/\i≠0 then none else some (x.toNat,1)) else match Cod.rdL l (i+1) with
 | some (v,c)=>some (x.toNat%128+128*v,c+1)
 | none=>none:=rfl
def aU (r:Option (Nat × Nat))(e:Ending):Prop:=match r with
 | some (v,b)=>e=.returned (.tuple #[.int .u64 v,.int .i64 b,.bool true])
 | none=>∃ n b:Int,e=.returned (.tuple #[.int .u64 n,.int .i64 b,.bool false])
def zaQ (s:ByteArray)(a:Nat)(at_ n sh:Value):Prop:=
 ∃ k N : Nat,k ≤ 9 ∧ at_ = .int .i64 ((a + k : Nat) : Int) ∧ n = .int .u64 N ∧ sh = .int .i64 ((7 * k : Nat) : Int) ∧ N < 128 ^ k ∧ a + k ≤ s.size ∧
   Cod.rdL (s.data.toList.drop a) 0=match Cod.rdL (s.data.toList.drop (a+k)) k with
    | some (v,c)=>some (N+128^k*v,k+c)
    | none=>none
theorem iT (rb:Nat)(s:ByteArray)(a0 a:Nat)(e0:Int)(w:World)(h:At w rb 223 (rdV s a0 e0))(ha:a<=s.size)(hs:s.size<=140737488355328):
 Calls Tryz.prog 198 #[.pointer (some ⟨rb,0,none⟩),.int .i64 a] w fun e w' => aU (Cod.rdU s a) e/\w' = w:=by
 have k0:=h.cell 0
 simp only[rdV,List.getElem?_toArray,List.getElem?_cons_zero] at k0
 obtain⟨R,hR⟩:∃ R,R=aU (Cod.rdU s a):=⟨_,rfl⟩
 rw[<- hR]
 have HR:=zh hR;clear hR h
 go_enter Tryz.func198,Tryz.ntmps198
 go_wp2
 go_loopw [1,7,8] (fun at_ n sh wr=>zaQ s a at_ n sh/\wr=w) (fun at_ _ _ _=>s.size-(intOf at_).toNat)
 case atStart=>
  refine⟨⟨0,0,by omega,rfl,rfl,rfl,by simp,by omega,?_⟩,rfl⟩
  rw[Nat.add_zero]
  cases Cod.rdL (s.data.toList.drop a) 0 with
  | none=>rfl
  | some x=>obtain⟨v,c⟩:=x;simp
 case round=>
  obtain⟨⟨k,N,hk,rfl,rfl,rfl,hN,hak,hrd⟩,rfl⟩:=hrel
  have HRD:=zh hrd;have HN:=zh hN;clear hrd hN
  by_cases hlt:a+k<s.size
  ·obtain⟨x,hx⟩:∃ x,s[a+k]=x:=⟨_,rfl⟩
   have hd:s.data.toList.drop (a+k)=x::s.data.toList.drop (a+k+1):=by
    rw[List.drop_eq_getElem_cons (by rw[Sha.Aq];exact hlt),<- hx]
    rfl
   have hr:=HRD.out
   rw[hd,rZ] at hr
   have HR2:=zh hr;clear hr hd HRD
   have dk:decide (((a+k:Nat):Int)<s.size)=true:=by simp;omega
   have d2:decide (((7*k:Nat):Int)<64)=true:=by simp;omega
   have hadd:((a:Int)+k+1)=((a+(k+1):Nat):Int):=by omega
   have zaR:=zh hadd;clear hadd
   have hno:(k=9/\1<x.toNat)\/(x.toNat=0/\k≠0)->Cod.rdU s a=none:=by
    intro h
    have hr:=HR2.out
    unfold Cod.rdU
    rcases h with h|h
    ·rw[if_pos h] at hr
     rw[hr]
    ·by_cases h2:k=9/\1<x.toNat
     ·rw[if_pos h2] at hr
      rw[hr]
     ·rw[if_neg h2,if_pos (by omega),if_pos h] at hr
      rw[hr]
   have hyes:¬ (k=9/\1<x.toNat)->x.toNat<128->¬ (x.toNat=0/\k≠0)->Cod.rdU s a=some (N+x.toNat%128*128^k,a+(k+1)):=by
    intro h1 h2 h3
    have hr:=HR2.out
    rw[if_neg h1,if_pos h2,if_neg h3] at hr
    unfold Cod.rdU
    rw[hr,Nat.mod_eq_of_lt h2,Nat.mul_comm]
   have HNO:=zh hno;have zbT:=zh hyes;clear hno hyes
   by_cases hn:(k=9/\1<x.toNat)\/(x.toNat=0/\k≠0)
   ·have hfin : ∀ n b : Int,R (.returned (.tuple #[.int .u64 n,.int .i64 b,.bool false])) :=by
     intro n b
     rw[HR.out,HNO.out hn]
     exact⟨n,b,rfl⟩
    have HF:=zh hfin;clear hfin
    rcases hn with ⟨rfl,h1⟩|⟨h0,hk0⟩
    ·have h2:(1:Int)<x.toNat:=by omega
     go_wp2
     go_ret3
     exact⟨HF.out _ _,rfl⟩
    ·have e1:((7*(k:Int))==0)=false:=by simp;omega
     go_wp2_with fail
     all_goals
      go_ret3
      exact⟨HF.out _ _,rfl⟩
   ·have hn1:¬ (k=9/\1<x.toNat):=fun h=>hn (.inl h)
    have hn2:¬ (x.toNat=0/\k≠0):=fun h=>hn (.inr h)
    have hk9:k=9->x.toNat<=1:=fun h=>by
     rcases Nat.lt_or_ge 1 x.toNat with h1|h1
     ·exact absurd ⟨h,h1⟩ hn1
     ·exact h1
    have hor:=vB N k x HN.out hk hk9
    have HOR:=zh hor;have HK9:=zh hk9;have HN1:=zh hn1;have HN2:=zh hn2;clear hor hk9 hn hn1 hn2
    by_cases hb:x.toNat<128
    ·have hb2:(x.toNat:Int)<128:=by omega
     have hfin:R (.returned (.tuple #[.int .u64 ((N+x.toNat%128*128^k:Nat):Int),.int .i64 ((a:Int)+k+1),.bool true])):=by
      rw[HR.out,zbT.out HN1.out hb HN2.out,zaR.out]
      rfl
     have HF:=zh hfin;clear hfin hb
     by_cases h0:x.toNat=0
     ·obtain rfl : k = 0 :=by
       rcases Nat.eq_zero_or_pos k with h|h
       ·exact h
       ·exact absurd ⟨h0,by omega⟩ HN2.out
      obtain rfl:N=0:=by have:=HN.out;simpa using this
      have hf:R (.returned (.tuple #[.int .u64 0,.int .i64 ((a:Int)+1),.bool true])):=by
       have h1:=HF.out
       rw[h0] at h1
       simpa using h1
      have hx2:s[a]=x:=by simpa using hx
      have HF2:=zh hf;clear hf hx
      have hz:bits BinOp.or IntKind.u64 0 (IntKind.u64.wrap (IntKind.u64.wrap (bits BinOp.and IntKind.u8 0 127)))=0:=by decide +kernel
      have HZ:=zh hz;clear hz
      go_wp2
      go_ret3
      refine⟨?_,rfl⟩
      rw[HZ.out]
      exact HF2.out
     ·by_cases h9:k=9
      ·subst h9
       have h1:(x.toNat:Int)<=1:=by have:=HK9.out rfl;omega
       have hor:=HOR.out
       rw[show(2:Int)^(7*9)=9223372036854775808 by decide] at hor
       have zbU:=zh hor;clear hor
       go_wp2
       go_ret3
       refine⟨?_,rfl⟩
       rw[zbU.out]
       exact HF.out
      ·have e9:¬ (7*(k:Int)=63):=by omega
       go_wp2
       go_ret3
       refine⟨?_,rfl⟩
       rw[HOR.out]
       exact HF.out
    ·have hb2:¬ ((x.toNat:Int)<128):=by omega
     have h9:k≠9:=fun h=>by have:=HK9.out h;omega
     have e9:¬ (7*(k:Int)=63):=by omega
     have hr:=HR2.out
     rw[if_neg HN1.out,if_neg hb] at hr
     have HR3:=zh hr;clear hr hb
     have hN2:N+x.toNat%128*128^k<128^(k+1):=by
      have h1:=HN.out
      have h2:=Nat.mul_le_mul_right (128^k) (show x.toNat%128<=127 by omega)
      rw[Nat.pow_succ]
      omega
     have hr2:Cod.rdL (s.data.toList.drop a) 0=match Cod.rdL (s.data.toList.drop (a+(k+1))) (k+1) with
      | some (v,c)=>some ((N+x.toNat%128*128^k)+128^(k+1)*v,(k+1)+c)
      | none=>none:=by
      rw[HR3.out,show a+(k+1)=a+k+1 by omega]
      cases Cod.rdL (s.data.toList.drop (a+k+1)) (k+1) with
      | none=>rfl
      | some y =>
        obtain⟨v,c⟩:=y
        show some _=some _
        congr 2
        ·rw[Nat.pow_succ,Nat.mul_add,Nat.mul_comm (128^k) (x.toNat%128),Nat.mul_assoc,Nat.add_assoc]
        ·omega
     have HN3:=zh hN2;have HR4:=zh hr2;clear hN2 hr2
     go_wp2_with fail
     rw[HOR.out]
     exact⟨⟨⟨k+1,N+x.toNat%128*128^k,by omega,by rw[zaR.out],rfl,by congr 1<;>omega,HN3.out,by omega,HR4.out⟩,by first|rfl|trivial⟩,by simp[intOf];omega⟩
  ·have dk:decide (((a+k:Nat):Int)<s.size)=false:=by simp;omega
   have hd:s.data.toList.drop (a+k)=[]:=List.drop_eq_nil_of_le (by rw[Sha.Aq];omega)
   have hr:=HRD.out
   rw[hd] at hr
   have hfin:R (.returned (.tuple #[.int .u64 0,.int .i64 0,.bool false])):=by
    rw[HR.out]
    unfold Cod.rdU
    rw[hr]
    exact⟨0,0,rfl⟩
   have HF:=zh hfin;clear hfin hr hd
   go_wp2
   go_ret3
   exact⟨HF.out,rfl⟩
def Ow (r:Option (Nat × Nat))(e:Ending):Prop:=match r with
 | some (v,b)=>e=.returned (.tuple #[.int .i64 v,.int .i64 b,.bool true])
 | none=>∃ n b:Int,e=.returned (.tuple #[.int .i64 n,.int .i64 b,.bool false])
def aV (r:Option (ByteArray × Nat))(e:Ending):Prop:=match r with
 | some (x,b)=>e=.returned (.tuple #[.string x,.int .i64 b,.bool true])
 | none=>e=.returned (.tuple #[.string ⟨#[]⟩,.int .i64 0,.bool false])
theorem JG (rb:Nat)(s:ByteArray)(a0 a:Nat)(e0:Int)(w:World)(h:At w rb 223 (rdV s a0 e0))(ha:a<=s.size)(hs:s.size<=140737488355328):
 Calls Tryz.prog 159 #[.pointer (some ⟨rb,0,none⟩),.int .i64 a] w fun e w' => Ow (Cod.rdN s a) e/\w' = w:=by
 obtain⟨R,hR⟩:∃ R,R=Ow (Cod.rdN s a):=⟨_,rfl⟩
 rw[<- hR]
 have HR:=zh hR;have H:=zh h;clear hR h
 go_enter Tryz.func159,Tryz.ntmps159
 go_wp2_with fail
 refine(iT rb s a0 a e0 _ H.out ha hs).mono ?_
 rintro e w1 ⟨hp,rfl⟩
 cases hr:Cod.rdU s a with
 | none =>
   rw[hr] at hp
   obtain⟨n,b,rfl⟩:=hp
   have hf:∀ n b:Int,R (.returned (.tuple #[.int .i64 n,.int .i64 b,.bool false])):=by
    intro n b
    rw[HR.out]
    unfold Cod.rdN
    rw[hr]
    exact⟨n,b,rfl⟩
   have HF:=zh hf;clear hf hr
   go_wp2
   go_ret3
   exact⟨HF.out _ _,rfl⟩
 | some y =>
   obtain⟨v,b⟩:=y
   rw[hr] at hp
   have hp' : e=.returned (.tuple #[.int .u64 v,.int .i64 b,.bool true]):=hp
   subst hp'
   clear hp
   have hv:=(Cod.ZV hr).2.2.2
   by_cases hlt:v<9223372036854775808
   ·have hf : R (.returned (.tuple #[.int .i64 v,.int .i64 b,.bool true])) :=by
     rw[HR.out]
     unfold Cod.rdN
     simp only[hr,if_pos hlt]
     rfl
    have HF:=zh hf;clear hf hr
    have hz:(v:Int)/9223372036854775808=0:=by omega
    go_wp2
    go_ret3
    exact⟨HF.out,rfl⟩
   ·have hf : ∀ n b : Int,R (.returned (.tuple #[.int .i64 n,.int .i64 b,.bool false])) :=by
     intro n b
     rw[HR.out]
     unfold Cod.rdN
     simp only[hr,if_neg hlt]
     exact⟨n,b,rfl⟩
    have HF:=zh hf;clear hf hr
    have hz:(v:Int)/9223372036854775808=1:=by omega
    go_wp2
    go_ret3
    exact⟨HF.out _ _,rfl⟩
theorem Ux (rb:Nat)(s:ByteArray)(a0 a:Nat)(e0:Int)(w:World)(h:At w rb 223 (rdV s a0 e0))(ha:a<=s.size)(hs:s.size<=140737488355328):
 Calls Tryz.prog 160 #[.pointer (some ⟨rb,0,none⟩),.int .i64 a] w fun e w' => aV (Cod.rdT s a) e/\w' = w:=by
 obtain⟨R,hR⟩:∃ R,R=aV (Cod.rdT s a):=⟨_,rfl⟩
 rw[<- hR]
 have k0:=h.cell 0
 simp only[rdV,List.getElem?_toArray,List.getElem?_cons_zero] at k0
 have HR:=zh hR;have H:=zh h;clear hR h
 go_enter Tryz.func160,Tryz.ntmps160
 go_wp2_with fail
 refine(JG rb s a0 a e0 _ H.out ha hs).mono ?_
 rintro e w1 ⟨hp,rfl⟩
 cases hr:Cod.rdN s a with
 | none =>
   rw[hr] at hp
   obtain⟨n,b,rfl⟩:=hp
   have hf:R (.returned (.tuple #[.string ⟨#[]⟩,.int .i64 0,.bool false])):=by
    rw[HR.out]
    unfold Cod.rdT
    rw[hr]
    rfl
   have HF:=zh hf;clear hf hr
   go_wp2
   go_ret3
   exact⟨HF.out,rfl⟩
 | some y =>
   obtain⟨v,b⟩:=y
   rw[hr] at hp
   have hp' : e=.returned (.tuple #[.int .i64 v,.int .i64 b,.bool true]):=hp
   subst hp'
   clear hp
   obtain⟨g1,g2,_,g4⟩:=Cod.En hr
   by_cases hlt:v<=s.size-b
   ·have hf : R (.returned (.tuple #[.string (s.extract b (b + v)),.int .i64 ((b : Int) + v),.bool true])) :=by
     rw[HR.out]
     unfold Cod.rdT
     simp only[hr,if_pos hlt]
     show _=Ending.returned (.tuple #[.string (s.extract b (b+v)),.int .i64 ((b+v:Nat):Int),.bool true])
     rw[Int.natCast_add]
    have HF:=zh hf;clear hf hr
    have hz:¬ ((s.size:Int)-b<v):=by omega
    go_wp2
    go_ret3
    exact⟨HF.out,rfl⟩
   ·have hf : R (.returned (.tuple #[.string ⟨#[]⟩,.int .i64 0,.bool false])) :=by
     rw[HR.out]
     unfold Cod.rdT
     simp only[hr,if_neg hlt]
     rfl
    have HF:=zh hf;clear hf hr
    have hz:((s.size:Int)-b<v):=by omega
    go_wp2
    go_ret3
    exact⟨HF.out,rfl⟩
structure Ay (rb:Nat) (w w' : World) (cs:Array Value):Prop where
 at_:At w' rb 223 cs
 fr:Fr (fun k=>k=rb) w w'
theorem Ay.refl {rb:Nat}{w:World}{cs:Array Value}(h:At w rb 223 cs):Ay rb w w cs:=⟨h,Fr.refl _ _⟩
def EZ (rb:Nat)(s:ByteArray)(a:Nat)(r:Option (Nat × Nat))(w:World)(e:Ending)(w' : World):Prop:=match r with
 | some (v,b)=>e=.returned (.int .i64 v)/\Ay rb w w' (rdV s b 0)
 | none=>e=.returned (.int .i64 0)/\Ay rb w w' (rdV s a 9)
def Ox (rb:Nat)(s:ByteArray)(a:Nat)(r:Option (ByteArray × Nat))(w:World)(e:Ending)(w' : World):Prop:=match r with
 | some (x,b)=>e=.returned (.string x)/\Ay rb w w' (rdV s b 0)
 | none=>e=.returned (.string ⟨#[]⟩)/\Ay rb w w' (rdV s a 9)
theorem Ay.set1 {rb:Nat}{w:World}{s:ByteArray}{a:Nat}{e:Int}(h:At w rb 223 (rdV s a e))(b:Nat):Ay rb w (w.setCell ⟨rb,1,none⟩ (.int .i64 b)) (rdV s b e):=
 ⟨h.set 1 _,(Fr.refl (fun k=>k=rb) _).setCell (p:=⟨rb,1,none⟩) (.inl rfl) _⟩
theorem Ay.set2 {rb:Nat}{w:World}{s:ByteArray}{a:Nat}{e:Int}(h:At w rb 223 (rdV s a e))(b:Int):Ay rb w (w.setCell ⟨rb,2,none⟩ (.int .i64 b)) (rdV s a b):=
 ⟨h.set 2 _,(Fr.refl (fun k=>k=rb) _).setCell (p:=⟨rb,2,none⟩) (.inl rfl) _⟩
theorem Yx (rb:Nat)(s:ByteArray)(a:Nat)(w:World)(h:At w rb 223 (rdV s a 0))(ha:a<=s.size)(hs:s.size<=140737488355328):
 Calls Tryz.prog 168 #[.pointer (some ⟨rb,0,none⟩),.func (.func 159) #[.pointer (some ⟨rb,0,none⟩)] #[]] w (EZ rb s a (Cod.rdN s a) w):=by
 obtain⟨R,hR⟩:∃ R,R=EZ rb s a (Cod.rdN s a) w:=⟨_,rfl⟩
 rw[<- hR]
 have k1:=h.cell 1;have k2:=h.cell 2;have z1:=h.free 1;have z2:=h.free 2
 simp only[rdV,List.getElem?_toArray,List.getElem?_cons_zero,List.getElem?_cons_succ] at k1 k2
 have HR:=zh hR;have H:=zh h;clear hR h
 go_enter Tryz.func168,Tryz.ntmps168
 go_wp2_with fail
 refine(JG rb s a a 0 _ H.out ha hs).mono ?_
 rintro e w1 ⟨hp,rfl⟩
 cases hr:Cod.rdN s a with
 | none =>
   rw[hr] at hp
   obtain⟨n,b,rfl⟩:=hp
   have hf:R (.returned (.int .i64 0)) (w1.setCell ⟨rb,2,none⟩ (.int .i64 9)):=by
    rw[HR.out,hr]
    exact⟨rfl,Ay.set2 H.out 9⟩
   have HF:=zh hf;clear hf hr
   go_wp2_with fail
   exact HF.out
 | some y =>
   obtain⟨v,b⟩:=y
   rw[hr] at hp
   have hp' : e=.returned (.tuple #[.int .i64 v,.int .i64 b,.bool true]):=hp
   subst hp'
   clear hp
   have hf:R (.returned (.int .i64 v)) (w1.setCell ⟨rb,1,none⟩ (.int .i64 b)):=by
    rw[HR.out,hr]
    exact⟨rfl,Ay.set1 H.out b⟩
   have HF:=zh hf;clear hf hr
   go_wp2_with fail
   exact HF.out
theorem Qc (rb:Nat)(s:ByteArray)(a:Nat)(e:Int)(he:e≠0)(w:World)(h:At w rb 223 (rdV s a e)):
 Calls Tryz.prog 168 #[.pointer (some ⟨rb,0,none⟩),.func (.func 159) #[.pointer (some ⟨rb,0,none⟩)] #[]] w fun e w' => e=.returned (.int .i64 0)/\w' = w:=by
 have k2:=h.cell 2
 simp only[rdV,List.getElem?_toArray,List.getElem?_cons_zero,List.getElem?_cons_succ] at k2
 have he2:(e != 0)=true:=by simpa using he
 clear h
 go_enter Tryz.func168,Tryz.ntmps168
 go_wp2
 go_ret
 exact⟨rfl,rfl⟩
theorem Yy (rb:Nat)(s:ByteArray)(a:Nat)(w:World)(h:At w rb 223 (rdV s a 0))(ha:a<=s.size)(hs:s.size<=140737488355328):
 Calls Tryz.prog 199 #[.pointer (some ⟨rb,0,none⟩),.func (.func 160) #[.pointer (some ⟨rb,0,none⟩)] #[]] w (Ox rb s a (Cod.rdT s a) w):=by
 obtain⟨R,hR⟩:∃ R,R=Ox rb s a (Cod.rdT s a) w:=⟨_,rfl⟩
 rw[<- hR]
 have k1:=h.cell 1;have k2:=h.cell 2;have z1:=h.free 1;have z2:=h.free 2
 simp only[rdV,List.getElem?_toArray,List.getElem?_cons_zero,List.getElem?_cons_succ] at k1 k2
 have HR:=zh hR;have H:=zh h;clear hR h
 go_enter Tryz.func199,Tryz.ntmps199
 go_wp2_with fail
 refine(Ux rb s a a 0 _ H.out ha hs).mono ?_
 rintro e w1 ⟨hp,rfl⟩
 cases hr:Cod.rdT s a with
 | none =>
   rw[hr] at hp
   obtain rfl:e=_:=hp
   have hf:R (.returned (.string ⟨#[]⟩)) (w1.setCell ⟨rb,2,none⟩ (.int .i64 9)):=by
    rw[HR.out,hr]
    exact⟨rfl,Ay.set2 H.out 9⟩
   have HF:=zh hf;clear hf hr
   go_wp2_with fail
   exact HF.out
 | some y =>
   obtain⟨v,b⟩:=y
   rw[hr] at hp
   have hp' : e=.returned (.tuple #[.string v,.int .i64 b,.bool true]):=hp
   subst hp'
   clear hp
   have hf:R (.returned (.string v)) (w1.setCell ⟨rb,1,none⟩ (.int .i64 b)):=by
    rw[HR.out,hr]
    exact⟨rfl,Ay.set1 H.out b⟩
   have HF:=zh hf;clear hf hr
   go_wp2_with fail
   exact HF.out
theorem Qd (rb:Nat)(s:ByteArray)(a:Nat)(e:Int)(he:e≠0)(w:World)(h:At w rb 223 (rdV s a e)):
 Calls Tryz.prog 199 #[.pointer (some ⟨rb,0,none⟩),.func (.func 160) #[.pointer (some ⟨rb,0,none⟩)] #[]] w fun e w' => e=.returned (.string ⟨#[]⟩)/\w' = w:=by
 have k2:=h.cell 2
 simp only[rdV,List.getElem?_toArray,List.getElem?_cons_zero,List.getElem?_cons_succ] at k2
 have he2:(e != 0)=true:=by simpa using he
 clear h
 go_enter Tryz.func199,Tryz.ntmps199
 go_wp2
 go_ret
 exact⟨rfl,rfl⟩
theorem Uy (rb:Nat)(s:ByteArray)(a:Nat)(w:World)(h:At w rb 223 (rdV s a 0))(ha:a<=s.size)(hs:s.size<=140737488355328):
 Calls Tryz.prog 112 #[.pointer (some ⟨rb,0,none⟩)] w (EZ rb s a (Cod.rdN s a) w):=by
 obtain⟨R,hR⟩:∃ R,R=EZ rb s a (Cod.rdN s a) w:=⟨_,rfl⟩
 rw[<- hR]
 have HR:=zh hR;have H:=zh h;clear hR h
 go_enter Tryz.func112,Tryz.ntmps112
 go_wp2_with fail
 refine(Yx rb s a _ H.out ha hs).mono ?_
 intro e w1 hp
 rw[<- HR.out] at hp
 have hv:∃ v,e=.returned v:=by
  rw[HR.out] at hp
  unfold EZ at hp
  split at hp
  ·exact⟨_,hp.1⟩
  ·exact⟨_,hp.1⟩
 obtain⟨v,rfl⟩:=hv
 have HP:=zh hp;clear hp
 go_wp2_with fail
 exact HP.out
theorem Uz (rb:Nat)(s:ByteArray)(a:Nat)(e:Int)(he:e≠0)(w:World)(h:At w rb 223 (rdV s a e)):
 Calls Tryz.prog 112 #[.pointer (some ⟨rb,0,none⟩)] w fun e w' => e=.returned (.int .i64 0)/\w' = w:=by
 have H:=zh h;clear h
 go_enter Tryz.func112,Tryz.ntmps112
 go_wp2_with fail
 refine(Qc rb s a e he _ H.out).mono ?_
 rintro e w1 ⟨rfl,rfl⟩
 go_wp2
 go_ret
 exact⟨rfl,rfl⟩
theorem iU (rb:Nat)(s:ByteArray)(a:Nat)(w:World)(h:At w rb 223 (rdV s a 0))(ha:a<=s.size)(hs:s.size<=140737488355328):
 Calls Tryz.prog 161 #[.pointer (some ⟨rb,0,none⟩)] w (Ox rb s a (Cod.rdT s a) w):=by
 obtain⟨R,hR⟩:∃ R,R=Ox rb s a (Cod.rdT s a) w:=⟨_,rfl⟩
 rw[<- hR]
 have HR:=zh hR;have H:=zh h;clear hR h
 go_enter Tryz.func161,Tryz.ntmps161
 go_wp2_with fail
 refine(Yy rb s a _ H.out ha hs).mono ?_
 intro e w1 hp
 rw[<- HR.out] at hp
 have hv:∃ v,e=.returned v:=by
  rw[HR.out] at hp
  unfold Ox at hp
  split at hp
  ·exact⟨_,hp.1⟩
  ·exact⟨_,hp.1⟩
 obtain⟨v,rfl⟩:=hv
 have HP:=zh hp;clear hp
 go_wp2_with fail
 exact HP.out
theorem KY (rb:Nat)(s:ByteArray)(a:Nat)(e:Int)(he:e≠0)(w:World)(h:At w rb 223 (rdV s a e)):
 Calls Tryz.prog 161 #[.pointer (some ⟨rb,0,none⟩)] w fun e w' => e=.returned (.string ⟨#[]⟩)/\w' = w:=by
 have H:=zh h;clear h
 go_enter Tryz.func161,Tryz.ntmps161
 go_wp2_with fail
 refine(Qd rb s a e he _ H.out).mono ?_
 rintro e w1 ⟨rfl,rfl⟩
 go_wp2
 go_ret
 exact⟨rfl,rfl⟩
def rdC (s:ByteArray)(m:Int)(a:Nat):Option (Nat × Nat):=match Cod.rdN s a with
 | some (v,b)=>if (v:Int)<=m then some (v,b) else none
 | none=>none
theorem Yz (rb b1 b2:Nat)(m:Int)(s:ByteArray)(a0 a:Nat)(e0:Int)(w:World)(h1:w.cell? ⟨b1,0,none⟩=some (.pointer (some ⟨rb,0,none⟩)))(h2:w.cell? ⟨b2,0,none⟩=some (.int .i64 m))(h:At w rb 223 (rdV s a0 e0))(ha:a<=s.size)(hs:s.size<=140737488355328):
 Calls Tryz.prog 169 #[.int .i64 a,.pointer (some ⟨b1,0,none⟩),.pointer (some ⟨b2,0,none⟩)] w fun e w' => Ow (rdC s m a) e/\w' = w.drew:=by
 obtain⟨R,hR⟩:∃ R,R=Ow (rdC s m a):=⟨_,rfl⟩
 rw[<- hR]
 have HR:=zh hR;have H:=zh h;clear hR h
 go_enter Tryz.func169,Tryz.ntmps169
 go_wp2_with fail
 refine(JG rb s a0 a e0 _ H.out ha hs).mono ?_
 rintro e w1 ⟨hp,rfl⟩
 cases hr:Cod.rdN s a with
 | none =>
   rw[hr] at hp
   obtain⟨n,b,rfl⟩:=hp
   have hf:∀ n b:Int,R (.returned (.tuple #[.int .i64 n,.int .i64 b,.bool false])):=by
    intro n b
    rw[HR.out]
    unfold rdC
    rw[hr]
    exact⟨n,b,rfl⟩
   have HF:=zh hf;clear hf hr
   go_wp2
   refine Lex.zl ?_
   go_wp2
   refine Lex.ze ?_
   go_wp2
   go_ret3
   exact⟨HF.out _ _,rfl⟩
 | some y =>
   obtain⟨v,b⟩:=y
   rw[hr] at hp
   have hp' : e=.returned (.tuple #[.int .i64 v,.int .i64 b,.bool true]):=hp
   subst hp'
   clear hp
   have hv:=(Cod.En hr).2.2.2
   by_cases hlt:(v:Int)<=m
   ·have dlt:decide ((v:Int)<=m)=true:=by simpa using hlt
    have hf:R (.returned (.tuple #[.int .i64 v,.int .i64 b,.bool true])):=by
     rw[HR.out]
     unfold rdC
     simp only[hr,if_pos hlt]
     rfl
    have HF:=zh hf;clear hf hr
    go_wp2
    refine Lex.zl ?_
    go_wp2
    refine Lex.ze ?_
    go_wp2
    go_ret3
    exact⟨HF.out,rfl⟩
   ·have dlt:decide ((v:Int)<=m)=false:=by simpa using hlt
    have hf:∀ n b:Int,R (.returned (.tuple #[.int .i64 n,.int .i64 b,.bool false])):=by
     intro n b
     rw[HR.out]
     unfold rdC
     simp only[hr,if_neg hlt]
     exact⟨n,b,rfl⟩
    have HF:=zh hf;clear hf hr
    go_wp2
    refine Lex.zl ?_
    go_wp2
    refine Lex.ze ?_
    go_wp2
    go_ret3
    exact⟨HF.out _ _,rfl⟩
theorem Ay.pre {rb:Nat}{w w1 w' : World}{cs:Array Value}(hf:Fr (fun k=>k=rb) w w1)(h:Ay rb w1 w' cs):Ay rb w w' cs:=⟨h.at_,hf.trans h.fr (fun _ hk=>.inl hk)⟩
theorem VN (rb b1 b2:Nat)(m:Int)(s:ByteArray)(a:Nat)(w:World)(h1:w.cell? ⟨b1,0,none⟩=some (.pointer (some ⟨rb,0,none⟩)))(h2:w.cell? ⟨b2,0,none⟩=some (.int .i64 m))(h:At w rb 223 (rdV s a 0))(ha:a<=s.size)(hs:s.size<=140737488355328):
 Calls Tryz.prog 168 #[.pointer (some ⟨rb,0,none⟩),.func (.func 169) #[] #[.pointer (some ⟨b1,0,none⟩),.pointer (some ⟨b2,0,none⟩)]] w (EZ rb s a (rdC s m a) w):=by
 obtain⟨R,hR⟩:∃ R,R=EZ rb s a (rdC s m a) w:=⟨_,rfl⟩
 rw[<- hR]
 have k1:=h.cell 1;have k2:=h.cell 2;have z1:=h.free 1;have z2:=h.free 2
 simp only[rdV,List.getElem?_toArray,List.getElem?_cons_zero,List.getElem?_cons_succ] at k1 k2
 have HR:=zh hR;have H:=zh h;have H1:=zh h1;have H2:=zh h2;clear hR h h1 h2
 go_enter Tryz.func168,Tryz.ntmps168
 go_wp2_with fail
 refine(Yz rb b1 b2 m s a a 0 _ H1.out H2.out H.out ha hs).mono ?_
 rintro e w1 ⟨hp,rfl⟩
 have hd:Fr (fun k=>k=rb) w w.drew:=(Fr.refl (fun k=>k=rb) w).drew
 cases hr:rdC s m a with
 | none =>
   rw[hr] at hp
   obtain⟨n,b,rfl⟩:=hp
   have hf:R (.returned (.int .i64 0)) (w.drew.setCell ⟨rb,2,none⟩ (.int .i64 9)):=by
    rw[HR.out,hr]
    exact⟨rfl,Ay.pre hd (Ay.set2 H.out.drew 9)⟩
   have HF:=zh hf;clear hf hr hd
   go_wp2_with fail
   exact HF.out
 | some y =>
   obtain⟨v,b⟩:=y
   rw[hr] at hp
   have hp' : e=.returned (.tuple #[.int .i64 v,.int .i64 b,.bool true]):=hp
   subst hp'
   clear hp
   have hf:R (.returned (.int .i64 v)) (w.drew.setCell ⟨rb,1,none⟩ (.int .i64 b)):=by
    rw[HR.out,hr]
    exact⟨rfl,Ay.pre hd (Ay.set1 H.out.drew b)⟩
   have HF:=zh hf;clear hf hr hd
   go_wp2_with fail
   exact HF.out
theorem nJ (fv:Value)(rb:Nat)(s:ByteArray)(a:Nat)(e:Int)(he:e≠0)(w:World)(h:At w rb 223 (rdV s a e)):
 Calls Tryz.prog 168 #[.pointer (some ⟨rb,0,none⟩),fv] w fun e w' => e=.returned (.int .i64 0)/\w' = w:=by
 have k2:=h.cell 2
 simp only[rdV,List.getElem?_toArray,List.getElem?_cons_zero,List.getElem?_cons_succ] at k2
 have he2:(e != 0)=true:=by simpa using he
 clear h
 go_enter Tryz.func168,Tryz.ntmps168
 go_wp2
 go_ret
 exact⟨rfl,rfl⟩
theorem aW (rb:Nat)(s:ByteArray)(a:Nat)(m:Int)(w:World)(h:At w rb 223 (rdV s a 0))(ha:a<=s.size)(hs:s.size<=140737488355328):
 Calls Tryz.prog 111 #[.pointer (some ⟨rb,0,none⟩),.int .i64 m] w (EZ rb s a (rdC s m a) w):=by
 obtain⟨R,hR⟩:∃ R,R=EZ rb s a (rdC s m a) w:=⟨_,rfl⟩
 rw[<- hR]
 have hlt:=h.lt
 have HR:=zh hR;have H:=zh h;clear hR h
 go_enter Tryz.func111,Tryz.ntmps111
 go_wp2_with fail
 have hfr:Fr (fun k=>k=rb) w ((w.alloc (.cells #[.pointer (some ⟨rb,0,none⟩)] 175)).alloc (.cells #[.int .i64 m] 3)):=((Fr.refl (fun k=>k=rb) w).alloc _).alloc _
 refine(VN rb w.heap.size (w.heap.size+1) m s a _ (((At.new w _ _).alloc _).cell 0) ((At.new1 w _ _ _).cell 0) ((H.out.alloc _).alloc _) ha hs).mono ?_
 intro e w1 hp
 have hv:∃ v,e=.returned v:=by
  unfold EZ at hp
  split at hp
  ·exact⟨_,hp.1⟩
  ·exact⟨_,hp.1⟩
 have hq:R e w1:=by
  rw[HR.out]
  unfold EZ at hp ⊢
  split at hp
  ·exact⟨hp.1,Ay.pre hfr hp.2⟩
  ·exact⟨hp.1,Ay.pre hfr hp.2⟩
 obtain⟨v,rfl⟩:=hv
 have HP:=zh hq;clear hp hq hfr
 go_wp2_with fail
 exact HP.out
theorem aX (rb:Nat)(s:ByteArray)(a:Nat)(m:Int)(e:Int)(he:e≠0)(w:World)(h:At w rb 223 (rdV s a e)):
 Calls Tryz.prog 111 #[.pointer (some ⟨rb,0,none⟩),.int .i64 m] w fun e w' => e=.returned (.int .i64 0)/\Below w.heap.size w w':=by
 have hlt:=h.lt
 have H:=zh h;clear h
 go_enter Tryz.func111,Tryz.ntmps111
 go_wp2_with fail
 refine(nJ _ rb s a e he _ ((H.out.alloc _).alloc _)).mono ?_
 rintro e w1 ⟨rfl,rfl⟩
 go_wp2
 go_ret
 exact⟨rfl,zb.alloc (by simp) _⟩
def Cv (s:ByteArray)(a:Nat)(e:Int):Int:=if e=0/\a<s.size then 9 else e
theorem FJ (rb:Nat)(s:ByteArray)(a:Nat)(e:Int)(w:World)(h:At w rb 223 (rdV s a e)):
 Calls Tryz.prog 105 #[.pointer (some ⟨rb,0,none⟩)] w fun e' w' => e' = .returned (.int .i64 (Cv s a e))/\w' = w.drew:=by
 have k0:=h.cell 0;have k1:=h.cell 1;have k2:=h.cell 2
 simp only[rdV,List.getElem?_toArray,List.getElem?_cons_zero,List.getElem?_cons_succ] at k0 k1 k2
 obtain⟨E,hE⟩:∃ E,E=Cv s a e:=⟨_,rfl⟩
 rw[<- hE]
 have HE:=zh hE;clear hE h
 go_enter Tryz.func105,Tryz.ntmps105
 by_cases h0:e=0
 ·have d0:(e==0)=true:=by simpa using h0
  by_cases hl:a<s.size
  ·have d1:decide ((a:Int)<s.size)=true:=by simp;omega
   have hf:E=9:=by rw[HE.out];unfold Cv;rw[if_pos ⟨h0,hl⟩]
   have HF:=zh hf;clear hf h0
   go_wp2
   refine Lex.zl ?_
   go_wp2
   refine Lex.ze ?_
   go_wp2
   go_ret
   exact⟨by rw[HF.out];rfl,rfl⟩
  ·have d1:decide ((a:Int)<s.size)=false:=by simp;omega
   have hf:E=e:=by rw[HE.out];unfold Cv;rw[if_neg (fun h=>hl h.2)]
   have HF:=zh hf;clear hf h0
   go_wp2
   refine Lex.zl ?_
   go_wp2
   refine Lex.ze ?_
   go_wp2
   go_ret
   exact⟨by rw[HF.out];rfl,rfl⟩
 ·have d0:(e==0)=false:=by simpa using h0
  have hf:E=e:=by rw[HE.out];unfold Cv;rw[if_neg (fun h=>h0 h.1)]
  have HF:=zh hf;clear hf h0
  go_wp2
  refine Lex.zl ?_
  go_wp2
  refine Lex.ze ?_
  go_wp2
  go_ret
  exact⟨by rw[HF.out];rfl,rfl⟩
def aY (w:World)(r:Option (List ByteArray × Nat))(e:Ending)(w' : World):Prop:=match r with
 | some (l,b)=>∃ v,e=.returned (.tuple #[v,.int .i64 b,.bool true])/\Am w' v l/\(∀ k,v.ownBlock=some k->w.heap.size<=k)/\(∃ a c,v=.slice (some a) l.length c/\l.length<=c)/\Below w.heap.size w w'
 | none=>e=.returned (.tuple #[.slice none 0 0,.int .i64 0,.bool false])/\Below w.heap.size w w'
def filled (n:Nat)(xs:List ByteArray):List Value:=(xs++List.replicate (n-xs.length) (⟨#[]⟩:ByteArray)).map Value.string
theorem iV (n:Nat)(xs:List ByteArray)(x:ByteArray)(h:xs.length<n):(filled n xs).set xs.length (.string x)=filled n (xs++[x]):=by
 unfold filled
 obtain⟨k,hk⟩:∃ k,n-xs.length=k+1:=⟨n-xs.length-1,by omega⟩
 rw[<- List.map_set,hk,List.length_append,List.length_singleton,show n-(xs.length+1)=k by omega,List.replicate_succ]
 congr 1
 rw[List.set_append_right _ _ (Nat.le_refl _),Nat.sub_self,List.set_cons_zero,List.append_assoc]
 rfl
theorem iW (n:Nat)(xs:List ByteArray)(h:xs.length=n):filled n xs=xs.map Value.string:=by
 unfold filled
 rw[h,Nat.sub_self]
 simp
def TsI (s:ByteArray)(w0:World)(n a:Nat)(at_ i:Value)(wr:World):Prop:=
 ∃ (k b : Nat) (xs : List ByteArray),k ≤ n ∧ xs.length = k ∧ i = .int .i64 k ∧ at_ = .int .i64 b ∧ b ≤ s.size ∧ wr.ownsRow w0.heap.size 9 1 (.slice (some ⟨w0.heap.size,0,none⟩) n n) n (filled n xs) ∧ Below w0.heap.size w0 wr ∧
   Cod.Me s n a=match Cod.Me s (n-k) b with
    | some (l,c)=>some (xs++l,c)
    | none=>none
theorem Y4 (rb b1:Nat)(s:ByteArray)(a0 a:Nat)(e0:Int)(w:World)(h1:w.cell? ⟨b1,0,none⟩=some (.pointer (some ⟨rb,0,none⟩)))(hb1:b1<w.heap.size)(h:At w rb 223 (rdV s a0 e0))(ha:a<=s.size)(hs:s.size<=1000000):
 Calls Tryz.prog 158 #[.int .i64 a,.pointer (some ⟨b1,0,none⟩)] w (aY w (Cod.AO s a)):=by
 obtain⟨R,hR⟩:∃ R,R=aY w (Cod.AO s a):=⟨_,rfl⟩
 rw[<- hR]
 have k0:=h.cell 0
 simp only[rdV,List.getElem?_toArray,List.getElem?_cons_zero] at k0
 have HR:=zh hR;have H:=zh h;clear hR h
 obtain⟨i0,hi,hz0,hz1,hz2⟩:=info_parts Dz
 go_enter Tryz.func158,Tryz.ntmps158
 go_wp2_with fail
 refine(JG rb s a0 a e0 _ H.out ha (by omega)).mono ?_
 rintro e w1 ⟨hp,rfl⟩
 cases hr:Cod.rdN s a with
 | none =>
   rw[hr] at hp
   obtain⟨n,b,rfl⟩:=hp
   have hf:R (.returned (.tuple #[.slice none 0 0,.int .i64 0,.bool false])) w1:=by
    rw[HR.out]
    unfold Cod.AO
    rw[hr]
    exact⟨rfl,Below.refl _ _⟩
   have HF:=zh hf;clear hf hr
   go_wp2
   go_ret3
   exact HF.out
 | some y =>
   obtain⟨n,b⟩:=y
   rw[hr] at hp
   have hp' : e=.returned (.tuple #[.int .i64 n,.int .i64 b,.bool true]):=hp
   subst hp'
   clear hp
   obtain⟨g1,g2,_,g4⟩:=Cod.En hr
   by_cases hlt:n<=s.size-b
   ·have hz:¬ ((s.size:Int)-b<n):=by omega
    have hf:Cod.AO s a=Cod.Me s n b:=by
     unfold Cod.AO
     simp only[hr,if_pos hlt]
    have HF:=zh hf;clear hf hr
    go_wp2_with (at_make;go_must (refine wpList_make_full _ rfl _ _ 23 rfl w1.heap.size 9 i0 (.string ⟨#[]⟩) 1 Tryz.underlying23 hi hz0 hz1 .i64 .i64 n n n rfl rfl rfl rfl (by rw[hz2];omega) (by unfold maxLen;omega) (Nat.le_refl _) ?_);intro w2 how hg)
    have hrow:(madeCells (Value.string ⟨#[]⟩).cells (n*1)).toList=filled n []:=by
     rw[Nat.mul_one]
     show(madeCells #[Value.string ⟨#[]⟩] n).toList=_
     rw[toList_madeCells_one]
     simp[filled]
    rw[hrow] at how
    have hb2:Below w1.heap.size w1 w2:=(Below.refl w1.heap.size w1).grown hg (Nat.le_refl _) (fun i hi=>by cases hi)
    have hlt1:=H.out.lt
    have hti:TsI s w1 n b (.int .i64 b) (.int .i64 0) w2:=⟨0,b,[],Nat.zero_le _,rfl,rfl,rfl,g2,how,hb2,by
     rw[Nat.sub_zero]
     cases Cod.Me s n b with
     | none=>rfl
     | some y=>obtain⟨l,c⟩:=y;rfl⟩
    have HTI:=zh hti;clear hti how hg hb2 hrow k0
    go_wp2
    go_loopw [0,34] (fun at_ i wr=>TsI s w1 n b at_ i wr) (fun _ i _=>n-(intOf i).toNat)
    case atStart=>exact HTI.out
    case round=>
     obtain⟨k,b2,xs,hk,hxl,rfl,rfl,hb2,how,hbl,htr⟩:=hrel
     have HOW:=zh how;have HBL:=zh hbl;have HTR:=zh htr;have HXL:=zh hxl;clear how hbl htr hxl
     by_cases hkn:k<n
     ·have dk:decide ((k:Int)<n)=true:=by simp;omega
      obtain⟨M,hM⟩:∃ M,n-k=M+1:=⟨n-k-1,by omega⟩
      have htr:=HTR.out
      rw[hM,Cod.Me] at htr
      have c1:wr.cell? ⟨b1,0,none⟩=some (.pointer (some ⟨rb,0,none⟩)):=(HBL.out.cell (p:=⟨b1,0,none⟩) hb1).trans h1
      have hat:=H.out.below HBL.out hlt1
      have hce:(wr.cell? ⟨w1.heap.size,k,none⟩).isSome=true:=by
       rw[HOW.out.cellAt k (by omega)]
       simp[filled,HXL.out]
       omega
      obtain⟨cv,hcv⟩:=Option.isSome_iff_exists.1 hce
      have hfz:wr.frozen? ⟨w1.heap.size,k,none⟩=false:=HOW.out.frozenAt k
      have HAT:=zh hat;have HM:=zh hM;clear hat hce hM
      go_wp2_with fail
      refine(Ux rb s a0 b2 e0 _ HAT.out hb2 (by omega)).mono ?_
      rintro e w3 ⟨hp,rfl⟩
      cases hr3:Cod.rdT s b2 with
      | none =>
        rw[hr3] at hp
        have hp' : e=.returned (.tuple #[.string ⟨#[]⟩,.int .i64 0,.bool false]):=hp
        subst hp'
        rw[hr3] at htr
        have hf2:R (.returned (.tuple #[.slice none 0 0,.int .i64 0,.bool false])) (w3.setCell ⟨w1.heap.size,k,none⟩ (.string ⟨#[]⟩)):=by
         rw[HR.out,HF.out,htr]
         exact⟨rfl,HBL.out.setCell (p:=⟨w1.heap.size,k,none⟩) (Nat.le_refl _) _⟩
        have HF2:=zh hf2;clear hf2 hr3 hp htr
        go_wp2
        go_ret3
        exact HF2.out
      | some y =>
        obtain⟨x,b3⟩:=y
        rw[hr3] at hp
        have hp' : e=.returned (.tuple #[.string x,.int .i64 b3,.bool true]):=hp
        subst hp'
        simp only[hr3] at htr
        have hb3:=(Cod.KH hr3).2.1
        have hst:=(HOW.out.stored k (.string x)).1
        rw[<- HXL.out,iV n xs x (by rw[HXL.out];exact hkn),HXL.out] at hst
        have x9:TsI s w1 n b (.int .i64 b3) (.int .i64 ((k:Int)+1)) (w3.setCell ⟨w1.heap.size,k,none⟩ (.string x)):=by
         refine⟨k+1,b3,xs++[x],by omega,by rw[List.length_append,HXL.out];rfl,by go_num,rfl,hb3,hst,HBL.out.setCell (p:=⟨w1.heap.size,k,none⟩) (Nat.le_refl _) _,?_⟩
         rw[htr,show n-(k+1)=M by have:=HM.out;omega]
         cases Cod.Me s M b3 with
         | none=>rfl
         | some z=>obtain⟨l,c⟩:=z;simp
        have zbV:=zh x9;clear x9 hst hr3 hp htr
        go_wp2_with fail
        exact⟨zbV.out,by simp[intOf];omega⟩
     ·have dk:decide ((k:Int)<n)=false:=by simp;omega
      have hkn2:k=n:=by omega
      have htr:=HTR.out
      rw[hkn2,Nat.sub_self] at htr
      have hxn:xs.length=n:=by rw[HXL.out];exact hkn2
      have hf2:R (.returned (.tuple #[.slice (some ⟨w1.heap.size,0,none⟩) n n,.int .i64 b2,.bool true])) wr:=by
       rw[HR.out,HF.out,htr]
       simp only[Cod.Me,List.append_nil]
       have how:=HOW.out
       rw[iW n xs hxn,<- hxn] at how
       refine⟨_,rfl,?_,fun i hi=>by simp[Value.ownBlock] at hi;omega,⟨_,n,by rw[hxn],by omega⟩,HBL.out⟩
       rw[<- hxn]
       exact Am.own how
      have HF2:=zh hf2;clear hf2 htr hkn2 hxn
      go_wp2
      go_ret3
      exact HF2.out
   ·have hz:((s.size:Int)-b<n):=by omega
    have hf:R (.returned (.tuple #[.slice none 0 0,.int .i64 0,.bool false])) w1:=by
     rw[HR.out]
     unfold Cod.AO
     simp only[hr,if_neg hlt]
     exact⟨rfl,Below.refl _ _⟩
    have HF:=zh hf;clear hf hr
    go_wp2
    go_ret3
    exact HF.out
def GD (rb:Nat)(s:ByteArray)(a:Nat)(r:Option (List ByteArray × Nat))(w:World)(e:Ending)(w' : World):Prop:=match r with
 | some (l,b)=>∃ c d,e=.returned (.slice (some c) l.length d)/\(Am w' (.slice (some c) l.length d) l/\l.length<=d)/\(∀ k,(Value.slice (some c) l.length d).ownBlock=some k->w.heap.size<=k)/\Ay rb w w' (rdV s b 0)
 | none=>e=.returned (.slice none 0 0)/\Ay rb w w' (rdV s a 9)
theorem VO (rb b1:Nat)(s:ByteArray)(a:Nat)(w:World)(h1:w.cell? ⟨b1,0,none⟩=some (.pointer (some ⟨rb,0,none⟩)))(hb1:b1<w.heap.size)(h:At w rb 223 (rdV s a 0))(ha:a<=s.size)(hs:s.size<=1000000):
 Calls Tryz.prog 157 #[.pointer (some ⟨rb,0,none⟩),.func (.func 158) #[] #[.pointer (some ⟨b1,0,none⟩)]] w (GD rb s a (Cod.AO s a) w):=by
 obtain⟨R,hR⟩:∃ R,R=GD rb s a (Cod.AO s a) w:=⟨_,rfl⟩
 rw[<- hR]
 have k1:=h.cell 1;have k2:=h.cell 2
 simp only[rdV,List.getElem?_toArray,List.getElem?_cons_zero,List.getElem?_cons_succ] at k1 k2
 have hlt:=h.lt
 have HR:=zh hR;have H:=zh h;have H1:=zh h1;clear hR h h1
 go_enter Tryz.func157,Tryz.ntmps157
 go_wp2_with fail
 refine(Y4 rb b1 s a a 0 _ H1.out hb1 H.out ha hs).mono ?_
 intro e w1 hp
 cases hr:Cod.AO s a with
 | none =>
   rw[hr] at hp
   obtain⟨rfl,hb⟩:=hp
   have hat:=H.out.below hb hlt
   have z2:=hat.free 2;have y2:=hat.cell 2
   simp only[rdV,List.getElem?_toArray,List.getElem?_cons_zero,List.getElem?_cons_succ] at y2
   have hf:R (.returned (.slice none 0 0)) (w1.setCell ⟨rb,2,none⟩ (.int .i64 9)):=by
    rw[HR.out,hr]
    exact⟨rfl,Ay.pre (Fr.of_below hb) (Ay.set2 hat 9)⟩
   have HF:=zh hf;clear hf hr hat hb
   go_wp2_with fail
   exact HF.out
 | some y =>
   obtain⟨l,b⟩:=y
   rw[hr] at hp
   obtain⟨v,rfl,hv,hfr,⟨c,d,rfl,hcd⟩,hb⟩:=hp
   have hat:=H.out.below hb hlt
   have z1:=hat.free 1;have y1:=hat.cell 1
   simp only[rdV,List.getElem?_toArray,List.getElem?_cons_zero,List.getElem?_cons_succ] at y1
   have hf:R (.returned (.slice (some c) l.length d)) (w1.setCell ⟨rb,1,none⟩ (.int .i64 b)):=by
    rw[HR.out,hr]
    exact⟨c,d,rfl,⟨hv.keep (fun k hk _=>zo (by have:=hfr k hk;show k≠rb;omega)),hcd⟩,hfr,Ay.pre (Fr.of_below hb) (Ay.set1 hat b)⟩
   have HF:=zh hf;clear hf hr hat hb hv hfr
   go_wp2_with fail
   exact HF.out
theorem nK (fv:Value)(rb:Nat)(s:ByteArray)(a:Nat)(e:Int)(he:e≠0)(w:World)(h:At w rb 223 (rdV s a e)):
 Calls Tryz.prog 157 #[.pointer (some ⟨rb,0,none⟩),fv] w fun e w' => e=.returned (.slice none 0 0)/\w' = w:=by
 have k2:=h.cell 2
 simp only[rdV,List.getElem?_toArray,List.getElem?_cons_zero,List.getElem?_cons_succ] at k2
 have he2:(e != 0)=true:=by simpa using he
 clear h
 go_enter Tryz.func157,Tryz.ntmps157
 go_wp2
 go_ret
 exact⟨rfl,rfl⟩
theorem QN (rb:Nat)(s:ByteArray)(a:Nat)(w:World)(h:At w rb 223 (rdV s a 0))(ha:a<=s.size)(hs:s.size<=1000000):
 Calls Tryz.prog 104 #[.pointer (some ⟨rb,0,none⟩)] w (GD rb s a (Cod.AO s a) w):=by
 obtain⟨R,hR⟩:∃ R,R=GD rb s a (Cod.AO s a) w:=⟨_,rfl⟩
 rw[<- hR]
 have hlt:=h.lt
 have HR:=zh hR;have H:=zh h;clear hR h
 go_enter Tryz.func104,Tryz.ntmps104
 go_wp2_with fail
 have hfr:Fr (fun k=>k=rb) w (w.alloc (.cells #[.pointer (some ⟨rb,0,none⟩)] 175)):=(Fr.refl (fun k=>k=rb) w).alloc _
 refine(VO rb w.heap.size s a _ ((At.new w _ _).cell 0) (by simp) (H.out.alloc _) ha hs).mono ?_
 intro e w1 hp
 have hv:∃ v,e=.returned v:=by
  unfold GD at hp
  split at hp
  ·obtain⟨c,d,rfl,_⟩:=hp;exact⟨_,rfl⟩
  ·exact⟨_,hp.1⟩
 have hq:R e w1:=by
  rw[HR.out]
  unfold GD at hp ⊢
  split at hp
  ·obtain⟨c,d,h1,h2,h3,h4⟩:=hp
   exact⟨c,d,h1,h2,fun k hk=>by have:=h3 k hk;simp at this;omega,Ay.pre hfr h4⟩
  ·exact⟨hp.1,Ay.pre hfr hp.2⟩
 obtain⟨v,rfl⟩:=hv
 have HP:=zh hq;clear hp hq hfr
 go_wp2_with fail
 exact HP.out
theorem QO (rb:Nat)(s:ByteArray)(a:Nat)(e:Int)(he:e≠0)(w:World)(h:At w rb 223 (rdV s a e)):
 Calls Tryz.prog 104 #[.pointer (some ⟨rb,0,none⟩)] w fun e w' => e=.returned (.slice none 0 0)/\Below w.heap.size w w':=by
 have H:=zh h;clear h
 go_enter Tryz.func104,Tryz.ntmps104
 go_wp2_with fail
 refine(nK _ rb s a e he _ (H.out.alloc _)).mono ?_
 rintro e w1 ⟨rfl,rfl⟩
 go_wp2
 go_ret
 exact⟨rfl,zb⟩
def Cm (w:World)(b:Nat)(X:ByteArray):Prop:=Lib.IsBuilderF 118 5 b b (Lib.strCells X) w
theorem Oy (X s:ByteArray):Lib.strCells (X++s)=Lib.strCells X++Lib.strCells s:=by
 unfold Lib.strCells
 rw[Sha.Bf,List.map_append]
theorem Cm.below {w w' : World}{b:Nat}{X:ByteArray}(h:Cm w b X)(hb:Below w.heap.size w w'):Cm w' b X:=Fv h hb
theorem Cm.new (w:World):Cm (w.alloc (.cells #[.pointer none,.slice none 0 0] 118)) w.heap.size ⟨#[]⟩:=gF w
theorem Cm.lt {w:World}{b:Nat}{X:ByteArray}(h:Cm w b X):b<w.heap.size:=by
 rcases h with h|h
 ·exact h.lt
 ·exact h.lt
theorem aZ (b:Nat)(X s:ByteArray)(w:World)(h:Cm w b X)(hl:X.size+s.size<=140737488355328):
 Calls Tryz.prog 51 #[.pointer (some ⟨b,0,none⟩),.string s] w fun e w' => e=.returned (.tuple #[.int .i64 s.size,.nilIface])/\Cm w' b (X++s)/\Below b w w' :=
 (Jz b b _ s w h (by rw[Lib.strCells_length];exact hl) (Nat.le_of_lt h.lt)).mono fun _ _ ⟨h1,h2,h3⟩=>⟨h1,by unfold Cm;rw[Oy];exact h2,h3⟩
theorem yC (b:Nat)(X:ByteArray)(w:World)(h:Cm w b X):
 Calls Tryz.prog 52 #[.pointer (some ⟨b,0,none⟩)] w fun e w' => e=.returned (.string X)/\Cm w' b X/\Below b w w' :=
 (Tryz.Builder_String_any_f b b X.data.toList w h (Nat.le_of_lt h.lt)).mono fun _ _ ⟨h1,h2,h3⟩=>⟨by rw[h1],h2,h3⟩
theorem VP (B b:Nat)(bs:List Value)(w:World)(h:Lib.IsBuilderF 118 5 B b bs w):
 Calls Tryz.prog 102 #[.pointer (some ⟨b,0,none⟩)] w fun e w' => e=.returned (.tuple #[])/\(Lib.BuilderAtF 118 5 B b (.pointer (some ⟨b,0,none⟩)) bs w' /\ Below B w w')/\Lib.OthersKept 5 (some b) w w':=by
 rcases h with h|h
 ·refine(Ku b w h.cell0 h.shape h.frozen0).mono ?_
  rintro e w' ⟨rfl,rfl⟩
  exact⟨rfl,⟨h.used _,(Below.refl B w).setCell (p:=⟨b,0,none⟩) h.1 _⟩,(Lib.OthersKept.refl _ _ _).setCell ⟨b,0,none⟩ rfl _⟩
 ·refine(Mk b w h.cell0).mono ?_
  rintro e w' ⟨rfl,rfl⟩
  exact⟨rfl,⟨h,Below.refl B _⟩,Lib.OthersKept.refl _ _ _⟩
theorem VR (B b:Nat)(bs:List Value)(s:ByteArray)(w:World)(h:Lib.IsBuilderF 118 5 B b bs w)(hlen:bs.length+s.size<=140737488355328)(hBw:B<=w.heap.size):
 Calls Tryz.prog 51 #[.pointer (some ⟨b,0,none⟩),.string s] w fun e w' => e=.returned (.tuple #[.int .i64 s.size,.nilIface])/\(Lib.IsBuilderF 118 5 B b (bs++Lib.strCells s) w' /\ Below B w w')/\Lib.OthersKept 5 (some b) w w':=by
 obtain⟨i0,hi,hz0,hz1,hz2⟩:=info_parts Lm
 go_enter Tryz.func51,Tryz.ntmps51
 go_wp2_with (go_at_call 102;refine(VP B b bs _ h).mono ?_)
 rintro e w1 ⟨rfl,⟨h1,hb1⟩,hk1⟩
 obtain⟨hB,v,hbk,hown,hne⟩:=h1
 have c0:w1.cell? ⟨b,0,none⟩=some (.pointer (some ⟨b,0,none⟩)):=by rw[Lib.cell_of_heap hbk];rfl
 have c1:w1.cell? ⟨b,1,none⟩=some v:=by rw[Lib.cell_of_heap hbk];rfl
 go_wp2_with (at_builtin;refine Lib.wpList_append_own_stringF _ rfl _ _ 116 9 rfl B 5 i0 Tryz.underlying116 Tryz.underlying9 hi hz0 hz1 hz2 _ _ _ rfl hown s rfl ?c3 ?c4 ?c5 ?_)
 case c3=>unfold maxLen;omega
 case c4=>omega
 case c5=>have:=hb1.size;omega
 intro v' w2 hown' hgrow _
 have hlt:b<w1.heap.size:=by
  rcases Nat.lt_or_ge b w1.heap.size with h' | h'
  ·exact h'
  ·simp[Array.getElem?_eq_none h'] at hbk
 have hb2:w2.heap[b]? = some (.cells #[.pointer (some ⟨b,0,none⟩),v] 118 (0,0)):=by
  rw[hgrow.block b hlt (fun e=>hne e.symm)]
  exact hbk
 have d0:w2.cell? ⟨b,0,none⟩=some (.pointer (some ⟨b,0,none⟩)):=by rw[Lib.cell_of_heap hb2];rfl
 have d1:w2.cell? ⟨b,1,none⟩=some v:=by rw[Lib.cell_of_heap hb2];rfl
 have f1:w2.frozen? ⟨b,1,none⟩=false:=Lib.frozen_of_heap hb2 1
 have hk2:=hk1.grown hgrow (Lib.ownsRowF_kind hown)
 obtain⟨ao,n',cap,rfl⟩:∃ ao n' cap,v' = .slice ao n' cap:=by
  rcases hown'.2 with ⟨hv,_⟩|⟨g,cap,cur,fz,hv,_⟩
  ·exact⟨_,_,_,hv⟩
  ·exact⟨_,_,_,hv⟩
 go_wp2
 go_ret2
 refine⟨rfl,⟨?_,?_⟩,hk2.setCell ⟨b,1,none⟩ rfl _⟩
 ·exact .inr (Lib.BuilderAtF.put (T:=118) (e:=5) hB hb2 (bs':=bs++Lib.strCells s) (by simpa [Lib.strCells_length] using hown') (by decide))
 ·exact(hb1.grown hgrow (by have:=hb1.size;omega) (fun k hk=>(hown.lt k hk).1)).setCell (p:=⟨b,1,none⟩) hB _
theorem zbW (b:Nat)(X s:ByteArray)(w:World)(h:Cm w b X)(hl:X.size+s.size<=140737488355328):
 Calls Tryz.prog 51 #[.pointer (some ⟨b,0,none⟩),.string s] w fun e w' => e=.returned (.tuple #[.int .i64 s.size,.nilIface])/\Cm w' b (X++s)/\Below b w w' /\ Lib.OthersKept 5 (some b) w w' :=
 (VR b b _ s w h (by rw[Lib.strCells_length];exact hl) (Nat.le_of_lt h.lt)).mono fun _ _ ⟨h1,⟨h2,h3⟩,h4⟩=>⟨h1,by unfold Cm;rw[Oy];exact h2,h3,h4⟩
theorem bf (xs:List ByteArray)(k:Nat)(h:k<xs.length):Cod.cat ((xs.take (k+1)).map Cod.text)=Cod.cat ((xs.take k).map Cod.text)++Cod.text xs[k]:=by
 induction xs generalizing k with
 | nil=>cases h
 | cons x l ih =>
   match k with
   | 0 =>
     show Cod.text x++Cod.cat []=(⟨#[]⟩:ByteArray)++Cod.text x
     rw[Nk]
     exact KI _
   | k + 1 =>
     have h2:k<l.length:=by simpa using h
     show Cod.text x++Cod.cat ((l.take (k+1)).map Cod.text)=(Cod.text x++Cod.cat ((l.take k).map Cod.text))++Cod.text l[k]
     rw[ih k h2,ByteArray.append_assoc]
theorem bg (xs:List ByteArray)(k:Nat):(Cod.cat ((xs.take k).map Cod.text)).size<=(Cod.cat (xs.map Cod.text)).size:=by
 induction xs generalizing k with
 | nil=>simp
 | cons x l ih =>
   match k with
   | 0=>exact Nat.zero_le _
   | k + 1 =>
     show(Cod.text x++Cod.cat ((l.take k).map Cod.text)).size<=(Cod.text x++Cod.cat (l.map Cod.text)).size
     rw[Sha.Ab,Sha.Ab]
     have:=ih k
     omega
theorem bB (b:Nat)(X s:ByteArray)(w:World)(h:Cm w b X)(hl:X.size+s.size<=140737488355328):
 Calls Tryz.prog 184 #[.string s,.pointer (some ⟨b,0,none⟩)] w fun e w' => e=.returned (.tuple #[])/\Cm w' b (X++s)/\Below b w w':=by
 have H:=zh h;clear h
 go_enter Tryz.func184,Tryz.ntmps184
 go_wp2_with fail
 refine(aZ b X s _ H.out hl).mono ?_
 rintro e w1 ⟨rfl,h1,hb1⟩
 have H1:=zh h1;have HB1:=zh hb1;clear h1 hb1
 go_wp2
 go_end0
 exact⟨rfl,H1.out,HB1.out⟩
theorem nL (w0:World)(b:Nat)(X:ByteArray)(v:Value)(xs:List ByteArray)(w:World)(h:Cm w b X)(hb:Below b w0 w)(hw0:b=w0.heap.size)(hv:Am w0 v xs)(hx:∀ x∈xs,x.size<=140737488350000)(hl:xs.length<=140737488350000)(ht:X.size+(Cod.cat (xs.map Cod.text)).size<=140737488355328):
 Calls Tryz.prog 183 #[v,.func (.func 181) #[] #[],.func (.func 184) #[] #[.pointer (some ⟨b,0,none⟩)]] w fun e w' => e=.returned (.tuple #[])/\Cm w' b (X++Cod.cat (xs.map Cod.text))/\Below b w0 w':=by
 obtain⟨a,c,rfl,hc⟩:=hv
 have H:=zh h;have HB:=zh hb;have HX:=zh hx;have HC:=zh hc;have HW0:=zh hw0;clear h hb hx hc hw0
 go_enter Tryz.func183,Tryz.ntmps183
 go_wp2
 go_loopw [10] (fun i wr=>∃ k:Nat,k<=xs.length/\i=.int .i64 k/\Cm wr b (X++Cod.cat ((xs.take k).map Cod.text))/\Below b w0 wr) (fun i _=>xs.length-(intOf i).toNat)
 case atStart=>exact⟨0,by omega,rfl,by rw[List.take_zero];show Cm _ _ (X++⟨#[]⟩);rw[KI];exact H.out,HB.out⟩
 case round=>
  obtain⟨k,hk,rfl,hbl,hbw⟩:=hrel
  have HBL:=zh hbl;have HBW:=zh hbw;clear hbl hbw
  by_cases hlt:k<xs.length
  ·have dk:decide ((k:Int)<xs.length)=true:=by simp;omega
   obtain⟨g,o,rfl,hc⟩:=HC.out.resolve_left (by omega)
   have ce:=hc k hlt
   have hgl:=block_lt ce
   have ce2:=(HBW.out.cell (p:=⟨g,o+k,none⟩) (by rw[HW0.out];exact hgl)).trans ce
   obtain⟨s,hs⟩:∃ s,s=xs.getD k ⟨#[]⟩:=⟨_,rfl⟩
   rw[<- hs] at ce2
   have hsx:s=xs[k]:=by rw[hs];simp[List.getD_eq_getElem?_getD,hlt]
   have hsz:s.size<=140737488350000:=HX.out s (by rw[hsx];exact List.getElem_mem hlt)
   obtain⟨Y,hY⟩:∃ Y,Y=X++Cod.cat ((xs.take k).map Cod.text):=⟨_,rfl⟩
   have hY2:Y++Cod.text s=X++Cod.cat ((xs.take (k+1)).map Cod.text):=by rw[bf xs k hlt,hY,hsx,ByteArray.append_assoc]
   have hYs:Y.size+(Cod.text s).size<=140737488355328:=by
    rw[<- Sha.Ab,hY2,Sha.Ab]
    have:=bg xs (k+1)
    omega
   have hbl:=HBL.out
   rw[<- hY] at hbl
   have HBY:=zh hbl;have HY2:=zh hY2;have HYS:=zh hYs;have HCC:=zh hc;clear hbl hY hY2 hYs hs hsx ce hc
   go_wp2_with fail
   refine(Xa s _ hsz).mono ?_
   rintro e w2 ⟨rfl,hb2⟩
   have HB2:=zh hb2;have zbX:=zh (HBY.out.below hb2);clear hb2
   generalize Cod.text s=t at*
   go_wp2_with fail
   refine(bB b Y t _ zbX.out HYS.out).mono ?_
   rintro e w3 ⟨rfl,h3,hb3⟩
   have hfin:Below b w0 w3:=(HBW.out.trans (HB2.out.mono (Nat.le_of_lt HBY.out.lt))).trans hb3
   rw[HY2.out] at h3
   have HF:=zh hfin;have H3:=zh h3;clear hfin h3 hb3
   go_wp2
   exact⟨⟨k+1,by omega,by go_num,H3.out,HF.out⟩,by simp[intOf];omega⟩
  ·have dk:decide ((k:Int)<xs.length)=false:=by simp;omega
   have hbl:=HBL.out
   rw[List.take_of_length_le (by omega)] at hbl
   have HBY:=zh hbl;clear hbl
   go_wp2
   go_end0
   exact⟨rfl,HBY.out,HBW.out⟩
theorem Di (v:Value)(xs:List ByteArray)(w:World)(hv:Am w v xs)(hx:∀ x∈xs,x.size<=140737488350000)(hl:xs.length<=140737488350000)(ht:(Cod.texts xs).size<=140737488355328):
 Calls Tryz.prog 132 #[v] w fun e w' => e=.returned (.string (Cod.texts xs))/\Below w.heap.size w w':=by
 obtain⟨a,c,rfl⟩:=hv.len
 have HV:=zh hv;have HX:=zh hx;have HT:=zh ht;clear hv hx ht
 have hts:Cod.texts xs=Cod.uns xs.length++Cod.cat (xs.map Cod.text):=rfl
 have HTS:=zh hts;clear hts
 generalize Cod.texts xs=T at*
 go_enter Tryz.func132,Tryz.ntmps132
 go_wp2_with fail
 refine(Uu xs.length _ (by omega)).mono ?_
 rintro e w1 ⟨rfl,hb1⟩
 have hbl:Cm w1 w.heap.size ⟨#[]⟩:=(Cm.new w).below hb1
 have hbw:Below w.heap.size w w1:=zb.trans (hb1.mono (by simp))
 have hu:=Cod.Cu xs.length
 have HBL:=zh hbl;have HBW:=zh hbw;clear hbl hbw hb1
 obtain⟨u,hu2⟩:∃ u,u=Cod.uns xs.length:=⟨_,rfl⟩
 rw[<- hu2] at hu HTS ⊢
 clear hu2
 go_wp2_with fail
 refine(aZ w.heap.size ⟨#[]⟩ u _ HBL.out (by show 0+u.size<=_;omega)).mono ?_
 rintro e w2 ⟨rfl,h2,hb2⟩
 rw[Nk] at h2
 have H2:=zh h2;have sj:=zh (HBW.out.trans hb2);clear h2 hb2
 go_wp2_with fail
 refine(nL w w.heap.size u (.slice a xs.length c) xs w2 H2.out sj.out rfl HV.out HX.out hl (by have:=HT.out;rw[HTS.out,Sha.Ab] at this;exact this)).mono ?_
 rintro e w3 ⟨rfl,h3,hb3⟩
 rw[<- HTS.out] at h3
 have H3:=zh h3;have HB3:=zh hb3;clear h3 hb3
 go_wp2_with fail
 refine(yC w.heap.size T _ H3.out).mono ?_
 rintro e w4 ⟨rfl,h4,hb4⟩
 have HB4:=zh (HB3.out.trans hb4);clear h4 hb4
 go_wp2
 go_ret
 exact⟨rfl,HB4.out⟩
theorem Qe (l:List ByteArray)(n:Nat)(h:∀ x∈l,x.size<=n):(Cod.cat (l.map Cod.text)).size<=(n+10)*l.length:=by
 induction l with
 | nil=>exact Nat.zero_le _
 | cons x l ih =>
   have h1:=ih (fun y hy=>h y (List.mem_cons_of_mem _ hy))
   have h2:=h x List.mem_cons_self
   have h3:=Cod.Cu x.size
   show(Cod.text x++Cod.cat (l.map Cod.text)).size<=_
   have h5:(Cod.text x).size=(Cod.uns x.size).size+x.size:=by unfold Cod.text;rw[Sha.Ab]
   rw[Sha.Ab,h5,List.length_cons,Nat.mul_succ]
   omega
def Pred (fid:FuncId)(p:ByteArray->Bool)(n:Nat):Prop:=∀ (x:ByteArray) (w:World),x.size<=n->Calls Tryz.prog fid #[.string x] w fun e w' => e=.returned (.bool (p x))/\Below w.heap.size w w'
theorem VT (p:ByteArray->Bool)(n:Nat)(hp:Pred 200 p n)(v:Value)(xs:List ByteArray)(w:World)(h:Am w v xs)(hx:∀ x∈xs,x.size<=n)(hl:xs.length<=140737488355328):
 Calls Tryz.prog 140 #[v,.func (.func 200) #[] #[]] w fun e w' => (∃ i:Int,e=.returned (.int .i64 i)/\(decide (0<=i)=xs.any p))/\Below w.heap.size w w':=by
 obtain⟨a,c,rfl,hc⟩:=h
 have HP:=zh hp;have HC:=zh hc;have HX:=zh hx;clear hp hc hx
 go_enter Tryz.func140,Tryz.ntmps140
 go_wp2
 go_loopw [8] (fun i wr=>∃ k:Nat,k<=xs.length/\i=.int .i64 k/\(xs.take k).any p=false/\Below w.heap.size w wr) (fun i _=>xs.length-(intOf i).toNat)
 case atStart=>exact⟨0,by omega,rfl,rfl,Below.refl _ _⟩
 case round=>
  obtain⟨k,hk,rfl,hno,hb⟩:=hrel
  have HNO:=zh hno;have HB:=zh hb;clear hno hb
  by_cases hlt:k<xs.length
  ·have dk:decide ((k:Int)<xs.length)=true:=by simp;omega
   obtain⟨b,o,rfl,hc⟩:=HC.out.resolve_left (by omega)
   have ce:=hc k hlt
   have ce2:=(HB.out.cell (p:=⟨b,o+k,none⟩) (block_lt ce)).trans ce
   obtain⟨s,hs⟩:∃ s,s=xs.getD k ⟨#[]⟩:=⟨_,rfl⟩
   rw[<- hs] at ce2
   have hsx:s=xs[k]:=by rw[hs];simp[List.getD_eq_getElem?_getD,hlt]
   have hsz:s.size<=n:=HX.out s (by rw[hsx];exact List.getElem_mem hlt)
   have htk:(xs.take (k+1)).any p=p s:=by
    rw[List.take_succ_eq_append_getElem hlt,List.any_append,HNO.out,<- hsx]
    simp
   have hany:p s=true->xs.any p=true:=fun h=>List.any_eq_true.2 ⟨s,by rw[hsx];exact List.getElem_mem hlt,h⟩
   have HTK:=zh htk;have yD:=zh hany;have HCC:=zh hc;clear htk hany hs hsx ce hc
   go_wp2_with fail
   refine(HP.out s _ hsz).mono ?_
   rintro e w2 ⟨rfl,hb2⟩
   have HB2:=zh (HB.out.trans (hb2.mono HB.out.size));clear hb2
   cases hps:p s with
   | true =>
     have ha:=yD.out hps
     have HA:=zh ha;clear ha
     go_wp2
     go_ret
     exact⟨⟨_,rfl,by rw[HA.out];simp⟩,HB2.out⟩
   | false =>
     have ht:=HTK.out
     rw[hps] at ht
     have HT:=zh ht;clear ht
     go_wp2
     exact⟨⟨k+1,by omega,by go_num,HT.out,HB2.out⟩,by simp[intOf];omega⟩
  ·have dk:decide ((k:Int)<xs.length)=false:=by simp;omega
   have hall:xs.any p=false:=by
    have:=HNO.out
    rw[List.take_of_length_le (by omega)] at this
    exact this
   have HA:=zh hall;clear hall
   go_wp2
   go_ret
   exact⟨⟨_,rfl,by rw[HA.out];rfl⟩,HB.out⟩
theorem U0 (p:ByteArray->Bool)(n:Nat)(hp:Pred 200 p n)(v:Value)(xs:List ByteArray)(w:World)(h:Am w v xs)(hx:∀ x∈xs,x.size<=n)(hl:xs.length<=140737488355328):
 Calls Tryz.prog 80 #[v,.func (.func 200) #[] #[]] w fun e w' => e=.returned (.bool (xs.any p))/\Below w.heap.size w w':=by
 have HI:=zh (VT p n hp v xs w h hx hl);clear hp h hx
 go_enter Tryz.func80,Tryz.ntmps80
 go_wp2_with fail
 refine HI.out.mono ?_
 rintro e w2 ⟨⟨i,rfl,hi⟩,hb⟩
 have HB:=zh hb;have HJ:=zh hi;clear hb hi
 go_wp2
 go_ret
 exact⟨by rw[<- HJ.out];rfl,HB.out⟩
theorem bC:Pred 200 (fun x => !decide (x.size=32)) 140737488355328:=by
 intro x w hx
 go_enter Tryz.func200,Tryz.ntmps200
 go_wp2
 go_ret
 refine⟨?_,Below.refl _ _⟩
 show Ending.returned (.bool _)=Ending.returned (.bool _)
 congr 2
 rw[Bool.eq_iff_iff]
 simp
 omega
def Reach (o:Obj):Prop:=(∀ x∈o.refs,x.size<=140737488350000)/\o.refs.length<=140737488350000/\o.data.size<=140737488350000
def Dj (o:Obj)(v:Value):Value:=.agg #[.int .i64 o.kind,v,.string o.data]
theorem iX (l:List ByteArray):(l.any fun x => !decide (x.size=32)) = !Gg l:=by
 unfold Gg
 rw[List.not_all_eq_any_not]
theorem U4 (o:Obj)(v:Value)(w:World)(h:Am w v o.refs)(hr:Reach o):
 Calls Tryz.prog 162 #[Dj o v] w fun e w' => e=.returned (.bool (okO o))/\Below w.heap.size w w':=by
 obtain⟨a,c,rfl⟩:=h.len
 obtain⟨k,l,x⟩:=o
 obtain⟨hr1,hr2,hr3⟩:=hr
 unfold Dj
 simp only at h hr1 hr2 hr3 ⊢
 obtain⟨R,hR⟩:∃ R,R=okO ⟨k,l,x⟩:=⟨_,rfl⟩
 rw[<- hR]
 unfold okO at hR
 simp only at hR
 have HR:=zh hR;clear hR
 have hb0:Below w.heap.size w (w.alloc (.cells #[.int .i64 k,.slice a l.length c,.string x] 64)):=zb
 have HB:=zh hb0;have HS:=zh (h.below hb0);have HX:=zh hr1;clear hb0 h hr1
 go_enter Tryz.func162,Tryz.ntmps162
 by_cases h1:0<=k
 ·have d1:decide (0<=k)=true:=by simpa using h1
  by_cases h2:k<=15
  ·have d2:decide (k<=15)=true:=by simpa using h2
   by_cases h3:l.length<=64
   ·have d3:decide ((l.length:Int)<=64)=true:=by simp;omega
    by_cases h4:x.size<=65536
    ·have d4:decide ((x.size:Int)<=65536)=true:=by simp;omega
     have e:R=Gg l:=by rw[HR.out,decide_eq_true h1,decide_eq_true h2,decide_eq_true h3,decide_eq_true h4];simp
     have HE:=zh e;clear e
     go_wp2_with fail
     refine(U0 _ _ bC _ l _ HS.out (fun z hz=>by have:=HX.out z hz;omega) (by omega)).mono ?_
     rintro e2 w2 ⟨rfl,hb2⟩
     rw[iX]
     have HB2:=zh (HB.out.trans (hb2.mono HB.out.size));clear hb2
     go_wp2
     go_ret
     exact⟨by rw[HE.out];simp,HB2.out⟩
    ·have d4:decide ((x.size:Int)<=65536)=false:=by simp;omega
     have e:R=false:=by rw[HR.out,decide_eq_false h4];simp
     have HE:=zh e;clear e
     go_wp2
     go_ret
     exact⟨by rw[HE.out];rfl,HB.out⟩
   ·have d3:decide ((l.length:Int)<=64)=false:=by simp;omega
    have e:R=false:=by rw[HR.out,decide_eq_false h3];simp
    have HE:=zh e;clear e
    go_wp2
    go_ret
    exact⟨by rw[HE.out];rfl,HB.out⟩
  ·have d2:decide (k<=15)=false:=by simpa using h2
   have e:R=false:=by rw[HR.out,decide_eq_false h2];simp
   have HE:=zh e;clear e
   go_wp2
   go_ret
   exact⟨by rw[HE.out];rfl,HB.out⟩
 ·have d1:decide (0<=k)=false:=by simpa using h1
  have e:R=false:=by rw[HR.out,decide_eq_false h1];simp
  have HE:=zh e;clear e
  go_wp2
  go_ret
  exact⟨by rw[HE.out];rfl,HB.out⟩
theorem EI (o:Obj)(h:okO o=true):(BJ o).size<=70000/\(Cod.texts o.refs).size<=70000:=by
 obtain⟨h1,h2,h3,h4,h5⟩:=Dv h
 have t1:=iF o.refs h5
 have t2:=Cod.Cu o.kind.toNat
 have t3:=Cod.Cu o.data.size
 have h6:(Cod.text o.data).size=(Cod.uns o.data.size).size+o.data.size:=by unfold Cod.text;rw[Sha.Ab]
 refine⟨?_,by omega⟩
 unfold BJ
 rw[Sha.Ab,Sha.Ab,h6]
 omega
def encR (o:Obj):Value:=if okO o=true then .tuple #[.string (BJ o),.int .i64 0] else .tuple #[.string ⟨#[]⟩,.int .i64 1]
theorem KZ (o:Obj)(v:Value)(w:World)(h:Am w v o.refs)(hr:Reach o):
 Calls Tryz.prog 131 #[Dj o v] w fun e w' => e=.returned (encR o)/\Below w.heap.size w w':=by
 obtain⟨a,c,rfl⟩:=h.len
 obtain⟨R,hR⟩:∃ R,R=encR o:=⟨_,rfl⟩
 rw[<- hR]
 unfold encR at hR
 have hval:=U4 o (.slice a o.refs.length c) (w.alloc (.cells #[.int .i64 o.kind,.slice a o.refs.length c,.string o.data] 64)) (h.below zb) hr
 have yE:=zh hval
 have hb0:Below w.heap.size w (w.alloc (.cells #[.int .i64 o.kind,.slice a o.refs.length c,.string o.data] 64)):=zb
 have HR:=zh hR;have HB0:=zh hb0;have HS:=zh h;have HRE:=zh hr;clear hval hR hb0 h hr
 unfold Dj
 go_enter Tryz.func131,Tryz.ntmps131
 go_wp2_with fail
 refine yE.out.mono ?_
 rintro e w1 ⟨rfl,hb1⟩
 cases hok:okO o with
 | false =>
   have hr2:=HR.out
   rw[if_neg (by rw[hok];decide)] at hr2
   have HR2:=zh hr2;clear hr2 hok
   have hb:=HB0.out.trans (hb1.mono HB0.out.size)
   have HBB:=zh hb;clear hb hb1
   go_wp2
   go_ret2
   exact⟨by rw[HR2.out];rfl,HBB.out⟩
 | true =>
   have hr2:=HR.out
   rw[if_pos hok] at hr2
   obtain⟨p1,p2,p3,p4,p5⟩:=Dv hok
   obtain⟨z1,z2⟩:=EI o hok
   have henc:BJ o=Cod.uns o.kind.toNat++Cod.texts o.refs++Cod.text o.data:=by unfold BJ;rw[ByteArray.append_assoc]
   rw[henc] at hr2
   have hu:=Cod.Cu o.kind.toNat
   have ht:=Cod.Cu o.data.size
   have hts:(Cod.text o.data).size<=65546:=by unfold Cod.text;rw[Sha.Ab];omega
   obtain⟨kn,hkn⟩:∃ kn:Nat,o.kind=kn:=⟨o.kind.toNat,by omega⟩
   have hkl:kn<=15:=by omega
   have hrs:=HS.out
   have hpc:∀ x∈o.refs,x.size<=140737488350000:=fun x hx=>by have:=p5 x hx;omega
   have t0:At w1 w.heap.size 64 #[.int .i64 o.kind,.slice a o.refs.length c,.string o.data]:=(At.new w _ _).below hb1 (by simp)
   obtain⟨k0,k1,k2⟩:=t0.c3
   rw[hkn] at k0 hr2 hu
   rw[Int.toNat_natCast] at hr2 hu
   have hb:=HB0.out.trans (hb1.mono HB0.out.size)
   have HR2:=zh hr2;have HB1:=zh hb;have T0:=zh t0;have HPC:=zh hpc;clear hr2 hb hb1 t0 hpc henc hok p5 hkn p1 p2 z1 HR hrs
   have zdb:w.heap.size<w1.heap.size:=T0.out.lt
   go_wp2
   refine Lex.zn (fun i=>i=w.heap.size) [4,8] 10 [3,3,4] ?_
   simp only[Lex.Bh,zd]
   go_wp2_with fail
   refine(aT kn _ (by omega)).mono ?_
   rintro e w2 ⟨rfl,hb2⟩
   have NY:Below w1.heap.size w1 w2:=(Below.refl w1.heap.size w1).drew.trans hb2
   have gG:=zh NY
   have HB2:=zh (HB1.out.trans (NY.mono HB1.out.size));have T2:=zh (T0.out.below NY T0.out.lt)
   have j1:=T2.out.cell 1
   simp only[zg] at j1
   clear hb2 NY k0 k1 k2
   generalize Cod.uns kn=U at*
   go_wp2
   refine Lex.Mid.intro (fun i hi hl=>by subst hi;exact gG.out.block _ hl) ?_
   go_wp2_with fail
   refine(Di (.slice a o.refs.length c) o.refs _ (HS.out.below HB2.out) HPC.out (by omega) (by omega)).mono ?_
   rintro e w3 ⟨rfl,hb3⟩
   have J3:=gG.out.trans (hb3.mono gG.out.size)
   have gJ:=zh J3
   have HB3:=zh (HB2.out.trans (hb3.mono HB2.out.size));have T3:=zh (T2.out.below hb3 T2.out.lt)
   have i2:=T3.out.cell 2
   simp only[zg] at i2
   clear hb3 J3 j1
   generalize Cod.texts o.refs=V at*
   go_wp2
   refine Lex.Mid.intro (fun i hi hl=>by subst hi;exact gJ.out.block _ hl) ?_
   go_wp2_with fail
   refine(Xa o.data _ (by omega)).mono ?_
   rintro e w4 ⟨rfl,hb4⟩
   have zbY:=zh (gJ.out.trans (hb4.mono gJ.out.size))
   have HB4:=zh (HB3.out.trans (hb4.mono HB3.out.size));clear hb4 i2
   generalize Cod.text o.data=X at*
   go_wp2
   refine Lex.Mid.intro (fun i hi hl=>by subst hi;exact zbY.out.block _ hl) ?_
   go_wp2
   refine Lex.zk ⟨⟨rfl,by show(World.cell? _ ⟨w.heap.size,1,none⟩).isSome=true;rw[T0.out.drew.cell 1];rfl⟩,⟨rfl,by show(World.cell? _ ⟨w.heap.size,2,none⟩).isSome=true;rw[T0.out.drew.cell 2];rfl⟩,trivial⟩ ?_
   go_wp2
   go_ret2
   exact⟨by rw[HR2.out];rfl,HB4.out⟩
def U5 (o:Obj):Value:=if okO o=true then .tuple #[.string (Sha.sha (⟨#[7]⟩++BJ o)),.int .i64 0] else .tuple #[.string ⟨#[]⟩,.int .i64 1]
theorem La (o:Obj)(v:Value)(w:World)(h:Am w v o.refs)(hr:Reach o):
 Calls Tryz.prog 78 #[Dj o v] w fun e w' => e=.returned (U5 o)/\Below w.heap.size w w':=by
 obtain⟨a,c,rfl⟩:=h.len
 obtain⟨R,hR⟩:∃ R,R=U5 o:=⟨_,rfl⟩
 rw[<- hR]
 unfold U5 at hR
 have hb0:Below w.heap.size w (w.alloc (.cells #[.int .i64 o.kind,.slice a o.refs.length c,.string o.data] 64)):=zb
 have henc:=KZ o (.slice a o.refs.length c) (w.alloc (.cells #[.int .i64 o.kind,.slice a o.refs.length c,.string o.data] 64)) (h.below hb0) hr
 have iY:=zh henc;have HR:=zh hR;have HB0:=zh hb0;clear henc hR hb0 h hr
 unfold Dj
 go_enter Tryz.func78,Tryz.ntmps78
 go_wp2_with fail
 refine iY.out.mono ?_
 rintro e w1 ⟨rfl,hb1⟩
 have HB1:=zh (HB0.out.trans (hb1.mono HB0.out.size));clear hb1
 have hr2:=HR.out
 by_cases hok:okO o=true
 ·rw[if_pos hok] at hr2
  have hz:=(EI o hok).1
  have he:encR o=.tuple #[.string (BJ o),.int .i64 0]:=by unfold encR;rw[if_pos hok]
  rw[he]
  have HR2:=zh hr2;clear hr2 hok he iY HR
  generalize BJ o=S at*
  obtain⟨T,hT⟩:∃ T:ByteArray,T=⟨#[7]⟩++S:=⟨_,rfl⟩
  have hTs:T.size<=70001:=by rw[hT,Sha.Ab];show 1+S.size<=_;omega
  rw[<- hT] at HR2
  have HT:=zh hT;clear hT
  go_wp2_with fail
  rw[<- HT.out]
  refine(Dw T _ (by omega)).mono ?_
  rintro e w2 ⟨rfl,hb2⟩
  have HB2:=zh (HB1.out.trans (hb2.mono HB1.out.size));clear hb2
  go_wp2
  go_ret2
  exact⟨by rw[HR2.out];rfl,HB2.out⟩
 ·rw[if_neg hok] at hr2
  have he:encR o=.tuple #[.string ⟨#[]⟩,.int .i64 1]:=by unfold encR;rw[if_neg hok]
  rw[he]
  have HR2:=zh hr2;clear hr2 hok he iY HR
  go_wp2
  go_ret2
  exact⟨by rw[HR2.out];rfl,HB1.out⟩
theorem Iw:(Tryz.prog.info? 64).map (·.size)=some 3:=by kernel_rfl
def U7 (w:World)(b:Nat)(v0 v1 v2:Value):World:=((w.setCell ⟨b,0,none⟩ v0).setCell ⟨b,1,none⟩ v1).setCell ⟨b,2,none⟩ v2
theorem At.U7 {w:World}{b:Nat}{t:TypeId}{a0 a1 a2:Value}(h:At w b t #[a0,a1,a2])(v0 v1 v2:Value):At (U7 w b v0 v1 v2) b t #[v0,v1,v2]:=((h.set 0 v0).set 1 v1).set 2 v2
theorem Qf {B b:Nat}{w0 w:World}(h:Below B w0 w)(hb:B<=b)(v0 v1 v2:Value):Below B w0 (U7 w b v0 v1 v2):=
 ((h.setCell (p:=⟨b,0,none⟩) hb v0).setCell (p:=⟨b,1,none⟩) hb v1).setCell (p:=⟨b,2,none⟩) hb v2
theorem su {w:World}{b k:Nat}(h:k≠b)(v0 v1 v2:Value):(U7 w b v0 v1 v2).heap[k]? = w.heap[k]? :=by
 unfold U7
 rw[zo h,zo h,zo h]
theorem Jf {tmps:Array Value}{w:World}{b:Nat}{v0 v1 v2 p3:Value}{Q:Ending->World->Prop}(hp:tmps.getD 2 undef=.pointer (some ⟨b,0,none⟩))(h3:tmps.getD 3 undef=p3)(hat:At w b 64 #[v0,v1,v2])
 (hq:Q (.returned (.tuple #[.agg #[v0,v1,v2],p3])) w):bodyPost Tryz.prog Tryz.f106 Q Exit.ret { tmps:=tmps,defers:=[] } w:=by
 refine bodyPost_ret (v:=.tuple #[.agg #[v0,v1,v2],p3]) ?_ rfl hq
 rw[results_cell_tmp (p:=2) (u:=3) (ty:=64) rfl,hp,h3]
 simp[asAddr,run_loadVar_row w b 64 64 _ (0,0) _ hat Tryz.underlying64 rfl Iw]
structure iZ (w:World) (s:ByteArray) (a:Nat) (e:Int) (wr:World):Prop where
 at0:At wr w.heap.size 64 #[.int .i64 0,.slice none 0 0,.string ⟨#[]⟩]
 rd:At wr (w.heap.size+1) 223 (rdV s a e)
 below:Below w.heap.size w wr
theorem iZ.step {w wr wr' : World}{s:ByteArray}{a a' : Nat}{e e' : Int}(h:iZ w s a e wr)(hs:Ay (w.heap.size+1) wr wr' (rdV s a' e')):iZ w s a' e' wr' :=
 ⟨hs.fr.at h.at0 (by simp),hs.at_,h.below.trans (hs.fr.below h.below.size (fun k hk=>by omega))⟩
theorem iZ.under {w wr wr' : World}{s:ByteArray}{a:Nat}{e:Int}(h:iZ w s a e wr)(hb:Below wr.heap.size wr wr'):iZ w s a e wr' :=
 ⟨h.at0.below hb h.at0.lt,h.rd.below hb h.rd.lt,h.below.trans (hb.mono h.below.size)⟩
theorem lq {l:List ByteArray}{x:ByteArray}(h:x∈l):x.size<=(Cod.cat (l.map Cod.text)).size:=by
 induction l with
 | nil=>cases h
 | cons y l ih =>
   show _<=(Cod.text y++Cod.cat (l.map Cod.text)).size
   rw[Sha.Ab]
   rcases List.mem_cons.1 h with rfl|h2
   ·have:(Cod.text x).size=(Cod.uns x.size).size+x.size:=by unfold Cod.text;rw[Sha.Ab]
    omega
   ·have:=ih h2
    omega
theorem je {s:ByteArray}{k a b m:Nat}{l:List ByteArray}{x:ByteArray}(h2:Cod.AO s a=some (l,b))(h3:Cod.rdT s b=some (x,m))(hs:s.size<=1000000):Reach ⟨k,l,x⟩:=by
 obtain⟨q1,q2,q3⟩:=Cod.Eb h2
 obtain⟨t1,t2,t3⟩:=Cod.KH h3
 have e1:=congrArg ByteArray.size q3
 have e2:=congrArg ByteArray.size t3
 rw[ByteArray.size_extract] at e1 e2
 unfold Cod.texts at e1
 unfold Cod.text at e2
 rw[Sha.Ab] at e1 e2
 have hc:=Cod.TL l
 refine⟨fun y hy=>?_,?_,?_⟩
 ·have hy2:y∈l:=hy
  have:=lq hy2
  omega
 ·show l.length<=_
  omega
 ·show x.size<=_
  omega
def RG (w:World)(r:Option Obj)(e:Ending)(w' : World):Prop:=match r with
 | some o=>∃ a c,e=.returned (.tuple #[Dj o (.slice a o.refs.length c),.int .i64 0])/\Am w' (.slice a o.refs.length c) o.refs/\(∀ k,(Value.slice a o.refs.length c).ownBlock=some k->w.heap.size<=k)/\Below w.heap.size w w'
 | none=>e=.returned (.tuple #[Dj Obj.none (.slice none 0 0),.int .i64 9])/\Below w.heap.size w w'
theorem QV (s:ByteArray)(w:World)(hs:s.size<=1000000):
 Calls Tryz.prog 106 #[.string s] w (RG w (Dn s)):=by
 obtain⟨R,hR⟩:∃ R,R=RG w (Dn s):=⟨_,rfl⟩
 rw[<- hR]
 have HR:=zh hR;clear hR
 go_enter Tryz.func106,Tryz.ntmps106
 go_wp2_with fail
 refine(Uw s _).mono ?_
 rintro e w2 ⟨rfl,rfl⟩
 have hde:iZ w s 0 0 ((w.alloc (.cells #[.int .i64 0,.slice none 0 0,.string ⟨#[]⟩] 64)).alloc (.cells (rdV s 0 0) 223)):=
  ⟨(At.new w _ _).alloc _,At.new1 w _ _ _,zb.alloc (by simp) _⟩
 have HDE:=zh hde;clear hde
 go_wp2_with fail
 generalize (w.alloc (.cells #[.int .i64 0,.slice none 0 0,.string ⟨#[]⟩] 64)).alloc (.cells (rdV s 0 0) 223)=w2 at*
 refine(Uy (w.heap.size+1) s 0 _ HDE.out.rd (Nat.zero_le _) (by omega)).mono ?_
 intro e w3 hp
 cases h1:Cod.rdN s 0 with
 | none =>
   rw[h1] at hp
   obtain⟨rfl,hst⟩:=hp
   have HD3:=zh (HDE.out.step hst)
   have hdn:Dn s=none:=by unfold Dn;rw[h1]
   have HDN:=zh hdn;clear hst hdn h1
   go_wp2_with fail
   refine(QO (w.heap.size+1) s 0 9 (by decide) _ HD3.out.rd).mono ?_
   rintro e w4 ⟨rfl,hb4⟩
   have HD4:=zh (HD3.out.under hb4);clear hb4
   go_wp2_with fail
   refine(KY (w.heap.size+1) s 0 9 (by decide) _ HD4.out.rd).mono ?_
   rintro e w5 ⟨rfl,rfl⟩
   go_wp2_with fail
   have hda:=HD4.out.under ((Below.refl w5.heap.size w5).alloc (Nat.le_refl _) (.cells #[.int .i64 0,.slice none 0 0,.string ⟨#[]⟩] 64))
   have HDA:=zh hda;clear hda
   have hob:At (w5.alloc (.cells #[.int .i64 0,.slice none 0 0,.string ⟨#[]⟩] 64)) w5.heap.size 64 #[.int .i64 0,.slice none 0 0,.string ⟨#[]⟩]:=At.new _ _ _
   have HOB:=zh hob;clear hob
   generalize w5.alloc (.cells #[.int .i64 0,.slice none 0 0,.string ⟨#[]⟩] 64)=wA at*
   refine(FJ (w.heap.size+1) s 0 9 _ HDA.out.rd).mono ?_
   rintro e w6 ⟨rfl,rfl⟩
   rw[show Cv s 0 9=9 from rfl]
   have y0:=HDA.out.at0.cell 0;have y1:=HDA.out.at0.cell 1;have y2:=HDA.out.at0.cell 2
   have z0:=HDA.out.at0.free 0;have z1:=HDA.out.at0.free 1;have z2:=HDA.out.at0.free 2
   simp only[zg] at y0 y1 y2
   go_wp2_with fail
   refine Jf (p3:=.int .i64 9) rfl rfl (At.U7 HDA.out.at0.drew _ _ _) ?_
   rw[HR.out,HDN.out]
   exact⟨rfl,Qf (b:=w.heap.size) HDA.out.below.drew (Nat.le_refl _) _ _ _⟩
 | some y =>
   obtain⟨k,a⟩:=y
   rw[h1] at hp
   obtain⟨rfl,hst⟩:=hp
   have HD3:=zh (HDE.out.step hst)
   obtain⟨g1,g2,_,g4⟩:=Cod.En h1
   have H1:=zh h1;clear hst h1
   go_wp2_with fail
   refine(QN (w.heap.size+1) s a _ HD3.out.rd g2 hs).mono ?_
   intro e w4 hp
   cases h2:Cod.AO s a with
   | none =>
     rw[h2] at hp
     obtain⟨rfl,hst⟩:=hp
     have HD4:=zh (HD3.out.step hst)
     have hdn:Dn s=none:=by unfold Dn;simp only[H1.out,h2]
     have HDN:=zh hdn;clear hst hdn h2
     go_wp2_with fail
     refine(KY (w.heap.size+1) s a 9 (by decide) _ HD4.out.rd).mono ?_
     rintro e w5 ⟨rfl,rfl⟩
     go_wp2_with fail
     have hda:=HD4.out.under ((Below.refl w5.heap.size w5).alloc (Nat.le_refl _) (.cells #[.int .i64 k,.slice none 0 0,.string ⟨#[]⟩] 64))
     have HDA:=zh hda;clear hda
     have hob:At (w5.alloc (.cells #[.int .i64 k,.slice none 0 0,.string ⟨#[]⟩] 64)) w5.heap.size 64 #[.int .i64 k,.slice none 0 0,.string ⟨#[]⟩]:=At.new _ _ _
     have HOB:=zh hob;clear hob
     generalize w5.alloc (.cells #[.int .i64 k,.slice none 0 0,.string ⟨#[]⟩] 64)=wA at*
     refine(FJ (w.heap.size+1) s a 9 _ HDA.out.rd).mono ?_
     rintro e w6 ⟨rfl,rfl⟩
     rw[show Cv s a 9=9 from rfl]
     have y0:=HDA.out.at0.cell 0;have y1:=HDA.out.at0.cell 1;have y2:=HDA.out.at0.cell 2
     have z0:=HDA.out.at0.free 0;have z1:=HDA.out.at0.free 1;have z2:=HDA.out.at0.free 2
     simp only[zg] at y0 y1 y2
     go_wp2_with fail
     refine Jf (p3:=.int .i64 9) rfl rfl (At.U7 HDA.out.at0.drew _ _ _) ?_
     rw[HR.out,HDN.out]
     exact⟨rfl,Qf (b:=w.heap.size) HDA.out.below.drew (Nat.le_refl _) _ _ _⟩
   | some y =>
     obtain⟨l,b⟩:=y
     rw[h2] at hp
     obtain⟨c,d,rfl,⟨hsl,_⟩,hfr,hst⟩:=hp
     have HD4:=zh (HD3.out.step hst)
     have Py:=HD3.out.below.size
     have zdc:=HD3.out.rd.lt
     have hfr2:∀ i,(Value.slice (some c) l.length d).ownBlock=some i->w.heap.size+2<=i:=fun i hi=>by have:=hfr i hi;omega
     obtain⟨q1,q2,_⟩:=Cod.Eb h2
     have H2:=zh h2;have HSL:=zh hsl;have HFR:=zh hfr2;clear hst h2 hsl hfr hfr2
     go_wp2_with fail
     refine(iU (w.heap.size+1) s b _ HD4.out.rd q2 (by omega)).mono ?_
     intro e w5 hp
     cases h3:Cod.rdT s b with
     | none =>
       rw[h3] at hp
       obtain⟨rfl,hst⟩:=hp
       have HD5:=zh (HD4.out.step hst)
       have hdn:Dn s=none:=by unfold Dn;simp only[H1.out,H2.out,h3]
       have HDN:=zh hdn;clear hst hdn h3
       go_wp2_with fail
       have hda:=HD5.out.under ((Below.refl w5.heap.size w5).alloc (Nat.le_refl _) (.cells #[.int .i64 k,.slice (some c) l.length d,.string ⟨#[]⟩] 64))
       have HDA:=zh hda;clear hda
       have hob:At (w5.alloc (.cells #[.int .i64 k,.slice (some c) l.length d,.string ⟨#[]⟩] 64)) w5.heap.size 64 #[.int .i64 k,.slice (some c) l.length d,.string ⟨#[]⟩]:=At.new _ _ _
       have HOB:=zh hob;clear hob
       generalize w5.alloc (.cells #[.int .i64 k,.slice (some c) l.length d,.string ⟨#[]⟩] 64)=wA at*
       refine(FJ (w.heap.size+1) s b 9 _ HDA.out.rd).mono ?_
       rintro e w6 ⟨rfl,rfl⟩
       rw[show Cv s b 9=9 from rfl]
       have y0:=HDA.out.at0.cell 0;have y1:=HDA.out.at0.cell 1;have y2:=HDA.out.at0.cell 2
       have z0:=HDA.out.at0.free 0;have z1:=HDA.out.at0.free 1;have z2:=HDA.out.at0.free 2
       simp only[zg] at y0 y1 y2
       go_wp2_with fail
       refine Jf (p3:=.int .i64 9) rfl rfl (At.U7 HDA.out.at0.drew _ _ _) ?_
       rw[HR.out,HDN.out]
       exact⟨rfl,Qf (b:=w.heap.size) HDA.out.below.drew (Nat.le_refl _) _ _ _⟩
     | some y =>
       obtain⟨x,m⟩:=y
       rw[h3] at hp
       obtain⟨rfl,hst⟩:=hp
       have HD5:=zh (HD4.out.step hst)
       have zaS:Am w5 (.slice (some c) l.length d) l:=HSL.out.keep (fun i hi hl=>hst.fr.keep i hl (by have:=HFR.out i hi;omega))
       obtain⟨t1,t2,_⟩:=Cod.KH h3
       have zaT:Dn s=if m=s.size/\okO ⟨k,l,x⟩=true then some ⟨k,l,x⟩ else none:=by unfold Dn;simp only[H1.out,H2.out,h3]
       have yF:=zh zaT;have HS5:=zh zaS;have HRE:=zh (je (k:=k) H2.out h3 hs);clear hst h3 zaT zaS
       by_cases hm:m<s.size
       ·have hdn:Dn s=none:=by rw[yF.out,if_neg (by omega)]
        have HDN:=zh hdn;clear hdn
        go_wp2_with fail
        have hda:=HD5.out.under ((Below.refl w5.heap.size w5).alloc (Nat.le_refl _) (.cells #[.int .i64 k,.slice (some c) l.length d,.string x] 64))
        have HDA:=zh hda;clear hda
        have hob:At (w5.alloc (.cells #[.int .i64 k,.slice (some c) l.length d,.string x] 64)) w5.heap.size 64 #[.int .i64 k,.slice (some c) l.length d,.string x]:=At.new _ _ _
        have HOB:=zh hob;clear hob
        generalize w5.alloc (.cells #[.int .i64 k,.slice (some c) l.length d,.string x] 64)=wA at*
        refine(FJ (w.heap.size+1) s m 0 _ HDA.out.rd).mono ?_
        rintro e w6 ⟨rfl,rfl⟩
        rw[show Cv s m 0=9 from by unfold Cv;rw[if_pos ⟨rfl,hm⟩]]
        have y0:=HDA.out.at0.cell 0;have y1:=HDA.out.at0.cell 1;have y2:=HDA.out.at0.cell 2
        have z0:=HDA.out.at0.free 0;have z1:=HDA.out.at0.free 1;have z2:=HDA.out.at0.free 2
        simp only[zg] at y0 y1 y2
        go_wp2_with fail
        refine Jf (p3:=.int .i64 9) rfl rfl (At.U7 HDA.out.at0.drew _ _ _) ?_
        rw[HR.out,HDN.out]
        exact⟨rfl,Qf (b:=w.heap.size) HDA.out.below.drew (Nat.le_refl _) _ _ _⟩
       ·have hsa:=HS5.out.below ((Below.refl w5.heap.size w5).alloc (Nat.le_refl _) (.cells #[.int .i64 k,.slice (some c) l.length d,.string x] 64))
        have HSA:=zh hsa;clear hsa
        go_wp2_with fail
        have hda:=HD5.out.under ((Below.refl w5.heap.size w5).alloc (Nat.le_refl _) (.cells #[.int .i64 k,.slice (some c) l.length d,.string x] 64))
        have HDA:=zh hda;clear hda
        have hob:At (w5.alloc (.cells #[.int .i64 k,.slice (some c) l.length d,.string x] 64)) w5.heap.size 64 #[.int .i64 k,.slice (some c) l.length d,.string x]:=At.new _ _ _
        have HOB:=zh hob;clear hob
        generalize w5.alloc (.cells #[.int .i64 k,.slice (some c) l.length d,.string x] 64)=wA at*
        refine(FJ (w.heap.size+1) s m 0 _ HDA.out.rd).mono ?_
        rintro e w6 ⟨rfl,rfl⟩
        rw[show Cv s m 0=0 from by unfold Cv;rw[if_neg (fun h=>hm h.2)]]
        have m0:=HOB.out.cell 0;have m1:=HOB.out.cell 1;have m2:=HOB.out.cell 2
        have y0:=HDA.out.at0.cell 0;have y1:=HDA.out.at0.cell 1;have y2:=HDA.out.at0.cell 2
        have z0:=HDA.out.at0.free 0;have z1:=HDA.out.at0.free 1;have z2:=HDA.out.at0.free 2
        simp only[zg] at m0 m1 m2 y0 y1 y2
        go_wp2_with fail
        refine(U4 ⟨k,l,x⟩ (.slice (some c) l.length d) _ (HSA.out.drewN 1) HRE.out).mono ?_
        rintro e7 w7 ⟨rfl,hb7⟩
        clear y0 y1 y2 z0 z1 z2 m0 m1 m2
        have vC : Below wA.heap.size wA w7:=(Below.refl wA.heap.size wA).drew.trans hb7
        have HD7:=zh (HDA.out.under vC)
        have HO7:=zh (HOB.out.below vC HOB.out.lt)
        have HS7:=zh (HSA.out.below vC);clear hb7 vC
        have m0:=HO7.out.cell 0;have m1:=HO7.out.cell 1;have m2:=HO7.out.cell 2
        have y0:=HD7.out.at0.cell 0;have y1:=HD7.out.at0.cell 1;have y2:=HD7.out.at0.cell 2
        have z0:=HD7.out.at0.free 0;have z1:=HD7.out.at0.free 1;have z2:=HD7.out.at0.free 2
        simp only[zg] at m0 m1 m2 y0 y1 y2
        cases hok:okO ⟨k,l,x⟩ with
        | false =>
          have hdn:Dn s=none:=by rw[yF.out,if_neg (fun h=>by rw[hok] at h;cases h.2)]
          have HDN:=zh hdn;clear hdn hok
          go_wp2_with fail
          refine Jf (p3:=.int .i64 9) rfl rfl (At.U7 HD7.out.at0 _ _ _) ?_
          rw[HR.out,HDN.out]
          exact⟨rfl,Qf (b:=w.heap.size) HD7.out.below (Nat.le_refl _) _ _ _⟩
        | true =>
          have hdn:Dn s=some ⟨k,l,x⟩:=by rw[yF.out,if_pos ⟨by omega,hok⟩]
          have HDN:=zh hdn;clear hdn hok
          go_wp2_with fail
          refine Jf (p3:=.int .i64 0) rfl rfl (At.U7 HD7.out.at0 _ _ _) ?_
          rw[HR.out,HDN.out]
          exact⟨some c,d,rfl,HS7.out.keep (fun i hi _=>su (by have:=HFR.out i hi;omega) _ _ _),fun i hi=>by have:=HFR.out i hi;omega,Qf (b:=w.heap.size) HD7.out.below (Nat.le_refl _) _ _ _⟩
namespace Sto
open Own (Bt Srt BH)
def CO (F:Nat->Prop)(w:World)(v:Value)(l:List ByteArray):Prop:=Am w v l/\(0<l.length->∀ k,v.ownBlock=some k->F k/\k<w.heap.size)
section
variable {F G:Nat->Prop} {w w' : World} {v:Value} {l:List ByteArray}
theorem CO.keep (h:CO F w v l)(hs:w.heap.size<=w'.heap.size)(hk:∀ k,F k->k<w.heap.size->w'.heap[k]? = w.heap[k]?):CO F w' v l:=by
 refine⟨?_,fun h0 k hv=>⟨(h.2 h0 k hv).1,Nat.lt_of_lt_of_le (h.2 h0 k hv).2 hs⟩⟩
 by_cases h0:0<l.length
 ·exact h.1.keep fun k hv hl=>hk k (h.2 h0 k hv).1 hl
 ·exact h.1.empty (by omega) w'
theorem CO.mono (h:CO F w v l)(hF:∀ k,F k->k<w.heap.size->G k):CO G w v l:=⟨h.1,fun h0 k hv=>⟨hF k (h.2 h0 k hv).1 (h.2 h0 k hv).2,(h.2 h0 k hv).2⟩⟩
theorem CO.below (h:CO F w v l)(hb:Below w.heap.size w w'):CO F w' v l:=h.keep hb.size fun k _ hl=>hb.block k hl
theorem CO.len (h:CO F w v l):∃ a c,v=.slice a l.length c:=h.1.len
end
def sw:Elem Obj:=fun F w cs o=>∃ v,cs=[.int .i64 o.kind,v,.string o.data]/\CO F w v o.refs
def sD:Elem Val:=fun _ _ cs v=>cs=[.string v.name,.string v.data]
def ROp:Elem SOp:=fun F w cs x=>∃ v,cs=[.int .i64 x.kind,.string x.name,.string x.data,.int .i64 x.obj.kind,v,.string x.obj.data]/\CO F w v x.obj.refs
instance:Cc sw:=⟨fun⟨v,h1,h2⟩ hs hk=>⟨v,h1,h2.keep hs hk⟩,fun⟨v,h1,h2⟩ hF=>⟨v,h1,h2.mono hF⟩⟩
instance:Cc sD:=⟨fun h _ _=>h,fun h _=>h⟩
instance:Cc ROp:=⟨fun⟨v,h1,h2⟩ hs hk=>⟨v,h1,h2.keep hs hk⟩,fun⟨v,h1,h2⟩ hF=>⟨v,h1,h2.mono hF⟩⟩
abbrev Xc (F:Nat->Prop)(w:World)(v:Value)(l:List Obj):Prop:=Dp 3 sw F w v l
abbrev UD (F:Nat->Prop)(w:World)(v:Value)(l:List Val):Prop:=Dp 2 sD F w v l
abbrev Nt (F:Nat->Prop)(w:World)(v:Value)(l:List SOp):Prop:=Dp 6 ROp F w v l
section
variable {F:Nat->Prop} {w w' : World} {a:Option Addr} {n c:Nat}
theorem Xc.cells {l:List Obj}(h:Xc F w (.slice a n c) l){i:Nat}(hi:i<l.length):∃ b o v,a=some ⟨b,o,none⟩/\b<w.heap.size/\w.cell? ⟨b,o+i*3,none⟩=some (.int .i64 l[i].kind)/\w.cell? ⟨b,o+i*3+1,none⟩=some v/\w.cell? ⟨b,o+i*3+2,none⟩=some (.string l[i].data)/\CO F w v l[i].refs:=by
 obtain⟨b,o,ha,_,hb,cs,h1,h2,v,h3,h4⟩:=h.at_ hi
 subst h3
 exact⟨b,o,v,ha,hb,h2 0 _ rfl,h2 1 _ rfl,h2 2 _ rfl,h4⟩
theorem UD.cells {l:List Val}(h:UD F w (.slice a n c) l){i:Nat}(hi:i<l.length):∃ b o,a=some ⟨b,o,none⟩/\b<w.heap.size/\w.cell? ⟨b,o+i*2,none⟩=some (.string l[i].name)/\w.cell? ⟨b,o+i*2+1,none⟩=some (.string l[i].data):=by
 obtain⟨b,o,ha,_,hb,cs,h1,h2,h3⟩:=h.at_ hi
 have h3:cs=_:=h3
 subst h3
 exact⟨b,o,ha,hb,h2 0 _ rfl,h2 1 _ rfl⟩
theorem Nt.cells {l:List SOp}(h:Nt F w (.slice a n c) l){i:Nat}(hi:i<l.length):∃ b o v,a=some ⟨b,o,none⟩/\b<w.heap.size/\w.cell? ⟨b,o+i*6,none⟩=some (.int .i64 l[i].kind)/\w.cell? ⟨b,o+i*6+1,none⟩=some (.string l[i].name)/\w.cell? ⟨b,o+i*6+2,none⟩=some (.string l[i].data)/\
 w.cell? ⟨b,o+i*6+3,none⟩=some (.int .i64 l[i].obj.kind)/\w.cell? ⟨b,o+i*6+4,none⟩=some v/\w.cell? ⟨b,o+i*6+5,none⟩=some (.string l[i].obj.data)/\CO F w v l[i].obj.refs:=by
 obtain⟨b,o,ha,_,hb,cs,h1,h2,v,h3,h4⟩:=h.at_ hi
 subst h3
 exact⟨b,o,v,ha,hb,h2 0 _ rfl,h2 1 _ rfl,h2 2 _ rfl,h2 3 _ rfl,h2 4 _ rfl,h2 5 _ rfl,h4⟩
end
def StV (F:Nat->Prop)(w:World)(v:Value)(s:St):Prop:=∃ vo ve vv,v=.agg #[vo,ve,vv]/\Xc F w vo s.objs/\CO F w ve s.ents/\UD F w vv s.vals
theorem StV.keep {F:Nat->Prop}{w w' : World}{v:Value}{s:St}(h:StV F w v s)(hs:w.heap.size<=w'.heap.size)(hk:∀ k,F k->k<w.heap.size->w'.heap[k]? = w.heap[k]?):StV F w' v s:=by
 obtain⟨vo,ve,vv,e,h1,h2,h3⟩:=h
 exact⟨vo,ve,vv,e,h1.keep hs hk,h2.keep hs hk,h3.keep hs hk⟩
theorem StV.below {F:Nat->Prop}{w w' : World}{v:Value}{s:St}(h:StV F w v s)(hb:Below w.heap.size w w'):StV F w' v s:=h.keep hb.size fun k _ hl=>hb.block k hl
def Fa (w:World)(F:Nat->Prop)(l:List Obj)(f:ByteArray->Option Value):Prop:=∀ k,match look dig k l with
 | none=>f k=none
 | some o=>∃ sv,f k=some (Dj o sv)/\CO F w sv o.refs
def Fb (l:List Val)(g:ByteArray->Option Value):Prop:=∀ k,g k=(look Val.name k l).map fun v=>.string v.data
theorem Fa.hit {w:World}{F:Nat->Prop}{l:List Obj}{f:ByteArray->Option Value}(h:Fa w F l f){k:ByteArray}{o:Obj}(hk:look dig k l=some o):∃ sv,f k=some (Dj o sv)/\CO F w sv o.refs:=by
 have:=h k
 rw[hk] at this
 exact this
theorem Fa.miss {w:World}{F:Nat->Prop}{l:List Obj}{f:ByteArray->Option Value}(h:Fa w F l f){k:ByteArray}(hk:look dig k l=none):f k=none:=by
 have:=h k
 rw[hk] at this
 exact this
theorem Fa.Et {w:World}{F:Nat->Prop}{l:List Obj}{f:ByteArray->Option Value}(h:Fa w F l f)(k:ByteArray):(f k).isSome=has dig k l:=by
 rw[KR]
 cases hl:look dig k l with
 | none=>rw[h.miss hl];rfl
 | some o=>obtain⟨sv,e,_⟩:=h.hit hl;rw[e];rfl
theorem Fa.intro {w:World}{F:Nat->Prop}{l:List Obj}{f:ByteArray->Option Value}(h1:∀ k,look dig k l=none->f k=none)(h2:∀ k o,look dig k l=some o->∃ sv,f k=some (Dj o sv)/\CO F w sv o.refs):Fa w F l f:=by
 intro k
 cases hl:look dig k l with
 | none=>exact h1 k hl
 | some o=>exact h2 k o hl
theorem Fa.keep {F G:Nat->Prop}{w w' : World}{l:List Obj}{f:ByteArray->Option Value}(h:Fa w F l f)(hk:∀ v x,CO F w v x->CO G w' v x):Fa w' G l f:=
 .intro (fun _ hl=>h.miss hl) fun _ _ hl=>by
  obtain⟨sv,e,h2⟩:=h.hit hl
  exact⟨sv,e,hk _ _ h2⟩
theorem Fb.Et {l:List Val}{g:ByteArray->Option Value}(h:Fb l g)(k:ByteArray):(g k).isSome=has Val.name k l:=by
 rw[KR,h k]
 cases look Val.name k l<;>rfl
structure StC (w:World) (F:Nat->Prop) (mo mv:Nat) (ve:Value) (s:St):Prop where
 om:∃ f,CY w mo s.objs.length f/\Fa w F s.objs f
 vm:∃ g,CY w mv s.vals.length g/\Fb s.vals g
 en:Am w ve s.ents
 eb:∀ k,ve.ownBlock=some k->k<w.heap.size/\¬ F k/\k≠mo/\k≠mv
 fo:¬ F mo/\¬ F mv/\mo≠mv
def SFo (F:Nat->Prop)(mo mv:Nat)(ve:Value)(k:Nat):Prop:=k=mo\/k=mv\/F k\/ve.ownBlock=some k
section
variable {F G:Nat->Prop} {w w' : World} {mo mv:Nat} {ve:Value} {s:St}
theorem StC.UE (h:StC w F mo mv ve s):mo<w.heap.size:=by obtain⟨f,h1,_⟩:=h.om;exact h1.lt
theorem StC.QW (h:StC w F mo mv ve s):mv<w.heap.size:=by obtain⟨f,h1,_⟩:=h.vm;exact h1.lt
theorem StC.keep (h:StC w F mo mv ve s)(hs:w.heap.size<=w'.heap.size)(hk:∀ k,SFo F mo mv ve k->k<w.heap.size->w'.heap[k]? = w.heap[k]?):StC w' F mo mv ve s:=by
 obtain⟨f,h1,h2⟩:=h.om
 obtain⟨g,h3,h4⟩:=h.vm
 have hF:∀ k,F k->k<w.heap.size->w'.heap[k]? = w.heap[k]? :=fun k hF hl=>hk k (.inr (.inr (.inl hF))) hl
 exact⟨⟨f,h1.keep (hk _ (.inl rfl) h1.lt),h2.keep fun v x hv=>hv.keep hs hF⟩,⟨g,h3.keep (hk _ (.inr (.inl rfl)) h3.lt),h4⟩,h.en.keep (fun k hv hl=>hk k (.inr (.inr (.inr hv))) hl),fun k hv=>⟨Nat.lt_of_lt_of_le (h.eb k hv).1 hs,(h.eb k hv).2⟩,h.fo⟩
theorem StC.below (h:StC w F mo mv ve s)(hb:Below w.heap.size w w'):StC w' F mo mv ve s:=h.keep hb.size fun k _ hl=>hb.block k hl
theorem StC.fr {H:Nat->Prop}(h:StC w F mo mv ve s)(hf:Fr H w w')(hd:∀ k,SFo F mo mv ve k->¬ H k):StC w' F mo mv ve s:=h.keep hf.size fun k hF hl=>hf.keep k hl (hd k hF)
theorem StC.mono (h:StC w F mo mv ve s)(hF:∀ k,F k->k<w.heap.size->G k)(hG:¬ G mo/\¬ G mv/\∀ k,ve.ownBlock=some k->¬ G k):StC w G mo mv ve s:=by
 obtain⟨f,h1,h2⟩:=h.om
 exact⟨⟨f,h1,h2.keep fun v x hv=>hv.mono hF⟩,h.vm,h.en,fun k hv=>⟨(h.eb k hv).1,hG.2.2 k hv,(h.eb k hv).2.2⟩,hG.1,hG.2.1,h.fo.2.2⟩
theorem StC.putObj {w1:World}{f:ByteArray->Option Value}{o:Obj}{sv:Value}(h:StC w F mo mv ve s)(hf:Fa w F s.objs f)(hn:has dig (dig o) s.objs=false)(hm:CY w1 mo (nI s.objs.length f (dig o)) (Yt f (dig o) (Dj o sv)))(hg:w.grownBy w1 (some mo))(hs:CO F w sv o.refs):StC w1 F mo mv ve { s with objs:=BH dig o s.objs } :=by
 have hb:∀ k,k<w.heap.size->k≠mo->w1.heap[k]? = w.heap[k]? :=fun k hl hk=>hg.block k hl fun e=>hk (by simpa using e)
 have hF:∀ k,F k->k<w.heap.size->w1.heap[k]? = w.heap[k]? :=fun k hk hl=>hb k hl fun e=>h.fo.1 (e ▸ hk)
 have hE:∀ k,ve.ownBlock=some k->k≠mo:=fun k hv=>(h.eb k hv).2.2.1
 obtain⟨g,h3,h4⟩:=h.vm
 have hl:(BH dig o s.objs).length=nI s.objs.length f (dig o):=by
  unfold nI
  rw[JE o _ hn,hf.Et,hn]
  rfl
 refine⟨⟨Yt f (dig o) (Dj o sv),?_,.intro (fun k hk=>?_) fun k o2 hk=>?_⟩,⟨g,h3.keep (hb _ h3.lt (fun e=>h.fo.2.2 e.symm)),h4⟩,h.en.keep (fun k hv hl=>hb k hl (hE k hv)),fun k hv=>⟨Nat.lt_of_lt_of_le (h.eb k hv).1 hg.size,(h.eb k hv).2⟩,h.fo⟩
 ·show CY w1 mo (BH dig o s.objs).length _
  rw[hl];exact hm
 ·replace hk:look dig k (BH dig o s.objs)=_:=hk
  rw[Oo] at hk
  unfold Yt
  by_cases e:dig o=k
  ·rw[if_pos e] at hk;cases hk
  ·rw[if_neg e] at hk
   rw[if_neg e]
   exact hf.miss hk
 ·replace hk:look dig k (BH dig o s.objs)=_:=hk
  rw[Oo] at hk
  unfold Yt
  by_cases e:dig o=k
  ·rw[if_pos e] at hk
   cases hk
   rw[if_pos e]
   exact⟨sv,rfl,hs.keep hg.size hF⟩
  ·rw[if_neg e] at hk
   rw[if_neg e]
   obtain⟨sv2,e2,h2⟩:=hf.hit hk
   exact⟨sv2,e2,h2.keep hg.size hF⟩
theorem StC.vD {w1:World}{f:ByteArray->Option Value}{t:ByteArray}(h:StC w F mo mv ve s)(hsr:Srt dig s.objs)(hf:Fa w F s.objs f)(hn:has dig t s.objs=true)(hm:CY w1 mo (aR s.objs.length f t) (Yu f t))(hg:w.grownBy w1 (some mo)):StC w1 F mo mv ve { s with objs:=without dig t s.objs } :=by
 have hb:∀ k,k<w.heap.size->k≠mo->w1.heap[k]? = w.heap[k]? :=fun k hl hk=>hg.block k hl fun e=>hk (by simpa using e)
 have hF:∀ k,F k->k<w.heap.size->w1.heap[k]? = w.heap[k]? :=fun k hk hl=>hb k hl fun e=>h.fo.1 (e ▸ hk)
 have hE:∀ k,ve.ownBlock=some k->k≠mo:=fun k hv=>(h.eb k hv).2.2.1
 obtain⟨g,h3,h4⟩:=h.vm
 have hl:(without dig t s.objs).length=aR s.objs.length f t:=by
  have:=KV t hsr hn
  unfold aR
  rw[hf.Et,hn]
  show _=s.objs.length-1
  omega
 refine⟨⟨Yu f t,?_,.intro (fun k hk=>?_) fun k o2 hk=>?_⟩,⟨g,h3.keep (hb _ h3.lt (fun e=>h.fo.2.2 e.symm)),h4⟩,h.en.keep (fun k hv hl=>hb k hl (hE k hv)),fun k hv=>⟨Nat.lt_of_lt_of_le (h.eb k hv).1 hg.size,(h.eb k hv).2⟩,h.fo⟩
 ·show CY w1 mo (without dig t s.objs).length _
  rw[hl];exact hm
 ·replace hk:look dig k (without dig t s.objs)=_:=hk
  rw[Gv] at hk
  unfold Yu
  by_cases e:t=k
  ·rw[if_pos e]
  ·rw[if_neg e] at hk
   rw[if_neg e]
   exact hf.miss hk
 ·replace hk:look dig k (without dig t s.objs)=_:=hk
  rw[Gv] at hk
  unfold Yu
  by_cases e:t=k
  ·rw[if_pos e] at hk;cases hk
  ·rw[if_neg e] at hk
   rw[if_neg e]
   obtain⟨sv2,e2,h2⟩:=hf.hit hk
   exact⟨sv2,e2,h2.keep hg.size hF⟩
theorem StC.Lb {w1:World}{g:ByteArray->Option Value}{l:List Val}(h:StC w F mo mv ve s)(hm:CY w1 mv l.length g)(hv:Fb l g)(hg:w.grownBy w1 (some mv)):StC w1 F mo mv ve { s with vals:=l } :=by
 have hb:∀ k,k<w.heap.size->k≠mv->w1.heap[k]? = w.heap[k]? :=fun k hl hk=>hg.block k hl fun e=>hk (by simpa using e)
 have hF:∀ k,F k->k<w.heap.size->w1.heap[k]? = w.heap[k]? :=fun k hk hl=>hb k hl fun e=>h.fo.2.1 (e ▸ hk)
 have hE:∀ k,ve.ownBlock=some k->k≠mv:=fun k hv=>(h.eb k hv).2.2.2
 obtain⟨f,h1,h2⟩:=h.om
 exact⟨⟨f,h1.keep (hb _ h1.lt h.fo.2.2),h2.keep fun v x hv=>hv.keep hg.size hF⟩,⟨g,hm,hv⟩,h.en.keep (fun k hv hl=>hb k hl (hE k hv)),fun k hv=>⟨Nat.lt_of_lt_of_le (h.eb k hv).1 hg.size,(h.eb k hv).2⟩,h.fo⟩
end
theorem Fb.put {l:List Val}{g:ByteArray->Option Value}(h:Fb l g)(x:Val):Fb (BH Val.name x l) (Yt g x.name (.string x.data)):=by
 intro k
 rw[Oo]
 unfold Yt
 by_cases e:x.name=k
 ·rw[if_pos e,if_pos e];rfl
 ·rw[if_neg e,if_neg e];exact h k
theorem Fb.del {l:List Val}{g:ByteArray->Option Value}(h:Fb l g)(t:ByteArray):Fb (without Val.name t l) (Yu g t):=by
 intro k
 rw[Gv]
 unfold Yu
 by_cases e:t=k
 ·rw[if_pos e,if_pos e];rfl
 ·rw[if_neg e,if_neg e];exact h k
theorem Fb.RH {l:List Val}{g:ByteArray->Option Value}(h:Fb l g)(hs:Srt Val.name l)(x:Val):(BH Val.name x l).length=nI l.length g x.name:=by
 unfold nI
 rw[h.Et]
 cases hh:has Val.name x.name l with
 | true=>rw[Yn x hs hh];rfl
 | false=>rw[JE x l hh];rfl
theorem Fb.vE {l:List Val}{g:ByteArray->Option Value}(h:Fb l g)(hs:Srt Val.name l)(t:ByteArray):(without Val.name t l).length=aR l.length g t:=by
 unfold aR
 rw[h.Et]
 cases hh:has Val.name t l with
 | true =>
   have:=KV t hs hh
   show _=l.length-1
   omega
 | false=>rw[Uk t hh];rfl
theorem OE (o:Obj):(dig o).size=32:=Sha.Bn _
theorem OG {o:Obj}(h:okO o=true):U5 o=.tuple #[.string (dig o),.int .i64 0]:=by unfold U5;rw[if_pos h];rfl
theorem Y5 {o:Obj}(h:okO o=false):U5 o=.tuple #[.string ⟨#[]⟩,.int .i64 1]:=by unfold U5;rw[if_neg (by rw[h];decide)]
theorem Eu {o:Obj}(h:okO o=true):Reach o:=by
 obtain⟨h1,h2,h3,h4,h5⟩:=Dv h
 exact⟨fun x hx=>by rw[h5 x hx];decide,by omega,by omega⟩
end Sto
end
section
open Go Go.RowKit Go.Maps
theorem Cn (v:Value)(xs:List ByteArray)(w:World)(h:Am w v xs)(hl:xs.length<=4000000):
 Calls Tryz.prog 75 #[v] w fun e w' => ∃ v',e=.returned v' /\ Am w' v' xs/\(∀ k,v'.ownBlock=some k->w.heap.size<=k)/\w'.ownsRow w.heap.size 9 1 v' xs.length (xs.map Value.string)/\Below w.heap.size w w':=by
 obtain⟨a,c,rfl,hc⟩:=h
 cases a with
 | none =>
   have h0:xs.length=0:=by
    rcases hc with h0|⟨b,o,e,_⟩
    ·exact h0
    ·cases e
   have hx:xs=[]:=List.eq_nil_of_length_eq_zero h0
   subst hx
   refine(Tryz.slices_Clone_string_nil 0 c w).mono ?_
   rintro e w' ⟨rfl,rfl⟩
   exact⟨_,rfl,⟨none,0,rfl,.inl rfl⟩,(fun k hk=>by cases hk),⟨rfl,.inl ⟨rfl,rfl⟩⟩,Below.refl _ _⟩
 | some p =>
   by_cases h0:xs.length=0
   ·have hx:xs=[]:=List.eq_nil_of_length_eq_zero h0
    subst hx
    refine(Tryz.slices_Clone_string_zero p c w).mono ?_
    rintro e w' ⟨v',rfl,hown,_,hb⟩
    exact⟨v',rfl,Am.own (xs:=[]) hown,Az hown,hown,hb⟩
   ·obtain⟨b,o,e,hcell⟩:=hc.resolve_left h0
    cases e
    refine(Tryz.slices_Clone_string b o xs.length c xs w (Nat.le_refl _) (by omega) hcell).mono ?_
    rintro e w' ⟨v',rfl,hown,_,hb⟩
    rw[List.take_length] at hown
    exact⟨v',rfl,Am.own hown,Az hown,hown,hb⟩
theorem QY (w:World):(zeroValue 64).run Tryz.prog w=.ok (.agg #[.int .i64 0,.slice none 0 0,.string ⟨#[]⟩]) w:=by kernel_rfl
structure Bp (w0 w:World) (bs:List (TypeId × Array Value)):Prop where
 size:w.heap.size=w0.heap.size+bs.length
 under:Below w0.heap.size w0 w
 at_:∀ (i:Nat) (t:TypeId) (cs:Array Value),bs[i]? = some (t,cs)->At w (w0.heap.size+i) t cs
structure Aj (w0 w:World) (bs:List (TypeId × Array Value)):Prop where
 size:w0.heap.size+bs.length<=w.heap.size
 under:Below w0.heap.size w0 w
 at_:∀ (i:Nat) (t:TypeId) (cs:Array Value),bs[i]? = some (t,cs)->At w (w0.heap.size+i) t cs
section
variable {w0 w w' : World} {bs:List (TypeId × Array Value)}
theorem Bp.nil (w:World):Bp w w []:=⟨by simp,Below.refl _ _,fun i t cs h=>by simp at h⟩
theorem Bp.push (h:Bp w0 w bs)(t:TypeId)(cs:Array Value):Bp w0 (w.alloc (.cells cs t)) (bs++[(t,cs)]):=by
 refine⟨by rw[World.size_alloc,h.size,List.length_append];rfl,h.under.alloc h.under.size _,fun i t' cs' hi=>?_⟩
 by_cases hl:i<bs.length
 ·rw[List.getElem?_append_left hl] at hi
  exact(h.at_ i t' cs' hi).alloc _
 ·rw[List.getElem?_append_right (by omega)] at hi
  have:i-bs.length=0:=by
   have:=(List.getElem?_eq_some_iff.1 hi).1
   simp at this
   omega
  rw[this] at hi
  cases hi
  have e:w0.heap.size+i=w.heap.size:=by rw[h.size];omega
  rw[e]
  exact At.new _ _ _
theorem Bp.boxes (h:Bp w0 w bs):Aj w0 w bs:=⟨Nat.le_of_eq h.size.symm,h.under,h.at_⟩
theorem Aj.step (h:Aj w0 w bs)(hb:Below w.heap.size w w'):Aj w0 w' bs:=
 ⟨Nat.le_trans h.size hb.size,h.under.trans (hb.mono h.under.size),fun i t cs hi=>(h.at_ i t cs hi).below hb (h.at_ i t cs hi).lt⟩
theorem Aj.over (h:Aj w0 w bs)(hb:Below (w0.heap.size+bs.length) w w'):Aj w0 w' bs:=
 ⟨Nat.le_trans h.size hb.size,h.under.trans (hb.mono (by omega)),fun i t cs hi=>(h.at_ i t cs hi).below hb (by have:=(List.getElem?_eq_some_iff.1 hi).1;omega)⟩
theorem Aj.cell (h:Aj w0 w bs)(i j:Nat){t:TypeId}{cs:Array Value}{v:Value}(hi:bs[i]? = some (t,cs))(hj:cs[j]? = some v):w.cell? ⟨w0.heap.size+i,j,none⟩=some v:=((h.at_ i t cs hi).cell j).trans hj
theorem Aj.free (h:Aj w0 w bs)(i j:Nat){t:TypeId}{cs:Array Value}(hi:bs[i]? = some (t,cs)):w.frozen? ⟨w0.heap.size+i,j,none⟩=false:=(h.at_ i t cs hi).free j
theorem Aj.at1 (h:Aj w0 w bs)(i:Nat){t:TypeId}{cs:Array Value}(hi:bs[i]? = some (t,cs)):At w (w0.heap.size+i) t cs:=h.at_ i t cs hi
theorem Aj.put (h:Aj w0 w bs)(i j:Nat)(u:Value){t:TypeId}{cs:Array Value}(hi:bs[i]? = some (t,cs)):Aj w0 (w.setCell ⟨w0.heap.size+i,j,none⟩ u) (bs.set i (t,cs.setIfInBounds j u)):=by
 refine⟨by rw[List.length_set];exact Nat.le_trans h.size (by simp[World.setCell]),h.under.setCell (by show w0.heap.size<=w0.heap.size+i;omega) _,fun k t' cs' hk=>?_⟩
 have hl:=(List.getElem?_eq_some_iff.1 hi).1
 by_cases hki:k=i
 ·subst hki
  rw[List.getElem?_set_self hl] at hk
  cases hk
  exact(h.at_ k t cs hi).set j u
 ·rw[List.getElem?_set_ne (fun e=>hki e.symm)] at hk
  exact(h.at_ k t' cs' hk).far (p:=⟨w0.heap.size+i,j,none⟩) (by show w0.heap.size+k≠w0.heap.size+i;omega) _
theorem Aj.drew (h:Aj w0 w bs):Aj w0 w.drew bs:=⟨h.size,h.under.drew,fun i t cs hi=>(h.at_ i t cs hi).drew⟩
end
theorem Aj.vF{u w:World}{l:List (TypeId×Array Value)}{t:TypeId}{a b:Value}(h:Aj u w l)(r:l[0]?=some (t,#[a,b])):w.cell? ⟨u.heap.size,0,none⟩=some a/\w.cell? ⟨u.heap.size,1,none⟩=some b:=⟨h.cell 0 0 r rfl,h.cell 0 1 r rfl⟩
theorem Aj.Ev{u w:World}{l:List (TypeId×Array Value)}{t:TypeId}{a b c:Value}(h:Aj u w l)(r:l[0]?=some (t,#[a,b,c])):w.cell? ⟨u.heap.size,0,none⟩=some a/\w.cell? ⟨u.heap.size,1,none⟩=some b/\w.cell? ⟨u.heap.size,2,none⟩=some c:=⟨h.cell 0 0 r rfl,h.cell 0 1 r rfl,h.cell 0 2 r rfl⟩
theorem Aj.Hz{u w:World}{l:List (TypeId×Array Value)}{t:TypeId}{a b c:Value}(h:Aj u w l)(r:l[0]?=some (t,#[a,b,c])):w.cell? ⟨u.heap.size,0,none⟩=some a/\w.cell? ⟨u.heap.size,1,none⟩=some b/\w.cell? ⟨u.heap.size,2,none⟩=some c/\w.frozen? ⟨u.heap.size,0,none⟩=false/\w.frozen? ⟨u.heap.size,1,none⟩=false/\w.frozen? ⟨u.heap.size,2,none⟩=false:=⟨h.cell 0 0 r rfl,h.cell 0 1 r rfl,h.cell 0 2 r rfl,h.free 0 0 r,h.free 0 1 r,h.free 0 2 r⟩
theorem Aj.zaU{u w:World}{l:List (TypeId×Array Value)}{t:TypeId}{a b c d e f:Value}(h:Aj u w l)(r:l[0]?=some (t,#[a,b,c,d,e,f])):w.cell? ⟨u.heap.size,0,none⟩=some a/\w.cell? ⟨u.heap.size,1,none⟩=some b/\w.cell? ⟨u.heap.size,2,none⟩=some c/\w.cell? ⟨u.heap.size,3,none⟩=some d/\w.cell? ⟨u.heap.size,4,none⟩=some e/\w.cell? ⟨u.heap.size,5,none⟩=some f:=⟨h.cell 0 0 r rfl,h.cell 0 1 r rfl,h.cell 0 2 r rfl,h.cell 0 3 r rfl,h.cell 0 4 r rfl,h.cell 0 5 r rfl⟩
theorem Aj.VU{u w:World}{l:List (TypeId×Array Value)}{t:TypeId}{a b c d e f:Value}(h:Aj u w l)(r:l[0]?=some (t,#[a,b,c,d,e,f])):w.cell? ⟨u.heap.size,0,none⟩=some a/\w.cell? ⟨u.heap.size,1,none⟩=some b/\w.cell? ⟨u.heap.size,2,none⟩=some c/\w.cell? ⟨u.heap.size,3,none⟩=some d/\w.cell? ⟨u.heap.size,4,none⟩=some e/\w.cell? ⟨u.heap.size,5,none⟩=some f/\w.frozen? ⟨u.heap.size,0,none⟩=false/\w.frozen? ⟨u.heap.size,1,none⟩=false/\w.frozen? ⟨u.heap.size,2,none⟩=false/\w.frozen? ⟨u.heap.size,3,none⟩=false/\w.frozen? ⟨u.heap.size,4,none⟩=false/\w.frozen? ⟨u.heap.size,5,none⟩=false:=⟨h.cell 0 0 r rfl,h.cell 0 1 r rfl,h.cell 0 2 r rfl,h.cell 0 3 r rfl,h.cell 0 4 r rfl,h.cell 0 5 r rfl,h.free 0 0 r,h.free 0 1 r,h.free 0 2 r,h.free 0 3 r,h.free 0 4 r,h.free 0 5 r⟩
theorem Aj.zbZ{u w:World}{l:List (TypeId×Array Value)}{t:TypeId}{a b c:Value}(h:Aj u w l)(r:l[1]?=some (t,#[a,b,c])):w.cell? ⟨u.heap.size+1,0,none⟩=some a/\w.cell? ⟨u.heap.size+1,1,none⟩=some b/\w.cell? ⟨u.heap.size+1,2,none⟩=some c:=⟨h.cell 1 0 r rfl,h.cell 1 1 r rfl,h.cell 1 2 r rfl⟩
theorem Aj.JH{u w:World}{l:List (TypeId×Array Value)}{t:TypeId}{a b c:Value}(h:Aj u w l)(r:l[1]?=some (t,#[a,b,c])):w.cell? ⟨u.heap.size+1,0,none⟩=some a/\w.cell? ⟨u.heap.size+1,1,none⟩=some b/\w.cell? ⟨u.heap.size+1,2,none⟩=some c/\w.frozen? ⟨u.heap.size+1,0,none⟩=false/\w.frozen? ⟨u.heap.size+1,1,none⟩=false/\w.frozen? ⟨u.heap.size+1,2,none⟩=false:=⟨h.cell 1 0 r rfl,h.cell 1 1 r rfl,h.cell 1 2 r rfl,h.free 1 0 r,h.free 1 1 r,h.free 1 2 r⟩
theorem Aj.jf{u w:World}{l:List (TypeId×Array Value)}{t:TypeId}{a b c:Value}(h:Aj u w l)(r:l[2]?=some (t,#[a,b,c])):w.cell? ⟨u.heap.size+1+1,0,none⟩=some a/\w.cell? ⟨u.heap.size+1+1,1,none⟩=some b/\w.cell? ⟨u.heap.size+1+1,2,none⟩=some c/\w.frozen? ⟨u.heap.size+1+1,0,none⟩=false/\w.frozen? ⟨u.heap.size+1+1,1,none⟩=false/\w.frozen? ⟨u.heap.size+1+1,2,none⟩=false:=⟨h.cell 2 0 r rfl,h.cell 2 1 r rfl,h.cell 2 2 r rfl,h.free 2 0 r,h.free 2 1 r,h.free 2 2 r⟩
end
section
open Go Go.RowKit Go.Maps
theorem Aj.keep {w0 w w' : World}{bs:List (TypeId × Array Value)}(h:Aj w0 w bs)(hu:Below w0.heap.size w0 w')(hs:w.heap.size<=w'.heap.size)(hk:∀ k,w0.heap.size<=k->k<w0.heap.size+bs.length->w'.heap[k]? = w.heap[k]?):Aj w0 w' bs:=
 ⟨Nat.le_trans h.size hs,hu,fun i t cs hi=>(h.at_ i t cs hi).keep (hk _ (by omega) (by have:=(List.getElem?_eq_some_iff.1 hi).1;omega))⟩
theorem Aj.far {w0 w w' : World}{bs:List (TypeId × Array Value)}(h:Aj w0 w bs){O:Nat}(hO:w0.heap.size+bs.length<=O){row:Option Nat}(hr:∀ k,row=some k->O<=k)(hg:w.grownBy w' row):Aj w0 w' bs:=by
 refine h.keep (h.under.grown hg h.under.size (fun k hk=>by have:=hr k hk;omega)) hg.size (fun k _ hk=>hg.block k (by have:=h.size;omega) (fun e=>by have:=hr k e.symm;omega))
section
variable {P:Program} {fn:Func} {tmps:Array Value} {w:World} {Q:Ending->World->Prop}
theorem Al {g:Nat}{t ty:TypeId}{cs:Array Value}{d:TypeDesc}(hat:At w g t cs)(hu:P.underlying ty=some d)(hd:(match d with|.struct _|.array _ _=>true|_=>false)=true)(hi:(P.info? ty).map (·.size)=some cs.size):
 (loadVar ty ⟨g,0,none⟩).run P w=.ok (.agg cs) w:=run_loadVar_row w g t ty cs (0,0) d hat hu hd hi
theorem UF {p:Tmp}{t1:TypeId}{b1:Nat}{v1:Value}(h:fn.results=#[.cell p t1])(hp:tmps.getD p undef=.pointer (some ⟨b1,0,none⟩))
 (l1:(loadVar t1 ⟨b1,0,none⟩).run P w=.ok v1 w) (hQ:Q (.returned v1) w):bodyPost P fn Q Exit.ret { tmps:=tmps,defers:=[] } w:=by
 refine bodyPost_ret (v:=v1) ?_ rfl hQ
 have hp' : tmps[p]?.getD undef=.pointer (some ⟨b1,0,none⟩):=by rw[<- hp];simp
 simp[results,h,hp',asAddr,l1,Sem.run_bind]
theorem AQ {p u:Tmp}{t1:TypeId}{b1:Nat}{v1 x:Value}(h:fn.results=#[.cell p t1,.tmp u])(hp:tmps.getD p undef=.pointer (some ⟨b1,0,none⟩))(hu:tmps.getD u undef=x)
 (l1:(loadVar t1 ⟨b1,0,none⟩).run P w=.ok v1 w) (hQ:Q (.returned (.tuple #[v1,x])) w):bodyPost P fn Q Exit.ret { tmps:=tmps,defers:=[] } w:=by
 refine bodyPost_ret (v:=.tuple #[v1,x]) ?_ rfl hQ
 have e:(results fn tmps).run P w=((asAddr (tmps.getD p undef)).run P w).andThen fun a w₁ => ((loadVar t1 a).run P w₁).andThen fun x w₂ => .ok (.tuple #[x,tmps.getD u undef]) w₂ :=by
  simp only[results,h]
  simp[Sem.run_bind,Result.andThen]
 show(results fn tmps).run P w=_
 rw[e,hp,hu]
 simp[asAddr,l1]
end
end
end Go.Proofs.YtdiiafgoccakkaaGreatDoor
