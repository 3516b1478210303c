/- The reference's one-time signatures: verifying. -/
import Derived.Lib.Overlaps
import Derived.Laws.Externs
import Derived.Lib.AppendZeros
import Derived.Laws.CopyRow
import Derived.Test.YtjlmglgmcekmhaaGreatDoorShkD5
set_option linter.unusedVariables false
set_option linter.unusedSimpArgs false
set_option maxRecDepth 100000
set_option maxHeartbeats 8000000
namespace Go.Proofs.YtjlmglgmcekmhaaGreatDoor
section
open Go Go.RowKit Go.Maps
theorem Ea (p:ByteArray)(w:World):Calls Tryz.prog 75 #[.string p] w fun e w' => e=.returned (.bool (Sig.Bn p))/\w' = w:=by
 obtain⟨R,hR⟩:∃ R,R=Sig.Bn p:=⟨_,rfl⟩
 rw[<- hR]
 unfold Sig.Bn at hR
 have HR:=zh hR;clear hR
 go_enter Tryz.func75,Tryz.ntmps75
 by_cases h33:p.size=33
 case neg=>
  have d1:((p.size:Int)==33)=false:=by rw[beq_eq_false_iff_ne];omega
  have hx:R=false:=by rw[HR.out,decide_eq_false h33];rfl
  have HX:=zh hx;clear hx
  go_wp2
  go_ret
  exact⟨by rw[HX.out];rfl,rfl⟩
 have d1:((p.size:Int)==33)=true:=by rw[beq_iff_eq];omega
 have h32:32<p.size:=by omega
 have hg:p.get! 32=p[32]:=getElem!_pos p.data 32 h32
 have hxl:p[32].toNat<256:=p[32].toNat_lt
 have hx:R=decide ((p[32].toNat:Int)<=6):=by
  rw[HR.out,decide_eq_true h33,hg,Bool.true_and,decide_eq_decide]
  omega
 have HX:=zh hx;clear hx
 go_wp2
 go_ret
 exact⟨by rw[HX.out];rfl,rfl⟩
theorem zbZ (pub m:ByteArray)(s:Sig.T)(cv pv:Value)(w:World)(hc:Al w cv s.chains)(hp:Al w pv s.path)(hcap:Eb pv)(hl:s.chains.length<=140737488355328)(hpl:s.path.length<=140737488355328)(hm:m.size<=140737488350000):
 Calls Tryz.prog 114 #[.string pub,.string m,.agg #[.int .i64 s.index,cv,pv]] w fun e w' => e=.returned (.bool (Sig.verify pub m s))/\Below w.heap.size w w':=by
 obtain⟨R,hR⟩:∃ R,R=Sig.verify pub m s:=⟨_,rfl⟩
 rw[<- hR]
 unfold Sig.verify at hR
 obtain⟨ca,cc,rfl⟩:=hc.len
 obtain⟨pa,pc,rfl⟩:=hp.len
 have HR:=zh hR;have HC:=zh hc;have HP:=zh hp;have HCAP:=zh hcap
 clear hR hc hp hcap
 go_enter Tryz.func114,Tryz.ntmps114
 have hb1:Below w.heap.size w (w.alloc (.cells #[.int .i64 s.index,.slice ca s.chains.length cc,.slice pa s.path.length pc] 70)):=zb
 have ha1:At (w.alloc (.cells #[.int .i64 s.index,.slice ca s.chains.length cc,.slice pa s.path.length pc] 70)) w.heap.size 70 #[.int .i64 s.index,.slice ca s.chains.length cc,.slice pa s.path.length pc]:=At.new w _ _
 have hlw:w.heap.size<(w.alloc (.cells #[.int .i64 s.index,.slice ca s.chains.length cc,.slice pa s.path.length pc] 70)).heap.size:=by simp
 have HC1:=zh (HC.out.below hb1);have HP1:=zh (HP.out.below hb1)
 have HB1:=zh hb1;have HA1:=zh ha1
 clear hb1 ha1
 obtain⟨c0,c1,c2⟩:=HA1.out.c3
 go_wp2_with fail
 generalize w.alloc (.cells #[.int .i64 s.index,.slice ca s.chains.length cc,.slice pa s.path.length pc] 70)=w1 at*
 refine(Ea pub w1).mono ?_
 rintro e w2 ⟨rfl,rfl⟩
 cases vM:Sig.Bn pub with
 | false =>
   have hx:R=false:=by rw[HR.out,vM];rfl
   have HX:=zh hx;clear hx vM
   go_wp2
   go_ret
   exact⟨by rw[HX.out];rfl,HB1.out⟩
 | true=>
 have h33:pub.size=33:=of_decide_eq_true (Bool.and_eq_true_iff.1 vM).1
 have h6' : (pub.get! 32).toNat<=6:=of_decide_eq_true (Bool.and_eq_true_iff.1 vM).2
 have h32:32<pub.size:=by omega
 have hg:pub.get! 32=pub[32]:=getElem!_pos pub.data 32 h32
 have h6:pub[32].toNat<=6:=hg ▸ h6'
 rw[vM,hg] at HR
 obtain⟨N,hN⟩:∃ N:Nat,N=2^pub[32].toNat:=⟨_,rfl⟩
 have zah:N<=64:=by
  rw[hN]
  exact Nat.le_trans (Nat.pow_le_pow_right (by omega) h6) (by decide)
 have hN0:0<N:=by rw[hN];exact Nat.two_pow_pos _
 have hsh:wrap64 ((2:Int)^pub[32].toNat)=(N:Int):=by
  have:((2:Int)^pub[32].toNat)=((2^pub[32].toNat:Nat):Int):=(Int.natCast_pow 2 _).symm
  rw[this,<- hN]
  unfold wrap64
  omega
 have hR2:R=(decide (0<=s.index)&&decide (s.index<(N:Int))&&decide (s.chains.length=67)&&s.chains.all Sig.digest&&Sig.included (Sig.Jy (Sig.ends s.index.toNat m s.chains)) s.index N s.path (pub.extract 0 32)):=by
  have:((2:Int)^pub[32].toNat)=(N:Int):=by rw[hN];exact(Int.natCast_pow 2 _).symm
  rw[HR.out,this]
  simp
 have HR2:=zh hR2;have HSH:=zh hsh
 clear hR2 vM hN hsh hg h6'
 by_cases i3:s.chains.length=67
 case neg=>
  have e3:((s.chains.length:Int) != 67)=true:=by rw[bne_iff_ne];omega
  have hx:R=false:=by rw[HR2.out,decide_eq_false i3];simp
  have HX:=zh hx;clear hx
  go_wp2
  go_ret
  exact⟨by rw[HX.out];rfl,HB1.out⟩
 have e3:((s.chains.length:Int) != 67)=false:=by rw[bne_eq_false_iff_eq];omega
 have I3:=zh i3;clear i3
 go_wp2_with fail
 refine(Ri _ s.chains w2 HC1.out hl).mono ?_
 rintro e w3 ⟨rfl,rfl⟩
 rw[aG]
 cases hall:s.chains.all Sig.digest with
 | false =>
   have hx:R=false:=by rw[HR2.out,hall];simp
   have HX:=zh hx;clear hx hall
   go_wp2
   go_ret
   exact⟨by rw[HX.out];rfl,HB1.out⟩
 | true=>
 have Pk:∀ x∈s.chains,x.size=32:=fun x hx=>of_decide_eq_true (List.all_eq_true.1 hall x hx)
 have hR3:R=(decide (0<=s.index)&&decide (s.index<(N:Int))&&Sig.included (Sig.Jy (Sig.ends s.index.toNat m s.chains)) s.index N s.path (pub.extract 0 32)):=by
  rw[HR2.out,hall,decide_eq_true I3.out]
  simp
 have HR3:=zh hR3;have oF:=zh Pk
 clear hR3 hall Pk HR HR2
 go_upto_region 4 with fail
 rw[HSH.out]
 by_cases i1:s.index<0
 ·have e1:decide (s.index<0)=true:=decide_eq_true i1
  have hx:R=false:=by rw[HR3.out,zf];rfl
  have HX:=zh hx;clear hx
  go_wp2
  go_ret
  exact⟨by rw[HX.out];rfl,HB1.out⟩
 have e1:decide (s.index<0)=false:=decide_eq_false i1
 by_cases i2:(N:Int)<=s.index
 ·have e2:decide ((N:Int)<=s.index)=true:=decide_eq_true i2
  have hx:R=false:=by rw[HR3.out,decide_eq_false (p:=s.index<(N:Int)) (by omega)];simp
  have HX:=zh hx;clear hx
  go_wp2
  go_ret
  exact⟨by rw[HX.out];rfl,HB1.out⟩
 have e2:decide ((N:Int)<=s.index)=false:=decide_eq_false i2
 obtain⟨I,hI⟩:∃ I:Nat,s.index=I:=⟨s.index.toNat,by omega⟩
 have hR4:R=Sig.included (Sig.Jy (Sig.ends I m s.chains)) (I:Int) N s.path (pub.extract 0 32):=by
  rw[HR3.out,decide_eq_true (p:=0<=s.index) (by omega),decide_eq_true (p:=s.index<(N:Int)) (by omega),hI]
  simp
 have HR4:=zh hR4;clear hR4 HR3
 rw[hI] at e1 e2 c0 HA1 ⊢
 have hIN:I<64:=by omega
 have e3' : decide (N<=I)=false:=zf
 clear hI i1 i2 e1 e2
 go_wp2_with fail
 refine(Tv m w3 hm).mono ?_
 rintro e w4 ⟨dv,rfl,hdo,hb4⟩
 have HB4:=zh (HB1.out.trans (hb4.mono HB1.out.size));have HD4:=zh hdo
 have HA4:=zh (HA1.out.below hb4 HA1.out.lt);have HC4:=zh (HC1.out.below hb4);have HP4:=zh (HP1.out.below hb4)
 obtain⟨g,zbk,hdv,hdc⟩:=Ct hdo (by omega)
 have HDC:=zh hdc
 have hgl:g<w4.heap.size:=by
  obtain⟨cur,hc⟩:=Db hdo (g:=g) (by rw[hdv];rfl)
  exact At.lt hc
 subst hdv
 clear hb4 hdo hdc c0 c1 c2 HA1 HC1 HP1 HB1
 obtain⟨F,hF⟩:∃ F:Nat->ByteArray,F=fun k=>Cod.cat ((Sig.ends I m s.chains).take k):=⟨_,rfl⟩
 have hEl:(Sig.ends I m s.chains).length=67:=by unfold Sig.ends;rw[List.length_map,List.length_range]
 have hEz:∀ x∈Sig.ends I m s.chains,x.size=32:=by
  intro x hx
  unfold Sig.ends at hx
  obtain⟨c,hc,rfl⟩:=List.mem_map.1 hx
  have hc:=List.mem_range.1 hc
  refine Sig.Gx _ _ _ _ _ ?_
  rw[List.getD_eq_getElem?_getD,List.getElem?_eq_getElem (by have:=I3.out;omega)]
  exact oF.out _ (List.getElem_mem _)
 have hFz:∀ k,k<=67->(F k).size=32*k:=fun k hk=>by
  rw[hF]
  show(Cod.cat _).size=_
  rw[Rp _ (fun z hz=>hEz z (List.mem_of_mem_take hz)),List.length_take,hEl,Nat.min_eq_left hk]
 have hFs:∀ k,k<67->F (k+1)=F k++Sig.chain I k ((Sig.digits m).getD k 0) (15-(Sig.digits m).getD k 0) (s.chains.getD k ⟨#[]⟩):=fun k hk=>by
  rw[hF]
  show Cod.cat _=Cod.cat _++_
  rw[iw _ _ _ _ hk,Gy]
 have hF0:F 0=⟨#[]⟩:=by rw[hF];rfl
 have hR5:R=Sig.included (Sha.sha (Sig.b1 0++F 67)) (I:Int) N s.path (pub.extract 0 32):=by
  rw[HR4.out,hF]
  show _=Sig.included (Sha.sha (Sig.b1 0++Cod.cat (List.take 67 (Sig.ends I m s.chains)))) _ _ _ _
  rw[List.take_of_length_le (by omega)]
  rfl
 have HFZ:=zh hFz;have HFS:=zh hFs;have HF0:=zh hF0;have HR5:=zh hR5
 clear hF hEl hEz hFz hFs hF0 hR5 HR4
 go_wp2
 go_loopw [9,10] (fun x i wr=>∃ k:Nat,k<=67/\i=.int .i64 k/\x=.string (F k)/\Below w4.heap.size w4 wr) (fun _ i _=>67-(intOf i).toNat)
 case atStart=>exact⟨0,by omega,rfl,by rw[HF0.out],Below.refl _ _⟩
 case round=>
  obtain⟨k,hk,rfl,rfl,hbr⟩:=hrel
  have HBR:=zh hbr
  have hat:=HA4.out.below hbr HA4.out.lt
  obtain⟨c0,c1,c2⟩:=hat.c3
  clear hat
  by_cases hlt:k<67
  ·have dk:decide ((k:Int)<67)=true:=by simp;omega
   have hdl:k<(Sig.digits m).length:=by rw[Sig.QM];omega
   have hd0:w4.cell? ⟨g,k,none⟩=some (.int .i64 (((Sig.digits m).getD k 0:Nat):Int)):=HDC.out k _ (by unfold Ii;rw[List.getElem?_map,List.getElem?_eq_getElem hdl,List.getD_eq_getElem?_getD,List.getElem?_eq_getElem hdl];rfl)
   have hd:wr.cell? ⟨g,k,none⟩=some (.int .i64 (((Sig.digits m).getD k 0:Nat):Int)):=(hbr.cell (p:=⟨g,k,none⟩) hgl).trans hd0
   have vN:=Sig.QN m k
   have hkl:k<s.chains.length:=by have:=I3.out;omega
   have hcs:=HC4.out.below hbr
   obtain⟨cb,co,hca⟩:=hcs.addrOf hkl
   subst hca
   have hcell:=hcs.cellAt hkl
   have hFs:=HFS.out k hlt
   have hxz:(s.chains.getD k ⟨#[]⟩).size=32:=by
    rw[List.getD_eq_getElem?_getD,List.getElem?_eq_getElem hkl]
    exact oF.out _ (List.getElem_mem _)
   obtain⟨d,hdd⟩:∃ d,d=(Sig.digits m).getD k 0:=⟨_,rfl⟩
   obtain⟨x,hx⟩:∃ x,x=s.chains.getD k ⟨#[]⟩:=⟨_,rfl⟩
   rw[<- hdd] at hd vN hFs
   rw[<- hx] at hcell hFs hxz
   have HFK:=zh hFs
   have hfz:=HFZ.out k hk
   clear hFs hd0 hdd hx hcs hdl
   go_wp2
   refine Lex.zl ?_
   go_wp2_with fail
   refine(show Calls Tryz.prog 154 #[.int .i64 I,.int .i64 k,.int .i64 d,.int .i64 15,.string x] wr.drew _ from Pf I k d (15-d) 15 x wr.drew (by omega) (by omega) (by omega) (by omega) (by omega)).mono ?_
   rintro e w5 ⟨rfl,hb5⟩
   have TF : Below w4.heap.size w4 w5:=hbr.trans (((Below.refl wr.heap.size wr).drew.trans hb5).mono hbr.size)
   have hyz:=Sig.Gx I k d (15-d) x hxz
   obtain⟨y,hy⟩:∃ y,y=Sig.chain I k d (15-d) x:=⟨_,rfl⟩
   rw[<- hy] at hyz HFK ⊢
   have HB5:=zh TF
   clear hb5 TF hy hbr
   go_wp2
   refine Lex.ze ?_
   go_wp2
   exact⟨⟨k+1,by omega,by go_num,by rw[HFK.out],HB5.out⟩,by simp[intOf];omega⟩
  ·obtain rfl:k=67:=by omega
   have zeV:w.heap.size<w4.heap.size:=HA4.out.lt
   have hlr:=hbr.size
   have hfz:=HFZ.out 67 (by omega)
   have hp:=HP4.out.below hbr
   have HPR:=zh hp
   clear hp hbr
   go_wp2
   refine Lex.zn (fun j=>j=w.heap.size) [3,6] 9 [2] ?_
   simp only[Lex.Bp,zd]
   go_wp2_with fail
   refine(Yb (F 67) wr.drew (by omega)).mono ?_
   rintro e w5 ⟨rfl,hb5⟩
   have TF : Below wr.heap.size wr w5:=(Below.refl wr.heap.size wr).drew.trans hb5
   have q0:=(TF.cell (p:=⟨w.heap.size,0,none⟩) (by show w.heap.size<wr.heap.size;omega)).trans c0
   have q2:=(TF.cell (p:=⟨w.heap.size,2,none⟩) (by show w.heap.size<wr.heap.size;omega)).trans c2
   have hsm:∀ j,j=w.heap.size->w5.heap[j]? = wr.drew.heap[j]? :=fun j hj=>TF.block j (by omega)
   have hi:=zbJ (Sha.sha (Sig.b1 0++F 67)) (I:Int) N _ s.path (pub.extract 0 32) w5 (HPR.out.below TF) HCAP.out hpl
   rw[<- HR5.out] at hi
   have HI:=zh hi;have HB5:=zh TF;have HSM:=zh hsm
   clear hb5 TF hi hsm
   generalize Sha.sha (Sig.b1 0++F 67)=L at*
   go_wp2
   refine Lex.Mid.intro (fun j hj _=>HSM.out j hj) ?_
   go_wp2_with fail
   refine HI.out.mono ?_
   rintro e w6 ⟨rfl,hb6⟩
   have HB6:=zh (HB4.out.trans ((HBR.out.trans ((HB5.out.trans (hb6.mono HB5.out.size)).mono HBR.out.size)).mono HB4.out.size));clear hb6
   go_wp2
   refine Lex.zk ⟨⟨rfl,zi c0⟩,⟨rfl,zi c2⟩,trivial⟩ ?_
   go_wp2
   go_ret
   exact⟨rfl,HB6.out⟩
theorem zc9 (x s:List UInt8):x.isPrefixOf s=true↔x.length<=s.length/\s.take x.length=x:=by
 rw[List.isPrefixOf_iff_prefix,List.prefix_iff_eq_take]
 constructor
 ·intro h
  have hl:=congrArg List.length h
  rw[List.length_take] at hl
  exact⟨by omega,h.symm⟩
 ·rintro⟨_,h⟩
  exact h.symm
theorem zce {α : Type}{l:List α}{p : α -> Bool}{j:Nat}(h:j<l.length)(h1:(l.take j).any p=false)(h2:p l[j]=false):(l.take (j+1)).any p=false:=by
 rw[List.take_succ_eq_append_getElem h,List.any_append,h1]
 simp[h2]
theorem zbV (s p:ByteArray)(w:World)(hs:s.size<=140737488355328)(hp:p.size<=140737488355000):Calls Tryz.prog 71 #[.string s,.string p] w fun e w' => e=.returned (.bool (Own.belongs s p))/\w' = w:=by
 obtain⟨R,hR⟩:∃ R,R=Own.belongs s p:=⟨_,rfl⟩
 rw[<- hR]
 unfold Own.belongs at hR
 have HR:=zh hR;clear hR
 go_enter Tryz.func71,Tryz.ntmps71
 by_cases h:s=p
 ·have d:(s.toList==p.toList)=true:=by rw[bytes_beq];exact decide_eq_true h
  have e:R=true:=by rw[HR.out,decide_eq_true h];rfl
  have HE:=zh e;clear e
  go_wp2
  go_ret
  exact⟨by rw[HE.out];rfl,rfl⟩
 have d:(s.toList==p.toList)=false:=by rw[bytes_beq];exact decide_eq_false h
 have l1:s.data.toList.length=s.size:=by rw[Array.length_toList];rfl
 have l2:p.data.toList.length=p.size:=by rw[Array.length_toList];rfl
 have l3:(p.data.toList++[47]).length=p.size+1:=by rw[List.length_append,l2];rfl
 by_cases hlt:p.size<s.size
 ·have d1:decide ((p.size:Int)<(s.size:Int))=true:=zt
  have d2:decide ((p.size:Int)+1<=(s.size:Int))=true:=zt
  have e:R=((s.extract 0 (p.size+1)).toList==(p++⟨#[47]⟩:ByteArray).toList):=by
   rw[HR.out,decide_eq_false h,Bool.false_or,Bool.eq_iff_iff,zc9,beq_iff_eq,ByteArray.toList_eq,ByteArray.toList_eq,Sha.Cj,l1,l3,Sha.Bq]
   simp
   intro _;omega
  have HE:=zh e
  clear e l1 l2 l3
  have ek:(p.size:Int)+1=((p.size+1:Nat):Int):=by omega
  have HEK:=zh ek;clear ek
  cases hb:((s.extract 0 (p.size+1)).toList==(p++⟨#[47]⟩:ByteArray).toList) with
  | true =>
    go_wp2_with (rw[HEK.out])
    go_ret
    exact⟨by rw[HE.out,hb];rfl,rfl⟩
  | false =>
    go_wp2_with (rw[HEK.out])
    go_ret
    exact⟨by rw[HE.out,hb];rfl,rfl⟩
 ·have d1:decide ((p.size:Int)<(s.size:Int))=false:=zf
  have e:R=false:=by
   rw[HR.out,decide_eq_false h,Bool.false_or,Bool.eq_false_iff]
   intro hh
   have:=((zc9 _ _).1 hh).1
   omega
  have HE:=zh e;clear e l1 l2 l3
  go_wp2
  go_ret
  exact⟨by rw[HE.out];rfl,rfl⟩
theorem Ko (v:Value)(l:List Own.Member)(w:World)(h:Own.Af w v l)(hl:l.length<=140737488355328):
 Calls Tryz.prog 113 #[v] w fun e w' => e=.returned (.bool (Own.Co l))/\Below w.heap.size w w':=by
 obtain⟨R,hR⟩:∃ R,R=Own.Co l:=⟨_,rfl⟩
 rw[<- hR]
 unfold Own.Co at hR
 obtain⟨a,c,rfl⟩:=h.len
 have HR:=zh hR;have HL:=zh h;clear hR h
 go_enter Tryz.func113,Tryz.ntmps113
 go_wp2
 go_loopw [3] (fun i wr=>∃ k:Nat,k<=l.length/\i=.int .i64 k/\Own.Am [] (l.take k)=true/\Below w.heap.size w wr) (fun i _=>l.length-(intOf i).toNat)
 case atStart=>exact⟨0,by omega,rfl,rfl,Below.refl _ _⟩
 case round=>
  obtain⟨k,hk,rfl,hok,hb⟩:=hrel
  have HB:=zh hb
  by_cases hlt:k<l.length
  case neg=>
   have hke:k=l.length:=by omega
   have dk:decide ((k:Int)<l.length)=false:=zf
   have e:R=(decide (1<=(l.length:Int))&&decide ((l.length:Int)<=8)):=by
    rw[hke,List.take_length] at hok
    rw[HR.out,hok,Bool.and_true,show decide (1<=l.length)=decide (1<=(l.length:Int)) from decide_eq_decide.2 (by omega),show decide (l.length<=8)=decide ((l.length:Int)<=8) from decide_eq_decide.2 (by omega)]
   have HE:=zh e;clear e hok hb hke
   by_cases h1:1<=(l.length:Int)
   ·have d1:decide (1<=(l.length:Int))=true:=decide_eq_true h1
    have d1' : decide (1<=l.length)=true:=zt
    go_wp2
    go_ret
    exact⟨by rw[HE.out,d1];rfl,HB.out⟩
   ·have d1:decide (1<=(l.length:Int))=false:=decide_eq_false h1
    have d1' : decide (1<=l.length)=false:=zf
    go_wp2
    go_ret
    exact⟨by rw[HE.out,d1];rfl,HB.out⟩
  have dk:decide ((k:Int)<l.length)=true:=zt
  have hra:R=false\/(Own.CX (l.take k) l[k]=true):=by
   cases hm:Own.CX (l.take k) l[k] with
   | true=>exact .inr rfl
   | false=>refine .inl ?_;rw[HR.out,Own.RG l k hlt,hok,hm];simp
  have hra:Own.CX (l.take k) l[k]=false->R=false:=fun hm=>by
   rcases hra with h|h
   ·exact h
   ·rw[hm] at h;cases h
  have htk:Own.Am [] (l.take (k+1))=Own.CX (l.take k) l[k]:=by rw[Own.Oi l k hlt,hok,Bool.true_and]
  have hmo:Own.CX (l.take k) l[k]=(Own.EG l[k].name&&Sig.Bn l[k].pub && !((l.take k).any fun x=>decide (x.pub=l[k].pub))&&(match (l.take k).getLast? with|none=>true|some x=>Own.Aj x.name l[k].name)):=rfl
  have hlk:=HL.out.below hb
  obtain⟨b,o,ha,hbl,c0,c1⟩:=Own.Af.cells hlk hlt
  have JL:∀ j,k=j+1->∃ x:Own.Member,wr.cell? ⟨b,o+j*2,none⟩=some (.string x.name)/\(l.take k).getLast? = some x:=by
   intro j hj
   obtain⟨b',o',ha',_,e0,_⟩:=Own.Af.cells hlk (i:=j) (by omega)
   rw[ha] at ha'
   cases ha'
   have hg:=Own.getLast_take l j (by omega)
   rw[<- hj] at hg
   exact⟨_,e0,hg⟩
  subst ha
  obtain⟨nm,hnm⟩:∃ x,x=l[k].name:=⟨_,rfl⟩
  obtain⟨pb,hpb⟩:∃ x,x=l[k].pub:=⟨_,rfl⟩
  rw[<- hnm,<- hpb] at hmo
  rw[<- hnm] at c0
  rw[<- hpb] at c1
  rw[hmo] at hra htk
  have HPB:=zh hpb.symm
  have HRA:=zh hra;have HTK:=zh htk;have RH:=zh JL
  clear hra htk hmo JL hnm hpb hok hlk hb hbl
  by_cases h1:(nm.size:Int)<1
  ·have d1:decide ((nm.size:Int)<1)=true:=decide_eq_true h1
   have d1' : decide (nm.size<1)=true:=zt
   have hn:Own.EG nm=false:=by unfold Own.EG;rw[zf];rfl
   have e:R=false:=HRA.out (by rw[hn];rfl)
   have HE:=zh e;clear e hn
   go_wp2
   refine Lex.zl ?_
   go_wp2
   refine Lex.ze ?_
   go_wp2
   go_ret
   exact⟨by rw[HE.out];rfl,(HB.out).drew⟩
  have d1:decide ((nm.size:Int)<1)=false:=decide_eq_false h1
  have d1' : decide (nm.size<1)=false:=zf
  by_cases h2:32<(nm.size:Int)
  ·have d2:decide (32<(nm.size:Int))=true:=decide_eq_true h2
   have d2' : decide (32<nm.size)=true:=zt
   have hn:Own.EG nm=false:=by unfold Own.EG;rw[decide_eq_false (show ¬ nm.size<=32 by omega),Bool.and_false]
   have e:R=false:=HRA.out (by rw[hn];rfl)
   have HE:=zh e;clear e hn
   go_wp2
   refine Lex.zl ?_
   go_wp2
   refine Lex.ze ?_
   go_wp2
   go_ret
   exact⟨by rw[HE.out];rfl,(HB.out).drew⟩
  have d2:decide (32<(nm.size:Int))=false:=decide_eq_false h2
  have d2' : decide (32<nm.size)=false:=zf
  have hn:Own.EG nm=true:=by unfold Own.EG;rw[decide_eq_true (show 1<=nm.size by omega),decide_eq_true (show nm.size<=32 by omega)];rfl
  have hra:=HRA.out;have htk:=HTK.out
  rw[hn,Bool.true_and] at hra htk
  clear HRA HTK hn
  cases hp:Sig.Bn pb with
  | false =>
    have e:R=false:=hra (by rw[hp];rfl)
    have HE:=zh e;clear e hra htk
    go_wp2
    refine Lex.zl ?_
    go_wp2_with fail
    refine(Ea pb _).mono ?_
    rintro e2 w2 ⟨rfl,rfl⟩
    rw[hp]
    go_wp2
    refine Lex.ze ?_
    go_wp2
    go_ret
    exact⟨by rw[HE.out];rfl,(HB.out).drew⟩
  | true=>
  rw[hp,Bool.true_and] at hra htk
  rcases Nat.eq_zero_or_pos k with hk0|hkp
  ·have hl0:(l.take k).getLast? = none:=by rw[hk0];rfl
   rw[hl0] at hra htk
   simp only[Bool.and_true] at hra htk
   have HRA:=zh hra;have HTK:=zh htk
   have dz:decide ((0:Int)<(k:Int))=false:=zf
   have dz' : decide (0<k)=false:=zf
   have HK0:=zh hk0
   have HBD:=zh HB.out.drew
   clear hl0 hra htk hk0
   go_wp2
   refine Lex.zl ?_
   go_wp2_with fail
   refine(Ea pb _).mono ?_
   rintro e2 w2 ⟨rfl,rfl⟩
   rw[hp]
   go_wp2
   refine Lex.ze ?_
   go_wp2_with fail
   clear c0 c1 hp
   go_loopw [4] (fun q wr=>∃ j:Nat,j<=k/\q=.int .i64 j/\((l.take k).take j).any (fun x=>decide (x.pub=pb))=false/\Below w.heap.size w wr) (fun q _=>k-(intOf q).toNat)
   case atStart=>exact⟨0,by omega,rfl,rfl,HBD.out⟩
   case round=>
    obtain⟨j,hj,rfl,hno,hb⟩:=hrel
    have HB3:=zh hb
    have HNO:=zh hno
    by_cases hjl:j<k
    case neg=>
     have hje:j=k:=by omega
     have dj:decide ((j:Int)<(k:Int))=false:=zf
     have htl:((l.take k).take j)=l.take k:=by rw[hje,List.take_take,Nat.min_self]
     have hok:Own.Am [] (l.take (k+1))=true:=by rw[htl] at hno;rw[HTK.out,hno];rfl
     have zdW:=zh hok;clear hok hno htl hje hb
     go_wp2
     exact⟨⟨k+1,by omega,by go_num,zdW.out,HB3.out⟩,by simp[intOf];omega⟩
    have dj:decide ((j:Int)<(k:Int))=true:=zt
    obtain⟨b2,o2,ha2,zb6,_,f1⟩:=Own.Af.cells (HL.out.below hb) (show j<l.length by omega)
    obtain⟨b3,o3,ha3,zdX,_,g1⟩:=Own.Af.cells (HL.out.below hb) hlt
    cases ha2;cases ha3
    rw[HPB.out] at g1
    have hjt:j<(l.take k).length:=by rw[List.length_take];omega
    have hjg:(l.take k)[j]=l[j]:=List.getElem_take
    obtain⟨pj,hpj⟩:∃ x,x=l[j].pub:=⟨_,rfl⟩
    rw[<- hpj] at f1
    have hbeq:(pj.toList==pb.toList)=decide ((l.take k)[j].pub=pb):=by rw[bytes_beq,hjg,hpj]
    have HBE:=zh hbeq;have HJT:=zh hjt
    clear hbeq hjg hpj hno hb zb6 zdX
    cases hc:(pj.toList==pb.toList) with
    | true =>
      have hany:(l.take k).any (fun x=>decide (x.pub=pb))=true:=List.any_eq_true.2 ⟨_,List.getElem_mem HJT.out,by rw[<- HBE.out];exact hc⟩
      have e:R=false:=HRA.out (by rw[hany];rfl)
      have HE:=zh e;clear e hany
      go_wp2
      refine Lex.zl ?_
      go_wp2
      refine Lex.ze ?_
      go_wp2
      go_ret
      exact⟨by rw[HE.out];rfl,(HB3.out).drew⟩
    | false =>
      have hn2:=zce (p:=fun x=>decide (x.pub=pb)) HJT.out HNO.out (by rw[<- HBE.out];exact hc)
      have HN2:=zh hn2;clear hn2
      go_wp2
      refine Lex.zl ?_
      go_wp2
      refine Lex.ze ?_
      go_wp2
      exact⟨⟨j+1,by omega,by go_num,HN2.out,HB3.out.drew⟩,by simp[intOf];omega⟩
  obtain⟨j0,hj0⟩:∃ j,k=j+1:=⟨k-1,by omega⟩
  obtain⟨x,e0,hx⟩:=RH.out j0 hj0
  rw[hx] at hra htk
  have Ol:(!((l.take k).any fun x=>decide (x.pub=pb))&&Own.Aj x.name nm)=false->R=false:=hra
  have Nh:Own.Am [] (l.take (k+1))=(!((l.take k).any fun x=>decide (x.pub=pb))&&Own.Aj x.name nm):=htk
  unfold Own.Aj at Ol Nh
  have dz:decide ((0:Int)<(k:Int))=true:=zt
  have dz' : decide (0<k)=true:=zt
  have ek:(k:Int)-1=(j0:Int):=by omega
  have hjl:j0<l.length:=by omega
  have HBD:=zh HB.out.drew
  cases hlb:Op.bytesLess x.name.toList nm.toList with
  | false =>
    have e:R=false:=Ol (by rw[hlb,Bool.and_false])
    have HE:=zh e;clear e hra htk Ol Nh hx hj0
    go_wp2
    refine Lex.zl ?_
    go_wp2_with fail
    refine(Ea pb _).mono ?_
    rintro e2 w2 ⟨rfl,rfl⟩
    rw[hp]
    go_wp2
    refine Lex.ze ?_
    go_wp2
    go_ret
    exact⟨by rw[HE.out];rfl,(HB.out).drew⟩
  | true =>
    rw[hlb,Bool.and_true] at Nh Ol
    have HTK:=zh Nh;have HRA:=zh Ol
    clear hra htk Ol Nh hx
    have HJ0:=zh hj0;clear hj0
    go_wp2
    refine Lex.zl ?_
    go_wp2_with fail
    refine(Ea pb _).mono ?_
    rintro e2 w2 ⟨rfl,rfl⟩
    rw[hp]
    go_wp2
    refine Lex.ze ?_
    go_wp2_with fail
    clear c0 c1 e0 hp hlb ek
    go_loopw [4] (fun q wr=>∃ j:Nat,j<=k/\q=.int .i64 j/\((l.take k).take j).any (fun x=>decide (x.pub=pb))=false/\Below w.heap.size w wr) (fun q _=>k-(intOf q).toNat)
    case atStart=>exact⟨0,by omega,rfl,rfl,HBD.out⟩
    case round=>
     obtain⟨j,hj,rfl,hno,hb⟩:=hrel
     have HB3:=zh hb
     have HNO:=zh hno
     by_cases hjl:j<k
     case neg=>
      have hje:j=k:=by omega
      have dj:decide ((j:Int)<(k:Int))=false:=zf
      have htl:((l.take k).take j)=l.take k:=by rw[hje,List.take_take,Nat.min_self]
      have hok:Own.Am [] (l.take (k+1))=true:=by rw[htl] at hno;rw[HTK.out,hno];rfl
      have zdW:=zh hok;clear hok hno htl hje hb
      go_wp2
      exact⟨⟨k+1,by omega,by go_num,zdW.out,HB3.out⟩,by simp[intOf];omega⟩
     have dj:decide ((j:Int)<(k:Int))=true:=zt
     obtain⟨b2,o2,ha2,zb6,_,f1⟩:=Own.Af.cells (HL.out.below hb) (show j<l.length by omega)
     obtain⟨b3,o3,ha3,zdX,_,g1⟩:=Own.Af.cells (HL.out.below hb) hlt
     cases ha2;cases ha3
     rw[HPB.out] at g1
     have hjt:j<(l.take k).length:=by rw[List.length_take];omega
     have hjg:(l.take k)[j]=l[j]:=List.getElem_take
     obtain⟨pj,hpj⟩:∃ x,x=l[j].pub:=⟨_,rfl⟩
     rw[<- hpj] at f1
     have hbeq:(pj.toList==pb.toList)=decide ((l.take k)[j].pub=pb):=by rw[bytes_beq,hjg,hpj]
     have HBE:=zh hbeq;have HJT:=zh hjt
     clear hbeq hjg hpj hno hb zb6 zdX
     cases hc:(pj.toList==pb.toList) with
     | true =>
       have hany:(l.take k).any (fun x=>decide (x.pub=pb))=true:=List.any_eq_true.2 ⟨_,List.getElem_mem HJT.out,by rw[<- HBE.out];exact hc⟩
       have e:R=false:=HRA.out (by rw[hany];rfl)
       have HE:=zh e;clear e hany
       go_wp2
       refine Lex.zl ?_
       go_wp2
       refine Lex.ze ?_
       go_wp2
       go_ret
       exact⟨by rw[HE.out];rfl,(HB3.out).drew⟩
     | false =>
       have hn2:=zce (p:=fun x=>decide (x.pub=pb)) HJT.out HNO.out (by rw[<- HBE.out];exact hc)
       have HN2:=zh hn2;clear hn2
       go_wp2
       refine Lex.zl ?_
       go_wp2
       refine Lex.ze ?_
       go_wp2
       exact⟨⟨j+1,by omega,by go_num,HN2.out,HB3.out.drew⟩,by simp[intOf];omega⟩
namespace Own
def Idx {α : Type}(p : α -> Bool)(l:List α)(i:Int):Prop:=(i = -1/\l.find? p=none/\∀ x∈l,p x=false)\/∃ j:Nat,∃ h:j<l.length,i=(j:Int)/\l.find? p=some l[j]/\p l[j]=true/\∀ k (hk:k<j),p l[k]=false
theorem Idx.hit {α : Type}{p : α -> Bool}{l:List α}{k:Nat}(hk:k<l.length)(h:p l[k]=true)(hn:∀ j (hj:j<k),p l[j]=false):Idx p l (k:Int):=by
 refine .inr ⟨k,hk,rfl,?_,h,hn⟩
 rw[List.find?_eq_some_iff_getElem]
 exact⟨h,k,hk,rfl,fun j hj=>by rw[hn j hj];rfl⟩
theorem Idx.miss {α : Type}{p : α -> Bool}{l:List α}(hn:∀ j (hj:j<l.length),p l[j]=false):Idx p l (-1):=by
 have:∀ x∈l,p x=false:=fun x hx=>by
  obtain⟨j,hj,rfl⟩:=List.getElem_of_mem hx
  exact hn j hj
 exact .inl ⟨rfl,List.find?_eq_none.2 fun x hx=>by rw[this x hx];simp,this⟩
theorem Idx.any {α : Type}{p : α -> Bool}{l:List α}{i:Int}(h:Idx p l i):decide (0<=i)=l.any p:=by
 rcases h with ⟨rfl,_,h⟩|⟨j,hj,rfl,_,h,_⟩
 ·rw[Bool.eq_iff_iff,List.any_eq_true]
  constructor
  ·intro h;simp at h
  ·rintro⟨x,hx,hp⟩;rw[h x hx] at hp;cases hp
 ·rw[Bool.eq_iff_iff,List.any_eq_true]
  exact⟨fun _=>⟨_,List.getElem_mem hj,h⟩,fun _=>zt⟩
end Own
theorem KV (g:Nat)(lb:Array Value)(eg:∀ args w,(callFunc g args).run Tryz.prog w=.ok (.enter g args) w)(p:Own.Member->Bool)(v:Value)(l:List Own.Member)(w:World)(h:Own.Af w v l)(hl:l.length<=140737488355328)
 (hp:∀ (W:World) (x:Own.Member),Below w.heap.size w W->Calls Tryz.prog g (#[.agg #[.string x.name,.string x.pub]]++lb) W fun e w' => e=.returned (.bool (p x))/\Below W.heap.size W w'):
 Calls Tryz.prog 100 #[v,.func (.func g) #[] lb] w fun e w' => (∃ i,e=.returned (.int .i64 i)/\Own.Idx p l i)/\Below w.heap.size w w':=by
 obtain⟨a,c,rfl⟩:=h.len
 have HL:=zh h;have HP:=zh hp;clear h hp
 go_enter Tryz.func100,Tryz.ntmps100
 go_wp2
 go_loopw [8] (fun i wr=>∃ k:Nat,∃ hk:k<=l.length,i=.int .i64 k/\(∀ j (hj:j<k),p (l[j]'(by omega))=false)/\Below w.heap.size w wr) (fun i _=>l.length-(intOf i).toNat)
 case atStart=>exact⟨0,by omega,rfl,(fun j hj=>absurd hj (by omega)),Below.refl _ _⟩
 case round=>
  obtain⟨k,hk,rfl,hn,hb⟩:=hrel
  have HBW:=zh hb;have HN:=zh hn
  by_cases hlt:k<l.length
  case neg=>
   have hke:k=l.length:=by omega
   have dk:decide ((k:Int)<l.length)=false:=zf
   have hix:=Own.Idx.miss (p:=p) (l:=l) (fun j hj=>hn j (by omega))
   have HIX:=zh hix
   clear hix hke hb hn
   go_wp2
   go_ret
   exact⟨⟨_,rfl,HIX.out⟩,HBW.out⟩
  have dk:decide ((k:Int)<l.length)=true:=zt
  obtain⟨b,o,ha,hbl,e0,e1⟩:=Own.Af.cells (HL.out.below hb) hlt
  subst ha
  have hcall:=HP.out wr l[k] hb
  obtain⟨nm,hnm⟩:∃ x,x=l[k].name:=⟨_,rfl⟩
  obtain⟨pb,hpb⟩:∃ x,x=l[k].pub:=⟨_,rfl⟩
  rw[<- hnm] at e0 hcall
  rw[<- hpb] at e1 hcall
  clear hb hn hnm hpb
  cases hq:p l[k] with
  | true =>
    rw[hq] at hcall
    have hix:=Own.Idx.hit hlt hq (HN.out)
    have HIX:=zh hix
    clear hix hq
    go_wp2_with (go_at_fn g;refine hcall.mono ?_;rintro e w' ⟨rfl,hb'⟩)
    go_ret
    exact⟨⟨_,rfl,HIX.out⟩,HBW.out.trans (hb'.mono HBW.out.size)⟩
  | false =>
    rw[hq] at hcall
    have hn2:∀ j (hj:j<k+1),p (l[j]'(by omega))=false:=fun j hj=>by
     by_cases e:j=k
     ·subst e;exact hq
     ·exact HN.out j (by omega)
    have HN2:=zh hn2
    clear hn2 hq
    go_wp2_with (go_at_fn g;refine hcall.mono ?_;rintro e w' ⟨rfl,hb'⟩)
    go_round
    case measure=>simp[intOf];omega
    case rel=>exact⟨k+1,by omega,by go_num,HN2.out,HBW.out.trans (hb'.mono HBW.out.size)⟩
theorem dO (v:Value)(l:List Own.Member)(nm:ByteArray)(w:World)(h:Own.Af w v l)(hl:l.length<=140737488355328):
 Calls Tryz.prog 61 #[v,.string nm] w fun e w' => (∃ i,e=.returned (.int .i64 i)/\Own.Idx (fun m:Own.Member=>decide (m.name=nm)) l i)/\Below w.heap.size w w':=by
 obtain⟨a,c,rfl⟩:=h.len
 have HL:=zh h;clear h
 go_enter Tryz.func61,Tryz.ntmps61
 go_wp2
 go_loopw [5] (fun i wr=>∃ k:Nat,k<=l.length/\i=.int .i64 k/\(∀ j (h:j<l.length),j<k->decide (l[j].name=nm)=false)/\Below w.heap.size w wr) (fun i _=>l.length-(intOf i).toNat)
 case atStart=>exact⟨0,by omega,rfl,(fun j _ h=>absurd h (by omega)),Below.refl _ _⟩
 case round=>
  obtain⟨k,hk,rfl,hno,hb⟩:=hrel
  have HN:=zh hno;have HB:=zh hb
  by_cases hlt:k<l.length
  case neg=>
   have dk:decide ((k:Int)<l.length)=false:=zf
   have hix:=Own.Idx.miss (p:=fun m:Own.Member=>decide (m.name=nm)) (l:=l) (fun j hj=>hno j hj (by omega))
   have HIX:=zh hix;clear hix hno hb
   go_wp2
   go_ret
   exact⟨⟨_,rfl,HIX.out⟩,HB.out⟩
  have dk:decide ((k:Int)<l.length)=true:=zt
  obtain⟨b,o,ha,hbl,c0,c1⟩:=Own.Af.cells (HL.out.below hb) hlt
  subst ha
  have hbq:(l[k].name.toList==nm.toList)=decide (l[k].name=nm):=bytes_beq
  obtain⟨x,hx⟩:∃ x,x=l[k].name:=⟨_,rfl⟩
  rw[<- hx] at c0 hbq
  have HX:=zh hx;have HQ:=zh hbq
  clear hx hbq hno hb c1
  cases hc:(x.toList==nm.toList) with
  | true =>
    have hix:=Own.Idx.hit (p:=fun m:Own.Member=>decide (m.name=nm)) hlt (by show decide (l[k].name=nm)=true;rw[<- HX.out,<- HQ.out];exact hc) (fun j hj=>HN.out j (by omega) hj)
    have HIX:=zh hix;clear hix
    go_wp2
    go_ret
    exact⟨⟨_,rfl,HIX.out⟩,HB.out⟩
  | false =>
    have hn2:∀ j (h:j<l.length),j<k+1->decide (l[j].name=nm)=false:=fun j h hj=>by
     rcases(by omega:j<k\/j=k) with h1|rfl
     ·exact HN.out j h h1
     ·rw[<- HX.out,<- HQ.out];exact hc
    have HN2:=zh hn2;clear hn2
    go_wp2
    exact⟨⟨k+1,by omega,by go_num,HN2.out,HB.out⟩,by simp[intOf];omega⟩
theorem zcA (cnt:Int)(sv v:Value)(l:List Own.KeyUse)(pb:ByteArray)(w:World)(h:Own.Du w v l)(hl:l.length<=140737488355328):
 Calls Tryz.prog 115 #[.agg #[.int .i64 cnt,sv,v],.string pb] w fun e w' => e=.returned (.int .i64 (Own.Bf l pb))/\Below w.heap.size w w':=by
 obtain⟨R,hR⟩:∃ R,R=Own.Bf l pb:=⟨_,rfl⟩
 rw[<- hR]
 unfold Own.Bf at hR
 obtain⟨a,c,rfl⟩:=h.len
 have F1:=zh (show Au w _ [(25,#[.int .i64 cnt,sv,.slice a l.length c])] from((CY.nil w).push 25 #[.int .i64 cnt,sv,.slice a l.length c]).boxes)
 have HR:=zh hR
 have HL:=zh (h.below F1.out.under);clear h hR
 go_enter Tryz.func115,Tryz.ntmps115
 go_upto_region 1 with fail
 generalize w.alloc (.cells #[.int .i64 cnt,sv,.slice a l.length c] 25)=w1 at*
 go_wp2
 go_loopw [5] (fun i wr=>∃ k:Nat,k<=l.length/\i=.int .i64 k/\(∀ j (h:j<l.length),j<k->decide (l[j].pub=pb)=false)/\Below w1.heap.size w1 wr) (fun i _=>l.length-(intOf i).toNat)
 case atStart=>exact⟨0,by omega,rfl,(fun j _ h=>absurd h (by omega)),Below.refl _ _⟩
 case round=>
  obtain⟨k,hk,rfl,hno,hb⟩:=hrel
  have HN:=zh hno
  have F2:=zh (F1.out.step hb)
  have x02:wr.cell? ⟨w.heap.size,2,none⟩=some (.slice a l.length c):=F2.out.cell 0 2 rfl rfl
  by_cases hlt:k<l.length
  case neg=>
   have dk:decide ((k:Int)<l.length)=false:=zf
   have hix:=Own.Idx.miss (p:=fun m:Own.KeyUse=>decide (m.pub=pb)) (l:=l) (fun j hj=>hno j hj (by omega))
   have e:R=0:=by
    rcases hix with ⟨_,h2,_⟩|⟨j,_,h,_⟩
    ·rw[HR.out,h2]
    ·omega
   have HE:=zh e;clear hix hno hb e
   go_wp2
   go_ret
   exact⟨by rw[HE.out];rfl,F2.out.under⟩
  have dk:decide ((k:Int)<l.length)=true:=zt
  obtain⟨b,o,ha,hbl,e0,e1⟩:=Own.Du.cells (HL.out.below hb) hlt
  subst ha
  have hbq:(l[k].pub.toList==pb.toList)=decide (l[k].pub=pb):=bytes_beq
  obtain⟨x,hx⟩:∃ x,x=l[k].pub:=⟨_,rfl⟩
  obtain⟨n,hn⟩:∃ x,x=l[k].next:=⟨_,rfl⟩
  rw[<- hx] at e0 hbq
  rw[<- hn] at e1
  have HX:=zh hx;have HQ:=zh hbq;have HB:=zh hb;have HNX:=zh hn
  clear hx hbq hno hb hn
  cases hc:(x.toList==pb.toList) with
  | true =>
    have hix:=Own.Idx.hit (p:=fun m:Own.KeyUse=>decide (m.pub=pb)) hlt (by show decide (l[k].pub=pb)=true;rw[<- HX.out,<- HQ.out];exact hc) (fun j hj=>HN.out j (by omega) hj)
    have e:R=n:=by
     rcases hix with ⟨h,_,_⟩|⟨j,_,h,h2,_⟩
     ·omega
     ·have:j=k:=by omega
      subst this
      rw[HR.out,h2,HNX.out]
    have HE:=zh e;clear hix e
    go_wp2
    go_ret
    exact⟨by rw[HE.out];rfl,F2.out.under⟩
  | false =>
    have hn2:∀ j (h:j<l.length),j<k+1->decide (l[j].pub=pb)=false:=fun j h hj=>by
     rcases(by omega:j<k\/j=k) with h1|rfl
     ·exact HN.out j h h1
     ·rw[<- HX.out,<- HQ.out];exact hc
    have HN2:=zh hn2;clear hn2
    go_wp2
    exact⟨⟨k+1,by omega,by go_num,HN2.out,HB.out⟩,by simp[intOf];omega⟩
theorem zcU (s:Sig.T)(cv pv:Value)(w:World)(hc:Al w cv s.chains)(hp:Al w pv s.path)(hcc:Eb cv)(hsz:∀ x∈s.chains++s.path,x.size<=140737488355328):
 Calls Tryz.prog 96 #[.agg #[.int .i64 s.index,cv,pv]] w fun e w' => ∃ b,e=.returned (.bool b)/\(b=true->s.chains.length<=80/\s.path.length<=20)/\Below w.heap.size w w':=by
 obtain⟨ca,cc,rfl⟩:=hc.len
 obtain⟨pa,pc,rfl⟩:=hp.len
 obtain⟨_,_,_,he,hcl⟩:=hcc
 cases he
 have HC:=zh hc;have HP:=zh hp;have HSZ:=zh hsz
 clear hc hp hsz
 go_enter Tryz.func96,Tryz.ntmps96
 have hb1:Below w.heap.size w (w.alloc (.cells #[.int .i64 s.index,.slice ca s.chains.length cc,.slice pa s.path.length pc] 70)):=zb
 have ha1:At (w.alloc (.cells #[.int .i64 s.index,.slice ca s.chains.length cc,.slice pa s.path.length pc] 70)) w.heap.size 70 #[.int .i64 s.index,.slice ca s.chains.length cc,.slice pa s.path.length pc]:=At.new w _ _
 have hlw:w.heap.size<(w.alloc (.cells #[.int .i64 s.index,.slice ca s.chains.length cc,.slice pa s.path.length pc] 70)).heap.size:=by simp
 have HC1:=zh (HC.out.below hb1);have HP1:=zh (HP.out.below hb1)
 have HB1:=zh hb1;have HA1:=zh ha1
 clear hb1 ha1
 obtain⟨c0,c1,c2⟩:=HA1.out.c3
 go_wp2_with fail
 generalize w.alloc (.cells #[.int .i64 s.index,.slice ca s.chains.length cc,.slice pa s.path.length pc] 70)=w1 at*
 by_cases h1:s.chains.length<=80
 case neg=>
  have d1:decide (s.chains.length<=80)=false:=decide_eq_false h1
  have d1' : decide ((s.chains.length:Int)<=80)=false:=zf
  go_wp2
  refine Lex.zn (fun j=>j=w.heap.size) [13,15,21] 32 [20,3,1] ?_
  simp only[Lex.Bp,zd]
  go_wp2
  refine Lex.Mid.intro (fun j hj _=>rfl) ?_
  go_wp2
  refine Lex.Mid.intro (fun j hj _=>rfl) ?_
  go_wp2
  refine Lex.Mid.intro (fun j hj _=>rfl) ?_
  go_wp2
  refine Lex.zk ⟨trivial,trivial,trivial,trivial⟩ ?_
  go_wp2
  go_ret
  exact⟨false,rfl,(fun h=>by cases h),HB1.out.drew⟩
 have d1:decide (s.chains.length<=80)=true:=decide_eq_true h1
 have d1' : decide ((s.chains.length:Int)<=80)=true:=zt
 by_cases h2:s.path.length<=20
 case neg=>
  have d2:decide (s.path.length<=20)=false:=decide_eq_false h2
  have d2' : decide ((s.path.length:Int)<=20)=false:=zf
  go_wp2
  refine Lex.zn (fun j=>j=w.heap.size) [13,15,21] 32 [20,3,1] ?_
  simp only[Lex.Bp,zd]
  go_wp2
  refine Lex.Mid.intro (fun j hj _=>rfl) ?_
  go_wp2
  refine Lex.Mid.intro (fun j hj _=>rfl) ?_
  go_wp2
  refine Lex.Mid.intro (fun j hj _=>rfl) ?_
  go_wp2
  refine Lex.zk ⟨trivial,trivial,trivial,trivial⟩ ?_
  go_wp2
  go_ret
  exact⟨false,rfl,(fun h=>by cases h),HB1.out.drew⟩
 have d2:decide (s.path.length<=20)=true:=decide_eq_true h2
 have d2' : decide ((s.path.length:Int)<=20)=true:=zt
 have hmid:s.chains.length/2<=s.chains.length:=by omega
 have hcap2:s.chains.length/2<=cc:=by omega
 have hown0:(w1.drew.alloc (.cells #[] 9)).ownsRow w1.heap.size 9 1 (.slice (some ⟨w1.heap.size,0,none⟩) 0 0) 0 []:=Mr w1.drew 9 1 w1.heap.size (Nat.le_refl _)
 go_wp2
 refine Lex.zn (fun j=>j=w.heap.size) [13,15,21] 32 [20,3,1] ?_
 simp only[Lex.Bp,zd]
 have htk:=HC1.out.qN (c':=cc) hmid
 have htl:(s.chains.take (s.chains.length/2)).length=s.chains.length/2:=by rw[List.length_take];omega
 have zeT:s.chains.length/2<=40:=by omega
 have HTK:=zh htk;have zdU:=zh hown0;have HTL:=zh htl;clear htk hown0 htl
 go_wp2_with (at_builtin;go_must (refine Uz (by rfl) ?_;refine Rh rfl _ _ rfl w1.heap.size 0 _ [] rfl zdU.out (.slice ca (s.chains.length/2) cc) (s.chains.take (s.chains.length/2)) rfl ((HTK.out.below (Below.refl _ _).drew).below zb) (by rw[HTL.out];omega) (by simp) ?_);intro v5 w5 ho5 hg5;rw[Nat.zero_add,HTL.out,List.nil_append] at ho5;obtain⟨va,vm,vc,rfl⟩:=Ac ho5;obtain rfl:=Ba ho5;have hb5:Below w1.heap.size w1 w5:=Bh (((Below.refl w1.heap.size w1).drew).alloc (Nat.le_refl _) _) (by simp) zdU.out hg5;have q2:=(hb5.cell (p:=⟨w.heap.size,2,none⟩) hlw).trans c2;have q1:=(hb5.cell (p:=⟨w.heap.size,1,none⟩) hlw).trans c1;have HO5:=zh ho5;have HB5:=zh hb5;clear ho5 hg5 hb5)
 refine Lex.Mid.intro (fun j hj _=>by rw[hj];exact HB5.out.block _ hlw) ?_
 have hz5:=HB5.out.size
 go_wp2_with (at_builtin;go_must (refine Uz (by rfl) ?_;refine Rh rfl _ _ rfl w1.heap.size _ _ _ rfl HO5.out (.slice pa s.path.length pc) s.path rfl (HP1.out.below HB5.out) (by omega) hz5 ?_);intro v6 w6 ho6 hg6;obtain⟨ua,um,uc,rfl⟩:=Ac ho6;obtain rfl:=Ba ho6;have hb6:Below w1.heap.size w1 w6:=Bh HB5.out hz5 HO5.out hg6;have q2:=(hb6.cell (p:=⟨w.heap.size,2,none⟩) hlw).trans c2;have q1:=(hb6.cell (p:=⟨w.heap.size,1,none⟩) hlw).trans c1;have HO6:=zh ho6;have HB6:=zh hb6;clear ho6 hg6 hb6)
 have iC:∀ j,j=w.heap.size->w6.heap[j]? = w1.drew.heap[j]? :=fun j hj=>by rw[hj];exact HB6.out.block _ hlw
 have hs6:Al w6 (.slice ua (s.chains.length/2+s.path.length) uc) (s.chains.take (s.chains.length/2)++s.path):=Al.own (by
  have:=HO6.out
  rw[<- List.map_append] at this
  have hl:(s.chains.take (s.chains.length/2)++s.path).length=s.chains.length/2+s.path.length:=by rw[List.length_append,HTL.out]
  rw[hl]
  exact this)
 have hf1:=zbT _ _ w6 hs6 (fun x hx=>HSZ.out x (by
  rcases List.mem_append.1 hx with h|h
  ·exact List.mem_append.2 (.inl (List.mem_of_mem_take h))
  ·exact List.mem_append.2 (.inr h))) (by rw[List.length_append,HTL.out];omega)
 have HF1:=zh hf1;have oH:=zh iC
 clear hf1 hs6 iC
 refine Lex.Mid.intro (fun j hj _=>oH.out j hj) ?_
 go_wp2_with fail
 refine HF1.out.mono ?_
 rintro e w7 ⟨rfl,rfl⟩
 generalize zc4 (s.chains.take (s.chains.length/2)++s.path)=b1
 cases b1 with
 | false =>
   go_wp2
   refine Lex.Mid.intro (fun j hj _=>oH.out j hj) ?_
   go_wp2
   refine Lex.zk ⟨⟨rfl,zi c1⟩,⟨rfl,zi c1⟩,⟨rfl,zi c2⟩,trivial⟩ ?_
   go_wp2
   go_ret
   exact⟨false,rfl,(fun h=>by cases h),HB1.out.trans (HB6.out.mono HB1.out.size)⟩
 | true =>
   have hdl:(s.chains.drop (s.chains.length/2)).length=s.chains.length-s.chains.length/2:=List.length_drop ..
   have hdi:((s.chains.length:Int)-((s.chains.length/2:Nat):Int))=((s.chains.length-s.chains.length/2:Nat):Int):=by omega
   have zco:∀ (u:Value),Al w7 u (s.chains.drop (s.chains.length/2))->_:=fun u hu=>zbT u _ w7 hu (fun x hx=>HSZ.out x (List.mem_append.2 (.inl (List.mem_of_mem_drop hx)))) (by rw[hdl];omega)
   have zcp:=zh zco
   have HDL:=zh hdl
   have HC7:=zh (HC1.out.below HB6.out)
   clear zco hdl hdi
   generalize zc4 (s.chains.drop (s.chains.length/2))=b2 at*
   by_cases h0:0<s.chains.length
   ·obtain⟨b,o,rfl⟩:=HC1.out.addrOf h0
    go_wp2
    refine Lex.Mid.intro (fun j hj _=>oH.out j hj) ?_
    go_wp2_with fail
    refine(zcp.out _ (HC7.out.qO rfl)).mono ?_
    rintro e w8 ⟨rfl,rfl⟩
    go_wp2
    refine Lex.zk ⟨⟨rfl,zi c1⟩,⟨rfl,zi c1⟩,⟨rfl,zi c2⟩,trivial⟩ ?_
    go_wp2
    go_ret
    exact⟨_,rfl,(fun _=>⟨h1,h2⟩),HB1.out.trans (HB6.out.mono HB1.out.size)⟩
   ·cases ca with
    | none =>
      go_wp2
      refine Lex.Mid.intro (fun j hj _=>oH.out j hj) ?_
      go_wp2_with fail
      refine(zcp.out _ ⟨_,_,by rw[HDL.out],.inl (by rw[HDL.out];omega)⟩).mono ?_
      rintro e w8 ⟨rfl,rfl⟩
      go_wp2
      refine Lex.zk ⟨⟨rfl,zi c1⟩,⟨rfl,zi c1⟩,⟨rfl,zi c2⟩,trivial⟩ ?_
      go_wp2
      go_ret
      exact⟨_,rfl,(fun _=>⟨h1,h2⟩),HB1.out.trans (HB6.out.mono HB1.out.size)⟩
    | some p =>
      obtain⟨b,o,z⟩:=p
      cases z with
      | none =>
        by_cases hz:cc=s.chains.length/2
        case _=>
         go_wp2
         refine Lex.Mid.intro (fun j hj _=>oH.out j hj) ?_
         go_wp2_with fail
         refine(zcp.out _ ⟨_,_,by rw[HDL.out],.inl (by rw[HDL.out];omega)⟩).mono ?_
         rintro e w8 ⟨rfl,rfl⟩
         go_wp2
         refine Lex.zk ⟨⟨rfl,zi c1⟩,⟨rfl,zi c1⟩,⟨rfl,zi c2⟩,trivial⟩ ?_
         go_wp2
         go_ret
         exact⟨_,rfl,(fun _=>⟨h1,h2⟩),HB1.out.trans (HB6.out.mono HB1.out.size)⟩
        case _=>
         go_wp2
         refine Lex.Mid.intro (fun j hj _=>oH.out j hj) ?_
         go_wp2_with fail
         refine(zcp.out _ ⟨_,_,by rw[HDL.out],.inl (by rw[HDL.out];omega)⟩).mono ?_
         rintro e w8 ⟨rfl,rfl⟩
         go_wp2
         refine Lex.zk ⟨⟨rfl,zi c1⟩,⟨rfl,zi c1⟩,⟨rfl,zi c2⟩,trivial⟩ ?_
         go_wp2
         go_ret
         exact⟨_,rfl,(fun _=>⟨h1,h2⟩),HB1.out.trans (HB6.out.mono HB1.out.size)⟩
      | some z =>
        by_cases hz:cc=s.chains.length/2
        case _=>
         go_wp2
         refine Lex.Mid.intro (fun j hj _=>oH.out j hj) ?_
         go_wp2_with fail
         refine(zcp.out _ ⟨_,_,by rw[HDL.out],.inl (by rw[HDL.out];omega)⟩).mono ?_
         rintro e w8 ⟨rfl,rfl⟩
         go_wp2
         refine Lex.zk ⟨⟨rfl,zi c1⟩,⟨rfl,zi c1⟩,⟨rfl,zi c2⟩,trivial⟩ ?_
         go_wp2
         go_ret
         exact⟨_,rfl,(fun _=>⟨h1,h2⟩),HB1.out.trans (HB6.out.mono HB1.out.size)⟩
        case _=>
         go_wp2
         refine Lex.Mid.intro (fun j hj _=>oH.out j hj) ?_
         go_wp2_with fail
         refine(zcp.out _ ⟨_,_,by rw[HDL.out],.inl (by rw[HDL.out];omega)⟩).mono ?_
         rintro e w8 ⟨rfl,rfl⟩
         go_wp2
         refine Lex.zk ⟨⟨rfl,zi c1⟩,⟨rfl,zi c1⟩,⟨rfl,zi c2⟩,trivial⟩ ?_
         go_wp2
         go_ret
         exact⟨_,rfl,(fun _=>⟨h1,h2⟩),HB1.out.trans (HB6.out.mono HB1.out.size)⟩
section
variable {P:Program} (w:World)
theorem run_append_grow_zeros (t tn ty e:TypeId)(i:TypeInfo)(z:Value)(kn:IntKind)(ht:P.underlying t=some (.slice e))(htn:P.underlying tn=some (.int kn))(hi:P.info? e=some i)(hz:i.zero=some z)
 (b:Addr) (sLen sCap:Nat) (olds:List Value) (hlo:olds.length=sLen*i.size) (holds:∀ j v,olds[j]? = some v->w.cell? (b.add j)=some v)
 (n:Nat) (k:IntKind) (h0:0<n) (hsz:0<i.size) (hg:sCap<sLen+n) (h63:((sLen+n:Nat):Int)<=9223372036854775807) (zbo:n*i.bytes<=281474976710656) (hfit:Builtin.nextslicecap (sLen+n) sCap*i.bytes<=281474976710656):
 (Builtin.append_ #[t,tn] ty #[.slice (some b) sLen sCap,.int k n]).run P w =
   .ok (.slice (some ⟨w.heap.size,0,none⟩) (sLen+n) (grownCap w (sLen+n) sCap e))
    (w.drew.alloc (.cells (olds.toArray++Builtin.zeroCells z.cells n++Builtin.zeroCells z.cells (grownCap w (sLen+n) sCap e-(sLen+n))) e)):=by
 have hn:¬ (sLen+n<=sCap):=by omega
 have hn0:n≠0:=by omega
 have hw:IntKind.i64.wrap (n:Int)=n:=by rw[IntKind.wrap_i64];omega
 have h63' : ¬ (9223372036854775807<((sLen:Int)+(n:Int))):=by omega
 have h48' : ¬ (281474976710656<Builtin.nextslicecap (sLen+n) sCap*i.bytes):=by omega
 have h48i:¬ (281474976710656<(n:Int)*(i.bytes:Int)):=by
  rw[<- Int.natCast_mul]
  omega
 have hneg:¬ ((n:Int)<0):=by omega
 have hns:¬ (n*i.size=0):=Nat.mul_ne_zero hn0 (by omega)
 have hfo:=run_firstCells_some (P:=P) w.drew i.size sLen b sLen sCap olds hlo (by simpa using holds)
 simp[Builtin.append_,run_underlying ht,run_underlying htn,sizeOf,typeInfo,zeroValue,hi,hz,asInt,asIntOf,hw,hn,hn0,hneg,hns,h63',h48',h48i,Question.forced,hfo,newRow,grownCap]
theorem TQ (dT sT ty elem:TypeId)(size g o dLen dCap:Nat)(a:Addr)(sLen sCap:Nat)(cur:Array Value)(t:TypeId)(cs:List Value)
 (hu:P.underlying dT=some (.slice elem)) (hs:(P.info? elem).map (·.size)=some size)
 (hg:w.heap[g]? = some (.cells cur t (0,0))) (hn:cs.length=Nat.min sLen dLen*size)
 (hsrc:∀ j v,cs[j]? = some v->w.cell? (a.add j)=some v) (hfit:o+cs.length<=cur.size) (h1:∀ v∈cs,v.oneCell' = true):
 (Builtin.copy_ #[dT,sT] ty #[.slice (some ⟨g,o,none⟩) dLen dCap,.slice (some a) sLen sCap]).run P w =
   .ok (goInt (Nat.min sLen dLen)) (w.setRow g (cur.toList.take o++cs++cur.toList.drop (o+cs.length)).toArray):=by
 have hl:=run_loadCells_list (P:=P) w a cs hsrc
 have hst:=run_storeCells_at P g o t cs 0 cur w hg (by simpa using hfit) h1
 cases hq:P.info? elem with
 | none=>simp[hq] at hs
 | some i =>
   have hi:i.size=size:=by simpa [hq] using hs
   simp[Builtin.copy_,run_underlying hu,Builtin.lenOf,Builtin.firstCells,sizeOf,typeInfo,hq,hi,<- hn,hl,hst]
end
section
variable {P:Program} {w:World} {ops:Array Oper} {rest:List Oper} {o:Oper} {a:Act} {Q:Exit->Act->World->Prop}
theorem JU {t tn e:TypeId}{size bytes:Nat}{kn:IntKind}(T:Nonempty (Fu P t e size bytes))(htn:P.underlying tn=some (.int kn))(hgd:o.guard=none)(s x:Operand)(ho:o.op=.call { callee:=.builtin .append,args:=#[s,x],argTypes:=#[t,tn] })
 (g i m cap:Nat) (k:IntKind) (xs:List Value) (hs:a.eval s=.slice (some ⟨g,0,none⟩) i cap) (mi:Int) (hmi:mi=(m:Int)) (hx:a.eval x=.int k mi) (hl:xs.length=i*size) (hxs:∀ (j:Nat) (v:Value),xs[j]? = some v->w.cell? ⟨g,j,none⟩=some v)
 (h0:0<m) (hcap:cap<i+m) (hn:i+m<=4000000) (hbs:bytes<=1000)
 (h:∀ (nc:Nat) (w' : World) (zs:List Value),i+m<=nc->nc<=maxLen->At w' w.heap.size e (xs++zs).toArray->(xs++zs).length=nc*size->Below w.heap.size w w' -> wpList P ops Q rest (a.put o.dst (.slice (some ⟨w.heap.size,0,none⟩) (i+m) nc)) w'):
 wpList P ops Q (o::rest) a w:=by
 obtain⟨T⟩:=T
 subst hmi
 have hmul:(i+m)*bytes<=4000000000:=Nat.mul_le_mul hn hbs
 have hmm:m*bytes<=4000000000:=Nat.le_trans (Nat.mul_le_mul_right _ (by omega)) hmul
 have hr:=run_append_grow_zeros (P:=P) w t tn o.type e T.i T.z kn T.under htn T.info T.zero ⟨g,0,none⟩ i cap xs (by rw[T.Rk];exact hl) (fun j v hj=>by
  have hadd:(⟨g,0,none⟩:Addr).add j=⟨g,j,none⟩:=by unfold Addr.add;split<;>simp_all
  rw[hadd];exact hxs j v hj) m k h0 (by rw[T.Rk];exact T.pos) hcap (by omega) (by rw[T.bytes_];omega)
  (growslice_fits (by omega) (by rw[T.bytes_];omega))
 have hge:=grownCap_ge w (i+m) cap e
 have hle:=grownCap_le_maxLen w (i+m) cap e (by unfold maxLen;omega)
 refine Lib.wpList_append_run w hgd s x t tn ho _ _ hs hx _ _ hr ?_
 refine h _ _ ((Builtin.zeroCells T.z.cells m++Builtin.zeroCells T.z.cells (grownCap w (i+m) cap e-(i+m))).toList) hge hle ?_ ?_ ?_
 ·have:=At.new w.drew e (xs.toArray++Builtin.zeroCells T.z.cells m++Builtin.zeroCells T.z.cells (grownCap w (i+m) cap e-(i+m)))
  have e2:(xs++(Builtin.zeroCells T.z.cells m++Builtin.zeroCells T.z.cells (grownCap w (i+m) cap e-(i+m))).toList).toArray=xs.toArray++Builtin.zeroCells T.z.cells m++Builtin.zeroCells T.z.cells (grownCap w (i+m) cap e-(i+m)):=by
   apply Array.ext'
   simp[List.append_assoc]
  rw[e2]
  exact this
 ·simp only[List.length_append,Array.toList_append,Array.length_toList,size_zeroCells,T.qJ,hl,<- Nat.add_mul]
  congr 1
  omega
 ·exact(Below.refl w.heap.size w).drew.alloc (Nat.le_refl _) _
theorem Ed {dT sT elem:TypeId}{size:Nat}(hgd:o.guard=none)(d s:Operand)(ho:o.op=.call { callee:=.builtin .copy,args:=#[d,s],argTypes:=#[dT,sT] })
 (hu:P.underlying dT=some (.slice elem)) (hsz:(P.info? elem).map (·.size)=some size)
 (g off dLen dCap:Nat) (sb so sLen sCap:Nat) (hd:a.eval d=.slice (some ⟨g,off,none⟩) dLen dCap) (hs:a.eval s=.slice (some ⟨sb,so,none⟩) sLen sCap)
 (cur:List Value) (t:TypeId) (hg:At w g t cur.toArray) (cs:List Value) (hn:cs.length=Nat.min sLen dLen*size)
 (hsrc:∀ (j:Nat) (v:Value),cs[j]? = some v->w.cell? ⟨sb,so+j,none⟩=some v) (hfit:off+cs.length<=cur.length) (h1:∀ v∈cs,v.oneCell' = true)
 (h:∀ w',At w' g t (cur.take off++(cs++cur.drop (off+cs.length))).toArray->w.grownBy w' (some g)->w'.heap.size=w.heap.size->wpList P ops Q rest (a.put o.dst (goInt (Nat.min sLen dLen))) w'):wpList P ops Q (o::rest) a w:=by
 have hrun:=TQ (P:=P) w dT sT o.type elem size g off dLen dCap ⟨sb,so,none⟩ sLen sCap cur.toArray t cs hu hsz hg hn (fun j v hj=>by
  have hadd:(⟨sb,so,none⟩:Addr).add j=⟨sb,so+j,none⟩:=by unfold Addr.add;split<;>simp_all
  rw[hadd];exact hsrc j v hj) (by simpa using hfit) h1
 refine wpList_plain hgd fun K hK=>?_
 unfold Oper.wp
 simp[execOp,ho,resolve,invoke,builtin,hd,hs,hrun,Result.andThen]
 refine hK _ _ (h _ ?_ ⟨rfl,rfl,rfl,by simp[World.setRow],fun k _ hne=>setRow_other w g k _ (fun e=>hne (by rw[e]))⟩ (by simp[World.setRow]))
 have:=At.setRow hg (cur.take off++(cs++cur.drop (off+cs.length))).toArray
 simpa [List.append_assoc] using this
end
end
section
open Go Go.RowKit Go.Maps
theorem TR (x:Own.Member)(g:Nat)(nm:ByteArray)(w:World)(hc:w.cell? ⟨g,0,none⟩=some (.string nm)):
 Calls Tryz.prog 163 (#[.agg #[.string x.name,.string x.pub]]++#[.pointer (some ⟨g,0,none⟩)]) w fun e w' => e=.returned (.bool (decide (x.name=nm)))/\Below w.heap.size w w':=by
 obtain⟨R,hR⟩:∃ R,R=decide (x.name=nm):=⟨_,rfl⟩
 rw[<- hR]
 rw[<- bytes_beq] at hR
 have hb1:Below w.heap.size w (w.alloc (.cells #[.string x.name,.string x.pub] 76)):=zb
 have q:=(hb1.cell (p:=⟨g,0,none⟩) (block_lt hc)).trans hc
 have HB:=zh hb1;have HR:=zh hR
 clear hb1 hc hR
 show Calls Tryz.prog 163 #[.agg #[.string x.name,.string x.pub],.pointer (some ⟨g,0,none⟩)] w _
 go_enter Tryz.func163,Tryz.ntmps163
 go_wp2
 go_ret
 exact⟨by rw[HR.out];rfl,HB.out⟩
def eF (w:World)(r:Option Own.Member)(e:Ending)(w' : World):Prop:=
 (match r with
   | none=>e=.returned (.tuple #[.agg #[.string ⟨#[]⟩,.string ⟨#[]⟩],.bool false])
   | some m=>e=.returned (.tuple #[.agg #[.string m.name,.string m.pub],.bool true]))/\Below w.heap.size w w'
theorem Nk (pre:ByteArray)(th:Int)(v:Value)(l:List Own.Member)(nm:ByteArray)(w:World)(h:Own.Af w v l)(hl:l.length<=140737488355328):
 Calls Tryz.prog 111 #[.agg #[.string pre,v,.int .i64 th],.string nm] w (eF w (Own.find l nm)):=by
 obtain⟨R,hR⟩:∃ R,R=eF w (Own.find l nm):=⟨_,rfl⟩
 rw[<- hR]
 have HR:=zh hR;clear hR
 obtain⟨a,c,rfl⟩:=h.len
 have ha0:=((At.new w 39 #[.string pre,.slice a l.length c,.int .i64 th]).alloc (.cells #[.string nm] 9)).alloc (.cells #[.string ⟨#[]⟩,.string ⟨#[]⟩] 76)
 have ha1:=(At.new1 w (.cells #[.string pre,.slice a l.length c,.int .i64 th] 39) 9 #[.string nm]).alloc (.cells #[.string ⟨#[]⟩,.string ⟨#[]⟩] 76)
 have ha2:=At.new ((w.alloc (.cells #[.string pre,.slice a l.length c,.int .i64 th] 39)).alloc (.cells #[.string nm] 9)) 76 #[.string ⟨#[]⟩,.string ⟨#[]⟩]
 rw[World.size_alloc,World.size_alloc] at ha2
 have hb1:Below w.heap.size w (((w.alloc (.cells #[.string pre,.slice a l.length c,.int .i64 th] 39)).alloc (.cells #[.string nm] 9)).alloc (.cells #[.string ⟨#[]⟩,.string ⟨#[]⟩] 76)):=(zb.alloc (by simp) _).alloc (by simp;omega) _
 have hz1:(((w.alloc (.cells #[.string pre,.slice a l.length c,.int .i64 th] 39)).alloc (.cells #[.string nm] 9)).alloc (.cells #[.string ⟨#[]⟩,.string ⟨#[]⟩] 76)).heap.size=w.heap.size+3:=by simp
 have hl1:=h.below hb1
 have c1:=ha0.cell 1
 simp only[zg] at c1
 have HL:=zh hl1;have A0:=zh ha0;have A1:=zh ha1;have A2:=zh ha2;have B1:=zh hb1
 clear h hl1 ha0 ha1 ha2 hb1
 go_enter Tryz.func111,Tryz.ntmps111
 go_wp2_with fail
 generalize ((w.alloc (.cells #[.string pre,.slice a l.length c,.int .i64 th] 39)).alloc (.cells #[.string nm] 9)).alloc (.cells #[.string ⟨#[]⟩,.string ⟨#[]⟩] 76)=w1 at*
 refine(KV 163 #[.pointer (some ⟨w.heap.size+1,0,none⟩)] Tryz.call163 (fun m=>decide (m.name=nm)) _ l w1 HL.out hl (fun W x hW=>TR x _ nm W ((hW.cell (p:=⟨w.heap.size+1,0,none⟩) (by show w.heap.size+1<w1.heap.size;omega)).trans (A1.out.cell 0)))).mono ?_
 rintro e w2 ⟨⟨i,rfl,hi⟩,hb2⟩
 have A02:=zh (A0.out.below hb2 (by omega));have A22:=zh (A2.out.below hb2 (by omega));have B2:=zh (B1.out.trans (hb2.mono B1.out.size));have HL2:=zh (HL.out.below hb2)
 have y1:=A02.out.cell 1
 have x0:=A22.out.cell 0;have x1:=A22.out.cell 1;have x3:=A22.out.free 0;have x4:=A22.out.free 1
 simp only[zg] at y1 x0 x1
 clear hb2 c1 HL A0 A1 A2 B1
 rcases hi with ⟨rfl,hnone,_⟩|⟨j,hj,rfl,hsome,_,_⟩
 ·have e:Own.find l nm=none:=hnone
  have HE:=zh e
  clear e hnone
  go_wp2
  have F2:=(A22.out.set 0 (.string ⟨#[]⟩)).set 1 (.string ⟨#[]⟩)
  rw[HR.out,HE.out]
  exact BJ rfl rfl rfl (AJ F2 Tryz.underlying76 rfl Pt) ⟨rfl,(B2.out.setCell (p:=⟨w.heap.size+1+1,0,none⟩) (by show w.heap.size<=w.heap.size+1+1;omega) _).setCell (p:=⟨w.heap.size+1+1,1,none⟩) (by show w.heap.size<=w.heap.size+1+1;omega) _⟩
 ·have e:Own.find l nm=some l[j]:=hsome
  obtain⟨b,o,ha,hbl,e0,e1⟩:=Own.Af.cells HL2.out hj
  subst ha
  obtain⟨m,hm⟩:∃ x,x=l[j]:=⟨_,rfl⟩
  rw[<- hm] at e e0 e1
  have HE:=zh e
  have dj:decide ((j:Int)<0)=false:=zf
  have hjl:j<l.length:=hj
  clear e hsome hm
  go_wp2
  have F2:=(A22.out.set 0 (.string m.name)).set 1 (.string m.pub)
  rw[HR.out,HE.out]
  exact BJ rfl rfl rfl (AJ F2 Tryz.underlying76 rfl Pt) ⟨rfl,(B2.out.setCell (p:=⟨w.heap.size+1+1,0,none⟩) (by show w.heap.size<=w.heap.size+1+1;omega) _).setCell (p:=⟨w.heap.size+1+1,1,none⟩) (by show w.heap.size<=w.heap.size+1+1;omega) _⟩
def JV (a b:ByteArray):Int:=if Own.Aj a b then -1 else if a=b then 0 else 1
theorem UY (a:ByteArray)(w:World):Calls Tryz.prog 195 #[.string a] w fun e w' => e=.returned (.bool false)/\w' = w:=by
 go_enter Tryz.func195,Tryz.ntmps195
 go_wp2
 go_ret
 exact⟨by simp,rfl⟩
theorem RY (a b:ByteArray)(w:World):Calls Tryz.prog 161 #[.string a,.string b] w fun e w' => e=.returned (.int .i64 (JV a b))/\w' = w:=by
 obtain⟨R,hR⟩:∃ R,R=JV a b:=⟨_,rfl⟩
 rw[<- hR]
 unfold JV Own.Aj at hR
 have HR:=zh hR;clear hR
 go_enter Tryz.func161,Tryz.ntmps161
 go_wp2_with fail
 refine(UY a w).mono ?_
 rintro e w1 ⟨rfl,rfl⟩
 go_wp2_with fail
 refine(UY b w1).mono ?_
 rintro e w1 ⟨rfl,rfl⟩
 cases h1:Op.bytesLess a.toList b.toList with
 | true =>
   have e:R = -1:=by rw[HR.out,h1];rfl
   have HE:=zh e;clear e
   go_wp2
   go_ret
   exact⟨by rw[HE.out];rfl,rfl⟩
 | false=>
 by_cases h2:a=b
 ·have d:(a.toList==b.toList)=true:=by rw[bytes_beq];exact decide_eq_true h2
  have e:R=0:=by rw[HR.out,h1,if_pos h2];rfl
  have HE:=zh e;clear e
  have H2:=zh h2;clear h2
  go_wp2
  go_ret
  exact⟨by rw[HE.out];rfl,rfl⟩
 ·have d:(a.toList==b.toList)=false:=by rw[bytes_beq];exact decide_eq_false h2
  have e:R=1:=by rw[HR.out,h1,if_neg h2];rfl
  have HE:=zh e;clear e
  go_wp2
  go_ret
  exact⟨by rw[HE.out];rfl,rfl⟩
theorem RZ (k:Own.KeyUse)(t:ByteArray)(w:World):Calls Tryz.prog 184 #[.agg #[.string k.pub,.int .i64 k.next],.string t] w fun e w' => e=.returned (.int .i64 (JV k.pub t))/\Below w.heap.size w w':=by
 have HB:=zh ((Below.refl w.heap.size w).alloc (Nat.le_refl _) (.cells #[.string k.pub,.int .i64 k.next] 59))
 go_enter Tryz.func184,Tryz.ntmps184
 go_wp2_with fail
 refine(RY k.pub t _).mono ?_
 rintro e w2 ⟨rfl,rfl⟩
 go_wp2
 go_ret
 exact⟨rfl,HB.out⟩
theorem aW (v:Value)(l:List Own.KeyUse)(t:ByteArray)(w:World)(h:Own.Du w v l)(hs:Own.Srt Own.KeyUse.pub l)(hl:l.length<=1000000):
 Calls Tryz.prog 183 #[v,.string t,.func (.func 184) #[] #[]] w fun e w' => e=.returned (.tuple #[.int .i64 (Own.posB Own.KeyUse.pub t l:Nat),.bool (Own.Dl Own.KeyUse.pub t l)])/\Below w.heap.size w w':=by
 obtain⟨a,c,rfl⟩:=h.len
 have HL:=zh h;have HS:=zh hs;clear h hs
 go_enter Tryz.func183,Tryz.ntmps183
 go_wp2
 go_loopw [9,10] (fun i j wr=>∃ p q:Nat,p<=q/\∃ hq:q<=l.length,i=.int .i64 p/\j=.int .i64 q/\(∀ k (h:k<l.length),k<p->Own.Aj l[k].pub t=true)/\(∀ k (h:k<l.length),q<=k->Own.Aj l[k].pub t=false)/\Below w.heap.size w wr) (fun i j _=>(intOf j).toNat-(intOf i).toNat)
 case atStart=>exact⟨0,l.length,by omega,Nat.le_refl _,rfl,rfl,fun _ _ h=>by omega,fun _ _ h=>by omega,Below.refl _ _⟩
 case round=>
  obtain⟨p,q,hpq,hq,rfl,rfl,h1,h2,hb⟩:=hrel
  have HB:=zh hb;have H1:=zh h1;have H2:=zh h2
  by_cases hlt:p<q
  ·have dk:decide ((p:Int)<(q:Int))=true:=zt
   obtain⟨m,hm⟩:∃ m,m=(p+q)/2:=⟨_,rfl⟩
   have em:((p:Int)+(q:Int))/2=(m:Int):=by omega
   have m1:p<=m:=by omega
   have m2:m<q:=by omega
   have hml:m<l.length:=by omega
   obtain⟨b,o,ha,hbl,e0,e1⟩:=Own.Du.cells (HL.out.below hb) hml
   subst ha
   have hlow:Own.Aj l[m].pub t=true->∀ k (h:k<l.length),k<m+1->Own.Aj l[k].pub t=true:=fun hx k hk hkm=>by
    by_cases e:k=m
    ·subst e;exact hx
    ·exact Own.Dr ((List.pairwise_iff_getElem.1 HS.out) k m hk hml (by omega)) hx
   have hhigh:Own.Aj l[m].pub t=false->∀ k (h:k<l.length),m<=k->Own.Aj l[k].pub t=false:=fun hx k hk hkm=>by
    by_cases e:k=m
    ·subst e;exact hx
    ·cases hc:Own.Aj l[k].pub t with
     | false=>rfl
     | true =>
       have:=Own.Dr ((List.pairwise_iff_getElem.1 HS.out) m k hml hk (by omega)) hc
       rw[hx] at this
       cases this
   obtain⟨ku,hku⟩:∃ x,x=l[m]:=⟨_,rfl⟩
   rw[<- hku] at hlow hhigh e0 e1
   have hcall:=RZ ku t wr
   have sQ:=zh hlow;have lU:=zh hhigh
   clear hb h1 h2 hm hlow hhigh hku
   cases hc:Own.Aj ku.pub t with
   | true =>
     have ec:JV ku.pub t = -1:=by unfold JV;rw[hc];rfl
     rw[ec] at hcall
     clear ec
     go_wp2_with fail
     refine hcall.mono ?_
     rintro e w' ⟨rfl,hb'⟩
     go_wp2_with fail
     exact⟨⟨m+1,q,by omega,by omega,by go_num,rfl,sQ.out hc,H2.out,HB.out.trans (hb'.mono HB.out.size)⟩,by simp[intOf];omega⟩
   | false =>
     obtain⟨r,hr⟩:∃ r,r=JV ku.pub t:=⟨_,rfl⟩
     have er:0<=r:=by rw[hr];unfold JV;rw[hc];simp;split<;>decide
     rw[<- hr] at hcall
     have dr:decide (r<0)=false:=zf
     clear hr
     go_wp2_with fail
     refine hcall.mono ?_
     rintro e w' ⟨rfl,hb'⟩
     go_wp2_with fail
     exact⟨⟨p,m,by omega,by omega,rfl,rfl,H1.out,lU.out hc,HB.out.trans (hb'.mono HB.out.size)⟩,by simp[intOf];omega⟩
  ·obtain rfl:p=q:=by omega
   have dk:decide ((p:Int)<(p:Int))=false:=zf
   have hpos:=Own.Pm (f:=Own.KeyUse.pub) t hq (fun k h=>h1 k h) (fun k h=>h2 k h)
   have lV:=zh hpos
   by_cases hpl:p<l.length
   ·have dp:decide ((p:Int)<(l.length:Int))=true:=zt
    obtain⟨b,o,ha,hbl,e0,e1⟩:=Own.Du.cells (HL.out.below hb) hpl
    subst ha
    have hge:=h2 p hpl (Nat.le_refl _)
    have hhit:Own.Dl Own.KeyUse.pub t l=decide (l[p].pub=t):=by unfold Own.Dl;rw[<- hpos,List.getElem?_eq_getElem hpl]
    obtain⟨ku,hku⟩:∃ x,x=l[p]:=⟨_,rfl⟩
    rw[<- hku] at hhit hge e0 e1
    have hcall:=RZ ku t wr
    obtain⟨r,hr⟩:∃ r,r=JV ku.pub t:=⟨_,rfl⟩
    have er:(r==0)=Own.Dl Own.KeyUse.pub t l:=by
     rw[hhit,hr];unfold JV;rw[hge]
     by_cases h:ku.pub=t
     ·simp[h]
     ·simp[h]
    rw[<- hr] at hcall
    have ER:=zh er
    clear hb h1 h2 hhit hge hku hr hpos er
    go_wp2_with fail
    refine hcall.mono ?_
    rintro e w' ⟨rfl,hb'⟩
    go_wp2
    go_ret2
    exact⟨by rw[<- ER.out,<- lV.out];rfl,HB.out.trans (hb'.mono HB.out.size)⟩
   ·have dp:decide ((p:Int)<(l.length:Int))=false:=zf
    have hhit:Own.Dl Own.KeyUse.pub t l=false:=by unfold Own.Dl;rw[<- hpos,List.getElem?_eq_none (by omega)]
    have sS:=zh hhit
    clear hb h1 h2 hhit hpos
    go_wp2
    go_ret2
    exact⟨by rw[sS.out,<- lV.out];rfl,HB.out⟩
theorem lW {fn:Nat}{tS e:TypeId}{size:Nat}(w:World)
 (hf:∀ args,(callFunc fn args).run Tryz.prog w=((Extern.SlicesOverlaps.overlaps #[tS,tS] #[4] args).run Tryz.prog w).andThen fun v w' => .ok (.value v) w')
 (ht:Tryz.prog.underlying tS=some (.slice e)) (hz:∀ w,(Go.sizeOf e).run Tryz.prog w=.ok size w) (vb b o la ca lb cb:Nat) (hne:vb≠b) (cv cb' : Array Value) (hv:At w vb e cv) (hb:At w b e cb') (h0:cb'.size≠0):
 (callFunc fn #[.slice (some ⟨vb,0,none⟩) la ca,.slice (some ⟨b,o,none⟩) lb cb]).run Tryz.prog w=.ok (.value (.bool false)) w:=by
 rw[hf,Lib.run_overlaps_apart w tS 4 e ht size hz ⟨vb,0,none⟩ ⟨b,o,none⟩ la ca lb cb hne e e cv.size cb'.size ?_ ?_ h0 (hv.free 0) (hv.free _)]
 ·rfl
 ·unfold At at hv;simp[World.shape?,hv]
 ·unfold At at hb;simp[World.shape?,hb]
theorem UZ {P:Program}{e:TypeId}{k:Nat}(h:(P.info? e).map (·.size)=some k)(w:World):(Go.sizeOf e).run P w=.ok k w:=by
 cases hq:P.info? e with
 | none=>rw[hq] at h;cases h
 | some i =>
   have hi:i.size=k:=by simpa [hq] using h
   simp[Go.sizeOf,typeInfo,hq,hi]
theorem D8 {w:World}{base g n cap size:Nat}{e:TypeId}{cur xs:List Value}(hg:At w g e cur.toArray)(hb:base<=g)(hn:n<=cap)(hc:cap<=maxLen)(hs:cur.length=cap*size)(ht:cur.take (n*size)=xs):w.ownsRow base e size (.slice (some ⟨g,0,none⟩) n cap) n xs:=by
 refine⟨?_,.inr ⟨g,cap,cur.toArray,rfl,hb,hg,hn,hc,by simpa using hs,by simpa using ht⟩⟩
 rw[<- ht,List.length_take,hs]
 exact Nat.min_eq_left (Nat.mul_le_mul_right _ hn)
theorem Gf {w:World}{base g n cap size:Nat}{e:TypeId}{xs:List Value}(h:w.ownsRow base e size (.slice (some ⟨g,0,none⟩) n cap) n xs):∃ ys:List Value,At w g e (xs++ys).toArray/\base<=g/\n<=cap/\cap<=maxLen/\(xs++ys).length=cap*size/\xs.length=n*size:=by
 obtain⟨hl,⟨h0,_⟩|⟨g',cap',cur,hv,hb,hg,h1,h2,h3,h4⟩⟩:=h
 ·cases h0
 ·cases hv
  have e1:xs++cur.toList.drop (n*size)=cur.toList:=by rw[<- h4,List.take_append_drop]
  refine⟨cur.toList.drop (n*size),by rw[e1];exact hg,hb,h1,h2,by rw[e1];simpa using h3,hl⟩
theorem DL:(Tryz.prog.info? 39).map (·.size)=some 3:=by kernel_rfl
theorem TS (base n i vb:Nat)(v:Value)(xs nw:List Value)(w:World)(ho:w.ownsRow base 39 3 v n xs)(h1:∀ u∈xs,u.oneCell' = true)(hi:i<=n)(hn:n<=3000000)(hnw:nw.length=3)(hnv:At w vb 39 nw.toArray)(h2:∀ u∈nw,u.oneCell' = true)(hvb:v.ownBlock≠some vb)(hbs:base<=w.heap.size):
 Calls Tryz.prog 162 #[v,.int .i64 i,.slice (some ⟨vb,0,none⟩) 1 1] w fun e w' => ∃ v',e=.returned v' /\ w'.ownsRow base 39 3 v' (n+1) (xs.take (i*3)++(nw++xs.drop (i*3)))/\w.grownBy w' v.ownBlock/\(v'.ownBlock=v.ownBlock\/v'.ownBlock=some w.heap.size):=by
 have hrows:Bc w (.slice (some ⟨vb,0,none⟩) 1 1) 3 1 nw:=by
  refine⟨by rw[hnw],_,_,rfl,.inr ⟨vb,0,rfl,hnv.lt,fun j u hj=>?_⟩⟩
  rw[Nat.zero_add,hnv.cell]
  simpa using hj
 have HO:=zh ho;have H1:=zh h1;have H2:=zh h2;have HNV:=zh hnv;have HR:=zh hrows;have HVB:=zh hvb
 clear h1 h2 hnv hrows hvb
 go_enter Tryz.func162,Tryz.ntmps162
 obtain⟨a,m,c,rfl⟩:=Ac ho
 obtain rfl:=Ba ho
 by_cases hie:i=m
 ·subst hie
  have hsl:i<=c:=by
   rcases ho.2 with ⟨h0,_⟩|⟨g,cap,cur,h0,_,_,h3,_⟩
   ·cases h0;exact Nat.le_refl _
   ·cases h0;exact h3
  have hcz:(a=none/\c=0/\i=0)\/∃ g,a=some ⟨g,0,none⟩:=by
   rcases ho.2 with ⟨h0,h5⟩|⟨g,cap,cur,h0,_⟩
   ·cases h0;exact .inl ⟨rfl,rfl,h5⟩
   ·cases h0;exact .inr ⟨g,rfl⟩
  have hxl:xs.take (i*3)=xs/\xs.drop (i*3)=[]:=by
   have:=ho.1
   exact⟨List.take_of_length_le (by omega),List.drop_eq_nil_of_le (by omega)⟩
  have HXL:=zh hxl
  clear ho hxl
  rcases hcz with ⟨rfl,rfl,rfl⟩|⟨g,rfl⟩
  ·go_wp2_with (at_builtin;go_must (refine Ah DW rfl _ _ rfl base 0 _ xs rfl HO.out (.slice (some ⟨vb,0,none⟩) 1 1) 1 nw rfl HR.out H2.out (by omega) (by omega) hbs ?_);intro v5 w5 ho5 hg5 hx5;obtain⟨va,vm,vc,rfl⟩:=Ac ho5;have HO5:=zh ho5;have HG5:=zh hg5;have HX5:=zh hx5;clear ho5 hg5 hx5)
   go_ret
   exact⟨_,rfl,by rw[HXL.out.1,HXL.out.2,List.append_nil];exact HO5.out,HG5.out,HX5.out⟩
  ·by_cases hci:c=i
   ·subst hci
    go_wp2_with (at_builtin;go_must (refine Ah DW rfl _ _ rfl base c _ xs rfl HO.out (.slice (some ⟨vb,0,none⟩) 1 1) 1 nw rfl HR.out H2.out (by omega) (by omega) hbs ?_);intro v5 w5 ho5 hg5 hx5;obtain⟨va,vm,vc,rfl⟩:=Ac ho5;have HO5:=zh ho5;have HG5:=zh hg5;have HX5:=zh hx5;clear ho5 hg5 hx5)
    go_ret
    exact⟨_,rfl,by rw[HXL.out.1,HXL.out.2,List.append_nil];exact HO5.out,HG5.out,HX5.out⟩
   ·go_wp2_with (at_builtin;go_must (refine Ah DW rfl _ _ rfl base i _ xs rfl HO.out (.slice (some ⟨vb,0,none⟩) 1 1) 1 nw rfl HR.out H2.out (by omega) (by omega) hbs ?_);intro v5 w5 ho5 hg5 hx5;obtain⟨va,vm,vc,rfl⟩:=Ac ho5;have HO5:=zh ho5;have HG5:=zh hg5;have HX5:=zh hx5;clear ho5 hg5 hx5)
    go_ret
    exact⟨_,rfl,by rw[HXL.out.1,HXL.out.2,List.append_nil];exact HO5.out,HG5.out,HX5.out⟩
 ·have him:i<m:=by omega
  obtain⟨g,rfl⟩:∃ g,a=some ⟨g,0,none⟩:=by
   rcases ho.2 with ⟨h0,h5⟩|⟨g,cap,cur,h0,_⟩
   ·omega
   ·cases h0;exact⟨g,rfl⟩
  obtain⟨ys,hat,hbg,hmc,hcm,hcl,hxl⟩:=Gf ho
  have hne:vb≠g:=fun e=>HVB.out (by rw[e];rfl)
  have HAT:=zh hat
  have de:((i:Int)==(m:Int))=false:=by rw[beq_eq_false_iff_ne];omega
  have ci:¬ c=i:=by omega
  clear ho hat
  by_cases hroom:m+1<=c
  ·have dr:decide ((c:Int)<(m:Int)+1)=false:=zf
   have hov:∀ o lb cb,(callFunc 196 #[.slice (some ⟨vb,0,none⟩) 1 1,.slice (some ⟨g,o,none⟩) lb cb]).run Tryz.prog w=.ok (.value (.bool false)) w:=fun o lb cb=>
    lW w (run_callFunc_extern Tryz.func196 (by kernel_rfl) (by kernel_rfl) (by kernel_rfl) (e:=Extern.SlicesOverlaps.overlaps #[22,22] #[4]) (by kernel_rfl) · w) Tryz.underlying22 (UZ DL) vb g o 1 1 lb cb hne _ _ HNV.out HAT.out (by rw[List.size_toArray];omega)
   go_wp2_with (simp only[hov])
   refine Lex.zl ?_
   clear hov
   have mn1:Nat.min (m+1-i) (m-i)=m-i:=by simp only[Nat.min_def];split<;>omega
   have hcs:(xs.drop (i*3)).length=(m-i)*3:=by rw[List.length_drop,hxl,Nat.sub_mul]
   have Nl:At w.drew g 39 (xs++ys).toArray:=HAT.out
   have hsrc:∀ (j:Nat) (u:Value),(xs.drop (i*3))[j]? = some u->w.drew.cell? ⟨g,i*3+j,none⟩=some u:=fun j u hj=>by
    show w.cell? ⟨g,i*3+j,none⟩=some u
    rw[HAT.out.cell]
    rw[List.getElem?_drop] at hj
    simp[List.getElem?_append_left (List.getElem?_eq_some_iff.1 hj).1,hj]
   have TU:=zh Nl;have HCS:=zh hcs;have MN1:=zh mn1;have Sb:=zh hsrc
   clear Nl hcs mn1 hsrc
   go_wp2_with (refine Ed rfl _ _ rfl Tryz.underlying22 DL g ((i+1)*3) (m-i) (c-(i+1)) g (i*3) (m+1-i) (c-i) (by rfl) (by rfl) (xs++ys) 39 TU.out (xs.drop (i*3)) (by rw[HCS.out,MN1.out]) Sb.out (by rw[HCS.out,hcl];omega) (fun u hu=>H1.out u (List.mem_of_mem_drop hu)) ?_;intro w5 En hg5 hz5;have GD:=zh En;have HG5:=zh hg5;clear En hg5)
   refine Lex.ze ?_
   have Sc:At w5 vb 39 nw.toArray:=(HG5.out.block vb HNV.out.lt (fun e=>hne (Option.some.inj e))).trans HNV.out
   have aX:=zh Sc
   have mn2:Nat.min 1 (m+1-i)=1:=by simp only[Nat.min_def];split<;>omega
   have lX:((xs++ys).take ((i+1)*3)++(xs.drop (i*3)++(xs++ys).drop ((i+1)*3+(xs.drop (i*3)).length))).length=c*3:=by
    simp only[List.length_append,List.length_take,List.length_drop] at hcl ⊢
    omega
   have Wx:=zh lX;have MN2:=zh mn2
   clear Sc mn2 lX
   obtain⟨C5,hC5⟩:∃ C5,C5=(xs++ys).take ((i+1)*3)++(xs.drop (i*3)++(xs++ys).drop ((i+1)*3+(xs.drop (i*3)).length)):=⟨_,rfl⟩
   rw[<- hC5] at GD Wx
   have JW:∀ (j:Nat) (u:Value),nw[j]? = some u->w5.cell? ⟨vb,0+j,none⟩=some u:=fun j u hj=>by
    rw[Nat.zero_add,aX.out.cell]
    simpa using hj
   have HC5:=zh hC5;have Sd:=zh JW
   clear hC5 JW
   go_wp2_with (refine Ed rfl _ _ rfl Tryz.underlying22 DL g (i*3) (m+1-i) (c-i) vb 0 1 1 (by rfl) (by rfl) C5 39 GD.out nw (by rw[hnw,MN2.out]) Sd.out (by rw[hnw,Wx.out];omega) H2.out ?_;intro w6 Di hg6 hz6;have Eu:=zh Di;have HG6:=zh hg6;clear Di hg6)
   go_wp2
   go_ret
   refine⟨_,rfl,D8 Eu.out hbg (by omega) hcm ?_ ?_,?_,.inl rfl⟩
   ·have:=Wx.out
    simp only[List.length_append,List.length_take,List.length_drop,hnw] at this ⊢
    omega
   ·have hl:=Wx.out
    have e1:C5.take (i*3)=xs.take (i*3):=by
     rw[HC5.out,List.take_append_of_le_length (by rw[List.length_take,hcl];omega),List.take_take,Nat.min_eq_left (by omega),List.take_append_of_le_length (by omega)]
    have e2:(C5.drop (i*3+nw.length)).take ((m-i)*3)=xs.drop (i*3):=by
     have e3:i*3+nw.length=((xs++ys).take ((i+1)*3)).length:=by rw[List.length_take,hcl,hnw];omega
     rw[HC5.out,e3,List.drop_left,List.take_append_of_le_length (by rw[HCS.out];omega),List.take_of_length_le (by rw[HCS.out];omega)]
    have e4:(m+1)*3=(C5.take (i*3)).length+(nw.length+(m-i)*3):=by rw[List.length_take,hl,hnw];omega
    rw[e4,List.take_length_add_append,List.take_length_add_append,e1,e2]
   ·exact⟨HG6.out.os.trans HG5.out.os,HG6.out.tape.trans HG5.out.tape,HG6.out.output.trans HG5.out.output,Nat.le_trans HG5.out.size HG6.out.size,fun k hk hk2=>(HG6.out.block k (Nat.lt_of_lt_of_le hk HG5.out.size) hk2).trans (HG5.out.block k hk hk2)⟩
  ·have dr:decide ((c:Int)<(m:Int)+1)=true:=zt
   have hxi:(xs.take (i*3)).length=i*3:=by rw[List.length_take,hxl];exact Nat.min_eq_left (Nat.mul_le_mul_right _ hi)
   have HXI:=zh hxi;clear hxi
   have hxs:∀ (j:Nat) (u:Value),(xs.take (i*3))[j]? = some u->w.cell? ⟨g,j,none⟩=some u:=fun j u hj=>by
    rw[HAT.out.cell]
    rw[List.getElem?_take] at hj
    split at hj
    ·simp[List.getElem?_append_left (List.getElem?_eq_some_iff.1 hj).1,hj]
    ·cases hj
   have HXS:=zh hxs;clear hxs
   go_upto_region 10 with (at_builtin;go_must (refine JU DW Tryz.underlying3 rfl _ _ rfl g i (m+1-i) c .i64 (xs.take (i*3)) rfl _ (show _=((m+1-i:Nat):Int) by omega) rfl HXI.out HXS.out (by omega) (by omega) (by omega) (by omega) ?_);intro nc w5 zs lY sU En hl5 hb5;rw[show i+(m+1-i)=m+1 by omega] at lY ⊢;have HL5:=zh hl5;have GD:=zh En;have HB5:=zh hb5;have cnc:¬ nc=i:=(by omega);have za0:¬ nc=i+1:=(by omega);(obtain⟨G,hG⟩:∃ G,G=w.heap.size:=⟨_,rfl⟩);rw[<- hG] at GD ⊢;have HGG:=zh hG;clear hl5 En hb5 hG)
   have hgl:g<w.heap.size:=HAT.out.lt
   have hgG:g≠G:=by have:=HGG.out;omega
   have hvl:vb<w.heap.size:=HNV.out.lt
   have Sc:At w5 vb 39 nw.toArray:=HNV.out.below HB5.out hvl
   have lZ:At w5 g 39 (xs++ys).toArray:=HAT.out.below HB5.out hgl
   have aX:=zh Sc;have sV:=zh lZ
   have mn2:Nat.min 1 (m+1-i)=1:=by simp only[Nat.min_def];split<;>omega
   have MN2:=zh mn2
   clear Sc lZ mn2
   obtain⟨C5,hC5⟩:∃ C5,C5=xs.take (i*3)++zs:=⟨_,rfl⟩
   have hl5:=HL5.out
   rw[<- hC5] at GD hl5
   have HC5:=zh hC5;clear hC5 HL5
   have HL5:=zh hl5;clear hl5
   have JW:∀ (j:Nat) (u:Value),nw[j]? = some u->w5.cell? ⟨vb,0+j,none⟩=some u:=fun j u hj=>by
    rw[Nat.zero_add,aX.out.cell]
    simpa using hj
   have Sd:=zh JW
   clear JW
   go_wp2_with (refine Ed rfl _ _ rfl Tryz.underlying22 DL G (i*3) (m+1-i) (nc-i) vb 0 1 1 (by rfl) (by rfl) C5 39 GD.out nw (by rw[hnw,MN2.out]) Sd.out (by rw[hnw,HL5.out];omega) H2.out ?_;intro w6 Di hg6 hz6;have Eu:=zh Di;have HG6:=zh hg6;clear Di hg6)
   have mg:At w6 g 39 (xs++ys).toArray:=(HG6.out.block g (Nat.lt_of_lt_of_le hgl HB5.out.size) (fun e=>hgG (Option.some.inj e))).trans sV.out
   have sW:=zh mg
   have hl6:(C5.take (i*3)++(nw++C5.drop (i*3+nw.length))).length=nc*3:=by
    simp only[List.length_append,List.length_take,List.length_drop,hnw,HL5.out]
    omega
   obtain⟨C6,hC6⟩:∃ C6,C6=C5.take (i*3)++(nw++C5.drop (i*3+nw.length)):=⟨_,rfl⟩
   rw[<- hC6] at Eu hl6
   have HC6:=zh hC6;have HL6:=zh hl6
   clear mg hC6 hl6
   go_wp2
   refine Lex.zl ?_
   have mn1:Nat.min (m-i) (m-i)=m-i:=Nat.min_self _
   have hcs:(xs.drop (i*3)).length=(m-i)*3:=by rw[List.length_drop,hxl,Nat.sub_mul]
   have Nl:At w6.drew G 39 C6.toArray:=Eu.out
   have hsrc:∀ (j:Nat) (u:Value),(xs.drop (i*3))[j]? = some u->w6.drew.cell? ⟨g,i*3+j,none⟩=some u:=fun j u hj=>by
    show w6.cell? ⟨g,i*3+j,none⟩=some u
    rw[sW.out.cell]
    rw[List.getElem?_drop] at hj
    simp[List.getElem?_append_left (List.getElem?_eq_some_iff.1 hj).1,hj]
   have TU:=zh Nl;have HCS:=zh hcs;have MN1:=zh mn1;have Sb:=zh hsrc
   clear Nl hcs mn1 hsrc
   go_wp2_with (refine Ed rfl _ _ rfl Tryz.underlying22 DL G ((i+1)*3) (m-i) (nc-(i+1)) g (i*3) (m-i) (c-i) (by rfl) (by rfl) C6 39 TU.out (xs.drop (i*3)) (by rw[HCS.out,MN1.out]) Sb.out (by rw[HCS.out,HL6.out];omega) (fun u hu=>H1.out u (List.mem_of_mem_drop hu)) ?_;intro w7 Jo hg7 hz7;have Oc:=zh Jo;have HG7:=zh hg7;clear Jo hg7)
   refine Lex.ze ?_
   go_wp2
   go_ret
   refine⟨_,rfl,D8 Oc.out (by have:=HGG.out;omega) lY sU ?_ ?_,?_,.inr (by rw[HGG.out];rfl)⟩
   ·simp only[List.length_append,List.length_take,List.length_drop,HCS.out,HL6.out]
    omega
   ·have e1 : C6.take ((i + 1) * 3) = xs.take (i * 3) ++ nw :=by
     have e2:C5.take (i*3)=xs.take (i*3):=by rw[HC5.out,List.take_append_of_le_length (by rw[HXI.out];omega),List.take_of_length_le (by rw[HXI.out];omega)]
     have e3:(i+1)*3=(xs.take (i*3)).length+(nw.length+0):=by rw[HXI.out,hnw];omega
     rw[HC6.out,e2,e3,List.take_length_add_append,List.take_length_add_append,List.take_zero,List.append_nil]
    have e4:(m+1)*3=(xs.take (i*3)).length+(nw.length+((xs.drop (i*3)).length+0)):=by rw[HXI.out,hnw,HCS.out];omega
    rw[e1,List.append_assoc,e4,List.take_length_add_append,List.take_length_add_append,List.take_length_add_append,List.take_zero,List.append_nil]
   ·refine⟨?_,?_,?_,?_,fun k hk hk2=>?_⟩
    ·exact(HG7.out.os.trans HG6.out.os).trans HB5.out.os
    ·exact(HG7.out.tape.trans HG6.out.tape).trans HB5.out.tape
    ·exact(HG7.out.output.trans HG6.out.output).trans HB5.out.output
    ·exact Nat.le_trans HB5.out.size (Nat.le_trans HG6.out.size HG7.out.size)
    ·have hkG:some k≠some G:=fun e=>by have:=Option.some.inj e;have:=HGG.out;omega
     have k5:=HB5.out.block k hk
     have s5:=HB5.out.size
     exact((HG7.out.block k (by show k<w6.heap.size;have:=HG6.out.size;omega) hkG).trans (HG6.out.block k (by omega) hkG)).trans k5
theorem Fj:(Tryz.prog.info? 59).map (·.size)=some 2:=by kernel_rfl
theorem YC (base n i vb:Nat)(v:Value)(xs nw:List Value)(w:World)(ho:w.ownsRow base 59 2 v n xs)(h1:∀ u∈xs,u.oneCell' = true)(hi:i<=n)(hn:n<=3000000)(hnw:nw.length=2)(hnv:At w vb 59 nw.toArray)(h2:∀ u∈nw,u.oneCell' = true)(hvb:v.ownBlock≠some vb)(hbs:base<=w.heap.size):
 Calls Tryz.prog 150 #[v,.int .i64 i,.slice (some ⟨vb,0,none⟩) 1 1] w fun e w' => ∃ v',e=.returned v' /\ w'.ownsRow base 59 2 v' (n+1) (xs.take (i*2)++(nw++xs.drop (i*2)))/\w.grownBy w' v.ownBlock/\(v'.ownBlock=v.ownBlock\/v'.ownBlock=some w.heap.size):=by
 have hrows:Bc w (.slice (some ⟨vb,0,none⟩) 1 1) 2 1 nw:=by
  refine⟨by rw[hnw],_,_,rfl,.inr ⟨vb,0,rfl,hnv.lt,fun j u hj=>?_⟩⟩
  rw[Nat.zero_add,hnv.cell]
  simpa using hj
 have HO:=zh ho;have H1:=zh h1;have H2:=zh h2;have HNV:=zh hnv;have HR:=zh hrows;have HVB:=zh hvb
 clear h1 h2 hnv hrows hvb
 go_enter Tryz.func150,Tryz.ntmps150
 obtain⟨a,m,c,rfl⟩:=Ac ho
 obtain rfl:=Ba ho
 by_cases hie:i=m
 ·subst hie
  have hsl:i<=c:=by
   rcases ho.2 with ⟨h0,_⟩|⟨g,cap,cur,h0,_,_,h3,_⟩
   ·cases h0;exact Nat.le_refl _
   ·cases h0;exact h3
  have hcz:(a=none/\c=0/\i=0)\/∃ g,a=some ⟨g,0,none⟩:=by
   rcases ho.2 with ⟨h0,h5⟩|⟨g,cap,cur,h0,_⟩
   ·cases h0;exact .inl ⟨rfl,rfl,h5⟩
   ·cases h0;exact .inr ⟨g,rfl⟩
  have hxl:xs.take (i*2)=xs/\xs.drop (i*2)=[]:=by
   have:=ho.1
   exact⟨List.take_of_length_le (by omega),List.drop_eq_nil_of_le (by omega)⟩
  have HXL:=zh hxl
  clear ho hxl
  rcases hcz with ⟨rfl,rfl,rfl⟩|⟨g,rfl⟩
  ·go_wp2_with (at_builtin;go_must (refine Ah JQ rfl _ _ rfl base 0 _ xs rfl HO.out (.slice (some ⟨vb,0,none⟩) 1 1) 1 nw rfl HR.out H2.out (by omega) (by omega) hbs ?_);intro v5 w5 ho5 hg5 hx5;obtain⟨va,vm,vc,rfl⟩:=Ac ho5;have HO5:=zh ho5;have HG5:=zh hg5;have HX5:=zh hx5;clear ho5 hg5 hx5)
   go_ret
   exact⟨_,rfl,by rw[HXL.out.1,HXL.out.2,List.append_nil];exact HO5.out,HG5.out,HX5.out⟩
  ·by_cases hci:c=i
   ·subst hci
    go_wp2_with (at_builtin;go_must (refine Ah JQ rfl _ _ rfl base c _ xs rfl HO.out (.slice (some ⟨vb,0,none⟩) 1 1) 1 nw rfl HR.out H2.out (by omega) (by omega) hbs ?_);intro v5 w5 ho5 hg5 hx5;obtain⟨va,vm,vc,rfl⟩:=Ac ho5;have HO5:=zh ho5;have HG5:=zh hg5;have HX5:=zh hx5;clear ho5 hg5 hx5)
    go_ret
    exact⟨_,rfl,by rw[HXL.out.1,HXL.out.2,List.append_nil];exact HO5.out,HG5.out,HX5.out⟩
   ·go_wp2_with (at_builtin;go_must (refine Ah JQ rfl _ _ rfl base i _ xs rfl HO.out (.slice (some ⟨vb,0,none⟩) 1 1) 1 nw rfl HR.out H2.out (by omega) (by omega) hbs ?_);intro v5 w5 ho5 hg5 hx5;obtain⟨va,vm,vc,rfl⟩:=Ac ho5;have HO5:=zh ho5;have HG5:=zh hg5;have HX5:=zh hx5;clear ho5 hg5 hx5)
    go_ret
    exact⟨_,rfl,by rw[HXL.out.1,HXL.out.2,List.append_nil];exact HO5.out,HG5.out,HX5.out⟩
 ·have him:i<m:=by omega
  obtain⟨g,rfl⟩:∃ g,a=some ⟨g,0,none⟩:=by
   rcases ho.2 with ⟨h0,h5⟩|⟨g,cap,cur,h0,_⟩
   ·omega
   ·cases h0;exact⟨g,rfl⟩
  obtain⟨ys,hat,hbg,hmc,hcm,hcl,hxl⟩:=Gf ho
  have hne:vb≠g:=fun e=>HVB.out (by rw[e];rfl)
  have HAT:=zh hat
  have de:((i:Int)==(m:Int))=false:=by rw[beq_eq_false_iff_ne];omega
  have ci:¬ c=i:=by omega
  clear ho hat
  by_cases hroom:m+1<=c
  ·have dr:decide ((c:Int)<(m:Int)+1)=false:=zf
   have hov:∀ o lb cb,(callFunc 185 #[.slice (some ⟨vb,0,none⟩) 1 1,.slice (some ⟨g,o,none⟩) lb cb]).run Tryz.prog w=.ok (.value (.bool false)) w:=fun o lb cb=>
    lW w (run_callFunc_extern Tryz.func185 (by kernel_rfl) (by kernel_rfl) (by kernel_rfl) (e:=Extern.SlicesOverlaps.overlaps #[23,23] #[4]) (by kernel_rfl) · w) Tryz.underlying23 (UZ Fj) vb g o 1 1 lb cb hne _ _ HNV.out HAT.out (by rw[List.size_toArray];omega)
   go_wp2_with (simp only[hov])
   refine Lex.zl ?_
   clear hov
   have mn1:Nat.min (m+1-i) (m-i)=m-i:=by simp only[Nat.min_def];split<;>omega
   have hcs:(xs.drop (i*2)).length=(m-i)*2:=by rw[List.length_drop,hxl,Nat.sub_mul]
   have Nl:At w.drew g 59 (xs++ys).toArray:=HAT.out
   have hsrc:∀ (j:Nat) (u:Value),(xs.drop (i*2))[j]? = some u->w.drew.cell? ⟨g,i*2+j,none⟩=some u:=fun j u hj=>by
    show w.cell? ⟨g,i*2+j,none⟩=some u
    rw[HAT.out.cell]
    rw[List.getElem?_drop] at hj
    simp[List.getElem?_append_left (List.getElem?_eq_some_iff.1 hj).1,hj]
   have TU:=zh Nl;have HCS:=zh hcs;have MN1:=zh mn1;have Sb:=zh hsrc
   clear Nl hcs mn1 hsrc
   go_wp2_with (refine Ed rfl _ _ rfl Tryz.underlying23 Fj g ((i+1)*2) (m-i) (c-(i+1)) g (i*2) (m+1-i) (c-i) (by rfl) (by rfl) (xs++ys) 59 TU.out (xs.drop (i*2)) (by rw[HCS.out,MN1.out]) Sb.out (by rw[HCS.out,hcl];omega) (fun u hu=>H1.out u (List.mem_of_mem_drop hu)) ?_;intro w5 En hg5 hz5;have GD:=zh En;have HG5:=zh hg5;clear En hg5)
   refine Lex.ze ?_
   have Sc:At w5 vb 59 nw.toArray:=(HG5.out.block vb HNV.out.lt (fun e=>hne (Option.some.inj e))).trans HNV.out
   have aX:=zh Sc
   have mn2:Nat.min 1 (m+1-i)=1:=by simp only[Nat.min_def];split<;>omega
   have lX:((xs++ys).take ((i+1)*2)++(xs.drop (i*2)++(xs++ys).drop ((i+1)*2+(xs.drop (i*2)).length))).length=c*2:=by
    simp only[List.length_append,List.length_take,List.length_drop] at hcl ⊢
    omega
   have Wx:=zh lX;have MN2:=zh mn2
   clear Sc mn2 lX
   obtain⟨C5,hC5⟩:∃ C5,C5=(xs++ys).take ((i+1)*2)++(xs.drop (i*2)++(xs++ys).drop ((i+1)*2+(xs.drop (i*2)).length)):=⟨_,rfl⟩
   rw[<- hC5] at GD Wx
   have JW:∀ (j:Nat) (u:Value),nw[j]? = some u->w5.cell? ⟨vb,0+j,none⟩=some u:=fun j u hj=>by
    rw[Nat.zero_add,aX.out.cell]
    simpa using hj
   have HC5:=zh hC5;have Sd:=zh JW
   clear hC5 JW
   go_wp2_with (refine Ed rfl _ _ rfl Tryz.underlying23 Fj g (i*2) (m+1-i) (c-i) vb 0 1 1 (by rfl) (by rfl) C5 59 GD.out nw (by rw[hnw,MN2.out]) Sd.out (by rw[hnw,Wx.out];omega) H2.out ?_;intro w6 Di hg6 hz6;have Eu:=zh Di;have HG6:=zh hg6;clear Di hg6)
   go_wp2
   go_ret
   refine⟨_,rfl,D8 Eu.out hbg (by omega) hcm ?_ ?_,?_,.inl rfl⟩
   ·have:=Wx.out
    simp only[List.length_append,List.length_take,List.length_drop,hnw] at this ⊢
    omega
   ·have hl:=Wx.out
    have e1:C5.take (i*2)=xs.take (i*2):=by
     rw[HC5.out,List.take_append_of_le_length (by rw[List.length_take,hcl];omega),List.take_take,Nat.min_eq_left (by omega),List.take_append_of_le_length (by omega)]
    have e2:(C5.drop (i*2+nw.length)).take ((m-i)*2)=xs.drop (i*2):=by
     have e3:i*2+nw.length=((xs++ys).take ((i+1)*2)).length:=by rw[List.length_take,hcl,hnw];omega
     rw[HC5.out,e3,List.drop_left,List.take_append_of_le_length (by rw[HCS.out];omega),List.take_of_length_le (by rw[HCS.out];omega)]
    have e4:(m+1)*2=(C5.take (i*2)).length+(nw.length+(m-i)*2):=by rw[List.length_take,hl,hnw];omega
    rw[e4,List.take_length_add_append,List.take_length_add_append,e1,e2]
   ·exact⟨HG6.out.os.trans HG5.out.os,HG6.out.tape.trans HG5.out.tape,HG6.out.output.trans HG5.out.output,Nat.le_trans HG5.out.size HG6.out.size,fun k hk hk2=>(HG6.out.block k (Nat.lt_of_lt_of_le hk HG5.out.size) hk2).trans (HG5.out.block k hk hk2)⟩
  ·have dr:decide ((c:Int)<(m:Int)+1)=true:=zt
   have hxi:(xs.take (i*2)).length=i*2:=by rw[List.length_take,hxl];exact Nat.min_eq_left (Nat.mul_le_mul_right _ hi)
   have HXI:=zh hxi;clear hxi
   have hxs:∀ (j:Nat) (u:Value),(xs.take (i*2))[j]? = some u->w.cell? ⟨g,j,none⟩=some u:=fun j u hj=>by
    rw[HAT.out.cell]
    rw[List.getElem?_take] at hj
    split at hj
    ·simp[List.getElem?_append_left (List.getElem?_eq_some_iff.1 hj).1,hj]
    ·cases hj
   have HXS:=zh hxs;clear hxs
   go_upto_region 10 with (at_builtin;go_must (refine JU JQ Tryz.underlying3 rfl _ _ rfl g i (m+1-i) c .i64 (xs.take (i*2)) rfl _ (show _=((m+1-i:Nat):Int) by omega) rfl HXI.out HXS.out (by omega) (by omega) (by omega) (by omega) ?_);intro nc w5 zs lY sU En hl5 hb5;rw[show i+(m+1-i)=m+1 by omega] at lY ⊢;have HL5:=zh hl5;have GD:=zh En;have HB5:=zh hb5;have cnc:¬ nc=i:=(by omega);have za0:¬ nc=i+1:=(by omega);(obtain⟨G,hG⟩:∃ G,G=w.heap.size:=⟨_,rfl⟩);rw[<- hG] at GD ⊢;have HGG:=zh hG;clear hl5 En hb5 hG)
   have hgl:g<w.heap.size:=HAT.out.lt
   have hgG:g≠G:=by have:=HGG.out;omega
   have hvl:vb<w.heap.size:=HNV.out.lt
   have Sc:At w5 vb 59 nw.toArray:=HNV.out.below HB5.out hvl
   have lZ:At w5 g 59 (xs++ys).toArray:=HAT.out.below HB5.out hgl
   have aX:=zh Sc;have sV:=zh lZ
   have mn2:Nat.min 1 (m+1-i)=1:=by simp only[Nat.min_def];split<;>omega
   have MN2:=zh mn2
   clear Sc lZ mn2
   obtain⟨C5,hC5⟩:∃ C5,C5=xs.take (i*2)++zs:=⟨_,rfl⟩
   have hl5:=HL5.out
   rw[<- hC5] at GD hl5
   have HC5:=zh hC5;clear hC5 HL5
   have HL5:=zh hl5;clear hl5
   have JW:∀ (j:Nat) (u:Value),nw[j]? = some u->w5.cell? ⟨vb,0+j,none⟩=some u:=fun j u hj=>by
    rw[Nat.zero_add,aX.out.cell]
    simpa using hj
   have Sd:=zh JW
   clear JW
   go_wp2_with (refine Ed rfl _ _ rfl Tryz.underlying23 Fj G (i*2) (m+1-i) (nc-i) vb 0 1 1 (by rfl) (by rfl) C5 59 GD.out nw (by rw[hnw,MN2.out]) Sd.out (by rw[hnw,HL5.out];omega) H2.out ?_;intro w6 Di hg6 hz6;have Eu:=zh Di;have HG6:=zh hg6;clear Di hg6)
   have mg:At w6 g 59 (xs++ys).toArray:=(HG6.out.block g (Nat.lt_of_lt_of_le hgl HB5.out.size) (fun e=>hgG (Option.some.inj e))).trans sV.out
   have sW:=zh mg
   have hl6:(C5.take (i*2)++(nw++C5.drop (i*2+nw.length))).length=nc*2:=by
    simp only[List.length_append,List.length_take,List.length_drop,hnw,HL5.out]
    omega
   obtain⟨C6,hC6⟩:∃ C6,C6=C5.take (i*2)++(nw++C5.drop (i*2+nw.length)):=⟨_,rfl⟩
   rw[<- hC6] at Eu hl6
   have HC6:=zh hC6;have HL6:=zh hl6
   clear mg hC6 hl6
   go_wp2
   refine Lex.zl ?_
   have mn1:Nat.min (m-i) (m-i)=m-i:=Nat.min_self _
   have hcs:(xs.drop (i*2)).length=(m-i)*2:=by rw[List.length_drop,hxl,Nat.sub_mul]
   have Nl:At w6.drew G 59 C6.toArray:=Eu.out
   have hsrc:∀ (j:Nat) (u:Value),(xs.drop (i*2))[j]? = some u->w6.drew.cell? ⟨g,i*2+j,none⟩=some u:=fun j u hj=>by
    show w6.cell? ⟨g,i*2+j,none⟩=some u
    rw[sW.out.cell]
    rw[List.getElem?_drop] at hj
    simp[List.getElem?_append_left (List.getElem?_eq_some_iff.1 hj).1,hj]
   have TU:=zh Nl;have HCS:=zh hcs;have MN1:=zh mn1;have Sb:=zh hsrc
   clear Nl hcs mn1 hsrc
   go_wp2_with (refine Ed rfl _ _ rfl Tryz.underlying23 Fj G ((i+1)*2) (m-i) (nc-(i+1)) g (i*2) (m-i) (c-i) (by rfl) (by rfl) C6 59 TU.out (xs.drop (i*2)) (by rw[HCS.out,MN1.out]) Sb.out (by rw[HCS.out,HL6.out];omega) (fun u hu=>H1.out u (List.mem_of_mem_drop hu)) ?_;intro w7 Jo hg7 hz7;have Oc:=zh Jo;have HG7:=zh hg7;clear Jo hg7)
   refine Lex.ze ?_
   go_wp2
   go_ret
   refine⟨_,rfl,D8 Oc.out (by have:=HGG.out;omega) lY sU ?_ ?_,?_,.inr (by rw[HGG.out];rfl)⟩
   ·simp only[List.length_append,List.length_take,List.length_drop,HCS.out,HL6.out]
    omega
   ·have e1 : C6.take ((i + 1) * 2) = xs.take (i * 2) ++ nw :=by
     have e2:C5.take (i*2)=xs.take (i*2):=by rw[HC5.out,List.take_append_of_le_length (by rw[HXI.out];omega),List.take_of_length_le (by rw[HXI.out];omega)]
     have e3:(i+1)*2=(xs.take (i*2)).length+(nw.length+0):=by rw[HXI.out,hnw];omega
     rw[HC6.out,e2,e3,List.take_length_add_append,List.take_length_add_append,List.take_zero,List.append_nil]
    have e4:(m+1)*2=(xs.take (i*2)).length+(nw.length+((xs.drop (i*2)).length+0)):=by rw[HXI.out,hnw,HCS.out];omega
    rw[e1,List.append_assoc,e4,List.take_length_add_append,List.take_length_add_append,List.take_length_add_append,List.take_zero,List.append_nil]
   ·refine⟨?_,?_,?_,?_,fun k hk hk2=>?_⟩
    ·exact(HG7.out.os.trans HG6.out.os).trans HB5.out.os
    ·exact(HG7.out.tape.trans HG6.out.tape).trans HB5.out.tape
    ·exact(HG7.out.output.trans HG6.out.output).trans HB5.out.output
    ·exact Nat.le_trans HB5.out.size (Nat.le_trans HG6.out.size HG7.out.size)
    ·have hkG:some k≠some G:=fun e=>by have:=Option.some.inj e;have:=HGG.out;omega
     have k5:=HB5.out.block k hk
     have s5:=HB5.out.size
     exact((HG7.out.block k (by show k<w6.heap.size;have:=HG6.out.size;omega) hkG).trans (HG6.out.block k (by omega) hkG)).trans k5
theorem YD {css:List (List Value)}(h:∀ cs∈css,∀ u∈cs,u.oneCell' = true):∀ u∈css.flatten,u.oneCell' = true:=by
 intro u hu
 obtain⟨cs,h1,h2⟩:=List.mem_flatten.1 hu
 exact h cs h1 u h2
theorem iT {css:List (List Value)}{k:Nat}(h:∀ cs∈css,cs.length=k):∀ (i j:Nat) (hi:i<css.length),j<k->css.flatten[i*k+j]? = (css[i])[j]? :=by
 induction css with
 | nil=>intro i j hi;cases hi
 | cons c css ih =>
   intro i j hi hj
   have hc:c.length=k:=h c List.mem_cons_self
   rw[List.flatten_cons]
   cases i with
   | zero=>rw[Nat.zero_mul,Nat.zero_add,List.getElem?_append_left (by omega)];rfl
   | succ i =>
     have hi2:i<css.length:=by simpa using hi
     rw[Nat.succ_mul,List.getElem?_append_right (by omega),hc,show i*k+k+j-k=i*k+j by omega,ih (fun cs hcs=>h cs (List.mem_cons_of_mem _ hcs)) i j hi2 hj]
     rfl
namespace Own
end Own
namespace Own
def encS (s:Space)(v:Value):List Value:=[.string s.pre,v,.int .i64 s.threshold]
def Az (S:List Space)(us:List Value):List Value:=(List.zipWith encS S us).flatten
theorem ET {w:World}{base n size:Nat}{e:TypeId}{v:Value}{xs:List Value}(h:w.ownsRow base e size v n xs):∀ k,v.ownBlock=some k->k<w.heap.size:=fun k hk=>by
 obtain⟨cur,hc⟩:=Db h hk
 exact hc.lt
theorem GH {w:World}{base g n cap size:Nat}{e:TypeId}{xs:List Value}(h:w.ownsRow base e size (.slice (some ⟨g,0,none⟩) n cap) n xs)(i:Nat)(hi:i<xs.length)(u:Value):(w.setCell ⟨g,i,none⟩ u).ownsRow base e size (.slice (some ⟨g,0,none⟩) n cap) n (xs.set i u):=by
 obtain⟨ys,h1,h2,h3,h4,h5,h6⟩:=Gf h
 refine D8 (cur:=xs.set i u++ys) ?_ h2 h3 h4 (by simpa using h5) (by rw[List.take_append_of_le_length (by rw[List.length_set,h6];exact Nat.le_refl _),List.take_of_length_le (by rw[List.length_set,h6];exact Nat.le_refl _)])
 have:=h1.set i u
 rwa [List.setIfInBounds_toArray,List.set_append_left _ _ hi] at this
theorem IW:∀ (S:List Space) (us:List Value),us.length=S.length->(Az S us).length=S.length*3
 | [],_,_=>by simp[Az]
 | s::S,[],h=>by cases h
 | s :: S,u :: us,h => by
   have:=IW S us (by simpa using h)
   show(encS s u++Az S us).length=_
   rw[List.length_append,this]
   show 3+S.length*3=(S.length+1)*3
   omega
theorem Ra:∀ (S:List Space) (us:List Value) (i:Nat) (hi:i<S.length) (hi' : i<us.length) (c:Nat) (_:c<3),(Az S us)[i*3+c]? = (encS S[i] us[i])[c]?
 | [],_,i,hi,_,_,_=>by cases hi
 | s::S,[],i,_,hi',_,_=>by cases hi'
 | s :: S,u :: us,0,_,_,c,hc => by
   show(encS s u++Az S us)[0*3+c]? = _
   rw[Nat.zero_mul,Nat.zero_add,List.getElem?_append_left (by show c<3;exact hc)]
   rfl
 | s :: S,u :: us,i + 1,hi,hi',c,hc => by
   have:=Ra S us i (by simpa using hi) (by simpa using hi') c hc
   show(encS s u++Az S us)[(i+1)*3+c]? = _
   rw[List.getElem?_append_right (by show 3<=_;omega)]
   show(Az S us)[(i+1)*3+c-3]? = _
   rw[show(i+1)*3+c-3=i*3+c by omega,this]
   rfl
theorem LU:∀ (S:List Space) (us:List Value) (i:Nat) (_:i<S.length) (_:us.length=S.length) (x:Space) (u:Value),Az (S.set i x) (us.set i u)=(((Az S us).set (i*3) (.string x.pre)).set (i*3+1) u).set (i*3+2) (.int .i64 x.threshold)
 | [],_,i,hi,_,_,_=>by cases hi
 | s::S,[],_,_,h,_,_=>by cases h
 | s::S,v::us,0,_,_,x,u=>rfl
 | s :: S,v :: us,i + 1,hi,hl,x,u => by
   have ih:=LU S us i (by simpa using hi) (by simpa using hl) x u
   have hl3:(encS s v).length=3:=rfl
   show encS s v++Az (S.set i x) (us.set i u)=(((encS s v++Az S us).set ((i+1)*3) _).set ((i+1)*3+1) _).set ((i+1)*3+2) _
   rw[ih,List.set_append_right _ _ (by omega),List.set_append_right _ _ (by omega),List.set_append_right _ _ (by omega),hl3,show(i+1)*3-3=i*3 by omega,show(i+1)*3+1-3=i*3+1 by omega,show(i+1)*3+2-3=i*3+2 by omega]
structure Ca (B:Nat) (w:World) (v:Value) (S:List Space) (us:List Value):Prop where
 len:us.length=S.length
 row:w.ownsRow B 39 3 v S.length (Az S us)
 GJ:∀ i (h:i<S.length) (h' : i<us.length),w.ownsRow B 76 2 us[i] S[i].members.length (S[i].members.flatMap Cy)
 apart:us.Pairwise fun a b=>∀ k,a.ownBlock=some k->b.ownBlock≠some k
theorem Ca.below {B:Nat}{w w' : World}{v:Value}{S:List Space}{us:List Value}(h:Ca B w v S us)(hb:Below w.heap.size w w'):Ca B w' v S us:=
 ⟨h.len,own_below h.row hb,fun i h1 h2=>own_below (h.GJ i h1 h2) hb,h.apart⟩
def iU (C:Nat)(v:Value)(us:List Value):Prop:=(∀ k,v.ownBlock=some k->k<C)/\∀ u∈us,∀ k,u.ownBlock=some k->k<C
theorem Ca.isIn {B:Nat}{w:World}{v:Value}{S:List Space}{us:List Value}(h:Ca B w v S us):iU w.heap.size v us:=by
 refine⟨ET h.row,fun u hu=>?_⟩
 obtain⟨i,hi,rfl⟩:=List.getElem_of_mem hu
 exact ET (h.GJ i (by rw[<- h.len];exact hi) hi)
theorem iU.mono {C C' : Nat}{v:Value}{us:List Value}(h:iU C v us)(hC:C<=C'):iU C' v us:=⟨fun k hk=>Nat.lt_of_lt_of_le (h.1 k hk) hC,fun u hu k hk=>Nat.lt_of_lt_of_le (h.2 u hu k hk) hC⟩
theorem Ca.keep {B C:Nat}{w w' : World}{v:Value}{S:List Space}{us:List Value}(h:Ca B w v S us)(hc:iU C v us)(hk:∀ k,B<=k->k<C->w'.heap[k]? = w.heap[k]?):Ca B w' v S us:=
 ⟨h.len,Ae h.row (fun k e=>hk k (Ak h.row k e) (hc.1 k e)),fun i h1 h2=>Ae (h.GJ i h1 h2) (fun k e=>hk k (Ak (h.GJ i h1 h2) k e) (hc.2 _ (List.getElem_mem h2) k e)),h.apart⟩
theorem Ca.base {B B' : Nat}{w:World}{v:Value}{S:List Space}{us:List Value}(h:Ca B w v S us)(hb:B' <= B):Ca B' w v S us:=
 ⟨h.len,Cw h.row hb,fun i h1 h2=>Cw (h.GJ i h1 h2) hb,h.apart⟩
theorem Ca.slice {B:Nat}{w:World}{v:Value}{S:List Space}{us:List Value}(h:Ca B w v S us):∃ a c,v=.slice a S.length c:=by
 obtain⟨a,m,c,rfl⟩:=Ac h.row
 obtain rfl:=Ba h.row
 exact⟨a,c,rfl⟩
theorem Ca.list {B:Nat}{w:World}{v:Value}{S:List Space}{us:List Value}{F:Nat->Prop}(h:Ca B w v S us)(hF:∀ k,B<=k->F k):Aq 3 EI F w v S:=by
 refine Aq.Qk (css:=List.zipWith encS S us) (Bc.own h.row) rfl (by simp[h.len]) (fun k hk=>hF k (Ak h.row k hk)) (fun i hi hi' => ?_)
 have h2:i<us.length:=by rw[h.len];exact hi
 rw[List.getElem_zipWith]
 exact⟨rfl,us[i],rfl,Cq (enc:=Cy) (fun _=>rfl) (fun _=>rfl) (Bc.own (h.GJ i hi h2)) rfl (fun k hk=>hF k (Ak (h.GJ i hi h2) k hk))⟩
structure Pv (B L:Nat) (F:Nat->Prop) (k:Nat) (w:World) (v:Value) (S:List Space) (us:List Value):Prop where
 len:us.length=S.length
 row:w.ownsRow B 39 3 v S.length (Az S us)
 ZR:∀ j,v.ownBlock=some j->j<L
 new:∀ i (h:i<S.length) (h' : i<us.length),i<k->w.ownsRow L 76 2 us[i] S[i].members.length (S[i].members.flatMap Cy)
 old:∀ i (h:i<S.length) (h' : i<us.length),k<=i->Aq 2 DU F w us[i] S[i].members
 sep:∀ j,F j->v.ownBlock≠some j
 apart:∀ i j (hi:i<us.length) (hj:j<us.length),i<j->j<k->∀ q,us[i].ownBlock=some q->us[j].ownBlock≠some q
theorem Pv.done {B L k:Nat}{F:Nat->Prop}{w:World}{v:Value}{S:List Space}{us:List Value}(h:Pv B L F k w v S us)(hk:S.length<=k)(hB:B<=L):Ca B w v S us:=
 ⟨h.len,h.row,fun i h1 h2=>Cw (h.new i h1 h2 (by omega)) hB,List.pairwise_iff_getElem.2 fun i j hi hj hij=>h.apart i j hi hj hij (by have:=h.len;omega)⟩
theorem Pv.step {B L k g c:Nat}{F:Nat->Prop}{w w5:World}{S:List Space}{us:List Value}{u:Value}(h:Pv B L F k w (.slice (some ⟨g,0,none⟩) S.length c) S us)(hk:k<S.length)(hb:Below w.heap.size w w5)(hL:L<=w.heap.size)(hu:w5.ownsRow w.heap.size 76 2 u S[k].members.length (S[k].members.flatMap Cy)):
 Pv B L F (k+1) (((w5.setCell ⟨g,k*3,none⟩ (.string S[k].pre)).setCell ⟨g,k*3+1,none⟩ u).setCell ⟨g,k*3+2,none⟩ (.int .i64 S[k].threshold)) (.slice (some ⟨g,0,none⟩) S.length c) S (us.set k u):=by
 have hgL:g<L:=h.ZR g rfl
 have far:∀ j,j≠g->(((w5.setCell ⟨g,k*3,none⟩ (.string S[k].pre)).setCell ⟨g,k*3+1,none⟩ u).setCell ⟨g,k*3+2,none⟩ (.int .i64 S[k].threshold)).heap[j]? = w5.heap[j]? :=fun j hj=>by
  rw[zo hj,zo hj,zo hj]
 have hcl:=IW S us h.len
 have hrow:=own_below h.row hb
 have hset:Az S (us.set k u)=(((Az S us).set (k*3) (.string S[k].pre)).set (k*3+1) u).set (k*3+2) (.int .i64 S[k].threshold):=by
  have:=LU S us k hk h.len S[k] u
  rwa [List.set_getElem_self] at this
 refine⟨by simp[h.len],?_,h.ZR,fun i h1 h2 h3=>?_,fun i h1 h2 h3=>?_,h.sep,fun i j hi hj hij hjk q hq=>?_⟩
 ·rw[hset]
  exact GH (GH (GH hrow _ (by omega) _) _ (by rw[List.length_set];omega) _) _ (by rw[List.length_set,List.length_set];omega) _
 ·rw[List.length_set] at h2
  by_cases hik:k=i
  ·subst hik
   rw[List.getElem_set_self]
   exact Ae (Cw hu hL) (fun j hj=>far j (by have:w.heap.size<=j:=Ak hu j hj;omega))
  ·rw[List.getElem_set_ne hik]
   have hn:=own_below (h.new i h1 h2 (by omega)) hb
   exact Ae hn (fun j hj=>far j (by have:=Ak hn j hj;omega))
 ·rw[List.length_set] at h2
  rw[List.getElem_set_ne (by omega)]
  exact((h.old i h1 h2 (by omega)).below hb).keep (by simp[World.setCell]) (fun j hj _=>far j (fun e=>h.sep j hj (by rw[e];rfl)))
 ·rw[List.length_set] at hi hj
  rw[List.getElem_set_ne (by omega)] at hq
  by_cases xB:k=j
  ·subst xB
   rw[List.getElem_set_self]
   intro e
   have h1:=ET (h.new i (by rw[<- h.len];exact hi) hi (by omega)) q hq
   have h2:=Ak hu q e
   omega
  ·rw[List.getElem_set_ne xB]
   exact h.apart i j hi hj hij (by omega) q hq
theorem YE {F:Nat->Prop}{w:World} : ∀ {S:List Space} {css:List (List Value)},css.length=S.length->(∀ i (hi:i<S.length) (hi' : i<css.length),css[i].length=3/\EI F w css[i] S[i])->
 ∃ us:List Value,us.length=S.length/\css.flatten=Az S us/\∀ i (h:i<S.length) (h' : i<us.length),Aq 2 DU F w us[i] S[i].members
 | [],[],_,_=>⟨[],rfl,rfl,fun i h=>by cases h⟩
 | [],_::_,h,_=>by cases h
 | _::_,[],h,_=>by cases h
 | s :: S,cs :: css,h,hc => by
   obtain⟨us,h1,h2,h3⟩:=YE (S:=S) (css:=css) (by simpa using h) (fun i hi hi' => hc (i+1) (by simp;omega) (by simp;omega))
   obtain⟨_,v,hv,hm⟩:=hc 0 (by simp) (by simp)
   have hv:cs=encS s v:=hv
   refine⟨v::us,by simp[h1],?_,fun i hi hi' => ?_⟩
   ·rw[List.flatten_cons,h2,hv]
    rfl
   ·cases i with
    | zero=>exact hm
    | succ i=>exact h3 i (by simpa using hi) (by simpa using hi')
end Own
structure za1 (w:World) (o:Own.Ao) (sv kv:Value) (us:List Value) (B:Nat) (w' : World):Prop where
 lo:w.heap.size+2<=B
 hi:B<=w'.heap.size
 sp:Own.Ca (w.heap.size+2) w' sv o.spaces us
 inn:Own.iU B sv us
 ks:w'.ownsRow B 59 2 kv o.keys.length (o.keys.flatMap Own.Dw)
 bel:Below w.heap.size w w'
theorem KW (o:Own.Ao)(sv kv:Value)(w:World)(hS:Own.BF w sv o.spaces)(hK:Own.Du w kv o.keys)(hls:o.spaces.length<=3000000)(hlk:o.keys.length<=3000000)(hlm:∀ s∈o.spaces,s.members.length<=3000000):
 Calls Tryz.prog 50 #[.agg #[.int .i64 o.count,sv,kv]] w fun e w' => ∃ sv' kv' us B,e=.returned (.agg #[.int .i64 o.count,sv',kv'])/\za1 w o sv' kv' us B w':=by
 obtain⟨sa,sc,rfl⟩:=hS.len
 obtain⟨ka,kc,rfl⟩:=hK.len
 have ha1:=(At.new w 25 #[.int .i64 o.count,.slice sa o.spaces.length sc,.slice ka o.keys.length kc]).alloc (.cells #[.int .i64 0,.slice none 0 0,.slice none 0 0] 25)
 have ha2:=At.new1 w (.cells #[.int .i64 o.count,.slice sa o.spaces.length sc,.slice ka o.keys.length kc] 25) 25 #[.int .i64 0,.slice none 0 0,.slice none 0 0]
 have hb1:Below w.heap.size w ((w.alloc (.cells #[.int .i64 o.count,.slice sa o.spaces.length sc,.slice ka o.keys.length kc] 25)).alloc (.cells #[.int .i64 0,.slice none 0 0,.slice none 0 0] 25)):=zb.alloc (by simp) _
 have hz1:((w.alloc (.cells #[.int .i64 o.count,.slice sa o.spaces.length sc,.slice ka o.keys.length kc] 25)).alloc (.cells #[.int .i64 0,.slice none 0 0,.slice none 0 0] 25)).heap.size=w.heap.size+2:=by simp
 have hs1:=(hS.mono (G:=fun k=>k<w.heap.size) (fun k _ hk=>hk)).below hb1;have hk1:=(hK.mono (G:=fun k=>k<w.heap.size) (fun k _ hk=>hk)).below hb1
 have c1:=ha1.cell 1
 simp only[zg] at c1
 have HS:=zh hs1;have HK:=zh hk1;have HA1:=zh ha1;have HA2:=zh ha2;have HB1:=zh hb1;have HLM:=zh hlm
 clear hS hK hs1 hk1 ha1 ha2 hb1 hlm
 go_enter Tryz.func50,Tryz.ntmps50
 go_wp2_with fail
 generalize (w.alloc (.cells #[.int .i64 o.count,.slice sa o.spaces.length sc,.slice ka o.keys.length kc] 25)).alloc (.cells #[.int .i64 0,.slice none 0 0,.slice none 0 0] 25)=w1 at*
 obtain⟨css,q1,q2,q3⟩:=Aq.cells HS.out
 obtain⟨us0,u1,u2,u3⟩:=Own.YE q1 q2
 have hone:∀ u∈css.flatten,u.oneCell' = true:=YD fun cs hcs u hu=>by
  obtain⟨i,hi,rfl⟩:=List.getElem_of_mem hcs
  obtain⟨_,v,hv,hm⟩:=q2 i (by omega) hi
  rw[hv] at hu
  obtain⟨a,c,rfl⟩:=hm.len
  simp at hu
  rcases hu with rfl|rfl|rfl<;>rfl
 refine(Ww _ o.spaces.length css.flatten w1 q3 hone hls).mono ?_
 rintro e w2 ⟨v',rfl,ho,hb2⟩
 obtain⟨a,m,c,rfl⟩:=Ac ho
 obtain rfl:=Ba ho
 have hup:=Ak ho
 have hlt:=Own.ET ho
 have A1:=zh (HA1.out.below hb2 (by omega));have A2:=zh (HA2.out.below hb2 (by omega));have B2:=zh (HB1.out.trans (hb2.mono HB1.out.size));have HK2:=zh (HK.out.below hb2)
 have hz2:=hb2.size
 have hmx:Own.Pv (w.heap.size+2) w2.heap.size (fun k=>k<w.heap.size) 0 w2 (.slice a o.spaces.length c) o.spaces us0:=by
  refine⟨u1,by rw[<- u2,<- hz1];exact ho,hlt,fun i _ _ h=>by omega,fun i h1 h2 _=>(u3 i h1 h2).below hb2,fun k hk e=>by have:=hup k e;omega,fun i j _ _ _ h=>by omega⟩
 have HMX:=zh hmx;have HUP:=zh hup
 have z1:=A1.out.free 1;have y1:=A1.out.cell 1
 simp only[zg] at y1
 clear hb2 hmx HA1 HA2 HB1 HK HS c1 ho hup hlt q1 q2 q3 u1 u2 u3 hone
 go_upto_region 2 with fail
 have VO:=A1.out.set 1 (.slice a o.spaces.length c)
 have TI:At (w2.setCell ⟨w.heap.size,1,none⟩ (.slice a o.spaces.length c)) w.heap.size 25 #[.int .i64 o.count,.slice a o.spaces.length c,.slice ka o.keys.length kc]:=VO
 have xC:=A2.out.far (p:=⟨w.heap.size,1,none⟩) (by simp) (.slice a o.spaces.length c)
 have hb4:=B2.out.setCell (p:=⟨w.heap.size,1,none⟩) (Nat.le_refl _) (.slice a o.spaces.length c)
 have hz4:(w2.setCell ⟨w.heap.size,1,none⟩ (.slice a o.spaces.length c)).heap.size=w2.heap.size:=by simp[World.setCell]
 have hk4:=HK2.out.keep (w':=w2.setCell ⟨w.heap.size,1,none⟩ (.slice a o.spaces.length c)) (by simp[World.setCell]) (fun k hk _=>zo (by show k≠w.heap.size;omega))
 have hm4:Own.Pv (w.heap.size+2) w2.heap.size (fun k=>k<w.heap.size) 0 (w2.setCell ⟨w.heap.size,1,none⟩ (.slice a o.spaces.length c)) (.slice a o.spaces.length c) o.spaces us0:=
  ⟨HMX.out.len,Ae HMX.out.row (fun k hk => heap_setCell_other _ _ _ _ (by show k ≠ w.heap.size;have :=Ak HMX.out.row k hk;omega)),HMX.out.ZR,fun i _ _ h => by omega,
    fun i h1 h2 h3=>(HMX.out.old i h1 h2 h3).keep (by simp[World.setCell]) (fun k hk _=>zo (by show k≠w.heap.size;omega)),HMX.out.sep,fun i j _ _ _ h=>by omega⟩
 obtain⟨L,hL⟩:∃ L,L=w2.heap.size:=⟨_,rfl⟩
 rw[<- hL] at hm4 hz4
 have A4:=zh TI;have R4:=zh xC;have B4:=zh hb4;have HK4:=zh hk4;have HM4:=zh hm4;have HZ4:=zh hz4
 have hL2:w.heap.size+2<=L:=by omega
 have c1:=TI.cell 1
 simp only[zg] at c1
 clear VO TI xC hb4 hk4 hm4 hz4 hL HMX HUP HK2 A1 A2 B2 z1 y1 hz2
 generalize w2.setCell ⟨w.heap.size,1,none⟩ (.slice a o.spaces.length c)=w4 at*
 go_wp2
 go_loopw [11] (fun i wr=>∃ (k:Nat) (us:List Value),k<=o.spaces.length/\i=.int .i64 k/\Own.Pv (w.heap.size+2) L (fun k=>k<w.heap.size) k wr (.slice a o.spaces.length c) o.spaces us/\Fr (fun k=>w.heap.size+2<=k/\a=some ⟨k,0,none⟩) w4 wr) (fun i _=>o.spaces.length-(intOf i).toNat)
 case atStart=>exact⟨0,us0,by omega,rfl,HM4.out,Fr.refl _ _⟩
 case round=>
  obtain⟨k,us,hk,rfl,hrow,hfr⟩:=hrel
  have oV:=hfr.at A4.out (fun h=>by omega)
  have xD:=hfr.at R4.out (fun h=>by omega)
  have hfz:=hfr.size
  have hLr:L<=wr.heap.size:=by have:=HZ4.out;omega
  have kr:=zh hrow;have HFR:=zh hfr;have AR:=zh oV;have RR:=zh xD
  have c1:=oV.cell 1
  simp only[zg] at c1
  have hbl:=oV.lt
  clear oV xD hfr
  by_cases hlt:k<o.spaces.length
  ·have dk:decide ((k:Int)<o.spaces.length)=true:=zt
   obtain⟨g,cap,hv,hcell⟩:=Ct hrow.row (by omega)
   cases hv
   obtain⟨ys,q1,hbg,_,_,_,hxl⟩:=Gf hrow.row
   have hku:k<us.length:=by rw[hrow.len];exact hlt
   have hget:=Own.Ra o.spaces us k hlt hku
   have f0:=hcell (k*3) _ (hget 0 (by omega));have f1:=hcell (k*3+1) _ (hget 1 (by omega));have f2:=hcell (k*3+2) _ (hget 2 (by omega))
   have z0:=q1.free (k*3);have z1:=q1.free (k*3+1);have z2:=q1.free (k*3+2)
   have e3:=hrow.old k hlt hku (Nat.le_refl _)
   have hlm:=HLM.out o.spaces[k] (List.getElem_mem hlt)
   obtain⟨ma,mc,hvk⟩:=e3.len
   rw[hvk] at e3 f1
   have Q1:=zh q1
   have hcp:=Em o.spaces[k].pre o.spaces[k].threshold _ o.spaces[k].members wr.drew ((e3.below ((Below.refl _ _).drew)).mono (fun _ _ _=>trivial)) hlm
   have HCP:=zh hcp
   obtain⟨pre,hpre⟩:∃ x,x=o.spaces[k].pre:=⟨_,rfl⟩
   obtain⟨th,hth⟩:∃ x,x=o.spaces[k].threshold:=⟨_,rfl⟩
   rw[<- hpre] at f0 HCP
   rw[<- hth] at f2 HCP
   have TM:=zh hpre;have HTH:=zh hth
   have hgl:g<wr.heap.size:=q1.lt
   clear hrow q1 e3 hvk hlm hcp hpre hth hcell hget hku hxl
   go_wp2
   refine Lex.zn (fun j=>j=w.heap.size) [1] 9 [9] ?_
   simp only[Lex.Bp,zd]
   go_wp2_with fail
   refine HCP.out.mono ?_
   rintro e w5 ⟨v',rfl,hov,hb5⟩
   have TF : Below wr.heap.size wr w5:=(Below.refl wr.heap.size wr).drew.trans hb5
   obtain⟨va,vm,vc,rfl⟩:=Ac hov
   have y0:=(TF.cell (p:=⟨g,k*3,none⟩) hgl).trans f0;have y1:=(TF.cell (p:=⟨g,k*3+1,none⟩) hgl).trans f1;have y2:=(TF.cell (p:=⟨g,k*3+2,none⟩) hgl).trans f2
   have q5:=Q1.out.below TF hgl
   have x0:=q5.free (k*3);have x1:=q5.free (k*3+1);have x2:=q5.free (k*3+2)
   have c5:=(TF.cell (p:=⟨w.heap.size,1,none⟩) hbl).trans c1
   have HB5:=zh TF;have HOV:=zh hov
   clear hb5 TF hov q5 f0 f1 f2 z0 z1 z2 Q1
   go_wp2
   refine Lex.Mid.intro (fun j hj _=>by rw[hj];exact HB5.out.block _ hbl) ?_
   go_wp2
   refine Lex.zk ⟨⟨rfl,zi c1⟩,trivial⟩ ?_
   go_wp2
   go_round
   case measure=>simp[intOf];omega
   case rel=>
    have hs5:=kr.out.step hlt HB5.out hLr HOV.out
    rw[<- TM.out,<- HTH.out] at hs5
    refine⟨k+1,us.set k (.slice va vm vc),by omega,by go_num,hs5,?_⟩
    have f5:Fr (fun k=>w.heap.size+2<=k/\(some ⟨g,0,none⟩:Option Addr)=some ⟨k,0,none⟩) w4 w5:=HFR.out.trans (Fr.of_below HB5.out) (fun _ h=>.inl h)
    exact((f5.setCell (p:=⟨g,k*3,none⟩) (.inl ⟨hbg,rfl⟩) _).setCell (p:=⟨g,k*3+1,none⟩) (.inl ⟨hbg,rfl⟩) _).setCell (p:=⟨g,k*3+2,none⟩) (.inl ⟨hbg,rfl⟩) _
  ·have dk:decide ((k:Int)<o.spaces.length)=false:=zf
   have hso:=hrow.done (by omega) hL2
   have hkr:=HK4.out.fr HFR.out (fun k hk h=>by omega)
   have hkm:=Own.Du.rows (hkr.mono (G:=Own.aP) (fun _ _ _=>trivial))
   have c2:=AR.out.cell 2
   simp only[zg] at c2
   have HSO:=zh hso;have HKM:=zh hkm
   clear hrow hso hkr hkm
   go_wp2_with fail
   refine(aT _ o.keys.length _ wr HKM.out (Own.qV _) hlk).mono ?_
   rintro e w5 ⟨v',rfl,hov,hb5⟩
   have hup:=Ak hov
   obtain⟨va,vm,vc,rfl⟩:=Ac hov
   have q5:=AR.out.below hb5 hbl
   have r5:=RR.out.below hb5 RR.out.lt
   have x0:=q5.cell 0;have x1:=q5.cell 1;have x2:=q5.cell 2;have x3:=q5.free 2
   have y0:=r5.cell 0;have y1:=r5.cell 1;have y2:=r5.cell 2;have y3:=r5.free 0;have y4:=r5.free 1;have y5:=r5.free 2
   simp only[zg] at x0 x1 x2 y0 y1 y2
   have HB5:=zh hb5;have HOV:=zh hov;have HUP:=zh hup;have R5:=zh r5
   clear hb5 hov hup q5 r5 c1 c2
   go_wp2
   have F2:=(((R5.out.far (p:=⟨w.heap.size,2,none⟩) (by simp) (.slice va vm vc)).set 0 (.int .i64 o.count)).set 1 (.slice a o.spaces.length c)).set 2 (.slice va vm vc)
   have far:∀ k,k≠w.heap.size->k≠w.heap.size+1->((((w5.setCell ⟨w.heap.size,2,none⟩ (.slice va vm vc)).setCell ⟨w.heap.size+1,0,none⟩ (.int .i64 o.count)).setCell ⟨w.heap.size+1,1,none⟩ (.slice a o.spaces.length c)).setCell ⟨w.heap.size+1,2,none⟩ (.slice va vm vc)).heap[k]? = w5.heap[k]? :=fun k h1 h2=>by
    rw[zo h2,zo h2,zo h2,zo h1]
   have hrz:w.heap.size+1<wr.heap.size:=RR.out.lt
   have xE:=HB5.out.size
   refine Ob rfl rfl (AJ F2 Tryz.underlying25 rfl Bt) ⟨_,_,us,wr.heap.size,rfl,by omega,by simpa [World.setCell] using xE,?_,HSO.out.isIn,?_,?_⟩
   ·exact(HSO.out.below HB5.out).keep (HSO.out.isIn.mono xE) (fun k hk _=>far k (by omega) (by omega))
   ·exact Ae HOV.out (fun k hk=>far k (by have:=HUP.out k hk;omega) (by have:=HUP.out k hk;omega))
   ·have za2:Below w.heap.size w w5:=(B4.out.trans (HFR.out.below (B:=w.heap.size) (by have:=HZ4.out;omega) (fun k hk=>by omega))).trans (HB5.out.mono (by omega))
    exact(((za2.setCell (p:=⟨w.heap.size,2,none⟩) (Nat.le_refl _) _).setCell (p:=⟨w.heap.size+1,0,none⟩) (by simp) _).setCell (p:=⟨w.heap.size+1,1,none⟩) (by simp) _).setCell (p:=⟨w.heap.size+1,2,none⟩) (by simp) _
theorem iV (cnt:Int)(sv kv:Value)(l:List Own.KeyUse)(p:ByteArray)(w:World)(h:Own.Du w kv l)(hs:Own.Srt Own.KeyUse.pub l)(hl:l.length<=1000000):
 Calls Tryz.prog 149 #[.agg #[.int .i64 cnt,sv,kv],.string p] w fun e w' => e=.returned (.tuple #[.int .i64 (Own.posB Own.KeyUse.pub p l:Nat),.bool (Own.Dl Own.KeyUse.pub p l)])/\Below w.heap.size w w':=by
 obtain⟨ka,kc,rfl⟩:=h.len
 have hb1:Below w.heap.size w (w.alloc (.cells #[.int .i64 cnt,sv,.slice ka l.length kc] 25)):=zb
 have hbs:=aW _ l p _ (h.below hb1) hs hl
 have HB:=zh hb1;have HBS:=zh hbs
 obtain⟨q,hq⟩:∃ q:Nat,q=Own.posB Own.KeyUse.pub p l:=⟨_,rfl⟩
 obtain⟨r,hr⟩:∃ r,r=Own.Dl Own.KeyUse.pub p l:=⟨_,rfl⟩
 rw[<- hq,<- hr] at HBS ⊢
 clear hb1 hbs h hs hq hr
 go_enter Tryz.func149,Tryz.ntmps149
 go_wp2_with fail
 refine HBS.out.mono ?_
 rintro e w2 ⟨rfl,hb2⟩
 have HB2:=zh (HB.out.trans (hb2.mono HB.out.size));clear hb2
 go_wp2
 go_ret2
 exact⟨rfl,HB2.out⟩
namespace Own
theorem iW {p m:ByteArray}{s:Sig.T}(h:Sig.verify p m s=true):0<=s.index/\s.index<64:=by
 unfold Sig.verify Sig.Bn at h
 simp only[Bool.and_eq_true,decide_eq_true_eq] at h
 obtain⟨⟨⟨⟨⟨⟨_,h1⟩,h2⟩,h3⟩,_⟩,_⟩,_⟩:=h
 refine⟨h2,Int.lt_of_lt_of_le h3 ?_⟩
 have:(2:Nat)^(p.get! 32).toNat<=2^6:=Nat.pow_le_pow_right (by omega) h1
 have e:((2:Int)^(p.get! 32).toNat)=((2^(p.get! 32).toNat:Nat):Int):=(Int.natCast_pow 2 _).symm
 rw[e]
 omega
def Hq (w:World)(v:Value)(l:List Ai):Prop:=∃ a c,v=.slice a l.length c/\∀ i (hi:i<l.length),∃ b o cv pv,a=some ⟨b,o,none⟩/\b<w.heap.size/\w.cell? ⟨b,o+i*4,none⟩=some (.string l[i].name)/\w.cell? ⟨b,o+i*4+1,none⟩=some (.int .i64 l[i].sig.index)/\
 w.cell? ⟨b,o+i*4+2,none⟩=some cv/\w.cell? ⟨b,o+i*4+3,none⟩=some pv/\Al w cv l[i].sig.chains/\Al w pv l[i].sig.path/\Eb pv
theorem Hq.below {w w' : World}{v:Value}{l:List Ai}(h:Hq w v l)(hb:Below w.heap.size w w'):Hq w' v l:=by
 obtain⟨a,c,rfl,h⟩:=h
 refine⟨a,c,rfl,fun i hi=>?_⟩
 obtain⟨b,o,cv,pv,h1,h2,h3,h4,h5,h6,h7,h8,h9⟩:=h i hi
 exact⟨b,o,cv,pv,h1,Nat.lt_of_lt_of_le h2 hb.size,(hb.cell (p:=⟨b,_,none⟩) h2).trans h3,(hb.cell (p:=⟨b,_,none⟩) h2).trans h4,(hb.cell (p:=⟨b,_,none⟩) h2).trans h5,(hb.cell (p:=⟨b,_,none⟩) h2).trans h6,h7.below hb,h8.below hb,h9⟩
def DV (l:List ByteArray):ByteArray->Option Value:=fun p=>if l.any (fun x=>decide (x=p)) then some (.bool true) else none
theorem Wy (l:List ByteArray)(n:ByteArray):DV (n::l)=Y5 (DV l) n (.bool true):=by
 funext p
 unfold DV Y5
 rw[List.any_cons]
 by_cases h:n=p
 ·simp[h]
 ·rw[decide_eq_false h,Bool.false_or,if_neg h]
def nobody:Value:=.agg #[.int .i64 0,.slice none 0 0,.slice none 0 0]
end Own
theorem Sg:∀ (K:List Own.KeyUse) (p:Nat) (h:p<K.length) (v:Int),(K.flatMap Own.Dw).set (p*2+1) (.int .i64 v)=(K.set p ⟨K[p].pub,v⟩).flatMap Own.Dw
 | [],p,h,_=>by cases h
 | x :: K,0,_,v => by
   rw[List.flatMap_cons,List.set_cons_zero,List.flatMap_cons]
   rfl
 | x :: K,p + 1,h,v => by
   have ih:=Sg K p (by simpa using h) v
   rw[List.flatMap_cons,List.set_cons_succ,List.flatMap_cons,show(p+1)*2+1=(p*2+1)+1+1 by omega]
   show Value.string x.pub::Value.int .i64 x.next::(K.flatMap Own.Dw).set (p*2+1) _=_
   rw[ih]
   rfl
theorem YF (K:List Own.KeyUse)(p:Nat)(h:p<K.length):(K.flatMap Own.Dw)[p*2+1]? = some (.int .i64 K[p].next):=by
 have e:K.flatMap Own.Dw=(K.map Own.Dw).flatten:=List.flatMap_def
 rw[e,iT (k:=2) (fun cs hcs=>by obtain⟨x,_,rfl⟩:=List.mem_map.1 hcs;rfl) p 1 (by simpa using h) (by omega),List.getElem_map]
 rfl
namespace Own
theorem TV (K:List KeyUse):(K.flatMap Dw).length=K.length*2:=by
 induction K with
 | nil=>rfl
 | cons x K ih=>rw[List.flatMap_cons,List.length_append,ih,List.length_cons];show 2+_=_;omega
structure Placed (Kc K1:List KeyUse) (p:ByteArray):Prop where
 at_:∃ h:posB KeyUse.pub p Kc<K1.length,K1[posB KeyUse.pub p Kc].pub=p/\K1[posB KeyUse.pub p Kc].next=Bf Kc p
 use:∀ x,use Kc ⟨p,x⟩=K1.set (posB KeyUse.pub p Kc) ⟨p,x⟩
 len:K1.length<=Kc.length+1
theorem aY {Kc:List KeyUse}{p:ByteArray}(hs:Srt KeyUse.pub Kc)(h:Dl KeyUse.pub p Kc=true):Placed Kc Kc p:=by
 have hn:=LD p hs
 rw[h,if_pos rfl] at hn
 have hh:=h
 unfold Dl at h
 cases hg:Kc[posB KeyUse.pub p Kc]? with
 | none=>rw[hg] at h;cases h
 | some k =>
   rw[hg] at h hn
   obtain⟨hl,he⟩:=List.getElem?_eq_some_iff.1 hg
   refine⟨⟨hl,?_,?_⟩,fun x=>?_,by omega⟩
   ·rw[he];exact of_decide_eq_true h
   ·rw[he,hn]
   ·rw[EP,MN]
    show Kc.take (posB KeyUse.pub p Kc)++_::Kc.drop (posB KeyUse.pub p Kc+if Dl KeyUse.pub p Kc=true then 1 else 0)=_
    rw[hh,if_pos rfl,List.set_eq_take_append_cons_drop,if_pos hl]
theorem YG {Kc:List KeyUse}{p:ByteArray}(hs:Srt KeyUse.pub Kc)(h:Dl KeyUse.pub p Kc=false):Placed Kc (Kc.take (posB KeyUse.pub p Kc)++(⟨p,0⟩::Kc.drop (posB KeyUse.pub p Kc))) p:=by
 have hn:=LD p hs
 rw[h,if_neg (by simp)] at hn
 have hle:=MK (f:=KeyUse.pub) p Kc
 have hl:(Kc.take (posB KeyUse.pub p Kc)).length=posB KeyUse.pub p Kc:=by rw[List.length_take];omega
 have hg:(Kc.take (posB KeyUse.pub p Kc)++(⟨p,0⟩::Kc.drop (posB KeyUse.pub p Kc)))[posB KeyUse.pub p Kc]? = some ⟨p,0⟩:=by
  rw[List.getElem?_append_right (by omega),hl,Nat.sub_self]
  rfl
 obtain⟨hlt,he⟩:=List.getElem?_eq_some_iff.1 hg
 refine⟨⟨hlt,by rw[he],by rw[he,hn]⟩,fun x=>?_,by simp;omega⟩
 rw[EP,MN]
 show Kc.take (posB KeyUse.pub p Kc)++_::Kc.drop (posB KeyUse.pub p Kc+if Dl KeyUse.pub p Kc=true then 1 else 0)=_
 rw[h,if_neg (by simp),Nat.add_zero,List.set_append_right _ _ (by omega),hl,Nat.sub_self]
 rfl
end Own
def YH (w:World)(o:Own.Ao)(n th:Int)(R:Except Int (List Own.KeyUse))(e:Ending)(w' : World):Prop:=
 (match R with
   | .error c=>e=.returned (.tuple #[Own.nobody,.int .i64 c])
   | .ok K=>if n<th then e=.returned (.tuple #[Own.nobody,.int .i64 20]) else ∃ sv kv us,e=.returned (.tuple #[.agg #[.int .i64 o.count,sv,kv],.int .i64 0])/\Own.Ca w.heap.size w' sv o.spaces us/\w'.ownsRow w.heap.size 59 2 kv K.length (K.flatMap Own.Dw))/\Below w.heap.size w w'
theorem Si (o:Own.Ao)(s:Own.Space)(msg:ByteArray)(l:List Own.Ai)(sv kv mv lv:Value)(w:World)(hS:Own.BF w sv o.spaces)(hK:Own.Du w kv o.keys)(hm:Own.Af w mv s.members)(hA:Own.Hq w lv l)
 (hsrt:Own.Srt Own.KeyUse.pub o.keys) (hls:o.spaces.length<=3000000) (hlk:o.keys.length+l.length<=900000) (hlm:∀ s∈o.spaces,s.members.length<=3000000) (hml:s.members.length<=3000000) (JF:msg.size<=9223372036854775000)
 (hal:∀ a∈l,a.name.size<=140737488355328/\a.sig.chains.length<=140737488355328/\a.sig.path.length<=140737488355328):
 Calls Tryz.prog 97 #[.agg #[.int .i64 o.count,sv,kv],.agg #[.string s.pre,mv,.int .i64 s.threshold],.string msg,lv] w (YH w o l.length s.threshold (Own.Bl s msg [] o.keys l)):=by
 obtain⟨R,hR⟩:∃ R,R=Own.Bl s msg [] o.keys l:=⟨_,rfl⟩
 obtain⟨Q,hQ⟩:∃ Q,Q=YH w o l.length s.threshold R:=⟨_,rfl⟩
 rw[<- hR,<- hQ]
 have HQ:=zh hQ;have HR:=zh hR;clear hQ hR
 obtain⟨sa,sc,rfl⟩:=hS.len
 obtain⟨ka,kc,rfl⟩:=hK.len
 obtain⟨ma,mc,rfl⟩:=hm.len
 obtain⟨la,lc,rfl,hap⟩:=id hA
 clear hap
 have hb1:Below w.heap.size w (((w.alloc (.cells #[.int .i64 o.count,.slice sa o.spaces.length sc,.slice ka o.keys.length kc] 25)).alloc (.cells #[.string s.pre,.slice ma s.members.length mc,.int .i64 s.threshold] 39)).alloc (.cells #[.int .i64 0,.slice none 0 0,.slice none 0 0] 25)):=(zb.alloc (by simp) _).alloc (by simp;omega) _
 have hz1:(((w.alloc (.cells #[.int .i64 o.count,.slice sa o.spaces.length sc,.slice ka o.keys.length kc] 25)).alloc (.cells #[.string s.pre,.slice ma s.members.length mc,.int .i64 s.threshold] 39)).alloc (.cells #[.int .i64 0,.slice none 0 0,.slice none 0 0] 25)).heap.size=w.heap.size+3:=by simp
 have ha0:=((At.new w 25 #[.int .i64 o.count,.slice sa o.spaces.length sc,.slice ka o.keys.length kc]).alloc (.cells #[.string s.pre,.slice ma s.members.length mc,.int .i64 s.threshold] 39)).alloc (.cells #[.int .i64 0,.slice none 0 0,.slice none 0 0] 25)
 have ha1:=(At.new1 w (.cells #[.int .i64 o.count,.slice sa o.spaces.length sc,.slice ka o.keys.length kc] 25) 39 #[.string s.pre,.slice ma s.members.length mc,.int .i64 s.threshold]).alloc (.cells #[.int .i64 0,.slice none 0 0,.slice none 0 0] 25)
 have ha2:=At.new ((w.alloc (.cells #[.int .i64 o.count,.slice sa o.spaces.length sc,.slice ka o.keys.length kc] 25)).alloc (.cells #[.string s.pre,.slice ma s.members.length mc,.int .i64 s.threshold] 39)) 25 #[.int .i64 0,.slice none 0 0,.slice none 0 0]
 rw[World.size_alloc,World.size_alloc] at ha2
 have hs1:=hS.below hb1;have hk1:=hK.below hb1
 obtain⟨c0,c1,c2⟩:=ha0.c3
 have HS:=zh hs1;have HK:=zh hk1;have HM:=zh hm;have HA:=zh hA;have A0:=zh ha0;have A1:=zh ha1;have A2:=zh ha2;have B1:=zh hb1;have HLM:=zh hlm;have HAL:=zh hal;have za3:=zh hsrt
 clear hS hK hm hA hs1 hk1 ha0 ha1 ha2 hb1 hlm hal hsrt
 go_enter Tryz.func97,Tryz.ntmps97
 go_wp2_with fail
 generalize ((w.alloc (.cells #[.int .i64 o.count,.slice sa o.spaces.length sc,.slice ka o.keys.length kc] 25)).alloc (.cells #[.string s.pre,.slice ma s.members.length mc,.int .i64 s.threshold] 39)).alloc (.cells #[.int .i64 0,.slice none 0 0,.slice none 0 0] 25)=w1 at*
 refine(KW o _ _ w1 HS.out HK.out hls (by omega) HLM.out).mono ?_
 rintro e w2 ⟨sv',kv',us,B,rfl,hB1,hB2,hsp,hin,hkr,hb2⟩
 obtain⟨sa',ss',za4⟩:=hsp.slice
 subst za4
 have HIN:=zh hin;clear hin
 obtain⟨ka',km',kc',rfl⟩:=Ac hkr
 obtain rfl:=Ba hkr
 have a1:=A1.out.below hb2 (by omega);have a2:=A2.out.below hb2 (by omega)
 have hbw2:=B1.out.trans (hb2.mono B1.out.size)
 have hz2:=hb2.size
 have A12:=zh a1;have A22:=zh a2;have BW2:=zh hbw2;have HSP:=zh hsp;have HKR:=zh hkr
 clear hb2 a1 a2 hbw2 hsp hkr HS HK A0 A1 A2 B1 HLM c0 c1 c2
 have hmm :=@run_makeMap Tryz.prog
 go_wp2_with fail
 clear hmm
 obtain⟨OB,hOB⟩:∃ OB,OB=w2.heap.size:=⟨_,rfl⟩
 have XU:At ((w2.alloc (.cells #[.int .i64 o.count,.slice sa' o.spaces.length ss',.slice ka' o.keys.length kc'] 25)).alloc (.map #[] 0)) OB 25 #[.int .i64 o.count,.slice sa' o.spaces.length ss',.slice ka' o.keys.length kc']:=by rw[hOB];exact(At.new _ _ _).alloc _
 have xG:Kn ((w2.alloc (.cells #[.int .i64 o.count,.slice sa' o.spaces.length ss',.slice ka' o.keys.length kc'] 25)).alloc (.map #[] 0)) (OB+1) 0 (Own.DV []):=by
  have h:=Kn.made (w2.alloc (.cells #[.int .i64 o.count,.slice sa' o.spaces.length ss',.slice ka' o.keys.length kc'] 25))
  rw[World.size_alloc,<- hOB] at h
  exact h
 have hb3:Below B w2 ((w2.alloc (.cells #[.int .i64 o.count,.slice sa' o.spaces.length ss',.slice ka' o.keys.length kc'] 25)).alloc (.map #[] 0)):=((Below.refl B w2).alloc hB2 _).alloc (by simp;omega) _
 have xH:=own_below HKR.out ((((Below.refl w2.heap.size w2).alloc (Nat.le_refl _) (.cells #[.int .i64 o.count,.slice sa' o.spaces.length ss',.slice ka' o.keys.length kc'] 25)).alloc (by simp) (.map #[] 0)))
 have za5:=zh XU;have za6:=zh xG;have HB3:=zh hb3;have za7:=zh xH
 have za8:B<=OB:=by omega
 have hBw:w.heap.size+3<=B:=by omega
 rw[<- hOB]
 clear XU xG hb3 xH HKR hOB
 generalize (w2.alloc (.cells #[.int .i64 o.count,.slice sa' o.spaces.length ss',.slice ka' o.keys.length kc'] 25)).alloc (.map #[] 0)=w3 at*
 go_loopw [23] (fun i wr=>∃ k:Nat,k<=l.length/\i=.int .i64 k/\∃ (seen:List ByteArray) (Kc:List Own.KeyUse) (kvc:Value),R=Own.Bl s msg seen Kc (l.drop k)/\Own.Srt Own.KeyUse.pub Kc/\Kc.length<=o.keys.length+k/\At wr OB 25 #[.int .i64 o.count,.slice sa' o.spaces.length ss',kvc]/\wr.ownsRow B 59 2 kvc Kc.length (Kc.flatMap Own.Dw)/\Kn wr (OB+1) k (Own.DV seen)/\Below B w2 wr) (fun i _=>l.length-(intOf i).toNat)
 case atStart=>exact⟨0,by omega,rfl,[],o.keys,_,by rw[HR.out];rfl,za3.out,by omega,za5.out,za7.out,za6.out,HB3.out⟩
 case round=>
  obtain⟨k,hk,rfl,seen,Kc,kvc,hR,hsr,hkl,hat,hown,hsm,hb⟩:=hrel
  have HRR:=zh hR;have HSR:=zh hsr;have HAT:=zh hat;have HOWN:=zh hown;have HSM:=zh hsm;have HB:=zh hb
  have hbs:=hb.size
  have za9:OB<wr.heap.size:=hat.lt
  have zaA:OB+1<wr.heap.size:=hsm.lt
  have TWR:=zh (A22.out.below hb (by omega))
  have SWR:=zh (A12.out.below hb (by omega))
  have sZ:=BW2.out.trans (hb.mono (by omega))
  have MWR:=zh (HM.out.below sZ)
  have BWR:=zh sZ
  clear hR hsr hat hown hsm hb sZ
  by_cases hlt:k<l.length
  case neg=>
   have hke:k=l.length:=by omega
   have dk:decide ((k:Int)<l.length)=false:=zf
   have hR2:R=.ok Kc:=by rw[HRR.out,hke,List.drop_length];rfl
   have HR2:=zh hR2
   have s2:=SWR.out.cell 2
   have q0:=HAT.out.cell 0;have q1:=HAT.out.cell 1;have q2:=HAT.out.cell 2
   have x0:=TWR.out.cell 0;have x1:=TWR.out.cell 1;have x2:=TWR.out.cell 2;have x3:=TWR.out.free 0;have x4:=TWR.out.free 1;have x5:=TWR.out.free 2
   simp only[zg] at s2 q0 q1 q2 x0 x1 x2
   clear hR2 hke
   by_cases hth:(l.length:Int)<s.threshold
   ·have dt:decide ((l.length:Int)<s.threshold)=true:=decide_eq_true hth
    go_wp2
    have F2:=((TWR.out.set 0 (.int .i64 0)).set 1 (.slice none 0 0)).set 2 (.slice none 0 0)
    refine BJ rfl rfl rfl (AJ F2 Tryz.underlying25 rfl Bt) ?_
    rw[HQ.out,HR2.out]
    refine⟨?_,((BWR.out.setCell (p:=⟨w.heap.size+1+1,0,none⟩) (by show w.heap.size<=w.heap.size+1+1;omega) _).setCell (p:=⟨w.heap.size+1+1,1,none⟩) (by show w.heap.size<=w.heap.size+1+1;omega) _).setCell (p:=⟨w.heap.size+1+1,2,none⟩) (by show w.heap.size<=w.heap.size+1+1;omega) _⟩
    show if _ then _ else _
    rw[if_pos hth]
    rfl
   ·have dt:decide ((l.length:Int)<s.threshold)=false:=decide_eq_false hth
    obtain⟨va,vm,vc,rfl⟩:=Ac HOWN.out
    go_wp2
    have F2:=((TWR.out.set 0 (.int .i64 o.count)).set 1 (.slice sa' o.spaces.length ss')).set 2 (.slice va vm vc)
    refine BJ rfl rfl rfl (AJ F2 Tryz.underlying25 rfl Bt) ?_
    rw[HQ.out,HR2.out]
    have Ip:∀ j,j≠w.heap.size+1+1->(((wr.setCell ⟨w.heap.size+1+1,0,none⟩ (.int .i64 o.count)).setCell ⟨w.heap.size+1+1,1,none⟩ (.slice sa' o.spaces.length ss')).setCell ⟨w.heap.size+1+1,2,none⟩ (.slice va vm vc)).heap[j]? = wr.heap[j]? :=fun j hj=>by
     rw[zo hj,zo hj,zo hj]
    refine⟨?_,((BWR.out.setCell (p:=⟨w.heap.size+1+1,0,none⟩) (by show w.heap.size<=w.heap.size+1+1;omega) _).setCell (p:=⟨w.heap.size+1+1,1,none⟩) (by show w.heap.size<=w.heap.size+1+1;omega) _).setCell (p:=⟨w.heap.size+1+1,2,none⟩) (by show w.heap.size<=w.heap.size+1+1;omega) _⟩
    show if _ then _ else _
    rw[if_neg (by omega)]
    refine⟨_,_,us,rfl,?_,?_⟩
    ·exact(HSP.out.keep HIN.out (fun k hk hk2=>(Ip k (by omega)).trans (HB.out.block k hk2))).base (by omega)
    ·exact Cw (Ae HOWN.out (fun j hj=>Ip j (by have:=Ak HOWN.out j hj;omega))) (by omega)
  have dk:decide ((k:Int)<l.length)=true:=zt
  obtain⟨_,_,he,hap⟩:=HA.out.below BWR.out
  cases he
  obtain⟨b,q,cv,pv,ha,hbl,e0,e1,e2,e3,hcs,hps,hcap⟩:=hap k hlt
  subst ha
  obtain⟨al1,al2,al3⟩:=HAL.out l[k] (List.getElem_mem hlt)
  have hdr:l.drop k=l[k]::l.drop (k+1):=List.drop_eq_getElem_cons hlt
  have hR1:=HRR.out
  rw[hdr] at hR1
  obtain⟨ap,tq⟩:∃ x,x=l[k]:=⟨_,rfl⟩
  rw[<- tq] at e0 e1 hcs hps al1 al2 al3 hR1
  obtain⟨ca,cc,rfl⟩:=hcs.len
  obtain⟨pa,pc,rfl⟩:=hps.len
  have HR1:=zh hR1
  obtain⟨nm,⟨ix,chs,pth⟩⟩:=ap
  dsimp only at e0 e1 e2 e3 hcs hps al1 al2 al3
  have hb5:Below wr.heap.size wr (wr.alloc (.cells #[.string nm,.int .i64 ix,.slice ca chs.length cc,.slice pa pth.length pc] 72)):=zb
  have hz5:(wr.alloc (.cells #[.string nm,.int .i64 ix,.slice ca chs.length cc,.slice pa pth.length pc] 72)).heap.size=wr.heap.size+1:=World.size_alloc _ _
  have n5:=At.new wr 72 #[.string nm,.int .i64 ix,.slice ca chs.length cc,.slice pa pth.length pc]
  have s5:=SWR.out.below hb5 (by omega)
  obtain⟨s0,s1,s2⟩:=s5.c3
  have hcall:=fun(W:World) (hW:Own.Af W (.slice ma s.members.length mc) s.members)=>Nk s.pre s.threshold (.slice ma s.members.length mc) s.members nm W hW (by omega)
  have HC5:=zh (hcs.below hb5);have HP5:=zh (hps.below hb5);have HB5:=zh hb5;have N5:=zh n5;have qW:=zh hcall;have HCAP:=zh hcap;have zbp:=zh tq
  have xI:Own.Af (wr.alloc (.cells #[.string nm,.int .i64 ix,.slice ca chs.length cc,.slice pa pth.length pc] 72)) (.slice ma s.members.length mc) s.members:=MWR.out.below hb5
  have MW5:=zh xI
  clear hap hdr hR1 hcs hps hb5 n5 s5 hcall xI tq hcap HRR
  go_wp2_with fail
  refine(qW.out _ MW5.out).mono ?_
  intro e w6 hpost
  obtain⟨hval,hb6⟩:=hpost
  have RJ:=HB5.out.trans (hb6.mono HB5.out.size)
  have n6:=N5.out.below hb6 (by omega)
  have HB6:=zh RJ
  have N6:=zh n6
  have HC6:=zh (HC5.out.below hb6);have HP6:=zh (HP5.out.below hb6)
  have TW6:=zh (TWR.out.below RJ TWR.out.lt)
  have BW6:=zh (BWR.out.trans (RJ.mono BWR.out.size))
  have hz6:=hb6.size
  clear hb6 RJ n6 HC5 HP5 HB5 N5 MW5 qW s0 s1 s2
  cases hf:Own.find s.members nm with
  | none =>
    rw[hf] at hval
    have Mq:e=.returned (.tuple #[.agg #[.string ⟨#[]⟩,.string ⟨#[]⟩],.bool false]):=hval
    subst Mq
    have e:R=.error 6:=by rw[HR1.out,Own.Bl,hf]
    have HE:=zh e
    have TW:=zh (TW6.out.alloc (.cells #[.string ⟨#[]⟩,.string ⟨#[]⟩] 76))
    have TB:=zh (BW6.out.alloc BW6.out.size (.cells #[.string ⟨#[]⟩,.string ⟨#[]⟩] 76))
    have x0:=TW.out.cell 0;have x1:=TW.out.cell 1;have x2:=TW.out.cell 2;have x3:=TW.out.free 0;have x4:=TW.out.free 1;have x5:=TW.out.free 2
    simp only[zg] at x0 x1 x2
    clear e hf hval
    go_wp2
    have F2:=((TW.out.set 0 (.int .i64 0)).set 1 (.slice none 0 0)).set 2 (.slice none 0 0)
    refine BJ rfl rfl rfl (AJ F2 Tryz.underlying25 rfl Bt) ?_
    rw[HQ.out,HE.out]
    exact⟨rfl,((TB.out.setCell (p:=⟨w.heap.size+1+1,0,none⟩) (by show w.heap.size<=w.heap.size+1+1;omega) _).setCell (p:=⟨w.heap.size+1+1,1,none⟩) (by show w.heap.size<=w.heap.size+1+1;omega) _).setCell (p:=⟨w.heap.size+1+1,2,none⟩) (by show w.heap.size<=w.heap.size+1+1;omega) _⟩
  | some m=>
  rw[hf] at hval
  have Mq:e=.returned (.tuple #[.agg #[.string m.name,.string m.pub],.bool true]):=hval
  subst Mq
  have hR2:R=if seen.any (fun x=>decide (x=nm)) then .error 5 else if Sig.verify m.pub msg ⟨ix,chs,pth⟩ then (if ix<Own.Bf Kc m.pub then .error 8 else Own.Bl s msg (nm::seen) (Own.use Kc ⟨m.pub,ix+1⟩) (l.drop (k+1))) else .error 18:=by rw[HR1.out,Own.Bl,hf]
  have HR2:=zh hR2
  have hb7:Below w6.heap.size w6 (w6.alloc (.cells #[.string m.name,.string m.pub] 76)):=zb
  have hz7:(w6.alloc (.cells #[.string m.name,.string m.pub] 76)).heap.size=w6.heap.size+1:=World.size_alloc _ _
  have m7:=At.new w6 76 #[.string m.name,.string m.pub]
  have n7:=N6.out.below hb7 (by omega)
  have tu:=(HSM.out.below HB6.out zaA).below hb7 (by omega)
  have TW:=zh (TW6.out.below hb7 (by omega))
  have TB:=zh (BW6.out.trans (hb7.mono BW6.out.size))
  have xJ:=HB6.out.trans (hb7.mono HB6.out.size)
  have Ng:=tu.Y7 (t:=172) (e:=4) Tryz.underlying172 (.bool false) (UU _) nm (by unfold maxLen;omega)
  have HC7:=zh (HC6.out.below hb7);have HP7:=zh (HP6.out.below hb7);have HB7:=zh xJ;have N7:=zh n7;have M7:=zh m7;have SM7:=zh tu
  clear hR2 hval hf HR1 hb7 m7 n7 tu xJ HC6 HP6 N6 TW6 BW6
  obtain⟨y0,y1,y2,y3⟩:=N7.out.c4;obtain⟨p0,p1⟩:=M7.out.c2
  cases hsn:seen.any fun x=>decide (x=nm) with
  | true =>
    have e:R=.error 5:=by rw[HR2.out,hsn];rfl
    have hv:(Own.DV seen nm).getD (.bool false)=.bool true:=by unfold Own.DV;rw[hsn];rfl
    rw[hv] at Ng
    have HE:=zh e
    have x0:=TW.out.cell 0;have x1:=TW.out.cell 1;have x2:=TW.out.cell 2;have x3:=TW.out.free 0;have x4:=TW.out.free 1;have x5:=TW.out.free 2
    simp only[zg] at x0 x1 x2
    clear e hv hsn
    go_wp2
    have F2:=((TW.out.set 0 (.int .i64 0)).set 1 (.slice none 0 0)).set 2 (.slice none 0 0)
    refine BJ rfl rfl rfl (AJ F2 Tryz.underlying25 rfl Bt) ?_
    rw[HQ.out,HE.out]
    exact⟨rfl,((TB.out.setCell (p:=⟨w.heap.size+1+1,0,none⟩) (by show w.heap.size<=w.heap.size+1+1;omega) _).setCell (p:=⟨w.heap.size+1+1,1,none⟩) (by show w.heap.size<=w.heap.size+1+1;omega) _).setCell (p:=⟨w.heap.size+1+1,2,none⟩) (by show w.heap.size<=w.heap.size+1+1;omega) _⟩
  | false=>
  have hv:(Own.DV seen nm).getD (.bool false)=.bool false:=by unfold Own.DV;rw[hsn];rfl
  rw[hv] at Ng
  have hR3:R=if Sig.verify m.pub msg ⟨ix,chs,pth⟩ then (if ix<Own.Bf Kc m.pub then .error 8 else Own.Bl s msg (nm::seen) (Own.use Kc ⟨m.pub,ix+1⟩) (l.drop (k+1))) else .error 18:=by rw[HR2.out,hsn];rfl
  have HR3:=zh hR3
  have xL:=Yh m.pub msg ⟨ix,chs,pth⟩ (.slice ca chs.length cc) (.slice pa pth.length pc) _ HC7.out HP7.out HCAP.out al2 al3 JF
  have xM:=zh xL
  clear hv hsn hR3 HR2 xL
  go_wp2_with fail
  refine xM.out.mono ?_
  rintro e w8 ⟨rfl,hb8⟩
  have xO:=HB7.out.trans (hb8.mono HB7.out.size)
  have TW8:=zh (TW.out.below hb8 TW.out.lt)
  have TB8:=zh (TB.out.trans (hb8.mono TB.out.size))
  have N8:=zh (N7.out.below hb8 N7.out.lt)
  have M8:=zh (M7.out.below hb8 M7.out.lt)
  have SM8:=zh (SM7.out.below hb8 SM7.out.lt)
  have HB8:=zh xO
  have hz8:=hb8.size
  clear hb8 xO TW TB N7 M7 SM7 HB7 xM HC7 HP7 Ng y0 y1 y2 y3 p0 p1
  cases hvf:Sig.verify m.pub msg ⟨ix,chs,pth⟩ with
  | false =>
    have e:R=.error 18:=by rw[HR3.out,hvf];rfl
    have HE:=zh e
    have TW:=TW8;have TB:=TB8
    have x0:=TW.out.cell 0;have x1:=TW.out.cell 1;have x2:=TW.out.cell 2;have x3:=TW.out.free 0;have x4:=TW.out.free 1;have x5:=TW.out.free 2
    simp only[zg] at x0 x1 x2
    clear e hvf
    go_wp2
    have F2:=((TW.out.set 0 (.int .i64 0)).set 1 (.slice none 0 0)).set 2 (.slice none 0 0)
    refine BJ rfl rfl rfl (AJ F2 Tryz.underlying25 rfl Bt) ?_
    rw[HQ.out,HE.out]
    exact⟨rfl,((TB.out.setCell (p:=⟨w.heap.size+1+1,0,none⟩) (by show w.heap.size<=w.heap.size+1+1;omega) _).setCell (p:=⟨w.heap.size+1+1,1,none⟩) (by show w.heap.size<=w.heap.size+1+1;omega) _).setCell (p:=⟨w.heap.size+1+1,2,none⟩) (by show w.heap.size<=w.heap.size+1+1;omega) _⟩
  | true=>
  obtain⟨zaB,xP⟩:=Own.iW hvf
  dsimp only at zaB xP
  have hR4:R=if ix<Own.Bf Kc m.pub then .error 8 else Own.Bl s msg (nm::seen) (Own.use Kc ⟨m.pub,ix+1⟩) (l.drop (k+1)):=by rw[HR3.out,hvf];rfl
  have HR4:=zh hR4
  obtain⟨y0,y1,y2,y3⟩:=N8.out.c4;obtain⟨p0,p1⟩:=M8.out.c2
  clear hvf hR4 HR3
  go_upto_region 13 with fail
  go_upto_region 14 with (at_mapUpdate;go_must (refine Wt rfl _ _ _ 172 4 rfl Tryz.underlying172 SM8.out (by unfold maxLen;omega) rfl nm (.bool true) rfl rfl (by unfold maxLen;omega) ?_);intro w9 hm9 hg9;have HM9:=zh hm9;have HG9:=zh hg9;clear hm9 hg9)
  have ne1:OB≠OB+1:=by omega
  have mh:=HB8.out
  have Wj:=HAT.out.below mh za9
  have eG:=own_below HOWN.out mh
  have xQ:∀ j,kvc.ownBlock=some j->j≠OB+1:=fun j hj=>by
   obtain⟨cur,hc⟩:=Db eG hj
   exact SM8.out.eD hc
  have Oo:∀ j,j<w8.heap.size->j≠OB+1->w9.heap[j]? = w8.heap[j]? :=fun j hj hne=>HG9.out.block j hj (fun e=>hne (Option.some.inj e))
  have iX:=Wj.keep (Oo OB Wj.lt ne1)
  have YI:=Ae eG (fun j hj=>Oo j (by obtain⟨cur,hc⟩:=Db eG hj;exact hc.lt) (xQ j hj))
  have n9:=N8.out.keep (Oo _ N8.out.lt (by omega))
  have m9:=M8.out.keep (Oo _ M8.out.lt (by omega))
  have tw9:=TW8.out.keep (Oo _ TW8.out.lt (by omega))
  have xR:Kn w9 (OB+1) (k+1) (Own.DV (nm::seen)):=by rw[Own.Wy];exact HM9.out
  have xU:Below B w2 w9:=(HB.out.trans (mh.mono (by omega))).grown HG9.out (by have:=mh.size;omega) (fun j hj=>by cases hj;omega)
  obtain⟨o0,o1,o2⟩:=iX.c3;obtain⟨p0,p1⟩:=m9.c2
  have hz9:=HG9.out.size
  obtain⟨va,vm,vc,rfl⟩:=Ac YI
  obtain rfl:=Ba YI
  have hkey:=iV o.count (.slice sa' o.spaces.length ss') (.slice va Kc.length vc) Kc m.pub w9 (Own.Du.of (Bc.own YI) rfl) HSR.out (by omega)
  obtain⟨P,hP⟩:∃ P:Nat,P=Own.posB Own.KeyUse.pub m.pub Kc:=⟨_,rfl⟩
  rw[<- hP] at hkey
  have HP:=zh hP;have HKEY:=zh hkey;have JX:=zh iX;have qX:=zh YI;have N9:=zh n9;have M9:=zh m9;have TW9:=zh tw9;have SM9:=zh xR;have xW:=zh xU
  clear mh Wj eG xQ Oo iX YI n9 m9 tw9 xR xU hP hkey HM9 HG9 HAT HOWN N8 M8 TW8 SM8 TWR SWR MWR HSM HB HB6 y0 y1 y2 y3
  go_wp2_with fail
  refine HKEY.out.mono ?_
  rintro e w10 ⟨rfl,IY⟩
  have Iq:=zh (JX.out.below IY JX.out.lt);have JY:=zh (own_below qX.out IY);have N10:=zh (N9.out.below IY N9.out.lt);have M10:=zh (M9.out.below IY M9.out.lt);have tC:=zh (TW9.out.below IY TW9.out.lt);have iY:=zh (SM9.out.below IY SM9.out.lt)
  have zbq:=IY.size
  have mq:=zh (xW.out.trans (IY.mono (by omega)))
  clear IY HKEY JX qX N9 M9 TW9 SM9 xW o0 o1 o2 p0 p1
  cases hh:Own.Dl Own.KeyUse.pub m.pub Kc with
  | true =>
    obtain⟨K1,hK1⟩:∃ K1,K1=Kc:=⟨_,rfl⟩
    have hpl:Own.Placed Kc K1 m.pub:=by rw[hK1];exact Own.aY HSR.out hh
    have PL:=zh hpl
    have DR:=JY.out
    have at1:=Iq.out
    rw[<- hK1] at DR at1
    have OWN:=zh DR;have AT:=zh at1;have NN:=N10;have TWW:=tC;have SMW:=iY;have mD:=mq
    clear hpl DR at1 hK1 hh JY Iq
    go_wp2_with fail
    obtain⟨hPl,hPp,hPn⟩:=PL.out.at_
    have hPu:=PL.out.use (ix+1)
    have xX:=PL.out.len
    rw[<- HP.out] at hPu
    have mE : P<K1.length:=by rw[HP.out];exact hPl
    have tF : K1[P].pub=m.pub:=by rw[<- hPp];congr 2
    have tH : K1[P].next=Own.Bf Kc m.pub:=by rw[<- hPn];congr 2
    clear hPl hPp hPn
    obtain⟨g,cap,hv,_⟩:=Ct OWN.out (by omega)
    cases hv
    obtain⟨ys,Wz,hbg,hnc,hcm,hcl,hxl⟩:=Gf OWN.out
    have mF:w10.cell? ⟨g,P*2+1,none⟩=some (.int .i64 (Own.Bf Kc m.pub)):=by
     rw[Wz.cell]
     have h:=YF K1 P mE
     rw[tH] at h
     rw[List.getElem?_toArray,List.getElem?_append_left (List.getElem?_eq_some_iff.1 h).1,h]
    have xY:=Wz.free (P*2+1)
    obtain⟨o0,o1,o2⟩:=AT.out.c3;obtain⟨y0,y1,y2,y3⟩:=NN.out.c4
    obtain⟨nx,hnx⟩:∃ nx,nx=Own.Bf Kc m.pub:=⟨_,rfl⟩
    rw[<- hnx] at mF
    have HR5:=HR4.out
    rw[<- hnx,hPu] at HR5
    have HPU:=zh hPu
    have Ua:=zh Wz
    have HXL:=zh hxl
    clear Wz hnx hPu hxl
    by_cases hix:ix<nx
    ·have dx:decide (ix<nx)=true:=decide_eq_true hix
     have e:R=.error 8:=by rw[HR5,if_pos hix]
     have HE:=zh e
     have TW:Hid (At w10.drew (w.heap.size+1+1) 25 #[.int .i64 0,.slice none 0 0,.slice none 0 0]):=zh TWW.out.drew
     have TB:=zh (BW2.out.trans (mD.out.mono (by omega))).drew
     have x0:=TWW.out.cell 0;have x1:=TWW.out.cell 1;have x2:=TWW.out.cell 2;have x3:=TWW.out.free 0;have x4:=TWW.out.free 1;have x5:=TWW.out.free 2
     simp only[zg] at x0 x1 x2
     clear e HR5
     go_wp2
     refine Lex.zl ?_
     go_wp2
     refine Lex.ze ?_
     go_wp2
     have F2:=((TW.out.set 0 (.int .i64 0)).set 1 (.slice none 0 0)).set 2 (.slice none 0 0)
     refine BJ rfl rfl rfl (AJ F2 Tryz.underlying25 rfl Bt) ?_
     rw[HQ.out,HE.out]
     exact⟨rfl,((TB.out.setCell (p:=⟨w.heap.size+1+1,0,none⟩) (by show w.heap.size<=w.heap.size+1+1;omega) _).setCell (p:=⟨w.heap.size+1+1,1,none⟩) (by show w.heap.size<=w.heap.size+1+1;omega) _).setCell (p:=⟨w.heap.size+1+1,2,none⟩) (by show w.heap.size<=w.heap.size+1+1;omega) _⟩
    ·have dx:decide (ix<nx)=false:=decide_eq_false hix
     have e:R=Own.Bl s msg (nm::seen) (K1.set P ⟨m.pub,ix+1⟩) (l.drop (k+1)):=by rw[HR5,if_neg hix]
     have HE:=zh e
     have hw:wrap64 (ix+1)=ix+1:=by unfold wrap64;omega
     clear e HR5
     go_wp2
     refine Lex.zl ?_
     go_wp2
     refine Lex.ze ?_
     go_wp2_with fail
     have hgo:OB≠g:=AT.out.ne Ua.out (by decide)
     have hgm:g≠OB+1:=SMW.out.eD Ua.out
     refine⟨⟨k+1,by omega,by go_num,nm::seen,K1.set P ⟨m.pub,ix+1⟩,_,HE.out,?_,by rw[List.length_set];omega,(AT.out.far (p:=⟨g,P*2+1,none⟩) hgo _).drew,?_,?_,?_⟩,by simp[intOf];omega⟩
     ·rw[<- HPU.out,Own.EP]
      exact Own.Srt.put _ HSR.out
     ·rw[List.length_set]
      have h1:=Ua.out.set (P*2+1) (.int .i64 (ix+1))
      have h2:=Sg K1 P mE (ix+1)
      rw[tF] at h2
      rw[<- h2]
      have e1:((K1.flatMap Own.Dw++ys).toArray.setIfInBounds (P*2+1) (.int .i64 (ix+1)))=((K1.flatMap Own.Dw).set (P*2+1) (.int .i64 (ix+1))++ys).toArray:=by
       rw[List.setIfInBounds_toArray,List.set_append_left _ _ (by rw[HXL.out];omega)]
      rw[e1] at h1
      exact D8 h1.drew hbg hnc hcm (by simpa using hcl) (by rw[List.take_append_of_le_length (by rw[List.length_set,HXL.out];exact Nat.le_refl _),List.take_of_length_le (by rw[List.length_set,HXL.out];exact Nat.le_refl _)])
     ·exact SMW.out.keep (zo (by show OB+1≠g;exact fun e=>hgm e.symm))
     ·exact(mD.out.setCell (p:=⟨g,P*2+1,none⟩) hbg _).drew
  | false =>
    obtain⟨K1,hK1⟩:∃ K1,K1=Kc.take P++(⟨m.pub,0⟩::Kc.drop P):=⟨_,rfl⟩
    have hpl:Own.Placed Kc K1 m.pub:=by rw[hK1,HP.out];exact Own.YG HSR.out hh
    have PL:=zh hpl
    have xZ:P<=Kc.length:=by rw[HP.out];exact Own.MK _ _
    have Qb:Below w10.heap.size w10 (w10.alloc (.cells #[.string m.pub,.int .i64 0] 59)):=zb
    have oW:(w10.alloc (.cells #[.string m.pub,.int .i64 0] 59)).heap.size=w10.heap.size+1:=World.size_alloc _ _
    have n11:=At.new w10 59 #[.string m.pub,.int .i64 0]
    have qY:=own_below JY.out Qb
    have hins:=YC B Kc.length P w10.heap.size _ (Kc.flatMap Own.Dw) [.string m.pub,.int .i64 0] _ qY (Own.qV _) xZ (by omega) rfl n11 (by intro u hu;simp at hu;rcases hu with rfl|rfl<;>rfl) (fun e=>by obtain⟨cur,hc⟩:=Db JY.out e;have:=hc.lt;omega) (by omega)
    have yu:(Kc.flatMap Own.Dw).take (P*2)++([.string m.pub,.int .i64 0]++(Kc.flatMap Own.Dw).drop (P*2))=K1.flatMap Own.Dw:=by
     have e1:Kc.flatMap Own.Dw=(Kc.take P).flatMap Own.Dw++(Kc.drop P).flatMap Own.Dw:=by rw[<- List.flatMap_append,List.take_append_drop]
     have e2:((Kc.take P).flatMap Own.Dw).length=P*2:=by rw[Own.TV,List.length_take,Nat.min_eq_left xZ]
     rw[hK1,List.flatMap_append,List.flatMap_cons,e1,<- e2,List.take_left,List.drop_left]
     rfl
    have yw:K1.length=Kc.length+1:=by rw[hK1];simp;omega
    have oZ:=zh hins;have tJ:=zh Qb;have yx:=zh yu;have zaC:=zh yw
    have o0:=(Iq.out.below Qb Iq.out.lt).cell 0;have o1:=(Iq.out.below Qb Iq.out.lt).cell 1
    have o2':=Iq.out.cell 2
    have p1:=M10.out.cell 1
    simp only[zg] at o0 o1 o2' p1
    clear hpl hK1 hh Qb n11 qY hins yu yw
    go_wp2_with fail
    refine oZ.out.mono ?_
    rintro e w11 ⟨v',rfl,ho',Sj,zaD⟩
    rw[yx.out] at ho'
    have hkeep:∀ j (t:TypeId) (cs:Array Value),At w10 j t cs->t≠59->At w11 j t cs:=fun j t cs h ht=>by
     have h1:=h.alloc (.cells #[.string m.pub,.int .i64 0] 59)
     exact h1.grown Sj (fun e=>by
      obtain⟨cur,hc⟩:=Db JY.out e.symm
      exact h.ne hc ht rfl)
    have aZ:=hkeep _ _ _ Iq.out (by decide)
    have y8:=hkeep _ _ _ N10.out (by decide)
    have y9:=hkeep _ _ _ tC.out (by decide)
    have yA:Kn w11 (OB+1) (k+1) (Own.DV (nm::seen)):=(iY.out.below tJ.out iY.out.lt).keep (Sj.block (OB+1) (by rw[oW];have:=iY.out.lt;omega) (fun e=>by
     obtain⟨cur,hc⟩:=Db JY.out e.symm
     exact iY.out.eD hc rfl))
    have qZ : Below B w2 w11:=(mq.out.trans (tJ.out.mono (by omega))).grown Sj (by rw[oW];omega) (fun j hj=>Ak JY.out j hj)
    have zbf:=Sj.size
    obtain⟨xa,xm,xc,rfl⟩:=Ac ho'
    rw[<- zaC.out] at ho'
    obtain rfl:=Ba ho'
    have yB:OB≠OB+1:=by omega
    have ru:(Value.slice xa K1.length xc).ownBlock≠some OB:=aZ.own_ne ho' (by decide)
    have q0:=aZ.cell 0;have q1:=aZ.cell 1;have q2:=aZ.cell 2;have q3:=aZ.free 2
    simp only[zg] at q0 q1 q2
    have yC:=zh aZ;have yD:=zh y8;have yE:=zh y9;have yF:=zh yA;have rz:=zh qZ;have yG:=zh ho'
    clear hkeep aZ y8 y9 yA qZ ho' Sj zaD oZ tJ yx JY Iq N10 tC iY mq M10 o0 o1 o2' p1
    go_upto_region 17 with fail
    have atw:At (w11.setCell ⟨OB,2,none⟩ (.slice xa K1.length xc)) OB 25 #[.int .i64 o.count,.slice sa' o.spaces.length ss',.slice xa K1.length xc]:=yC.out.set 2 (.slice xa K1.length xc)
    have yH:(w11.setCell ⟨OB,2,none⟩ (.slice xa K1.length xc)).ownsRow B 59 2 (.slice xa K1.length xc) K1.length (K1.flatMap Own.Dw):=Ae yG.out (fun j hj=>zo (by rintro rfl;exact ru hj))
    have nnw:=yD.out.far (p:=⟨OB,2,none⟩) (by show wr.heap.size≠OB;omega) (.slice xa K1.length xc)
    have tww:=yE.out.far (p:=⟨OB,2,none⟩) (by show w.heap.size+1+1≠OB;omega) (.slice xa K1.length xc)
    have smw:Kn (w11.setCell ⟨OB,2,none⟩ (.slice xa K1.length xc)) (OB+1) (k+1) (Own.DV (nm::seen)):=yF.out.keep (zo (by show OB+1≠OB;omega))
    have yI:=rz.out.setCell (p:=⟨OB,2,none⟩) za8 (.slice xa K1.length xc)
    have OWN:=zh yH;have AT:=zh atw;have NN:=zh nnw;have TWW:=zh tww;have SMW:=zh smw;have mD:=zh yI
    clear atw yH nnw tww smw yI q0 q1 q2 q3 ru yC yD yE yF rz yG yB
    generalize w11.setCell ⟨OB,2,none⟩ (.slice xa K1.length xc)=w12 at*
    obtain⟨hPl,hPp,hPn⟩:=PL.out.at_
    have hPu:=PL.out.use (ix+1)
    have xX:=PL.out.len
    rw[<- HP.out] at hPu
    have mE : P<K1.length:=by rw[HP.out];exact hPl
    have tF : K1[P].pub=m.pub:=by rw[<- hPp];congr 2
    have tH : K1[P].next=Own.Bf Kc m.pub:=by rw[<- hPn];congr 2
    clear hPl hPp hPn
    obtain⟨g,cap,hv,_⟩:=Ct OWN.out (by omega)
    cases hv
    obtain⟨ys,Wz,hbg,hnc,hcm,hcl,hxl⟩:=Gf OWN.out
    have mF:w12.cell? ⟨g,P*2+1,none⟩=some (.int .i64 (Own.Bf Kc m.pub)):=by
     rw[Wz.cell]
     have h:=YF K1 P mE
     rw[tH] at h
     rw[List.getElem?_toArray,List.getElem?_append_left (List.getElem?_eq_some_iff.1 h).1,h]
    have xY:=Wz.free (P*2+1)
    obtain⟨o0,o1,o2⟩:=AT.out.c3;obtain⟨y0,y1,y2,y3⟩:=NN.out.c4
    obtain⟨nx,hnx⟩:∃ nx,nx=Own.Bf Kc m.pub:=⟨_,rfl⟩
    rw[<- hnx] at mF
    have HR5:=HR4.out
    rw[<- hnx,hPu] at HR5
    have HPU:=zh hPu
    have Ua:=zh Wz
    have HXL:=zh hxl
    clear Wz hnx hPu hxl
    by_cases hix:ix<nx
    ·have dx:decide (ix<nx)=true:=decide_eq_true hix
     have e:R=.error 8:=by rw[HR5,if_pos hix]
     have HE:=zh e
     have TW:Hid (At w12.drew (w.heap.size+1+1) 25 #[.int .i64 0,.slice none 0 0,.slice none 0 0]):=zh TWW.out.drew
     have TB:=zh (BW2.out.trans (mD.out.mono (by omega))).drew
     have x0:=TWW.out.cell 0;have x1:=TWW.out.cell 1;have x2:=TWW.out.cell 2;have x3:=TWW.out.free 0;have x4:=TWW.out.free 1;have x5:=TWW.out.free 2
     simp only[zg] at x0 x1 x2
     clear e HR5
     go_wp2
     refine Lex.zl ?_
     go_wp2
     refine Lex.ze ?_
     go_wp2
     have F2:=((TW.out.set 0 (.int .i64 0)).set 1 (.slice none 0 0)).set 2 (.slice none 0 0)
     refine BJ rfl rfl rfl (AJ F2 Tryz.underlying25 rfl Bt) ?_
     rw[HQ.out,HE.out]
     exact⟨rfl,((TB.out.setCell (p:=⟨w.heap.size+1+1,0,none⟩) (by show w.heap.size<=w.heap.size+1+1;omega) _).setCell (p:=⟨w.heap.size+1+1,1,none⟩) (by show w.heap.size<=w.heap.size+1+1;omega) _).setCell (p:=⟨w.heap.size+1+1,2,none⟩) (by show w.heap.size<=w.heap.size+1+1;omega) _⟩
    ·have dx:decide (ix<nx)=false:=decide_eq_false hix
     have e:R=Own.Bl s msg (nm::seen) (K1.set P ⟨m.pub,ix+1⟩) (l.drop (k+1)):=by rw[HR5,if_neg hix]
     have HE:=zh e
     have hw:wrap64 (ix+1)=ix+1:=by unfold wrap64;omega
     clear e HR5
     go_wp2
     refine Lex.zl ?_
     go_wp2
     refine Lex.ze ?_
     go_wp2_with fail
     have hgo:OB≠g:=AT.out.ne Ua.out (by decide)
     have hgm:g≠OB+1:=SMW.out.eD Ua.out
     refine⟨⟨k+1,by omega,by go_num,nm::seen,K1.set P ⟨m.pub,ix+1⟩,_,HE.out,?_,by rw[List.length_set];omega,(AT.out.far (p:=⟨g,P*2+1,none⟩) hgo _).drew,?_,?_,?_⟩,by simp[intOf];omega⟩
     ·rw[<- HPU.out,Own.EP]
      exact Own.Srt.put _ HSR.out
     ·rw[List.length_set]
      have h1:=Ua.out.set (P*2+1) (.int .i64 (ix+1))
      have h2:=Sg K1 P mE (ix+1)
      rw[tF] at h2
      rw[<- h2]
      have e1:((K1.flatMap Own.Dw++ys).toArray.setIfInBounds (P*2+1) (.int .i64 (ix+1)))=((K1.flatMap Own.Dw).set (P*2+1) (.int .i64 (ix+1))++ys).toArray:=by
       rw[List.setIfInBounds_toArray,List.set_append_left _ _ (by rw[HXL.out];omega)]
      rw[e1] at h1
      exact D8 h1.drew hbg hnc hcm (by simpa using hcl) (by rw[List.take_append_of_le_length (by rw[List.length_set,HXL.out];exact Nat.le_refl _),List.take_of_length_le (by rw[List.length_set,HXL.out];exact Nat.le_refl _)])
     ·exact SMW.out.keep (zo (by show OB+1≠g;exact fun e=>hgm e.symm))
     ·exact(mD.out.setCell (p:=⟨g,P*2+1,none⟩) hbg _).drew
namespace Own
def zcV (l:List Member):Prop:=l.length<=12/\∀ m∈l,m.name.size<=100/\m.pub.size<=100
def zd8 (o:Ao):Prop:=o.spaces.length<=70/\o.keys.length<=40/\(∀ s∈o.spaces,s.pre.size<=100/\zcV s.members)/\∀ k∈o.keys,k.pub.size<=100
def zdk (a:Ai):Prop:=a.name.size<=100/\a.sig.chains.length<=80/\a.sig.path.length<=20
def Lr (P:Prop)(w:World)(e:Ending)(w' : World):Prop:=∃ b,e=.returned (.bool b)/\(b=true->P)/\Below w.heap.size w w'
theorem zbL {α : Type}{P : α -> Prop}{l:List α}{k:Nat}(hk:l.length<=k)(h:∀ j (h:j<l.length),j<k->P l[j]):∀ x∈l,P x:=fun x hx=>by
 obtain⟨j,hj,rfl⟩:=List.getElem_of_mem hx
 exact h j hj (by omega)
theorem ZT {α : Type}{P : α -> Prop}{l:List α}{k:Nat}(hk:k<l.length)(h:∀ j (h:j<l.length),j<k->P l[j])(hp:P l[k]):∀ j (h:j<l.length),j<k+1->P l[j]:=fun j hj hjk=>by
 rcases(by omega:j<k\/j=k) with h1|rfl
 ·exact h j hj h1
 ·exact hp
end Own
theorem Ml (v:Value)(l:List Own.Member)(w:World)(h:Own.Af w v l)(hl:l.length<=140737488355328):
 Calls Tryz.prog 48 #[v] w (Own.Lr (Own.zcV l) w):=by
 obtain⟨Q,hQ⟩:∃ Q,Q=Own.Lr (Own.zcV l) w:=⟨_,rfl⟩
 rw[<- hQ]
 have HQ:=zh hQ;clear hQ
 obtain⟨a,c,rfl⟩:=h.len
 have HL:=zh h;clear h
 go_enter Tryz.func48,Tryz.ntmps48
 go_wp2
 go_loopw [3] (fun i wr=>∃ k:Nat,k<=l.length/\i=.int .i64 k/\(∀ j (h:j<l.length),j<k->l[j].name.size<=100/\l[j].pub.size<=100)/\Below w.heap.size w wr) (fun i _=>l.length-(intOf i).toNat)
 case atStart=>exact⟨0,by omega,rfl,(fun j _ h=>absurd h (by omega)),Below.refl _ _⟩
 case round=>
  obtain⟨k,hk,rfl,hno,hb⟩:=hrel
  have HN:=zh hno;have HB:=zh hb
  by_cases hlt:k<l.length
  case neg=>
   have dk:decide ((k:Int)<l.length)=false:=zf
   have hall:=Own.zbL (P:=fun m:Own.Member=>m.name.size<=100/\m.pub.size<=100) (by omega) hno
   have HA:=zh hall;clear hall hno hb
   go_wp2
   (try go_ret)
   rw[HQ.out]
   exact⟨_,rfl,(fun h=>⟨by have:=of_decide_eq_true h;omega,HA.out⟩),HB.out⟩
  have dk:decide ((k:Int)<l.length)=true:=zt
  obtain⟨b,o,ha,hbl,c0,c1⟩:=Own.Af.cells (HL.out.below hb) hlt
  subst ha
  have hn2:=fun hp=>Own.ZT (P:=fun m:Own.Member=>m.name.size<=100/\m.pub.size<=100) hlt hno hp
  obtain⟨x,hx⟩:∃ x,x=l[k].name:=⟨_,rfl⟩
  obtain⟨y,hy⟩:∃ x,x=l[k].pub:=⟨_,rfl⟩
  rw[<- hx] at c0
  rw[<- hy] at c1
  simp only[<- hx,<- hy] at hn2
  have HN2:=zh hn2
  clear hx hy hno hb hn2
  by_cases h1:100<(x.size:Int)
  ·have d1:decide (100<(x.size:Int))=true:=decide_eq_true h1
   have d1' : decide (100<x.size)=true:=zt
   go_wp2
   (try go_ret)
   rw[HQ.out]
   exact⟨false,rfl,(fun h=>by cases h),HB.out⟩
  have d1:decide (100<(x.size:Int))=false:=decide_eq_false h1
  have d1' : decide (100<x.size)=false:=zf
  by_cases h2:100<(y.size:Int)
  ·have d2:decide (100<(y.size:Int))=true:=decide_eq_true h2
   have d2' : decide (100<y.size)=true:=zt
   go_wp2
   (try go_ret)
   rw[HQ.out]
   exact⟨false,rfl,(fun h=>by cases h),HB.out⟩
  have d2:decide (100<(y.size:Int))=false:=decide_eq_false h2
  have d2' : decide (100<y.size)=false:=zf
  have hn:=HN2.out ⟨by omega,by omega⟩
  have HN3:=zh hn;clear hn
  go_wp2
  exact⟨⟨k+1,by omega,by go_num,HN3.out,HB.out⟩,by simp[intOf];omega⟩
theorem zcW (o:Own.Ao)(sv kv:Value)(w:World)(hS:Own.BF w sv o.spaces)(hK:Own.Du w kv o.keys)(hls:o.spaces.length<=140737488355328)(hlk:o.keys.length<=140737488355328)(hlm:∀ s∈o.spaces,s.members.length<=140737488355328):
 Calls Tryz.prog 12 #[.agg #[.int .i64 o.count,sv,kv]] w (Own.Lr (Own.zd8 o) w):=by
 obtain⟨Q,hQ⟩:∃ Q,Q=Own.Lr (Own.zd8 o) w:=⟨_,rfl⟩
 rw[<- hQ]
 have HQ:=zh hQ;clear hQ
 obtain⟨sa,sc,rfl⟩:=hS.len
 obtain⟨ka,kc,rfl⟩:=hK.len
 obtain⟨cnt,S,K⟩:=o
 dsimp only at*
 have F1:=zh (show Au w _ [(25,#[.int .i64 cnt,.slice sa S.length sc,.slice ka K.length kc])] from((CY.nil w).push 25 #[.int .i64 cnt,.slice sa S.length sc,.slice ka K.length kc]).boxes)
 have HS:=zh (hS.below F1.out.under);have HK:=zh (hK.below F1.out.under);have HLM:=zh hlm
 clear hS hK hlm
 go_enter Tryz.func12,Tryz.ntmps12
 go_upto_region 1 with fail
 generalize w.alloc (.cells #[.int .i64 cnt,.slice sa S.length sc,.slice ka K.length kc] 25)=w1 at*
 go_wp2
 go_loopw [3] (fun i wr=>∃ k:Nat,k<=S.length/\i=.int .i64 k/\(∀ j (h:j<S.length),j<k->S[j].pre.size<=100/\Own.zcV S[j].members)/\Below w1.heap.size w1 wr) (fun i _=>S.length-(intOf i).toNat)
 case atStart=>exact⟨0,by omega,rfl,(fun j _ h=>absurd h (by omega)),Below.refl _ _⟩
 case round=>
  obtain⟨k,hk,rfl,hno,hb⟩:=hrel
  have HN:=zh hno;have HB:=zh hb
  have F2:=zh (F1.out.step hb)
  obtain⟨x00,x01,x02⟩:=F2.out.Fw rfl
  by_cases hlt:k<S.length
  case neg=>
   have dk:decide ((k:Int)<S.length)=false:=zf
   have hall:=Own.zbL (P:=fun s:Own.Space=>s.pre.size<=100/\Own.zcV s.members) (by omega) hno
   have HA:=zh hall;clear hall hno hb
   go_wp2_with fail
   have HKR:=zh (HK.out.below HB.out)
   obtain⟨w5,hw5⟩:∃ w5,w5=wr:=⟨_,rfl⟩
   subst hw5
   (try clear x00 x01 x02)
   go_loopw [4] (fun i wr=>∃ k:Nat,k<=K.length/\i=.int .i64 k/\(∀ j (h:j<K.length),j<k->K[j].pub.size<=100)/\Below w5.heap.size w5 wr) (fun i _=>K.length-(intOf i).toNat)
   case atStart=>exact⟨0,by omega,rfl,(fun j _ h=>absurd h (by omega)),Below.refl _ _⟩
   case round=>
    obtain⟨j,hj,rfl,hno,hb⟩:=hrel
    have F3:=zh (F2.out.step hb)
    have HB3:=zh hb
    obtain⟨x00,x01,x02⟩:=F3.out.Fw rfl
    by_cases hlt:j<K.length
    case neg=>
     have dj:decide ((j:Int)<K.length)=false:=zf
     have hall:=Own.zbL (P:=fun k:Own.KeyUse=>k.pub.size<=100) (by omega) hno
     have HA2:=zh hall;clear hall hno hb
     by_cases h7:(S.length:Int)<=70
     ·have d7:decide ((S.length:Int)<=70)=true:=decide_eq_true h7
      have d7' : decide (S.length<=70)=true:=zt
      go_wp2
      (try go_ret)
      rw[HQ.out]
      exact⟨_,rfl,(fun h=>⟨by show S.length<=70;omega,by have:=of_decide_eq_true h;show K.length<=40;omega,HA.out,HA2.out⟩),F3.out.under⟩
     ·have d7:decide ((S.length:Int)<=70)=false:=decide_eq_false h7
      have d7' : decide (S.length<=70)=false:=zf
      go_wp2
      (try go_ret)
      rw[HQ.out]
      exact⟨false,rfl,(fun h=>by cases h),F3.out.under⟩
    have dj:decide ((j:Int)<K.length)=true:=zt
    obtain⟨b,o,ha,hbl,c0,c1⟩:=Own.Du.cells (HKR.out.below hb) hlt
    subst ha
    have hn2:=fun hp=>Own.ZT (P:=fun k:Own.KeyUse=>k.pub.size<=100) hlt hno hp
    obtain⟨y,hy⟩:∃ x,x=K[j].pub:=⟨_,rfl⟩
    rw[<- hy] at c0
    simp only[<- hy] at hn2
    have HN2:=zh hn2
    clear hy hno hb hn2 c1
    by_cases h1:100<(y.size:Int)
    ·have d1:decide (100<(y.size:Int))=true:=decide_eq_true h1
     have d1' : decide (100<y.size)=true:=zt
     go_wp2
     (try go_ret)
     rw[HQ.out]
     exact⟨false,rfl,(fun h=>by cases h),F3.out.under⟩
    have d1:decide (100<(y.size:Int))=false:=decide_eq_false h1
    have d1' : decide (100<y.size)=false:=zf
    have hn:=HN2.out (by omega)
    have HN3:=zh hn;clear hn
    go_wp2
    exact⟨⟨j+1,by omega,by go_num,HN3.out,HB3.out⟩,by simp[intOf];omega⟩
  have dk:decide ((k:Int)<S.length)=true:=zt
  obtain⟨b,o,mv,ha,hbl,e0,e1,e2,hmv⟩:=Own.BF.cells (HS.out.below hb) hlt
  subst ha
  have hml:=HLM.out S[k] (List.getElem_mem hlt)
  have hn2:=fun hp=>Own.ZT (P:=fun s:Own.Space=>s.pre.size<=100/\Own.zcV s.members) hlt hno hp
  obtain⟨x,hx⟩:∃ x,x=S[k]:=⟨_,rfl⟩
  rw[<- hx] at e0 hmv hml
  simp only[<- hx] at hn2
  have HN2:=zh hn2;have HMV:=zh hmv
  obtain⟨ma,mc,rfl⟩:=hmv.len
  clear hx hno hb hn2 hmv e2
  by_cases h1:100<(x.pre.size:Int)
  ·have d1:decide (100<(x.pre.size:Int))=true:=decide_eq_true h1
   have d1' : decide (100<x.pre.size)=true:=zt
   go_wp2
   (try go_ret)
   rw[HQ.out]
   exact⟨false,rfl,(fun h=>by cases h),F2.out.under⟩
  have d1:decide (100<(x.pre.size:Int))=false:=decide_eq_false h1
  have d1' : decide (100<x.pre.size)=false:=zf
  go_wp2_with fail
  refine(Ml _ x.members _ HMV.out hml).mono ?_
  rintro e w6 ⟨q,rfl,hq,hb6⟩
  have F6:=zh (F2.out.step hb6);have HB6:=zh (HB.out.trans (hb6.mono HB.out.size))
  cases q with
  | false =>
    clear hb6
    go_wp2
    (try go_ret)
    rw[HQ.out]
    exact⟨false,rfl,(fun h=>by cases h),F6.out.under⟩
  | true =>
    have hn:=HN2.out ⟨by omega,hq rfl⟩
    have HN3:=zh hn;clear hn hq hb6
    go_wp2
    exact⟨⟨k+1,by omega,by go_num,HN3.out,HB6.out⟩,by simp[intOf];omega⟩
namespace Own
def W9 (w:World)(v:Value)(l:List Ai):Prop:=∃ a c,v=.slice a l.length c/\∀ i (hi:i<l.length),∃ b o cv pv,a=some ⟨b,o,none⟩/\b<w.heap.size/\w.cell? ⟨b,o+i*4,none⟩=some (.string l[i].name)/\w.cell? ⟨b,o+i*4+1,none⟩=some (.int .i64 l[i].sig.index)/\
 w.cell? ⟨b,o+i*4+2,none⟩=some cv/\w.cell? ⟨b,o+i*4+3,none⟩=some pv/\Al w cv l[i].sig.chains/\Al w pv l[i].sig.path/\Eb cv/\Eb pv
theorem W9.out {w:World}{v:Value}{l:List Ai}(h:W9 w v l):Hq w v l:=by
 obtain⟨a,c,rfl,h⟩:=h
 refine⟨a,c,rfl,fun i hi=>?_⟩
 obtain⟨b,o,cv,pv,h1,h2,h3,h4,h5,h6,h7,h8,_,h9⟩:=h i hi
 exact⟨b,o,cv,pv,h1,h2,h3,h4,h5,h6,h7,h8,h9⟩
theorem W9.below {w w' : World}{v:Value}{l:List Ai}(h:W9 w v l)(hb:Below w.heap.size w w'):W9 w' v l:=by
 obtain⟨a,c,rfl,h⟩:=h
 refine⟨a,c,rfl,fun i hi=>?_⟩
 obtain⟨b,o,cv,pv,h1,h2,h3,h4,h5,h6,h7,h8,h9⟩:=h i hi
 exact⟨b,o,cv,pv,h1,Nat.lt_of_lt_of_le h2 hb.size,(hb.cell (p:=⟨b,_,none⟩) h2).trans h3,(hb.cell (p:=⟨b,_,none⟩) h2).trans h4,(hb.cell (p:=⟨b,_,none⟩) h2).trans h5,(hb.cell (p:=⟨b,_,none⟩) h2).trans h6,h7.below hb,h8.below hb,h9⟩
end Own
theorem dJ (v:Value)(l:List Own.Ai)(w:World)(h:Own.W9 w v l)(hl:l.length<=140737488355328)(hsz:∀ a∈l,∀ x∈a.sig.chains++a.sig.path,x.size<=140737488355328):
 Calls Tryz.prog 38 #[v] w (Own.Lr (l.length<=5/\∀ a∈l,Own.zdk a) w):=by
 obtain⟨Q,hQ⟩:∃ Q,Q=Own.Lr (l.length<=5/\∀ a∈l,Own.zdk a) w:=⟨_,rfl⟩
 rw[<- hQ]
 have HQ:=zh hQ;clear hQ
 have HL:=zh h;have HSZ:=zh hsz
 obtain⟨a,c,rfl,_⟩:=h
 clear hsz
 go_enter Tryz.func38,Tryz.ntmps38
 go_wp2
 go_loopw [3] (fun i wr=>∃ k:Nat,k<=l.length/\i=.int .i64 k/\(∀ j (h:j<l.length),j<k->Own.zdk l[j])/\Below w.heap.size w wr) (fun i _=>l.length-(intOf i).toNat)
 case atStart=>exact⟨0,by omega,rfl,(fun j _ h=>absurd h (by omega)),Below.refl _ _⟩
 case round=>
  obtain⟨k,hk,rfl,hno,hb⟩:=hrel
  have HN:=zh hno;have HB:=zh hb
  by_cases hlt:k<l.length
  case neg=>
   have dk:decide ((k:Int)<l.length)=false:=zf
   have hall:=Own.zbL (P:=Own.zdk) (by omega) hno
   have HA:=zh hall;clear hall hno hb
   go_wp2
   (try go_ret)
   rw[HQ.out]
   exact⟨_,rfl,(fun hb' => ⟨by have h5:=of_decide_eq_true hb';omega,HA.out⟩),HB.out⟩
  have dk:decide ((k:Int)<l.length)=true:=zt
  obtain⟨a',c',he,hcs⟩:=HL.out.below hb
  cases he
  obtain⟨b,o,cv,pv,rfl,hbl,e0,e1,e2,e3,hcv,hpv,hcc,_⟩:=hcs k hlt
  have hn2:=fun hp=>Own.ZT (P:=Own.zdk) hlt hno hp
  have hsz:=HSZ.out l[k] (List.getElem_mem hlt)
  obtain⟨x,hx⟩:∃ x,x=l[k]:=⟨_,rfl⟩
  rw[<- hx] at e0 e1 hcv hpv hsz
  simp only[<- hx] at hn2
  have hfw:=zcU x.sig cv pv wr hcv hpv hcc hsz
  have HFW:=zh hfw;have HN2:=zh hn2
  clear hx hno hb hn2 hsz hcv hpv hcc hfw hcs
  obtain⟨xn,⟨xi,xc,xp⟩⟩:=x
  dsimp only at*
  by_cases h1:100<(xn.size:Int)
  ·have d1:decide (100<(xn.size:Int))=true:=decide_eq_true h1
   have d1' : decide (100<xn.size)=true:=zt
   go_wp2
   (try go_ret)
   rw[HQ.out]
   exact⟨false,rfl,(fun h=>by cases h),HB.out⟩
  have d1:decide (100<(xn.size:Int))=false:=decide_eq_false h1
  have d1' : decide (100<xn.size)=false:=zf
  go_wp2_with fail
  refine HFW.out.mono ?_
  rintro e w2 ⟨q,rfl,hq,hb2⟩
  have HB2:=zh (HB.out.trans (hb2.mono HB.out.size))
  cases q with
  | false =>
    clear hq hb2
    go_wp2
    (try go_ret)
    rw[HQ.out]
    exact⟨false,rfl,(fun h=>by cases h),HB2.out⟩
  | true =>
    have hn:=HN2.out ⟨by show xn.size<=100;omega,hq rfl⟩
    have HN3:=zh hn;clear hn hq hb2
    go_wp2
    exact⟨⟨k+1,by omega,by go_num,HN3.out,HB2.out⟩,by simp[intOf];omega⟩
namespace Own
structure Jq (F:Nat->Prop) (w:World) (v:Value) (xs:List ByteArray):Prop where
 st:Al w v xs
 cap:Eb v
 far:0<xs.length->∀ k,v.ownBlock=some k->F k
section
variable {F G:Nat->Prop} {w w' : World} {v:Value} {xs:List ByteArray}
theorem Jq.keep (h:Jq F w v xs)(hk:∀ k,F k->k<w.heap.size->w'.heap[k]? = w.heap[k]?):Jq F w' v xs:=by
 refine⟨?_,h.cap,h.far⟩
 by_cases h0:xs.length=0
 ·exact h.st.empty h0 w'
 ·exact h.st.keep (fun k hk' hl=>hk k (h.far (by omega) k hk') hl)
theorem Jq.mono (h:Jq F w v xs)(hF:∀ k,F k->k<w.heap.size->G k):Jq G w v xs:=
 ⟨h.st,h.cap,fun h0 k hk=>hF k (h.far h0 k hk) (h.st.blk h0 k hk)⟩
theorem Jq.own {base n:Nat}(h:w.ownsRow base 9 1 v n (xs.map Value.string))(hF:∀ k,base<=k->F k):Jq F w v xs:=by
 have hn:n=xs.length:=by have:=h.1;simp at this;omega
 subst hn
 exact⟨Al.own h,Eb.own h,fun _ k hk=>hF k (Ak h k hk)⟩
end
def RAp:Elem Ai:=fun F w cs a=>∃ cv pv,cs=[.string a.name,.int .i64 a.sig.index,cv,pv]/\Jq F w cv a.sig.chains/\Jq F w pv a.sig.path
instance:Dc RAp:=⟨fun⟨c,p,h1,h2,h3⟩ hs hk=>⟨c,p,h1,h2.keep hk,h3.keep hk⟩,fun⟨c,p,h1,h2,h3⟩ hF=>⟨c,p,h1,h2.mono hF,h3.mono hF⟩⟩
theorem eH {F:Nat->Prop}{w:World}{v:Value}{l:List Ai}(h:Aq 4 RAp F w v l):W9 w v l:=by
 obtain⟨a,c,rfl⟩:=h.len
 refine⟨a,c,rfl,fun i hi=>?_⟩
 obtain⟨b,o,ha,_,hb,cs,h1,h2,cv,pv,h3,h4,h5⟩:=h.at_ hi
 subst h3
 exact⟨b,o,cv,pv,ha,hb,h2 0 _ rfl,h2 1 _ rfl,h2 2 _ rfl,h2 3 _ rfl,h4.st,h5.st,h4.cap,h5.cap⟩
def CJ (B:Nat)(w:World)(v:Value)(L:List Ai):Prop:=
 ∃ css:List (List Value),css.length=L.length/\w.ownsRow B 72 4 v L.length css.flatten/\∀ i (hi:i<L.length) (hi' : i<css.length),css[i].length=4/\RAp (fun k=>B<=k/\v.ownBlock≠some k) w css[i] L[i]
theorem CJ.nil (B:Nat)(w:World):CJ B w (.slice none 0 0) []:=⟨[],rfl,⟨rfl,.inl ⟨rfl,rfl⟩⟩,fun i hi=>absurd hi (by simp)⟩
theorem IZ {w:World}{base n size:Nat}{e:TypeId}{v:Value}{xs:List Value}(h:w.ownsRow base e size v n xs):∀ k,v.ownBlock=some k->k<w.heap.size:=by
 intro k hk
 obtain⟨cur,hc⟩:=Db h hk
 exact hc.lt
theorem CJ.keep {B:Nat}{w w' : World}{v:Value}{L:List Ai}(h:CJ B w v L)(hs:w.heap.size<=w'.heap.size)(hk:∀ k,B<=k->k<w.heap.size->w'.heap[k]? = w.heap[k]?):CJ B w' v L:=by
 obtain⟨css,h1,h2,h3⟩:=h
 refine⟨css,h1,Ae h2 (fun k e=>hk k (Ak h2 k e) (IZ h2 k e)),fun i hi hi' => ?_⟩
 obtain⟨h4,h5⟩:=h3 i hi hi'
 exact⟨h4,Dc.keep h5 hs (fun k hF hl=>hk k hF.1 hl)⟩
theorem CJ.below {B:Nat}{w w' : World}{v:Value}{L:List Ai}(h:CJ B w v L)(hb:Below w.heap.size w w'):CJ B w' v L:=h.keep hb.size fun k _ hl=>hb.block k hl
theorem CJ.len {B:Nat}{w:World}{v:Value}{L:List Ai}(h:CJ B w v L):∃ a c,v=.slice a L.length c:=by
 obtain⟨css,h1,h2,h3⟩:=h
 obtain⟨a,m,c,rfl⟩:=Ac h2
 obtain rfl:=Ba h2
 exact⟨a,c,rfl⟩
theorem CJ.base {B B' : Nat}{w:World}{v:Value}{L:List Ai}(h:CJ B w v L)(hb:B' <= B):CJ B' w v L:=by
 obtain⟨css,h1,h2,h3⟩:=h
 refine⟨css,h1,Cw h2 hb,fun i hi hi' => ?_⟩
 obtain⟨h4,h5⟩:=h3 i hi hi'
 exact⟨h4,Dc.mono h5 (fun k hk _=>⟨Nat.le_trans hb hk.1,hk.2⟩)⟩
theorem CJ.list {B:Nat}{w:World}{v:Value}{L:List Ai}(h:CJ B w v L):Aq 4 RAp (fun k=>B<=k) w v L:=by
 obtain⟨css,h1,h2,h3⟩:=h
 refine Aq.Qk (Bc.own h2) rfl h1 (fun k e=>Ak h2 k e) (fun i hi hi' => ?_)
 obtain⟨h4,h5⟩:=h3 i hi hi'
 exact⟨h4,Dc.mono h5 (fun k hk _=>hk.1)⟩
theorem CJ.mG {B:Nat}{w:World}{v:Value}{L:List Ai}(h:CJ B w v L):W9 w v L:=eH h.list
theorem CJ.push {B:Nat}{w w' : World}{v v' : Value}{L:List Ai}{x:Ai}{cv pv:Value}{css:List (List Value)}(h1:css.length=L.length)(hv:w.ownsRow B 72 4 v L.length css.flatten)
 (h3:∀ i (hi:i<L.length) (hi' : i<css.length),css[i].length=4/\RAp (fun k=>B<=k/\v.ownBlock≠some k) w css[i] L[i]) (hc:Jq (fun k=>B<=k/\v.ownBlock≠some k) w cv x.sig.chains) (hp:Jq (fun k=>B<=k/\v.ownBlock≠some k) w pv x.sig.path)
 (hv' : w'.ownsRow B 72 4 v' (L.length+1) (css.flatten++[.string x.name,.int .i64 x.sig.index,cv,pv])) (hg:w.grownBy w' v.ownBlock) (ho:v'.ownBlock=v.ownBlock\/v'.ownBlock=some w.heap.size):CJ B w' v' (L++[x]):=by
 have hsz:w.heap.size<=w'.heap.size:=hg.size
 have hkp:∀ k,B<=k/\v.ownBlock≠some k->k<w.heap.size->w'.heap[k]? = w.heap[k]? :=fun k hF hl=>hg.block k hl (fun e=>hF.2 e.symm)
 have hF:∀ k,B<=k/\v.ownBlock≠some k->k<w.heap.size->(B<=k/\v.ownBlock≠some k)/\v'.ownBlock≠some k:=fun k hF hl=>⟨hF,by
  rcases ho with ho|ho
  ·rw[ho];exact hF.2
  ·rw[ho];intro e;have:=Option.some.inj e;omega⟩
 refine⟨css++[[.string x.name,.int .i64 x.sig.index,cv,pv]],by simp[h1],?_,fun i hi hi' => ?_⟩
 ·rw[List.flatten_append,List.length_append]
  simpa using hv'
 ·by_cases hl:i<L.length
  ·obtain⟨h4,h5⟩:=h3 i hl (by omega)
   rw[List.getElem_append_left (by omega),List.getElem_append_left hl]
   exact⟨h4,Dc.mono (Dc.keep (Dc.mono h5 hF) hsz (fun k hk hl' => hkp k hk.1 hl')) (fun k hk _=>⟨hk.1.1,hk.2⟩)⟩
  ·have e:i=L.length:=by simp at hi;omega
   subst e
   rw[List.getElem_append_right (by omega),List.getElem_append_right (by omega)]
   simp only[h1,Nat.sub_self,List.getElem_cons_zero]
   exact⟨rfl,cv,pv,rfl,((hc.mono hF).keep (fun k hk hl' => hkp k hk.1 hl')).mono (fun k hk _=>⟨hk.1.1,hk.2⟩),((hp.mono hF).keep (fun k hk hl' => hkp k hk.1 hl')).mono (fun k hk _=>⟨hk.1.1,hk.2⟩)⟩
end Own
theorem KX:Nonempty (Fu Tryz.prog 27 72 4 72):=Ec (z:=.agg #[.string ⟨#[]⟩,.int .i64 0,.slice none 0 0,.slice none 0 0]) Tryz.underlying27 (by kernel_rfl) rfl (by omega)
end
section
open Go Go.RowKit Go.Maps
theorem bf (K:List Nat)(k:Nat)(h:k<K.length):Own.Bj (K.take (k+1))=Own.Bj (K.take k)++[Own.Yt (K.getD k 0)]:=by
 unfold Own.Bj
 rw[List.take_succ_eq_append_getElem h,List.map_append,List.getD_eq_getElem?_getD,List.getElem?_eq_getElem h]
 rfl
theorem Ir (l:List Nat)(a:Option Addr)(c:Nat)(w:World)(h:Dt w (.slice a l.length c) l)(hl:∀ b∈l,b<256)(h1:1<=l.length)(h12:l.length<=12):
 Calls Tryz.prog 31 #[.slice a l.length c] w fun e w' => ∃ mv,e=.returned mv/\w'.ownsRow w.heap.size 76 2 mv (Own.Bj (Own.keysOf l)).length ((Own.Bj (Own.keysOf l)).flatMap Own.Cy)/\Below w.heap.size w w':=by
 have hkl:=Own.JJ l
 have hmem:=fun b=>Own.RF hl (b:=b)
 have hcp:=fun base g n cap L W (h:Fz base W (.slice (some ⟨g,0,none⟩) n cap) n L) hn hn2 hcap ho hm=>Nf base g n cap L l W h hn hn2 hcap ho hl hm
 obtain⟨K,hK⟩:∃ K,K=Own.keysOf l:=⟨_,rfl⟩
 rw[<- hK] at hkl ⊢
 simp only[<- hK] at hcp
 have hkn:K.length<=256:=by rw[hK];unfold Own.keysOf;have:=List.length_filter_le (fun b=>decide (b∈l)) (List.range 256);simpa using this
 have hkb:∀ k,k<K.length->K.getD k 0<256:=fun k hk=>hkl.lt _ (by rw[List.getD_eq_getElem?_getD,List.getElem?_eq_getElem hk];exact List.getElem_mem hk)
 have HKB:=zh hkb;have HCP:=zh hcp;have HH:=zh h
 clear hkb hcp hK hmem hkl h hl
 go_enter Tryz.func31,Tryz.ntmps31
 go_wp2_with fail
 refine(Pq a l.length c _).mono ?_
 rintro e _ ⟨rfl,rfl⟩
 have hb1:Below w.heap.size w (w.alloc (.cells #[.slice a l.length c] 66)):=zb
 have HB1:=zh hb1;have H1:=zh (HH.out.below hb1);have C1:=zh (Xq w (.slice a l.length c) 66)
 clear hb1 HH
 go_wp2_with fail
 generalize w.alloc (.cells #[.slice a l.length c] 66)=w1 at*
 refine(Pp w.heap.size _ l _ C1.out H1.out h1 h12).mono ?_
 rintro e w2 ⟨v',L',rfl,hl',hr',ho',hm',hb2⟩
 obtain⟨g,cap,rfl,_⟩:=Ct hr' (by omega)
 have hgc:=(dR hr').1
 have hgu:=Ak hr' g rfl
 have HB2:=zh (HB1.out.trans (hb2.mono HB1.out.size))
 have HR:=zh hr';have HO:=zh ho';have HM:=zh hm'
 have hg0:w.heap.size<=g:=Nat.le_trans HB1.out.size hgu
 clear hr' ho' hm' hb2 hgu H1 C1 HB1
 go_wp2_with fail
 refine(HCP.out _ g l.length cap L' _ HR.out h1 (by omega) hgc HO.out HM.out).mono ?_
 rintro e w3 ⟨rfl,hk,hf⟩
 have HB3:=zh (HB2.out.trans (hf.below HB2.out.size (fun k hk=>by rw[hk];exact hg0)))
 have HK:=zh hk
 clear hk hf HB2 HR HO HM HCP hg0
 go_wp2
 go_loopw [11,3] (fun i v wr=>∃ (k:Nat),k<=K.length/\i=.int .i64 k/\wr.ownsRow w3.heap.size 76 2 v k ((Own.Bj (K.take k)).flatMap Own.Cy)/\Below w3.heap.size w3 wr) (fun i _ _=>K.length-(intOf i).toNat)
 case atStart=>exact⟨0,by omega,rfl,⟨rfl,.inl ⟨rfl,rfl⟩⟩,Below.refl _ _⟩
 case round=>
  obtain⟨k,hk,rfl,hown,hb⟩:=hrel
  obtain⟨va,vm,vc,rfl⟩:=Ac hown
  obtain rfl:k=vm:=(Ba hown).symm
  have HOW:=zh hown;have HB:=zh hb
  clear hown hb
  by_cases hlt:k<K.length
  case neg=>
   have hke:k=K.length:=by omega
   have dk:decide ((k:Int)<K.length)=false:=zf
   have how:=HOW.out
   rw[hke,List.take_length] at how
   have HF:=zh (Cw how HB3.out.size)
   clear how
   have HE:=zh (show(Own.Bj K).length=K.length from List.length_map _)
   have HKE:=zh hke
   clear hke
   go_wp2
   go_ret
   exact⟨_,rfl,by rw[HE.out,HKE.out];exact HF.out,HB3.out.trans (HB.out.mono HB3.out.size)⟩
  have dk:decide ((k:Int)<K.length)=true:=zt
  have hx2:=HKB.out k hlt
  have htk:=bf K k hlt
  obtain⟨b,o,ha,hbl,hc⟩:=Dt.cell (HK.out.below HB.out) hlt
  cases ha
  rw[Nat.zero_add] at hc
  obtain⟨x,hx⟩:∃ x,x=K.getD k 0:=⟨_,rfl⟩
  rw[<- hx] at hc hx2 htk
  have HT:=zh htk
  clear hx htk hbl
  have hnm:=fun W=>KP x W hx2
  have hpb:=fun W=>PY x W hx2
  obtain⟨N,hN⟩:∃ N,N=Own.CG x:=⟨_,rfl⟩
  obtain⟨P,hP⟩:∃ P,P=Own.Ej x:=⟨_,rfl⟩
  have LK:Own.Bj (K.take (k+1))=Own.Bj (K.take k)++[⟨N,P⟩]:=by rw[HT.out,hN,hP];rfl
  simp only[<- hN] at hnm
  simp only[<- hP] at hpb
  have HNM:=zh hnm;have HPB:=zh hpb;have HT2:=zh LK
  clear hnm hpb hN hP LK HT
  go_wp2_with fail
  refine(HNM.out _).mono ?_
  rintro e w5 ⟨rfl,hb5⟩
  have HB5:=zh (HB.out.trans (hb5.mono HB.out.size));have HO5:=zh (own_below HOW.out hb5)
  clear hb5
  go_wp2_with fail
  refine(HPB.out _).mono ?_
  rintro e w6 ⟨rfl,hb6⟩
  have hb7:Below w6.heap.size w6 (w6.alloc (.cells #[.string N,.string P] 76)):=zb
  have HB6:=zh (HB5.out.trans (hb6.mono HB5.out.size));have HO6:=zh (own_below HO5.out hb6)
  have HB7:=zh (HB6.out.trans (hb7.mono HB6.out.size));have HO7:=zh (own_below HO6.out hb7)
  have HRW:=zh (Cx w6 76 #[.string N,.string P] 2 1 1 rfl)
  clear hb6 hb7 hc
  go_wp2_with (at_builtin;go_must (refine Ah JO rfl _ _ rfl w3.heap.size k (.slice va k vc) ((Own.Bj (K.take k)).flatMap Own.Cy) rfl HO7.out (.slice (some ⟨w6.heap.size,0,none⟩) 1 1) 1 [.string N,.string P] rfl HRW.out (by intro u hu;simp at hu;rcases hu with rfl|rfl<;>rfl) (by omega) (by omega) HB7.out.size ?_);intro v9 w9 ho9 hg9 hw9;obtain⟨ya,ym,yc,rfl⟩:=Ac ho9;have HO9:=zh ho9;have HB9:=zh (Bh HB7.out HB7.out.size HO7.out hg9);clear ho9 hg9 hw9)
  refine⟨⟨k+1,by omega,by go_num,?_,HB9.out⟩,by simp[intOf];omega⟩
  rw[HT2.out,List.flatMap_append]
  simpa [Own.Cy] using HO9.out
end
section
open Go
namespace Own
theorem pos_at {α : Type}{f : α -> ByteArray} : ∀ {l:List α},Srt f l->∀ {i:Nat} (hi:i<l.length),posB f (f l[i]) l=i
 | [],_,i,hi=>by cases hi
 | x :: l,hs,i,hi => by
   obtain⟨h1,h2⟩:=List.pairwise_cons.1 hs
   cases i with
   | zero =>
     show posB f (f x) (x::l)=0
     rw[posB,if_neg (by rw[BP];simp)]
   | succ i =>
     have hi' : i<l.length:=by simpa using hi
     show posB f (f l[i]) (x::l)=i+1
     rw[posB,if_pos (h1 _ (List.getElem_mem hi')),pos_at h2 hi']
theorem tK {α : Type}{f : α -> ByteArray}{l:List α}(hs:Srt f l){i:Nat}(hi:i<l.length):Dl f (f l[i]) l=true:=by
 unfold Dl
 rw[pos_at hs hi,List.getElem?_eq_getElem hi]
 exact decide_eq_true rfl
theorem YK {α : Type}{f : α -> ByteArray}{l:List α}(hs:Srt f l){i:Nat}(hi:i<l.length)(x : α)(hx:f x=f l[i]):Dj f x l=l.set i x:=by
 rw[MN,hx,pos_at hs hi,tK hs hi,if_pos rfl,List.set_eq_take_append_cons_drop,if_pos hi]
theorem eO {α : Type}{f : α -> ByteArray}{t:ByteArray}{l:List α}(h:∀ y∈l,f y≠t):Dl f t l=false:=by
 unfold Dl
 cases hq:l[posB f t l]? with
 | none=>rfl
 | some y=>exact decide_eq_false (h y (List.mem_of_getElem? hq))
theorem mH {α : Type}{f : α -> ByteArray}{l:List α}(x : α)(h:∀ y∈l,f y≠f x):Dj f x l=l.take (posB f (f x) l)++x::l.drop (posB f (f x) l):=by
 rw[MN,eO h,if_neg (by simp),Nat.add_zero]
theorem drop_at {l:List Space}(hs:Srt Space.pre l){i:Nat}(hi:i<l.length):Na l l[i].pre=l.take i++l.drop (i+1):=by
 induction l generalizing i with
 | nil=>cases hi
 | cons x l ih =>
   obtain⟨h1,h2⟩:=List.pairwise_cons.1 hs
   cases i with
   | zero =>
     show Na (x::l) x.pre=l
     unfold Na
     rw[List.filter_cons_of_neg (by simp),List.filter_eq_self]
     intro y hy
     have:=h1 y hy
     simp only[Bool.not_eq_true',decide_eq_false_iff_not]
     intro e
     rw[e,BP] at this
     cases this
   | succ i =>
     have hi' : i<l.length:=by simpa using hi
     have hne:x.pre≠l[i].pre:=fun e=>by
      have:=h1 l[i] (List.getElem_mem hi')
      rw[e,BP] at this;cases this
     show Na (x::l) l[i].pre=x::(l.take i++l.drop (i+1))
     unfold Na
     rw[List.filter_cons_of_pos (by simpa using hne)]
     have:=ih h2 hi'
     unfold Na at this
     rw[this]
theorem WB (p:ByteArray):belongs p p=true:=by
 unfold belongs
 rw[decide_eq_true rfl]
 rfl
theorem Va {p:ByteArray} : ∀ (l:List Space) (b:Option Space),b.isSome=true->(CB p b l).isSome=true
 | [],_,h=>h
 | x :: l,b,h => by
   unfold CB
   refine Va l _ ?_
   generalize (belongs p x.pre&&_)=c
   cases c with
   | true=>rfl
   | false=>exact h
theorem Vb {p:ByteArray} : ∀ {l:List Space},CB p none l=none->∀ s∈l,belongs p s.pre=false
 | [],_,s,hs=>by cases hs
 | x :: l,h,s,hs => by
   unfold CB at h
   cases hx:belongs p x.pre with
   | true =>
     rw[hx] at h
     have:=Va (p:=p) l (some x) rfl
     have e:CB p (some x) l=none:=h
     rw[e] at this
     cases this
   | false =>
     rw[hx] at h
     have e:CB p none l=none:=h
     rcases List.mem_cons.1 hs with rfl|hs
     ·exact hx
     ·exact Vb e s hs
theorem YL {p:ByteArray}{l:List Space}(h:CB p none l=none):∀ s∈l,s.pre≠p:=fun s hs e=>by
 have:=Vb h s hs
 rw[e,WB] at this
 cases this
end Own
end
end Go.Proofs.YtjlmglgmcekmhaaGreatDoor
