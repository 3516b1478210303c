/- The program's restored: a state from its bytes. -/
import Derived.Test.YtdiiafgoccakkaaGreatDoorShkB7
set_option linter.unusedVariables false
set_option linter.unusedSimpArgs false
set_option maxRecDepth 100000
set_option maxHeartbeats 8000000
namespace Go.Proofs.YtdiiafgoccakkaaGreatDoor
section
open Go Go.RowKit Go.Maps
namespace Sto
def eD (w:World)(data:ByteArray)(e:Ending)(w' : World):Prop:=
 ((∃ s,Mh data=some s/\Bw s/\∃ mo mv ve F,e=.returned (.tuple #[.agg #[.map (some mo),ve,.map (some mv)],.bool true])/\StC w' F mo mv ve s/\(∀ k,SFo F mo mv ve k->w.heap.size<=k/\k<w'.heap.size))\/
  ((¬ ∃ s,Mh data=some s/\Bw s)/\∃ mo ea en ec mv,e=.returned (.tuple #[.agg #[.map mo,.slice ea en ec,.map mv],.bool false])))/\Below w.heap.size w w'
theorem Ay.below {rb B:Nat}{w w' : World}{cs:Array Value}(h:Ay rb w w' cs)(h1:B<=rb)(h2:B<=w.heap.size):Below B w w':=Fr.El h.fr (fun k hk=>by rw[hk];exact h1) h2
theorem Zb {rb:Nat}{w w' : World}{cs:Array Value}{v:Value}{l:List ByteArray}(h:Am w v l)(hs:Ay rb w w' cs)(hv:∀ k,v.ownBlock=some k->k≠rb):Am w' v l:=h.keep fun k hk hl=>hs.fr.keep k hl (hv k hk)
theorem Wj (data:ByteArray)(w:World)(hs:data.size<=1000000):
 Calls Tryz.prog 53 #[.string data] w (eD w data):=by
 obtain⟨R,hR⟩:∃ R,R=eD w data:=⟨_,rfl⟩
 rw[<- hR]
 obtain⟨⟨os,r1⟩,h1⟩:∃ y,stL data ⟨0,0⟩=y:=⟨_,rfl⟩
 obtain⟨⟨es,r2⟩,h2⟩:∃ y,stL data r1=y:=⟨_,rfl⟩
 obtain⟨⟨vs,r3⟩,h3⟩:∃ y,stL data r2=y:=⟨_,rfl⟩
 have l1:r1.a<=data.size:=by have:=YZ (s:=data) (r:=⟨0,0⟩) (Nat.zero_le _);rw[h1] at this;exact this
 have l2:r2.a<=data.size:=by have:=YZ (s:=data) (r:=r1) l1;rw[h2] at this;exact this
 have l3:r3.a<=data.size:=by have:=YZ (s:=data) (r:=r2) l2;rw[h3] at this;exact this
 have hst:=vQ h1 h2 h3 l3
 have n1:os.length<=1000000:=by have:=Za (s:=data) (r:=⟨0,0⟩);rw[h1] at this;exact Nat.le_trans this hs
 have n2:es.length<=1000000:=by have:=Za (s:=data) (r:=r1);rw[h2] at this;exact Nat.le_trans this hs
 have n3:vs.length<=1000000:=by have:=Za (s:=data) (r:=r2);rw[h3] at this;exact Nat.le_trans this hs
 have m1:∀ x∈os,x.size<=1000000:=fun x hx=>Nat.le_trans (RY (s:=data) (r:=⟨0,0⟩) (by rw[h1];exact hx)) hs
 have m2:∀ x∈es,x.size<=1000000:=fun x hx=>Nat.le_trans (RY (s:=data) (r:=r1) (by rw[h2];exact hx)) hs
 have m3:∀ x∈vs,x.size<=1000000:=fun x hx=>Nat.le_trans (RY (s:=data) (r:=r2) (by rw[h3];exact hx)) hs
 obtain⟨E,hE⟩:∃ E,E=Cv data r3.a r3.e:=⟨_,rfl⟩
 rw[<- hE] at hst
 have HR:=zh hR;have H1:=zh h1;have H2:=zh h2;have H3:=zh h3;have HST:=zh hst;have HE:=zh hE;have M1:=zh m1;have M2:=zh m2;have M3:=zh m3
 clear hR h1 h2 h3 hst hE m1 m2 m3
 have T1:=zh (show Aj w _ [(84,#[.map none,.slice none 0 0,.map none])] from((Bp.nil w).push 84 #[.map none,.slice none 0 0,.map none]).boxes)
 go_enter Tryz.func53,Tryz.ntmps53
 go_upto_region 1 with fail
 generalize (w.alloc (.cells #[.map none,.slice none 0 0,.map none] 84))=w1 at*
 have hz1:w.heap.size+1<=w1.heap.size:=T1.out.size
 go_wp2_with fail
 refine(Uw data _).mono ?_
 rintro e w2 ⟨rfl,hw2⟩
 obtain⟨rb,hrb⟩:∃ rb,rb=w1.heap.size:=⟨_,rfl⟩
 have hR2:At w2 rb 223 (rdV data 0 0):=by rw[hw2,hrb];exact At.new _ _ _
 have zL:w.heap.size+1<=rb:=by omega
 have T2:=zh (T1.out.step (show Below w1.heap.size w1 w2 by rw[hw2];exact zb))
 have hz2:rb<w2.heap.size:=hR2.lt
 rw[<- hrb]
 clear hw2 hrb
 go_wp2_with fail
 refine(JN rb data ⟨0,0⟩ _ H1.out hR2 (Nat.zero_le _) hs).mono ?_
 rintro e w3 ⟨v1,rfl,hs1,_,hv1,vR⟩
 have T3:=zh (T2.out.over (Ay.below (B:=w.heap.size+1) vR zL (by omega)))
 have hR3:=vR.at_
 have hz3:=vR.fr.size
 obtain⟨a1,c1,rfl⟩:=hs1.len
 have zM : ∀ k,(Value.slice a1 os.length c1).ownBlock=some k->k≠rb:=fun k hk=>by have:=hv1 k hk;omega
 go_wp2_with fail
 refine(JN rb data r1 _ H2.out hR3 l1 hs).mono ?_
 rintro e w4 ⟨v2,rfl,hs2,_,hv2,dw⟩
 have T4:=zh (T3.out.over (Ay.below (B:=w.heap.size+1) dw zL (by omega)))
 have hR4:=dw.at_
 have hz4:=dw.fr.size
 obtain⟨a2,c2,rfl⟩:=hs2.len
 have zbi : ∀ k,(Value.slice a2 es.length c2).ownBlock=some k->k≠rb:=fun k hk=>by have:=hv2 k hk;omega
 have zbj:=Zb hs1 dw zM
 go_wp2_with fail
 refine(JN rb data r2 _ H3.out hR4 l2 hs).mono ?_
 rintro e w5 ⟨v3,rfl,hs3,_,hv3,oo⟩
 have T5:=zh (T4.out.over (Ay.below (B:=w.heap.size+1) oo zL (by omega)))
 have hR5:=oo.at_
 have hz5:=oo.fr.size
 obtain⟨a3,c3,rfl⟩:=hs3.len
 have X1:=zh (Zb zbj oo zM);have X2:=zh (Zb hs2 oo zbi);have X3:=zh hs3;have R5:=zh hR5
 clear hs1 zbj hs2 hs3 hv1 hv2 hv3 zM zbi vR dw oo hR2 hR3 hR4 hR5
 go_wp2_with fail
 refine(FJ rb data r3.a r3.e _ R5.out).mono ?_
 rintro e w6 ⟨rfl,hw6⟩
 rw[<- HE.out]
 have hb6:Below w5.heap.size w5 w6:=by rw[hw6];exact(Below.refl _ _).drew
 have T6:=zh (T5.out.step hb6);have Y1:=zh (X1.out.below hb6);have Y2:=zh (X2.out.below hb6);have Y3:=zh (X3.out.below hb6)
 clear hw6 hb6
 by_cases he:E=0
 ·subst he
  have vS:Mh data=JO os es vs:=by rw[HST.out,if_pos rfl]
  rcases Nat.mod_two_eq_zero_or_one vs.length with hev|hodd
  ·have dv:((vs.length:Int)%2==(1:Int))=false:=by rw[beq_eq_false_iff_ne];omega
   obtain⟨pl,hp1,hp2,hp3⟩:=Rl (vs.length/2) (l:=vs) (by omega)
   have HP1:=zh hp1;have HP3:=zh hp3;have zbk:=zh vS
   have hpl:2*pl.length=vs.length:=by omega
   have HPL:=zh hpl
   clear hp1 hp3 vS hp2 hpl
   have S1:=zh (show Aj w6 _ [(26,#[.slice none 0 0,.slice a2 es.length c2,.slice none 0 0])] from((Bp.nil w6).push 26 #[.slice none 0 0,.slice a2 es.length c2,.slice none 0 0]).boxes)
   go_upto_region 6 with fail
   generalize (w6.alloc (.cells #[.slice none 0 0,.slice a2 es.length c2,.slice none 0 0] 26))=w7 at*
   have hz7:w6.heap.size+1<=w7.heap.size:=S1.out.size
   go_wp2
   go_loopw [36] (fun i wr=>∃ (k:Nat) (v:Value) (L:List Obj),k<=os.length/\i=.int .i64 k/\Ce (os.take k)=some L/\Aj w6 wr [(26,#[v,.slice a2 es.length c2,.slice none 0 0])]/\sP w7.heap.size wr v L/\w7.heap.size<=wr.heap.size) (fun i _=>os.length-(intOf i).toNat)
   case atStart=>exact⟨0,_,[],by omega,rfl,rfl,S1.out,Dq.nil _,Nat.le_refl _⟩
   case round=>
    obtain⟨k,v,L,hk,rfl,hdec,hbx,hrow,hzr⟩:=hrel
    have HB:=zh hbx;have HRW:=zh hrow;have HDC:=zh hdec
    have hLk:L.length=k:=by have:=(Qr hdec).1;rw[List.length_take] at this;omega
    clear hbx hrow hdec
    obtain⟨ra,rm,rc,rfl⟩:∃ a n c,v=.slice a n c:=by obtain⟨_,_,_,q,_⟩:=HRW.out.row;exact Ah q
    by_cases hlt:k<os.length
    ·have dk:decide ((k:Int)<os.length)=true:=by simp;omega
     obtain⟨b,o,hao⟩:=Y1.out.addrOf hlt
     have hcs:=(Y1.out.below HB.out.under)
     rw[hao] at hcs
     have ce:=hcs.cellAt hlt
     obtain⟨x,hx⟩:∃ x,x=os[k]:=⟨_,rfl⟩
     rw[show os.getD k ⟨#[]⟩=x by rw[hx];simp[List.getD_eq_getElem?_getD,hlt]] at ce
     have hxs:x.size<=1000000:=by rw[hx];exact M1.out _ (List.getElem_mem hlt)
     have HX:=zh hx
     clear hcs hx
     have hdt:=dY hlt
     rw[HDC.out,<- HX.out] at hdt
     have HDT:=zh hdt
     clear hdt
     subst hao
     go_upto_region 9 with fail
     clear ce
     go_wp2_with fail
     refine(QV x _ hxs).mono ?_
     intro e wa hpost
     unfold RG at hpost
     cases hdx:Dn x with
     | none =>
       rw[hdx] at hpost
       obtain⟨rfl,hba⟩:=hpost
       unfold Dj
       have hdn:Ce os=none:=dZ (k:=k+1) (by omega) (by rw[HDT.out,hdx])
       have HEE:=zh (show Mh data=none by rw[zbk.out];unfold JO;rw[hdn])
       have hal:Below wa.heap.size wa (wa.alloc (.cells #[.int .i64 Obj.none.kind,.slice none 0 0,.string Obj.none.data] 64)):=zb
       have T7:=zh (((T6.out.step HB.out.under).step hba).step hal)
       clear hdn hdx hba hal
       go_upto_region 10 with fail
       generalize wa.alloc (.cells #[.int .i64 Obj.none.kind,.slice none 0 0,.string Obj.none.data] 64)=wb at*
       obtain⟨t00,t01,t02,Ci,Cj,Ck⟩:=T7.out.Hz rfl
       go_wp2_with fail
       (try clear t00 t01 t02 Ci Cj Ck)
       have T9:=((T7.out.put 0 0 (.map none) rfl).put 0 1 (.slice none 0 0) rfl).put 0 2 (.map none) rfl
       refine AQ rfl rfl rfl (Al (T9.at1 0 rfl) Tryz.underlying84 rfl AX) ?_
       rw[HR.out]
       exact⟨.inr ⟨(fun⟨_,h,_⟩=>by rw[HEE.out] at h;cases h),_,_,_,_,_,rfl⟩,T9.under⟩
     | some ob =>
       rw[hdx] at hpost
       obtain⟨na,nc,rfl,hsx,hnb,hba⟩:=hpost
       unfold Dj
       have O1:=zh (show Aj wa _ [(64,#[.int .i64 ob.kind,.slice na ob.refs.length nc,.string ob.data])] from((Bp.nil wa).push 64 #[.int .i64 ob.kind,.slice na ob.refs.length nc,.string ob.data]).boxes)
       have hza:=hba.size
       have HBA:=zh hba;have HSX:=zh hsx;have HNB:=zh hnb;have HDX:=zh hdx
       clear hdx hba hsx hnb
       go_upto_region 10 with fail
       generalize (wa.alloc (.cells #[.int .i64 ob.kind,.slice na ob.refs.length nc,.string ob.data] 64))=wb at*
       have hzb:wa.heap.size+1<=wb.heap.size:=O1.out.size
       have hal:Below wb.heap.size wb (wb.alloc (.cells #[.int .i64 ob.kind,.slice na ob.refs.length nc,.string ob.data] 64)):=zb
       have hvb:∀ j,(Value.slice ra rm rc).ownBlock=some j->j<wr.heap.size:=fun j hj=>by
        obtain⟨_,_,_,q,_⟩:=HRW.out.row
        obtain⟨cur,hc⟩:=Ao q hj
        exact hc.lt
       have hrow:=((HRW.out.below HBA.out).below O1.out.under).below hal
       obtain⟨css,q1,q2,q3,q4⟩:=hrow.row
       have HBC:=zh ((HB.out.step HBA.out).step O1.out.under)
       have HBD:=zh (HBC.out.step hal)
       have Q1:=zh q1;have Q2:=zh q2;have Q3:=zh q3;have Q4:=zh q4;have HVB:=zh hvb;have HAL:=zh hal
       have HRN:=zh (EY wb 64 #[.int .i64 ob.kind,.slice na ob.refs.length nc,.string ob.data] 3 1 1 rfl)
       have zN:(wb.alloc (.cells #[.int .i64 ob.kind,.slice na ob.refs.length nc,.string ob.data] 64)).heap.size=wb.heap.size+1:=World.size_alloc _ _
       have zcw:=zh zN
       clear hrow hal q1 q2 q3 q4 hvb zN
       obtain⟨n00,n01,n02,vT,vU,vV⟩:=HBC.out.Hz rfl
       obtain⟨o00,o01,o02⟩:=O1.out.Ev rfl
       go_wp2_with (at_builtin;go_must (refine BG Rj rfl _ _ rfl w7.heap.size L.length (.slice ra rm rc) css.flatten rfl Q3.out (.slice (some ⟨wb.heap.size,0,none⟩) 1 1) 1 [.int .i64 ob.kind,.slice na ob.refs.length nc,.string ob.data] rfl HRN.out (by intro u hu;simp at hu;rcases hu with rfl|rfl|rfl<;>rfl) (by omega) (by omega) (by rw[World.size_alloc];omega) ?_);intro v9 w9 ho9 hg9 hw9;obtain⟨ya,ym,yc,rfl⟩:=Ah ho9;have HB9:=zh (HBD.out.far (O:=w7.heap.size) (by show w6.heap.size+1<=_;omega) (Az Q3.out) hg9);have HO9:=zh ho9;have HG9:=zh hg9;have HW9:=zh hw9;clear ho9 hg9 hw9;have y00:w9.cell? ⟨w6.heap.size,0,none⟩=some (.slice ra rm rc):=HB9.out.cell 0 0 rfl rfl;have zO:w9.frozen? ⟨w6.heap.size,0,none⟩=false:=HB9.out.free 0 0 rfl;have y01:w9.cell? ⟨w6.heap.size,1,none⟩=some (.slice a2 es.length c2):=HB9.out.cell 0 1 rfl rfl;have zQ:w9.frozen? ⟨w6.heap.size,1,none⟩=false:=HB9.out.free 0 1 rfl;have y02:w9.cell? ⟨w6.heap.size,2,none⟩=some (.slice none 0 0):=HB9.out.cell 0 2 rfl rfl;have zR:w9.frozen? ⟨w6.heap.size,2,none⟩=false:=HB9.out.free 0 2 rfl)
       (try clear zO);(try clear y00);(try clear zQ);(try clear y01);(try clear zR);(try clear y02)
       (try clear vT);(try clear n00);(try clear vU);(try clear n01);(try clear vV);(try clear n02)
       (try clear o00 o01 o02)
       have hwa:Below wa.heap.size wa (wb.alloc (.cells #[.int .i64 ob.kind,.slice na ob.refs.length nc,.string ob.data] 64)):=O1.out.under.trans (HAL.out.mono O1.out.under.size)
       have hsz:=HSX.out.below hwa
       have hpush:=Dq.push (R:=sw) (x:=ob) Q1.out Q2.out Q4.out (cs:=[.int .i64 ob.kind,.slice na ob.refs.length nc,.string ob.data]) rfl ⟨_,rfl,hsz,fun h0 j hj=>by
        have h1:=HNB.out j hj
        exact⟨⟨by omega,fun e=>by have:=HVB.out j e;omega⟩,hsz.blk h0 j hj⟩⟩ (by intro u hu;simp at hu;rcases hu with rfl|rfl|rfl<;>rfl) HO9.out HG9.out HW9.out
       have hgs:=HG9.out.size
       have zN:=zcw.out
       have zbl:Ce (os.take (k+1))=some (L++[ob]):=by rw[HDT.out,HDX.out]
       exact⟨⟨k+1,.slice ya ym yc,L++[ob],by omega,by go_num,zbl,HB9.out.put 0 0 (.slice ya ym yc) rfl,hpush.setCell (by omega) _,by rw[World.size_setCell];omega⟩,by simp[intOf];omega⟩
    ·have dk:decide ((k:Int)<os.length)=false:=by simp;omega
     have hkl:k=os.length:=by omega
     have lT:Ce os=some L:=by have:=HDC.out;rwa [hkl,List.take_length] at this
     have HDA:=zh lT
     have hok:=(Qr lT).2
     have nU:=zh hok
     have Ll:Mh data=some ⟨L,es,pl⟩:=by rw[zbk.out];unfold JO;rw[lT];dsimp only;rw[HP1.out]
     have HS2:=zh Ll
     clear lT Ll hok hkl
     obtain⟨wl,hwl⟩:∃ x,x=wr:=⟨_,rfl⟩
     subst hwl
     go_wp2
     go_loopw [13] (fun i wr=>∃ (k:Nat) (v:Value),k<=pl.length/\i=.int .i64 (2*(k:Int))/\Aj w6 wr [(26,#[.slice ra rm rc,.slice a2 es.length c2,v])]/\sQ wl.heap.size wr v (pl.take k)/\(∀ j,w7.heap.size<=j->j<wl.heap.size->wr.heap[j]? = wl.heap[j]?)/\wl.heap.size<=wr.heap.size) (fun i _=>pl.length-((intOf i)/2).toNat)
     case atStart=>exact⟨0,_,by omega,rfl,HB.out,Dq.nil _,fun _ _ _=>rfl,Nat.le_refl _⟩
     case round=>
      obtain⟨j,v,hj,rfl,hbx,hrow,hkeep,zcx⟩:=hrel
      have HX:=zh hbx;have HRV:=zh hrow;have HKP:=zh hkeep
      clear hbx hrow hkeep
      obtain⟨qa,qm,qc,rfl⟩:∃ a n c,v=.slice a n c:=by obtain⟨_,_,_,q,_⟩:=HRV.out.row;exact Ah q
      by_cases hlv:j<pl.length
      ·have dj:decide (2*(j:Int)<vs.length)=true:=by have:=HPL.out;simp;omega
       have hv1:2*j<vs.length:=by have:=HPL.out;omega
       have hv2:2*j+1<vs.length:=by have:=HPL.out;omega
       obtain⟨b,o,hao⟩:=Y3.out.addrOf hv1
       have hcs:=(Y3.out.below HX.out.under)
       rw[hao] at hcs
       have ce:=hcs.cellAt hv1
       have ce2:=hcs.cellAt hv2
       obtain⟨x,hx⟩:∃ x,x=pl[j]:=⟨_,rfl⟩
       have hx2:=HP3.out j hlv
       rw[<- hx] at hx2
       rw[show vs.getD (2*j) ⟨#[]⟩=x.name by rw[hx2]] at ce
       rw[show vs.getD (2*j+1) ⟨#[]⟩=x.data by rw[hx2]] at ce2
       have HXE:=zh hx
       clear hcs hx hx2
       subst hao
       have hal:Below wr.heap.size wr (wr.alloc (.cells #[.string x.name,.string x.data] 71)).drew:=zb.drew
       obtain⟨css,q1,q2,q3,q4⟩:=(HRV.out.below hal).row
       have HXD:=zh (HX.out.step hal)
       have Q1:=zh q1;have Q2:=zh q2;have Q3:=zh q3;have Q4:=zh q4
       have HRN:=zh ((EY wr 71 #[.string x.name,.string x.data] 2 1 1 rfl).below (Below.refl _ _).drew)
       have hlen:(pl.take j).length=j:=by rw[List.length_take];omega
       have zcy:pl.length<=500000:=by have:=HPL.out;omega
       have HAL:=zh hal
       clear hal q1 q2 q3 q4
       obtain⟨n00,n01,n02,vT,vU,vV⟩:=HX.out.Hz rfl
       go_upto_region 17 with fail
       refine Lex.zl ?_
       go_wp2_with (at_builtin;go_must (refine BG UZ rfl _ _ rfl wl.heap.size (pl.take j).length (.slice qa qm qc) css.flatten rfl Q3.out (.slice (some ⟨wr.heap.size,0,none⟩) 1 1) 1 [.string x.name,.string x.data] rfl HRN.out (by intro u hu;simp at hu;rcases hu with rfl|rfl<;>rfl) (by omega) (by omega) (by show wl.heap.size<=(wr.alloc _).heap.size;rw[World.size_alloc];omega) ?_);intro v9 w9 ho9 hg9 hw9;obtain⟨ya,ym,yc,rfl⟩:=Ah ho9;have HB9:=zh (HXD.out.far (O:=wl.heap.size) (by show w6.heap.size+1<=_;omega) (Az Q3.out) hg9);have HO9:=zh ho9;have HG9:=zh hg9;have HW9:=zh hw9;clear ho9 hg9 hw9;have y00:w9.cell? ⟨w6.heap.size,0,none⟩=some (.slice ra rm rc):=HB9.out.cell 0 0 rfl rfl;have zO:w9.frozen? ⟨w6.heap.size,0,none⟩=false:=HB9.out.free 0 0 rfl;have y01:w9.cell? ⟨w6.heap.size,1,none⟩=some (.slice a2 es.length c2):=HB9.out.cell 0 1 rfl rfl;have zQ:w9.frozen? ⟨w6.heap.size,1,none⟩=false:=HB9.out.free 0 1 rfl;have y02:w9.cell? ⟨w6.heap.size,2,none⟩=some (.slice qa qm qc):=HB9.out.cell 0 2 rfl rfl;have zR:w9.frozen? ⟨w6.heap.size,2,none⟩=false:=HB9.out.free 0 2 rfl)
       refine Lex.ze ?_
       go_wp2_with fail
       (try clear zO);(try clear y00);(try clear zQ);(try clear y01);(try clear zR);(try clear y02)
       (try clear vT);(try clear n00);(try clear vU);(try clear n01);(try clear vV);(try clear n02)
       have hpush:=Dq.push (R:=sD) (x:=x) Q1.out Q2.out Q4.out (cs:=[.string x.name,.string x.data]) rfl rfl (by intro u hu;simp at hu;rcases hu with rfl|rfl<;>rfl) HO9.out HG9.out HW9.out
       have htk:pl.take j++[x]=pl.take (j+1):=by rw[HXE.out,List.take_succ_eq_append_getElem hlv]
       rw[htk] at hpush
       have hgs:wr.heap.size+1<=w9.heap.size:=by have h:=HG9.out.size;rw[show((wr.alloc (.cells #[.string x.name,.string x.data] 71)).drew).heap.size=wr.heap.size+1 from World.size_alloc _ _] at h;exact h
       refine⟨⟨j+1,.slice ya ym yc,by omega,by go_num,HB9.out.put 0 2 (.slice ya ym yc) rfl,hpush.setCell (by omega) _,fun k h1 h2=>?_,by simp only[World.setCell,Array.size_modify];omega⟩,by simp[intOf];omega⟩
       rw[zo (by show k≠w6.heap.size;omega),HG9.out.block k (by show k<(wr.alloc _).heap.size;rw[World.size_alloc];omega) (fun e=>by have:=Az Q3.out k e.symm;omega)]
       exact(HAL.out.block k (by omega)).trans (HKP.out k h1 h2)
      ·have dj:decide (2*(j:Int)<vs.length)=false:=by have:=HPL.out;simp;omega
       have hjl:j=pl.length:=by have:=HPL.out;omega
       have hrv:=HRV.out
       rw[hjl,List.take_length] at hrv
       have hob:=(HRW.out.keep (w':=wr) zcx fun k h1 h2=>HKP.out k h1 h2).list
       have hvb:=hrv.list.mono (G:=fun k=>w7.heap.size<=k) fun k hk _=>by have hk2:wl.heap.size<=k:=hk;show w7.heap.size<=k;omega
       have hen:=Y2.out.below HX.out.under
       have hLo:=(Qr HDA.out).1
       have zcy:pl.length<=500000:=by have:=HPL.out;omega
       have hre:OY ⟨L,es,pl⟩:=⟨fun o ho=>Eu (nU.out o ho),⟨by show es.length<=_;omega,fun e he=>by have:=M2.out e he;omega⟩,fun v hv=>by
        obtain⟨i,hi,rfl⟩:=List.getElem_of_mem hv
        have hi2:i<pl.length:=hi
        have h2:=HPL.out
        rw[HP3.out i hi]
        have g1:vs.getD (2*i) ⟨#[]⟩∈vs:=by rw[List.getD_eq_getElem?_getD,List.getElem?_eq_getElem (by omega)];exact List.getElem_mem (by omega)
        have g2:vs.getD (2*i+1) ⟨#[]⟩∈vs:=by rw[List.getD_eq_getElem?_getD,List.getElem?_eq_getElem (by omega)];exact List.getElem_mem (by omega)
        have h3:=M3.out _ g1
        have h4:=M3.out _ g2
        exact⟨by show(vs.getD (2*i) ⟨#[]⟩).size<=_;omega,by show(vs.getD (2*i+1) ⟨#[]⟩).size<=_;omega⟩,⟨by show L.length<=_;omega,by show pl.length<=_;omega⟩⟩
       have HOB:=zh hob;have HVB:=zh hvb;have HEN:=zh hen;have HRE:=zh hre
       clear hob hvb hen hre hrv hLo hjl
       obtain⟨n00,n01,n02⟩:=HX.out.Ev rfl
       go_wp2_with fail
       (try clear vT);(try clear n00);(try clear vU);(try clear n01);(try clear vV);(try clear n02)
       refine(OZ (fun k=>w7.heap.size<=k) (.slice ra rm rc) (.slice a2 es.length c2) (.slice qa qm qc) ⟨L,es,pl⟩ _ HOB.out HEN.out HVB.out HRE.out).mono ?_
       rintro e wa hp
       have hwr:w.heap.size+1<=wr.heap.size:=by have:=HX.out.under.size;have:=T6.out.size;omega
       rcases hp with ⟨hok,mo,mv,ve,F,rfl,hst,hfo,hb⟩|⟨hno,mo,mv,pa,pn,pc,rfl,hb⟩
       ·obtain⟨na,nc,rfl⟩:=hst.en.len
        have T8:=zh ((T6.out.step HX.out.under).step hb)
        have HSC:=zh hst;have HFO:=zh hfo;have zcz:=zh hok
        clear hst hfo hok hb
        obtain⟨t00,t01,t02,Ci,Cj,Ck⟩:=T8.out.Hz rfl
        go_wp2_with fail
        (try clear t00 t01 t02 Ci Cj Ck)
        have T9:=((T8.out.put 0 0 (.map (some mo)) rfl).put 0 1 (.slice na es.length nc) rfl).put 0 2 (.map (some mv)) rfl
        refine AQ rfl rfl rfl (Al (T9.at1 0 rfl) Tryz.underlying84 rfl AX) ?_
        rw[HR.out]
        have hsz:wa.heap.size=(((wa.setCell ⟨w.heap.size,0,none⟩ (.map (some mo))).setCell ⟨w.heap.size,1,none⟩ (.slice na es.length nc)).setCell ⟨w.heap.size,2,none⟩ (.map (some mv))).heap.size:=by simp only[World.setCell,Array.size_modify]
        refine⟨.inl ⟨_,HS2.out,zcz.out,mo,mv,_,F,rfl,HSC.out.keep (Nat.le_of_eq hsz) (fun k hk _=>?_),fun k hk=>?_⟩,T9.under⟩
        ·have h1:=HFO.out k hk
         have h3:k≠w.heap.size:=by omega
         rw[zo h3,zo h3,zo h3]
        ·have h1:=HFO.out k hk
         exact⟨by omega,by have h4:=h1.2;rw[hsz] at h4;exact h4⟩
       ·have T8:=zh ((T6.out.step HX.out.under).step hb)
        have HNO:=zh hno
        clear hno hb
        obtain⟨t00,t01,t02,Ci,Cj,Ck⟩:=T8.out.Hz rfl
        go_wp2_with fail
        (try clear t00 t01 t02 Ci Cj Ck)
        have T9:=((T8.out.put 0 0 (.map (some mo)) rfl).put 0 1 (.slice pa pn pc) rfl).put 0 2 (.map (some mv)) rfl
        refine AQ rfl rfl rfl (Al (T9.at1 0 rfl) Tryz.underlying84 rfl AX) ?_
        rw[HR.out]
        exact⟨.inr ⟨(fun⟨s,h,hk⟩=>by rw[HS2.out] at h;cases h;exact HNO.out hk),_,_,_,_,_,rfl⟩,T9.under⟩
  ·have dv:((vs.length:Int)%2==(1:Int))=true:=by rw[beq_iff_eq];omega
   have HEE:=zh (show Mh data=none by
    rw[vS]
    unfold JO
    rw[Vo (vs.length/2) (by omega)]
    cases Ce os<;>rfl)
   clear vS
   obtain⟨t00,t01,t02,Ci,Cj,Ck⟩:=T6.out.Hz rfl
   go_wp2_with fail
   (try clear t00 t01 t02 Ci Cj Ck)
   have T9:=((T6.out.put 0 0 (.map none) rfl).put 0 1 (.slice none 0 0) rfl).put 0 2 (.map none) rfl
   refine AQ rfl rfl rfl (Al (T9.at1 0 rfl) Tryz.underlying84 rfl AX) ?_
   rw[HR.out]
   exact⟨.inr ⟨(fun⟨_,h,_⟩=>by rw[HEE.out] at h;cases h),_,_,_,_,_,rfl⟩,T9.under⟩
 ·have dE:(E != (0:Int))=true:=by rw[bne_iff_ne];exact he
  have dE2:(E==(0:Int))=false:=by rw[beq_eq_false_iff_ne];exact he
  have HEE:=zh (show Mh data=none by rw[HST.out,if_neg he])
  clear he
  obtain⟨t00,t01,t02,Ci,Cj,Ck⟩:=T6.out.Hz rfl
  go_wp2_with fail
  (try clear t00 t01 t02 Ci Cj Ck)
  have T9:=((T6.out.put 0 0 (.map none) rfl).put 0 1 (.slice none 0 0) rfl).put 0 2 (.map none) rfl
  refine AQ rfl rfl rfl (Al (T9.at1 0 rfl) Tryz.underlying84 rfl AX) ?_
  rw[HR.out]
  exact⟨.inr ⟨(fun⟨_,h,_⟩=>by rw[HEE.out] at h;cases h),_,_,_,_,_,rfl⟩,T9.under⟩
end Sto
namespace Sto
theorem DT (s:ByteArray):∀ (k a:Nat),EX s (k+1) a=(match EX s k a with|none=>none|some (L,b)=>match Dc s b with|none=>none|some (x,c)=>some (L++[x],c))
 | 0,a => by
   show(match Dc s a with|none=>none|some (x,b)=>match EX s 0 b with|none=>none|some (l,c)=>some (x::l,c))=match Dc s a with|none=>none|some (x,c)=>some ([]++[x],c)
   cases Dc s a with
   | none=>rfl
   | some y=>obtain⟨x,b⟩:=y;rfl
 | k + 1,a => by
   have ih:=DT s k
   show(match Dc s a with|none=>none|some (x,b)=>match EX s (k+1) b with|none=>none|some (l,c)=>some (x::l,c))=match (match Dc s a with|none=>none|some (x,b)=>match EX s k b with|none=>none|some (l,c)=>some (x::l,c)) with|none=>none|some (L,b)=>match Dc s b with|none=>none|some (x,c)=>some (L++[x],c)
   cases Dc s a with
   | none=>rfl
   | some y =>
     obtain⟨x,b⟩:=y
     dsimp only
     rw[ih b]
     cases EX s k b with
     | none=>rfl
     | some z =>
       obtain⟨l,c⟩:=z
       dsimp only
       cases Dc s c with
       | none=>rfl
       | some u=>obtain⟨x2,c2⟩:=u;rfl
theorem jS (s:ByteArray){k n a:Nat}(h:k<=n)(hn:EX s k a=none):EX s n a=none:=by
 induction n with
 | zero => obtain rfl : k = 0 :=by omega
           exact hn
 | succ n ih =>
   by_cases e:k=n+1
   ·subst e;exact hn
   ·rw[DT,ih (by omega)]
theorem GK (s:ByteArray):∀ (k a:Nat) {L:List SOp} {b:Nat},EX s k a=some (L,b)->L.length=k
 | 0,a,L,b,h=>by cases h;rfl
 | k + 1,a,L,b,h => by
   rw[DT] at h
   cases hr:EX s k a with
   | none=>rw[hr] at h;cases h
   | some y =>
     obtain⟨M,c⟩:=y
     rw[hr] at h
     dsimp only at h
     cases ho:Dc s c with
     | none=>rw[ho] at h;cases h
     | some z =>
       obtain⟨x,d⟩:=z
       rw[ho] at h
       cases h
       rw[List.length_append,GK s k a hr]
       rfl
theorem tL {s:ByteArray}{a kd:Nat}{l:List ByteArray}{r1 r2:RS}(h1:stN s ⟨a,0⟩=(kd,r1))(h2:stL s r1=(l,r2)):Dc s a=if r2.e=0 then (match V6 kd l with|none=>none|some x=>some (x,r2.a)) else none:=by
 unfold stN at h1
 rw[if_pos rfl] at h1
 unfold Dc
 cases hr:Cod.rdN s a with
 | none =>
   rw[hr] at h1
   cases h1
   unfold stL at h2
   rw[if_neg (show ¬ (9:Int)=0 by decide)] at h2
   cases h2
   rw[if_neg (show ¬ (9:Int)=0 by decide)]
 | some y =>
   obtain⟨k,b⟩:=y
   rw[hr] at h1
   cases h1
   unfold stL at h2
   rw[if_pos rfl] at h2
   dsimp only at h2 ⊢
   cases hl:Cod.AO s b with
   | none =>
     rw[hl] at h2
     cases h2
     rw[if_neg (show ¬ (9:Int)=0 by decide)]
   | some z =>
     obtain⟨L,c⟩:=z
     rw[hl] at h2
     cases h2
     rw[if_pos rfl]
     dsimp only
     cases V6 kd l<;>rfl
theorem tN {s:ByteArray}{n:Nat}{r1:RS}(h1:stC s s.size ⟨0,0⟩=(n,r1)):(r1.e=0/\D7 s=match EX s n r1.a with|none=>none|some (l,e)=>if e=s.size then some l else none)\/(r1.e=9/\n=0/\D7 s=none):=by
 unfold stC at h1
 rw[if_pos rfl] at h1
 unfold rdC at h1
 unfold D7
 dsimp only at h1
 cases hr:Cod.rdN s 0 with
 | none =>
   rw[hr] at h1
   cases h1
   exact .inr ⟨rfl,rfl,rfl⟩
 | some y =>
   obtain⟨k,b⟩:=y
   rw[hr] at h1
   dsimp only at h1 ⊢
   by_cases h:(k:Int)<=(s.size:Nat)
   ·rw[if_pos h] at h1
    cases h1
    rw[if_neg (by omega)]
    exact .inl ⟨rfl,rfl⟩
   ·rw[if_neg h] at h1
    cases h1
    rw[if_pos (by omega)]
    exact .inr ⟨rfl,rfl,rfl⟩
end Sto
namespace Sto
theorem Gx:Nonempty (Qb Tryz.prog 27 77 6 88):=LU (z:=.agg #[.int .i64 0,.string ⟨#[]⟩,.string ⟨#[]⟩,.int .i64 0,.slice none 0 0,.string ⟨#[]⟩]) Tryz.underlying27 (by kernel_rfl) (by kernel_rfl) (by omega)
theorem eF (rb:Nat)(s:ByteArray)(a:Nat)(e:Int)(w:World)(h:At w rb 223 (rdV s a e)):
 Calls Tryz.prog 113 #[.pointer (some ⟨rb,0,none⟩)] w fun e' w' => e' = .returned (.int .i64 e)/\w' = w:=by
 have k2:=h.cell 2
 simp only[rdV,List.getElem?_toArray,List.getElem?_cons_zero,List.getElem?_cons_succ] at k2
 clear h
 go_enter Tryz.func113,Tryz.ntmps113
 go_wp2
 go_ret
 exact⟨rfl,rfl⟩
theorem oq {l:List ByteArray}(h:l.length≠2):V6 3 l=none:=by
 match l,h with
 | [],_=>rfl
 | [_],_=>rfl
 | [_,_],h=>exact absurd rfl h
 | _::_::_::_,_=>rfl
theorem ou {k:Nat}{l:List ByteArray}(hk:k≠3)(h:l.length≠1):V6 k l=none:=by
 match k,l,hk,h with
 | _,[_],_,h=>exact absurd rfl h
 | 3,_,hk,_=>exact absurd rfl hk
 | 0,[],_,_=>rfl
 | 1,[],_,_=>rfl
 | 2,[],_,_=>rfl
 | _+4,[],_,_=>rfl
 | 0,_::_::_,_,_=>rfl
 | 1,_::_::_,_,_=>rfl
 | 2,_::_::_,_,_=>rfl
 | _+4,_::_::_,_,_=>rfl
theorem tO {k:Nat}{l:List ByteArray}(h:4<=k):V6 k l=none:=by
 match k,h with
 | _+4,_=>rfl
theorem vW {l:List ByteArray}(h:l.length=1):∃ y,l=[y]:=by
 match l,h with
 | [y],_=>exact⟨y,rfl⟩
theorem vX {l:List ByteArray}(h:l.length=2):∃ y z,l=[y,z]:=by
 match l,h with
 | [y,z],_=>exact⟨y,z,rfl⟩
def jT (w:World)(data:ByteArray)(e:Ending)(w' : World):Prop:=
 ∃ (l:List SOp) (v:Value) (b:Bool),e=.returned (.tuple #[v,.bool b])/\Nt (fun k=>w.heap.size<=k) w' v l/\(∀ x∈l,Fe x)/\l.length<=1000000/\((b=true/\D7 data=some l)\/(b=false/\D7 data=none))/\Below w.heap.size w w'
theorem Ji {w w' : World}{data:ByteArray}(h:D7 data=none)(hb:Below w.heap.size w w'):jT w data (.returned (.tuple #[.slice none 0 0,.bool false])) w' :=
 ⟨[],_,false,rfl,Dp.nil _ _,(fun _ h=>by cases h),Nat.zero_le _,.inr ⟨rfl,h⟩,hb⟩
structure DcI (w:World) (data:ByteArray) (B:Nat) (n:Nat) (r1:RS) (v:Value) (i:Value) (wr:World) (k:Nat) (L:List SOp) (a:Nat):Prop where
 hk:k<=n
 hi:i=.int .i64 k
 rd:EX data k r1.a=some (L,a)
 ha:a<=data.size
 re:∀ x∈L,Fe x
 at_:At wr w.heap.size 223 (rdV data a r1.e)
 row:Dq 77 6 ROp B wr v L
 sz:B<=wr.heap.size
 bw:Below w.heap.size w wr
structure DcW (w wr:World) (B ob:Nat) (C cs:Array Value) (wd:World):Prop where
 kw:∀ k,B<=k->k<wr.heap.size->wd.heap[k]? = wr.heap[k]?
 re:At wd w.heap.size 223 C
 op:At wd ob 77 cs
 sz:wr.heap.size<=wd.heap.size
 bw:Below w.heap.size w wd
theorem DcW.put {w wr wd:World}{B ob:Nat}{C cs:Array Value}(h:DcW w wr B ob C cs wd)(h1:wr.heap.size<=ob)(h2:w.heap.size<wr.heap.size)(j:Nat)(u:Value):DcW w wr B ob C (cs.setIfInBounds j u) (wd.setCell ⟨ob,j,none⟩ u):=
 ⟨fun k hk hl=>(zo (by show k≠ob;omega)).trans (h.kw k hk hl),h.re.far (p:=⟨ob,j,none⟩) (by show w.heap.size≠ob;omega) u,h.op.set j u,by have:=h.sz;simp only[World.setCell,Array.size_modify];exact this,h.bw.setCell (by show w.heap.size<=ob;omega) _⟩
theorem DcW.drew {w wr wd:World}{B ob:Nat}{C cs:Array Value}(h:DcW w wr B ob C cs wd):DcW w wr B ob C cs wd.drew:=⟨h.kw,h.re,h.op,h.sz,h.bw.drew⟩
theorem DcW.below {w wr wd wx:World}{B ob:Nat}{C cs:Array Value}(h:DcW w wr B ob C cs wd)(hb:Below wd.heap.size wd wx):DcW w wr B ob C cs wx:=
 ⟨fun k hk hl=>(hb.block k (Nat.lt_of_lt_of_le hl h.sz)).trans (h.kw k hk hl),h.re.below hb h.re.lt,h.op.below hb h.op.lt,Nat.le_trans h.sz hb.size,h.bw.trans (hb.mono h.bw.size)⟩
theorem Ih (F:Nat->Prop)(w:World):CO F w (.slice none 0 0) []:=⟨⟨none,0,rfl,.inl rfl⟩,fun h0=>absurd h0 (Nat.lt_irrefl 0)⟩
theorem Nw:Reach Obj.none:=⟨(fun _ h=>by cases h),Nat.zero_le _,Nat.zero_le _⟩
theorem eG (data:ByteArray)(w:World)(hs:data.size<=1000000):
 Calls Tryz.prog 57 #[.string data] w (jT w data):=by
 obtain⟨R,hR⟩:∃ R,R=jT w data:=⟨_,rfl⟩
 rw[<- hR]
 obtain⟨⟨n,r1⟩,h1⟩:∃ y,stC data data.size ⟨0,0⟩=y:=⟨_,rfl⟩
 have hn:n<=data.size:=by have:=tK (s:=data) (m:=data.size) (r:=⟨0,0⟩);rw[h1] at this;exact this
 have l1:r1.a<=data.size:=by have:=zJ (s:=data) (m:=data.size) (r:=⟨0,0⟩) (Nat.zero_le _);rw[h1] at this;exact this
 have hT:=tN h1
 have hn6:n<=1000000:=by omega
 have HR:=zh hR;have H1:=zh h1;have HT:=zh hT;have HN:=zh hn6;have L1:=zh l1
 clear hR h1 hT hn l1 hn6
 go_enter Tryz.func57,Tryz.ntmps57
 go_wp2_with fail
 refine(Uw data _).mono ?_
 rintro e w1 ⟨rfl,hw1⟩
 have hA1:At w1 w.heap.size 223 (rdV data 0 0):=by rw[hw1];exact At.new _ _ _
 have zc0:=zh (show Below w.heap.size w w1 by rw[hw1];exact zb)
 have hz1:w.heap.size<w1.heap.size:=hA1.lt
 clear hw1
 go_wp2_with fail
 refine(jR w.heap.size data data.size ⟨0,0⟩ _ H1.out hA1 (Nat.zero_le _) hs).mono ?_
 rintro e w2 ⟨rfl,Ll⟩
 have hA2:=Ll.at_
 have hz2:=Ll.fr.size
 have sj:=zh (zc0.out.trans (Ay.below (B:=w.heap.size) Ll (Nat.le_refl _) (by omega)))
 obtain⟨B,hB⟩:∃ B,B=w2.heap.size:=⟨_,rfl⟩
 have hB0:w.heap.size<B:=by omega
 have HB:=zh hB;have HB0:=zh hB0;have HA2:=zh hA2
 clear Ll hA1 hA2 hB hB0
 go_wp2
 go_loopw [5,17] (fun v i wr=>∃ (k:Nat) (L:List SOp) (a:Nat),DcI w data B n r1 v i wr k L a) (fun _ i _=>n-(intOf i).toNat)
 case atStart=>exact⟨0,[],r1.a,Nat.zero_le _,rfl,rfl,L1.out,(fun _ h=>by cases h),HA2.out,Dq.nil _,Nat.le_of_eq HB.out,sj.out⟩
 case round=>
  obtain⟨k,L,a,hi⟩:=hrel
  obtain rfl:=hi.hi
  have hk:=hi.hk
  obtain⟨va,vm,vc,rfl⟩:∃ x n c,_=Value.slice x n c:=by obtain⟨_,_,_,q,_⟩:=hi.row.row;exact Ah q
  have HI:=zh hi
  clear hi
  by_cases hlt:k<n
  ·have dk:decide ((k:Int)<n)=true:=by simp;omega
   have he1:r1.e=0:=by rcases HT.out with ⟨h,_⟩|⟨_,h,_⟩;exact h;omega
   have htx:D7 data=match EX data n r1.a with|none=>none|some (l,e)=>if e=data.size then some l else none:=by rcases HT.out with ⟨_,h⟩|⟨_,h,_⟩;exact h;omega
   have xC:Dc data a=none->D7 data=none:=fun h=>by
    rw[htx,jS data (k:=k+1) (n:=n) (by omega) (by rw[DT,HI.out.rd];dsimp only;rw[h])]
   obtain⟨⟨kd,q1⟩,h1⟩:∃ y,stN data ⟨a,0⟩=y:=⟨_,rfl⟩
   obtain⟨⟨l,q2⟩,h2⟩:∃ y,stL data q1=y:=⟨_,rfl⟩
   have hq1:q1.a<=data.size:=by have:=zI (s:=data) (r:=⟨a,0⟩) HI.out.ha;rw[h1] at this;exact this
   have hq2:q2.a<=data.size:=by have:=YZ (s:=data) (r:=q1) hq1;rw[h2] at this;exact this
   have hkd:kd<9223372036854775808:=by have:=zK (s:=data) (r:=⟨a,0⟩);rw[h1] at this;exact this
   have hm:∀ x∈l,x.size<=1000000:=fun x hx=>Nat.le_trans (RY (s:=data) (r:=q1) (by rw[h2];exact hx)) hs
   have hone:=tL h1 h2
   have hat:=HI.out.at_
   rw[he1] at hat
   have HE1:=zh he1;have HFL:=zh xC;have H1':=zh h1;have H2':=zh h2;have HQ1:=zh hq1;have HQ2:=zh hq2;have HM:=zh hm;have Xt:=zh hone;have HAT:=zh hat
   clear he1 htx xC h1 h2 hq1 hq2 hm hone hat
   go_wp2_with fail
   refine(oh w.heap.size data ⟨a,0⟩ _ H1'.out HAT.out HI.out.ha hs).mono ?_
   rintro e wa ⟨rfl,hsa⟩
   have hza:=hsa.fr.size
   have hBr:B<=wr.heap.size:=HI.out.sz
   have hBB:=HB0.out
   have O1:=zh (show Aj wa _ [(77,#[.int .i64 kd,.string ⟨#[]⟩,.string ⟨#[]⟩,.int .i64 0,.slice none 0 0,.string ⟨#[]⟩])] from((Bp.nil wa).push 77 #[.int .i64 kd,.string ⟨#[]⟩,.string ⟨#[]⟩,.int .i64 0,.slice none 0 0,.string ⟨#[]⟩]).boxes)
   have HRA:=zh (hsa.at_.below O1.out.under (by omega))
   have zc1:=zh ((HI.out.bw.trans (Ay.below (B:=w.heap.size) hsa (Nat.le_refl _) (by omega))).trans (O1.out.under.mono (by omega)))
   have HKA:=zh (show ∀ j,B<=j->j<wr.heap.size->(wa.alloc (.cells #[.int .i64 kd,.string ⟨#[]⟩,.string ⟨#[]⟩,.int .i64 0,.slice none 0 0,.string ⟨#[]⟩] 77)).heap[j]? = wr.heap[j]? from fun j h1 h2=>(O1.out.under.block j (by omega)).trans (hsa.fr.keep j h2 (by show j≠w.heap.size;omega)))
   clear hsa
   go_upto_region 6 with fail
   generalize (wa.alloc (.cells #[.int .i64 kd,.string ⟨#[]⟩,.string ⟨#[]⟩,.int .i64 0,.slice none 0 0,.string ⟨#[]⟩] 77))=wb at*
   have hzb:wa.heap.size+1<=wb.heap.size:=O1.out.size
   go_wp2_with fail
   refine(JN w.heap.size data q1 _ H2'.out HRA.out HQ1.out hs).mono ?_
   rintro e wc ⟨lv,rfl,hls,_,hlv,hsc⟩
   obtain⟨la,lc,rfl⟩:=hls.len
   have hzc:=hsc.fr.size
   have hoa:At wc wa.heap.size 77 #[.int .i64 kd,.string ⟨#[]⟩,.string ⟨#[]⟩,.int .i64 0,.slice none 0 0,.string ⟨#[]⟩]:=hsc.fr.at (O1.out.at1 0 rfl) (by omega)
   have OA:=zh hoa
   have HRC:=zh hsc.at_
   have JQ:=zh (zc1.out.trans (Ay.below (B:=w.heap.size) hsc (Nat.le_refl _) (by omega)))
   have HKC:=zh (show ∀ j,B<=j->j<wr.heap.size->wc.heap[j]? = wr.heap[j]? from fun j h1 h2=>(hsc.fr.keep j (by omega) (by show j≠w.heap.size;omega)).trans (HKA.out j h1 h2))
   have HLS:=zh hls;have HLV:=zh hlv
   have o0:=OA.out.c1
   clear hsc hoa hls hlv
   have zbm:=eF w.heap.size data q2.a q2.e wc HRC.out
   have zbn:=zh zbm
   clear zbm
   by_cases hk3:kd=3
   ·have d3:((kd:Int)==3)=true:=by rw[hk3];rfl
    go_wp2_with fail
    refine zbn.out.mono ?_
    rintro e wd ⟨rfl,hwd⟩
    subst wd
    by_cases hq:q2.e=0
    ·have dq:(q2.e != (0:Int))=false:=by rw[hq];rfl
     by_cases hl2:l.length=2
     ·have dl:((l.length:Int) != (2:Int))=false:=by rw[hl2];rfl
      have hdw:DcW w wr B wa.heap.size (rdV data q2.a 0) #[.int .i64 3,.string ⟨#[]⟩,.string ⟨#[]⟩,.int .i64 0,.slice none 0 0,.string ⟨#[]⟩] wc:=⟨HKC.out,by have:=HRC.out;rw[hq] at this;exact this,by have:=OA.out;rw[hk3] at this;exact this,by omega,JQ.out⟩
      have hone:Dc data a=match V6 kd l with|none=>none|some x=>some (x,q2.a):=Xt.out.trans ((if_pos hq).trans rfl)
      rw[hk3] at hone
      have vY:=zh hdw
      obtain⟨y,z,rfl⟩:=vX hl2
      have jU:=zh (show Dc data a=some (⟨3,Obj.none,y,z⟩,q2.a) from hone)
      obtain⟨b,o,hao⟩:=HLS.out.addrOf (k:=0) (by simp)
      have hls:=HLS.out
      rw[hao] at hls
      have ce:=hls.cellAt (k:=0) (by simp)
      have ce2:=hls.cellAt (k:=1) (by simp)
      have hbl:=HLV.out b (by rw[hao];rfl)
      have HCI:=zh (zi ce2)
      have HM1:=zh (HM.out y (by simp));have HM2:=zh (HM.out z (by simp))
      have o1:=OA.out.cell 1;have o2:=OA.out.cell 2;have o1f:=OA.out.free 1;have o2f:=OA.out.free 2
      simp only[zg] at o1 o2
      clear hdw hone hls
      subst hao
      simp only[List.getD_cons_zero,List.getD_cons_succ,Nat.add_zero] at ce ce2
      go_upto_region 24 with fail
      refine Lex.zn (fun i=>i=b) [5] 8 [8] ?_
      simp only[Lex.Bh,zd]
      go_wp2
      refine Lex.Mid.intro (fun i hi hl=>by subst hi;exact zo (by show i≠wa.heap.size;omega)) ?_
      go_wp2
      refine Lex.zk ⟨⟨rfl,HCI.out⟩,trivial⟩ ?_
      go_upto_region 25 with fail
      have HDW:=zh (((vY.out.put (by omega) (by omega) 1 (.string y)).put (by omega) (by omega) 2 (.string z)).drew)
      clear o0 o1 o2 o1f o2f ce ce2 vY
      generalize ((wc.setCell ⟨wa.heap.size,1,none⟩ (.string y)).setCell ⟨wa.heap.size,2,none⟩ (.string z)).drew=wd at*
      have hD:=HDW.out
      have hal:Below wd.heap.size wd (wd.alloc (.cells #[.int .i64 3,.string y,.string z,.int .i64 0,.slice none 0 0,.string ⟨#[]⟩] 77)):=zb
      have hrw:Dq 77 6 ROp B wd (.slice va vm vc) L:=HI.out.row.lH hD.sz (P:=fun k=>B<=k/\k<wr.heap.size) (fun k hk=>⟨by obtain⟨_,_,_,q,_⟩:=HI.out.row.row;exact Az q k hk,by obtain⟨_,_,_,q,_⟩:=HI.out.row.row;obtain⟨cur,hc⟩:=Ao q hk;exact hc.lt⟩) (fun cs x h=>Cc.mono h fun k hk hl=>⟨hk,hk.1,hl⟩) (fun k hk _=>hD.kw k hk.1 hk.2)
      obtain⟨css,p1,p2,p3,p4⟩:=(hrw.below hal).row
      have Q1:=zh p1;have Q2:=zh p2;have Q3:=zh p3;have Q4:=zh p4;have HAL:=zh hal
      have HRN:=zh (EY wd 77 #[.int .i64 3,.string y,.string z,.int .i64 0,.slice none 0 0,.string ⟨#[]⟩] 6 1 1 rfl)
      have hlk:L.length<=k:=Nat.le_of_eq (GK data k r1.a HI.out.rd)
      have PG:B<=wd.heap.size:=Nat.le_trans HI.out.sz hD.sz
      have hkn:n<=1000000:=HN.out
      have o0:=hD.op.cell 0;have o1:=hD.op.cell 1;have o2:=hD.op.cell 2;have o3:=hD.op.cell 3;have o4:=hD.op.cell 4;have o5:=hD.op.cell 5
      simp only[List.setIfInBounds_toArray,List.set_cons_zero,List.set_cons_succ,List.getElem?_toArray,List.getElem?_cons_zero,List.getElem?_cons_succ] at o0 o1 o2 o3 o4 o5
      clear hal p1 p2 p3 p4 hrw hD
      go_wp2_with (at_builtin;go_must (refine BG Gx rfl _ _ rfl B L.length (.slice va vm vc) css.flatten rfl Q3.out (.slice (some ⟨wd.heap.size,0,none⟩) 1 1) 1 [.int .i64 3,.string y,.string z,.int .i64 0,.slice none 0 0,.string ⟨#[]⟩] rfl HRN.out (by intro u hu;simp at hu;rcases hu with rfl|rfl|rfl|rfl|rfl|rfl<;>rfl) (by omega) (by omega) (by rw[World.size_alloc];omega) ?_);intro v9 w9 ho9 hg9 hw9;obtain⟨ya,ym,yc,rfl⟩:=Ah ho9;have HO9:=zh ho9;have HG9:=zh hg9;have HW9:=zh hw9;clear ho9 hg9 hw9)
      have hpush:=Dq.push (R:=ROp) (x:=(⟨3,Obj.none,y,z⟩:SOp)) Q1.out Q2.out Q4.out (cs:=[.int .i64 3,.string y,.string z,.int .i64 0,.slice none 0 0,.string ⟨#[]⟩]) rfl (⟨_,rfl,Ih _ _⟩) (by intro u hu;simp at hu;rcases hu with rfl|rfl|rfl|rfl|rfl|rfl<;>rfl) HO9.out HG9.out HW9.out
      have hgs:wd.heap.size+1<=w9.heap.size:=by have h:=HG9.out.size;rw[World.size_alloc] at h;exact h
      have hnx:EX data (k+1) r1.a=some (L++[(⟨3,Obj.none,y,z⟩:SOp)],q2.a):=by rw[DT,HI.out.rd];dsimp only;rw[jU.out]
      have hkeep:∀ j,j<B->w9.heap[j]? = wd.heap[j]? :=fun j hj=>(HG9.out.block j (by rw[World.size_alloc];omega) (fun e=>by have:=Az Q3.out j e.symm;omega)).trans (HAL.out.block j (by omega))
      refine⟨⟨k+1,L++[(⟨3,Obj.none,y,z⟩:SOp)],q2.a,by omega,by go_num,hnx,HQ2.out,fun x hx=>?_,?_,hpush,by omega,HDW.out.bw.trans ⟨?_,?_,?_,by omega,fun j hj=>hkeep j (by have:=HB0.out;omega)⟩⟩,by simp[intOf];omega⟩
      ·rcases List.mem_append.1 hx with hx|hx
       ·exact HI.out.re x hx
       ·rw[List.mem_singleton.1 hx];exact⟨Nw,by have:=HM1.out;show y.size<=_;omega,by have:=HM2.out;show z.size<=_;omega⟩
      ·rw[HE1.out];exact(hkeep _ HB0.out).trans HDW.out.re
      ·exact HG9.out.os.trans HAL.out.os
      ·exact HG9.out.tape.trans HAL.out.tape
      ·exact HG9.out.output.trans HAL.out.output
     ·have dl:((l.length:Int) != (2:Int))=true:=by rw[bne_iff_ne];omega
      have hno:Dc data a=none:=by rw[Xt.out,if_pos hq,hk3,oq hl2]
      have HNO:=zh hno
      clear hno
      go_wp2
      (try go_ret2)
      rw[HR.out]
      exact Ji (HFL.out HNO.out) JQ.out
    ·have dq:(q2.e != (0:Int))=true:=by rw[bne_iff_ne];exact hq
     have hno:Dc data a=none:=by rw[Xt.out,if_neg hq]
     have HNO:=zh hno
     clear hno
     go_wp2
     (try go_ret2)
     rw[HR.out]
     exact Ji (HFL.out HNO.out) JQ.out
   ·have d3:((kd:Int)==3)=false:=by rw[beq_eq_false_iff_ne];omega
    go_wp2_with fail
    refine zbn.out.mono ?_
    rintro e wd ⟨rfl,hwd⟩
    subst wd
    by_cases hq:q2.e=0
    ·have dq:(q2.e != (0:Int))=false:=by rw[hq];rfl
     by_cases hl1:l.length=1
     ·have dl:((l.length:Int) != (1:Int))=false:=by rw[hl1];rfl
      have hone:Dc data a=match V6 kd l with|none=>none|some x=>some (x,q2.a):=Xt.out.trans ((if_pos hq).trans rfl)
      have zW:=HRC.out
      rw[hq] at zW
      have zaa:=zh zW
      obtain⟨y,rfl⟩:=vW hl1
      have lU:=zh hone
      obtain⟨b,o,hao⟩:=HLS.out.addrOf (k:=0) (by simp)
      have hls:=HLS.out
      rw[hao] at hls
      have ce:=hls.cellAt (k:=0) (by simp)
      have HM1:=zh (HM.out y (by simp))
      clear hone hls zW
      subst hao
      simp only[List.getD_cons_zero,Nat.add_zero] at ce
      by_cases hk0:kd=0
      ·have e0:((kd:Int)==0)=true:=by rw[hk0];rfl
       have hdw:DcW w wr B wa.heap.size (rdV data q2.a 0) #[.int .i64 0,.string ⟨#[]⟩,.string ⟨#[]⟩,.int .i64 0,.slice none 0 0,.string ⟨#[]⟩] wc:=⟨HKC.out,zaa.out,by have:=OA.out;rw[hk0] at this;exact this,by omega,JQ.out⟩
       have hone:=lU.out
       rw[hk0] at hone
       have vY:=zh hdw;have xD:=zh hone
       clear hdw hone
       go_upto_region 15 with fail
       go_wp2_with fail
       refine(QV y _ HM1.out).mono ?_
       intro e wd hpost
       unfold RG at hpost
       cases hdx:Dn y with
       | none =>
         rw[hdx] at hpost
         obtain⟨rfl,hba⟩:=hpost
         unfold Dj
         have HNO:=zh (show Dc data a=none by
          rw[xD.out]
          have e:V6 0 [y]=none:=by show(match Dn y with|some o=>some (⟨0,o,⟨#[]⟩,⟨#[]⟩⟩:SOp)|none=>none)=none;rw[hdx]
          rw[e])
         have HBX:=zh (JQ.out.trans (hba.mono JQ.out.size))
         clear o0 ce hdx hba
         go_wp2
         (try go_ret2)
         rw[HR.out]
         exact Ji (HFL.out HNO.out) (HBX.out.alloc HBX.out.size _)
       | some ob =>
         rw[hdx] at hpost
         obtain⟨na,nc,rfl,hsx,hnb,hba⟩:=hpost
         unfold Dj
         have hok:=(uR hdx).1
         have xE:Dc data a=some (⟨0,ob,⟨#[]⟩,⟨#[]⟩⟩,q2.a):=by
          rw[xD.out]
          have e:V6 0 [y]=some ⟨0,ob,⟨#[]⟩,⟨#[]⟩⟩:=by show(match Dn y with|some o=>some (⟨0,o,⟨#[]⟩,⟨#[]⟩⟩:SOp)|none=>none)=_;rw[hdx]
          rw[e]
         have jU:=zh xE
         have zab:Below wd.heap.size wd (wd.alloc (.cells #[.int .i64 ob.kind,.slice na ob.refs.length nc,.string ob.data] 64)):=zb
         have hd2:=(vY.out.below hba).below zab
         have zbo:=At.new wd 64 #[.int .i64 ob.kind,.slice na ob.refs.length nc,.string ob.data]
         have hzd:=hba.size
         have HD2:=zh hd2;have vZ:=zh zbo;have HSX:=zh (hsx.below zab);have HNB:=zh hnb;have zc2:=zh hok
         clear o0 ce hdx hba hok xE hd2 zab zbo hsx hnb
         go_upto_region 16 with fail
         generalize wd.alloc (.cells #[.int .i64 ob.kind,.slice na ob.refs.length nc,.string ob.data] 64)=we at*
         have g0:=vZ.out.cell 0;have g1:=vZ.out.cell 1;have g2:=vZ.out.cell 2
         have o3:=HD2.out.op.cell 3;have o4:=HD2.out.op.cell 4;have o5:=HD2.out.op.cell 5;have o3f:=HD2.out.op.free 3;have o4f:=HD2.out.op.free 4;have o5f:=HD2.out.op.free 5
         simp only[zg] at g0 g1 g2 o3 o4 o5
         go_upto_region 25 with fail
         have HDW:=zh (((HD2.out.put (by omega) (by omega) 3 (.int .i64 ob.kind)).put (by omega) (by omega) 4 (.slice na ob.refs.length nc)).put (by omega) (by omega) 5 (.string ob.data))
         have hsy:Am (((we.setCell ⟨wa.heap.size,3,none⟩ (.int .i64 ob.kind)).setCell ⟨wa.heap.size,4,none⟩ (.slice na ob.refs.length nc)).setCell ⟨wa.heap.size,5,none⟩ (.string ob.data)) (.slice na ob.refs.length nc) ob.refs:=HSX.out.keep fun j hj _=>by
          have h1:=HNB.out j hj
          have h3:j≠wa.heap.size:=by omega
          rw[zo h3,zo h3,zo h3]
         have hvb:∀ j,(Value.slice va vm vc).ownBlock=some j->j<wr.heap.size:=fun j hj=>by
          obtain⟨_,_,_,q,_⟩:=HI.out.row.row
          obtain⟨cur,hc⟩:=Ao q hj
          exact hc.lt
         have hwf:we.heap.size=(((we.setCell ⟨wa.heap.size,3,none⟩ (.int .i64 ob.kind)).setCell ⟨wa.heap.size,4,none⟩ (.slice na ob.refs.length nc)).setCell ⟨wa.heap.size,5,none⟩ (.string ob.data)).heap.size:=by simp only[World.setCell,Array.size_modify]
         have hsb:0<ob.refs.length->∀ j,(Value.slice na ob.refs.length nc).ownBlock=some j->j<(((we.setCell ⟨wa.heap.size,3,none⟩ (.int .i64 ob.kind)).setCell ⟨wa.heap.size,4,none⟩ (.slice na ob.refs.length nc)).setCell ⟨wa.heap.size,5,none⟩ (.string ob.data)).heap.size:=fun h0 j hj=>by
          rw[<- hwf]
          exact HSX.out.blk h0 j hj
         have HSY:=zh hsy;have HSB:=zh hsb;have HVB:=zh hvb
         clear g0 g1 g2 o3 o4 o5 o3f o4f o5f hsy hsb hwf hvb HSX vZ
         generalize ((we.setCell ⟨wa.heap.size,3,none⟩ (.int .i64 ob.kind)).setCell ⟨wa.heap.size,4,none⟩ (.slice na ob.refs.length nc)).setCell ⟨wa.heap.size,5,none⟩ (.string ob.data)=wf at*
         have hD:=HDW.out
         have hal:Below wf.heap.size wf (wf.alloc (.cells #[.int .i64 0,.string ⟨#[]⟩,.string ⟨#[]⟩,.int .i64 ob.kind,.slice na ob.refs.length nc,.string ob.data] 77)):=zb
         have hrw:Dq 77 6 ROp B wf (.slice va vm vc) L:=HI.out.row.lH hD.sz (P:=fun k=>B<=k/\k<wr.heap.size) (fun k hk=>⟨by obtain⟨_,_,_,q,_⟩:=HI.out.row.row;exact Az q k hk,by obtain⟨_,_,_,q,_⟩:=HI.out.row.row;obtain⟨cur,hc⟩:=Ao q hk;exact hc.lt⟩) (fun cs x h=>Cc.mono h fun k hk hl=>⟨hk,hk.1,hl⟩) (fun k hk _=>hD.kw k hk.1 hk.2)
         obtain⟨css,p1,p2,p3,p4⟩:=(hrw.below hal).row
         have Q1:=zh p1;have Q2:=zh p2;have Q3:=zh p3;have Q4:=zh p4;have HAL:=zh hal
         have HRN:=zh (EY wf 77 #[.int .i64 0,.string ⟨#[]⟩,.string ⟨#[]⟩,.int .i64 ob.kind,.slice na ob.refs.length nc,.string ob.data] 6 1 1 rfl)
         have hlk:L.length<=k:=Nat.le_of_eq (GK data k r1.a HI.out.rd)
         have PG:B<=wf.heap.size:=Nat.le_trans HI.out.sz hD.sz
         have hkn:n<=1000000:=HN.out
         have o0:=hD.op.cell 0;have o1:=hD.op.cell 1;have o2:=hD.op.cell 2;have o3:=hD.op.cell 3;have o4:=hD.op.cell 4;have o5:=hD.op.cell 5
         simp only[List.setIfInBounds_toArray,List.set_cons_zero,List.set_cons_succ,List.getElem?_toArray,List.getElem?_cons_zero,List.getElem?_cons_succ] at o0 o1 o2 o3 o4 o5
         clear hal p1 p2 p3 p4 hrw hD
         go_wp2_with (at_builtin;go_must (refine BG Gx rfl _ _ rfl B L.length (.slice va vm vc) css.flatten rfl Q3.out (.slice (some ⟨wf.heap.size,0,none⟩) 1 1) 1 [.int .i64 0,.string ⟨#[]⟩,.string ⟨#[]⟩,.int .i64 ob.kind,.slice na ob.refs.length nc,.string ob.data] rfl HRN.out (by intro u hu;simp at hu;rcases hu with rfl|rfl|rfl|rfl|rfl|rfl<;>rfl) (by omega) (by omega) (by rw[World.size_alloc];omega) ?_);intro v9 w9 ho9 hg9 hw9;obtain⟨ya,ym,yc,rfl⟩:=Ah ho9;have HO9:=zh ho9;have HG9:=zh hg9;have HW9:=zh hw9;clear ho9 hg9 hw9)
         have hpush:=Dq.push (R:=ROp) (x:=(⟨0,ob,⟨#[]⟩,⟨#[]⟩⟩:SOp)) Q1.out Q2.out Q4.out (cs:=[.int .i64 0,.string ⟨#[]⟩,.string ⟨#[]⟩,.int .i64 ob.kind,.slice na ob.refs.length nc,.string ob.data]) rfl (⟨_,rfl,HSY.out.below HAL.out,fun h0 j hj=>⟨⟨by have:=HNB.out j hj;omega,fun e=>by have:=HVB.out j e;have:=HNB.out j hj;omega⟩,by have:=HSB.out h0 j hj;rw[World.size_alloc];omega⟩⟩) (by intro u hu;simp at hu;rcases hu with rfl|rfl|rfl|rfl|rfl|rfl<;>rfl) HO9.out HG9.out HW9.out
         have hgs:wf.heap.size+1<=w9.heap.size:=by have h:=HG9.out.size;rw[World.size_alloc] at h;exact h
         have hnx:EX data (k+1) r1.a=some (L++[(⟨0,ob,⟨#[]⟩,⟨#[]⟩⟩:SOp)],q2.a):=by rw[DT,HI.out.rd];dsimp only;rw[jU.out]
         have hkeep:∀ j,j<B->w9.heap[j]? = wf.heap[j]? :=fun j hj=>(HG9.out.block j (by rw[World.size_alloc];omega) (fun e=>by have:=Az Q3.out j e.symm;omega)).trans (HAL.out.block j (by omega))
         refine⟨⟨k+1,L++[(⟨0,ob,⟨#[]⟩,⟨#[]⟩⟩:SOp)],q2.a,by omega,by go_num,hnx,HQ2.out,fun x hx=>?_,?_,hpush,by omega,HDW.out.bw.trans ⟨?_,?_,?_,by omega,fun j hj=>hkeep j (by have:=HB0.out;omega)⟩⟩,by simp[intOf];omega⟩
         ·rcases List.mem_append.1 hx with hx|hx
          ·exact HI.out.re x hx
          ·rw[List.mem_singleton.1 hx];exact⟨Eu zc2.out,Nat.zero_le _,Nat.zero_le _⟩
         ·rw[HE1.out];exact(hkeep _ HB0.out).trans HDW.out.re
         ·exact HG9.out.os.trans HAL.out.os
         ·exact HG9.out.tape.trans HAL.out.tape
         ·exact HG9.out.output.trans HAL.out.output
      by_cases hk1:kd=1
      ·have e0:((kd:Int)==0)=false:=by rw[hk1];rfl
       have e1:((kd:Int)==1)=true:=by rw[hk1];rfl
       have hdw:DcW w wr B wa.heap.size (rdV data q2.a 0) #[.int .i64 1,.string ⟨#[]⟩,.string ⟨#[]⟩,.int .i64 0,.slice none 0 0,.string ⟨#[]⟩] wc:=⟨HKC.out,zaa.out,by have:=OA.out;rw[hk1] at this;exact this,by omega,JQ.out⟩
       have hone:=lU.out
       rw[hk1] at hone
       have jU:=zh (show Dc data a=some (⟨1,Obj.none,y,⟨#[]⟩⟩,q2.a) from hone)
       have HDW:=zh (hdw.put (by omega) (by omega) 1 (.string y))
       have o1:=OA.out.cell 1;have o1f:=OA.out.free 1
       simp only[zg] at o1
       clear hdw hone
       go_upto_region 25 with fail
       clear o0 o1 o1f ce
       generalize wc.setCell ⟨wa.heap.size,1,none⟩ (.string y)=wd at*
       have hD:=HDW.out
       have hal:Below wd.heap.size wd (wd.alloc (.cells #[.int .i64 1,.string y,.string ⟨#[]⟩,.int .i64 0,.slice none 0 0,.string ⟨#[]⟩] 77)):=zb
       have hrw:Dq 77 6 ROp B wd (.slice va vm vc) L:=HI.out.row.lH hD.sz (P:=fun k=>B<=k/\k<wr.heap.size) (fun k hk=>⟨by obtain⟨_,_,_,q,_⟩:=HI.out.row.row;exact Az q k hk,by obtain⟨_,_,_,q,_⟩:=HI.out.row.row;obtain⟨cur,hc⟩:=Ao q hk;exact hc.lt⟩) (fun cs x h=>Cc.mono h fun k hk hl=>⟨hk,hk.1,hl⟩) (fun k hk _=>hD.kw k hk.1 hk.2)
       obtain⟨css,p1,p2,p3,p4⟩:=(hrw.below hal).row
       have Q1:=zh p1;have Q2:=zh p2;have Q3:=zh p3;have Q4:=zh p4;have HAL:=zh hal
       have HRN:=zh (EY wd 77 #[.int .i64 1,.string y,.string ⟨#[]⟩,.int .i64 0,.slice none 0 0,.string ⟨#[]⟩] 6 1 1 rfl)
       have hlk:L.length<=k:=Nat.le_of_eq (GK data k r1.a HI.out.rd)
       have PG:B<=wd.heap.size:=Nat.le_trans HI.out.sz hD.sz
       have hkn:n<=1000000:=HN.out
       have o0:=hD.op.cell 0;have o1:=hD.op.cell 1;have o2:=hD.op.cell 2;have o3:=hD.op.cell 3;have o4:=hD.op.cell 4;have o5:=hD.op.cell 5
       simp only[List.setIfInBounds_toArray,List.set_cons_zero,List.set_cons_succ,List.getElem?_toArray,List.getElem?_cons_zero,List.getElem?_cons_succ] at o0 o1 o2 o3 o4 o5
       clear hal p1 p2 p3 p4 hrw hD
       go_wp2_with (at_builtin;go_must (refine BG Gx rfl _ _ rfl B L.length (.slice va vm vc) css.flatten rfl Q3.out (.slice (some ⟨wd.heap.size,0,none⟩) 1 1) 1 [.int .i64 1,.string y,.string ⟨#[]⟩,.int .i64 0,.slice none 0 0,.string ⟨#[]⟩] rfl HRN.out (by intro u hu;simp at hu;rcases hu with rfl|rfl|rfl|rfl|rfl|rfl<;>rfl) (by omega) (by omega) (by rw[World.size_alloc];omega) ?_);intro v9 w9 ho9 hg9 hw9;obtain⟨ya,ym,yc,rfl⟩:=Ah ho9;have HO9:=zh ho9;have HG9:=zh hg9;have HW9:=zh hw9;clear ho9 hg9 hw9)
       have hpush:=Dq.push (R:=ROp) (x:=(⟨1,Obj.none,y,⟨#[]⟩⟩:SOp)) Q1.out Q2.out Q4.out (cs:=[.int .i64 1,.string y,.string ⟨#[]⟩,.int .i64 0,.slice none 0 0,.string ⟨#[]⟩]) rfl (⟨_,rfl,Ih _ _⟩) (by intro u hu;simp at hu;rcases hu with rfl|rfl|rfl|rfl|rfl|rfl<;>rfl) HO9.out HG9.out HW9.out
       have hgs:wd.heap.size+1<=w9.heap.size:=by have h:=HG9.out.size;rw[World.size_alloc] at h;exact h
       have hnx:EX data (k+1) r1.a=some (L++[(⟨1,Obj.none,y,⟨#[]⟩⟩:SOp)],q2.a):=by rw[DT,HI.out.rd];dsimp only;rw[jU.out]
       have hkeep:∀ j,j<B->w9.heap[j]? = wd.heap[j]? :=fun j hj=>(HG9.out.block j (by rw[World.size_alloc];omega) (fun e=>by have:=Az Q3.out j e.symm;omega)).trans (HAL.out.block j (by omega))
       refine⟨⟨k+1,L++[(⟨1,Obj.none,y,⟨#[]⟩⟩:SOp)],q2.a,by omega,by go_num,hnx,HQ2.out,fun x hx=>?_,?_,hpush,by omega,HDW.out.bw.trans ⟨?_,?_,?_,by omega,fun j hj=>hkeep j (by have:=HB0.out;omega)⟩⟩,by simp[intOf];omega⟩
       ·rcases List.mem_append.1 hx with hx|hx
        ·exact HI.out.re x hx
        ·rw[List.mem_singleton.1 hx];exact⟨Nw,by have:=HM1.out;show y.size<=_;omega,Nat.zero_le _⟩
       ·rw[HE1.out];exact(hkeep _ HB0.out).trans HDW.out.re
       ·exact HG9.out.os.trans HAL.out.os
       ·exact HG9.out.tape.trans HAL.out.tape
       ·exact HG9.out.output.trans HAL.out.output
      by_cases hk2:kd=2
      ·have e0:((kd:Int)==0)=false:=by rw[hk2];rfl
       have e1:((kd:Int)==1)=false:=by rw[hk2];rfl
       have e2:((kd:Int)==2)=true:=by rw[hk2];rfl
       have hdw:DcW w wr B wa.heap.size (rdV data q2.a 0) #[.int .i64 2,.string ⟨#[]⟩,.string ⟨#[]⟩,.int .i64 0,.slice none 0 0,.string ⟨#[]⟩] wc:=⟨HKC.out,zaa.out,by have:=OA.out;rw[hk2] at this;exact this,by omega,JQ.out⟩
       have hone:=lU.out
       rw[hk2] at hone
       have jU:=zh (show Dc data a=some (⟨2,Obj.none,⟨#[]⟩,y⟩,q2.a) from hone)
       have HDW:=zh (hdw.put (by omega) (by omega) 2 (.string y))
       have o2:=OA.out.cell 2;have o2f:=OA.out.free 2
       simp only[zg] at o2
       clear hdw hone
       go_upto_region 25 with fail
       clear o0 o2 o2f ce
       generalize wc.setCell ⟨wa.heap.size,2,none⟩ (.string y)=wd at*
       have hD:=HDW.out
       have hal:Below wd.heap.size wd (wd.alloc (.cells #[.int .i64 2,.string ⟨#[]⟩,.string y,.int .i64 0,.slice none 0 0,.string ⟨#[]⟩] 77)):=zb
       have hrw:Dq 77 6 ROp B wd (.slice va vm vc) L:=HI.out.row.lH hD.sz (P:=fun k=>B<=k/\k<wr.heap.size) (fun k hk=>⟨by obtain⟨_,_,_,q,_⟩:=HI.out.row.row;exact Az q k hk,by obtain⟨_,_,_,q,_⟩:=HI.out.row.row;obtain⟨cur,hc⟩:=Ao q hk;exact hc.lt⟩) (fun cs x h=>Cc.mono h fun k hk hl=>⟨hk,hk.1,hl⟩) (fun k hk _=>hD.kw k hk.1 hk.2)
       obtain⟨css,p1,p2,p3,p4⟩:=(hrw.below hal).row
       have Q1:=zh p1;have Q2:=zh p2;have Q3:=zh p3;have Q4:=zh p4;have HAL:=zh hal
       have HRN:=zh (EY wd 77 #[.int .i64 2,.string ⟨#[]⟩,.string y,.int .i64 0,.slice none 0 0,.string ⟨#[]⟩] 6 1 1 rfl)
       have hlk:L.length<=k:=Nat.le_of_eq (GK data k r1.a HI.out.rd)
       have PG:B<=wd.heap.size:=Nat.le_trans HI.out.sz hD.sz
       have hkn:n<=1000000:=HN.out
       have o0:=hD.op.cell 0;have o1:=hD.op.cell 1;have o2:=hD.op.cell 2;have o3:=hD.op.cell 3;have o4:=hD.op.cell 4;have o5:=hD.op.cell 5
       simp only[List.setIfInBounds_toArray,List.set_cons_zero,List.set_cons_succ,List.getElem?_toArray,List.getElem?_cons_zero,List.getElem?_cons_succ] at o0 o1 o2 o3 o4 o5
       clear hal p1 p2 p3 p4 hrw hD
       go_wp2_with (at_builtin;go_must (refine BG Gx rfl _ _ rfl B L.length (.slice va vm vc) css.flatten rfl Q3.out (.slice (some ⟨wd.heap.size,0,none⟩) 1 1) 1 [.int .i64 2,.string ⟨#[]⟩,.string y,.int .i64 0,.slice none 0 0,.string ⟨#[]⟩] rfl HRN.out (by intro u hu;simp at hu;rcases hu with rfl|rfl|rfl|rfl|rfl|rfl<;>rfl) (by omega) (by omega) (by rw[World.size_alloc];omega) ?_);intro v9 w9 ho9 hg9 hw9;obtain⟨ya,ym,yc,rfl⟩:=Ah ho9;have HO9:=zh ho9;have HG9:=zh hg9;have HW9:=zh hw9;clear ho9 hg9 hw9)
       have hpush:=Dq.push (R:=ROp) (x:=(⟨2,Obj.none,⟨#[]⟩,y⟩:SOp)) Q1.out Q2.out Q4.out (cs:=[.int .i64 2,.string ⟨#[]⟩,.string y,.int .i64 0,.slice none 0 0,.string ⟨#[]⟩]) rfl (⟨_,rfl,Ih _ _⟩) (by intro u hu;simp at hu;rcases hu with rfl|rfl|rfl|rfl|rfl|rfl<;>rfl) HO9.out HG9.out HW9.out
       have hgs:wd.heap.size+1<=w9.heap.size:=by have h:=HG9.out.size;rw[World.size_alloc] at h;exact h
       have hnx:EX data (k+1) r1.a=some (L++[(⟨2,Obj.none,⟨#[]⟩,y⟩:SOp)],q2.a):=by rw[DT,HI.out.rd];dsimp only;rw[jU.out]
       have hkeep:∀ j,j<B->w9.heap[j]? = wd.heap[j]? :=fun j hj=>(HG9.out.block j (by rw[World.size_alloc];omega) (fun e=>by have:=Az Q3.out j e.symm;omega)).trans (HAL.out.block j (by omega))
       refine⟨⟨k+1,L++[(⟨2,Obj.none,⟨#[]⟩,y⟩:SOp)],q2.a,by omega,by go_num,hnx,HQ2.out,fun x hx=>?_,?_,hpush,by omega,HDW.out.bw.trans ⟨?_,?_,?_,by omega,fun j hj=>hkeep j (by have:=HB0.out;omega)⟩⟩,by simp[intOf];omega⟩
       ·rcases List.mem_append.1 hx with hx|hx
        ·exact HI.out.re x hx
        ·rw[List.mem_singleton.1 hx];exact⟨Nw,Nat.zero_le _,by have:=HM1.out;show y.size<=_;omega⟩
       ·rw[HE1.out];exact(hkeep _ HB0.out).trans HDW.out.re
       ·exact HG9.out.os.trans HAL.out.os
       ·exact HG9.out.tape.trans HAL.out.tape
       ·exact HG9.out.output.trans HAL.out.output
      ·have e0:((kd:Int)==0)=false:=by rw[beq_eq_false_iff_ne];omega
       have e1:((kd:Int)==1)=false:=by rw[beq_eq_false_iff_ne];omega
       have e2:((kd:Int)==2)=false:=by rw[beq_eq_false_iff_ne];omega
       have hno:Dc data a=none:=by rw[lU.out,tO (by omega)]
       have HNO:=zh hno
       clear hno
       go_wp2
       (try go_ret2)
       rw[HR.out]
       exact Ji (HFL.out HNO.out) JQ.out
     ·have dl:((l.length:Int) != (1:Int))=true:=by rw[bne_iff_ne];omega
      have hno:Dc data a=none:=by rw[Xt.out,if_pos hq,ou hk3 hl1]
      have HNO:=zh hno
      clear hno
      go_wp2
      (try go_ret2)
      rw[HR.out]
      exact Ji (HFL.out HNO.out) JQ.out
    ·have dq:(q2.e != (0:Int))=true:=by rw[bne_iff_ne];exact hq
     have hno:Dc data a=none:=by rw[Xt.out,if_neg hq]
     have HNO:=zh hno
     clear hno
     go_wp2
     (try go_ret2)
     rw[HR.out]
     exact Ji (HFL.out HNO.out) JQ.out
  ·have dk:decide ((k:Int)<n)=false:=by simp;omega
   obtain rfl:k=n:=by omega
   obtain⟨E,hE⟩:∃ E,E=Cv data a r1.e:=⟨_,rfl⟩
   have hend:=FJ w.heap.size data a r1.e _ HI.out.at_
   rw[<- hE] at hend
   have hcase:(E=0/\D7 data=some L)\/(E≠0/\D7 data=none):=by
    rcases HT.out with ⟨h1,h2⟩|⟨h1,_,h2⟩
    ·rw[h2,HI.out.rd]
     dsimp only
     rw[hE,h1]
     unfold Cv
     have ha:=HI.out.ha
     by_cases h3:a=data.size
     ·rw[if_neg (by omega),if_pos h3];exact .inl ⟨rfl,rfl⟩
     ·rw[if_pos ⟨rfl,by omega⟩,if_neg h3];exact .inr ⟨by decide,rfl⟩
    ·rw[hE,h1]
     unfold Cv
     rw[if_neg (by intro h;exact absurd h.1 (by decide))]
     exact .inr ⟨by decide,h2⟩
   have zbp:=zh hend;have xG:=zh hcase
   have hll:L.length<=1000000:=by have:=GK data k r1.a HI.out.rd;have:=HN.out;omega
   have hops:∀ w9,Below wr.heap.size wr w9->Nt (fun k=>w.heap.size<=k) w9 (.slice va vm vc) L:=fun w9 h9=>(HI.out.row.below h9).list.mono fun k hk _=>by have hk2:B<=k:=hk;have:=HB0.out;show w.heap.size<=k;omega
   have HLL:=zh hll;have wG:=zh hops
   clear hE hend hcase hll hops
   by_cases he0:E=0
   ·have de:(E==(0:Int))=true:=by rw[he0];rfl
    have HTX:=zh (show D7 data=some L from(xG.out.resolve_right fun h=>h.1 he0).2)
    clear he0
    go_wp2_with fail
    refine zbp.out.mono ?_
    rintro e w9 ⟨rfl,rfl⟩
    go_wp2
    (try go_ret2)
    rw[HR.out]
    exact⟨L,_,true,rfl,wG.out _ (Below.refl _ _).drew,HI.out.re,HLL.out,.inl ⟨rfl,HTX.out⟩,HI.out.bw.drew⟩
   ·have de:(E==(0:Int))=false:=by rw[beq_eq_false_iff_ne];exact he0
    have HTX:=zh (show D7 data=none from(xG.out.resolve_left fun h=>he0 h.1).2)
    clear he0
    go_wp2_with fail
    refine zbp.out.mono ?_
    rintro e w9 ⟨rfl,rfl⟩
    go_wp2
    (try go_ret2)
    rw[HR.out]
    exact⟨L,_,false,rfl,wG.out _ (Below.refl _ _).drew,HI.out.re,HLL.out,.inr ⟨rfl,HTX.out⟩,HI.out.bw.drew⟩
end Sto
namespace Sto
theorem oz (d:Au)(c:Ac)(w:World)(h:Ak w d c)(hp:c.pending.length<=1000000)(hz:Ga c)(hn:c.Aa.length<=1000):
 Calls Tryz.prog 15 #[.pointer (some ⟨d.a,0,none⟩)] w (YX w c):=by
 obtain⟨R,hR⟩:∃ R,R=YX w c:=⟨_,rfl⟩
 rw[<- hR]
 have hzi:∀ p,(c.read p).1.size<=9223372036854775000:=fun p=>Nat.le_trans (hz.int p) (by decide)
 have HR:=zh hR;have H:=zh h;have HZ:=zh hz;have HZI:=zh hzi;have HNN:=zh hn;have HP:=zh hp
 clear hR h hz hzi
 go_enter Tryz.func15,Tryz.ntmps15
 go_wp2_with fail
 refine(GX d c _ H.out).mono ?_
 rintro e w1 ⟨rfl,hw⟩
 subst w1
 obtain⟨N,hN⟩:∃ N,N=c.Aa.length:=⟨_,rfl⟩
 rw[<- hN] at hn ⊢
 have HN:=zh hN
 clear hN
 by_cases h8:N<8
 ·have dd:decide ((N:Int)<8)=true:=by simp;omega
  go_wp2
  (try go_ret2)
  rw[HR.out]
  exact Gw (uY (by rw[<- HN.out];exact h8)) (Below.refl _ _)
 ·have dd:decide ((N:Int)<8)=false:=by simp;omega
  have H8:=zh (show 8<=c.Aa.length by rw[<- HN.out];omega)
  clear h8
  go_wp2
  go_loopw [4,26] (fun v i wr=>∃ k:Nat,k<=2/\i=.int .i64 k/\Vn w.heap.size wr v (Ch N (rdD c) k)/\Below w.heap.size w wr) (fun _ i _=>2-(intOf i).toNat)
  case atStart=>exact⟨0,Nat.zero_le _,rfl,⟨rfl,.inl ⟨rfl,rfl⟩⟩,Below.refl _ _⟩
  case round=>
   obtain⟨k,hk,rfl,hrow,hbw⟩:=hrel
   obtain⟨va,vm,vc,rfl⟩:=Ah hrow
   obtain rfl:=Iu hrow
   have HRW:=zh hrow;have HBW:=zh hbw
   have hdk:=H.out.below hbw (Nat.le_refl _)
   have HDK:=zh hdk
   clear hrow hbw hdk
   by_cases hlt:k<2
   ·have dk:decide ((k:Int)<2)=true:=by simp;omega
    go_wp2_with fail
    refine(jL d c k _ HDK.out HP.out (HZI.out _) (by have:=H8.out;omega) (by omega)).mono ?_
    rintro e wa hpost
    obtain⟨hcs,hba⟩:=nZ (by rw[<- HN.out];omega) hpost
    rw[<- HN.out] at hcs
    have HBA:=zh hba
    have hza:=hba.size
    clear hba hpost
    rcases hcs with ⟨Hd0,hh,rfl⟩|⟨hh,rfl⟩
    ·have hnx : Ch N (rdD c) (k + 1) = Ch N (rdD c) k ++ [Hd0] :=by
      show Ch N (rdD c) k++(Cg N (rdD c) k).toList=_
      rw[hh];rfl
     unfold hdV
     have oC:Below wa.heap.size wa (wa.alloc (.cells #[.int .i64 Hd0.epoch,.int .i64 Hd0.len,.string Hd0.dg] 109)):=zb
     have hat:=At.new wa 109 #[.int .i64 Hd0.epoch,.int .i64 Hd0.len,.string Hd0.dg]
     have HNX:=zh hnx;have zac:=zh oC;have HAT:=zh hat
     clear hnx hh oC hat
     go_upto_region 8 with fail
     obtain⟨wb,hwb⟩:∃ x,x=wa.alloc (.cells #[.int .i64 Hd0.epoch,.int .i64 Hd0.len,.string Hd0.dg] 109):=⟨_,rfl⟩
     rw[<- hwb] at HAT zac ⊢
     have hzb:wa.heap.size+1<=wb.heap.size:=by rw[hwb,World.size_alloc];omega
     clear hwb
     obtain⟨o0,o1,o2⟩:=HAT.out.c3
     have hal:Below wb.heap.size wb (wb.alloc (.cells #[.int .i64 Hd0.epoch,.int .i64 Hd0.len,.string Hd0.dg] 109)):=zb
     have hrow:=own_below (own_below (own_below HRW.out HBA.out) zac.out) hal
     have hl2:=Np N (rdD c) k
     have HRN:=zh (EY wb 109 #[.int .i64 Hd0.epoch,.int .i64 Hd0.len,.string Hd0.dg] 3 1 1 rfl)
     have hbs:w.heap.size<=wr.heap.size:=HBW.out.size
     have wH:=zh hrow;have HAL:=zh hal
     have tQ:=zh (((HBW.out.trans (HBA.out.mono hbs)).trans (zac.out.mono (by omega))).trans (hal.mono (by omega)))
     clear hrow hal
     go_wp2_with (at_builtin;go_must (refine BG nY rfl _ _ rfl w.heap.size (Ch N (rdD c) k).length (.slice va (Ch N (rdD c) k).length vc) (Rk (Ch N (rdD c) k)) rfl wH.out (.slice (some ⟨wb.heap.size,0,none⟩) 1 1) 1 [.int .i64 Hd0.epoch,.int .i64 Hd0.len,.string Hd0.dg] rfl HRN.out (by intro u hu;simp at hu;rcases hu with rfl|rfl|rfl<;>rfl) (by omega) (by omega) (by rw[World.size_alloc];omega) ?_);intro v9 w9 ho9 hg9 hw9;obtain⟨ya,ym,yc,rfl⟩:=Ah ho9;have HO9:=zh ho9;have HG9:=zh hg9;clear ho9 hg9 hw9)
     have zc3:Vn w.heap.size w9 (.slice ya ym yc) (Ch N (rdD c) (k+1)):=by
      unfold Vn
      rw[HNX.out,jN,List.length_append]
      exact HO9.out
     exact⟨⟨k+1,by omega,by go_num,zc3,Cw tQ.out (by rw[World.size_alloc];omega) wH.out HG9.out⟩,by simp[intOf];omega⟩
    ·have hnx : Ch N (rdD c) (k + 1) = Ch N (rdD c) k :=by
      show Ch N (rdD c) k++(Cg N (rdD c) k).toList=_
      rw[hh];exact List.append_nil _
     have oC:Below wa.heap.size wa (wa.alloc (.cells #[.int .i64 0,.int .i64 0,.string ⟨#[]⟩] 109)):=zb
     have HNX:=zh hnx
     have wH:=zh (own_below (own_below HRW.out HBA.out) oC)
     have tQ:=zh ((HBW.out.trans (HBA.out.mono HBW.out.size)).trans (oC.mono (by have:=HBW.out.size;omega)))
     clear hnx hh oC
     go_wp2_with fail
     refine⟨⟨k+1,by omega,by go_num,?_,tQ.out⟩,by simp[intOf];omega⟩
     show Vn _ _ _ _
     rw[HNX.out]
     exact wH.out
   ·have dk:decide ((k:Int)<2)=false:=by simp;omega
    obtain rfl:k=2:=by omega
    obtain⟨L,hL⟩:∃ L,L=Ch N (rdD c) 2:=⟨_,rfl⟩
    rw[<- hL] at HRW ⊢
    cases L with
    | nil =>
      have HE:=zh (show opn c.Aa.length (rdD c)=.error 6 from iQ H8.out (by rw[<- HN.out];exact hL.symm))
      clear hL
      go_wp2
      (try go_ret2)
      rw[HR.out]
      exact Gw (HE.out) HBW.out
    | cons h0 l =>
      obtain⟨m,hm⟩:∃ m,m=(h0::l).length:=⟨_,rfl⟩
      rw[<- hm]
      have dm:((m:Int)==(0:Int))=false:=by rw[beq_eq_false_iff_ne,hm,List.length_cons];omega
      have hds:=Vn.hds HRW.out (by rw[List.length_cons];omega)
      rw[<- hm] at hds
      have hl2:l.length<=1000:=by
       have:=Np N (rdD c) 2
       rw[<- hL,List.length_cons] at this
       omega
      obtain⟨M,hM⟩:∃ M,M=FI h0 l:=⟨_,rfl⟩
      have hmx:=tF (.slice va m vc) h0 l _ hds hl2
      rw[<- hM] at hmx
      have zbq:y9 N M:=by
       rw[hM]
       exact WU (n:=N) (rd:=rdD c) 2 _ (by rw[<- hL];exact rX h0 l)
      have HL:=zh hL;have HMM:=zh hM;have HMX:=zh hmx;have tT:=zh zbq
      clear hL hm hds hl2 hM hmx zbq HRW
      go_wp2_with fail
      refine HMX.out.mono ?_
      rintro e wa ⟨rfl,hba⟩
      unfold hdV
      have wI:=zh (HBW.out.trans (hba.mono HBW.out.size))
      have hbs:w.heap.size<=wa.heap.size:=wI.out.size
      clear hba HMX
      have T1:=zh (show Aj wa _ [(109,#[.int .i64 M.epoch,.int .i64 M.len,.string M.dg])] from((Bp.nil wa).push 109 #[.int .i64 M.epoch,.int .i64 M.len,.string M.dg]).boxes)
      go_upto_region 14 with fail
      have hz1:(wa.alloc (.cells #[.int .i64 M.epoch,.int .i64 M.len,.string M.dg] 109)).heap.size=wa.heap.size+1:=World.size_alloc _ _
      have tV:=Cm.new (wa.alloc (.cells #[.int .i64 M.epoch,.int .i64 M.len,.string M.dg] 109))
      rw[hz1] at tV
      have hMb:=T1.out.at1 0 rfl
      rw[Nat.add_zero] at hMb
      have hb1:=wI.out.trans (T1.out.under.mono wI.out.size)
      have Rs:Below (wa.heap.size+1) (wa.alloc (.cells #[.int .i64 M.epoch,.int .i64 M.len,.string M.dg] 109)) ((wa.alloc (.cells #[.int .i64 M.epoch,.int .i64 M.len,.string M.dg] 109)).alloc (.cells #[.pointer none,.slice none 0 0] 118)):=(Below.refl _ _).alloc (Nat.le_of_eq hz1.symm) _
      have HB2:=zh (hb1.trans (Rs.mono (by omega)))
      have zbr:=zh (hMb.below Rs (by omega))
      have XU:=zh tV
      clear Rs hMb hb1 hz1 tV T1 wI
      go_upto_region 15 with fail
      generalize (wa.alloc (.cells #[.int .i64 M.epoch,.int .i64 M.len,.string M.dg] 109)).alloc (.cells #[.pointer none,.slice none 0 0] 118)=w2 at*
      obtain⟨P0,hP0⟩:∃ z,z=Ai M.len:=⟨_,rfl⟩
      obtain⟨A0,hA0⟩:∃ z,z=Bo N M.epoch:=⟨_,rfl⟩
      have hfit:P0<AY N:=by rw[hP0];exact tT.out.fit
      have xH:AY N<=499:=by unfold AY;omega
      have hlen:M.len<=512*P0:=by rw[hP0];unfold Ai;omega
      have hPg:=fun W=>JJ M.len W (by omega)
      rw[<- hP0] at hPg
      have hAr:=fun W (hW:Ak W d c)=>Qi d c M.epoch W hW (by have:=H8.out;omega) (by have:=tT.out.ep2;omega)
      rw[<- HN.out,<- hA0] at hAr
      have zad:=(JC M.epoch (show 8<=N by rw[HN.out];exact H8.out)).1
      rw[<- hA0] at zad
      have HPG:=zh hPg;have HAR:=zh hAr;have HP0:=zh hP0;have HA0:=zh hA0;have zae:=zh hfit;have HLEN:=zh hlen;have zc4:=zh zad;have tX:=zh xH
      clear hPg hAr hP0 hA0 hfit hlen zad xH
      have t1:=zbr.out.cell 1
      simp only[zg] at t1
      go_wp2_with fail
      refine(HPG.out _).mono ?_
      rintro e w3 ⟨rfl,hw⟩
      subst w3
      clear t1
      go_wp2
      go_loopw [49] (fun i wr=>∃ (k:Nat) (b:ByteArray),k<=P0/\i=.int .i64 k/\Es (rdD c) A0 k=some b/\Cm wr (wa.heap.size+1) b/\Below (wa.heap.size+1) w2 wr) (fun i _=>P0-(intOf i).toNat)
      case atStart=>exact⟨0,⟨#[]⟩,Nat.zero_le _,rfl,rfl,XU.out,Below.refl _ _⟩
      case round=>
       obtain⟨k,b,hk,rfl,hsn,hbl,hbw⟩:=hrel
       have hM3:=zbr.out.below hbw (by omega)
       have zbs:=H.out.below (HB2.out.trans (hbw.mono (by omega))) (Nat.le_refl _)
       have HM3:=zh hM3;have zbt:=zh zbs;have HSN:=zh hsn;have HBL:=zh hbl;have wJ:=zh hbw
       clear hM3 zbs hsn hbl hbw
       have t0:=HM3.out.c1
       by_cases hlt:k<P0
       ·have dk:decide ((k:Int)<P0)=true:=by simp;omega
        obtain⟨S,hS⟩:∃ S,S=(c.read ((A0:Int)+k)).1:=⟨_,rfl⟩
        obtain⟨E,hE⟩:∃ E,E=(c.read ((A0:Int)+k)).2:=⟨_,rfl⟩
        have hrd:=IY d c ((A0:Int)+k) wr HP.out zbt.out
        rw[<- hS,<- hE] at hrd
        have hrk:rdD c (A0+k)=(S,E):=by
         unfold rdD
         rw[show((A0+k:Nat):Int)=(A0:Int)+k by omega,hS,hE]
        have hSz:S.size<=512:=by rw[hS];exact HZ.out.int _
        have hak:A0+k<=1000:=by have:=zc4.out;have:=zae.out;omega
        have HRD:=zh hrd;have HRK:=zh hrk
        clear hrd hrk hS hE
        go_wp2_with fail
        refine(HAR.out _ zbt.out).mono ?_
        rintro e wx ⟨rfl,hw⟩
        subst wx
        go_wp2_with fail
        refine HRD.out.mono ?_
        rintro e wx ⟨rfl,hw⟩
        subst wx
        clear t0
        by_cases hgo:E=0/\S.size=512
        ·have dE:(E != (0:Int))=false:=by rw[hgo.1];rfl
         have dS:((S.size:Int) != (512:Int))=false:=by rw[hgo.2];rfl
         have hmore:=jO HSN.out (by rw[HRK.out];exact hgo.1) (by rw[HRK.out];exact hgo.2)
         rw[HRK.out] at hmore
         have hbz:=Nq k HSN.out
         have zbu:=zh hmore
         clear hmore hgo
         go_wp2_with fail
         refine(aZ (wa.heap.size+1) b S _ HBL.out (by omega)).mono ?_
         rintro e w4 ⟨rfl,h4,hb4⟩
         have zc5:=zh h4;have tQ:=zh (wJ.out.trans hb4)
         clear h4 hb4
         go_wp2
         exact⟨⟨k+1,_,by omega,by go_num,zbu.out,zc5.out,tQ.out⟩,by simp[intOf];omega⟩
        ·have HE9 :=Lib.hid (show opn c.Aa.length (rdD c) = .error 9 from rY (h0 :=h0) (l :=l) (H :=M) H8.out (by rw [← HN.out];exact HL.out.symm) HMM.out.symm (by
          rw[<- HN.out,<- HA0.out,<- HP0.out]
          exact jP (k:=k) (by omega) HSN.out (by rw[HRK.out];exact hgo)))
         by_cases hE0:E=0
         ·have dE:(E != (0:Int))=false:=by rw[hE0];rfl
          have dS:((S.size:Int) != (512:Int))=true:=by rw[bne_iff_ne];intro h;exact hgo ⟨hE0,by omega⟩
          clear hgo hE0
          go_wp2
          (try go_ret2)
          rw[HR.out]
          exact Gw (HE9.out) (HB2.out.trans (wJ.out.mono (by omega)))
         ·have dE:(E != (0:Int))=true:=by rw[bne_iff_ne];exact hE0
          clear hgo hE0
          go_wp2
          (try go_ret2)
          rw[HR.out]
          exact Gw (HE9.out) (HB2.out.trans (wJ.out.mono (by omega)))
       ·have dk:decide ((k:Int)<P0)=false:=by simp;omega
        obtain rfl:k=P0:=by omega
        have hbz:=Nq k HSN.out
        have hcut:M.len<=b.size:=by have:=HLEN.out;omega
        have zc6:b.size<=512*499:=by have:=zae.out;have:=tX.out;omega
        have HCI:=zh (show(wr.cell? ⟨wa.heap.size,1,none⟩).isSome=true by rw[show wr.cell? ⟨wa.heap.size,1,none⟩=some (.int .i64 M.len) from HM3.out.cell 1];rfl)
        have HBZ:=zh hbz
        clear t0 hbz
        go_upto_region 23 with fail
        refine Lex.zn (fun i=>i=wa.heap.size) [2] 3 [1] ?_
        simp only[Lex.Bh,zd]
        go_wp2_with fail
        refine(yC (wa.heap.size+1) b _ (HBL.out.below (Below.refl _ _).drew)).mono ?_
        rintro e w4 ⟨rfl,h4,hb4⟩
        replace hb4:Below (wa.heap.size+1) wr w4:=(Below.refl (wa.heap.size+1) wr).drew.trans hb4
        have HM4:=zh (HM3.out.below hb4 (by omega))
        have HB4:=zh (HB2.out.trans ((wJ.out.trans hb4).mono (by omega)))
        have zc7:=zh hb4
        have t1:=HM4.out.cell 1
        simp only[zg] at t1
        clear h4 hb4
        go_wp2
        refine Lex.Mid.intro (fun i hi hl=>by subst hi;exact zc7.out.block _ (by omega)) ?_
        go_wp2
        refine Lex.zk ⟨⟨rfl,HCI.out⟩,trivial⟩ ?_
        obtain⟨data,hdata⟩:∃ x,x=b.extract 0 M.len:=⟨_,rfl⟩
        have hdz:data.size<=1000000:=by rw[hdata,ByteArray.size_extract];omega
        rw[<- hdata]
        have HDA:=zh hdata;have HDZ:=zh hdz
        have zbv:Es (rdD c) (Bo c.Aa.length M.epoch) (Ai M.len)=some b:=by rw[<- HN.out,<- HA0.out,<- HP0.out];exact HSN.out
        have zaf:=zh zbv
        clear hdata t1 hcut zc6 hdz zbv
        go_upto_region 24 with fail
        go_wp2_with fail
        refine(Wj data _ HDZ.out).mono ?_
        rintro e w5 ⟨hcs,hb5⟩
        have HB5:=zh (HB4.out.trans (hb5.mono HB4.out.size));have HM5:=zh (HM4.out.below hb5 HM4.out.lt)
        have hz5:=hb5.size
        clear hb5
        rcases hcs with ⟨s,hrs,hok,mo,mv,ve,F,rfl,hst,hsf⟩|⟨hno,mo,ea,en,ec,mv,rfl⟩
        ·obtain⟨na,nc,rfl⟩:=hst.en.len
         have Q1:=zh (show Aj w5 _ [(84,#[.map (some mo),.slice na s.ents.length nc,.map (some mv)])] from((Bp.nil w5).push 84 #[.map (some mo),.slice na s.ents.length nc,.map (some mv)]).boxes)
         have HRS:=zh hrs;have HOK:=zh hok;have HST:=zh hst;have HSF:=zh hsf
         clear hrs hok hst hsf
         go_upto_region 25 with fail
         have HB6:=zh (HB5.out.trans (Q1.out.under.mono HB5.out.size));have HM6:=zh (HM5.out.below Q1.out.under HM5.out.lt)
         generalize (w5.alloc (.cells #[.map (some mo),.slice na s.ents.length nc,.map (some mv)] 84))=w6 at*
         have hsu:=Dw data w6.drew (by have:=HDZ.out;omega)
         obtain⟨SS,hSS⟩:∃ SS,SS=Sha.sha data:=⟨_,rfl⟩
         rw[<- hSS] at hsu
         have HSU:=zh hsu;have HSS:=zh hSS
         have HC6:=zh (show(w6.cell? ⟨wa.heap.size,2,none⟩).isSome=true by rw[show w6.cell? ⟨wa.heap.size,2,none⟩=some (.string M.dg) from HM6.out.cell 2];rfl)
         clear hsu hSS
         refine Lex.zn (fun i=>i=wa.heap.size) [6] 7 [5] ?_
         simp only[Lex.Bh,zd]
         go_wp2_with fail
         refine HSU.out.mono ?_
         rintro e w7 ⟨rfl,hb7⟩
         replace hb7:Below w6.heap.size w6 w7:=(Below.refl w6.heap.size w6).drew.trans hb7
         have HB7:=zh (HB6.out.trans (hb7.mono HB6.out.size));have HM7:=zh (HM6.out.below hb7 HM6.out.lt);have HBB:=zh hb7;have Q7:=zh (Q1.out.step hb7)
         have t2:=HM7.out.cell 2
         simp only[zg] at t2
         clear hb7
         go_wp2
         refine Lex.Mid.intro (fun i hi hl=>by subst hi;exact HBB.out.block _ HM6.out.lt) ?_
         by_cases hdg:SS=M.dg
         ·have dg1:(SS.toList==M.dg.toList)=true:=by rw[hdg];exact beq_self_eq_true _
          have hrec:=aP (n:=c.Aa.length) (rd:=rdD c) H8.out (by rw[<- HN.out];exact HL.out.symm) HMM.out.symm zaf.out (by rw[<- HDA.out];exact HRS.out) HOK.out (by rw[<- HDA.out,<- HSS.out];exact hdg)
          have zc8:=zh hrec
          clear hdg hrec
          go_wp2
          refine Lex.zk ⟨⟨rfl,HC6.out⟩,trivial⟩ ?_
          clear t2
          have t0:=HM7.out.c1
          obtain⟨q00,q01,q02⟩:=Q7.out.Ev rfl
          have zbw:=(HST.out.below Q1.out.under).below HBB.out
          have wK:Below w7.heap.size w7 (w7.alloc (.cells #[.pointer (some ⟨d.a,0,none⟩),.int .i64 M.epoch,.map (some mo),.slice na s.ents.length nc,.map (some mv),.pointer none] 130)):=zb
          have zbx:=At.new w7 130 #[.pointer (some ⟨d.a,0,none⟩),.int .i64 M.epoch,.map (some mo),.slice na s.ents.length nc,.map (some mv),.pointer none]
          have zah:=zh zbx;have zc9:=zh (zbw.below wK);have HB8:=zh (HB7.out.trans (wK.mono HB7.out.size));have HM8:=zh (HM7.out.below wK HM7.out.lt)
          have hsb:w5.heap.size<=w7.heap.size:=by have:=Q7.out.size;omega
          clear zbw wK zbx
          go_upto_region 28 with fail
          (try clear q00 q01 q02)
          clear t0
          obtain⟨sb,zai⟩:∃ x,x=w7.heap.size:=⟨_,rfl⟩
          generalize w7.alloc (.cells #[.pointer (some ⟨d.a,0,none⟩),.int .i64 M.epoch,.map (some mo),.slice na s.ents.length nc,.map (some mv),.pointer none] 130)=w8 at*
          rw[<- zai] at hsb zah ⊢
          have wL:w.heap.size<=sb:=by rw[zai];exact HB7.out.size
          clear zai
          have hso:=Xj sb d c M.epoch M.len mo (.slice na s.ents.length nc) mv (.pointer none) w8 zah.out (H.out.below HB8.out (Nat.le_refl _)) HP.out HZI.out H8.out tT.out.ep2 (by have:=HLEN.out;have:=zae.out;have:=tX.out;omega) (by rw[<- HN.out];exact tT.out.fit) ⟨_,_,_,rfl⟩ (.inl rfl)
          have HSO:=zh hso
          have t1:=HM8.out.cell 1
          simp only[zg] at t1
          clear hso
          go_wp2_with fail
          refine HSO.out.mono ?_
          rintro e w9 ⟨j,rfl,hj,-,-,-,-,e4,-,-,-,hself,hfr⟩
          rw[<- zH] at e4
          have zaj:=zc8.out
          rw[<- e4] at zaj
          have hrz:∀ r∈j.recs,r.size<=1000000:=fun r hr=>by
           rw[e4] at hr
           have h1:=dU hr
           have h2:437*(AY c.Aa.length-Ai M.len)<=437*499:=Nat.mul_le_mul (Nat.le_refl _) (by have:=tX.out;rw[HN.out] at this;omega)
           omega
          have HB9:=zh (HB8.out.trans (Fr.El hfr (fun k hk=>by rw[hk];exact wL) (by have:=zah.out.lt;omega)))
          have zcA:=zh (zc9.out.fr hfr (fun k hk he=>by have:=(HSF.out k hk).2;omega))
          have tY:=zh zaj;have HRZ:=zh hrz;have Rm:=zh hself;have HJ:=zh hj
          have hjr:=XM j w9 hj
          have HJR:=zh hjr
          have hz9:=hfr.size
          clear hj e4 hself hfr zaj hrz hjr t1
          have s5:=Rm.out.cell 5
          simp only[DR,List.getElem?_toArray,List.getElem?_cons_zero,List.getElem?_cons_succ] at s5
          go_wp2_with fail
          refine HJR.out.mono ?_
          rintro e w10 ⟨rv,rfl,hrv,Wm⟩
          obtain⟨ra,rm,rc,rfl⟩:=Ah hrv
          obtain rfl:=Iu hrv
          have HRV:=zh hrv;have zby:=zh (HB9.out.trans (Wm.mono HB9.out.size));have zbz:=zh (zcA.out.below Wm);have IB:=zh (Rm.out.below Wm Rm.out.lt)
          have zdn:=Wm.size
          have hsl:=IB.out.lt
          have zdo:=Rm.out.lt
          clear hrv Wm s5
          go_wp2_with fail
          obtain⟨L,hLr⟩:∃ L,L=j.recs:=⟨_,rfl⟩
          have hLf:L.length<=1000000:=by rw[hLr];exact HJ.out.few
          rw[<- hLr] at HRV tY HRZ ⊢
          have zdp:w.heap.size<w10.heap.size:=by omega
          clear hLr
          go_loopw [108] (fun i wr=>∃ (k:Nat) (t:St) (mo mv:Nat) (ve:Value) (F:Nat->Prop),k<=L.length/\i=.int .i64 k/\replay (L.take k) s=some t/\Bw t/\At wr sb 130 (DR d.a M.epoch mo ve mv (.pointer (some ⟨j.jb,0,none⟩)))/\StC wr F mo mv ve t/\(∀ q,SFo F mo mv ve q->w.heap.size<=q/\q≠sb/\q<wr.heap.size)/\Fr (fun q=>q=sb) w10 wr) (fun i _=>L.length-(intOf i).toNat)
          case atStart=>exact⟨0,s,mo,mv,_,F,Nat.zero_le _,rfl,rfl,HOK.out,IB.out,zbz.out,(fun q hq=>by have:=HSF.out q hq;have:=HB4.out.size;omega),Fr.refl _ _⟩
          case round=>
           obtain⟨k,t,mo',mv',ve',F',hk,rfl,hrp,Ru,hself,hst,hsf,hfr⟩:=hrel
           obtain⟨ta,tc,rfl⟩:=hst.en.len
           have HRP:=zh hrp;have Ld:=zh Ru;have jV:=zh hself;have zb0:=zh hst;have zak:=zh hsf;have HFR:=zh hfr
           have hzr:=hfr.size
           clear hrp Ru hself hst hsf hfr
           by_cases hlt:k<L.length
           ·have dk:decide ((k:Int)<L.length)=true:=by simp;omega
            have hlr:=Ar HRV.out (w':=wr) (fun q hq=>HFR.out.keep q (by obtain⟨cur,hc⟩:=Ao HRV.out hq;exact hc.lt) (by have:=Az HRV.out q hq;show q≠sb;omega))
            obtain⟨lg,lo,zcB,ce⟩:=Va hlr hlt rfl
            obtain⟨x,hx⟩:∃ x,x=L[k]:=⟨_,rfl⟩
            rw[show L.getD k ⟨#[]⟩=x by rw[hx];simp[List.getD_eq_getElem?_getD,hlt]] at ce
            have hxz:x.size<=1000000:=HRZ.out x (by rw[hx];exact List.getElem_mem hlt)
            have htk:replay (L.take (k+1)) s=match D7 x with|none=>none|some ops=>match txn t ops with|.ok u=>some u|.error _=>none:=by
             rw[List.take_succ_eq_append_getElem hlt,QL,HRP.out,hx]<;>rfl
            have HTK:=zh htk
            clear hlr hx htk
            subst zcB
            go_upto_region 33 with fail
            go_wp2_with fail
            refine(eG x _ hxz).mono ?_
            rintro e wb ⟨l2,v2,bo,rfl,hops,zb1,zdq,hbt,hbb⟩
            obtain⟨oa,oc,rfl⟩:=hops.len
            have wG:=zh hops;have zcC:=zh zb1;have HBT:=zh hbt;have zb2:=zh hbb
            have Ny:=zh (jV.out.below hbb jV.out.lt);have zcD:=zh (zb0.out.below hbb)
            have hzb:=hbb.size
            clear hops zb1 hbt hbb ce
            have s2:=Ny.out.cell 2;have s3:=Ny.out.cell 3;have s4:=Ny.out.cell 4
            simp only[DR,List.getElem?_toArray,List.getElem?_cons_zero,List.getElem?_cons_succ] at s2 s3 s4
            go_wp2_with fail
            refine(JK F' _ mo' mv' (.slice ta t.ents.length tc) t (.slice oa l2.length oc) l2 _ zcD.out Ld.out wG.out zcC.out (by omega)).mono ?_
            intro e wc hpost
            unfold Fg at hpost
            have hnone:(bo=true->∃ cc,txn t l2=.error cc)->opn c.Aa.length (rdD c)=.error 9:=fun hc=>by
             have h1:replay L s=none:=by
              refine aN (k:=k+1) ?_
              rw[HTK.out]
              rcases HBT.out with ⟨hb,h⟩|⟨hb,h⟩
              ·obtain⟨cc,h2⟩:=hc hb
               rw[h];dsimp only;rw[h2]
              ·rw[h]
             rw[tY.out,h1]
            have xI:=zh hnone
            clear hnone s2 s3 s4
            have zb3:=zby.out.trans ((HFR.out.El (B:=w.heap.size) (fun q hq=>by rw[hq];exact wL) (by omega)).trans (zb2.out.mono (by omega)))
            have wO:=zh zb3
            clear zb3
            cases htx:txn t l2 with
            | error cc =>
              rw[htx] at hpost
              obtain⟨rfl,hbc⟩:=hpost
              have dz:(cc != (0:Int))=true:=by rw[bne_iff_ne];rcases jD htx with h|h|h<;>omega
              have HE9:=zh (xI.out fun _=>⟨cc,htx⟩)
              have JQ:=zh (wO.out.trans (hbc.mono wO.out.size))
              clear htx hbc
              cases bo with
              | true =>
                go_wp2
                (try go_ret2)
                rw[HR.out]
                exact Gw (HE9.out) (JQ.out.alloc JQ.out.size _)
              | false =>
                go_wp2
                (try go_ret2)
                rw[HR.out]
                exact Gw (HE9.out) (JQ.out.alloc JQ.out.size _)
            | ok t2 =>
              rw[htx] at hpost
              obtain⟨mo2,mv2,ve2,F2,rfl,Ll,zb4,-,hbc⟩:=hpost
              obtain⟨pa,pc,rfl⟩:=Ll.en.len
              have JQ:=zh (wO.out.trans (hbc.mono wO.out.size));have HTX:=zh htx;have zcE:=zh Ll;have zcF:=zh zb4;have HBC:=zh hbc
              have hzc:=hbc.size
              clear htx Ll zb4 hbc
              cases bo with
              | false =>
                have HE9:=zh (xI.out fun h=>by cases h)
                go_wp2
                (try go_ret2)
                rw[HR.out]
                exact Gw (HE9.out) (JQ.out.alloc JQ.out.size _)
              | true =>
                have P1:=zh (show Aj wc _ [(84,#[.map (some mo2),.slice pa t2.ents.length pc,.map (some mv2)])] from((Bp.nil wc).push 84 #[.map (some mo2),.slice pa t2.ents.length pc,.map (some mv2)]).boxes)
                have Nz:=zh ((Ny.out.below HBC.out Ny.out.lt).below P1.out.under (by have:=Ny.out.lt;omega))
                have zcG:=zh (zcE.out.below P1.out.under)
                have zcH:=zh ((HFR.out.trans (Fr.of_below (F:=fun q=>q=sb) ((zb2.out.trans (HBC.out.mono hzb)).trans (P1.out.under.mono (by omega)))) (fun q hq=>.inl hq)))
                have zdr : wc.heap.size+1<=(wc.alloc (.cells #[.map (some mo2),.slice pa t2.ents.length pc,.map (some mv2)] 84)).heap.size:=P1.out.size
                go_upto_region 35 with fail
                generalize (wc.alloc (.cells #[.map (some mo2),.slice pa t2.ents.length pc,.map (some mv2)] 84))=wd at*
                obtain⟨p00,p01,p02⟩:=P1.out.Ev rfl
                have s2:=Nz.out.cell 2;have s3:=Nz.out.cell 3;have s4:=Nz.out.cell 4;have s2f:=Nz.out.free 2;have s3f:=Nz.out.free 3;have s4f:=Nz.out.free 4
                simp only[DR,List.getElem?_toArray,List.getElem?_cons_zero,List.getElem?_cons_succ] at s2 s3 s4
                go_wp2_with fail
                (try clear p00 p01 p02)
                have zcI:replay (L.take (k+1)) s=some t2:=by
                 rcases HBT.out with ⟨_,h⟩|⟨h,_⟩
                 ·rw[HTK.out,h];dsimp only;rw[HTX.out]
                 ·cases h
                have zb5:∀ q,SFo F2 mo2 mv2 (.slice pa t2.ents.length pc) q->w.heap.size<=q/\q≠sb/\q<wd.heap.size:=fun q hq=>by
                 rcases zcF.out q hq with h|h
                 ·have h9:=zak.out q (.inr (.inr (.inl h.1)))
                  exact⟨h9.1,h9.2.1,by omega⟩
                 ·have:=Ny.out.lt
                  exact⟨by omega,by omega,by omega⟩
                have hset:=(((Nz.out.set 2 (.map (some mo2))).set 3 (.slice pa t2.ents.length pc)).set 4 (.map (some mv2)))
                refine⟨⟨k+1,t2,mo2,mv2,_,F2,by omega,by go_num,zcI,Yi Ld.out HTX.out,hset,zcG.out.keep (by simp only[World.setCell,Array.size_modify];exact Nat.le_refl _) (fun q hq _=>?_),fun q hq=>?_,?_⟩,by simp[intOf];omega⟩
                ·have h3:=(zb5 q hq).2.1
                 rw[zo h3,zo h3,zo h3]
                ·have h9:=zb5 q hq
                 exact⟨h9.1,h9.2.1,by simp only[World.setCell,Array.size_modify];exact h9.2.2⟩
                ·exact((zcH.out.setCell (p:=⟨sb,2,none⟩) (.inl rfl) _).setCell (p:=⟨sb,3,none⟩) (.inl rfl) _).setCell (p:=⟨sb,4,none⟩) (.inl rfl) _
           ·have dk:decide ((k:Int)<L.length)=false:=by simp;omega
            obtain rfl:k=L.length:=by omega
            have hrp:=HRP.out
            rw[List.take_length] at hrp
            have hop2:=tY.out
            rw[hrp] at hop2
            dsimp only at hop2
            have zcJ:=zh hop2
            clear hrp hop2
            go_wp2
            (try go_ret2)
            rw[HR.out]
            refine⟨?_,zby.out.trans (HFR.out.El (fun q hq=>by rw[hq];exact wL) (by omega))⟩
            rw[zcJ.out]
            exact⟨sb,d.a,mo',_,mv',_,F',rfl,jV.out,zb0.out,Ld.out,tT.out.ep2,fun h=>(zak.out sb h).2.1 rfl,wL,fun q hq=>(zak.out q hq).1⟩
         ·have dg1 : (SS.toList == M.dg.toList) = false :=by
           rw[beq_eq_false_iff_ne];intro e
           exact hdg (Own.toList_inj e)
          have HE9:=zh (show opn c.Aa.length (rdD c)=.error 9 from aO (h0:=h0) (l:=l) (H:=M) H8.out (by rw[<- HN.out];exact HL.out.symm) HMM.out.symm zaf.out (fun h=>hdg (by rw[HSS.out,HDA.out];exact h.2)))
          clear hdg
          go_wp2
          refine Lex.zk ⟨⟨rfl,HC6.out⟩,trivial⟩ ?_
          go_wp2
          (try go_ret2)
          rw[HR.out]
          exact Gw (HE9.out) HB7.out
        ·clear hz5
         have Q1:=zh (show Aj w5 _ [(84,#[.map mo,.slice ea en ec,.map mv])] from((Bp.nil w5).push 84 #[.map mo,.slice ea en ec,.map mv]).boxes)
         have HE9:=zh (show opn c.Aa.length (rdD c)=.error 9 from aO (h0:=h0) (l:=l) (H:=M) H8.out (by rw[<- HN.out];exact HL.out.symm) HMM.out.symm zaf.out (fun h=>hno (by rw[HDA.out];exact h.1)))
         clear hno
         go_upto_region 25 with fail
         have HB6:=zh (HB5.out.trans (Q1.out.under.mono HB5.out.size))
         generalize (w5.alloc (.cells #[.map mo,.slice ea en ec,.map mv] 84))=w6 at*
         refine Lex.zn (fun i=>i=wa.heap.size) [6] 7 [5] ?_
         simp only[Lex.Bh,zd]
         go_wp2
         refine Lex.Mid.intro (fun i hi hl=>rfl) ?_
         go_wp2
         refine Lex.zk ⟨trivial,trivial⟩ ?_
         go_wp2
         (try go_ret2)
         rw[HR.out]
         exact Gw (HE9.out) HB6.out.drew
end Sto
namespace Sto
theorem Vp {c:Ac}{e q:Nat}{data:ByteArray}(hc:Calm c)(h1:q≠e%2)(h2:q<Bo c.Aa.length e):(begun e data c).read q=c.read q:=by
 rw[Je (E9 hc),Je hc,Cy,QG h1 (.inl h2)]
theorem Vq:Bw st3:=Yi Bw.none dO
theorem lV:Ai (Ad st3).size+1<=AY 8:=by
 have h:=tC.1
 generalize (Ad st3).size=z at*
 unfold Ai AY
 omega
theorem Vr:Ai (Ad St.none).size=1:=by rw[Xo];rfl
theorem wP {j:Bg}{c:Ac}(hc:Calm c)(hn:c.Aa.length=8)(hj:2<=j.first):opn 8 (rdD (begun 2 (Ad st3) (after j (Ca Pb) (begun 1 (Ad St.none) c))))=.ok (2,st3):=by
 have hcb:Calm (begun 1 (Ad St.none) c):=E9 hc
 have hlb:(begun 1 (Ad St.none) c).Aa.length=8:=by rw[Cy,hn]
 have hca:Calm (after j (Ca Pb) (begun 1 (Ad St.none) c)):=Tz hcb
 have hla:(after j (Ca Pb) (begun 1 (Ad St.none) c)).Aa.length=8:=by rw[FX,hlb]
 have hr:(begun 2 (Ad st3) (after j (Ca Pb) (begun 1 (Ad St.none) c))).read ((1:Nat):Int)=(Er 1 (Ad St.none),0):=by
  rw[Vp hca (by decide) (by rw[hla];decide),ZO hcb.pend (by have:=Qo;omega) 1 (by rw[hlb];decide) (.inl (by omega))]
  exact ME (e:=1) hc (by omega)
 have h:=nR (e:=2) (s:=st3) hca (by omega) (by decide) (by decide) Vq (by rw[hla];have:=lV;omega) (fun h hh=>by
  have e:=nS (p:=1) hr hh
  have h2:=(kX (n:=8) (e:=1) (data:=Ad St.none) (by decide) (by decide) (by rw[Xo];decide) (by rw[Vr];decide)).2
  rw[h2] at e
  rw[e]
  show 1<2
  decide)
 rw[hla] at h
 exact h
def tZ:List (List Value):=[[.int .i64 0,.string ⟨#[]⟩,.string ⟨#[]⟩,.int .i64 5,.slice none 0 0,.string ⟨#[120]⟩],[.int .i64 2,.string ⟨#[]⟩,.string ⟨#[101,110,116,114,121]⟩,.int .i64 0,.slice none 0 0,.string ⟨#[]⟩],[.int .i64 3,.string ⟨#[110]⟩,.string ⟨#[118]⟩,.int .i64 0,.slice none 0 0,.string ⟨#[]⟩]]
theorem jW (w:World)(n:Nat):Nt (fun _=>True) (w.alloc (.cells tZ.flatten.toArray 77)) (.slice (some ⟨w.heap.size,0,none⟩) 3 n) Pb:=by
 refine Dp.Yw (n:=3) (css:=tZ) ⟨rfl,_,n,rfl,.inr ⟨w.heap.size,0,rfl,by rw[World.size_alloc];omega,fun j u hj=>by rw[Nat.zero_add,(At.new w 77 _).cell,List.getElem?_toArray];exact hj⟩⟩ rfl rfl (fun _ _=>trivial) ?_
 intro i hi _
 match i,hi with
 | 0,_=>exact⟨rfl,_,rfl,Ih _ _⟩
 | 1,_=>exact⟨rfl,_,rfl,Ih _ _⟩
 | 2,_=>exact⟨rfl,_,rfl,Ih _ _⟩
theorem eH (w:World)(n:Nat):Nt (fun _=>True) (w.alloc (.cells #[.int .i64 3,.string ⟨#[110]⟩,.string ⟨#[]⟩,.int .i64 0,.slice none 0 0,.string ⟨#[]⟩] 77)) (.slice (some ⟨w.heap.size,0,none⟩) 1 n) dK:=by
 refine Dp.Yw (n:=1) (css:=[[.int .i64 3,.string ⟨#[110]⟩,.string ⟨#[]⟩,.int .i64 0,.slice none 0 0,.string ⟨#[]⟩]]) ⟨rfl,_,n,rfl,.inr ⟨w.heap.size,0,rfl,by rw[World.size_alloc];omega,fun j u hj=>by rw[Nat.zero_add,(At.new w 77 _).cell,List.getElem?_toArray];exact hj⟩⟩ rfl rfl (fun _ _=>trivial) ?_
 intro i hi _
 match i,hi with
 | 0,_=>exact⟨rfl,_,rfl,Ih _ _⟩
theorem II (w:World):Calls Tryz.prog 27 #[] w fun e w' => e=.returned (Dj oX (.slice none 0 0))/\Below w.heap.size w w':=by
 have T1:=zh (show Aj w _ [(64,#[.int .i64 0,.slice none 0 0,.string ⟨#[]⟩])] from((Bp.nil w).push 64 #[.int .i64 0,.slice none 0 0,.string ⟨#[]⟩]).boxes)
 go_enter Tryz.func27,Tryz.ntmps27
 go_upto_region 1 with fail
 generalize (w.alloc (.cells #[.int .i64 0,.slice none 0 0,.string ⟨#[]⟩] 64))=w1 at*
 obtain⟨t00,t01,t02,Ci,Cj,Ck⟩:=T1.out.Hz rfl
 go_wp2_with fail
 (try clear t00 t01 t02 Ci Cj Ck)
 have T9:=((T1.out.put 0 0 (.int .i64 5) rfl).put 0 1 (.slice none 0 0) rfl).put 0 2 (.string ⟨#[120]⟩) rfl
 refine UF rfl rfl (Al (T9.at1 0 rfl) Tryz.underlying64 rfl Iw) ?_
 exact⟨rfl,T9.under⟩
end Sto
namespace Sto
theorem jX (x z:Value)(a:Option Addr)(n c:Nat)(w:World):(Instr.field 26 (.agg #[x,.slice a n c,z]) 1).run Tryz.prog w=.ok (.slice a n c) w:=by
 kernel_rfl
attribute [local go_sem] jX
theorem xJ (w:World):Calls Tryz.prog 6 #[] w fun e w' => e=.returned (.bool true)/\Below w.heap.size w w':=by
 go_enter Tryz.func6,Tryz.ntmps6
 go_wp2_with fail
 refine(dJ 8 _ (by decide) (by decide)).mono ?_
 rintro e w1 ⟨d,v,rfl,hd,hvs,hb1,hdf⟩
 unfold Yg
 obtain⟨c0,hc0⟩:∃ c,c=Ac.blank 8:=⟨_,rfl⟩
 rw[<- hc0] at hd
 have zb6:Calm c0:=by rw[hc0];exact iD 8
 have hsz:Ga c0:=by rw[hc0];exact ZR 8
 have hlen:c0.Aa.length=8:=by rw[hc0];exact List.length_replicate
 clear hc0
 obtain⟨va,vn,vc,rfl⟩:∃ a n c,v=.slice a n c:=by obtain⟨a,c,h⟩:=hvs.len;exact⟨a,_,c,h⟩
 clear hvs
 have hal:Below w1.heap.size w1 (w1.alloc (.cells #[.slice va vn vc,.slice none 0 0] 41)):=zb
 have HD:=zh (hd.below hal (Nat.le_refl _));have HB:=zh (hb1.trans (hal.mono hb1.size));have zb7:=zh zb6;have HSZ:=zh hsz;have HLEN:=zh hlen;have HDF:=zh hdf
 clear hd hal hb1 zb6 hsz hlen hdf
 go_upto_region 2 with fail
 generalize w1.alloc (.cells #[.slice va vn vc,.slice none 0 0] 41)=w2 at*
 go_wp2_with fail
 refine(dR d c0 _ HD.out zb7.out HSZ.out (by rw[HLEN.out];decide)).mono ?_
 rintro e w3 ⟨p,rfl,hp,hpa,hpn,hpc,-,hpf,hft,hfr⟩
 rw[HLEN.out,Vr] at hpc
 rw[HLEN.out,Vr] at hpf
 have HP:=zh hp;have HPA:=zh hpa
 have HPN:=zh (show p.j.next=0/\p.j.count=2/\p.j.first=6 from⟨hpn,hpc.trans (by decide),hpf.trans (by decide)⟩)
 have HB3:=zh (HB.out.trans (Fr.El hfr (fun k hk=>HDF.out k hk) HB.out.size))
 have HFT:=zh (show ∀ k,p.foot k->w.heap.size<=k from fun k hk=>(hft k hk).elim (HDF.out k) fun h=>Nat.le_trans HB.out.size h)
 clear hp hpa hpn hpc hpf hft hfr HD HB HDF
 have hep:=Vf p.sb p.d.a 1 p.mo p.ve p.mv _ w3 HP.out.self
 have HEP:=zh hep
 clear hep
 go_wp2_with fail
 refine HEP.out.mono ?_
 rintro e wx ⟨rfl,hwx⟩
 subst wx
 clear HEP
 go_wp2_with fail
 refine(II _).mono ?_
 rintro e w4 ⟨rfl,hb4⟩
 unfold Dj
 have HP4:=zh (HP.out.below hb4);have HB4:=zh (HB3.out.trans (hb4.mono HB3.out.size))
 clear hb4 HP HB3
 simp only[oX]
 have hal:Below w4.heap.size w4 (w4.alloc (.cells tZ.flatten.toArray 77)):=zb
 have hop:=jW w4 3
 have hcm:=cB p 1 St.none _ (fun _=>True) _ Pb _ (HP4.out.below hal) (by decide) hop jH (by decide)
 have HAL:=zh hal;have HCM:=zh hcm
 clear hal hop hcm
 go_wp2_with fail
 refine HCM.out.mono ?_
 intro e w5 hpost
 have hpg:Bb ((Ca Pb).size:Nat)<=1:=by
  have h:=Qo
  generalize (Ca Pb).size=z at*
  unfold Bb
  split
  ·decide
  ·split
   ·decide
   ·omega
 unfold I4 at hpost
 rw[dO] at hpost
 dsimp only at hpost
 rw[if_neg (by have:=Qo;omega),if_pos (by have:=HPN.out;omega)] at hpost
 obtain⟨rfl,p1,hst⟩:=hpost
 have hl1:(after p.j (Ca Pb) (begun 1 (Ad St.none) (Pf c0))).Aa.length=8:=by rw[FX,Cy,Ma,HLEN.out]
 have hb5:=HB4.out.trans (HAL.out.mono HB4.out.size)
 have hb6:=hb5.trans (Fr.El hst.fr (fun k hk=>HFT.out k (by rcases hk with h|h|h;exact .inl h;exact .inr (.inr (.inl h));exact .inr (.inr (.inr h)))) hb5.size)
 have zb8:∀ k,p1.foot k->w.heap.size<=k:=fun k hk=>(hst.foot k hk).elim (HFT.out k) fun h=>Nat.le_trans hb5.size h
 have hcp:=YS p1 1 st3 _ w5 hst.at_ (by decide)
 rw[hst.sb] at hcp
 have HCP:=zh hcp;have HST:=zh hst;have HB6:=zh hb6;have HF1:=zh zb8;have HL1:=zh hl1
 clear hcp hst hb5 hb6 zb8 hl1 hpg HCM HB4 HAL HP4
 go_wp2_with fail
 refine HCP.out.mono ?_
 intro e w6 hpost
 unfold YQ at hpost
 rw[HL1.out] at hpost
 obtain⟨-,rfl,p2,Ll⟩:=hpost.resolve_right (fun h=>h.1 lV)
 have hda:p2.d.a=d.a:=by rw[Ll.a,HST.out.a,HPA.out]
 have hb7:=HB6.out.trans (Fr.El Ll.fr (fun k hk=>HF1.out k (by rcases hk with h|h|h;exact .inl h;exact .inr (.inr (.inl h));exact .inr (.inr (.inr h)))) HB6.out.size)
 have zb9:∀ k,p2.d.foot k->w.heap.size<=k:=fun k hk=>(Ll.foot k (.inr (.inr (.inr hk)))).elim (HF1.out k) fun h=>Nat.le_trans HB6.out.size h
 obtain⟨c2,hc2⟩:∃ c,c=begun (1+1) (Ad st3) (after p.j (Ca Pb) (begun 1 (Ad St.none) (Pf c0))):=⟨_,rfl⟩
 have hlv:=Ll.at_.live
 rw[<- hc2] at hlv
 have hop:opn c2.Aa.length (rdD c2)=.ok (2,st3):=by
  rw[hc2,Cy,HL1.out]
  exact wP (Nv zb7.out) (by rw[Ma];exact HLEN.out) (by have:=HPN.out;omega)
 have hcr:=fZ p2.d c2 w6 hlv.jd.disk hlv.calm.pend
 rw[hda,YP hlv.calm] at hcr
 have hl2:c2.Aa.length=8:=by rw[hc2,Cy,HL1.out]
 have HCR:=zh hcr;have tY:=zh hop;have zcK:=zh hlv.sized;have zbA:=zh hlv.calm;have HB7:=zh hb7;have HF2:=zh zb9;have HDA:=zh hda;have HL2:=zh hl2
 clear hcr hop hlv hb7 zb9 hda hl2 Ll hc2 HCP HST HF1 HB6 HL1 HPN HFT
 go_wp2_with fail
 refine HCR.out.mono ?_
 rintro e w7 ⟨rfl,hds⟩
 have hd7:=hds.at_
 have HB8:=zh (HB7.out.trans (Fr.El hds.fr (fun k hk=>HF2.out k hk) HB7.out.size))
 have hon:=oz _ c2 w7 hd7 (by rw[zbA.out.pend];exact Nat.zero_le _) zcK.out (by rw[HL2.out];decide)
 rw[hds.a,HDA.out] at hon
 have HON:=zh hon
 clear hds hd7 hon HCR HB7 HF2
 go_wp2_with fail
 refine HON.out.mono ?_
 rintro e w8 ⟨hpost,hb8⟩
 rw[tY.out] at hpost
 obtain⟨sb,da,mo,ve,mv,jv,F,rfl,hself,hsc,hok,-,zcL,zcM,-⟩:=hpost
 have Rm:=zh hself;have HSC:=zh hsc;have HB9:=zh (HB8.out.trans (hb8.mono HB8.out.size))
 have hep:=Vf sb da 2 mo ve mv jv w8 hself
 have hva:=jC sb da 2 mo ve mv jv F st3 ⟨#[110]⟩ w8 hself hsc (by decide)
 rw[zG] at hva
 have HEP:=zh hep;have HVA:=zh hva
 clear hself hsc hok zcL zcM hb8 hep hva HON HB8
 go_wp2_with fail
 refine HEP.out.mono ?_
 rintro e wx ⟨rfl,hwx⟩
 subst wx
 go_wp2_with fail
 refine HVA.out.mono ?_
 rintro e w9 ⟨rfl,hb9⟩
 have jY:=zh (Rm.out.below hb9 Rm.out.lt);have zbB:=zh (HSC.out.below hb9);have HBA:=zh (HB9.out.trans (hb9.mono HB9.out.size))
 clear hb9 Rm HSC HB9 HEP HVA
 go_wp2_with fail
 refine(II _).mono ?_
 rintro e w10 ⟨rfl,Wm⟩
 have Ph:=zh (jY.out.below Wm jY.out.lt);have uf:=zh (zbB.out.below Wm);have HBB:=zh (HBA.out.trans (Wm.mono HBA.out.size))
 clear Wm jY zbB HBA
 have hdg:=Wi oX (.slice none 0 0) w10 ⟨none,0,rfl,.inl rfl⟩ (Eu okX)
 rw[lN okX] at hdg
 obtain⟨D,hD⟩:∃ D,D=dig oX:=⟨_,rfl⟩
 have hlk:=zbf
 have hDz:D.size<=140737488350000:=by rw[hD,OE];decide
 rw[<- hD] at hdg hlk
 have HDG:=zh hdg;have HLK:=zh hlk;have HDZ:=zh hDz
 clear hdg hlk hD hDz
 unfold Dj
 simp only[oX]
 unfold Dj at HDG
 simp only[oX] at HDG
 go_wp2_with fail
 refine HDG.out.mono ?_
 rintro e w11 ⟨rfl,Ii⟩
 have hgt:=sS sb da 2 mo ve mv jv F st3 D w11 (Ph.out.below Ii Ph.out.lt) (uf.out.below Ii) Vq HDZ.out
 have Zc:=zh (Ph.out.below Ii Ph.out.lt);have xL:=zh (uf.out.below Ii);have HBC:=zh (HBB.out.trans (Ii.mono HBB.out.size));have HGT:=zh hgt
 clear Ii hgt Ph uf HBB HDG
 go_wp2_with fail
 refine HGT.out.mono ?_
 intro e w12 hpost
 unfold OU at hpost
 rw[HLK.out] at hpost
 obtain⟨xv,rfl,hxv,NY⟩:=hpost
 obtain⟨xa,xc,rfl⟩:=hxv.1.len
 unfold Dj
 simp only[oX,List.length_nil]
 have xM:Below w12.heap.size w12 (w12.alloc (.cells #[.int .i64 5,.slice xa 0 xc,.string ⟨#[120]⟩] 64)):=zb
 have J3:=NY.trans (xM.mono NY.size)
 have HX:=zh (At.new w12 64 #[.int .i64 5,.slice xa 0 xc,.string ⟨#[120]⟩])
 have RZ:=zh (Zc.out.below J3 Zc.out.lt);have ug:=zh (xL.out.below J3);have HBD:=zh (HBC.out.trans (J3.mono HBC.out.size))
 clear hxv NY xM J3 Zc xL HBC HGT HLK HDZ
 go_upto_region 14 with fail
 obtain⟨xb,hxb⟩:∃ x,x=w12.heap.size:=⟨_,rfl⟩
 rw[<- hxb] at HX ⊢
 clear hxb
 generalize w12.alloc (.cells #[.int .i64 5,.slice xa 0 xc,.string ⟨#[120]⟩] 64)=w13 at*
 have hss:=Vg sb da 2 mo ve mv jv F st3 w13 RZ.out ug.out Vq
 have HSS:=zh hss
 clear hss
 go_wp2_with fail
 refine HSS.out.mono ?_
 rintro e w14 ⟨v6,rfl,hsv,zal,-⟩
 have zbC:=hsv
 obtain⟨wo,we,wv,rfl,h1,h2,h3⟩:=hsv
 obtain⟨oa,oc,rfl⟩:=h1.len
 obtain⟨ea,ec,rfl⟩:=h2.len
 obtain⟨na,nc,rfl⟩:=h3.len
 have uh:Below w14.heap.size w14 (w14.alloc (.cells #[.int .i64 3,.string ⟨#[110]⟩,.string ⟨#[]⟩,.int .i64 0,.slice none 0 0,.string ⟨#[]⟩] 77)):=zb
 have hr3:OY st3:=⟨fun o ho=>by simp[st3] at ho;subst ho;exact Eu okX,⟨by decide,fun e he=>by simp[st3] at he;subst he;decide⟩,fun v hv=>by simp[st3] at hv;subst hv;exact⟨by decide,by decide⟩,⟨by decide,by decide⟩⟩
 have hck:=jE _ (fun _=>True) _ (.slice (some ⟨w14.heap.size,0,none⟩) 1 1) st3 dK _ (zbC.below uh) hr3 (eH w14 1) dP (by decide)
 have HCK:=zh hck;have Oj:=zal.trans (uh.mono zal.size)
 have zam:=zh (HX.out.below Oj HX.out.lt);have Zd:=zh (RZ.out.below Oj RZ.out.lt);have xO:=zh (ug.out.below Oj);have HBE:=zh (HBD.out.trans (Oj.mono HBD.out.size))
 clear zbC h1 h2 h3 hr3 hck Oj uh zal HX RZ ug HBD HSS
 go_wp2_with fail
 refine HCK.out.mono ?_
 rintro e w16 ⟨hpost,uj⟩
 obtain⟨t,v7,rfl,zcN,htx⟩:∃ t v,e=.returned (.tuple #[v,.int .i64 0])/\StV (fun k=>(w14.alloc (.cells #[.int .i64 3,.string ⟨#[110]⟩,.string ⟨#[]⟩,.int .i64 0,.slice none 0 0,.string ⟨#[]⟩] 77)).heap.size<=k) w16 v t/\t=⟨[oX],[⟨#[101,110,116,114,121]⟩],[]⟩:=by
  rcases hpost with ⟨h,_⟩|⟨_,cc,h,_⟩|⟨_,t,v,h,he,hs⟩
  ·exact absurd Vq h
  ·rw[lQ] at h;cases h
  ·rw[lQ] at h;cases h;exact⟨_,v,he,hs,rfl⟩
 subst htx
 obtain⟨ro,re,rv,rfl,h1,h2,h3⟩:=zcN
 obtain⟨pa,pc,rfl⟩:=h1.len
 obtain⟨qa,qc,rfl⟩:=h2.len
 obtain⟨ra,rc,rfl⟩:=h3.len
 have zan:=zh (zam.out.below uj zam.out.lt);have Ze:=zh (Zd.out.below uj Zd.out.lt);have xP:=zh (xO.out.below uj);have HBF:=zh (HBE.out.trans (uj.mono HBE.out.size))
 clear h1 h2 h3 hpost uj zam Zd xO HBE HCK
 simp only[List.length_cons,List.length_nil]
 have eO:Below w16.heap.size w16 (w16.alloc (.cells #[.slice pa 1 pc,.slice qa 1 qc,.slice ra 0 rc] 26)):=zb
 have HY:=zh (At.new w16 26 #[.slice pa 1 pc,.slice qa 1 qc,.slice ra 0 rc])
 have oD:=zh (zan.out.below eO zan.out.lt);have lW:=zh (Ze.out.below eO Ze.out.lt);have zbD:=zh (xP.out.below eO);have HBG:=zh (HBF.out.trans (eO.mono HBF.out.size))
 clear eO zan Ze xP HBF
 go_upto_region 15 with fail
 obtain⟨yb,hyb⟩:∃ x,x=w16.heap.size:=⟨_,rfl⟩
 rw[<- hyb] at HY ⊢
 clear hyb
 generalize w16.alloc (.cells #[.slice pa 1 pc,.slice qa 1 qc,.slice ra 0 rc] 26)=w17 at*
 have HXI:=zh (show(w17.cell? ⟨xb,0,none⟩).isSome=true by rw[show w17.cell? ⟨xb,0,none⟩=some (.int .i64 5) from oD.out.cell 0];rfl)
 obtain⟨x0,x1,x2⟩:=oD.out.c3
 refine Lex.IG (fun i=>i=xb) [3] [11] 12 [.pure 4,.call,.call,.pure 3,.call,.call,.new] [] (by kernel_rfl) (by kernel_rfl) (by kernel_rfl) ?_
 simp only[Lex.JY,Lex.Bh,zd]
 have hd0:Below w17.heap.size w17 w17.drew:=(Below.refl _ _).drew
 go_wp2
 refine Lex.UK.intro ?_
 intro wA hgA
 have BA:=zh (hd0.trans (hgA.mono hd0.size))
 clear hgA x0 x1 x2
 go_wp2_with fail
 refine(II wA).mono ?_
 rintro e wA2 ⟨rfl,hbA⟩
 have BA2:=zh (BA.out.trans (hbA.mono BA.out.size))
 unfold Dj
 simp only[oX]
 go_wp2
 refine Lex.UL.intro (fun k hk hl=>by subst hk;exact BA2.out.block _ oD.out.lt) (Lex.Kept.of_below hbA) ?_
 intro wB hgB
 have BB:=zh (BA2.out.trans (hgB.mono BA2.out.size))
 clear hgB hbA BA
 have hsm:=dD oX oX (.slice xa 0 xc) (.slice none 0 0) wB ⟨xa,xc,rfl,.inl rfl⟩ ⟨none,0,rfl,.inl rfl⟩ (Eu okX) (Eu okX)
 rw[jG] at hsm
 unfold Dj at hsm
 simp only[oX] at hsm
 have HSM:=zh hsm
 clear hsm
 go_wp2_with fail
 refine HSM.out.mono ?_
 rintro e wB2 ⟨rfl,hbB⟩
 have BB2:=zh (BB.out.trans (hbB.mono BB.out.size))
 go_wp2
 refine Lex.UL.intro (fun k hk hl=>by subst hk;exact BB2.out.block _ oD.out.lt) (Lex.Kept.of_below hbB) ?_
 clear hbB BB HSM
 go_wp2
 refine Lex.UK.intro ?_
 intro wC hgC
 have BC:=zh (BB2.out.trans (hgC.mono BB2.out.size))
 clear hgC
 have hss:=Vg sb da 2 mo ve mv jv F st3 wC (lW.out.below BC.out lW.out.lt) (zbD.out.below BC.out) Vq
 have HSS:=zh hss
 clear hss
 go_wp2_with fail
 refine HSS.out.mono ?_
 rintro e wC2 ⟨v6,rfl,⟨wo,we,wv,rfl,h1,h2,h3⟩,hbC,-⟩
 obtain⟨oa,oc,rfl⟩:=h1.len
 obtain⟨ea,ec,rfl⟩:=h2.len
 obtain⟨na,nc,rfl⟩:=h3.len
 have BC2:=zh (BC.out.trans (hbC.mono BC.out.size));have HEN:=zh h2.1
 clear h1 h2 h3
 go_wp2
 refine Lex.UL.intro (fun k hk hl=>by subst hk;exact BC2.out.block _ oD.out.lt) (Lex.Kept.of_below hbC) ?_
 intro wD hgD
 have BD:=zh (BC2.out.trans (hgD.mono BC2.out.size));have zcO:=zh (HEN.out.below hgD)
 clear hgD hbC HSS
 go_wp2
 refine Lex.UL.intro (fun k hk hl=>by subst hk;exact BD.out.block _ oD.out.lt) (Lex.Kept.of_below (Below.refl _ _)) ?_
 intro w0 hw0
 go_wp2
 refine Lex.jh.intro (fun wE hgE hkE _=>?_)
 have hat:=hkE.at_
 have BE:=zh (BD.out.trans (hgE.mono BD.out.size));have zcP:=zh (zcO.out.below hgE)
 have hlit:Am wE (.slice (some ⟨w0.heap.size,0,none⟩) 1 1) [⟨#[101,110,116,114,121]⟩]:=⟨_,_,rfl,.inr ⟨_,_,rfl,fun j hj=>by
  match j,hj with
  | 0,_=>exact(hat.cell 0).trans rfl⟩⟩
 have heq:=eP _ (.slice (some ⟨w0.heap.size,0,none⟩) 1 1) _ [⟨#[101,110,116,114,121]⟩] wE zcP.out hlit (by decide) (by decide)
 rw[show decide (st3.ents=[⟨#[101,110,116,114,121]⟩])=true from decide_eq_true rfl] at heq
 have HEQ:=zh heq
 clear hgE hkE hat hlit heq
 go_wp2_with fail
 refine HEQ.out.mono ?_
 rintro e wF ⟨rfl,q,rfl⟩
 have BF:=zh (show Below w17.heap.size w17 (wE.drewN q) from below_drewN BE.out q)
 generalize wE.drewN q=wF at*
 have y2:=(HY.out.below BF.out HY.out.lt).cell 2
 simp only[zg] at y2
 go_wp2
 refine Lex.zk ⟨⟨rfl,HXI.out⟩,trivial⟩ ?_
 go_wp2
 (try go_ret)
 exact⟨rfl,HBG.out.trans (BF.out.mono HBG.out.size)⟩
end Sto
end
end Go.Proofs.YtdiiafgoccakkaaGreatDoor
