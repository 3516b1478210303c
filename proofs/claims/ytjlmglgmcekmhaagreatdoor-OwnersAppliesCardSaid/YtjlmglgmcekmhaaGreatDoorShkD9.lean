/- The laws' example of package 53 stands. -/
import Derived.Test.YtjlmglgmcekmhaaGreatDoorShkD8
set_option linter.unusedVariables false
set_option linter.unusedSimpArgs false
set_option maxRecDepth 100000
set_option maxHeartbeats 8000000
namespace Go.Proofs.YtjlmglgmcekmhaaGreatDoor
section
open Go Go.RowKit Go.Maps
theorem Dt.at1 {w:World}{b x:Nat}(h:At w b 5 #[.int .u8 (x:Int)]):Dt w (.slice (some ⟨b,0,none⟩) 1 1) [x]:=
 ⟨rfl,_,_,rfl,.inr ⟨b,0,rfl,h.lt,fun j u hj => by
   match j,hj with
   | 0,hj=>exact(h.cell 0).trans hj
   | j+1,hj=>cases hj⟩⟩
theorem zcD (w:World)(hM:Il w):Calls Tryz.prog 11 #[] w fun e w' => e=.returned (.bool true)/\Below w.heap.size w w':=by
 obtain⟨o1,o2,M2,OP,aps,EB,sx,sy,hA⟩:=Own.awk
 have hcl:=fun(b:Nat) W (hW:Below w.heap.size w W) (ha:At W b 5 #[.int .u8 1])=>Tc Own.sA 1 [1] (some ⟨b,0,none⟩) 1 W (hM.below hW) (Dt.at1 ha) (by simp) (by simp) (by simp)
 rw[hA.claim] at hcl
 have hmb:=fun(b:Nat) W (ha:At W b 5 #[.int .u8 2])=>Ir [2] (some ⟨b,0,none⟩) 1 W (Dt.at1 ha) (by simp) (by simp) (by simp)
 rw[hA.m2,hA.m2l] at hmb
 have hsg:=fun(sv kv mv:Value) (b:Nat) W (hW:Below w.heap.size w W) hs hk (hm:Own.Af W mv M2) (ha:At W b 5 #[.int .u8 1])=>Jm o1 ⟨2,Own.sAB,M2,1,⟨#[]⟩,⟨#[]⟩,[]⟩ 1 [1] sv kv mv (.slice none 0 0) (some ⟨b,0,none⟩) 1 W (hM.below hW) (by omega) hs hk hm ⟨_,_,rfl⟩ (by rw[hA.m2l];omega) (Dt.at1 ha) (by simp) (by simp)
 rw[hA.apd] at hsg
 unfold Own.opV Own.Xa at hsg
 dsimp only at hsg
 have hop:=hA.op
 subst hop
 have hap:=fun(sv kv mv av:Value) W (hW:Below w.heap.size w W) hS hK (hm:Own.Af W mv M2) hap=>PE o1 ⟨2,Own.sAB,M2,1,⟨#[]⟩,⟨#[]⟩,aps⟩ sv kv mv av W (hM.below hW) hS hK hm hap (Nat.le_trans hA.s1.1 (by omega)) (Nat.le_trans hA.s1.2.1 (by omega)) (fun s hs=>Nat.le_trans (hA.s1.2.2 s hs) (by omega)) (by show M2.length<=_;rw[hA.m2l];omega) hA.all
 rw[hA.app] at hap
 unfold Own.opV at hap
 dsimp only at hap
 have hvl:=fun(sv kv:Value) W (hW:Below w.heap.size w W) hS hK=>JN o1 sv kv W (hM.below hW) hS hK (Nat.le_trans hA.s1.1 (by omega)) (Nat.le_trans hA.s1.2.1 (by omega)) (fun s hs=>Nat.le_trans (hA.s1.2.2 s hs) (by omega))
 rw[hA.ok1] at hvl
 have hau:=fun(p:ByteArray) (sv kv:Value) W (hW:Below w.heap.size w W) hS hK=>Om o2 p sv kv W (hM.below hW) hS hK (Nat.le_trans hA.s2.1 (by omega)) (Nat.le_trans hA.s2.2.1 (by omega)) (fun s hs=>Nat.le_trans (hA.s2.2.2 s hs) (by omega))
 have uy:=hau Own.jA
 have aV:=hau Own.bU
 have uz:=hau Own.sB
 rw[hA.au1] at uy
 rw[hA.au2] at aV
 rw[hA.au3] at uz
 have hen:=fun(mv av:Value) W (hW:Below w.heap.size w W) (hm:Own.Af W mv M2) hap=>Nu ⟨2,Own.sAB,M2,1,⟨#[]⟩,⟨#[]⟩,aps⟩ mv av W (hM.below hW) hm hap (by show M2.length<=_;rw[hA.m2l];omega) (Nat.le_trans hA.sum (by omega)) (fun a ha=>⟨hA.idx a ha,(hA.all a ha).2⟩)
 rw[hA.enc] at hen
 unfold Own.opV at hen
 dsimp only at hen
 have hde:=fun W (hW:Below w.heap.size w W)=>WZ EB W (hM.below hW) (Nat.le_trans hA.sz (by omega))
 rw[hA.dec] at hde
 have hso:=fun(mv av mv2 av2:Value) W hm hm2 hA1 hA2=>Um ⟨2,Own.sAB,M2,1,⟨#[]⟩,⟨#[]⟩,aps⟩ mv av mv2 av2 W hm hm2 hA1 hA2 (by show M2.length<=_;rw[hA.m2l];omega) (by show aps.length<=_;rw[hA.apl];omega) (fun a ha=>(hA.all a ha).2)
 unfold Own.opV at hso
 dsimp only at hso
 obtain⟨c1,S1,K1⟩:=o1
 have hc1:c1=1:=hA.c1
 obtain⟨⟨p1,n1⟩,hk1,hn1⟩:=hA.k1
 have hk1:K1=[⟨p1,n1⟩]:=hk1
 have hn1:n1=1:=hn1
 subst hc1 hk1 hn1
 obtain⟨xp,xm,xt⟩:=sx
 obtain⟨yp,ym,yt⟩:=sy
 have hx1:xp=Own.sAB:=hA.x1
 have hy1:yp=Own.sA:=hA.y1
 subst hx1 hy1
 have hml:=hA.m2l
 have hal:=hA.apl
 have HCL:=zh hcl;have HMB:=zh hmb;have HSG:=zh hsg;have HAP:=zh hap;have HVL:=zh hvl;have HA1:=zh uy;have HA2:=zh aV;have HA3:=zh uz;have HEN:=zh hen;have HDE:=zh hde;have HSO:=zh hso;have HML:=zh hml;have HAL:=zh hal
 clear hcl hmb hsg hap hvl hau uy aV uz hen hde hso hA hml hal hM
 unfold Own.sAB Own.sA Own.jA Own.bU Own.sB at*
 go_enter Tryz.func11,Tryz.ntmps11
 go_wp2_with fail
 have hb1:Below w.heap.size w (w.alloc (.cells #[.int .u8 1] 5)):=zb
 have hat:=At.new w 5 #[.int .u8 1]
 have B1:=zh hb1;have T1:=zh hat;clear hb1 hat
 generalize w.alloc (.cells #[.int .u8 1] 5)=w1 at*
 refine(HCL.out w.heap.size w1 B1.out T1.out).mono ?_
 rintro e w2 ⟨sv,kv,rfl,hs2,hk2,hb2⟩
 have hb2':=B1.out.trans (hb2.mono B1.out.size)
 have hs3:Own.BF w2 sv S1:=hs2.mono (fun _ _ _=>trivial)
 have hk3:Own.Du w2 kv [⟨p1,1⟩]:=hk2.mono (fun _ _ _=>trivial)
 obtain⟨sa,sc,rfl⟩:=hs3.len
 obtain⟨ka,kc,hkv⟩:=hk3.len
 have hkv:kv=.slice ka 1 kc:=hkv
 subst hkv
 have hb3:Below w2.heap.size w2 (w2.alloc (.cells #[.int .i64 1,.slice sa S1.length sc,.slice ka 1 kc] 25)):=zb
 have B3:=zh (hb2'.trans (hb3.mono hb2'.size));have S3:=zh (hs3.below hb3);have K3:=zh (hk3.below hb3)
 have T3:=zh (At.new w2 25 #[.int .i64 1,.slice sa S1.length sc,.slice ka 1 kc])
 have hwb:w.heap.size<=w2.heap.size:=hb2'.size
 clear hs2 hk2 hb2 hb2' hs3 hk3 hb3 B1 T1 HCL
 go_wp2_with fail
 generalize w2.alloc (.cells #[.int .i64 1,.slice sa S1.length sc,.slice ka 1 kc] 25)=w3 at*
 obtain⟨b,hb⟩:∃ b,b=w2.heap.size:=⟨_,rfl⟩
 rw[<- hb] at T3 hwb ⊢
 clear hb
 refine(HVL.out _ _ w3 B3.out S3.out K3.out).mono ?_
 rintro e w4 ⟨rfl,hb4⟩
 have B4:=zh (B3.out.trans (hb4.mono B3.out.size));have S4:=zh (S3.out.below hb4);have K4:=zh (K3.out.below hb4);have T4:=zh (T3.out.below hb4 T3.out.lt)
 clear hb4 B3 S3 K3 T3 HVL
 obtain⟨gk,ok,ha,_,e0,e1⟩:=Own.Du.cells K4.out (i:=0) (by simp)
 subst ha
 have e1:w4.cell? ⟨gk,ok+1,none⟩=some (.int .i64 1):=by simpa using e1
 clear e0
 obtain⟨c0,c1,c2⟩:=T4.out.c3
 go_wp2_with fail
 clear e1
 have Y0:=zh (zi c0)
 have u7:b<w4.heap.size:=T4.out.lt
 refine Lex.EU (fun k=>k=b) [0] [1,4,6] 7 [.pure 1,.new,.call,.pure 1,.new,.call,.new] [] (by kernel_rfl) (by kernel_rfl) (by kernel_rfl) ?_
 simp only[Lex.Iw,Lex.Bp,zd]
 have bd:Below w4.heap.size w4 w4.drew:=(Below.refl _ _).drew
 have BD:=zh bd
 have ZD:=zh (show w4.drew.heap.size=w4.heap.size by rw[Ez])
 clear bd
 go_wp2
 refine Lex.Oy.intro ?_
 intro w5 hw5
 go_wp2
 refine Lex.OA.intro (fun w6 hg6 hk6 ho6=>?_)
 have hs6:=hk6.at_
 have hl5:w4.heap.size<=w5.heap.size:=by rw[<- ZD.out];exact hw5
 obtain⟨g6,hg⟩:∃ g,g=w5.heap.size:=⟨_,rfl⟩
 rw[World.size_alloc]
 rw[<- hg] at hs6 hl5 ⊢
 have X6:=zh (BD.out.trans (hg6.mono BD.out.size));have P6:=zh hs6
 clear hg6 hk6 ho6 hs6 hg hw5
 intro w7 hg7
 have X7:=zh (X6.out.trans (hg7.mono X6.out.size));have P7:=zh (P6.out.below hg7 P6.out.lt)
 clear hg7 X6 P6
 go_wp2_with fail
 refine(HMB.out g6 w7 P7.out).mono ?_
 rintro e w8 ⟨mv,rfl,hm8,hb8⟩
 obtain⟨ma,mn,mc,rfl⟩:=Ac hm8
 obtain rfl:=Ba hm8
 have X8:=zh (X7.out.trans (hb8.mono X7.out.size));have BB8:=zh hb8
 have zL:Own.Af w8 (.slice ma 1 mc) M2:=Own.Af.of (Bc.own hm8) HML.out.symm
 have M8:=zh zL;have R8:=zh hm8;have HLT:=zh (fun k (hk:(Value.slice ma 1 mc).ownBlock=some k)=>(show w7.heap.size<=k/\k<w8.heap.size from⟨Ak hm8 k hk,Own.IZ hm8 k hk⟩))
 have hz7:w4.heap.size<=w7.heap.size:=X7.out.size
 clear hm8 hb8 zL X7 P7 HMB
 go_wp2
 refine Lex.Ug.intro (fun j hj hjl=>by rw[hj];exact X8.out.block _ u7) (Lex.Kept.of_below BB8.out) ?_
 go_wp2
 refine Lex.Oy.intro ?_
 intro w9 hw9
 go_wp2
 refine Lex.OA.intro (fun w10 qB hk10 zbc=>?_)
 have jy:=hk10.at_
 have hl9:w4.heap.size<=w9.heap.size:=by rw[<- ZD.out];exact hw9
 obtain⟨g10,hg⟩:∃ g,g=w9.heap.size:=⟨_,rfl⟩
 rw[World.size_alloc]
 rw[<- hg] at jy hl9 ⊢
 have X10:=zh (X8.out.trans (qB.mono X8.out.size));have P10:=zh jy;have M10:=zh (M8.out.below qB);have R10:=zh (own_below R8.out qB)
 clear qB hk10 zbc jy hg hw9 X8 M8 BB8 R8
 intro w11 Sj
 have X11:=zh (X10.out.trans (Sj.mono X10.out.size));have P11:=zh (P10.out.below Sj P10.out.lt);have M11:=zh (M10.out.below Sj);have R11:=zh (own_below R10.out Sj)
 have B11:=zh (B4.out.trans (X11.out.mono B4.out.size))
 clear Sj X10 P10 M10 R10
 go_wp2_with fail
 refine(HSG.out (.slice sa S1.length sc) (.slice (some ⟨gk,ok,none⟩) 1 kc) (.slice ma 1 mc) g10 w11 B11.out ⟨_,_,_,rfl⟩ ⟨_,_,_,rfl⟩ M11.out P11.out).mono ?_
 rintro e w12 ⟨av,rfl,uD,qC⟩
 obtain⟨aa,ac,hav⟩:=uD.len
 rw[HAL.out] at hav
 subst hav
 have X12:=zh (X11.out.trans (qC.mono X11.out.size));have zM:=zh qC;have R12:=zh (own_below R11.out qC);have A12:=zh uD
 have oW:w4.heap.size<=w11.heap.size:=X11.out.size
 clear uD qC X11 P11 M11 HSG B11 R11
 go_wp2
 refine Lex.Ug.intro (fun j hj hjl=>by rw[hj];exact X12.out.block _ u7) (Lex.Kept.of_below zM.out) ?_
 intro w13 zN
 go_wp2
 refine Lex.OA.intro (fun w14 qD zO uE=>?_)
 have uF:=zO.at_
 have zQ:w4.heap.size<=w13.heap.size:=by rw[<- ZD.out];exact zN
 obtain⟨q,hq⟩:∃ g,g=w13.heap.size:=⟨_,rfl⟩
 rw[<- hq] at uF zQ ⊢
 have X14:=zh (X12.out.trans (qD.mono X12.out.size));have Q14:=zh uF;have R14:=zh (own_below R12.out qD)
 have o1:=uE (w11.heap.size,w12.heap.size) (by simp)
 have o2:=uE (w7.heap.size,w8.heap.size) (by simp)
 rw[World.size_alloc,<- hq] at o1 o2
 dsimp only at o1 o2
 have G14:=zh qD;have OF1:=zh o1;have OF2:=zh o2
 clear uE zO uF qD o1 o2 hq zN X12 zM R12
 have s0:=Q14.out.cell 0;have s1:=Q14.out.cell 1;have s2:=Q14.out.cell 2;have s3:=Q14.out.cell 3;have s4:=Q14.out.cell 4;have s5:=Q14.out.cell 5;have s6:=Q14.out.cell 6
 have t0:=Q14.out.free 0;have t1:=Q14.out.free 1;have t2:=Q14.out.free 2;have t3:=Q14.out.free 3;have t4:=Q14.out.free 4;have t5:=Q14.out.free 5;have t6:=Q14.out.free 6
 simp only[zg] at s0 s1 s2 s3 s4 s5 s6
 go_wp2
 refine Lex.zk ⟨⟨rfl,Y0.out⟩,trivial⟩ ?_
 have Ip:∀ k,k≠q->(((((((w14.setCell ⟨q,0,none⟩ (.int .i64 2)).setCell ⟨q,1,none⟩ (.string ⟨#[97,47,98]⟩)).setCell ⟨q,2,none⟩ (.slice ma 1 mc)).setCell ⟨q,3,none⟩ (.int .i64 1)).setCell ⟨q,4,none⟩ (.string ⟨#[]⟩)).setCell ⟨q,5,none⟩ (.string ⟨#[]⟩)).setCell ⟨q,6,none⟩ (.slice aa 1 ac)).heap[k]? = w14.heap[k]? :=fun k hk=>Nv hk _ _ _ _ _ _ _
 have hsz:(((((((w14.setCell ⟨q,0,none⟩ (.int .i64 2)).setCell ⟨q,1,none⟩ (.string ⟨#[97,47,98]⟩)).setCell ⟨q,2,none⟩ (.slice ma 1 mc)).setCell ⟨q,3,none⟩ (.int .i64 1)).setCell ⟨q,4,none⟩ (.string ⟨#[]⟩)).setCell ⟨q,5,none⟩ (.string ⟨#[]⟩)).setCell ⟨q,6,none⟩ (.slice aa 1 ac)).heap.size=w14.heap.size:=zbC (b:=q) _ _ _ _ _ _ _
 have X15:=zh (show Below w4.heap.size w4 (((((((w14.setCell ⟨q,0,none⟩ (.int .i64 2)).setCell ⟨q,1,none⟩ (.string ⟨#[97,47,98]⟩)).setCell ⟨q,2,none⟩ (.slice ma 1 mc)).setCell ⟨q,3,none⟩ (.int .i64 1)).setCell ⟨q,4,none⟩ (.string ⟨#[]⟩)).setCell ⟨q,5,none⟩ (.string ⟨#[]⟩)).setCell ⟨q,6,none⟩ (.slice aa 1 ac)) from WY X14.out zQ _ _ _ _ _ _ _)
 have Q15:=zh (show At (((((((w14.setCell ⟨q,0,none⟩ (.int .i64 2)).setCell ⟨q,1,none⟩ (.string ⟨#[97,47,98]⟩)).setCell ⟨q,2,none⟩ (.slice ma 1 mc)).setCell ⟨q,3,none⟩ (.int .i64 1)).setCell ⟨q,4,none⟩ (.string ⟨#[]⟩)).setCell ⟨q,5,none⟩ (.string ⟨#[]⟩)).setCell ⟨q,6,none⟩ (.slice aa 1 ac)) q 29 #[.int .i64 2,.string ⟨#[97,47,98]⟩,.slice ma 1 mc,.int .i64 1,.string ⟨#[]⟩,.string ⟨#[]⟩,.slice aa 1 ac] from At.Qc Q14.out _ _ _ _ _ _ _)
 have R15:=zh (Ae (w':=((((((w14.setCell ⟨q,0,none⟩ (.int .i64 2)).setCell ⟨q,1,none⟩ (.string ⟨#[97,47,98]⟩)).setCell ⟨q,2,none⟩ (.slice ma 1 mc)).setCell ⟨q,3,none⟩ (.int .i64 1)).setCell ⟨q,4,none⟩ (.string ⟨#[]⟩)).setCell ⟨q,5,none⟩ (.string ⟨#[]⟩)).setCell ⟨q,6,none⟩ (.slice aa 1 ac)) R14.out (fun k hk=>Ip k (by have h1:=HLT.out k hk;have h2:=OF2.out;omega)))
 have A15:=zh (A12.out.keep (w':=((((((w14.setCell ⟨q,0,none⟩ (.int .i64 2)).setCell ⟨q,1,none⟩ (.string ⟨#[97,47,98]⟩)).setCell ⟨q,2,none⟩ (.slice ma 1 mc)).setCell ⟨q,3,none⟩ (.int .i64 1)).setCell ⟨q,4,none⟩ (.string ⟨#[]⟩)).setCell ⟨q,5,none⟩ (.string ⟨#[]⟩)).setCell ⟨q,6,none⟩ (.slice aa 1 ac)) (by rw[hsz];exact G14.out.size) (fun k h1 h2=>(Ip k (by have h3:=OF1.out;omega)).trans (G14.out.block k h2)))
 clear Ip hsz X14 Q14 R14 A12 G14 OF1 OF2 HLT s0 s1 s2 s3 s4 s5 s6 t0 t1 t2 t3 t4 t5 t6 Y0 BD ZD hl5 hl9 c0 c1 c2
 generalize ((((((w14.setCell ⟨q,0,none⟩ (.int .i64 2)).setCell ⟨q,1,none⟩ (.string ⟨#[97,47,98]⟩)).setCell ⟨q,2,none⟩ (.slice ma 1 mc)).setCell ⟨q,3,none⟩ (.int .i64 1)).setCell ⟨q,4,none⟩ (.string ⟨#[]⟩)).setCell ⟨q,5,none⟩ (.string ⟨#[]⟩)).setCell ⟨q,6,none⟩ (.slice aa 1 ac)=w15 at*
 have B15:=zh (B4.out.trans (X15.out.mono B4.out.size));have S15:=zh (S4.out.below X15.out);have K15:=zh (K4.out.below X15.out);have T15:=zh (T4.out.below X15.out u7)
 have hbq:b≠q:=T15.out.ne Q15.out (by decide)
 have M15:=zh (show Own.Af w15 (.slice ma 1 mc) M2 from Own.Af.of (Bc.own R15.out) HML.out.symm)
 clear X15 S4 K4 T4 B4
 have c0:=T15.out.cell 0;have c1:=T15.out.cell 1;have c2:=T15.out.cell 2
 have s0:=Q15.out.cell 0;have s1:=Q15.out.cell 1;have s2:=Q15.out.cell 2;have s3:=Q15.out.cell 3;have s4:=Q15.out.cell 4;have s5:=Q15.out.cell 5;have s6:=Q15.out.cell 6
 simp only[zg] at s0 s1 s2 s3 s4 s5 s6 c0 c1 c2
 go_wp2_with fail
 refine(HAP.out _ _ _ _ w15 B15.out S15.out K15.out M15.out A15.out.mG.out).mono ?_
 intro e w16 hp
 obtain⟨sv2,kv2,rfl,hs2,hk2,jG⟩:=hp.val
 have T16:=zh (T15.out.below jG T15.out.lt);have Q16:=zh (Q15.out.below jG Q15.out.lt);have R16:=zh (own_below R15.out jG);have A16:=zh (A15.out.below jG);have B16:=zh (B15.out.trans (jG.mono B15.out.size))
 have Tn:b<w15.heap.size:=T15.out.lt
 obtain⟨sb,sd,rfl⟩:=hs2.len
 obtain⟨kb,kd,rfl⟩:=hk2.len
 have S16:=zh hs2;have K16:=zh hk2
 obtain⟨c2n,S2,K2⟩:=o2
 dsimp only at S16 K16
 dsimp only
 clear hp hs2 hk2 jG T15 Q15 R15 A15 B15 S15 K15 M15 HAP s0 s1 s2 s3 s4 s5 s6 c0 c1 c2
 have c0:=T16.out.cell 0;have c1:=T16.out.cell 1;have c2:=T16.out.cell 2;have c0f:=T16.out.free 0;have c1f:=T16.out.free 1;have c2f:=T16.out.free 2
 simp only[zg] at c0 c1 c2
 go_upto_region 6 with fail
 have Ip:∀ k,k≠b->(((w16.setCell ⟨b,0,none⟩ (.int .i64 c2n)).setCell ⟨b,1,none⟩ (.slice sb S2.length sd)).setCell ⟨b,2,none⟩ (.slice kb K2.length kd)).heap[k]? = w16.heap[k]? :=fun k hk=>by rw[zo hk,zo hk,zo hk]
 have hsz:(((w16.setCell ⟨b,0,none⟩ (.int .i64 c2n)).setCell ⟨b,1,none⟩ (.slice sb S2.length sd)).setCell ⟨b,2,none⟩ (.slice kb K2.length kd)).heap.size=w16.heap.size:=by simp[World.setCell]
 have ht:=((T16.out.set 0 (.int .i64 c2n)).set 1 (.slice sb S2.length sd)).set 2 (.slice kb K2.length kd)
 simp only[List.setIfInBounds_toArray,List.set_cons_zero,List.set_cons_succ] at ht
 have T17:=zh ht
 have Q17:=zh (Q16.out.keep (Ip q hbq.symm))
 have R17:=zh (Ae R16.out (fun k hk=>Ip k (by have:=Ak R16.out k hk;omega)))
 have A17:=zh (A16.out.keep (Nat.le_of_eq hsz.symm) (fun k hk _=>Ip k (by omega)))
 have S17:=zh (((S16.out.keep (Nat.le_of_eq hsz.symm) (fun k hk _=>Ip k (by omega)))).mono (G:=Own.aP) (fun _ _ _=>trivial))
 have K17:=zh (((K16.out.keep (Nat.le_of_eq hsz.symm) (fun k hk _=>Ip k (by omega)))).mono (G:=Own.aP) (fun _ _ _=>trivial))
 have B17:=zh (((B16.out.setCell (p:=⟨b,0,none⟩) hwb (.int .i64 c2n)).setCell (p:=⟨b,1,none⟩) hwb (.slice sb S2.length sd)).setCell (p:=⟨b,2,none⟩) hwb (.slice kb K2.length kd))
 clear Ip hsz ht T16 Q16 R16 A16 S16 K16 B16 c0 c1 c2 c0f c1f c2f Tn
 generalize ((w16.setCell ⟨b,0,none⟩ (.int .i64 c2n)).setCell ⟨b,1,none⟩ (.slice sb S2.length sd)).setCell ⟨b,2,none⟩ (.slice kb K2.length kd)=w17 at*
 obtain⟨c0,c1,c2⟩:=T17.out.c3
 go_wp2_with fail
 refine(HA1.out _ _ w17 B17.out S17.out K17.out).mono ?_
 rintro e w18 ⟨hp,hb⟩
 obtain⟨v',rfl,hrow⟩:=hp
 obtain⟨x1a,x1n,x1c,rfl⟩:=Ac hrow
 clear hrow c0 c1 c2
 have T18:=zh (T17.out.below hb T17.out.lt);have Q18:=zh (Q17.out.below hb Q17.out.lt);have R18:=zh (own_below R17.out hb);have A18:=zh (A17.out.below hb);have S18:=zh (S17.out.below hb);have K18:=zh (K17.out.below hb);have B18:=zh (B17.out.trans ((hb).mono B17.out.size))
 clear T17 Q17 R17 A17 S17 K17 B17
 clear hb
 go_upto_region 7 with fail
 have hb:Below w18.heap.size w18 (w18.alloc (.cells #[.string ⟨#[97,47,98]⟩,.slice x1a x1n x1c,.int .i64 xt] 39)):=zb
 have qE:=zh (At.new w18 39 #[.string ⟨#[97,47,98]⟩,.slice x1a x1n x1c,.int .i64 xt])
 have T19:=zh (T18.out.below hb T18.out.lt);have Q19:=zh (Q18.out.below hb Q18.out.lt);have R19:=zh (own_below R18.out hb);have A19:=zh (A18.out.below hb);have S19:=zh (S18.out.below hb);have K19:=zh (K18.out.below hb);have B19:=zh (B18.out.trans ((hb).mono B18.out.size))
 clear T18 Q18 R18 A18 S18 K18 B18
 clear hb
 generalize w18.alloc (.cells #[.string ⟨#[97,47,98]⟩,.slice x1a x1n x1c,.int .i64 xt] 39)=w19 at*
 obtain⟨bx,hbx⟩:∃ g,g=w18.heap.size:=⟨_,rfl⟩
 rw[<- hbx] at qE ⊢
 clear hbx
 obtain⟨c0,c1,c2⟩:=T19.out.c3
 go_wp2_with fail
 refine(HA2.out _ _ w19 B19.out S19.out K19.out).mono ?_
 rintro e w20 ⟨hp,hb⟩
 obtain⟨v',rfl,hrow⟩:=hp
 obtain⟨x2a,x2n,x2c,rfl⟩:=Ac hrow
 clear hrow c0 c1 c2
 have T20:=zh (T19.out.below hb T19.out.lt);have Q20:=zh (Q19.out.below hb Q19.out.lt);have R20:=zh (own_below R19.out hb);have A20:=zh (A19.out.below hb);have S20:=zh (S19.out.below hb);have K20:=zh (K19.out.below hb);have B20:=zh (B19.out.trans ((hb).mono B19.out.size))
 clear T19 Q19 R19 A19 S19 K19 B19
 have uG:=zh (qE.out.below hb qE.out.lt)
 clear hb qE
 go_upto_region 8 with fail
 have hb:Below w20.heap.size w20 (w20.alloc (.cells #[.string ⟨#[97]⟩,.slice x2a x2n x2c,.int .i64 yt] 39)):=zb
 have qF:=zh (At.new w20 39 #[.string ⟨#[97]⟩,.slice x2a x2n x2c,.int .i64 yt])
 have uH:=zh (uG.out.below hb uG.out.lt)
 have T21:=zh (T20.out.below hb T20.out.lt);have Q21:=zh (Q20.out.below hb Q20.out.lt);have R21:=zh (own_below R20.out hb);have A21:=zh (A20.out.below hb);have S21:=zh (S20.out.below hb);have K21:=zh (K20.out.below hb);have B21:=zh (B20.out.trans ((hb).mono B20.out.size))
 clear T20 Q20 R20 A20 S20 K20 B20
 clear hb uG
 generalize w20.alloc (.cells #[.string ⟨#[97]⟩,.slice x2a x2n x2c,.int .i64 yt] 39)=w21 at*
 obtain⟨by_,hby⟩:∃ g,g=w20.heap.size:=⟨_,rfl⟩
 rw[<- hby] at qF ⊢
 clear hby
 obtain⟨c0,c1,c2⟩:=T21.out.c3
 go_wp2_with fail
 refine(HA3.out _ _ w21 B21.out S21.out K21.out).mono ?_
 rintro e w22 ⟨hp,hb⟩
 have hp:e=.returned (.tuple #[.agg #[.string ⟨#[]⟩,.slice none 0 0,.int .i64 0],.bool false]):=hp
 subst hp
 clear c0 c1 c2
 have uJ:=zh (uH.out.below hb uH.out.lt);have uK:=zh (qF.out.below hb qF.out.lt)
 have T22:=zh (T21.out.below hb T21.out.lt);have Q22:=zh (Q21.out.below hb Q21.out.lt);have R22:=zh (own_below R21.out hb);have A22:=zh (A21.out.below hb);have S22:=zh (S21.out.below hb);have K22:=zh (K21.out.below hb);have B22:=zh (B21.out.trans ((hb).mono B21.out.size))
 clear T21 Q21 R21 A21 S21 K21 B21
 clear hb uH qF
 go_upto_region 9 with fail
 have hb:Below w22.heap.size w22 (w22.alloc (.cells #[.string ⟨#[]⟩,.slice none 0 0,.int .i64 0] 39)):=zb
 have uL:=zh (uJ.out.below hb uJ.out.lt);have uM:=zh (uK.out.below hb uK.out.lt)
 have T23:=zh (T22.out.below hb T22.out.lt);have Q23:=zh (Q22.out.below hb Q22.out.lt);have R23:=zh (own_below R22.out hb);have A23:=zh (A22.out.below hb);have S23:=zh (S22.out.below hb);have K23:=zh (K22.out.below hb);have B23:=zh (B22.out.trans ((hb).mono B22.out.size))
 clear T22 Q22 R22 A22 S22 K22 B22
 clear hb uJ uK
 generalize w22.alloc (.cells #[.string ⟨#[]⟩,.slice none 0 0,.int .i64 0] 39)=w23 at*
 have s0:=Q23.out.cell 0;have s1:=Q23.out.cell 1;have s2:=Q23.out.cell 2;have s3:=Q23.out.cell 3;have s4:=Q23.out.cell 4;have s5:=Q23.out.cell 5;have s6:=Q23.out.cell 6
 simp only[zg] at s0 s1 s2 s3 s4 s5 s6
 go_wp2_with fail
 have M23:Own.Af w23 (.slice ma 1 mc) M2:=Own.Af.of (Bc.own R23.out) HML.out.symm
 refine(HEN.out _ _ w23 B23.out M23 A23.out.mG.out).mono ?_
 rintro e w24 ⟨rfl,hb⟩
 have uN:=zh (uL.out.below hb uL.out.lt);have uO:=zh (uM.out.below hb uM.out.lt)
 clear M23 s0 s1 s2 s3 s4 s5 s6
 have T24:=zh (T23.out.below hb T23.out.lt);have Q24:=zh (Q23.out.below hb Q23.out.lt);have R24:=zh (own_below R23.out hb);have A24:=zh (A23.out.below hb);have S24:=zh (S23.out.below hb);have K24:=zh (K23.out.below hb);have B24:=zh (B23.out.trans ((hb).mono B23.out.size))
 clear T23 Q23 R23 A23 S23 K23 B23
 clear hb uL uM
 go_wp2_with fail
 refine(HDE.out w24 B24.out).mono ?_
 rintro e w25 ⟨⟨mv2,av2,rfl,hm2,ha2⟩,hb⟩
 obtain⟨na,nc,hmv⟩:=hm2.len
 have hmv:mv2=.slice na M2.length nc:=hmv
 subst hmv
 obtain⟨da,dc,hav⟩:=ha2.len
 have hav:av2=.slice da aps.length dc:=hav
 subst hav
 have M25:=zh (show Own.Af w25 (.slice na M2.length nc) M2 from hm2.mono (fun _ _ _=>trivial));have D25:=zh (show Own.Hq w25 (.slice da aps.length dc) aps from(Own.eH ha2).out)
 have uP:=zh (uN.out.below hb uN.out.lt);have uQ:=zh (uO.out.below hb uO.out.lt)
 clear hm2 ha2
 have T25:=zh (T24.out.below hb T24.out.lt);have Q25:=zh (Q24.out.below hb Q24.out.lt);have R25:=zh (own_below R24.out hb);have A25:=zh (A24.out.below hb);have S25:=zh (S24.out.below hb);have K25:=zh (K24.out.below hb);have B25:=zh (B24.out.trans ((hb).mono B24.out.size))
 clear T24 Q24 R24 A24 S24 K24 B24
 clear hb uN uO
 unfold Own.opV
 dsimp only
 go_upto_region 11 with fail
 have hb:Below w25.heap.size w25 (w25.alloc (.cells #[.int .i64 2,.string ⟨#[97,47,98]⟩,.slice na M2.length nc,.int .i64 1,.string ⟨#[]⟩,.string ⟨#[]⟩,.slice da aps.length dc] 29)):=zb
 have ZB:=zh (At.new w25 29 #[.int .i64 2,.string ⟨#[97,47,98]⟩,.slice na M2.length nc,.int .i64 1,.string ⟨#[]⟩,.string ⟨#[]⟩,.slice da aps.length dc])
 have XB:=zh (uP.out.below hb uP.out.lt);have YB:=zh (uQ.out.below hb uQ.out.lt)
 have M26:=zh (M25.out.below hb);have D26:=zh (D25.out.below hb)
 have T26:=zh (T25.out.below hb T25.out.lt);have Q26:=zh (Q25.out.below hb Q25.out.lt);have R26:=zh (own_below R25.out hb);have A26:=zh (A25.out.below hb);have S26:=zh (S25.out.below hb);have K26:=zh (K25.out.below hb);have B26:=zh (B25.out.trans ((hb).mono B25.out.size))
 clear T25 Q25 R25 A25 S25 K25 B25
 clear hb uP uQ M25 D25
 generalize w25.alloc (.cells #[.int .i64 2,.string ⟨#[97,47,98]⟩,.slice na M2.length nc,.int .i64 1,.string ⟨#[]⟩,.string ⟨#[]⟩,.slice da aps.length dc] 29)=w26 at*
 obtain⟨bz,hbz⟩:∃ g,g=w25.heap.size:=⟨_,rfl⟩
 rw[<- hbz] at ZB ⊢
 clear hbz
 have s0:=Q26.out.cell 0;have s1:=Q26.out.cell 1;have s2:=Q26.out.cell 2;have s3:=Q26.out.cell 3;have s4:=Q26.out.cell 4;have s5:=Q26.out.cell 5;have s6:=Q26.out.cell 6
 simp only[zg] at s0 s1 s2 s3 s4 s5 s6
 have x0:=XB.out.cell 0;have y0:=YB.out.cell 0
 have z0:=ZB.out.cell 0;have z1:=ZB.out.cell 1;have z2:=ZB.out.cell 2;have z3:=ZB.out.cell 3;have z4:=ZB.out.cell 4;have z5:=ZB.out.cell 5;have z6:=ZB.out.cell 6
 simp only[zg] at x0 y0 z0 z1 z2 z3 z4 z5 z6
 have MQ:Own.Af w26 (.slice ma 1 mc) M2:=Own.Af.of (Bc.own R26.out) HML.out.symm
 have hso:=HSO.out (.slice na M2.length nc) (.slice da aps.length dc) (.slice ma 1 mc) (.slice aa 1 ac) w26 M26.out MQ D26.out A26.out.mG.out
 have HS:=zh hso
 clear hso MQ
 go_wp2_with fail
 refine HS.out.mono ?_
 rintro e w27 ⟨rfl,hb⟩
 have B27:=zh (B26.out.trans (hb.mono B26.out.size))
 clear hb
 go_wp2
 go_ret
 exact⟨rfl,B27.out⟩
theorem uZ (v:Value)(s:Own.Space)(w:World)(h:Own.Af w v s.members)(hl:s.members.length<=140737488355328)(hp:s.pre.size<=140737488355328):
 Calls Tryz.prog 74 #[.agg #[.string s.pre,v,.int .i64 s.threshold]] w fun e w' => e=.returned (.bool (Own.AX s))/\Below w.heap.size w w':=by
 obtain⟨R,hR⟩:∃ R,R=Own.AX s:=⟨_,rfl⟩
 rw[<- hR]
 unfold Own.AX at hR
 obtain⟨a,c,rfl⟩:=h.len
 have F1:=zh (show Au w _ [(39,#[.string s.pre,.slice a s.members.length c,.int .i64 s.threshold])] from((CY.nil w).push 39 #[.string s.pre,.slice a s.members.length c,.int .i64 s.threshold]).boxes)
 have HR:=zh hR;have HL:=zh h
 clear hR h
 have x00:(w.alloc (.cells #[.string s.pre,.slice a s.members.length c,.int .i64 s.threshold] 39)).cell? ⟨w.heap.size,0,none⟩=some (.string s.pre):=F1.out.cell 0 0 rfl rfl
 have x01:(w.alloc (.cells #[.string s.pre,.slice a s.members.length c,.int .i64 s.threshold] 39)).cell? ⟨w.heap.size,1,none⟩=some (.slice a s.members.length c):=F1.out.cell 0 1 rfl rfl
 have x02:(w.alloc (.cells #[.string s.pre,.slice a s.members.length c,.int .i64 s.threshold] 39)).cell? ⟨w.heap.size,2,none⟩=some (.int .i64 s.threshold):=F1.out.cell 0 2 rfl rfl
 go_enter Tryz.func74,Tryz.ntmps74
 go_wp2_with fail
 generalize w.alloc (.cells #[.string s.pre,.slice a s.members.length c,.int .i64 s.threshold] 39)=w1 at*
 refine(VG s.pre w1 (by omega)).mono ?_
 rintro e w2 ⟨rfl,rfl⟩
 cases hp:Own.BI s.pre with
 | false =>
   have e:R=false:=by rw[HR.out,hp];rfl
   have HE:=zh e;clear e
   go_wp2
   go_ret
   exact⟨by rw[HE.out];rfl,F1.out.under⟩
 | true=>
 go_wp2_with fail
 refine(Ko _ s.members w2 (HL.out.below F1.out.under) hl).mono ?_
 rintro e w3 ⟨rfl,hb3⟩
 have F3:=zh (F1.out.step hb3)
 clear hb3
 (try clear x00);(try clear x01);(try clear x02)
 obtain⟨x00,x01,x02⟩:=F3.out.Fw rfl
 cases hm:Own.Co s.members with
 | false =>
   have e:R=false:=by rw[HR.out,hm];simp
   have HE:=zh e;clear e
   go_wp2
   go_ret
   exact⟨by rw[HE.out];rfl,F3.out.under⟩
 | true=>
 have e:R=(decide (1<=s.threshold)&&decide (s.threshold<=s.members.length)):=by rw[HR.out,hp,hm];simp
 have HE:=zh e;clear e
 by_cases h1:1<=s.threshold
 ·have d1:decide (1<=s.threshold)=true:=decide_eq_true h1
  have e:R=decide (s.threshold<=s.members.length):=by rw[HE.out,d1];rfl
  have HE2:=zh e;clear e
  go_wp2
  go_ret
  exact⟨by rw[HE2.out];rfl,F3.out.under⟩
 ·have d1:decide (1<=s.threshold)=false:=decide_eq_false h1
  have e:R=false:=by rw[HE.out,d1];rfl
  have HE2:=zh e;clear e
  go_wp2
  go_ret
  exact⟨by rw[HE2.out];rfl,F3.out.under⟩
theorem Rb (o:Own.Ao)(sv kv:Value)(w:World)(hS:Own.BF w sv o.spaces)(hK:Own.Du w kv o.keys)(hls:o.spaces.length<=140737488355328)(hlk:o.keys.length<=140737488355328)(hlm:∀ s∈o.spaces,s.members.length<=140737488355328/\s.pre.size<=140737488355328):
 Calls Tryz.prog 21 #[.agg #[.int .i64 o.count,sv,kv]] w fun e w' => e=.returned (.bool (Own.Bv o))/\Below w.heap.size w w':=by
 obtain⟨R,hR⟩:∃ R,R=Own.Bv o:=⟨_,rfl⟩
 rw[<- hR]
 unfold Own.Bv Own.late at hR
 obtain⟨sa,sc,rfl⟩:=hS.len
 obtain⟨ka,kc,rfl⟩:=hK.len
 obtain⟨cnt,S,K⟩:=o
 dsimp only at*
 have ha:=At.new w 25 #[.int .i64 cnt,.slice sa S.length sc,.slice ka K.length kc]
 have hb1:Below w.heap.size w (w.alloc (.cells #[.int .i64 cnt,.slice sa S.length sc,.slice ka K.length kc] 25)):=zb
 have HR:=zh hR;have HS:=zh (hS.below hb1);have HK:=zh (hK.below hb1);have HB:=zh hb1;have HA:=zh ha;have HLM:=zh hlm
 have c0:=ha.cell 0;have c1:=ha.cell 1;have c2:=ha.cell 2
 simp only[zg] at c0 c1 c2
 clear hR hS hK ha hb1 hlm
 go_enter Tryz.func21,Tryz.ntmps21
 by_cases h1:0<=cnt
 case neg=>
  have d1:decide (cnt<0)=true:=zt
  have e:R=false:=by rw[HR.out,decide_eq_false h1];rfl
  have HE:=zh e;clear e
  go_wp2
  go_ret
  exact⟨by rw[HE.out];rfl,HB.out⟩
 have d1:decide (cnt<0)=false:=zf
 by_cases h2:cnt<=1099511627776
 case neg=>
  have d2:decide (1099511627776<cnt)=true:=zt
  have e:R=false:=by rw[HR.out,decide_eq_false h2];simp
  have HE:=zh e;clear e
  go_wp2
  go_ret
  exact⟨by rw[HE.out];rfl,HB.out⟩
 have d2:decide (1099511627776<cnt)=false:=zf
 by_cases h3:S.length<=64
 case neg=>
  have d3:decide ((64:Int)<S.length)=true:=zt
  have e:R=false:=by rw[HR.out,decide_eq_false h3];simp
  have HE:=zh e;clear e
  go_wp2
  go_ret
  exact⟨by rw[HE.out];rfl,HB.out⟩
 have d3:decide ((64:Int)<S.length)=false:=zf
 have e:R=(Own.Ar Own.AX (fun x y=>Own.Aj x.pre y.pre) none S&&Own.Ar Own.Df (fun x y=>Own.Aj x.pub y.pub) none K):=by
  rw[HR.out,decide_eq_true h1,decide_eq_true h2,decide_eq_true h3];simp
 have HR2:=zh e;clear e HR
 go_wp2_with fail
 generalize w.alloc (.cells #[.int .i64 cnt,.slice sa S.length sc,.slice ka K.length kc] 25)=w1 at*
 clear d1 d2 d3 h1 h2
 go_loopw [3] (fun i wr=>∃ k:Nat,k<=S.length/\i=.int .i64 k/\Own.Ar Own.AX (fun x y=>Own.Aj x.pre y.pre) none (S.take k)=true/\Below w1.heap.size w1 wr) (fun i _=>S.length-(intOf i).toNat)
 case atStart=>exact⟨0,by omega,rfl,rfl,Below.refl _ _⟩
 case round=>
  obtain⟨k,hk,rfl,hok,hb⟩:=hrel
  have HOK:=zh hok;have HBW:=zh hb
  have hz1:=HA.out.lt
  have hbs:=hb.size
  have ha2:=HA.out.below hb hz1
  obtain⟨c0,c1,c2⟩:=ha2.c3
  clear ha2
  by_cases hlt:k<S.length
  case neg=>
   have hke:k=S.length:=by omega
   have dk:decide ((k:Int)<S.length)=false:=zf
   have e:R=Own.Ar Own.Df (fun x y=>Own.Aj x.pub y.pub) none K:=by
    rw[HR2.out]
    rw[hke,List.take_length] at hok
    rw[hok,Bool.true_and]
   have HR3:=zh e
   have HKW:=zh (HK.out.below hb)
   have HB2:=zh (HB.out.trans (hb.mono HB.out.size))
   have HA2:=zh (HA.out.below hb hz1)
   clear e hok hke hb HR2 HK HB HA HOK HBW HS
   go_wp2_with fail
   have hzw:w.heap.size<wr.heap.size:=by omega
   clear dk
   obtain⟨w5,hw5⟩:∃ w5,w5=wr:=⟨_,rfl⟩
   subst hw5
   go_loopw [4] (fun i wr=>∃ j:Nat,j<=K.length/\i=.int .i64 j/\Own.Ar Own.Df (fun x y=>Own.Aj x.pub y.pub) none (K.take j)=true/\Below w5.heap.size w5 wr) (fun i _=>K.length-(intOf i).toNat)
   case atStart=>exact⟨0,by omega,rfl,rfl,Below.refl _ _⟩
   case round=>
    obtain⟨j,hj,rfl,hok,hb⟩:=hrel
    have HBX:=zh hb
    have ha2:=HA2.out.below hb hzw
    obtain⟨c0,c1,c2⟩:=ha2.c3
    clear ha2
    by_cases hlt:j<K.length
    case neg=>
     have hje:j=K.length:=by omega
     have dk:decide ((j:Int)<K.length)=false:=zf
     have e:R=true:=by rw[HR3.out,<- hok,hje,List.take_length]
     have HE:=zh e;clear e hok hb hje
     go_wp2
     go_ret
     exact⟨by rw[HE.out];rfl,HB2.out.trans (HBX.out.mono HB2.out.size)⟩
    have dk:decide ((j:Int)<K.length)=true:=zt
    have hra:R=((Own.Df K[j]&&Own.ahead (fun x y=>Own.Aj x.pub y.pub) (K.take j).getLast? K[j])&&Own.Ar Own.Df (fun x y=>Own.Aj x.pub y.pub) (some K[j]) (K.drop (j+1))):=by rw[HR3.out,Own.RI _ _ K j hlt,hok,Bool.true_and]
    have htk:Own.Ar Own.Df (fun x y=>Own.Aj x.pub y.pub) none (K.take (j+1))=(Own.Df K[j]&&Own.ahead (fun x y=>Own.Aj x.pub y.pub) (K.take j).getLast? K[j]):=by rw[Own.Ni _ _ K j hlt,hok,Bool.true_and]
    have hlk:=HKW.out.below hb
    obtain⟨b,o,ha,hbl,e0,e1⟩:=Own.Du.cells hlk hlt
    have JL:∀ i,j=i+1->∃ x:Own.KeyUse,wr.cell? ⟨b,o+i*2,none⟩=some (.string x.pub)/\(K.take j).getLast? = some x:=by
     intro i hi
     obtain⟨b',o',ha',_,e0,_⟩:=Own.Du.cells hlk (i:=i) (by omega)
     rw[ha] at ha'
     cases ha'
     have hg:=Own.getLast_take K i (by omega)
     rw[<- hi] at hg
     exact⟨_,e0,hg⟩
    subst ha
    obtain⟨ku,hku⟩:∃ x,x=K[j]:=⟨_,rfl⟩
    rw[<- hku] at hra htk e0 e1
    obtain⟨rest,hrest⟩:∃ x,x=Own.Ar Own.Df (fun x y=>Own.Aj x.pub y.pub) (some ku) (K.drop (j+1)):=⟨_,rfl⟩
    rw[<- hrest] at hra
    obtain⟨pb,nx⟩:=ku
    have hkk:Own.Df ⟨pb,nx⟩=(Sig.Bn pb&&decide (0<=nx)&&decide (nx<=2^(pb.get! 32).toNat)):=rfl
    rw[hkk] at hra htk
    dsimp only at hra htk e0 e1
    have hb5:Below w5.heap.size w5 (wr.alloc (.cells #[.string pb,.int .i64 nx] 59)).drew:=(hb.alloc hb.size _).drew
    have ha5:=((HA2.out.below hb hzw).alloc (.cells #[.string pb,.int .i64 nx] 59)).drew
    have b2:=ha5.cell 2
    simp only[zg] at b2
    have RH:=zh JL;have HB5:=zh hb5
    clear hok hb hlk JL hb5 ha5 hrest hku hkk HKW
    cases hp:Sig.Bn pb with
    | false =>
      have e:R=false:=by rw[hra,hp];rfl
      have HE:=zh e;clear e hra htk
      go_wp2
      refine Lex.zl ?_
      go_wp2_with fail
      refine(Ea pb _).mono ?_
      rintro e2 w2 ⟨rfl,rfl⟩
      rw[hp]
      go_wp2
      refine Lex.ze ?_
      go_wp2
      go_ret
      exact⟨by rw[HE.out];rfl,HB2.out.trans (HB5.out.mono HB2.out.size)⟩
    | true=>
    rw[hp,Bool.true_and] at hra htk
    have h33:pb.size=33:=of_decide_eq_true (Bool.and_eq_true_iff.1 hp).1
    have h6:(pb.get! 32).toNat<=6:=of_decide_eq_true (Bool.and_eq_true_iff.1 hp).2
    have h32:32<pb.size:=by omega
    have hg:pb.get! 32=pb[32]:=getElem!_pos pb.data 32 h32
    rw[hg] at h6 hra htk
    obtain⟨N,hN⟩:∃ N:Nat,N=2^pb[32].toNat:=⟨_,rfl⟩
    have zah:N<=64:=by
     rw[hN]
     exact Nat.le_trans (Nat.pow_le_pow_right (by omega) h6) (by decide)
    have hNN:((2:Int)^pb[32].toNat)=(N:Int):=by rw[hN];exact(Int.natCast_pow 2 _).symm
    have hsh:wrap64 ((2:Int)^pb[32].toNat)=(N:Int):=by
     rw[hNN]
     unfold wrap64
     omega
    rw[hNN] at hra htk
    have H33:=zh h33;have HHP:=zh hp;have HSH:=zh hsh
    clear hN hNN hg h33 hp hsh
    have dsz:((pb.size:Int)==33)=true:=by rw[beq_iff_eq];have:=H33.out;omega
    by_cases n1:0<=nx
    case neg=>
     have dn1:decide (nx<0)=true:=zt
     have e:R=false:=by rw[hra,decide_eq_false n1];rfl
     have HE:=zh e;clear e hra htk
     go_wp2
     refine Lex.zl ?_
     go_wp2_with fail
     refine(Ea pb _).mono ?_
     rintro e2 w2 ⟨rfl,rfl⟩
     rw[HHP.out]
     go_wp2_with (rw[HSH.out])
     refine Lex.ze ?_
     go_wp2
     go_ret
     exact⟨by rw[HE.out];rfl,HB2.out.trans (HB5.out.mono HB2.out.size)⟩
    have dn1:decide (nx<0)=false:=zf
    rw[decide_eq_true n1,Bool.true_and] at hra htk
    by_cases n2:nx<=(N:Int)
    case neg=>
     have dn2:decide ((N:Int)<nx)=true:=zt
     have e:R=false:=by rw[hra,decide_eq_false n2];rfl
     have HE:=zh e;clear e hra htk n1 n2
     go_wp2
     refine Lex.zl ?_
     go_wp2_with fail
     refine(Ea pb _).mono ?_
     rintro e2 w2 ⟨rfl,rfl⟩
     rw[HHP.out]
     go_wp2_with (rw[HSH.out])
     refine Lex.ze ?_
     go_wp2
     go_ret
     exact⟨by rw[HE.out];rfl,HB2.out.trans (HB5.out.mono HB2.out.size)⟩
    have dn2:decide ((N:Int)<nx)=false:=zf
    rw[decide_eq_true n2,Bool.true_and] at hra htk
    rcases Nat.eq_zero_or_pos j with hj0|hjp
    ·have hl0:(K.take j).getLast? = none:=by rw[hj0];rfl
     rw[hl0] at htk
     have HT:=zh htk
     have HJ0:=zh hj0
     have dz:decide ((0:Int)<(j:Int))=false:=zf
     have dz' : decide (0<j)=false:=zf
     clear hl0 hra htk hj0
     go_wp2
     refine Lex.zl ?_
     go_wp2_with fail
     refine(Ea pb _).mono ?_
     rintro e2 w2 ⟨rfl,rfl⟩
     rw[HHP.out]
     go_wp2_with (rw[HSH.out])
     refine Lex.ze ?_
     go_wp2
     exact⟨⟨j+1,by omega,by go_num,HT.out,HB5.out⟩,by simp[intOf];omega⟩
    ·obtain⟨i,hi⟩:∃ i,j=i+1:=⟨j-1,by omega⟩
     obtain⟨x,f0,hx⟩:=RH.out i hi
     rw[hx] at hra htk
     have Ol:R=(Own.Aj x.pub pb&&rest):=hra
     have Nh:Own.Ar Own.Df (fun x y=>Own.Aj x.pub y.pub) none (K.take (j+1))=Own.Aj x.pub pb:=htk
     unfold Own.Aj at Ol
     have dz:decide ((0:Int)<(j:Int))=true:=zt
     have dz' : decide (0<j)=true:=zt
     have ek:(j:Int)-1=(i:Int):=by omega
     have hjl:i<K.length:=by omega
     have f1:(wr.alloc (.cells #[.string pb,.int .i64 nx] 59)).cell? ⟨b,o+i*2,none⟩=some (.string x.pub):=(((Below.refl wr.heap.size wr).alloc (Nat.le_refl _) _).cell (p:=⟨b,o+i*2,none⟩) hbl).trans f0
     cases hlb:Op.bytesLess x.pub.toList pb.toList with
     | false =>
       have e:R=false:=by rw[Ol,hlb];rfl
       have HE:=zh e;clear e hra htk Ol Nh hx f0 hi
       go_wp2
       refine Lex.zl ?_
       go_wp2_with fail
       refine(Ea pb _).mono ?_
       rintro e2 w2 ⟨rfl,rfl⟩
       rw[HHP.out]
       go_wp2_with (rw[HSH.out])
       refine Lex.ze ?_
       go_wp2
       go_ret
       exact⟨by rw[HE.out];rfl,HB2.out.trans (HB5.out.mono HB2.out.size)⟩
     | true =>
       have xu:Own.Ar Own.Df (fun x y=>Own.Aj x.pub y.pub) none (K.take (j+1))=true:=by rw[Nh];exact hlb
       have HT:=zh xu
       clear hra htk Ol Nh xu hx f0 hi
       go_wp2
       refine Lex.zl ?_
       go_wp2_with fail
       refine(Ea pb _).mono ?_
       rintro e2 w2 ⟨rfl,rfl⟩
       rw[HHP.out]
       go_wp2_with (rw[HSH.out])
       refine Lex.ze ?_
       go_wp2
       exact⟨⟨j+1,by omega,by go_num,HT.out,HB5.out⟩,by simp[intOf];omega⟩
  have dk:decide ((k:Int)<S.length)=true:=zt
  have hra:R=(((Own.AX S[k]&&Own.ahead (fun x y=>Own.Aj x.pre y.pre) (S.take k).getLast? S[k])&&Own.Ar Own.AX (fun x y=>Own.Aj x.pre y.pre) (some S[k]) (S.drop (k+1)))&&Own.Ar Own.Df (fun x y=>Own.Aj x.pub y.pub) none K):=by rw[HR2.out,Own.RI _ _ S k hlt,hok,Bool.true_and]
  have htk:Own.Ar Own.AX (fun x y=>Own.Aj x.pre y.pre) none (S.take (k+1))=(Own.AX S[k]&&Own.ahead (fun x y=>Own.Aj x.pre y.pre) (S.take k).getLast? S[k]):=by rw[Own.Ni _ _ S k hlt,hok,Bool.true_and]
  have hlk:=HS.out.below hb
  obtain⟨b,o,mv,ha,hbl,e0,e1,e2,hmv⟩:=Own.BF.cells hlk hlt
  have JL:∀ i,k=i+1->∃ x:Own.Space,wr.cell? ⟨b,o+i*3,none⟩=some (.string x.pre)/\(S.take k).getLast? = some x:=by
   intro i hi
   obtain⟨b',o',_,ha',_,e0,_⟩:=Own.BF.cells hlk (i:=i) (by omega)
   rw[ha] at ha'
   cases ha'
   have hg:=Own.getLast_take S i (by omega)
   rw[<- hi] at hg
   exact⟨_,e0,hg⟩
  subst ha
  have hml:=HLM.out S[k] (List.getElem_mem hlt)
  obtain⟨sp,hsp⟩:∃ x,x=S[k]:=⟨_,rfl⟩
  rw[<- hsp] at hra htk e0 e2 hmv hml
  obtain⟨rest,hrest⟩:∃ x,x=(Own.Ar Own.AX (fun x y=>Own.Aj x.pre y.pre) (some sp) (S.drop (k+1))&&Own.Ar Own.Df (fun x y=>Own.Aj x.pub y.pub) none K):=⟨_,rfl⟩
  rw[Bool.and_assoc,<- hrest] at hra
  obtain⟨ma,mc,rfl⟩:=hmv.len
  have RJ:Below wr.heap.size wr wr.drew:=(Below.refl _ _).drew
  have iQ:=uZ (.slice ma sp.members.length mc) sp wr.drew (hmv.below RJ) hml.1 hml.2
  have oP:=zh iQ;have RH:=zh JL;have iR:=zh RJ
  have hbr:=hb
  clear hok hb hlk JL RJ iQ hrest hsp hmv
  cases hs:Own.AX sp with
  | false =>
    have e:R=false:=by rw[hra,hs];rfl
    have HE:=zh e;clear e hra htk
    go_wp2
    refine Lex.zl ?_
    go_wp2_with fail
    refine oP.out.mono ?_
    rintro e2 w7 ⟨rfl,hb7⟩
    rw[hs]
    have HB7:=zh (HB.out.trans ((hbr.trans ((iR.out.trans (hb7.mono iR.out.size)).mono hbr.size)).mono HB.out.size));clear hb7 hbr
    go_wp2
    refine Lex.ze ?_
    go_wp2
    go_ret
    exact⟨by rw[HE.out];rfl,HB7.out⟩
  | true=>
  rw[hs,Bool.true_and] at hra htk
  have HHS:=zh hs;clear hs
  rcases Nat.eq_zero_or_pos k with hk0|hkp
  ·have hl0:(S.take k).getLast? = none:=by rw[hk0];rfl
   rw[hl0] at htk
   have x9 : Own.Ar Own.AX (fun x y=>Own.Aj x.pre y.pre) none (S.take (k+1))=true:=htk
   have HT:=zh x9
   have HK0:=zh hk0
   have dz:decide ((0:Int)<(k:Int))=false:=zf
   have dz' : decide (0<k)=false:=zf
   clear hl0 hra htk x9 hk0
   go_wp2
   refine Lex.zl ?_
   go_wp2_with fail
   refine oP.out.mono ?_
   rintro e3 w7 ⟨rfl,hb7⟩
   rw[HHS.out]
   have VH:=iR.out.trans (hb7.mono iR.out.size)
   have g1:=((HA.out.below (hbr.trans (VH.mono hbr.size)) hz1)).cell 1
   have g0:=(VH.cell (p:=⟨b,o+k*3,none⟩) hbl).trans e0
   simp only[zg] at g1
   try have f1:=(VH.cell (p:=⟨b,o+i*3,none⟩) hbl).trans F0.out
   have HB7:=zh (hbr.trans (VH.mono hbr.size));clear hb7 VH hbr
   go_wp2
   refine Lex.ze ?_
   go_wp2
   exact⟨⟨k+1,by omega,by go_num,HT.out,HB7.out⟩,by simp[intOf];omega⟩
  ·obtain⟨i,hi⟩:∃ i,k=i+1:=⟨k-1,by omega⟩
   obtain⟨x,f0,hx⟩:=RH.out i hi
   rw[hx] at hra htk
   have Ol:R=(Own.Aj x.pre sp.pre&&rest):=hra
   have Nh:Own.Ar Own.AX (fun x y=>Own.Aj x.pre y.pre) none (S.take (k+1))=Own.Aj x.pre sp.pre:=htk
   have dz:decide ((0:Int)<(k:Int))=true:=zt
   have dz' : decide (0<k)=true:=zt
   have ek:(k:Int)-1=(i:Int):=by omega
   have hjl:i<S.length:=by omega
   have F0:=zh f0
   cases hlb:Own.Aj x.pre sp.pre with
   | false =>
     have e:R=false:=by rw[Ol,hlb];rfl
     have HE:=zh e
     have zay : Op.bytesLess x.pre.toList sp.pre.toList=false:=hlb
     clear e hra htk Ol Nh hx f0 hi hlb
     go_wp2
     refine Lex.zl ?_
     go_wp2_with fail
     refine oP.out.mono ?_
     rintro e3 w7 ⟨rfl,hb7⟩
     rw[HHS.out]
     have VH:=iR.out.trans (hb7.mono iR.out.size)
     have g1:=((HA.out.below (hbr.trans (VH.mono hbr.size)) hz1)).cell 1
     have g0:=(VH.cell (p:=⟨b,o+k*3,none⟩) hbl).trans e0
     simp only[zg] at g1
     try have f1:=(VH.cell (p:=⟨b,o+i*3,none⟩) hbl).trans F0.out
     have HB7:=zh (hbr.trans (VH.mono hbr.size));clear hb7 VH hbr
     go_wp2
     refine Lex.ze ?_
     go_wp2
     go_ret
     exact⟨by rw[HE.out];rfl,HB.out.trans (HB7.out.mono HB.out.size)⟩
   | true =>
     rw[hlb] at Nh
     have HT:=zh Nh
     have zay : Op.bytesLess x.pre.toList sp.pre.toList=true:=hlb
     clear hra htk Ol Nh hx f0 hi hlb
     go_wp2
     refine Lex.zl ?_
     go_wp2_with fail
     refine oP.out.mono ?_
     rintro e3 w7 ⟨rfl,hb7⟩
     rw[HHS.out]
     have VH:=iR.out.trans (hb7.mono iR.out.size)
     have g1:=((HA.out.below (hbr.trans (VH.mono hbr.size)) hz1)).cell 1
     have g0:=(VH.cell (p:=⟨b,o+k*3,none⟩) hbl).trans e0
     simp only[zg] at g1
     try have f1:=(VH.cell (p:=⟨b,o+i*3,none⟩) hbl).trans F0.out
     have HB7:=zh (hbr.trans (VH.mono hbr.size));clear hb7 VH hbr
     go_wp2
     refine Lex.ze ?_
     go_wp2
     exact⟨⟨k+1,by omega,by go_num,HT.out,HB7.out⟩,by simp[intOf];omega⟩
theorem Jh (pre:ByteArray)(th:Int)(v:Value)(l:List Own.Member)(w:World)(h:Own.Af w v l)(hl:l.length<=3000000):
 Calls Tryz.prog 62 #[.agg #[.string pre,v,.int .i64 th]] w fun e w' => ∃ v',e=.returned (.agg #[.string pre,v',.int .i64 th])/\w'.ownsRow w.heap.size 76 2 v' l.length (l.flatMap Own.Cy)/\Below w.heap.size w w':=by
 obtain⟨a,c,rfl⟩:=h.len
 have F1:=zh (show Au w _ [(39,#[.string pre,.slice a l.length c,.int .i64 th]),(39,#[.string ⟨#[]⟩,.slice none 0 0,.int .i64 0])] from(((CY.nil w).push 39 #[.string pre,.slice a l.length c,.int .i64 th]).push 39 #[.string ⟨#[]⟩,.slice none 0 0,.int .i64 0]).boxes)
 have H:=zh (h.below F1.out.under)
 have hz:((w.alloc (.cells #[.string pre,.slice a l.length c,.int .i64 th] 39)).alloc (.cells #[.string ⟨#[]⟩,.slice none 0 0,.int .i64 0] 39)).heap.size=w.heap.size+2:=by simp
 clear h
 go_enter Tryz.func62,Tryz.ntmps62
 go_upto_region 1 with fail
 generalize (w.alloc (.cells #[.string pre,.slice a l.length c,.int .i64 th] 39)).alloc (.cells #[.string ⟨#[]⟩,.slice none 0 0,.int .i64 0] 39)=w1 at*
 obtain⟨x00,x01,x02⟩:=F1.out.Fw rfl
 have HX0:=zh (zi x00)
 have HX1:=zh (zi x01)
 have HX2:=zh (zi x02)
 have hb2:Below w1.heap.size w1 (w1.drew.alloc (.cells #[] 76)):=(Below.refl w1.heap.size w1).drew.alloc (Nat.le_refl _) _
 have ho:=Mr w1.drew 76 2 w1.heap.size (by rw[Ez];exact Nat.le_refl _)
 rw[Ez] at ho
 have HO:=zh ho;have H2:=zh (Own.Af.rows (H.out.below hb2));have HB2:=zh hb2;have F2:=zh (F1.out.step hb2);have HZ:=zh hz
 clear hb2 hz ho
 have F3:=zh (F1.out.step ((Below.refl w1.heap.size w1).alloc (Nat.le_refl _) (.cells #[] 76)))
 have y00:(w1.alloc (.cells #[] 76)).cell? ⟨w.heap.size,0,none⟩=some (.string pre):=F3.out.cell 0 0 rfl rfl
 have y01:(w1.alloc (.cells #[] 76)).cell? ⟨w.heap.size,1,none⟩=some (.slice a l.length c):=F3.out.cell 0 1 rfl rfl
 have y02:(w1.alloc (.cells #[] 76)).cell? ⟨w.heap.size,2,none⟩=some (.int .i64 th):=F3.out.cell 0 2 rfl rfl
 refine Lex.zn (fun j=>j=w.heap.size) [1,4,7] 8 [6] ?_
 simp only[Lex.Bp,zd]
 go_wp2_with (at_builtin;go_must (refine Ah JO rfl _ _ rfl w1.heap.size 0 _ [] rfl HO.out (.slice a l.length c) l.length _ rfl H2.out (Own.xA l) (by omega) (by omega) HB2.out.size ?_);intro v5 w5 ho5 hg5 _;rw[Nat.zero_add,List.nil_append] at ho5;obtain⟨va,vm,vc,rfl⟩:=Ac ho5;have HO5:=zh ho5;have F5:=zh (F2.out.far (O:=w1.heap.size) (by have:=HZ.out;show w.heap.size+2<=w1.heap.size;omega) (Ak HO.out) hg5);have HG5:=zh hg5;clear ho5 hg5;have z00:w5.cell? ⟨w.heap.size,0,none⟩=some (.string pre):=F5.out.cell 0 0 rfl rfl;have z01:w5.cell? ⟨w.heap.size,1,none⟩=some (.slice a l.length c):=F5.out.cell 0 1 rfl rfl;have z02:w5.cell? ⟨w.heap.size,2,none⟩=some (.int .i64 th):=F5.out.cell 0 2 rfl rfl;have z10:w5.cell? ⟨w.heap.size+1,0,none⟩=some (.string ⟨#[]⟩):=F5.out.cell 1 0 rfl rfl;have zbx:w5.frozen? ⟨w.heap.size+1,0,none⟩=false:=F5.out.free 1 0 rfl;have z11:w5.cell? ⟨w.heap.size+1,1,none⟩=some (.slice none 0 0):=F5.out.cell 1 1 rfl rfl;have zby:w5.frozen? ⟨w.heap.size+1,1,none⟩=false:=F5.out.free 1 1 rfl;have z12:w5.cell? ⟨w.heap.size+1,2,none⟩=some (.int .i64 0):=F5.out.cell 1 2 rfl rfl;have zbz:w5.frozen? ⟨w.heap.size+1,2,none⟩=false:=F5.out.free 1 2 rfl)
 have hlt:w.heap.size<w1.heap.size:=F1.out.lt (i:=0) (by show 0<2;omega)
 have hb5:w5.heap[w.heap.size]? = w1.heap[w.heap.size]? :=by
  have h1:=HG5.out.block w.heap.size (Nat.lt_of_lt_of_le hlt HB2.out.size) (fun e=>by have:=Ak HO.out _ e.symm;omega)
  rw[h1]
  exact HB2.out.block _ hlt
 have HB5:=zh hb5;clear hb5
 refine Lex.Mid.intro (fun j hj _=>by rw[hj];exact HB5.out) ?_
 go_wp2
 refine Lex.zk ⟨⟨rfl,HX0.out⟩,⟨rfl,HX1.out⟩,⟨rfl,HX2.out⟩,trivial⟩ ?_
 go_wp2_with fail
 (try clear x00 x01 x02)
 have G2:=(((F5.out.put 1 0 (.string pre) rfl).put 1 1 (.slice va vm vc) rfl).put 1 2 (.int .i64 th) rfl)
 refine Ob rfl rfl (AJ (G2.at1 1 rfl) Tryz.underlying39 rfl EK) ⟨_,rfl,?_,G2.under⟩
 have hz:=HZ.out
 refine Cw (Ae HO5.out (fun k hk=>?_)) (by omega)
 have k0:=Ak HO5.out k hk
 have k2:k≠w.heap.size+1:=by omega
 rw[zo k2,zo k2,zo k2]
theorem Qh (o:Own.Ao)(s:ByteArray)(sv kv:Value)(w:World)(hS:Own.BF w sv o.spaces)(hK:Own.Du w kv o.keys)(hls:o.spaces.length<=140737488355328)(hlk:o.keys.length<=140737488355328)(hlm:∀ x∈o.spaces,x.members.length<=140737488355328/\x.pre.size<=140737488355000)(hs:s.size<=140737488355328):
 Calls Tryz.prog 19 #[.agg #[.int .i64 o.count,sv,kv],.string s] w (YA w (Own.authority o s)):=by
 obtain⟨R,hR⟩:∃ R,R=YA w (Own.authority o s):=⟨_,rfl⟩
 rw[<- hR]
 obtain⟨A,hA⟩:∃ A,A=Own.authority o s:=⟨_,rfl⟩
 rw[<- hA] at hR
 unfold Own.authority at hA
 have HR:=zh hR;clear hR
 obtain⟨sa,sc,rfl⟩:=hS.len
 obtain⟨ka,kc,rfl⟩:=hK.len
 have hval:=fun W (hW:Below w.heap.size w W)=>Rb o _ _ W (hS.below hW) (hK.below hW) hls hlk (fun x hx=>by have:=hlm x hx;omega)
 obtain⟨OKb,zd9⟩:∃ b,b=Own.Bv o:=⟨_,rfl⟩
 simp only[<- zd9] at hval hA
 have hmem:OKb=true->o.spaces.length<=64/\∀ x∈o.spaces,x.pre.size<=64/\x.members.length<=8:=fun h=>by
  rw[h] at zd9
  have:=Own.OK.of zd9.symm
  exact⟨this.ls,fun x hx=>⟨(Own.oU.of (this.sp x hx)).pre,(Own.oU.of (this.sp x hx)).len⟩⟩
 obtain⟨cnt,S,K⟩:=o
 dsimp only at*
 have F1:=zh (show Au w _ [(25,#[.int .i64 cnt,.slice sa S.length sc,.slice ka K.length kc]),(39,#[.string ⟨#[]⟩,.slice none 0 0,.int .i64 0])] from(((CY.nil w).push 25 #[.int .i64 cnt,.slice sa S.length sc,.slice ka K.length kc]).push 39 #[.string ⟨#[]⟩,.slice none 0 0,.int .i64 0]).boxes)
 have HS:=zh hS;have zeq:=zh (hval _ F1.out.under);have HM:=zh hmem;have HA:=zh hA
 clear hS hK hval zd9 hmem hlm hA
 have x00:((w.alloc (.cells #[.int .i64 cnt,.slice sa S.length sc,.slice ka K.length kc] 25)).alloc (.cells #[.string ⟨#[]⟩,.slice none 0 0,.int .i64 0] 39)).cell? ⟨w.heap.size,0,none⟩=some (.int .i64 cnt):=F1.out.cell 0 0 rfl rfl
 have x01:((w.alloc (.cells #[.int .i64 cnt,.slice sa S.length sc,.slice ka K.length kc] 25)).alloc (.cells #[.string ⟨#[]⟩,.slice none 0 0,.int .i64 0] 39)).cell? ⟨w.heap.size,1,none⟩=some (.slice sa S.length sc):=F1.out.cell 0 1 rfl rfl
 have x02:((w.alloc (.cells #[.int .i64 cnt,.slice sa S.length sc,.slice ka K.length kc] 25)).alloc (.cells #[.string ⟨#[]⟩,.slice none 0 0,.int .i64 0] 39)).cell? ⟨w.heap.size,2,none⟩=some (.slice ka K.length kc):=F1.out.cell 0 2 rfl rfl
 go_enter Tryz.func19,Tryz.ntmps19
 go_wp2_with fail
 generalize ((w.alloc (.cells #[.int .i64 cnt,.slice sa S.length sc,.slice ka K.length kc] 25)).alloc (.cells #[.string ⟨#[]⟩,.slice none 0 0,.int .i64 0] 39))=w1 at*
 refine zeq.out.mono ?_
 rintro e w2 ⟨rfl,hb2⟩
 have F2:=zh (F1.out.step hb2)
 (try clear x00);(try clear x01);(try clear x02)
 obtain⟨x00,x01,x02⟩:=F2.out.Fw rfl
 obtain⟨x10,x11,x12,zdA,zdB,zdC⟩:=F2.out.zdV rfl
 clear hb2 zeq F1
 cases OKb with
 | false =>
   have e:A=none:=by rw[HA.out];rfl
   have HE:=zh e;clear e
   go_wp2
   have G2:=(((F2.out.put 1 0 (.string ⟨#[]⟩) rfl).put 1 1 (.slice none 0 0) rfl).put 1 2 (.int .i64 0) rfl)
   rw[HR.out,HE.out]
   refine BJ rfl rfl rfl (AJ (G2.at1 1 rfl) Tryz.underlying39 rfl EK) ⟨rfl,G2.under⟩
 | true=>
 have hpa:=VG s w2 (by omega)
 have HPA:=zh hpa;clear hpa
 cases hp:Own.BI s with
 | false =>
   have e:A=none:=by rw[HA.out,hp];rfl
   have HE:=zh e;clear e
   go_wp2_with fail
   refine HPA.out.mono ?_
   rintro e w3 ⟨rfl,rfl⟩
   rw[hp]
   go_wp2
   have G2:=(((F2.out.put 1 0 (.string ⟨#[]⟩) rfl).put 1 1 (.slice none 0 0) rfl).put 1 2 (.int .i64 0) rfl)
   rw[HR.out,HE.out]
   refine BJ rfl rfl rfl (AJ (G2.at1 1 rfl) Tryz.underlying39 rfl EK) ⟨rfl,G2.under⟩
 | true=>
 obtain⟨zeW,hmm⟩:=HM.out rfl
 have HP:=zh hmm
 obtain⟨B,hB⟩:∃ B:List Own.Space->Option Own.Space,B=Own.CB s none:=⟨_,rfl⟩
 have hB0:B []=none:=by rw[hB];rfl
 have hBs:∀ k (hk:k<S.length),B (S.take (k+1))=Own.RU s (B (S.take k)) S[k]:=fun k hk=>by rw[hB];exact Own.aU s S k hk
 have hAB:A=B S:=by rw[HA.out,hp,hB];rfl
 have HBS:=zh hBs;have HAB:=zh hAB
 clear hmm hBs hAB HA HM hB
 go_wp2_with fail
 refine HPA.out.mono ?_
 rintro e w3 ⟨rfl,rfl⟩
 rw[hp]
 go_wp2_with fail
 (try clear x00);(try clear x01);(try clear x02);(try clear x10 x11 x12 zdA zdB zdC)
 go_loopw [6,7] (fun r i wr=>∃ k:Nat,k<=S.length/\i=.int .i64 k/\(∃ b,r=.int .i64 b/\Own.lS S (B (S.take k)) b)/\Au w wr [(25,#[.int .i64 cnt,.slice sa S.length sc,.slice ka K.length kc]),(39,#[.string ⟨#[]⟩,.slice none 0 0,.int .i64 0])]) (fun _ i _=>S.length-(intOf i).toNat)
 case atStart=>exact⟨0,by omega,rfl,⟨-1,rfl,.inl ⟨rfl,hB0⟩⟩,F2.out⟩
 case round=>
  obtain⟨k,hk,rfl,⟨bi,rfl,hbi⟩,hbx⟩:=hrel
  have G1:=zh hbx;clear hbx F2
  obtain⟨x00,x01,x02⟩:=G1.out.Fw rfl
  obtain⟨x10,x11,x12,zdA,zdB,zdC⟩:=G1.out.zdV rfl
  have HSW:=zh (HS.out.below G1.out.under)
  by_cases hlt:k<S.length
  case neg=>
   have hke:k=S.length:=by omega
   have dk:decide ((k:Int)<S.length)=false:=zf
   rw[hke,List.take_length,<- HAB.out] at hbi
   clear hke HBS HAB
   rcases hbi with ⟨rfl,h2⟩|⟨j,rfl,hj,h2⟩
   ·have HE:=zh h2;clear h2
    go_wp2
    have G2:=(((G1.out.put 1 0 (.string ⟨#[]⟩) rfl).put 1 1 (.slice none 0 0) rfl).put 1 2 (.int .i64 0) rfl)
    rw[HR.out,HE.out]
    refine BJ rfl rfl rfl (AJ (G2.at1 1 rfl) Tryz.underlying39 rfl EK) ⟨rfl,G2.under⟩
   ·have dj:decide ((j:Int)<0)=false:=zf
    have HE:=zh h2;clear h2
    obtain⟨b,o,mv,ha,hbl,e0,e1,e2,hmv⟩:=Own.BF.cells HSW.out hj
    subst ha
    have hp8:=(HP.out S[j] (List.getElem_mem hj)).2
    obtain⟨x,hx⟩:∃ x,x=S[j]:=⟨_,rfl⟩
    rw[<- hx] at e0 e2 hmv hp8 HE
    obtain⟨pre,M,th⟩:=x
    dsimp only at e0 e2 hmv hp8
    have HC:=zh (Jh pre th mv M wr hmv (by omega))
    obtain⟨ma,mc,rfl⟩:=hmv.len
    clear hx hmv
    go_wp2_with fail
    refine HC.out.mono ?_
    rintro e w4 ⟨v',rfl,hov,hb4⟩
    obtain⟨va,vm,vc,rfl⟩:=Ac hov
    have G4:=zh (G1.out.step hb4);have HOV:=zh hov
    have hz3:w.heap.size+2<=wr.heap.size:=G1.out.size
    (try clear x00);(try clear x01);(try clear x02);(try clear x10 x11 x12 zdA zdB zdC)
    obtain⟨x10,x11,x12,zdA,zdB,zdC⟩:=G4.out.zdV rfl
    clear hov hb4 e0 e1 e2
    go_wp2
    have G2:=(((G4.out.put 1 0 (.string pre) rfl).put 1 1 (.slice va vm vc) rfl).put 1 2 (.int .i64 th) rfl)
    rw[HR.out,HE.out]
    refine BJ rfl rfl rfl (AJ (G2.at1 1 rfl) Tryz.underlying39 rfl EK) ⟨⟨_,rfl,?_⟩,G2.under⟩
    refine Cw (Ae HOV.out (fun k hk=>?_)) (by omega)
    have k0:=Ak HOV.out k hk
    have k2:k≠w.heap.size+1:=by omega
    rw[zo k2,zo k2,zo k2]
  have dk:decide ((k:Int)<S.length)=true:=zt
  obtain⟨b,o,mv,ha,hbl,e0,_,_,_⟩:=Own.BF.cells HSW.out hlt
  have hpk:=(HP.out S[k] (List.getElem_mem hlt)).1
  have hst:=HBS.out k hlt
  have JL:∀ j (hj:j<S.length),wr.cell? ⟨b,o+j*3,none⟩=some (.string S[j].pre):=by
   intro j hj
   obtain⟨b',o',_,ha',_,e0,_⟩:=Own.BF.cells HSW.out hj
   rw[ha] at ha'
   cases ha'
   exact e0
  subst ha
  obtain⟨pre,hpre⟩:∃ x,x=S[k].pre:=⟨_,rfl⟩
  rw[<- hpre] at e0 hpk
  have TM:=zh hpre;have HST:=zh hst;have HBI:=zh hbi;have RH:=zh JL;have G2:=zh G1.out.drew
  have oQ:=zh (fun W=>zbV s pre W (by omega) (by omega))
  clear JL hpre hst hbi
  cases hbg:Own.belongs s pre with
  | false =>
    have hn:B (S.take (k+1))=B (S.take k):=by rw[HST.out];unfold Own.RU;rw[<- TM.out,hbg];rfl
    have HN:=zh hn
    clear hn
    go_wp2
    refine Lex.zl ?_
    go_wp2_with fail
    refine(oQ.out _).mono ?_
    rintro e3 w7 ⟨rfl,rfl⟩
    rw[hbg]
    go_wp2
    refine Lex.ze ?_
    go_wp2
    exact⟨⟨k+1,by omega,by go_num,⟨bi,rfl,by rw[HN.out];exact HBI.out⟩,G2.out⟩,by simp[intOf];omega⟩
  | true=>
  rcases HBI.out with ⟨h1,h2⟩|⟨j,h1,hj,h2⟩
  ·have hn:B (S.take (k+1))=some S[k]:=by rw[HST.out,h2];unfold Own.RU;rw[<- TM.out,hbg];rfl
   have HN:=zh hn
   subst h1
   clear hn h2
   go_wp2
   refine Lex.zl ?_
   go_wp2_with fail
   refine(oQ.out _).mono ?_
   rintro e3 w7 ⟨rfl,rfl⟩
   rw[hbg]
   go_wp2
   refine Lex.ze ?_
   go_wp2
   exact⟨⟨k+1,by omega,by go_num,⟨k,rfl,.inr ⟨k,rfl,hlt,HN.out⟩⟩,G2.out⟩,by simp[intOf];omega⟩
  ·have g0:=RH.out j hj
   obtain⟨pn,hpn⟩:∃ x,x=S[j].pre:=⟨_,rfl⟩
   rw[<- hpn] at g0
   have hn:B (S.take (k+1))=if decide (pn.size<pre.size) then some S[k] else some S[j]:=by
    rw[HST.out,h2,hpn,TM.out];unfold Own.RU;rw[<- TM.out,hbg,TM.out];rfl
   have HN:=zh hn
   subst h1
   have dj:decide ((j:Int)<0)=false:=zf
   clear hn h2 hpn
   by_cases hlg:pn.size<pre.size
   ·have dl:decide ((pn.size:Int)<(pre.size:Int))=true:=zt
    have dl' : decide (pn.size<pre.size)=true:=decide_eq_true hlg
    go_wp2
    refine Lex.zl ?_
    go_wp2_with fail
    refine(oQ.out _).mono ?_
    rintro e3 w7 ⟨rfl,rfl⟩
    rw[hbg]
    go_wp2
    refine Lex.ze ?_
    go_wp2
    exact⟨⟨k+1,by omega,by go_num,⟨k,rfl,.inr ⟨k,rfl,hlt,by rw[HN.out,dl'];rfl⟩⟩,G2.out⟩,by simp[intOf];omega⟩
   ·have dl:decide ((pn.size:Int)<(pre.size:Int))=false:=zf
    have dl' : decide (pn.size<pre.size)=false:=decide_eq_false hlg
    go_wp2
    refine Lex.zl ?_
    go_wp2_with fail
    refine(oQ.out _).mono ?_
    rintro e3 w7 ⟨rfl,rfl⟩
    rw[hbg]
    go_wp2
    refine Lex.ze ?_
    go_wp2
    exact⟨⟨k+1,by omega,by go_num,⟨j,rfl,.inr ⟨j,rfl,hj,by rw[HN.out,dl'];rfl⟩⟩,G2.out⟩,by simp[intOf];omega⟩
namespace Own
def J4 {α : Type}(f : α -> ByteArray)(x : α)(l:List α)(k:Nat)(d:Bool)(L:List α):Prop:=
 (d=false/\k<=posB f (f x) l/\L=l.take k)\/(d=true/\posB f (f x) l<k/\L=l.take (posB f (f x) l)++x::(l.take k).drop (posB f (f x) l+if Dl f (f x) l then 1 else 0))
theorem J4.len {α : Type}{f : α -> ByteArray}{x : α}{l L:List α}{k:Nat}{d:Bool}(h:J4 f x l k d L):L.length<=l.length+1:=by
 have:=MK (f:=f) (f x) l
 rcases h with ⟨_,h1,rfl⟩|⟨_,h1,rfl⟩
 ·rw[List.length_take];omega
 ·rw[List.length_append,List.length_take,List.length_cons,List.length_drop,List.length_take]
  omega
section
variable {α : Type} {f : α -> ByteArray} {x : α} {l L:List α} {k:Nat}
theorem J4.zero:J4 f x l 0 false []:=.inl ⟨rfl,Nat.zero_le _,rfl⟩
theorem J4.less (h:J4 f x l k false L)(hs:Srt f l)(hk:k<l.length)(hl:Aj (f l[k]) (f x)=true):f l[k]≠f x/\J4 f x l (k+1) false (L++[l[k]]):=by
 refine⟨fun e=>(by rw[e,BP] at hl;cases hl),?_⟩
 rcases h with ⟨_,h1,rfl⟩|⟨h,_⟩
 ·refine .inl ⟨rfl,?_,by rw[List.take_succ_eq_append_getElem hk]⟩
  by_cases hp:posB f (f x) l<=k
  ·have:=hs.ge (f x) k hp hk
   rw[hl] at this
   cases this
  ·omega
 ·cases h
theorem J4.place (h:J4 f x l k false L)(hk:k<l.length)(hl:Aj (f l[k]) (f x)=false):(f l[k]=f x->J4 f x l (k+1) true (L++[x]))/\(f l[k]≠f x->J4 f x l (k+1) true (L++[x]++[l[k]])):=by
 rcases h with ⟨_,h1,rfl⟩|⟨h,_⟩
 ·have hp : posB f (f x) l = k :=by
   by_cases hp:k<posB f (f x) l
   ·have:=UF (f:=f) (f x) l k hp hk
    rw[hl] at this
    cases this
   ·omega
  have hh:Dl f (f x) l=decide (f l[k]=f x):=by
   unfold Dl
   rw[hp,List.getElem?_eq_getElem hk]
  refine⟨fun e=>.inr ⟨rfl,by omega,?_⟩,fun e=>.inr ⟨rfl,by omega,?_⟩⟩
  ·rw[hh,decide_eq_true e,hp,if_pos rfl,List.drop_of_length_le (by rw[List.length_take];omega)]
  ·rw[hh,decide_eq_false e,hp,if_neg Bool.false_ne_true,Nat.add_zero,List.take_succ_eq_append_getElem hk,List.drop_append,List.drop_of_length_le (by rw[List.length_take];omega),List.length_take,Nat.min_eq_left (by omega),Nat.sub_self]
   simp
 ·cases h
theorem J4.done (h:J4 f x l k true L)(hs:Srt f l)(hk:k<l.length):f l[k]≠f x/\J4 f x l (k+1) true (L++[l[k]]):=by
 rcases h with ⟨h,_⟩|⟨_,h1,rfl⟩
 ·cases h
 ·refine⟨fun e=>?_,.inr ⟨rfl,by omega,?_⟩⟩
  ·have h2:=hs.ge (f x) (posB f (f x) l) (Nat.le_refl _) (by omega)
   have h3:=(List.pairwise_iff_getElem.1 hs) (posB f (f x) l) k (by omega) hk h1
   rw[e,h2] at h3
   cases h3
  ·have hz : posB f (f x) l + (if Dl f (f x) l then 1 else 0) ≤ (l.take k).length :=by
    rw[List.length_take]
    split<;>omega
   rw[List.take_succ_eq_append_getElem hk,List.drop_append_of_le_length hz]
   simp
theorem J4.end_ (h:J4 f x l l.length false L):L++[x]=Dj f x l:=by
 rcases h with ⟨_,h1,rfl⟩|⟨h,_⟩
 ·have h2:=MK (f:=f) (f x) l
  have e:posB f (f x) l=l.length:=by omega
  have hh:Dl f (f x) l=false:=by
   unfold Dl
   rw[e,List.getElem?_eq_none (Nat.le_refl _)]
  rw[MN,hh,e,if_neg Bool.false_ne_true,Nat.add_zero,List.drop_length]
 ·cases h
theorem J4.zcE (h:J4 f x l l.length true L):L=Dj f x l:=by
 rcases h with ⟨h,_⟩|⟨_,h1,rfl⟩
 ·cases h
 ·rw[MN,List.take_length]
end
end Own
theorem Own.zcF (x:Own.KeyUse):∀ u∈Own.Dw x,u.oneCell' = true:=by
 intro u hu
 simp[Own.Dw] at hu
 rcases hu with rfl|rfl<;>rfl
theorem zcX (v:Value)(l:List Own.KeyUse)(x:Own.KeyUse)(w:World)(h:Own.Du w v l)(hs:Own.Srt Own.KeyUse.pub l)(hl:l.length<=1000000):
 Calls Tryz.prog 116 #[v,.agg (Own.Dw x).toArray] w fun e w' => ∃ v',e=.returned v' /\ w'.ownsRow w.heap.size 59 2 v' (Own.Dj Own.KeyUse.pub x l).length ((Own.Dj Own.KeyUse.pub x l).flatMap Own.Dw)/\Below w.heap.size w w':=by
 obtain⟨PA,hPA⟩:∃ PA:Nat->Bool->List Own.KeyUse->Prop,PA=Own.J4 Own.KeyUse.pub x l:=⟨_,rfl⟩
 have pz:PA 0 false []:=by rw[hPA];exact Own.J4.zero
 have zdw:∀ k d L,PA k d L->L.length<=l.length+1:=fun k d L hp=>by rw[hPA] at hp;exact hp.len
 have zcG:∀ k L (hk:k<l.length),PA k false L->Own.Aj (Own.KeyUse.pub l[k]) (Own.KeyUse.pub x)=true->Own.KeyUse.pub l[k]≠Own.KeyUse.pub x/\PA (k+1) false (L++[l[k]]):=fun k L hk hp hlb=>by rw[hPA] at hp ⊢;exact hp.less hs hk hlb
 have zbW:∀ k L (hk:k<l.length),PA k false L->Own.Aj (Own.KeyUse.pub l[k]) (Own.KeyUse.pub x)=false->(Own.KeyUse.pub l[k]=Own.KeyUse.pub x->PA (k+1) true (L++[x]))/\(Own.KeyUse.pub l[k]≠Own.KeyUse.pub x->PA (k+1) true (L++[x]++[l[k]])):=fun k L hk hp hlb=>by rw[hPA] at hp ⊢;exact hp.place hk hlb
 have zcH:∀ k L (hk:k<l.length),PA k true L->Own.KeyUse.pub l[k]≠Own.KeyUse.pub x/\PA (k+1) true (L++[l[k]]):=fun k L hk hp=>by rw[hPA] at hp ⊢;exact hp.done hs hk
 have pend:∀ L,PA l.length false L->L++[x]=Own.Dj Own.KeyUse.pub x l:=fun L hp=>by rw[hPA] at hp;exact hp.end_
 have zbX:∀ L,PA l.length true L->L=Own.Dj Own.KeyUse.pub x l:=fun L hp=>by rw[hPA] at hp;exact hp.zcE
 obtain⟨R,hR⟩:∃ R,R=Own.Dj Own.KeyUse.pub x l:=⟨_,rfl⟩
 rw[<- hR]
 simp only[<- hR] at pend zbX
 have zdY:=zh zdw;have zdx:=zh zcG;have zcY:=zh zbW;have zdy:=zh zcH;have zdZ:=zh pend;have zdz:=zh zbX;have PZ:=zh pz
 clear zdw zcG zbW zcH pend zbX pz hPA hR
 obtain⟨a,c,rfl⟩:=h.len
 have HL:=zh h;clear h
 obtain⟨X,hX⟩:∃ X,X=x:=⟨_,rfl⟩
 rw[<- hX]
 obtain⟨xn,xp⟩:=X
 have HX:=zh hX;have HXF:=zh (congrArg Own.KeyUse.pub hX)
 dsimp only[Own.Dw] at HXF ⊢
 clear hX
 have F1:=zh (show Au w _ [(59,#[.string xn,.int .i64 xp])] from((CY.nil w).push 59 #[.string xn,.int .i64 xp]).boxes)
 show Calls Tryz.prog 116 #[.slice a l.length c,.agg #[.string xn,.int .i64 xp]] w _
 go_enter Tryz.func116,Tryz.ntmps116
 go_wp2_with fail
 generalize (w.alloc (.cells #[.string xn,.int .i64 xp] 59))=w1 at*
 go_loopw [5,6,7] (fun ov dv i wr=>∃ (k:Nat) (d:Bool) (L:List Own.KeyUse) (v:Value),k<=l.length/\i=.int .i64 k/\dv=.bool d/\ov=v/\PA k d L/\wr.ownsRow (w.heap.size+1) 59 2 v L.length (L.flatMap Own.Dw)/\Au w wr [(59,#[.string xn,.int .i64 xp])]) (fun _ _ i _=>l.length-(intOf i).toNat)
 case atStart=>exact⟨0,false,[],_,by omega,rfl,rfl,rfl,PZ.out,⟨rfl,.inl ⟨rfl,rfl⟩⟩,F1.out⟩
 case round=>
  obtain⟨k,d,L,v,hk,rfl,rfl,rfl,hpa,hown,hbx⟩:=hrel
  have hLM:=zdY.out k d L hpa
  obtain⟨va,vm,vc,rfl⟩:=Ac hown
  obtain rfl:=Ba hown
  have HO:=zh hown;have G1:=zh hbx;have HPA:=zh hpa
  clear hown hbx hpa F1
  obtain⟨x00,x01⟩:=G1.out.wH rfl
  by_cases hlt:k<l.length
  case neg=>
   have hke:k=l.length:=by omega
   have dk:decide ((k:Int)<l.length)=false:=zf
   cases d with
   | true =>
     have hR:=zdz.out L (hke ▸ HPA.out)
     have HR:=zh hR;clear hR hke
     go_wp2
     go_ret
     refine⟨_,rfl,?_,G1.out.under⟩
     rw[<- HR.out]
     exact Cw HO.out (by omega)
   | false =>
     have hR:=zdZ.out L (hke ▸ HPA.out)
     have HR:=zh hR;clear hR hke
     have hb8:Below wr.heap.size wr (wr.alloc (.cells #[.string xn,.int .i64 xp] 59)):=zb
     have hrw:=Cx wr 59 #[.string xn,.int .i64 xp] 2 1 1 rfl
     have hwz:w.heap.size+1<=(wr.alloc (.cells #[.string xn,.int .i64 xp] 59)).heap.size:=Nat.le_trans G1.out.size hb8.size
     have HRW:=zh hrw;have HO8:=zh (own_below HO.out hb8);have G8:=zh (G1.out.step hb8);have HUP:=zh (Ak HO.out);have HWZ:=zh hwz
     clear hb8 hrw hwz
     go_wp2_with
      (at_builtin;go_must (refine Ah JQ rfl _ _ rfl (w.heap.size+1) L.length (.slice va L.length vc) (L.flatMap Own.Dw) rfl HO8.out (.slice (some ⟨wr.heap.size,0,none⟩) 1 1) 1 (Own.Dw (⟨xn,xp⟩:Own.KeyUse)) rfl HRW.out (Own.zcF (⟨xn,xp⟩:Own.KeyUse)) (by omega) (by omega) HWZ.out ?_);intro v9 w9 ho9 hg9 hw9;obtain⟨ya,ym,yc,rfl⟩:=Ac ho9;have HO9:=zh (show w9.ownsRow (w.heap.size+1) 59 2 (.slice ya ym yc) (L++[(⟨xn,xp⟩:Own.KeyUse)]).length ((L++[(⟨xn,xp⟩:Own.KeyUse)]).flatMap Own.Dw) by rw[List.length_append,List.flatMap_append];simpa using ho9);have G9:=zh (G8.out.far (O:=w.heap.size+1) (Nat.le_refl _) HUP.out hg9);clear ho9 hg9 hw9)
     go_ret
     refine⟨_,rfl,?_,G9.out.under⟩
     rw[<- HR.out,<- HX.out]
     exact Cw HO9.out (by omega)
  have dk:decide ((k:Int)<l.length)=true:=zt
  obtain⟨b,o,ha,hbl,e0,e1⟩:=Own.Du.cells (HL.out.below G1.out.under) hlt
  subst ha
  have zcr:=zdx.out k L hlt;have hpl:=zcY.out k L hlt;have hdn:=zdy.out k L hlt
  obtain⟨y,hy⟩:∃ y,y=l[k]:=⟨_,rfl⟩
  simp only[<- hy,<- HXF.out] at zcr hpl hdn
  simp only[<- hy] at e0 e1
  obtain⟨yn,yp⟩:=y
  dsimp only at e0 e1 zcr hpl hdn
  have HY:=zh hy;have zea:=zh zcr;have HPL:=zh hpl;have HDN:=zh hdn
  clear zcr hpl hdn hy
  cases d with
  | true =>
    obtain⟨hne,hnx⟩:=HDN.out HPA.out
    have hq:(yn.toList==xn.toList)=false:=by rw[bytes_beq];exact decide_eq_false hne
    have HNX:=zh hnx;clear hne hnx
    go_wp2
    refine Lex.zl ?_
    go_wp2
    refine Lex.ze ?_
    (try clear x00 x01)
    have G5:=zh G1.out.drew
    have HO5:=zh (Ae (w':=wr.drew) HO.out (fun k _=>by rw[Ez]))
    have hbd:Below wr.heap.size wr wr.drew:=(Below.refl _ _).drew
    replace e0:=(hbd.cell (p:=⟨b,o+k*2,none⟩) hbl).trans e0
    replace e1:=(hbd.cell (p:=⟨b,o+k*2+1,none⟩) hbl).trans e1
    replace hbl:b<wr.drew.heap.size:=by rw[Ez];exact hbl
    clear hbd
    generalize wr.drew=w5 at*
    obtain⟨x00,x01⟩:=G5.out.wH rfl
    go_wp2
    refine Lex.zl ?_
    go_wp2
    refine Lex.ze ?_
    (try clear x00 x01)
    have G6:=zh G5.out.drew
    have HO6:=zh (Ae (w':=w5.drew) HO5.out (fun k _=>by rw[Ez]))
    have hbd:Below w5.heap.size w5 w5.drew:=(Below.refl _ _).drew
    replace e0:=(hbd.cell (p:=⟨b,o+k*2,none⟩) hbl).trans e0
    replace e1:=(hbd.cell (p:=⟨b,o+k*2+1,none⟩) hbl).trans e1
    replace hbl:b<w5.drew.heap.size:=by rw[Ez];exact hbl
    clear hbd
    generalize w5.drew=w6 at*
    obtain⟨x00,x01⟩:=G6.out.wH rfl
    have hb8:Below w6.heap.size w6 (w6.alloc (.cells #[.string yn,.int .i64 yp] 59)):=zb
    have hrw:=Cx w6 59 #[.string yn,.int .i64 yp] 2 1 1 rfl
    have hwz:w.heap.size+1<=(w6.alloc (.cells #[.string yn,.int .i64 yp] 59)).heap.size:=Nat.le_trans G6.out.size hb8.size
    have HRW:=zh hrw;have HO8:=zh (own_below HO6.out hb8);have G8:=zh (G6.out.step hb8);have HUP:=zh (Ak HO6.out);have HWZ:=zh hwz
    clear hb8 hrw hwz
    go_wp2_with
     (at_builtin;go_must (refine Ah JQ rfl _ _ rfl (w.heap.size+1) L.length (.slice va L.length vc) (L.flatMap Own.Dw) rfl HO8.out (.slice (some ⟨w6.heap.size,0,none⟩) 1 1) 1 (Own.Dw (⟨yn,yp⟩:Own.KeyUse)) rfl HRW.out (Own.zcF (⟨yn,yp⟩:Own.KeyUse)) (by omega) (by omega) HWZ.out ?_);intro v9 w9 ho9 hg9 hw9;obtain⟨ya,ym,yc,rfl⟩:=Ac ho9;have HO9:=zh (show w9.ownsRow (w.heap.size+1) 59 2 (.slice ya ym yc) (L++[(⟨yn,yp⟩:Own.KeyUse)]).length ((L++[(⟨yn,yp⟩:Own.KeyUse)]).flatMap Own.Dw) by rw[List.length_append,List.flatMap_append];simpa using ho9);have G9:=zh (G8.out.far (O:=w.heap.size+1) (Nat.le_refl _) HUP.out hg9);clear ho9 hg9 hw9)
    exact⟨⟨k+1,true,_,_,by omega,by go_num,rfl,rfl,HNX.out,HO9.out,G9.out⟩,by simp[intOf];omega⟩
  | false =>
    cases hlb:Op.bytesLess yn.toList xn.toList with
    | true =>
      obtain⟨hne,hnx⟩:=zea.out HPA.out hlb
      have hq:(yn.toList==xn.toList)=false:=by rw[bytes_beq];exact decide_eq_false hne
      have HNX:=zh hnx;clear hne hnx
      go_wp2
      refine Lex.zl ?_
      go_wp2
      refine Lex.ze ?_
      (try clear x00 x01)
      have G5:=zh G1.out.drew
      have HO5:=zh (Ae (w':=wr.drew) HO.out (fun k _=>by rw[Ez]))
      have hbd:Below wr.heap.size wr wr.drew:=(Below.refl _ _).drew
      replace e0:=(hbd.cell (p:=⟨b,o+k*2,none⟩) hbl).trans e0
      replace e1:=(hbd.cell (p:=⟨b,o+k*2+1,none⟩) hbl).trans e1
      replace hbl:b<wr.drew.heap.size:=by rw[Ez];exact hbl
      clear hbd
      generalize wr.drew=w5 at*
      obtain⟨x00,x01⟩:=G5.out.wH rfl
      go_wp2
      refine Lex.zl ?_
      go_wp2
      refine Lex.ze ?_
      (try clear x00 x01)
      have G6:=zh G5.out.drew
      have HO6:=zh (Ae (w':=w5.drew) HO5.out (fun k _=>by rw[Ez]))
      have hbd:Below w5.heap.size w5 w5.drew:=(Below.refl _ _).drew
      replace e0:=(hbd.cell (p:=⟨b,o+k*2,none⟩) hbl).trans e0
      replace e1:=(hbd.cell (p:=⟨b,o+k*2+1,none⟩) hbl).trans e1
      replace hbl:b<w5.drew.heap.size:=by rw[Ez];exact hbl
      clear hbd
      generalize w5.drew=w6 at*
      obtain⟨x00,x01⟩:=G6.out.wH rfl
      have hb8:Below w6.heap.size w6 (w6.alloc (.cells #[.string yn,.int .i64 yp] 59)):=zb
      have hrw:=Cx w6 59 #[.string yn,.int .i64 yp] 2 1 1 rfl
      have hwz:w.heap.size+1<=(w6.alloc (.cells #[.string yn,.int .i64 yp] 59)).heap.size:=Nat.le_trans G6.out.size hb8.size
      have HRW:=zh hrw;have HO8:=zh (own_below HO6.out hb8);have G8:=zh (G6.out.step hb8);have HUP:=zh (Ak HO6.out);have HWZ:=zh hwz
      clear hb8 hrw hwz
      go_wp2_with
       (at_builtin;go_must (refine Ah JQ rfl _ _ rfl (w.heap.size+1) L.length (.slice va L.length vc) (L.flatMap Own.Dw) rfl HO8.out (.slice (some ⟨w6.heap.size,0,none⟩) 1 1) 1 (Own.Dw (⟨yn,yp⟩:Own.KeyUse)) rfl HRW.out (Own.zcF (⟨yn,yp⟩:Own.KeyUse)) (by omega) (by omega) HWZ.out ?_);intro v9 w9 ho9 hg9 hw9;obtain⟨ya,ym,yc,rfl⟩:=Ac ho9;have HO9:=zh (show w9.ownsRow (w.heap.size+1) 59 2 (.slice ya ym yc) (L++[(⟨yn,yp⟩:Own.KeyUse)]).length ((L++[(⟨yn,yp⟩:Own.KeyUse)]).flatMap Own.Dw) by rw[List.length_append,List.flatMap_append];simpa using ho9);have G9:=zh (G8.out.far (O:=w.heap.size+1) (Nat.le_refl _) HUP.out hg9);clear ho9 hg9 hw9)
      exact⟨⟨k+1,false,_,_,by omega,by go_num,rfl,rfl,HNX.out,HO9.out,G9.out⟩,by simp[intOf];omega⟩
    | false =>
      obtain⟨h1,h2⟩:=HPL.out HPA.out hlb
      rw[<- HX.out] at h1 h2
      have HH1:=zh h1;have HH2:=zh h2
      clear h1 h2
      go_wp2
      refine Lex.zl ?_
      go_wp2
      refine Lex.ze ?_
      (try clear x00 x01)
      have G5:=zh G1.out.drew
      have HO5:=zh (Ae (w':=wr.drew) HO.out (fun k _=>by rw[Ez]))
      have hbd:Below wr.heap.size wr wr.drew:=(Below.refl _ _).drew
      replace e0:=(hbd.cell (p:=⟨b,o+k*2,none⟩) hbl).trans e0
      replace e1:=(hbd.cell (p:=⟨b,o+k*2+1,none⟩) hbl).trans e1
      replace hbl:b<wr.drew.heap.size:=by rw[Ez];exact hbl
      clear hbd
      generalize wr.drew=w5 at*
      obtain⟨x00,x01⟩:=G5.out.wH rfl
      have hb8:Below w5.heap.size w5 (w5.alloc (.cells #[.string xn,.int .i64 xp] 59)):=zb
      have hrw:=Cx w5 59 #[.string xn,.int .i64 xp] 2 1 1 rfl
      have hwz:w.heap.size+1<=(w5.alloc (.cells #[.string xn,.int .i64 xp] 59)).heap.size:=Nat.le_trans G5.out.size hb8.size
      have HRW:=zh hrw;have HO8:=zh (own_below HO5.out hb8);have G8:=zh (G5.out.step hb8);have HUP:=zh (Ak HO5.out);have HWZ:=zh hwz
      clear hb8 hrw hwz
      have HG8:=G8
      go_upto_region 9 with
       (at_builtin;go_must (refine Ah JQ rfl _ _ rfl (w.heap.size+1) L.length (.slice va L.length vc) (L.flatMap Own.Dw) rfl HO8.out (.slice (some ⟨w5.heap.size,0,none⟩) 1 1) 1 (Own.Dw (⟨xn,xp⟩:Own.KeyUse)) rfl HRW.out (Own.zcF (⟨xn,xp⟩:Own.KeyUse)) (by omega) (by omega) HWZ.out ?_);intro v9 w9 ho9 hg9 hw9;obtain⟨ya,ym,yc,rfl⟩:=Ac ho9;have HO9:=zh (show w9.ownsRow (w.heap.size+1) 59 2 (.slice ya ym yc) (L++[(⟨xn,xp⟩:Own.KeyUse)]).length ((L++[(⟨xn,xp⟩:Own.KeyUse)]).flatMap Own.Dw) by rw[List.length_append,List.flatMap_append];simpa using ho9);have G9:=zh (G8.out.far (O:=w.heap.size+1) (Nat.le_refl _) HUP.out hg9);clear ho9 hg9 hw9)
      obtain⟨L2,hL2⟩:∃ L2,L2=L++[(⟨xn,xp⟩:Own.KeyUse)]:=⟨_,rfl⟩
      rw[<- hL2] at HO9 HH1 HH2
      have zeB:L2.length<=1000002:=by rw[hL2,List.length_append];show L.length+1<=_;omega
      have hyl:=Ba HO9.out
      subst hyl
      clear hL2
      obtain⟨b',o',ha,zb7,f0,f1⟩:=Own.Du.cells (HL.out.below G9.out.under) hlt
      cases ha
      clear e0 e1 hbl
      rename_i hbl
      have hbl:=zb7
      rw[<- HY.out] at f0 f1
      dsimp only at f0 f1
      (try clear x00 x01)
      obtain⟨x00,x01⟩:=G9.out.wH rfl
      have e0:=f0;have e1:=f1
      clear f0 f1 zb7
      by_cases hq:yn=xn
      ·have hqq:(yn.toList==xn.toList)=true:=by rw[bytes_beq];exact decide_eq_true hq
       have HNX:=zh (HH1.out hq);clear hq
       go_wp2
       refine Lex.zl ?_
       go_wp2
       refine Lex.ze ?_
       (try clear x00 x01)
       have G10:=zh G9.out.drew
       have zaU:=zh (Ae (w':=w9.drew) HO9.out (fun k _=>by rw[Ez]))
       have hbd:Below w9.heap.size w9 w9.drew:=(Below.refl _ _).drew
       replace e0:=(hbd.cell (p:=⟨b,o+k*2,none⟩) hbl).trans e0
       replace e1:=(hbd.cell (p:=⟨b,o+k*2+1,none⟩) hbl).trans e1
       replace hbl:b<w9.drew.heap.size:=by rw[Ez];exact hbl
       clear hbd
       generalize w9.drew=w10 at*
       obtain⟨x00,x01⟩:=G10.out.wH rfl
       go_wp2
       exact⟨⟨k+1,true,_,_,by omega,by go_num,rfl,rfl,HNX.out,zaU.out,G10.out⟩,by simp[intOf];omega⟩
      ·have hqq:(yn.toList==xn.toList)=false:=by rw[bytes_beq];exact decide_eq_false hq
       have HNX:=zh (HH2.out hq);clear hq
       go_wp2
       refine Lex.zl ?_
       go_wp2
       refine Lex.ze ?_
       (try clear x00 x01)
       have G10:=zh G9.out.drew
       have zaU:=zh (Ae (w':=w9.drew) HO9.out (fun k _=>by rw[Ez]))
       have hbd:Below w9.heap.size w9 w9.drew:=(Below.refl _ _).drew
       replace e0:=(hbd.cell (p:=⟨b,o+k*2,none⟩) hbl).trans e0
       replace e1:=(hbd.cell (p:=⟨b,o+k*2+1,none⟩) hbl).trans e1
       replace hbl:b<w9.drew.heap.size:=by rw[Ez];exact hbl
       clear hbd
       generalize w9.drew=w10 at*
       obtain⟨x00,x01⟩:=G10.out.wH rfl
       have hb8:Below w10.heap.size w10 (w10.alloc (.cells #[.string yn,.int .i64 yp] 59)):=zb
       have hrw:=Cx w10 59 #[.string yn,.int .i64 yp] 2 1 1 rfl
       have hwz:w.heap.size+1<=(w10.alloc (.cells #[.string yn,.int .i64 yp] 59)).heap.size:=Nat.le_trans G10.out.size hb8.size
       have HRW:=zh hrw;have HO8:=zh (own_below zaU.out hb8);have G8:=zh (G10.out.step hb8);have HUP:=zh (Ak zaU.out);have HWZ:=zh hwz
       clear hb8 hrw hwz
       go_wp2_with
        (at_builtin;go_must (refine Ah JQ rfl _ _ rfl (w.heap.size+1) L2.length (.slice ya L2.length yc) (L2.flatMap Own.Dw) rfl HO8.out (.slice (some ⟨w10.heap.size,0,none⟩) 1 1) 1 (Own.Dw (⟨yn,yp⟩:Own.KeyUse)) rfl HRW.out (Own.zcF (⟨yn,yp⟩:Own.KeyUse)) (by omega) (by omega) HWZ.out ?_);intro v11 w11 ho9 hg9 hw9;obtain⟨za,zm,zc,rfl⟩:=Ac ho9;have yG:=zh (show w11.ownsRow (w.heap.size+1) 59 2 (.slice za zm zc) (L2++[(⟨yn,yp⟩:Own.KeyUse)]).length ((L2++[(⟨yn,yp⟩:Own.KeyUse)]).flatMap Own.Dw) by rw[List.length_append,List.flatMap_append];simpa using ho9);have G11:=zh (G8.out.far (O:=w.heap.size+1) (Nat.le_refl _) HUP.out hg9);clear ho9 hg9 hw9)
       exact⟨⟨k+1,true,_,_,by omega,by go_num,rfl,rfl,HNX.out,yG.out,G11.out⟩,by simp[intOf];omega⟩
end
section
open Go Go.RowKit Go.Maps
namespace Own
def Lm (s:Space)(msg:ByteArray)(K0:List KeyUse):List Ai->List KeyUse->List Ai->Except Int (List KeyUse)
 | _,K,[]=>.ok K
 | pre,K,a :: l => match find s.members a.name with
   | none=>.error 6
   | some m=>if pre.any (fun b=>decide (b.name=a.name)) then .error 5 else if Sig.verify m.pub msg a.sig then (if a.sig.index<Bf K0 m.pub then .error 8 else Lm s msg K0 (pre++[a]) (use K ⟨m.pub,a.sig.index+1⟩) l) else .error 18
def Q8 (s:Space)(msg:ByteArray)(K0:List KeyUse)(l:List Ai):Except Int (List KeyUse):=match Lm s msg K0 [] K0 l with
 | .error c=>.error c
 | .ok K=>if (l.length:Int)<s.threshold then .error 20 else .ok K
theorem zdi (l:List KeyUse)(x:KeyUse):(use l x).length<=l.length+1:=by
 induction l with
 | nil=>exact Nat.le_refl _
 | cons k l ih =>
   unfold use
   split
   ·rw[List.length_cons,List.length_cons];omega
   ·split
    ·rw[List.length_cons,List.length_cons];omega
    ·rw[List.length_cons,List.length_cons];omega
end Own
theorem vB (X:Nat->Prop)(o:Own.Ao)(s:Own.Space)(msg:ByteArray)(l:List Own.Ai)(sv kv mv lv:Value)(w:World)(hX:∀ k,X k->k<w.heap.size)(hS:Aq 3 Own.EI (fun k=>¬ X k) w sv o.spaces)(hK:Aq 2 Own.aQ (fun k=>¬ X k) w kv o.keys)(hm:Own.Af w mv s.members)(hA:Own.Hq w lv l)
 (hsrt:Own.Srt Own.KeyUse.pub o.keys) (hlk:o.keys.length+l.length<=900000) (hml:s.members.length<=3000000) (JF:msg.size<=140737488350000)
 (hal:∀ a∈l,a.sig.chains.length<=140737488355328/\a.sig.path.length<=140737488355328):
 Calls Tryz.prog 63 #[.agg #[.int .i64 o.count,sv,kv],.agg #[.string s.pre,mv,.int .i64 s.threshold],.string msg,lv] w (zdh X w o (Own.Q8 s msg o.keys l)):=by
 obtain⟨R,hR⟩:∃ R,R=Own.Q8 s msg o.keys l:=⟨_,rfl⟩
 obtain⟨Q,hQ⟩:∃ Q,Q=zdh X w o R:=⟨_,rfl⟩
 rw[<- hR,<- hQ]
 have HQ:=zh hQ;clear hQ
 obtain⟨R0,hR0⟩:∃ R0,R0=Own.Lm s msg o.keys [] o.keys l:=⟨_,rfl⟩
 unfold Own.Q8 at hR
 rw[<- hR0] at hR
 have HR:=zh hR;clear hR
 obtain⟨sa,sc,rfl⟩:=hS.len
 obtain⟨ka,kc,rfl⟩:=hK.len
 obtain⟨ma,mc,rfl⟩:=hm.len
 obtain⟨la,lc,rfl,hap⟩:=hA
 obtain⟨cnt,S,K0⟩:=o
 obtain⟨pre,M,th⟩:=s
 dsimp only at*
 have F1:=zh (show Au w _ [(25,#[.int .i64 cnt,.slice sa S.length sc,.slice ka K0.length kc]),(39,#[.string pre,.slice ma M.length mc,.int .i64 th]),(25,#[.int .i64 0,.slice none 0 0,.slice none 0 0]),(25,#[.int .i64 cnt,.slice sa S.length sc,.slice ka K0.length kc])] from(((((CY.nil w).push 25 #[.int .i64 cnt,.slice sa S.length sc,.slice ka K0.length kc]).push 39 #[.string pre,.slice ma M.length mc,.int .i64 th]).push 25 #[.int .i64 0,.slice none 0 0,.slice none 0 0]).push 25 #[.int .i64 cnt,.slice sa S.length sc,.slice ka K0.length kc]).boxes)
 have HS:=zh hS;have HK:=zh hK;have HM:=zh hm;have HA:=zh (show Own.Hq w (.slice la l.length lc) l from⟨la,lc,rfl,hap⟩);have HAL:=zh hal;have HX:=zh hX;have HK1:=zh hK
 clear hS hK hm hap hal hX
 have x00:((((w.alloc (.cells #[.int .i64 cnt,.slice sa S.length sc,.slice ka K0.length kc] 25)).alloc (.cells #[.string pre,.slice ma M.length mc,.int .i64 th] 39)).alloc (.cells #[.int .i64 0,.slice none 0 0,.slice none 0 0] 25)).alloc (.cells #[.int .i64 cnt,.slice sa S.length sc,.slice ka K0.length kc] 25)).cell? ⟨w.heap.size,0,none⟩=some (.int .i64 cnt):=F1.out.cell 0 0 rfl rfl
 have x01:((((w.alloc (.cells #[.int .i64 cnt,.slice sa S.length sc,.slice ka K0.length kc] 25)).alloc (.cells #[.string pre,.slice ma M.length mc,.int .i64 th] 39)).alloc (.cells #[.int .i64 0,.slice none 0 0,.slice none 0 0] 25)).alloc (.cells #[.int .i64 cnt,.slice sa S.length sc,.slice ka K0.length kc] 25)).cell? ⟨w.heap.size,1,none⟩=some (.slice sa S.length sc):=F1.out.cell 0 1 rfl rfl
 have x02:((((w.alloc (.cells #[.int .i64 cnt,.slice sa S.length sc,.slice ka K0.length kc] 25)).alloc (.cells #[.string pre,.slice ma M.length mc,.int .i64 th] 39)).alloc (.cells #[.int .i64 0,.slice none 0 0,.slice none 0 0] 25)).alloc (.cells #[.int .i64 cnt,.slice sa S.length sc,.slice ka K0.length kc] 25)).cell? ⟨w.heap.size,2,none⟩=some (.slice ka K0.length kc):=F1.out.cell 0 2 rfl rfl
 go_enter Tryz.func63,Tryz.ntmps63
 go_wp2_with fail
 generalize ((((w.alloc (.cells #[.int .i64 cnt,.slice sa S.length sc,.slice ka K0.length kc] 25)).alloc (.cells #[.string pre,.slice ma M.length mc,.int .i64 th] 39)).alloc (.cells #[.int .i64 0,.slice none 0 0,.slice none 0 0] 25)).alloc (.cells #[.int .i64 cnt,.slice sa S.length sc,.slice ka K0.length kc] 25))=w1 at*
 (try clear x00);(try clear x01);(try clear x02)
 obtain⟨AR,hAR⟩:∃ AR,AR=Own.Lm ⟨pre,M,th⟩ msg K0:=⟨_,rfl⟩
 rw[<- hAR] at hR0
 have hnil:∀ p K,AR p K []=.ok K:=fun p K=>by rw[hAR];rfl
 have Rv:∀ p K a l,AR p K (a::l)=(match Own.find M a.name with
  | none=>.error 6
  | some m=>if p.any (fun b=>decide (b.name=a.name)) then .error 5 else if Sig.verify m.pub msg a.sig then (if a.sig.index<Own.Bf K0 m.pub then .error 8 else AR (p++[a]) (Own.use K ⟨m.pub,a.sig.index+1⟩) l) else .error 18):=fun p K a l=>by rw[hAR];rfl
 have zeC:=zh hnil;have zer:=zh Rv
 clear hAR hnil Rv
 go_loopw [11] (fun i wr=>∃ (k:Nat) (Kc:List Own.KeyUse) (kvc:Value),k<=l.length/\i=.int .i64 k/\R0=AR (l.take k) Kc (l.drop k)/\Own.Srt Own.KeyUse.pub Kc/\Kc.length<=K0.length+k/\Aq 2 Own.aQ (fun k=>¬ (X k\/(w.heap.size<=k/\k<w.heap.size+4))) wr kvc Kc/\Au w wr [(25,#[.int .i64 cnt,.slice sa S.length sc,.slice ka K0.length kc]),(39,#[.string pre,.slice ma M.length mc,.int .i64 th]),(25,#[.int .i64 0,.slice none 0 0,.slice none 0 0]),(25,#[.int .i64 cnt,.slice sa S.length sc,kvc])]) (fun i _=>l.length-(intOf i).toNat)
 case atStart=>exact⟨0,K0,_,by omega,rfl,hR0,hsrt,by omega,(HK1.out.mono (fun k hx hk h=>h.elim hx (fun h=>by omega))).below F1.out.under,F1.out⟩
 case round=>
  obtain⟨k,Kc,kvc,hk,rfl,hr,hsr,hkl,hkc,hbx⟩:=hrel
  obtain⟨kca,kcc,rfl⟩:=hkc.len
  have HRK:=zh hr;have HSR:=zh hsr;have HKC:=zh hkc;have G1:=zh hbx
  clear hr hsr hkc hbx HK1 F1 hR0
  by_cases hlt:k<l.length
  case neg=>
   have hke:k=l.length:=by omega
   have dk:decide ((k:Int)<l.length)=false:=zf
   have e:R=if (l.length:Int)<th then .error 20 else .ok Kc:=by
    rw[HR.out,HRK.out,hke,List.drop_length,zeC.out]
   have HE0:=zh e
   clear e hke
   obtain⟨x10,x11,x12⟩:=G1.out.sI rfl
   obtain⟨x20,x21,x22,FK,FL,FM⟩:=G1.out.Oh rfl
   obtain⟨x30,x31,x32⟩:=G1.out.zeA rfl
   by_cases h20:(l.length:Int)<th
   ·have d20:decide ((l.length:Int)<th)=true:=decide_eq_true h20
    have HE:=zh (show R=.error 20 by rw[HE0.out,if_pos h20]);clear h20
    go_wp2
    have G2:=(((G1.out.put 2 0 (.int .i64 0) rfl).put 2 1 (.slice none 0 0) rfl).put 2 2 (.slice none 0 0) rfl)
    refine BJ rfl rfl rfl (AJ (G2.at1 2 rfl) Tryz.underlying25 rfl Bt) ?_
    rw[HQ.out,HE.out]
    exact⟨rfl,G2.under⟩
   ·have d20:decide ((l.length:Int)<th)=false:=decide_eq_false h20
    have HE:=zh (show R=.ok Kc by rw[HE0.out,if_neg h20]);clear h20
    go_wp2
    have G2:=(((G1.out.put 2 0 (.int .i64 cnt) rfl).put 2 1 (.slice sa S.length sc) rfl).put 2 2 (.slice kca Kc.length kcc) rfl)
    refine BJ rfl rfl rfl (AJ (G2.at1 2 rfl) Tryz.underlying25 rfl Bt) ?_
    rw[HQ.out,HE.out]
    refine⟨⟨_,_,rfl,HS.out.below G2.under,?_⟩,G2.under⟩
    refine(HKC.out.keep (by simp[World.setCell]) (fun j hj _=>?_)).mono (fun j hj _ h=>hj (.inl h))
    have hj1:j≠w.heap.size+1+1:=fun e=>hj (.inr (by omega))
    rw[zo hj1,zo hj1,zo hj1]
  have dk:decide ((k:Int)<l.length)=true:=zt
  obtain⟨_,_,hae,hap⟩:=HA.out.below G1.out.under
  cases hae
  obtain⟨b,o,cv,pv,ha,hbl,e0,e1,e2,e3,hcs,hps,hcap⟩:=hap k hlt
  have hdr:l.drop k=l[k]::l.drop (k+1):=List.drop_eq_getElem_cons hlt
  have htk:l.take (k+1)=l.take k++[l[k]]:=List.take_succ_eq_append_getElem hlt
  have hall:=HAL.out l[k] (List.getElem_mem hlt)
  have JL:∀ j (hj:j<k),wr.cell? ⟨b,o+j*4,none⟩=some (.string (l[j]'(by omega)).name):=by
   intro j hj
   obtain⟨b',o',_,_,ha',_,f0,_⟩:=hap j (by omega)
   rw[ha] at ha'
   cases ha'
   exact f0
  have hr2:=HRK.out
  rw[hdr,zer.out] at hr2
  subst ha
  obtain⟨y,hy⟩:∃ y,y=l[k]:=⟨_,rfl⟩
  rw[<- hy] at e0 e1 hcs hps hall hr2 htk
  obtain⟨nm,⟨ix,chs,pth⟩⟩:=y
  dsimp only at e0 e1 hcs hps hall hr2
  obtain⟨ca,cc,rfl⟩:=hcs.len
  obtain⟨pa,pc,rfl⟩:=hps.len
  have HCS:=zh hcs;have HPS:=zh hps;have RH:=zh JL;have HR2:=zh hr2;have HTK:=zh htk;have HCAP:=zh hcap;have HY:=zh hy
  clear hap hdr hcs hps JL hr2 htk hy hcap HRK
  obtain⟨x10,x11,x12⟩:=G1.out.sI rfl
  obtain⟨x20,x21,x22,FK,FL,FM⟩:=G1.out.Oh rfl
  have HMM:=zh (dO (.slice ma M.length mc) M nm wr.drew (HM.out.below (G1.out.under.trans ((Below.refl wr.heap.size wr).drew.mono G1.out.under.size))) (by omega))
  go_wp2
  refine Lex.zl ?_
  go_wp2_with fail
  refine HMM.out.mono ?_
  rintro e w5 ⟨⟨mi,rfl,hmi⟩,hb5⟩
  have TF : Below wr.heap.size wr w5:=(Below.refl wr.heap.size wr).drew.trans hb5
  have G5:=zh (G1.out.step TF);have HB5:=zh TF;have zeD:=zh (HKC.out.below TF)
  (try clear x00);(try clear x01);(try clear x02);(try clear x10 x11 x12);(try clear x20 x21 x22 FK FL FM);(try clear x30);(try clear x31);(try clear x32)
  clear hb5 TF HMM
  obtain⟨x10,x11,x12⟩:=G5.out.sI rfl
  obtain⟨x20,x21,x22,FK,FL,FM⟩:=G5.out.Oh rfl
  go_wp2
  refine Lex.ze ?_
  rcases hmi with ⟨rfl,hf,_⟩|⟨mj,hmj,rfl,hf,_,_⟩
  ·have e:R0=.error 6:=by rw[HR2.out];unfold Own.find;rw[hf]
   have HE:=zh (show R=.error 6 by rw[HR.out,e]);clear e hf
   go_wp2
   have G2:=(((G5.out.put 2 0 (.int .i64 0) rfl).put 2 1 (.slice none 0 0) rfl).put 2 2 (.slice none 0 0) rfl)
   refine BJ rfl rfl rfl (AJ (G2.at1 2 rfl) Tryz.underlying25 rfl Bt) ?_
   rw[HQ.out,HE.out]
   exact⟨rfl,G2.under⟩
  have hr3:=HR2.out
  unfold Own.find at hr3
  rw[hf] at hr3
  dsimp only at hr3
  obtain⟨mb,mo,hma,zeE,m0,m1⟩:=Own.Af.cells (HM.out.below G5.out.under) hmj
  obtain⟨pub,vM⟩:∃ x,x=M[mj].pub:=⟨_,rfl⟩
  rw[<- vM] at m1 hr3
  have dm:decide ((mj:Int)<0)=false:=zf
  have HR3:=zh hr3;have M1:=zh m1;have HMA:=zh hma
  clear hr3 m0 hf vM m1 hma
  have e0':=(HB5.out.cell (p:=⟨b,o+k*4,none⟩) hbl).trans e0
  go_upto_region 8 with fail
  go_wp2_with fail
  (try clear x00);(try clear x01);(try clear x02);(try clear x10 x11 x12);(try clear x20 x21 x22 FK FL FM);(try clear x30);(try clear x31);(try clear x32)
  clear e0'
  obtain⟨w4,hw4⟩:∃ w4,w4=wr:=⟨_,rfl⟩
  subst hw4
  go_loopw [13] (fun n wr=>∃ j:Nat,j<=k/\n=.int .i64 j/\(∀ i (hi:i<l.length),i<j->decide (l[i].name=nm)=false)/\Below w5.heap.size w5 wr) (fun n _=>k-(intOf n).toNat)
  case atStart=>exact⟨0,by omega,rfl,(fun i _ h=>absurd h (by omega)),Below.refl _ _⟩
  case round=>
   obtain⟨j,hj,rfl,hno,hb⟩:=hrel
   have b6:=HB5.out.trans (hb.mono HB5.out.size)
   have HNO:=zh hno;have G6:=zh (G5.out.step hb);have HB6:=zh b6;have HB:=zh hb
   replace e0:=(b6.cell (p:=⟨b,o+k*4,none⟩) hbl).trans e0
   replace e1:=(b6.cell (p:=⟨b,o+k*4+1,none⟩) hbl).trans e1
   replace e2:=(b6.cell (p:=⟨b,o+k*4+2,none⟩) hbl).trans e2
   replace e3:=(b6.cell (p:=⟨b,o+k*4+3,none⟩) hbl).trans e3
   by_cases hjk:j<k
   ·have dj:decide ((j:Int)<(k:Int))=true:=zt
    have f0:=(b6.cell (p:=⟨b,o+j*4,none⟩) hbl).trans (RH.out j hjk)
    have hjl:j<l.length:=by omega
    have hq:(l[j].name.toList==nm.toList)=decide (l[j].name=nm):=bytes_beq
    obtain⟨x,hx⟩:∃ x,x=l[j].name:=⟨_,rfl⟩
    rw[<- hx] at f0 hq
    have HXN:=zh hx;have HQQ:=zh hq
    clear hx hq hno hb b6 e1 e2 e3
    cases hc:(x.toList==nm.toList) with
    | true =>
      have hany:(l.take k).any (fun b=>decide (b.name=nm))=true:=by
       refine List.any_eq_true.2 ⟨l[j],?_,?_⟩
       ·have:(l.take k)[j]'(by rw[List.length_take];omega)=l[j]:=List.getElem_take
        rw[<- this]
        exact List.getElem_mem _
       ·rw[<- HXN.out,<- HQQ.out,hc]
      have e:R0=.error 5:=by rw[HR3.out,hany,if_pos rfl]
      have HE:=zh (show R=.error 5 by rw[HR.out,e]);clear e hany
      obtain⟨x20,x21,x22,FK,FL,FM⟩:=G6.out.Oh rfl
      go_wp2
      refine Lex.zl ?_
      go_wp2
      refine Lex.ze ?_
      have G7:=zh G6.out.drew
      go_wp2
      have G2:=((((G7.out.put 2 0 (.int .i64 0) rfl).put 2 1 (.slice none 0 0) rfl).put 2 2 (.slice none 0 0) rfl))
      refine BJ rfl rfl rfl (AJ (G2.at1 2 rfl) Tryz.underlying25 rfl Bt) ?_
      rw[HQ.out,HE.out]
      exact⟨rfl,G2.under⟩
    | false =>
      have hn2:∀ i (hi:i<l.length),i<j+1->decide (l[i].name=nm)=false:=fun i hi hij=>by
       rcases(by omega:i<j\/i=j) with h1|rfl
       ·exact HNO.out i hi h1
       ·rw[<- HXN.out,<- HQQ.out,hc]
      have HN2:=zh hn2;clear hn2
      have HBD:=zh HB.out.drew
      go_wp2
      refine Lex.zl ?_
      go_wp2
      refine Lex.ze ?_
      go_wp2
      exact⟨⟨j+1,by omega,by go_num,HN2.out,HBD.out⟩,by simp[intOf];omega⟩
   have dj:decide ((j:Int)<(k:Int))=false:=zf
   have hany:(l.take k).any (fun b=>decide (b.name=nm))=false:=by
    rw[List.any_eq_false]
    intro x hx
    obtain⟨i,hi,rfl⟩:=List.getElem_of_mem hx
    have hik:i<k:=by rw[List.length_take] at hi;omega
    rw[List.getElem_take,hno i (by omega) (by omega)]
    exact Bool.false_ne_true
   have hr3:=HR3.out
   rw[hany,if_neg Bool.false_ne_true] at hr3
   obtain⟨VB,hVB⟩:∃ VB,VB=Sig.verify pub msg ⟨ix,chs,pth⟩:=⟨_,rfl⟩
   rw[<- hVB] at hr3
   have xL:=zbZ pub msg ⟨ix,chs,pth⟩ (.slice ca chs.length cc) (.slice pa pth.length pc) wr (HCS.out.below b6) (HPS.out.below b6) HCAP.out hall.1 hall.2 JF
   simp only[<- hVB] at xL
   have m1:=(hb.cell (p:=⟨mb,mo+mj*2+1,none⟩) zeE).trans M1.out
   obtain⟨x10,x11,x12⟩:=G6.out.sI rfl
   obtain⟨x20,x21,x22,FK,FL,FM⟩:=G6.out.Oh rfl
   have hma:=HMA.out
   subst hma
   have xM:=zh xL;have HR4:=zh hr3;have HVB:=zh hVB;have zeF:=zh (zeD.out.below hb)
   clear hany hr3 xL hVB hno hb b6
   go_wp2_with fail
   refine xM.out.mono ?_
   rintro e w7 ⟨rfl,hb7⟩
   have G7:=zh (G6.out.step hb7);have zeG:=zh (zeF.out.below hb7)
   replace e1:=(hb7.cell (p:=⟨b,o+k*4+1,none⟩) (Nat.lt_of_lt_of_le hbl HB6.out.size)).trans e1
   have zeb:b<w7.heap.size:=Nat.lt_of_lt_of_le (Nat.lt_of_lt_of_le hbl HB6.out.size) hb7.size
   (try clear x10 x11 x12)
   (try clear x00);(try clear x01);(try clear x02);(try clear x10 x11 x12);(try clear x20 x21 x22 FK FL FM);(try clear x30);(try clear x31);(try clear x32)
   clear e0 e2 e3 hb7 xM m1
   obtain⟨x00,x01,x02⟩:=G7.out.Fw rfl
   obtain⟨x20,x21,x22,FK,FL,FM⟩:=G7.out.Oh rfl
   cases VB with
   | false =>
     have e:R0=.error 18:=by rw[HR4.out];rfl
     have HE:=zh (show R=.error 18 by rw[HR.out,e]);clear e
     go_wp2
     have G2:=(((G7.out.put 2 0 (.int .i64 0) rfl).put 2 1 (.slice none 0 0) rfl).put 2 2 (.slice none 0 0) rfl)
     refine BJ rfl rfl rfl (AJ (G2.at1 2 rfl) Tryz.underlying25 rfl Bt) ?_
     rw[HQ.out,HE.out]
     exact⟨rfl,G2.under⟩
   | true=>
   have hvl:=Own.iW HVB.out.symm
   have hr5:=HR4.out
   rw[if_pos rfl] at hr5
   obtain⟨NX,hNX⟩:∃ NX,NX=Own.Bf K0 pub:=⟨_,rfl⟩
   rw[<- hNX] at hr5
   have zec:=zcA cnt (.slice sa S.length sc) (.slice ka K0.length kc) K0 pub w7.drew (HK.out.mono (fun _ _ _=>trivial) |>.below (G7.out.under.trans ((Below.refl w7.heap.size w7).drew.mono G7.out.under.size))) (by omega)
   rw[<- hNX] at zec
   dsimp only at hvl
   have zeH:=zh zec;have HR5:=zh hr5
   have HXS:=zh (zi e1)
   clear zec hr5 hNX
   go_wp2
   refine Lex.zn (fun j=>j=b) [5] 9 [9] ?_
   simp only[Lex.Bp,zd]
   go_wp2_with fail
   refine zeH.out.mono ?_
   rintro e w8 ⟨rfl,hb8⟩
   have zd0 : Below w7.heap.size w7 w8:=(Below.refl w7.heap.size w7).drew.trans hb8
   have G8:=zh (G7.out.step zd0);have zeI:=zh (zeG.out.below zd0);have HB8:=zh zd0
   replace e1:=(zd0.cell (p:=⟨b,o+k*4+1,none⟩) zeb).trans e1
   (try clear x00);(try clear x01);(try clear x02);(try clear x10 x11 x12);(try clear x20 x21 x22 FK FL FM);(try clear x30);(try clear x31);(try clear x32)
   clear hb8 zd0
   have hR5:=HR5.out
   by_cases hnx:ix<NX
   ·have d8:decide (ix<NX)=true:=decide_eq_true hnx
    have HE:=zh (show R=.error 8 by rw[HR.out,hR5,if_pos hnx]);clear hR5 hnx
    go_wp2
    refine Lex.Mid.intro (fun j hj _=>by rw[hj];exact HB8.out.block _ zeb) ?_
    go_wp2
    refine Lex.zk ⟨⟨rfl,HXS.out⟩,trivial⟩ ?_
    obtain⟨x20,x21,x22,FK,FL,FM⟩:=G8.out.Oh rfl
    go_wp2
    have G2:=(((G8.out.put 2 0 (.int .i64 0) rfl).put 2 1 (.slice none 0 0) rfl).put 2 2 (.slice none 0 0) rfl)
    refine BJ rfl rfl rfl (AJ (G2.at1 2 rfl) Tryz.underlying25 rfl Bt) ?_
    rw[HQ.out,HE.out]
    exact⟨rfl,G2.under⟩
   have d8:decide (ix<NX)=false:=decide_eq_false hnx
   have hr6:=hR5
   rw[if_neg hnx,<- HTK.out] at hr6
   have HR6:=zh hr6
   have HWX:=zh (show wrap64 (ix+1)=ix+1 by unfold wrap64;omega)
   clear hr6 hR5 hnx
   go_wp2
   refine Lex.Mid.intro (fun j hj _=>by rw[hj];exact HB8.out.block _ zeb) ?_
   go_wp2
   refine Lex.zk ⟨⟨rfl,HXS.out⟩,trivial⟩ ?_
   obtain⟨x30,x31,x32,zes,zet,zeu⟩:=G8.out.zeo rfl
   have hz8:w.heap.size+4<=w8.heap.size:=G8.out.size
   have zed:=zcX (.slice kca Kc.length kcc) Kc ⟨pub,ix+1⟩ w8.drew ((zeI.out.mono (fun _ _ _=>trivial)).below (Below.refl w8.heap.size w8).drew) HSR.out (by omega)
   rw[Ez] at zed
   have zeJ:=zh zed
   clear zed
   go_wp2
   refine Lex.zl ?_
   go_wp2_with (rw[HWX.out])
   refine zeJ.out.mono ?_
   rintro e w9 ⟨v',rfl,hov,hb9⟩
   obtain⟨ua,um,uc,rfl⟩:=Ac hov
   obtain rfl:=Ba hov
   have zev : Below w8.heap.size w8 w9:=(Below.refl w8.heap.size w8).drew.trans hb9
   have G9:=zh (G8.out.step zev);have HOV:=zh hov
   (try clear x00);(try clear x01);(try clear x02);(try clear x10 x11 x12);(try clear x20 x21 x22 FK FL FM);(try clear zes);(try clear x30);(try clear zet);(try clear x31);(try clear zeu);(try clear x32)
   clear hb9 zev hov e1
   obtain⟨x30,x31,x32,zes,zet,zeu⟩:=G9.out.zeo rfl
   go_wp2
   refine Lex.ze ?_
   go_wp2_with fail
   have ekl:(Own.Dj Own.KeyUse.pub ⟨pub,ix+1⟩ Kc)=Own.use Kc ⟨pub,ix+1⟩:=(Own.EP _ _).symm
   refine⟨⟨k+1,Own.Dj Own.KeyUse.pub ⟨pub,ix+1⟩ Kc,.slice ua _ uc,by omega,by go_num,?_,HSR.out.put _,?_,?_,G9.out.put 3 2 _ rfl⟩,by simp[intOf];omega⟩
   ·rw[ekl];exact HR6.out
   ·rw[ekl]
    have:=Own.zdi Kc ⟨pub,ix+1⟩
    omega
   ·refine Cq (enc:=Own.Dw) (fun _=>rfl) (fun _=>rfl) (Bc.own (Ae HOV.out (fun j hj=>?_))) rfl (fun j hj=>?_)
    ·have:=Ak HOV.out j hj
     exact zo (by show j≠w.heap.size+1+1+1;omega)
    ·have h1:=Ak HOV.out j hj
     rintro(h|h)
     ·have:=HX.out j h
      omega
     ·omega
end
section
open Go
namespace Own
theorem zbF:∀ {K:List KeyUse},Srt KeyUse.pub K->∀ (x:KeyUse) (p:ByteArray),Bf (use K x) p=if x.pub=p then x.next else Bf K p
 | [],_,x,p => by
   unfold use Bf
   by_cases h:x.pub=p
   ·rw[if_pos h];simp[h]
   ·rw[if_neg h];simp[h]
 | k :: K,hs,x,p => by
   have hs':=List.pairwise_cons.1 hs
   have Rv:∀ (y:KeyUse) (l:List KeyUse),Bf (y::l) p=if y.pub=p then y.next else Bf l p:=fun y l=>by
    unfold Bf
    by_cases h:y.pub=p
    ·rw[if_pos h];simp[h]
    ·rw[if_neg h];simp[h]
   unfold use
   by_cases h1:Aj k.pub x.pub=true
   ·rw[if_pos h1,Rv,Rv,zbF hs'.2 x p]
    by_cases hk:k.pub=p
    ·rw[if_pos hk,if_pos hk]
     rw[if_neg (fun hx=>by rw[hk,hx,BP] at h1;cases h1)]
    ·rw[if_neg hk,if_neg hk]
   ·rw[if_neg h1]
    by_cases h2:k.pub=x.pub
    ·rw[if_pos h2,Rv,Rv]
     by_cases hx:x.pub=p
     ·rw[if_pos hx,if_pos hx]
     ·rw[if_neg hx,if_neg hx,if_neg (by rw[h2];exact hx)]
    ·rw[if_neg h2,Rv]
theorem zbG:∀ {l pre:List Member},Am pre l=true->l.Pairwise (fun x y=>x.pub≠y.pub)/\∀ x∈pre,∀ y∈l,x.pub≠y.pub
 | [],_,_=>⟨List.Pairwise.nil,fun _ _ y hy=>by cases hy⟩
 | m :: l,pre,h => by
   unfold Am CX at h
   simp only[Bool.and_eq_true,Bool.not_eq_true',List.any_eq_false,decide_eq_true_eq] at h
   obtain⟨⟨⟨_,h1⟩,_⟩,h2⟩:=h
   obtain⟨h3,h4⟩:=zbG h2
   refine⟨List.pairwise_cons.2 ⟨fun y hy=>h4 m (by simp) y hy,h3⟩,fun x hx y hy=>?_⟩
   rcases List.mem_cons.1 hy with rfl|hy
   ·exact h1 x hx
   ·exact h4 x (by simp[hx]) y hy
theorem zcI {l:List Member}(h:Co l=true){x y:Member}(hx:x∈l)(hy:y∈l)(e:x.pub=y.pub):x=y:=by
 unfold Co at h
 simp only[Bool.and_eq_true] at h
 have hp:=(zbG h.2).1
 obtain⟨i,hi,rfl⟩:=List.mem_iff_getElem.1 hx
 obtain⟨j,hj,rfl⟩:=List.mem_iff_getElem.1 hy
 rcases Nat.lt_trichotomy i j with g|g|g
 ·exact absurd e (List.pairwise_iff_getElem.1 hp i j hi hj g)
 ·subst g;rfl
 ·exact absurd e.symm (List.pairwise_iff_getElem.1 hp j i hj hi g)
theorem zak (s:Space)(msg:ByteArray)(hm:Co s.members=true)(K0:List KeyUse):∀ (l:List Ai) (seen:List ByteArray) (pre:List Ai) (K:List KeyUse),Srt KeyUse.pub K->
 (∀ x,x∈seen↔∃ b∈pre,b.name=x)->(∀ m∈s.members,m.name ∉ seen->Bf K m.pub=Bf K0 m.pub)->Bl s msg seen K l=Lm s msg K0 pre K l
 | [],_,_,_,_,_,_=>rfl
 | a :: l,seen,pre,K,hs,he,hn => by
   unfold Bl Lm
   cases hf:find s.members a.name with
   | none=>rfl
   | some m =>
     dsimp only
     have hmm:m∈s.members:=List.mem_of_find?_eq_some hf
     have hmn:m.name=a.name:=by simpa using List.find?_some hf
     have e1:(seen.any fun x=>decide (x=a.name))=(pre.any fun b=>decide (b.name=a.name)):=by
      rw[Bool.eq_iff_iff,List.any_eq_true,List.any_eq_true]
      constructor
      ·rintro⟨x,hx,hxa⟩
       obtain⟨b,hb,rfl⟩:=(he x).1 hx
       exact⟨b,hb,hxa⟩
      ·rintro⟨b,hb,hba⟩
       exact⟨b.name,(he _).2 ⟨b,hb,rfl⟩,hba⟩
     rw[e1]
     cases zew:(pre.any fun b=>decide (b.name=a.name)) with
     | true=>rfl
     | false =>
       have hns:m.name ∉ seen:=fun h=>by
        rw[hmn] at h
        have:(seen.any fun x=>decide (x=a.name))=true:=List.any_eq_true.2 ⟨_,h,by simp⟩
        rw[e1,zew] at this
        cases this
       simp only[Bool.false_eq_true,if_false,hn m hmm hns]
       cases Sig.verify m.pub msg a.sig with
       | false=>rfl
       | true =>
         simp only[if_true]
         by_cases hx:a.sig.index<Bf K0 m.pub
         ·rw[if_pos hx,if_pos hx]
         ·rw[if_neg hx,if_neg hx]
          refine zak s msg hm K0 l _ _ _ (by rw[EP];exact hs.put _) (fun x=>?_) (fun m' hm' hn' => ?_)
          ·simp only[List.mem_cons,List.mem_append,List.not_mem_nil,or_false,he x]
           constructor
           ·rintro(rfl|⟨b,hb,rfl⟩)
            ·exact⟨a,.inr rfl,rfl⟩
            ·exact⟨b,.inl hb,rfl⟩
           ·rintro⟨b,hb|rfl,rfl⟩
            ·exact .inr ⟨b,hb,rfl⟩
            ·exact .inl rfl
          ·simp only[List.mem_cons,not_or] at hn'
           rw[zbF hs,if_neg (fun e=>hn'.1 (by rw[<- zcI hm hmm hm' e,hmn])),hn m' hm' hn'.2]
end Own
end
section
open Go Go.RowKit Go.Maps
namespace Own
theorem dP (s:Space)(msg:ByteArray):∀ (l:List Ai) (seen:List ByteArray) (K K' : List KeyUse),Bl s msg seen K l=.ok K' -> K'.length<=K.length+l.length
 | [],seen,K,K',h => by
   unfold Bl at h
   cases h
   simp
 | a :: l,seen,K,K',h => by
   unfold Bl at h
   split at h
   ·cases h
   ·split at h
    ·cases h
    ·split at h
     ·split at h
      ·cases h
      ·have h1:=dP s msg l _ _ _ h
       have h2:=fun p=>zdi K ⟨p,a.sig.index+1⟩
       rw[List.length_cons]
       exact Nat.le_trans h1 (Nat.le_trans (Nat.add_le_add_right (h2 _) _) (by omega))
     ·cases h
end Own
end
section
open Go
namespace Own
theorem zal {p q:ByteArray}(h:belongs p q=true)(hn:q≠p):q.size<p.size:=by
 unfold belongs at h
 rw[Bool.or_eq_true,decide_eq_true_eq] at h
 rcases h with h|h
 ·exact absurd h.symm hn
 ·have h1:=(List.isPrefixOf_iff_prefix.1 h).length_le
  rw[List.length_append,Sha.Bo,List.length_singleton] at h1
  have h2:p.data.toList.length=p.size:=Sha.Bo p
  omega
theorem zcJ {p:ByteArray}{s:Space}(hs:s.pre=p):∀ l:List Space,CB p (some s) l=some s
 | []=>rfl
 | x :: l => by
   unfold CB
   have h:(belongs p x.pre&&decide (s.pre.size<x.pre.size))=false:=by
    cases h1:belongs p x.pre with
    | false=>rfl
    | true =>
      rw[Bool.true_and]
      by_cases e:x.pre=p
      ·rw[hs,e];exact zf
      ·have:=zal h1 e
       rw[hs];exact zf
   dsimp only
   rw[h,if_neg (by simp)]
   exact zcJ hs l
theorem zd1 (p:ByteArray)(b:Option Space)(x:Space):RU p b x=b\/(RU p b x=some x/\belongs p x.pre=true):=by
 unfold RU
 split
 ·rename_i h
  rw[Bool.and_eq_true] at h
  exact .inr ⟨rfl,h.1⟩
 ·exact .inl rfl
theorem zdl {p:ByteArray}{b:Option Space}{x:Space}(h:belongs p x.pre=true)(hb:∀ y,b=some y->y.pre.size<x.pre.size):RU p b x=some x:=by
 unfold RU
 rw[h,Bool.true_and]
 cases b with
 | none=>rfl
 | some y=>exact if_pos (decide_eq_true (hb y rfl))
theorem Rf {p:ByteArray}{s:Space} : ∀ (l:List Space) (b:Option Space),(∀ y,b=some y->y.pre.size<p.size)->GA l p=some s->CB p b l=some s
 | [],b,_,h=>by cases h
 | x :: l,b,hb,h => by
   unfold GA at h
   rw[LQ]
   by_cases e:x.pre=p
   ·rw[List.find?_cons_of_pos (by simpa using e)] at h
    have h2:x=s:=Option.some.inj h
    subst h2
    rw[zdl (by rw[e];exact WB p) (by rw[e];exact hb)]
    exact zcJ e l
   ·rw[List.find?_cons_of_neg (by simpa using e)] at h
    rcases zd1 p b x with h2|⟨h2,h3⟩
    ·rw[h2]
     exact Rf l b hb h
    ·rw[h2]
     exact Rf l _ (fun y hy=>by cases hy;exact zal h3 e) h
theorem zdm {o:Ao}{p:ByteArray}(ho:Bv o=true)(hp:BI p=true):authority o p=CB p none o.spaces:=by
 unfold authority
 rw[ho,hp]
 rfl
theorem zcf {op:Op}(h:Eh op=true):BI op.pre=true/\0<=op.kind/\op.kind<=4:=by
 unfold Eh at h
 simp only[Bool.and_eq_true,decide_eq_true_eq] at h
 exact⟨h.1.1.1.2,h.1.1.1.1.1,h.1.1.1.1.2⟩
theorem zca {o:Ao}{x:Space}(ho:Rt o)(hm:KO x.members)(msg:ByteArray)(l:List Ai):AO x msg o.keys l=Q8 x msg o.keys l:=by
 unfold AO Q8
 rw[zak x msg (KO.iff.2 hm) o.keys l [] [] o.keys ho.sD (fun y=>by simp) (fun _ _ _=>rfl)]
 cases Lm x msg o.keys [] o.keys l<;>rfl
def zdD (o:Ao)(msg:ByteArray)(aps:List Ai):Except Int (Space × List Space)->Ao × Int
 | .error c=>(.none,c)
 | .ok (s,l) => match AO s msg o.keys aps with
   | .error c=>(.none,c)
   | .ok K=>(⟨o.count+1,l,K⟩,0)
theorem zcZ (o:Ao)(op:Op):Cg o op=if (Bv o&&Eh op)=false then (.none,1) else if o.count=late then (.none,7) else zdD o (AZ o op).1 op.Aa (Fh o.spaces op):=by
 unfold Cg
 cases Fh o.spaces op with
 | error c=>rfl
 | ok p=>rfl
theorem Idx.det {α : Type}{p : α -> Bool}{l:List α}{i i' : Int}(h:Idx p l i)(h' : Idx p l i'):i=i':=by
 rcases h with ⟨rfl,hn,_⟩|⟨j,hj,rfl,hf,hp,hb⟩<;>rcases h' with ⟨rfl,hn',_⟩|⟨j',hj',rfl,hf',hp',hb'⟩
 ·rfl
 ·rw[hn] at hf';cases hf'
 ·rw[hn'] at hf;cases hf
 ·rcases Nat.lt_trichotomy j j' with h|h|h
  ·rw[hb' j h] at hp;cases hp
  ·rw[h]
  ·rw[hb j' h] at hp';cases hp'
theorem zbH {l:List Member}(h:KO l){a b:Nat}(ha:a<l.length)(hb:b<l.length)(e:l[a].name=l[b].name):a=b:=by
 have hs:=List.pairwise_iff_getElem.1 h.srt
 rcases Nat.lt_trichotomy a b with g|g|g
 ·have:=hs a b ha hb g;rw[e,BP] at this;cases this
 ·exact g
 ·have:=hs b a hb ha g;rw[e,BP] at this;cases this
theorem zdE {l:List Member}(h:KO l){k:Nat}(hk:k<l.length)(pb:ByteArray):l.any (fun x => !decide (x.name=l[k].name)&&decide (x.pub=pb))=true↔∃ q,∃ hq:q<l.length,q≠k/\l[q].pub=pb:=by
 rw[List.any_eq_true]
 constructor
 ·rintro⟨x,hx,h2⟩
  obtain⟨q,hq,rfl⟩:=List.getElem_of_mem hx
  simp only[Bool.and_eq_true,Bool.not_eq_true',decide_eq_false_iff_not,decide_eq_true_eq] at h2
  refine⟨q,hq,fun e=>h2.1 ?_,h2.2⟩
  subst e
  rfl
 ·rintro⟨q,hq,h2,h3⟩
  refine⟨l[q],List.getElem_mem hq,?_⟩
  simp only[Bool.and_eq_true,Bool.not_eq_true',decide_eq_false_iff_not,decide_eq_true_eq]
  exact⟨fun e=>h2 (zbH h hq hk e),h3⟩
theorem zd2 {l:List Member}(h:KO l){k:Nat}(hk:k<l.length){n:ByteArray}(pub:ByteArray)(hn:l[k].name=n):KA n pub l=l.set k ⟨l[k].name,pub⟩:=by
 refine List.ext_getElem (by unfold KA;simp) (fun i hi hi' => ?_)
 unfold KA at hi ⊢
 rw[List.getElem_map,List.getElem_set]
 have hil:i<l.length:=by simpa using hi
 by_cases e:k=i
 ·subst e
  rw[if_pos rfl,if_pos hn]
 ·rw[if_neg e,if_neg]
  intro h2
  exact e (zbH h hk hil (by rw[hn,h2]))
end Own
end
section
open Go Go.RowKit Go.Maps
namespace Own
def QY (X:Nat->Prop)(B:Nat)(w:World)(v:Value)(L:List Space):Prop:=
 ∃ css:List (List Value),css.length=L.length/\w.ownsRow B 39 3 v L.length css.flatten/\∀ i (hi:i<L.length) (hi' : i<css.length),css[i].length=3/\EI (fun k=>¬ X k/\v.ownBlock≠some k) w css[i] L[i]
theorem QY.nil (X:Nat->Prop)(B:Nat)(w:World):QY X B w (.slice none 0 0) []:=⟨[],rfl,⟨rfl,.inl ⟨rfl,rfl⟩⟩,fun i hi=>absurd hi (by simp)⟩
theorem QY.lt {X:Nat->Prop}{B:Nat}{w:World}{v:Value}{L:List Space}(h:QY X B w v L):∀ k,v.ownBlock=some k->B<=k/\k<w.heap.size:=by
 obtain⟨css,h1,h2,h3⟩:=h
 intro k hk
 obtain⟨cur,hc⟩:=Db h2 hk
 exact⟨Ak h2 k hk,hc.lt⟩
theorem QY.below {X:Nat->Prop}{B:Nat}{w w' : World}{v:Value}{L:List Space}(h:QY X B w v L)(hb:Below w.heap.size w w'):QY X B w' v L:=by
 obtain⟨css,h1,h2,h3⟩:=h
 refine⟨css,h1,own_below h2 hb,fun i hi hi' => ?_⟩
 obtain⟨h4,h5⟩:=h3 i hi hi'
 exact⟨h4,Dc.keep h5 hb.size (fun k _ hl=>hb.block k hl)⟩
theorem QY.len {X:Nat->Prop}{B:Nat}{w:World}{v:Value}{L:List Space}(h:QY X B w v L):∃ a c,v=.slice a L.length c:=by
 obtain⟨css,h1,h2,h3⟩:=h
 obtain⟨a,m,c,rfl⟩:=Ac h2
 obtain rfl:=Ba h2
 exact⟨a,c,rfl⟩
theorem QY.list {X:Nat->Prop}{B:Nat}{w:World}{v:Value}{L:List Space}(h:QY X B w v L)(hB:∀ k,B<=k->¬ X k):Aq 3 EI (fun k=>¬ X k) w v L:=by
 obtain⟨css,h1,h2,h3⟩:=h
 refine Aq.Qk (Bc.own h2) rfl h1 (fun k e=>hB k (Ak h2 k e)) (fun i hi hi' => ?_)
 obtain⟨h4,h5⟩:=h3 i hi hi'
 exact⟨h4,Dc.mono h5 (fun k hk _=>hk.1)⟩
theorem QY.push {X:Nat->Prop}{B:Nat}{w w' : World}{v v' : Value}{L:List Space}{x:Space}{mv:Value}{css:List (List Value)}(h1:css.length=L.length)(h3:∀ i (hi:i<L.length) (hi' : i<css.length),css[i].length=3/\EI (fun k=>¬ X k/\v.ownBlock≠some k) w css[i] L[i])
 (hm:Aq 2 DU (fun k=>¬ X k/\v.ownBlock≠some k) w mv x.members)
 (hv' : w'.ownsRow B 39 3 v' (L.length+1) (css.flatten++[.string x.pre,mv,.int .i64 x.threshold])) (hg:w.grownBy w' v.ownBlock) (ho:v'.ownBlock=v.ownBlock\/v'.ownBlock=some w.heap.size):QY X B w' v' (L++[x]):=by
 have hkp:∀ k,v.ownBlock≠some k->k<w.heap.size->w'.heap[k]? = w.heap[k]? :=fun k hF hl=>hg.block k hl (fun e=>hF e.symm)
 have hF:∀ k,¬ X k/\v.ownBlock≠some k->k<w.heap.size->(¬ X k/\v.ownBlock≠some k)/\v'.ownBlock≠some k:=fun k hF hl=>⟨hF,by
  rcases ho with ho|ho
  ·rw[ho];exact hF.2
  ·rw[ho];intro e;have:=Option.some.inj e;omega⟩
 have hall:∀ (cs:List Value) (y:Space),EI (fun k=>¬ X k/\v.ownBlock≠some k) w cs y->EI (fun k=>¬ X k/\v'.ownBlock≠some k) w' cs y:=fun cs y h=>Dc.mono (Dc.keep (Dc.mono h hF) hg.size (fun k hk hl=>hkp k hk.1.2 hl)) (fun k hk _=>⟨hk.1.1,hk.2⟩)
 refine⟨css++[[.string x.pre,mv,.int .i64 x.threshold]],by simp[h1],?_,fun i hi hi' => ?_⟩
 ·rw[List.flatten_append,List.length_append]
  simpa using hv'
 ·by_cases hl:i<L.length
  ·obtain⟨h4,h5⟩:=h3 i hl (by omega)
   rw[List.getElem_append_left (by omega),List.getElem_append_left hl]
   exact⟨h4,hall _ _ h5⟩
  ·have e:i=L.length:=by simp at hi;omega
   subst e
   rw[List.getElem_append_right (by omega),List.getElem_append_right (by omega)]
   simp only[h1,Nat.sub_self,List.getElem_cons_zero]
   exact⟨rfl,hall _ _ ⟨mv,rfl,hm⟩⟩
end Own
theorem zda (X:Nat->Prop)(v mv:Value)(l:List Own.Space)(x:Own.Space)(w:World)(hX:∀ k,X k->k<w.heap.size)(h:Aq 3 Own.EI (fun k=>¬ X k) w v l)(hm:Own.Af w mv x.members)(hs:Own.Srt Own.Space.pre l)(hl:l.length<=1000000)(hxl:x.members.length<=3000000):
 Calls Tryz.prog 60 #[v,.agg #[.string x.pre,mv,.int .i64 x.threshold]] w fun e w' => ∃ v',e=.returned v' /\ Aq 3 Own.EI (fun k=>¬ X k) w' v' (Own.Dj Own.Space.pre x l)/\Below w.heap.size w w':=by
 obtain⟨PA,hPA⟩:∃ PA:Nat->Bool->List Own.Space->Prop,PA=Own.J4 Own.Space.pre x l:=⟨_,rfl⟩
 have pz:PA 0 false []:=by rw[hPA];exact Own.J4.zero
 have zdw:∀ k d L,PA k d L->L.length<=l.length+1:=fun k d L hp=>by rw[hPA] at hp;exact hp.len
 have zcG:∀ k L (hk:k<l.length),PA k false L->Own.Aj (Own.Space.pre l[k]) (Own.Space.pre x)=true->Own.Space.pre l[k]≠Own.Space.pre x/\PA (k+1) false (L++[l[k]]):=fun k L hk hp hlb=>by rw[hPA] at hp ⊢;exact hp.less hs hk hlb
 have zbW:∀ k L (hk:k<l.length),PA k false L->Own.Aj (Own.Space.pre l[k]) (Own.Space.pre x)=false->(Own.Space.pre l[k]=Own.Space.pre x->PA (k+1) true (L++[x]))/\(Own.Space.pre l[k]≠Own.Space.pre x->PA (k+1) true (L++[x]++[l[k]])):=fun k L hk hp hlb=>by rw[hPA] at hp ⊢;exact hp.place hk hlb
 have zcH:∀ k L (hk:k<l.length),PA k true L->Own.Space.pre l[k]≠Own.Space.pre x/\PA (k+1) true (L++[l[k]]):=fun k L hk hp=>by rw[hPA] at hp ⊢;exact hp.done hs hk
 have pend:∀ L,PA l.length false L->L++[x]=Own.Dj Own.Space.pre x l:=fun L hp=>by rw[hPA] at hp;exact hp.end_
 have zbX:∀ L,PA l.length true L->L=Own.Dj Own.Space.pre x l:=fun L hp=>by rw[hPA] at hp;exact hp.zcE
 obtain⟨R,hR⟩:∃ R,R=Own.Dj Own.Space.pre x l:=⟨_,rfl⟩
 rw[<- hR]
 simp only[<- hR] at pend zbX
 have zdY:=zh zdw;have zdx:=zh zcG;have zcY:=zh zbW;have zdy:=zh zcH;have zdZ:=zh pend;have zdz:=zh zbX;have PZ:=zh pz
 clear zdw zcG zbW zcH pend zbX pz hPA hR
 obtain⟨a,c,rfl⟩:=h.len
 obtain⟨ma,mc,rfl⟩:=hm.len
 have HX:=zh hX
 have HL:=zh (h.mono (G:=fun k=>k<w.heap.size/\¬ X k) (fun k hx hk=>⟨hk,hx⟩))
 have MX:=zh (fun W (hW:Below w.heap.size w W)=>hm.below hW)
 clear h hm hX
 obtain⟨xn,mm,xt⟩:=x
 dsimp only at*
 have F1:=zh (show Au w _ [(39,#[.string xn,.slice ma mm.length mc,.int .i64 xt])] from((CY.nil w).push 39 #[.string xn,.slice ma mm.length mc,.int .i64 xt]).boxes)
 go_enter Tryz.func60,Tryz.ntmps60
 go_wp2_with fail
 generalize (w.alloc (.cells #[.string xn,.slice ma mm.length mc,.int .i64 xt] 39))=w1 at*
 go_loopw [5,6,7] (fun ov dv i wr=>∃ (k:Nat) (d:Bool) (L:List Own.Space) (v:Value),k<=l.length/\i=.int .i64 k/\dv=.bool d/\ov=v/\PA k d L/\Own.QY X (w.heap.size+1) wr v L/\Au w wr [(39,#[.string xn,.slice ma mm.length mc,.int .i64 xt])]) (fun _ _ i _=>l.length-(intOf i).toNat)
 case atStart=>exact⟨0,false,[],_,by omega,rfl,rfl,rfl,PZ.out,Own.QY.nil _ _ _,F1.out⟩
 case round=>
  obtain⟨k,d,L,v,hk,rfl,rfl,rfl,hpa,hown,hbx⟩:=hrel
  have hLM:=zdY.out k d L hpa
  obtain⟨va,vc,rfl⟩:=hown.len
  have HO:=zh hown;have G1:=zh hbx;have HPA:=zh hpa
  clear hown hbx hpa F1
  obtain⟨x00,x01,x02⟩:=G1.out.Fw rfl
  by_cases hlt:k<l.length
  case neg=>
   have hke:k=l.length:=by omega
   have dk:decide ((k:Int)<l.length)=false:=zf
   cases d with
   | true =>
     have hR:=zdz.out L (hke ▸ HPA.out)
     have HR:=zh hR;clear hR hke
     go_wp2
     go_ret
     refine⟨_,rfl,?_,G1.out.under⟩
     rw[<- HR.out]
     exact HO.out.list (fun k hk hx=>by have:=HX.out k hx;omega)
   | false =>
     have hR:=zdZ.out L (hke ▸ HPA.out)
     have HR:=zh hR;clear hR hke
     go_wp2_with fail
     refine(Jh xn xt (.slice ma mm.length mc) mm wr (MX.out wr G1.out.under) hxl).mono ?_
     rintro e w5 ⟨cv,rfl,hcp,hb⟩
     obtain⟨ca,cm,cc,rfl⟩:=Ac hcp
     obtain rfl:=Ba hcp
     have G5:=zh (G1.out.step hb);have HO5:=zh (HO.out.below hb)
     have hcm:Aq 2 Own.DU (fun k=>¬ X k/\(Value.slice va L.length vc).ownBlock≠some k) w5 (.slice ca mm.length cc) mm:=Cq (enc:=Own.Cy) (fun _=>rfl) (fun _=>rfl) (Bc.own hcp) rfl (fun k hk=>⟨fun hx=>by have h1:=HX.out k hx;have h2:=Ak hcp k hk;have h3:=G1.out.under.size;omega,fun e=>by have h1:=(HO.out.lt k e).2;have h2:=Ak hcp k hk;omega⟩)
     have HCM:=zh hcm
     clear hb hcp hcm
     (try clear x00 x01 x02)
     have hb8:Below w5.heap.size w5 (w5.alloc (.cells #[.string xn,.slice ca mm.length cc,.int .i64 xt] 39)):=zb
     have hsl:=HO5.out.lt
     obtain⟨css,e1',e2',e3'⟩:=HO5.out.below hb8
     have E1:=zh e1';have E2:=zh e2';have E3:=zh e3';have G8:=zh (G5.out.step hb8)
     have HMM:=zh ((HCM.out).below hb8)
     have HRW:=zh (Cx w5 39 #[.string xn,.slice ca mm.length cc,.int .i64 xt] 3 1 1 rfl)
     have HWZ:=zh (show w.heap.size+1<=(w5.alloc (.cells #[.string xn,.slice ca mm.length cc,.int .i64 xt] 39)).heap.size from Nat.le_trans G5.out.size hb8.size)
     clear hb8 hsl e1' e2' e3'
     go_wp2_with
      (at_builtin;go_must (refine Ah DW rfl _ _ rfl (w.heap.size+1) _ (.slice va L.length vc) css.flatten rfl E2.out (.slice (some ⟨w5.heap.size,0,none⟩) 1 1) 1 [.string xn,.slice ca mm.length cc,.int .i64 xt] rfl HRW.out (by intro u hu;simp at hu;rcases hu with rfl|rfl|rfl<;>rfl) (by omega) (by omega) HWZ.out ?_);intro v9 w9 ho9 hg9 hw9;obtain⟨yf,yg,yh,rfl⟩:=Ac ho9;have G9:=zh (G8.out.far (O:=w.heap.size+1) (Nat.le_refl _) (Ak E2.out) hg9);have HO9:=zh (Own.QY.push (x:=(⟨xn,mm,xt⟩:Own.Space)) E1.out E3.out HMM.out ho9 hg9 hw9);clear ho9 hg9 hw9 E1 E2 E3 HRW HWZ HMM G8)
     go_ret
     refine⟨_,rfl,?_,G9.out.under⟩
     rw[<- HR.out]
     exact HO9.out.list (fun k hk hx=>by have:=HX.out k hx;omega)
  have dk:decide ((k:Int)<l.length)=true:=zt
  obtain⟨b,o,ha,hbF,hbl,cs,hcl,hce,ymv,hcs,hym⟩:=(HL.out.below G1.out.under).at_ hlt
  subst ha hcs
  have e0:=hce 0 _ rfl;have e1:=hce 1 _ rfl;have e2:=hce 2 _ rfl
  rw[Nat.add_zero] at e0
  clear hce hcl
  have zcr:=zdx.out k L hlt;have hpl:=zcY.out k L hlt;have hdn:=zdy.out k L hlt
  obtain⟨y,hy⟩:∃ y,y=l[k]:=⟨_,rfl⟩
  simp only[<- hy] at zcr hpl hdn e0 e1 e2 hym
  obtain⟨yn,ym,yt⟩:=y
  dsimp only at e0 e1 e2 hym zcr hpl hdn
  obtain⟨ya',yc',rfl⟩:=hym.len
  have zea:=zh zcr;have HPL:=zh hpl;have HDN:=zh hdn;have HY:=zh hy
  clear zcr hpl hdn hy
  cases d with
  | true =>
    obtain⟨hne,hnx⟩:=HDN.out HPA.out
    have hq:(yn.toList==xn.toList)=false:=by rw[bytes_beq];exact decide_eq_false hne
    have HNX:=zh hnx;clear hne hnx
    go_wp2
    refine Lex.zl ?_
    go_wp2
    refine Lex.ze ?_
    (try clear x00 x01 x02)
    have G5:=zh G1.out.drew
    have hbd:Below wr.heap.size wr wr.drew:=(Below.refl _ _).drew
    have HO5:=zh (HO.out.below hbd)
    replace e0:=(hbd.cell (p:=⟨b,o+k*3,none⟩) hbl).trans e0
    replace e1:=(hbd.cell (p:=⟨b,o+k*3+1,none⟩) hbl).trans e1
    replace e2:=(hbd.cell (p:=⟨b,o+k*3+2,none⟩) hbl).trans e2
    replace hbl:b<wr.drew.heap.size:=by rw[Ez];exact hbl
    replace hym:=hym.below hbd
    clear hbd
    generalize wr.drew=w5 at*
    obtain⟨x00,x01,x02⟩:=G5.out.Fw rfl
    go_wp2
    refine Lex.zl ?_
    go_wp2
    refine Lex.ze ?_
    (try clear x00 x01 x02)
    have G6:=zh G5.out.drew
    have hbd:Below w5.heap.size w5 w5.drew:=(Below.refl _ _).drew
    have HO6:=zh (HO5.out.below hbd)
    replace e0:=(hbd.cell (p:=⟨b,o+k*3,none⟩) hbl).trans e0
    replace e1:=(hbd.cell (p:=⟨b,o+k*3+1,none⟩) hbl).trans e1
    replace e2:=(hbd.cell (p:=⟨b,o+k*3+2,none⟩) hbl).trans e2
    replace hbl:b<w5.drew.heap.size:=by rw[Ez];exact hbl
    replace hym:=hym.below hbd
    clear hbd
    generalize w5.drew=w6 at*
    obtain⟨x00,x01,x02⟩:=G6.out.Fw rfl
    have hb8:Below w6.heap.size w6 (w6.alloc (.cells #[.string yn,.slice ya' ym.length yc',.int .i64 yt] 39)):=zb
    have hsl:=HO6.out.lt
    obtain⟨css,e1',e2',e3'⟩:=HO6.out.below hb8
    have E1:=zh e1';have E2:=zh e2';have E3:=zh e3';have G8:=zh (G6.out.step hb8)
    have HMM:=zh ((hym.mono (G:=fun k=>¬ X k/\(Value.slice va L.length vc).ownBlock≠some k) (fun k hk _=>⟨hk.2,fun e=>by have:=(HO6.out.lt k e).1;have:=hk.1;omega⟩)).below hb8)
    have HRW:=zh (Cx w6 39 #[.string yn,.slice ya' ym.length yc',.int .i64 yt] 3 1 1 rfl)
    have HWZ:=zh (show w.heap.size+1<=(w6.alloc (.cells #[.string yn,.slice ya' ym.length yc',.int .i64 yt] 39)).heap.size from Nat.le_trans G6.out.size hb8.size)
    clear hb8 hsl e1' e2' e3'
    go_wp2_with
     (at_builtin;go_must (refine Ah DW rfl _ _ rfl (w.heap.size+1) _ (.slice va L.length vc) css.flatten rfl E2.out (.slice (some ⟨w6.heap.size,0,none⟩) 1 1) 1 [.string yn,.slice ya' ym.length yc',.int .i64 yt] rfl HRW.out (by intro u hu;simp at hu;rcases hu with rfl|rfl|rfl<;>rfl) (by omega) (by omega) HWZ.out ?_);intro v9 w9 ho9 hg9 hw9;obtain⟨yf,yg,yh,rfl⟩:=Ac ho9;have G9:=zh (G8.out.far (O:=w.heap.size+1) (Nat.le_refl _) (Ak E2.out) hg9);have HO9:=zh (Own.QY.push (x:=(⟨yn,ym,yt⟩:Own.Space)) E1.out E3.out HMM.out ho9 hg9 hw9);clear ho9 hg9 hw9 E1 E2 E3 HRW HWZ HMM G8)
    exact⟨⟨k+1,true,_,_,by omega,by go_num,rfl,rfl,HNX.out,HO9.out,G9.out⟩,by simp[intOf];omega⟩
  | false =>
    cases hlb:Op.bytesLess yn.toList xn.toList with
    | true =>
      obtain⟨hne,hnx⟩:=zea.out HPA.out hlb
      have hq:(yn.toList==xn.toList)=false:=by rw[bytes_beq];exact decide_eq_false hne
      have HNX:=zh hnx;clear hne hnx
      go_wp2
      refine Lex.zl ?_
      go_wp2
      refine Lex.ze ?_
      (try clear x00 x01 x02)
      have G5:=zh G1.out.drew
      have hbd:Below wr.heap.size wr wr.drew:=(Below.refl _ _).drew
      have HO5:=zh (HO.out.below hbd)
      replace e0:=(hbd.cell (p:=⟨b,o+k*3,none⟩) hbl).trans e0
      replace e1:=(hbd.cell (p:=⟨b,o+k*3+1,none⟩) hbl).trans e1
      replace e2:=(hbd.cell (p:=⟨b,o+k*3+2,none⟩) hbl).trans e2
      replace hbl:b<wr.drew.heap.size:=by rw[Ez];exact hbl
      replace hym:=hym.below hbd
      clear hbd
      generalize wr.drew=w5 at*
      obtain⟨x00,x01,x02⟩:=G5.out.Fw rfl
      go_wp2
      refine Lex.zl ?_
      go_wp2
      refine Lex.ze ?_
      (try clear x00 x01 x02)
      have G6:=zh G5.out.drew
      have hbd:Below w5.heap.size w5 w5.drew:=(Below.refl _ _).drew
      have HO6:=zh (HO5.out.below hbd)
      replace e0:=(hbd.cell (p:=⟨b,o+k*3,none⟩) hbl).trans e0
      replace e1:=(hbd.cell (p:=⟨b,o+k*3+1,none⟩) hbl).trans e1
      replace e2:=(hbd.cell (p:=⟨b,o+k*3+2,none⟩) hbl).trans e2
      replace hbl:b<w5.drew.heap.size:=by rw[Ez];exact hbl
      replace hym:=hym.below hbd
      clear hbd
      generalize w5.drew=w6 at*
      obtain⟨x00,x01,x02⟩:=G6.out.Fw rfl
      have hb8:Below w6.heap.size w6 (w6.alloc (.cells #[.string yn,.slice ya' ym.length yc',.int .i64 yt] 39)):=zb
      have hsl:=HO6.out.lt
      obtain⟨css,e1',e2',e3'⟩:=HO6.out.below hb8
      have E1:=zh e1';have E2:=zh e2';have E3:=zh e3';have G8:=zh (G6.out.step hb8)
      have HMM:=zh ((hym.mono (G:=fun k=>¬ X k/\(Value.slice va L.length vc).ownBlock≠some k) (fun k hk _=>⟨hk.2,fun e=>by have:=(HO6.out.lt k e).1;have:=hk.1;omega⟩)).below hb8)
      have HRW:=zh (Cx w6 39 #[.string yn,.slice ya' ym.length yc',.int .i64 yt] 3 1 1 rfl)
      have HWZ:=zh (show w.heap.size+1<=(w6.alloc (.cells #[.string yn,.slice ya' ym.length yc',.int .i64 yt] 39)).heap.size from Nat.le_trans G6.out.size hb8.size)
      clear hb8 hsl e1' e2' e3'
      go_wp2_with
       (at_builtin;go_must (refine Ah DW rfl _ _ rfl (w.heap.size+1) _ (.slice va L.length vc) css.flatten rfl E2.out (.slice (some ⟨w6.heap.size,0,none⟩) 1 1) 1 [.string yn,.slice ya' ym.length yc',.int .i64 yt] rfl HRW.out (by intro u hu;simp at hu;rcases hu with rfl|rfl|rfl<;>rfl) (by omega) (by omega) HWZ.out ?_);intro v9 w9 ho9 hg9 hw9;obtain⟨yf,yg,yh,rfl⟩:=Ac ho9;have G9:=zh (G8.out.far (O:=w.heap.size+1) (Nat.le_refl _) (Ak E2.out) hg9);have HO9:=zh (Own.QY.push (x:=(⟨yn,ym,yt⟩:Own.Space)) E1.out E3.out HMM.out ho9 hg9 hw9);clear ho9 hg9 hw9 E1 E2 E3 HRW HWZ HMM G8)
      exact⟨⟨k+1,false,_,_,by omega,by go_num,rfl,rfl,HNX.out,HO9.out,G9.out⟩,by simp[intOf];omega⟩
    | false =>
      obtain⟨h1,h2⟩:=HPL.out HPA.out hlb
      have HH1:=zh h1;have HH2:=zh h2
      clear h1 h2
      go_wp2
      refine Lex.zl ?_
      go_wp2
      refine Lex.ze ?_
      (try clear x00 x01 x02)
      have G5:=zh G1.out.drew
      have hbd:Below wr.heap.size wr wr.drew:=(Below.refl _ _).drew
      have HO5:=zh (HO.out.below hbd)
      replace e0:=(hbd.cell (p:=⟨b,o+k*3,none⟩) hbl).trans e0
      replace e1:=(hbd.cell (p:=⟨b,o+k*3+1,none⟩) hbl).trans e1
      replace e2:=(hbd.cell (p:=⟨b,o+k*3+2,none⟩) hbl).trans e2
      replace hbl:b<wr.drew.heap.size:=by rw[Ez];exact hbl
      replace hym:=hym.below hbd
      clear hbd
      generalize wr.drew=w5 at*
      obtain⟨x00,x01,x02⟩:=G5.out.Fw rfl
      go_wp2_with fail
      refine(Jh xn xt (.slice ma mm.length mc) mm w5 (MX.out w5 G5.out.under) hxl).mono ?_
      rintro e w6 ⟨cv,rfl,hcp,hb⟩
      obtain⟨ca,cm,cc,rfl⟩:=Ac hcp
      obtain rfl:=Ba hcp
      have G6:=zh (G5.out.step hb);have HO6:=zh (HO5.out.below hb)
      have hcm:Aq 2 Own.DU (fun k=>¬ X k/\(Value.slice va L.length vc).ownBlock≠some k) w6 (.slice ca mm.length cc) mm:=Cq (enc:=Own.Cy) (fun _=>rfl) (fun _=>rfl) (Bc.own hcp) rfl (fun k hk=>⟨fun hx=>by have h1:=HX.out k hx;have h2:=Ak hcp k hk;have h3:=G5.out.under.size;omega,fun e=>by have h1:=(HO5.out.lt k e).2;have h2:=Ak hcp k hk;omega⟩)
      have HCM:=zh hcm
      clear hb hcp hcm
      (try clear x00 x01 x02)
      have hb8:Below w6.heap.size w6 (w6.alloc (.cells #[.string xn,.slice ca mm.length cc,.int .i64 xt] 39)):=zb
      have hsl:=HO6.out.lt
      obtain⟨css,e1',e2',e3'⟩:=HO6.out.below hb8
      have E1:=zh e1';have E2:=zh e2';have E3:=zh e3';have G8:=zh (G6.out.step hb8)
      have HMM:=zh ((HCM.out).below hb8)
      have HRW:=zh (Cx w6 39 #[.string xn,.slice ca mm.length cc,.int .i64 xt] 3 1 1 rfl)
      have HWZ:=zh (show w.heap.size+1<=(w6.alloc (.cells #[.string xn,.slice ca mm.length cc,.int .i64 xt] 39)).heap.size from Nat.le_trans G6.out.size hb8.size)
      clear hb8 hsl e1' e2' e3'
      go_upto_region 9 with
       (at_builtin;go_must (refine Ah DW rfl _ _ rfl (w.heap.size+1) _ (.slice va L.length vc) css.flatten rfl E2.out (.slice (some ⟨w6.heap.size,0,none⟩) 1 1) 1 [.string xn,.slice ca mm.length cc,.int .i64 xt] rfl HRW.out (by intro u hu;simp at hu;rcases hu with rfl|rfl|rfl<;>rfl) (by omega) (by omega) HWZ.out ?_);intro v9 w9 ho9 hg9 hw9;obtain⟨yf,yg,yh,rfl⟩:=Ac ho9;have G9:=zh (G8.out.far (O:=w.heap.size+1) (Nat.le_refl _) (Ak E2.out) hg9);have HO9:=zh (Own.QY.push (x:=(⟨xn,mm,xt⟩:Own.Space)) E1.out E3.out HMM.out ho9 hg9 hw9);clear ho9 hg9 hw9 E1 E2 E3 HRW HWZ HMM G8)
      obtain⟨L2,hL2⟩:∃ L2,L2=L++[(⟨xn,mm,xt⟩:Own.Space)]:=⟨_,rfl⟩
      rw[<- hL2] at HO9 HH1 HH2
      have zeB:L2.length<=1000002:=by rw[hL2,List.length_append];show L.length+1<=_;omega
      obtain⟨za,zc,hyl⟩:=HO9.out.len
      cases hyl
      clear hL2
      clear e0 e1 e2 hbl hbF hym
      obtain⟨b',o',ha,hbF,hbl,cs',hcl',zdF,zeX,hcs',hym⟩:=(HL.out.below G9.out.under).at_ hlt
      cases ha
      subst hcs'
      have e0:=zdF 0 _ rfl;have e1:=zdF 1 _ rfl;have e2:=zdF 2 _ rfl
      rw[Nat.add_zero] at e0
      clear zdF hcl'
      simp only[<- HY.out] at e0 e1 e2 hym
      obtain⟨yb',yd',rfl⟩:=hym.len
      obtain⟨x00,x01,x02⟩:=G9.out.Fw rfl
      by_cases hq:yn=xn
      ·have hqq:(yn.toList==xn.toList)=true:=by rw[bytes_beq];exact decide_eq_true hq
       have HNX:=zh (HH1.out hq);clear hq
       go_wp2
       refine Lex.zl ?_
       go_wp2
       refine Lex.ze ?_
       (try clear x00 x01 x02)
       have G10:=zh G9.out.drew
       have hbd:Below w9.heap.size w9 w9.drew:=(Below.refl _ _).drew
       have zaU:=zh (HO9.out.below hbd)
       replace e0:=(hbd.cell (p:=⟨b,o+k*3,none⟩) hbl).trans e0
       replace e1:=(hbd.cell (p:=⟨b,o+k*3+1,none⟩) hbl).trans e1
       replace e2:=(hbd.cell (p:=⟨b,o+k*3+2,none⟩) hbl).trans e2
       replace hbl:b<w9.drew.heap.size:=by rw[Ez];exact hbl
       replace hym:=hym.below hbd
       clear hbd
       generalize w9.drew=w10 at*
       obtain⟨x00,x01,x02⟩:=G10.out.Fw rfl
       go_wp2
       exact⟨⟨k+1,true,_,_,by omega,by go_num,rfl,rfl,HNX.out,zaU.out,G10.out⟩,by simp[intOf];omega⟩
      ·have hqq:(yn.toList==xn.toList)=false:=by rw[bytes_beq];exact decide_eq_false hq
       have HNX:=zh (HH2.out hq);clear hq
       go_wp2
       refine Lex.zl ?_
       go_wp2
       refine Lex.ze ?_
       (try clear x00 x01 x02)
       have G10:=zh G9.out.drew
       have hbd:Below w9.heap.size w9 w9.drew:=(Below.refl _ _).drew
       have zaU:=zh (HO9.out.below hbd)
       replace e0:=(hbd.cell (p:=⟨b,o+k*3,none⟩) hbl).trans e0
       replace e1:=(hbd.cell (p:=⟨b,o+k*3+1,none⟩) hbl).trans e1
       replace e2:=(hbd.cell (p:=⟨b,o+k*3+2,none⟩) hbl).trans e2
       replace hbl:b<w9.drew.heap.size:=by rw[Ez];exact hbl
       replace hym:=hym.below hbd
       clear hbd
       generalize w9.drew=w10 at*
       obtain⟨x00,x01,x02⟩:=G10.out.Fw rfl
       have hb8:Below w10.heap.size w10 (w10.alloc (.cells #[.string yn,.slice yb' ym.length yd',.int .i64 yt] 39)):=zb
       have hsl:=zaU.out.lt
       obtain⟨css,e1',e2',e3'⟩:=zaU.out.below hb8
       have E1:=zh e1';have E2:=zh e2';have E3:=zh e3';have G8:=zh (G10.out.step hb8)
       have HMM:=zh ((hym.mono (G:=fun k=>¬ X k/\(Value.slice yf L2.length yh).ownBlock≠some k) (fun k hk _=>⟨hk.2,fun e=>by have:=(zaU.out.lt k e).1;have:=hk.1;omega⟩)).below hb8)
       have HRW:=zh (Cx w10 39 #[.string yn,.slice yb' ym.length yd',.int .i64 yt] 3 1 1 rfl)
       have HWZ:=zh (show w.heap.size+1<=(w10.alloc (.cells #[.string yn,.slice yb' ym.length yd',.int .i64 yt] 39)).heap.size from Nat.le_trans G10.out.size hb8.size)
       clear hb8 hsl e1' e2' e3'
       go_wp2_with
        (at_builtin;go_must (refine Ah DW rfl _ _ rfl (w.heap.size+1) _ (.slice yf L2.length yh) css.flatten rfl E2.out (.slice (some ⟨w10.heap.size,0,none⟩) 1 1) 1 [.string yn,.slice yb' ym.length yd',.int .i64 yt] rfl HRW.out (by intro u hu;simp at hu;rcases hu with rfl|rfl|rfl<;>rfl) (by omega) (by omega) HWZ.out ?_);intro v11 w11 ho9 hg9 hw9;obtain⟨yf,yg,yh,rfl⟩:=Ac ho9;have G11:=zh (G8.out.far (O:=w.heap.size+1) (Nat.le_refl _) (Ak E2.out) hg9);have yG:=zh (Own.QY.push (x:=(⟨yn,ym,yt⟩:Own.Space)) E1.out E3.out HMM.out ho9 hg9 hw9);clear ho9 hg9 hw9 E1 E2 E3 HRW HWZ HMM G8)
       exact⟨⟨k+1,true,_,_,by omega,by go_num,rfl,rfl,HNX.out,yG.out,G11.out⟩,by simp[intOf];omega⟩
theorem zcs (cnt:Int)(sv kv:Value)(l:List Own.Space)(p:ByteArray)(w:World)(h:Own.BF w sv l)(hl:l.length<=140737488355328):
 Calls Tryz.prog 59 #[.agg #[.int .i64 cnt,sv,kv],.string p] w fun e w' => (∃ i,e=.returned (.int .i64 i)/\Own.Idx (fun s:Own.Space=>decide (s.pre=p)) l i)/\Below w.heap.size w w':=by
 obtain⟨a,c,rfl⟩:=h.len
 have F1:=zh (show Au w _ [(25,#[.int .i64 cnt,.slice a l.length c,kv])] from((CY.nil w).push 25 #[.int .i64 cnt,.slice a l.length c,kv]).boxes)
 have HL:=zh (h.below F1.out.under);clear h
 go_enter Tryz.func59,Tryz.ntmps59
 go_wp2_with fail
 generalize (w.alloc (.cells #[.int .i64 cnt,.slice a l.length c,kv] 25))=w1 at*
 go_loopw [5] (fun i wr=>wr=w1/\∃ k:Nat,k<=l.length/\i=.int .i64 k/\(∀ j (h:j<l.length),j<k->decide (l[j].pre=p)=false)) (fun i _=>l.length-(intOf i).toNat)
 case atStart=>exact⟨rfl,0,by omega,rfl,(fun j _ h=>absurd h (by omega))⟩
 case round=>
  obtain⟨rfl,k,hk,rfl,hno⟩:=hrel
  have HN:=zh hno;clear hno
  obtain⟨x00,x01,x02⟩:=F1.out.Fw rfl
  by_cases hlt:k<l.length
  case neg=>
   have dk:decide ((k:Int)<l.length)=false:=zf
   have HIX:=zh (Own.Idx.miss (p:=fun s:Own.Space=>decide (s.pre=p)) (l:=l) (fun j hj=>HN.out j hj (by omega)))
   go_wp2
   go_ret
   exact⟨⟨_,rfl,HIX.out⟩,F1.out.under⟩
  have dk:decide ((k:Int)<l.length)=true:=zt
  obtain⟨b,o,ha,_,hbl,cs,hcl,hce,mv,hcs,_⟩:=HL.out.at_ hlt
  subst ha hcs
  have c0:=hce 0 _ rfl
  rw[Nat.add_zero] at c0
  clear hce hcl
  have hbq:(l[k].pre.toList==p.toList)=decide (l[k].pre=p):=bytes_beq
  obtain⟨x,hx⟩:∃ x,x=l[k].pre:=⟨_,rfl⟩
  rw[<- hx] at c0 hbq
  have HX:=zh hx;have HQ:=zh hbq
  clear hx hbq
  cases hc:(x.toList==p.toList) with
  | true =>
    have HIX:=zh (Own.Idx.hit (p:=fun s:Own.Space=>decide (s.pre=p)) hlt (by show decide (l[k].pre=p)=true;rw[<- HX.out,<- HQ.out];exact hc) (fun j hj=>HN.out j (by omega) hj))
    go_wp2
    go_ret
    exact⟨⟨_,rfl,HIX.out⟩,F1.out.under⟩
  | false =>
    have HN2:=zh (show ∀ j (h:j<l.length),j<k+1->decide (l[j].pre=p)=false from fun j h hj=>by
     rcases(by omega:j<k\/j=k) with h1|rfl
     ·exact HN.out j h h1
     ·rw[<- HX.out,<- HQ.out];exact hc)
    go_wp2_with fail
    exact⟨⟨by first|trivial|rfl,k+1,by omega,by go_num,HN2.out⟩,by simp[intOf];omega⟩
theorem zcg {α : Type}{size:Nat} : ∀ (css:List (List α)),(∀ c∈css,c.length=size)->∀ j,css.flatten.take (j*size)=(css.take j).flatten
 | [],_,j=>by simp
 | c::css,h,0=>by simp
 | c :: css,h,j + 1 => by
   have hc:=h c List.mem_cons_self
   rw[List.flatten_cons,List.take_succ_cons,List.flatten_cons,show(j+1)*size=c.length+j*size by rw[Nat.succ_mul,hc,Nat.add_comm],List.take_length_add_append,zcg css (fun x hx=>h x (List.mem_cons_of_mem _ hx)) j]
theorem zch {α : Type}{size:Nat} : ∀ (css:List (List α)),(∀ c∈css,c.length=size)->∀ j,css.flatten.drop (j*size)=(css.drop j).flatten
 | [],_,j=>by simp
 | c::css,h,0=>by simp
 | c :: css,h,j + 1 => by
   have hc:=h c List.mem_cons_self
   rw[List.flatten_cons,List.drop_succ_cons,show(j+1)*size=c.length+j*size by rw[Nat.succ_mul,hc,Nat.add_comm],List.drop_length_add_append,zch css (fun x hx=>h x (List.mem_cons_of_mem _ hx)) j]
theorem zbd {α : Type}{size:Nat}{R:Elem α}{F G:Nat->Prop}{w W:World}{css:List (List Value)}{l:List α}{v:Value}{j:Nat}(hc:css.length=l.length)(he:∀ i (hi:i<l.length) (hi' : i<css.length),css[i].length=size/\R F w css[i] l[i])(hj:j<l.length)
 (hr:Bc W v size (j+(l.length-(j+1))) (css.flatten.take (j*size)++css.flatten.drop ((j+1)*size))) (hk:∀ cs x,R F w cs x->R G W cs x) (hb:∀ k,v.ownBlock=some k->G k):Aq size R G W v (l.take j++l.drop (j+1)):=by
 have hall:∀ c∈css,c.length=size:=fun c hx=>by
  obtain⟨i,hi,rfl⟩:=List.getElem_of_mem hx
  exact(he i (by omega) hi).1
 rw[zcg css hall,zch css hall,<- List.flatten_append,<- List.eraseIdx_eq_take_drop_succ] at hr
 rw[<- List.eraseIdx_eq_take_drop_succ]
 refine Aq.Qk hr (by rw[List.length_eraseIdx_of_lt hj];omega) (by rw[List.length_eraseIdx_of_lt hj,List.length_eraseIdx_of_lt (by omega)];omega) hb (fun i hi hi' => ?_)
 rw[List.length_eraseIdx_of_lt hj] at hi
 rw[List.getElem_eraseIdx,List.getElem_eraseIdx]
 by_cases h:i<j
 ·rw[dif_pos h,dif_pos h]
  obtain⟨q1,q2⟩:=he i (by omega) (by omega)
  exact⟨q1,hk _ _ q2⟩
 ·rw[dif_neg h,dif_neg h]
  obtain⟨q1,q2⟩:=he (i+1) (by omega) (by omega)
  exact⟨q1,hk _ _ q2⟩
theorem NP (op:Own.Op)(mv av:Value)(w:World)(hm:Own.Af w mv op.members)(ha:∃ a c,av=.slice a op.Aa.length c)(hl:op.members.length<=140737488355328)(hps:op.pre.size<=9223372036854775000):
 Calls Tryz.prog 58 #[Own.opV op mv av] w fun e w' => e=.returned (.bool (Own.Eh op))/\Below w.heap.size w w':=by
 obtain⟨R,hR⟩:∃ R,R=Own.Eh op:=⟨_,rfl⟩
 rw[<- hR]
 unfold Own.Eh at hR
 obtain⟨PM,hPM⟩:∃ P,P=Own.U7 op:=⟨_,rfl⟩
 obtain⟨PN,hPN⟩:∃ P,P=Own.opName op:=⟨_,rfl⟩
 rw[<- hPM,<- hPN] at hR
 unfold Own.U7 at hPM
 unfold Own.opName at hPN
 unfold Own.opV
 obtain⟨aa,ac,rfl⟩:=ha
 obtain⟨kd,pre,ms,th,nm,pb,aps⟩:=op
 dsimp only at*
 obtain⟨ma,mc,rfl⟩:=hm.len
 have F1:=zh (show Au w _ [(29,#[.int .i64 kd,.string pre,.slice ma ms.length mc,.int .i64 th,.string nm,.string pb,.slice aa aps.length ac])] from((CY.nil w).push 29 #[.int .i64 kd,.string pre,.slice ma ms.length mc,.int .i64 th,.string nm,.string pb,.slice aa aps.length ac]).boxes)
 have hcp:=fun W=>VG pre W hps
 have hcm:=fun W (hW:Below w.heap.size w W)=>Ko _ ms W (hm.below hW) hl
 have hcq:=fun W=>Ea pb W
 have HCP:=zh hcp;have HCM:=zh hcm;have HCQ:=zh hcq
 have HR:=zh hR;have HPM:=zh hPM;have HPN:=zh hPN
 clear hm hcp hcm hcq hR hPM hPN
 have x00:(w.alloc (.cells #[.int .i64 kd,.string pre,.slice ma ms.length mc,.int .i64 th,.string nm,.string pb,.slice aa aps.length ac] 29)).cell? ⟨w.heap.size,0,none⟩=some (.int .i64 kd):=F1.out.cell 0 0 rfl rfl
 have x01:(w.alloc (.cells #[.int .i64 kd,.string pre,.slice ma ms.length mc,.int .i64 th,.string nm,.string pb,.slice aa aps.length ac] 29)).cell? ⟨w.heap.size,1,none⟩=some (.string pre):=F1.out.cell 0 1 rfl rfl
 have x02:(w.alloc (.cells #[.int .i64 kd,.string pre,.slice ma ms.length mc,.int .i64 th,.string nm,.string pb,.slice aa aps.length ac] 29)).cell? ⟨w.heap.size,2,none⟩=some (.slice ma ms.length mc):=F1.out.cell 0 2 rfl rfl
 have x03:(w.alloc (.cells #[.int .i64 kd,.string pre,.slice ma ms.length mc,.int .i64 th,.string nm,.string pb,.slice aa aps.length ac] 29)).cell? ⟨w.heap.size,3,none⟩=some (.int .i64 th):=F1.out.cell 0 3 rfl rfl
 have x04:(w.alloc (.cells #[.int .i64 kd,.string pre,.slice ma ms.length mc,.int .i64 th,.string nm,.string pb,.slice aa aps.length ac] 29)).cell? ⟨w.heap.size,4,none⟩=some (.string nm):=F1.out.cell 0 4 rfl rfl
 have x05:(w.alloc (.cells #[.int .i64 kd,.string pre,.slice ma ms.length mc,.int .i64 th,.string nm,.string pb,.slice aa aps.length ac] 29)).cell? ⟨w.heap.size,5,none⟩=some (.string pb):=F1.out.cell 0 5 rfl rfl
 have x06:(w.alloc (.cells #[.int .i64 kd,.string pre,.slice ma ms.length mc,.int .i64 th,.string nm,.string pb,.slice aa aps.length ac] 29)).cell? ⟨w.heap.size,6,none⟩=some (.slice aa aps.length ac):=F1.out.cell 0 6 rfl rfl
 go_enter Tryz.func58,Tryz.ntmps58
 by_cases h0:kd<0
 ·have d0:decide (kd<0)=true:=decide_eq_true h0
  have HE:=zh (show R=false by rw[HR.out,decide_eq_false (show ¬ 0<=kd by omega)];rfl)
  go_wp2
  go_ret
  exact⟨by rw[HE.out];rfl,F1.out.under⟩
 have d0:decide (kd<0)=false:=decide_eq_false h0
 by_cases h4:4<kd
 ·have d4:decide ((4:Int)<kd)=true:=decide_eq_true h4
  have HE:=zh (show R=false by rw[HR.out,decide_eq_true (show 0<=kd by omega),decide_eq_false (show ¬ kd<=4 by omega)];rfl)
  go_wp2
  go_ret
  exact⟨by rw[HE.out];rfl,F1.out.under⟩
 have d4:decide ((4:Int)<kd)=false:=decide_eq_false h4
 have hr1:R=(Own.BI pre&&decide (aps.length<=8)&&PM&&PN):=by rw[HR.out,decide_eq_true (show 0<=kd by omega),decide_eq_true (show kd<=4 by omega)];rfl
 have HR1:=zh hr1;clear hr1 HR
 go_upto_region 1 with fail
 generalize (w.alloc (.cells #[.int .i64 kd,.string pre,.slice ma ms.length mc,.int .i64 th,.string nm,.string pb,.slice aa aps.length ac] 29))=w1 at*
 go_wp2_with fail
 refine(HCP.out w1).mono ?_
 rintro e w2 ⟨rfl,rfl⟩
 have F2:=F1
 cases hpo:Own.BI pre with
 | false =>
   have HE:=zh (show R=false by rw[HR1.out,hpo];rfl)
   clear hpo
   go_wp2
   go_ret
   exact⟨by rw[HE.out];rfl,F2.out.under⟩
 | true=>
 by_cases h8:8<aps.length
 ·have d8:decide ((8:Int)<(aps.length:Int))=true:=zt
  have d8' : decide (8<aps.length)=true:=decide_eq_true h8
  have HE:=zh (show R=false by rw[HR1.out,hpo,decide_eq_false (show ¬ aps.length<=8 by omega)];rfl)
  clear hpo
  go_wp2
  go_ret
  exact⟨by rw[HE.out];rfl,F2.out.under⟩
 have d8:decide ((8:Int)<(aps.length:Int))=false:=zf
 have d8' : decide (8<aps.length)=false:=decide_eq_false h8
 have hr2:R=(PM&&PN):=by rw[HR1.out,hpo,decide_eq_true (show aps.length<=8 by omega)];rfl
 have HR2:=zh hr2;clear hr2 hpo HR1
 by_cases hk2:kd<=2
 ·have k3:(kd==3)=false:=by rw[beq_eq_false_iff_ne];omega
  have k4:(kd==4)=false:=by rw[beq_eq_false_iff_ne];omega
  have hpm:=HPM.out
  rw[if_neg (show ¬ (3:Int)<=kd by omega)] at hpm
  have Ub:=zh hpm;clear hpm HPM
  go_wp2_with fail
  refine(HCM.out w2 F2.out.under).mono ?_
  rintro e w3 ⟨rfl,hb3⟩
  have F3:=zh (F2.out.step hb3);clear hb3
  (try clear x00);(try clear x01);(try clear x02);(try clear x03);(try clear x04);(try clear x05);(try clear x06)
  obtain⟨x00,x01,x02,x03,x04,x05,x06⟩:=F3.out.JI rfl
  cases hmo:Own.Co ms with
  | false =>
    have HE:=zh (show R=false by rw[HR2.out,Ub.out,hmo];rfl)
    clear hmo
    go_wp2
    go_ret
    exact⟨by rw[HE.out];rfl,F3.out.under⟩
  | true=>
  by_cases ht1:th<1
  ·have dt:decide (th<1)=true:=decide_eq_true ht1
   have HE:=zh (show R=false by rw[HR2.out,Ub.out,decide_eq_false (show ¬ 1<=th by omega)];simp)
   clear hmo
   go_wp2
   go_ret
   exact⟨by rw[HE.out];rfl,F3.out.under⟩
  have dt:decide (th<1)=false:=decide_eq_false ht1
  by_cases ht2:(ms.length:Int)<th
  ·have du:decide ((ms.length:Int)<th)=true:=decide_eq_true ht2
   have HE:=zh (show R=false by rw[HR2.out,Ub.out,decide_eq_false (show ¬ th<=(ms.length:Int) by omega)];simp)
   clear hmo
   go_wp2
   go_ret
   exact⟨by rw[HE.out];rfl,F3.out.under⟩
  have du:decide ((ms.length:Int)<th)=false:=decide_eq_false ht2
  have hpn:=HPN.out
  rw[if_neg (show ¬ kd=4 by omega)] at hpn
  have HE0:=zh (show R=PN by rw[HR2.out,Ub.out,hmo,decide_eq_true (show 1<=th by omega),decide_eq_true (show th<=(ms.length:Int) by omega)];rfl)
  have Uc:=zh hpn;clear hpn HPN hmo Ub HR2
  go_upto_region 8 with fail
  by_cases hn:nm=⟨#[]⟩
  case neg=>
   have q1:nm.toList.isEmpty=false:=by rw[Bool.eq_false_iff];exact fun h=>hn ((Own.Ef nm).1 h)
   have q2:(nm.toList==[])=false:=by rw[beq_eq_false_iff_ne];intro h;rw[h] at q1;cases q1
   have HE:=zh (show R=false by rw[HE0.out,Uc.out,decide_eq_false hn];rfl)
   clear hn
   go_wp2
   go_ret
   exact⟨by rw[HE.out];rfl,F3.out.under⟩
  have q1:nm.toList.isEmpty=true:=(Own.Ef nm).2 hn
  have q2:(nm.toList==[])=true:=by rw[List.isEmpty_iff.1 q1];rfl
  have HN:=zh hn;clear hn
  by_cases hp:pb=⟨#[]⟩
  case neg=>
   have q3:pb.toList.isEmpty=false:=by rw[Bool.eq_false_iff];exact fun h=>hp ((Own.Ef pb).1 h)
   have q4:(pb.toList==[])=false:=by rw[beq_eq_false_iff_ne];intro h;rw[h] at q3;cases q3
   have HE:=zh (show R=false by rw[HE0.out,Uc.out,decide_eq_false hp];simp)
   clear hp
   go_wp2
   go_ret
   exact⟨by rw[HE.out];rfl,F3.out.under⟩
  have q3:pb.toList.isEmpty=true:=(Own.Ef pb).2 hp
  have q4:(pb.toList==[])=true:=by rw[List.isEmpty_iff.1 q3];rfl
  have HE:=zh (show R=true by rw[HE0.out,Uc.out,decide_eq_true HN.out,decide_eq_true hp];rfl)
  clear hp
  go_wp2
  go_ret
  exact⟨by rw[HE.out];rfl,F3.out.under⟩
 ·have hkd:kd=3\/kd=4:=by omega
  rcases hkd with hk|hk
  ·have k3:(kd==3)=true:=by rw[beq_iff_eq];exact hk
   have k4:(kd==4)=false:=by rw[beq_eq_false_iff_ne];omega
   have hpm:=HPM.out
   rw[if_pos (show(3:Int)<=kd by omega)] at hpm
   have Ub:=zh hpm;clear hpm HPM
   by_cases hl0:ms.length=0
   case neg=>
    have dl:decide ((0:Int)<(ms.length:Int))=true:=zt
    have dl' : decide (0<ms.length)=true:=zt
    have HE:=zh (show R=false by rw[HR2.out,Ub.out,decide_eq_false hl0];rfl)
    go_wp2
    go_ret
    exact⟨by rw[HE.out];rfl,F2.out.under⟩
   have dl:decide ((0:Int)<(ms.length:Int))=false:=zf
   have dl' : decide (0<ms.length)=false:=zf
   have HL0:=zh hl0;clear hl0
   by_cases ht0:th=0
   case neg=>
    have dt:(th != 0)=true:=by rw[bne_iff_ne];exact ht0
    have dt' : (th==0)=false:=by rw[beq_eq_false_iff_ne];exact ht0
    have HE:=zh (show R=false by rw[HR2.out,Ub.out,decide_eq_false ht0];simp)
    go_wp2
    go_ret
    exact⟨by rw[HE.out];rfl,F2.out.under⟩
   have HT0:=zh ht0
   have dt:(th != 0)=false:=by rw[bne_eq_false_iff_eq];exact ht0
   have dt' : (th==0)=true:=by rw[beq_iff_eq];exact ht0
   clear ht0
   have HE0:=zh (show R=PN by rw[HR2.out,Ub.out,decide_eq_true HL0.out,decide_eq_true HT0.out];rfl)
   clear Ub HR2
   have hpn:=HPN.out
   rw[if_neg (show ¬ kd=4 by omega)] at hpn
   have Uc:=zh hpn;clear hpn HPN hk
   go_upto_region 8 with fail
   by_cases hn:nm=⟨#[]⟩
   case neg=>
    have q1:nm.toList.isEmpty=false:=by rw[Bool.eq_false_iff];exact fun h=>hn ((Own.Ef nm).1 h)
    have q2:(nm.toList==[])=false:=by rw[beq_eq_false_iff_ne];intro h;rw[h] at q1;cases q1
    have HE:=zh (show R=false by rw[HE0.out,Uc.out,decide_eq_false hn];rfl)
    clear hn
    go_wp2
    go_ret
    exact⟨by rw[HE.out];rfl,F2.out.under⟩
   have q1:nm.toList.isEmpty=true:=(Own.Ef nm).2 hn
   have q2:(nm.toList==[])=true:=by rw[List.isEmpty_iff.1 q1];rfl
   have HN:=zh hn;clear hn
   by_cases hp:pb=⟨#[]⟩
   case neg=>
    have q3:pb.toList.isEmpty=false:=by rw[Bool.eq_false_iff];exact fun h=>hp ((Own.Ef pb).1 h)
    have q4:(pb.toList==[])=false:=by rw[beq_eq_false_iff_ne];intro h;rw[h] at q3;cases q3
    have HE:=zh (show R=false by rw[HE0.out,Uc.out,decide_eq_false hp];simp)
    clear hp
    go_wp2
    go_ret
    exact⟨by rw[HE.out];rfl,F2.out.under⟩
   have q3:pb.toList.isEmpty=true:=(Own.Ef pb).2 hp
   have q4:(pb.toList==[])=true:=by rw[List.isEmpty_iff.1 q3];rfl
   have HE:=zh (show R=true by rw[HE0.out,Uc.out,decide_eq_true HN.out,decide_eq_true hp];rfl)
   clear hp
   go_wp2
   go_ret
   exact⟨by rw[HE.out];rfl,F2.out.under⟩
  ·have k3:(kd==3)=false:=by rw[beq_eq_false_iff_ne];omega
   have k4:(kd==4)=true:=by rw[beq_iff_eq];exact hk
   have hpm:=HPM.out
   rw[if_pos (show(3:Int)<=kd by omega)] at hpm
   have Ub:=zh hpm;clear hpm HPM
   by_cases hl0:ms.length=0
   case neg=>
    have dl:decide ((0:Int)<(ms.length:Int))=true:=zt
    have dl' : decide (0<ms.length)=true:=zt
    have HE:=zh (show R=false by rw[HR2.out,Ub.out,decide_eq_false hl0];rfl)
    go_wp2
    go_ret
    exact⟨by rw[HE.out];rfl,F2.out.under⟩
   have dl:decide ((0:Int)<(ms.length:Int))=false:=zf
   have dl' : decide (0<ms.length)=false:=zf
   have HL0:=zh hl0;clear hl0
   by_cases ht0:th=0
   case neg=>
    have dt:(th != 0)=true:=by rw[bne_iff_ne];exact ht0
    have dt' : (th==0)=false:=by rw[beq_eq_false_iff_ne];exact ht0
    have HE:=zh (show R=false by rw[HR2.out,Ub.out,decide_eq_false ht0];simp)
    go_wp2
    go_ret
    exact⟨by rw[HE.out];rfl,F2.out.under⟩
   have HT0:=zh ht0
   have dt:(th != 0)=false:=by rw[bne_eq_false_iff_eq];exact ht0
   have dt' : (th==0)=true:=by rw[beq_iff_eq];exact ht0
   clear ht0
   have HE0:=zh (show R=PN by rw[HR2.out,Ub.out,decide_eq_true HL0.out,decide_eq_true HT0.out];rfl)
   clear Ub HR2
   have hpn:=HPN.out
   rw[if_pos hk] at hpn
   have Uc:=zh hpn;clear hpn HPN hk
   go_upto_region 9 with fail
   by_cases n1:1<=nm.size
   case neg=>
    have m1:decide ((1:Int)<=(nm.size:Int))=false:=zf
    have m1' : decide (1<=nm.size)=false:=decide_eq_false n1
    have HE:=zh (show R=false by rw[HE0.out,Uc.out];unfold Own.EG;rw[decide_eq_false n1];rfl)
    go_wp2
    go_ret
    exact⟨by rw[HE.out];rfl,F2.out.under⟩
   have m1:decide ((1:Int)<=(nm.size:Int))=true:=zt
   have m1' : decide (1<=nm.size)=true:=decide_eq_true n1
   by_cases n2:nm.size<=32
   case neg=>
    have m2:decide ((nm.size:Int)<=32)=false:=zf
    have m2' : decide (nm.size<=32)=false:=decide_eq_false n2
    have HE:=zh (show R=false by rw[HE0.out,Uc.out];unfold Own.EG;rw[decide_eq_false n2];simp)
    go_wp2
    go_ret
    exact⟨by rw[HE.out];rfl,F2.out.under⟩
   have m2:decide ((nm.size:Int)<=32)=true:=zt
   have m2' : decide (nm.size<=32)=true:=decide_eq_true n2
   have HE:=zh (show R=Sig.Bn pb by rw[HE0.out,Uc.out];unfold Own.EG;rw[decide_eq_true n1,decide_eq_true n2];rfl)
   go_wp2_with fail
   refine(HCQ.out _).mono ?_
   rintro e _ ⟨rfl,rfl⟩
   go_wp2
   go_ret
   exact⟨by rw[HE.out];rfl,F2.out.under⟩
theorem zct (op:Own.Op)(mv av:Value)(w:World)(hm:Own.Af w mv op.members)(ha:∃ a c,av=.slice a op.Aa.length c)(hz:Own.KD op):
 Calls Tryz.prog 67 #[Own.opV op mv av] w fun e w' => e=.returned (.string (Own.CW op))/\Below w.heap.size w w':=by
 obtain⟨R,hR⟩:∃ R,R=Own.CW op:=⟨_,rfl⟩
 rw[<- hR]
 unfold Own.CW at hR
 unfold Own.opV
 obtain⟨aa,ac,rfl⟩:=ha
 obtain⟨kd,pre,ms,th,nm,pb,aps⟩:=op
 obtain⟨k0,k4,hpre,hal,hml,hms,t0,t8,hnm,hpb⟩:=hz
 dsimp only at*
 obtain⟨kn,rfl⟩:∃ k:Nat,kd=k:=⟨kd.toNat,by omega⟩
 obtain⟨tn,rfl⟩:∃ t:Nat,th=t:=⟨th.toNat,by omega⟩
 simp only[Int.toNat_natCast] at hR
 obtain⟨ma,mc,rfl⟩:=hm.len
 have hcz:=Own.bG ms hms
 have F1:=zh (show Au w _ [(29,#[.int .i64 (kn:Int),.string pre,.slice ma ms.length mc,.int .i64 (tn:Int),.string nm,.string pb,.slice aa aps.length ac])] from((CY.nil w).push 29 #[.int .i64 (kn:Int),.string pre,.slice ma ms.length mc,.int .i64 (tn:Int),.string nm,.string pb,.slice aa aps.length ac]).boxes)
 have HM:=zh hm;have HR:=zh hR;have HMS:=zh hms;have HCZ:=zh hcz
 clear hm hR hms hcz
 go_enter Tryz.func67,Tryz.ntmps67
 go_upto_region 1 with fail
 generalize (w.alloc (.cells #[.int .i64 (kn:Int),.string pre,.slice ma ms.length mc,.int .i64 (tn:Int),.string nm,.string pb,.slice aa aps.length ac] 29))=w1 at*
 obtain⟨x00,x01,x02,x03,x04,x05,x06⟩:=F1.out.JI rfl
 have hlt:w.heap.size<w1.heap.size:=F1.out.lt (i:=0) (by show 0<1;omega)
 have X1:=zh (zi x01)
 have X2:=zh (zi x02)
 go_wp2
 refine Lex.zn (fun i=>i=w.heap.size) [4,8] 11 [3,3,5] ?_
 simp only[Lex.Bp,zd]
 go_wp2_with fail
 refine(J6 kn _ (by omega)).mono ?_
 rintro e w2 ⟨rfl,hb2⟩
 have B2:=zh (show Below w1.heap.size w1 w2 from(Below.refl w1.heap.size w1).drew.trans hb2)
 have F2:=zh (F1.out.step B2.out);clear hb2
 (try clear x00 x01 x02 x03 x04 x05 x06)
 obtain⟨x00,x01,x02,x03,x04,x05,x06⟩:=F2.out.JI rfl
 obtain⟨U,hU⟩:∃ U,U=Cod.uns kn:=⟨_,rfl⟩
 rw[<- hU]
 have zU:U.size<=10:=by rw[hU];exact Cod.Ce kn
 have HU:=zh hU;clear hU
 go_wp2
 refine Lex.Mid.intro (fun i hi hl=>by subst hi;exact B2.out.block _ hl) ?_
 go_wp2_with fail
 refine(J7 pre _ (by omega)).mono ?_
 rintro e w3 ⟨rfl,hb3⟩
 have B3:=zh (B2.out.trans (hb3.mono B2.out.size))
 have F3:=zh (F1.out.step B3.out);clear hb3
 (try clear x00 x01 x02 x03 x04 x05 x06)
 obtain⟨x00,x01,x02,x03,x04,x05,x06⟩:=F3.out.JI rfl
 obtain⟨T,hT⟩:∃ T,T=Cod.text pre:=⟨_,rfl⟩
 rw[<- hT]
 have zT:T.size<=74:=by rw[hT];have:=Own.Cr pre;omega
 have HT:=zh hT;clear hT
 go_wp2
 refine Lex.Mid.intro (fun i hi hl=>by subst hi;exact B3.out.block _ hl) ?_
 go_wp2_with fail
 refine(J6 ms.length _ (by omega)).mono ?_
 rintro e w4 ⟨rfl,hb4⟩
 have B4:=zh (B3.out.trans (hb4.mono B3.out.size))
 have F4:=zh (F1.out.step B4.out);clear hb4
 (try clear x00 x01 x02 x03 x04 x05 x06)
 obtain⟨V,hV⟩:∃ V,V=Cod.uns ms.length:=⟨_,rfl⟩
 rw[<- hV]
 have zV:V.size<=10:=by rw[hV];exact Cod.Ce _
 have HV:=zh hV;clear hV
 go_wp2
 refine Lex.Mid.intro (fun i hi hl=>by subst hi;exact B4.out.block _ hl) ?_
 go_wp2
 refine Lex.zk ⟨⟨rfl,X1.out⟩,⟨rfl,X2.out⟩,trivial⟩ ?_
 obtain⟨X,hX⟩:∃ X,X=U++T++V:=⟨_,rfl⟩
 have zX:X.size<=94:=by rw[hX,Sha.Ag,Sha.Ag];omega
 rw[<- hX]
 have HX:=zh hX
 clear hX X1 X2 hlt
 go_wp2
 go_loopw [4,3] (fun i s wr=>∃ k:Nat,k<=ms.length/\i=.int .i64 k/\s=.string (X++Cod.cat ((ms.take k).map Own.AV))/\Au w wr [(29,#[.int .i64 (kn:Int),.string pre,.slice ma ms.length mc,.int .i64 (tn:Int),.string nm,.string pb,.slice aa aps.length ac])]) (fun i _ _=>ms.length-(intOf i).toNat)
 case atStart=>exact⟨0,by omega,rfl,by rw[List.take_zero];show _=Value.string (X++⟨#[]⟩);rw[Ou],F4.out⟩
 case round=>
  obtain⟨k,hk,rfl,rfl,hbx⟩:=hrel
  obtain⟨Y,hY⟩:∃ Y,Y=X++Cod.cat ((ms.take k).map Own.AV):=⟨_,rfl⟩
  rw[<- hY]
  have zY:Y.size<=94+85*k:=by rw[hY,Sha.Ag];have:=HCZ.out k;omega
  have HBX:=zh hbx;have HY:=zh hY
  clear hbx hY F4
  obtain⟨x00,x01,x02,x03,x04,x05,x06⟩:=HBX.out.JI rfl
  have hlw:w.heap.size<wr.heap.size:=HBX.out.lt (i:=0) (by show 0<1;omega)
  by_cases hlt:k<ms.length
  ·have dk:decide ((k:Int)<(ms.length:Int))=true:=zt
   obtain⟨q,o,ha,hql,e0,e1⟩:=Own.Af.cells (HM.out.below HBX.out.under) hlt
   have HAA:=zh ha
   rw[ha] at x02
   clear ha
   obtain⟨z1,z2⟩:=HMS.out ms[k] (List.getElem_mem hlt)
   have hnext:=Own.YW ms k hlt
   obtain⟨x,hx⟩:∃ x,x=ms[k]:=⟨_,rfl⟩
   rw[<- hx] at e0 e1 z1 z2 hnext
   obtain⟨mn,mp⟩:=x
   dsimp only at e0 e1 z1 z2 hnext
   have HNX:=zh hnext
   clear hx hnext
   have Y1:=zh (zi x02)
   have Y2:=zh (zi e1)
   have E1:=zh e1
   go_wp2
   refine Lex.zn (fun i=>i=w.heap.size\/i=q) [10,14] 16 [8,8] ?_
   simp only[Lex.Bp,zd]
   go_wp2_with fail
   refine(J7 mn _ (by omega)).mono ?_
   rintro e w7 ⟨rfl,hb7⟩
   have B7:=zh (show Below wr.heap.size wr w7 from(Below.refl wr.heap.size wr).drew.trans hb7)
   have F7:=zh (HBX.out.step B7.out);clear hb7 e0 e1
   (try clear x00 x01 x02 x03 x04 x05 x06)
   obtain⟨x00,x01,x02,x03,x04,x05,x06⟩:=F7.out.JI rfl
   rw[HAA.out] at x02
   have e1:=(B7.out.cell (p:=⟨q,o+k*2+1,none⟩) hql).trans E1.out
   obtain⟨T1,hT1⟩:∃ T,T=Cod.text mn:=⟨_,rfl⟩
   rw[<- hT1] at HNX ⊢
   have zT1:T1.size<=42:=by rw[hT1];have:=Own.Cr mn;omega
   clear hT1
   go_wp2
   refine Lex.Mid.intro (fun i hi hl=>by rcases hi with rfl|rfl<;>exact B7.out.block _ hl) ?_
   go_wp2_with fail
   refine(J7 mp _ (by omega)).mono ?_
   rintro e w8 ⟨rfl,hb8⟩
   have B8:=zh (B7.out.trans (hb8.mono B7.out.size))
   have F8:=zh (HBX.out.step B8.out);clear hb8 e1
   (try clear x00 x01 x02 x03 x04 x05 x06)
   obtain⟨T2,hT2⟩:∃ T,T=Cod.text mp:=⟨_,rfl⟩
   rw[<- hT2] at HNX ⊢
   have zT2:T2.size<=43:=by rw[hT2];have:=Own.Cr mp;omega
   clear hT2
   go_wp2
   refine Lex.Mid.intro (fun i hi hl=>by rcases hi with rfl|rfl<;>exact B8.out.block _ hl) ?_
   go_wp2
   refine Lex.zk ⟨⟨.inl rfl,Y1.out⟩,⟨.inr rfl,Y2.out⟩,trivial⟩ ?_
   have hnew:=zh (show Y++T1++T2=X++Cod.cat ((ms.take (k+1)).map Own.AV) by rw[HNX.out,HY.out];simp only[ByteArray.append_assoc])
   go_wp2
   go_round
   case measure=>simp[intOf];omega
   case rel=>exact⟨k+1,by omega,by go_num,by rw[<- hnew.out],F8.out⟩
  ·have hke:k=ms.length:=by omega
   have dk:decide ((k:Int)<(ms.length:Int))=false:=zf
   have HYY:=zh (show Y=X++Cod.cat (ms.map Own.AV) by rw[HY.out,hke,List.take_length])
   have Y1:=zh (zi x04)
   have Y2:=zh (zi x05)
   clear hke
   go_wp2
   refine Lex.zn (fun i=>i=w.heap.size) [6,10] 12 [4,4,4] ?_
   simp only[Lex.Bp,zd]
   go_wp2_with fail
   refine(J6 tn _ (by omega)).mono ?_
   rintro e w6 ⟨rfl,hb6⟩
   have B6:=zh (show Below wr.heap.size wr w6 from(Below.refl wr.heap.size wr).drew.trans hb6)
   have F6:=zh (HBX.out.step B6.out);clear hb6
   (try clear x00 x01 x02 x03 x04 x05 x06)
   obtain⟨x00,x01,x02,x03,x04,x05,x06⟩:=F6.out.JI rfl
   obtain⟨U2,hU2⟩:∃ U,U=Cod.uns tn:=⟨_,rfl⟩
   rw[<- hU2]
   have zU2:U2.size<=10:=by rw[hU2];exact Cod.Ce tn
   have HU2:=zh hU2;clear hU2
   go_wp2
   refine Lex.Mid.intro (fun i hi hl=>by subst hi;exact B6.out.block _ hl) ?_
   go_wp2_with fail
   refine(J7 nm _ (by omega)).mono ?_
   rintro e w7 ⟨rfl,hb7⟩
   have B7:=zh (B6.out.trans (hb7.mono B6.out.size))
   have F7:=zh (HBX.out.step B7.out);clear hb7
   (try clear x00 x01 x02 x03 x04 x05 x06)
   obtain⟨x00,x01,x02,x03,x04,x05,x06⟩:=F7.out.JI rfl
   obtain⟨T1,hT1⟩:∃ T,T=Cod.text nm:=⟨_,rfl⟩
   rw[<- hT1]
   have zT1:T1.size<=42:=by rw[hT1];have:=Own.Cr nm;omega
   have HT1:=zh hT1;clear hT1
   go_wp2
   refine Lex.Mid.intro (fun i hi hl=>by subst hi;exact B7.out.block _ hl) ?_
   go_wp2_with fail
   refine(J7 pb _ (by omega)).mono ?_
   rintro e w8 ⟨rfl,hb8⟩
   have B8:=zh (B7.out.trans (hb8.mono B7.out.size))
   have F8:=zh (HBX.out.step B8.out);clear hb8
   (try clear x00 x01 x02 x03 x04 x05 x06)
   obtain⟨T2,hT2⟩:∃ T,T=Cod.text pb:=⟨_,rfl⟩
   rw[<- hT2]
   have zT2:T2.size<=43:=by rw[hT2];have:=Own.Cr pb;omega
   have HT2:=zh hT2;clear hT2
   go_wp2
   refine Lex.Mid.intro (fun i hi hl=>by subst hi;exact B8.out.block _ hl) ?_
   go_wp2
   refine Lex.zk ⟨⟨rfl,Y1.out⟩,⟨rfl,Y2.out⟩,trivial⟩ ?_
   go_wp2
   (try go_ret)
   refine⟨?_,F8.out.under⟩
   rw[HYY.out,HX.out,HR.out,HU.out,HT.out,HV.out,HU2.out,HT1.out,HT2.out]
   simp only[ByteArray.append_assoc]
   rfl
theorem VI (o:Own.Ao)(op:Own.Op)(sv kv mv av:Value)(w:World)(hs:∃ a n c,sv=.slice a n c)(hk:∃ a n c,kv=.slice a n c)(hm:Own.Af w mv op.members)(ha:∃ a c,av=.slice a op.Aa.length c)(hl:op.members.length<=140737488355328)(hps:op.pre.size<=9223372036854775000):
 Calls Tryz.prog 17 #[.agg #[.int .i64 o.count,sv,kv],Own.opV op mv av] w fun e w' => e=.returned (.tuple #[.string (Own.AZ o op).1,.int .i64 (Own.AZ o op).2])/\Below w.heap.size w w':=by
 obtain⟨R,hR⟩:∃ R,R=Own.AZ o op:=⟨_,rfl⟩
 rw[<- hR]
 unfold Own.AZ at hR
 obtain⟨cnt,hcnt⟩:∃ c,c=o.count:=⟨_,rfl⟩
 rw[<- hcnt] at hR ⊢
 obtain⟨sa,sn,sc,rfl⟩:=hs
 obtain⟨ka,kn,kc,rfl⟩:=hk
 obtain⟨ma,mc,rfl⟩:=hm.len
 obtain⟨aa,ac,rfl⟩:=ha
 have HR:=zh hR
 clear hR hcnt
 have F1:=zh (show Au w _ [(25,#[.int .i64 cnt,.slice sa sn sc,.slice ka kn kc]),(29,#[.int .i64 op.kind,.string op.pre,.slice ma op.members.length mc,.int .i64 op.threshold,.string op.name,.string op.pub,.slice aa op.Aa.length ac])] from(((CY.nil w).push 25 #[.int .i64 cnt,.slice sa sn sc,.slice ka kn kc]).push 29 #[.int .i64 op.kind,.string op.pre,.slice ma op.members.length mc,.int .i64 op.threshold,.string op.name,.string op.pub,.slice aa op.Aa.length ac]).boxes)
 have hcf:=fun W (hW:Below w.heap.size w W)=>NP op (.slice ma op.members.length mc) (.slice aa op.Aa.length ac) W (hm.below hW) ⟨_,_,rfl⟩ hl hps
 have hcb:=fun(hz:Own.KD op) W (hW:Below w.heap.size w W)=>zct op (.slice ma op.members.length mc) (.slice aa op.Aa.length ac) W (hm.below hW) ⟨_,_,rfl⟩ hz
 unfold Own.opV at hcf hcb
 have HCF:=zh hcf;have HCB:=zh hcb
 unfold Own.opV
 clear hm hcf hcb
 have x00:((w.alloc (.cells #[.int .i64 cnt,.slice sa sn sc,.slice ka kn kc] 25)).alloc (.cells #[.int .i64 op.kind,.string op.pre,.slice ma op.members.length mc,.int .i64 op.threshold,.string op.name,.string op.pub,.slice aa op.Aa.length ac] 29)).cell? ⟨w.heap.size,0,none⟩=some (.int .i64 cnt):=F1.out.cell 0 0 rfl rfl
 have x10:((w.alloc (.cells #[.int .i64 cnt,.slice sa sn sc,.slice ka kn kc] 25)).alloc (.cells #[.int .i64 op.kind,.string op.pre,.slice ma op.members.length mc,.int .i64 op.threshold,.string op.name,.string op.pub,.slice aa op.Aa.length ac] 29)).cell? ⟨w.heap.size+1,0,none⟩=some (.int .i64 op.kind):=F1.out.cell 1 0 rfl rfl
 have x11:((w.alloc (.cells #[.int .i64 cnt,.slice sa sn sc,.slice ka kn kc] 25)).alloc (.cells #[.int .i64 op.kind,.string op.pre,.slice ma op.members.length mc,.int .i64 op.threshold,.string op.name,.string op.pub,.slice aa op.Aa.length ac] 29)).cell? ⟨w.heap.size+1,1,none⟩=some (.string op.pre):=F1.out.cell 1 1 rfl rfl
 have x12:((w.alloc (.cells #[.int .i64 cnt,.slice sa sn sc,.slice ka kn kc] 25)).alloc (.cells #[.int .i64 op.kind,.string op.pre,.slice ma op.members.length mc,.int .i64 op.threshold,.string op.name,.string op.pub,.slice aa op.Aa.length ac] 29)).cell? ⟨w.heap.size+1,2,none⟩=some (.slice ma op.members.length mc):=F1.out.cell 1 2 rfl rfl
 have x13:((w.alloc (.cells #[.int .i64 cnt,.slice sa sn sc,.slice ka kn kc] 25)).alloc (.cells #[.int .i64 op.kind,.string op.pre,.slice ma op.members.length mc,.int .i64 op.threshold,.string op.name,.string op.pub,.slice aa op.Aa.length ac] 29)).cell? ⟨w.heap.size+1,3,none⟩=some (.int .i64 op.threshold):=F1.out.cell 1 3 rfl rfl
 have x14:((w.alloc (.cells #[.int .i64 cnt,.slice sa sn sc,.slice ka kn kc] 25)).alloc (.cells #[.int .i64 op.kind,.string op.pre,.slice ma op.members.length mc,.int .i64 op.threshold,.string op.name,.string op.pub,.slice aa op.Aa.length ac] 29)).cell? ⟨w.heap.size+1,4,none⟩=some (.string op.name):=F1.out.cell 1 4 rfl rfl
 have x15:((w.alloc (.cells #[.int .i64 cnt,.slice sa sn sc,.slice ka kn kc] 25)).alloc (.cells #[.int .i64 op.kind,.string op.pre,.slice ma op.members.length mc,.int .i64 op.threshold,.string op.name,.string op.pub,.slice aa op.Aa.length ac] 29)).cell? ⟨w.heap.size+1,5,none⟩=some (.string op.pub):=F1.out.cell 1 5 rfl rfl
 have x16:((w.alloc (.cells #[.int .i64 cnt,.slice sa sn sc,.slice ka kn kc] 25)).alloc (.cells #[.int .i64 op.kind,.string op.pre,.slice ma op.members.length mc,.int .i64 op.threshold,.string op.name,.string op.pub,.slice aa op.Aa.length ac] 29)).cell? ⟨w.heap.size+1,6,none⟩=some (.slice aa op.Aa.length ac):=F1.out.cell 1 6 rfl rfl
 go_enter Tryz.func17,Tryz.ntmps17
 by_cases h0:cnt<0
 ·have d0:decide (cnt<0)=true:=decide_eq_true h0
  have HE:=zh (show R=(⟨#[]⟩,1) by rw[HR.out,decide_eq_false (show ¬ 0<=cnt by omega)];rfl)
  go_wp2
  go_ret2
  exact⟨by rw[HE.out];rfl,F1.out.under⟩
 have d0:decide (cnt<0)=false:=decide_eq_false h0
 by_cases h4:1099511627776<cnt
 ·have d4:decide ((1099511627776:Int)<cnt)=true:=decide_eq_true h4
  have HE:=zh (show R=(⟨#[]⟩,1) by rw[HR.out,decide_eq_true (show 0<=cnt by omega),decide_eq_false (show ¬ cnt<=Own.late by unfold Own.late;omega)];rfl)
  go_wp2
  go_ret2
  exact⟨by rw[HE.out];rfl,F1.out.under⟩
 have d4:decide ((1099511627776:Int)<cnt)=false:=decide_eq_false h4
 go_upto_region 1 with fail
 generalize ((w.alloc (.cells #[.int .i64 cnt,.slice sa sn sc,.slice ka kn kc] 25)).alloc (.cells #[.int .i64 op.kind,.string op.pre,.slice ma op.members.length mc,.int .i64 op.threshold,.string op.name,.string op.pub,.slice aa op.Aa.length ac] 29))=w1 at*
 go_wp2_with fail
 refine(HCF.out w1 F1.out.under).mono ?_
 rintro e w2 ⟨rfl,hb2⟩
 have F2:=zh (F1.out.step hb2);clear hb2
 (try clear x00);(try clear x10);(try clear x11);(try clear x12);(try clear x13);(try clear x14);(try clear x15);(try clear x16)
 have x00:w2.cell? ⟨w.heap.size,0,none⟩=some (.int .i64 cnt):=F2.out.cell 0 0 rfl rfl
 obtain⟨x10,x11,x12,x13,x14,x15,x16⟩:=F2.out.KE rfl
 cases hok:Own.Eh op with
 | false =>
   have HE:=zh (show R=(⟨#[]⟩,1) by rw[HR.out,hok,Bool.and_false];rfl)
   clear hok
   go_wp2
   go_ret2
   exact⟨by rw[HE.out];rfl,F2.out.under⟩
 | true=>
 have hz:=Own.KD.of hok
 have hbz:=Own.Gg hz
 obtain⟨n,rfl⟩:∃ n:Nat,cnt=n:=⟨cnt.toNat,by omega⟩
 have HE0:=zh (show R=(Sig.b1 12++(Cod.uns n++Own.CW op),0) by
  rw[HR.out,hok,decide_eq_true (show(0:Int)<=(n:Int) by omega),decide_eq_true (show(n:Int)<=Own.late by unfold Own.late;omega)]
  rfl)
 have pF:=zh (HCB.out hz)
 clear hok HR HCB hz
 have hlt:w.heap.size+1<w2.heap.size:=F2.out.lt (i:=1) (by show 1<2;omega)
 have X1:=zh (zi x10)
 go_upto_region 3 with fail
 refine Lex.zn (fun i=>i=w.heap.size+1) [4] 6 [3,3] ?_
 simp only[Lex.Bp,zd]
 go_wp2_with fail
 refine(J6 n _ (by omega)).mono ?_
 rintro e w3 ⟨rfl,hb3⟩
 have B3:=zh (show Below w2.heap.size w2 w3 from(Below.refl w2.heap.size w2).drew.trans hb3)
 have F3:=zh (F2.out.step B3.out);clear hb3
 (try clear x00);(try clear x10);(try clear x11);(try clear x12);(try clear x13);(try clear x14);(try clear x15);(try clear x16)
 obtain⟨x10,x11,x12,x13,x14,x15,x16⟩:=F3.out.KE rfl
 obtain⟨U,hU⟩:∃ U,U=Cod.uns n:=⟨_,rfl⟩
 rw[<- hU] at HE0 ⊢
 have zU:U.size<=10:=by rw[hU];exact Cod.Ce n
 clear hU
 obtain⟨T,hT⟩:∃ T:ByteArray,T=⟨#[12]⟩:=⟨_,rfl⟩
 have zT:T.size=1:=by rw[hT];rfl
 have HT:=zh hT;clear hT
 go_wp2
 refine Lex.Mid.intro (fun i hi hl=>by subst hi;exact B3.out.block _ hl) ?_
 go_wp2_with fail
 refine(pF.out w3 F3.out.under).mono ?_
 rintro e w4 ⟨rfl,hb4⟩
 have B4:=zh (B3.out.trans (hb4.mono B3.out.size))
 have F4:=zh (F2.out.step B4.out);clear hb4
 (try clear x00);(try clear x10);(try clear x11);(try clear x12);(try clear x13);(try clear x14);(try clear x15);(try clear x16)
 obtain⟨V,hV⟩:∃ V,V=Own.CW op:=⟨_,rfl⟩
 rw[<- hV] at HE0 hbz ⊢
 clear hV
 go_wp2
 refine Lex.Mid.intro (fun i hi hl=>by subst hi;exact B4.out.block _ hl) ?_
 go_wp2
 refine Lex.zk ⟨⟨rfl,X1.out⟩,trivial⟩ ?_
 go_wp2
 go_ret2
 refine⟨?_,F4.out.under⟩
 rw[HE0.out]
 unfold Sig.b1
 rw[ByteArray.append_assoc]
 rfl
end
end Go.Proofs.YtjlmglgmcekmhaaGreatDoor
