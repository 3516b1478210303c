/- The laws' example of package 53 stands. -/
import Derived.Test.YtjlmglgmcekmhaaGreatDoorShkC7
set_option linter.unusedVariables false
set_option linter.unusedSimpArgs false
set_option maxRecDepth 100000
set_option maxHeartbeats 2000000
namespace Go.Proofs.YtjlmglgmcekmhaaGreatDoor
section
open Go Go.RowKit Go.Maps
theorem Dt.at1 {w:World}{b x:Nat}(h:At w b 5 #[.int .u8 (x:Int)]):Dt w (.slice (some ⟨b,0,none⟩) 1 1) [x]:=
 ⟨rfl,_,_,rfl,.inr ⟨b,0,rfl,h.lt,fun j u hj => by
   match j,hj with
   | 0,hj=>exact(h.cell 0).trans hj
   | j+1,hj=>cases hj⟩⟩
theorem awake53_any (w:World)(hM:Il w):Calls Tryz.prog 11 #[] w fun e w' => e=.returned (.bool true)/\Below w.heap.size w w':=by
 obtain⟨o1,o2,M2,OP,aps,EB,sx,sy,hA⟩:=Own.awk
 have hcl:=fun(b:Nat) W (hW:Below w.heap.size w W) (ha:At W b 5 #[.int .u8 1])=>Tc Own.sA 1 [1] (some ⟨b,0,none⟩) 1 W (hM.below hW) (Dt.at1 ha) (by simp) (by simp) (by simp)
 rw[hA.claim] at hcl
 have hmb:=fun(b:Nat) W (ha:At W b 5 #[.int .u8 2])=>Ir [2] (some ⟨b,0,none⟩) 1 W (Dt.at1 ha) (by simp) (by simp) (by simp)
 rw[hA.m2,hA.m2l] at hmb
 have hsg:=fun(sv kv mv:Value) (b:Nat) W (hW:Below w.heap.size w W) hs hk (hm:Own.Af W mv M2) (ha:At W b 5 #[.int .u8 1])=>Jm o1 ⟨2,Own.sAB,M2,1,⟨#[]⟩,⟨#[]⟩,[]⟩ 1 [1] sv kv mv (.slice none 0 0) (some ⟨b,0,none⟩) 1 W (hM.below hW) (by omega) hs hk hm ⟨_,_,rfl⟩ (by rw[hA.m2l];omega) (Dt.at1 ha) (by simp) (by simp)
 rw[hA.apd] at hsg
 unfold Own.opV Own.Xa at hsg
 dsimp only at hsg
 have hop:=hA.op
 subst hop
 have hap:=fun(sv kv mv av:Value) W (hW:Below w.heap.size w W) hS hK (hm:Own.Af W mv M2) hap=>PE o1 ⟨2,Own.sAB,M2,1,⟨#[]⟩,⟨#[]⟩,aps⟩ sv kv mv av W (hM.below hW) hS hK hm hap (Nat.le_trans hA.s1.1 (by omega)) (Nat.le_trans hA.s1.2.1 (by omega)) (fun s hs=>Nat.le_trans (hA.s1.2.2 s hs) (by omega)) (by show M2.length<=_;rw[hA.m2l];omega) hA.all
 rw[hA.app] at hap
 unfold Own.opV at hap
 dsimp only at hap
 have hvl:=fun(sv kv:Value) W (hW:Below w.heap.size w W) hS hK=>JN o1 sv kv W (hM.below hW) hS hK (Nat.le_trans hA.s1.1 (by omega)) (Nat.le_trans hA.s1.2.1 (by omega)) (fun s hs=>Nat.le_trans (hA.s1.2.2 s hs) (by omega))
 rw[hA.ok1] at hvl
 have hau:=fun(p:ByteArray) (sv kv:Value) W (hW:Below w.heap.size w W) hS hK=>Om o2 p sv kv W (hM.below hW) hS hK (Nat.le_trans hA.s2.1 (by omega)) (Nat.le_trans hA.s2.2.1 (by omega)) (fun s hs=>Nat.le_trans (hA.s2.2.2 s hs) (by omega))
 have uy:=hau Own.jA
 have aV:=hau Own.bU
 have uz:=hau Own.sB
 rw[hA.au1] at uy
 rw[hA.au2] at aV
 rw[hA.au3] at uz
 have hen:=fun(mv av:Value) W (hW:Below w.heap.size w W) (hm:Own.Af W mv M2) hap=>Nu ⟨2,Own.sAB,M2,1,⟨#[]⟩,⟨#[]⟩,aps⟩ mv av W (hM.below hW) hm hap (by show M2.length<=_;rw[hA.m2l];omega) (Nat.le_trans hA.sum (by omega)) (fun a ha=>⟨hA.idx a ha,(hA.all a ha).2⟩)
 rw[hA.enc] at hen
 unfold Own.opV at hen
 dsimp only at hen
 have hde:=fun W (hW:Below w.heap.size w W)=>WZ EB W (hM.below hW) (Nat.le_trans hA.sz (by omega))
 rw[hA.dec] at hde
 have hso:=fun(mv av mv2 av2:Value) W hm hm2 hA1 hA2=>Um ⟨2,Own.sAB,M2,1,⟨#[]⟩,⟨#[]⟩,aps⟩ mv av mv2 av2 W hm hm2 hA1 hA2 (by show M2.length<=_;rw[hA.m2l];omega) (by show aps.length<=_;rw[hA.apl];omega) (fun a ha=>(hA.all a ha).2)
 unfold Own.opV at hso
 dsimp only at hso
 obtain⟨c1,S1,K1⟩:=o1
 have hc1:c1=1:=hA.c1
 obtain⟨⟨p1,n1⟩,hk1,hn1⟩:=hA.k1
 have hk1:K1=[⟨p1,n1⟩]:=hk1
 have hn1:n1=1:=hn1
 subst hc1 hk1 hn1
 obtain⟨xp,xm,xt⟩:=sx
 obtain⟨yp,ym,yt⟩:=sy
 have hx1:xp=Own.sAB:=hA.x1
 have hy1:yp=Own.sA:=hA.y1
 subst hx1 hy1
 have hml:=hA.m2l
 have hal:=hA.apl
 have HCL:=zh hcl;have HMB:=zh hmb;have HSG:=zh hsg;have HAP:=zh hap;have HVL:=zh hvl;have HA1:=zh uy;have HA2:=zh aV;have HA3:=zh uz;have HEN:=zh hen;have HDE:=zh hde;have HSO:=zh hso;have HML:=zh hml;have HAL:=zh hal
 clear hcl hmb hsg hap hvl hau uy aV uz hen hde hso hA hml hal hM
 unfold Own.sAB Own.sA Own.jA Own.bU Own.sB at*
 go_enter Tryz.func11,Tryz.ntmps11
 go_wp2_with fail
 have hb1:Below w.heap.size w (w.alloc (.cells #[.int .u8 1] 5)):=zb
 have hat:=At.new w 5 #[.int .u8 1]
 have B1:=zh hb1;have T1:=zh hat;clear hb1 hat
 generalize w.alloc (.cells #[.int .u8 1] 5)=w1 at*
 refine(HCL.out w.heap.size w1 B1.out T1.out).mono ?_
 rintro e w2 ⟨sv,kv,rfl,hs2,hk2,hb2⟩
 have hb2':=B1.out.trans (hb2.mono B1.out.size)
 have hs3:Own.BF w2 sv S1:=hs2.mono (fun _ _ _=>trivial)
 have hk3:Own.Du w2 kv [⟨p1,1⟩]:=hk2.mono (fun _ _ _=>trivial)
 obtain⟨sa,sc,rfl⟩:=hs3.len
 obtain⟨ka,kc,hkv⟩:=hk3.len
 have hkv:kv=.slice ka 1 kc:=hkv
 subst hkv
 have hb3:Below w2.heap.size w2 (w2.alloc (.cells #[.int .i64 1,.slice sa S1.length sc,.slice ka 1 kc] 25)):=zb
 have B3:=zh (hb2'.trans (hb3.mono hb2'.size));have S3:=zh (hs3.below hb3);have K3:=zh (hk3.below hb3)
 have T3:=zh (At.new w2 25 #[.int .i64 1,.slice sa S1.length sc,.slice ka 1 kc])
 have hwb:w.heap.size<=w2.heap.size:=hb2'.size
 clear hs2 hk2 hb2 hb2' hs3 hk3 hb3 B1 T1 HCL
 go_wp2_with fail
 generalize w2.alloc (.cells #[.int .i64 1,.slice sa S1.length sc,.slice ka 1 kc] 25)=w3 at*
 obtain⟨b,hb⟩:∃ b,b=w2.heap.size:=⟨_,rfl⟩
 rw[<- hb] at T3 hwb ⊢
 clear hb
 refine(HVL.out _ _ w3 B3.out S3.out K3.out).mono ?_
 rintro e w4 ⟨rfl,hb4⟩
 have B4:=zh (B3.out.trans (hb4.mono B3.out.size));have S4:=zh (S3.out.below hb4);have K4:=zh (K3.out.below hb4);have T4:=zh (T3.out.below hb4 T3.out.lt)
 clear hb4 B3 S3 K3 T3 HVL
 obtain⟨gk,ok,ha,_,e0,e1⟩:=Own.Du.cells K4.out (i:=0) (by simp)
 subst ha
 have e1:w4.cell? ⟨gk,ok+1,none⟩=some (.int .i64 1):=by simpa using e1
 clear e0
 obtain⟨c0,c1,c2⟩:=T4.out.c3
 go_wp2_with fail
 clear e1
 have Y0:=zh (zi c0)
 have u7:b<w4.heap.size:=T4.out.lt
 refine Lex.EU (fun k=>k=b) [0] [1,4,6] 7 [.pure 1,.new,.call,.pure 1,.new,.call,.new] [] (by kernel_rfl) (by kernel_rfl) (by kernel_rfl) ?_
 simp only[Lex.Iw,Lex.Bp,zd]
 have bd:Below w4.heap.size w4 w4.drew:=(Below.refl _ _).drew
 have BD:=zh bd
 have ZD:=zh (show w4.drew.heap.size=w4.heap.size by rw[Ez])
 clear bd
 go_wp2_with fail
 refine Lex.Oy.intro ?_
 intro w5 hw5
 go_wp2_with fail
 refine Lex.OA.intro (fun w6 hg6 hk6 ho6=>?_)
 have hs6:=hk6.at_
 have hl5:w4.heap.size<=w5.heap.size:=by rw[<- ZD.out];exact hw5
 obtain⟨g6,hg⟩:∃ g,g=w5.heap.size:=⟨_,rfl⟩
 rw[World.size_alloc]
 rw[<- hg] at hs6 hl5 ⊢
 have X6:=zh (BD.out.trans (hg6.mono BD.out.size));have P6:=zh hs6
 clear hg6 hk6 ho6 hs6 hg hw5
 intro w7 hg7
 have X7:=zh (X6.out.trans (hg7.mono X6.out.size));have P7:=zh (P6.out.below hg7 P6.out.lt)
 clear hg7 X6 P6
 go_wp2_with fail
 refine(HMB.out g6 w7 P7.out).mono ?_
 rintro e w8 ⟨mv,rfl,hm8,hb8⟩
 obtain⟨ma,mn,mc,rfl⟩:=Ac hm8
 obtain rfl:=Ba hm8
 have X8:=zh (X7.out.trans (hb8.mono X7.out.size));have BB8:=zh hb8
 have zL:Own.Af w8 (.slice ma 1 mc) M2:=Own.Af.of (Bc.own hm8) HML.out.symm
 have M8:=zh zL;have R8:=zh hm8;have HLT:=zh (fun k (hk:(Value.slice ma 1 mc).ownBlock=some k)=>(show w7.heap.size<=k/\k<w8.heap.size from⟨Ak hm8 k hk,Own.IZ hm8 k hk⟩))
 have hz7:w4.heap.size<=w7.heap.size:=X7.out.size
 clear hm8 hb8 zL X7 P7 HMB
 go_wp2_with fail
 refine Lex.Ug.intro (fun j hj hjl=>by rw[hj];exact X8.out.block _ u7) (Lex.Kept.of_below BB8.out) ?_
 go_wp2_with fail
 refine Lex.Oy.intro ?_
 intro w9 hw9
 go_wp2_with fail
 refine Lex.OA.intro (fun w10 qB hk10 zbc=>?_)
 have jy:=hk10.at_
 have hl9:w4.heap.size<=w9.heap.size:=by rw[<- ZD.out];exact hw9
 obtain⟨g10,hg⟩:∃ g,g=w9.heap.size:=⟨_,rfl⟩
 rw[World.size_alloc]
 rw[<- hg] at jy hl9 ⊢
 have X10:=zh (X8.out.trans (qB.mono X8.out.size));have P10:=zh jy;have M10:=zh (M8.out.below qB);have R10:=zh (own_below R8.out qB)
 clear qB hk10 zbc jy hg hw9 X8 M8 BB8 R8
 intro w11 Sj
 have X11:=zh (X10.out.trans (Sj.mono X10.out.size));have P11:=zh (P10.out.below Sj P10.out.lt);have M11:=zh (M10.out.below Sj);have R11:=zh (own_below R10.out Sj)
 have B11:=zh (B4.out.trans (X11.out.mono B4.out.size))
 clear Sj X10 P10 M10 R10
 go_wp2_with fail
 refine(HSG.out (.slice sa S1.length sc) (.slice (some ⟨gk,ok,none⟩) 1 kc) (.slice ma 1 mc) g10 w11 B11.out ⟨_,_,_,rfl⟩ ⟨_,_,_,rfl⟩ M11.out P11.out).mono ?_
 rintro e w12 ⟨av,rfl,uD,qC⟩
 obtain⟨aa,ac,hav⟩:=uD.len
 rw[HAL.out] at hav
 subst hav
 have X12:=zh (X11.out.trans (qC.mono X11.out.size));have zM:=zh qC;have R12:=zh (own_below R11.out qC);have A12:=zh uD
 have oW:w4.heap.size<=w11.heap.size:=X11.out.size
 clear uD qC X11 P11 M11 HSG B11 R11
 go_wp2_with fail
 refine Lex.Ug.intro (fun j hj hjl=>by rw[hj];exact X12.out.block _ u7) (Lex.Kept.of_below zM.out) ?_
 intro w13 zN
 go_wp2_with fail
 refine Lex.OA.intro (fun w14 qD zO uE=>?_)
 have uF:=zO.at_
 have zQ:w4.heap.size<=w13.heap.size:=by rw[<- ZD.out];exact zN
 obtain⟨q,hq⟩:∃ g,g=w13.heap.size:=⟨_,rfl⟩
 rw[<- hq] at uF zQ ⊢
 have X14:=zh (X12.out.trans (qD.mono X12.out.size));have Q14:=zh uF;have R14:=zh (own_below R12.out qD)
 have o1:=uE (w11.heap.size,w12.heap.size) (by simp)
 have o2:=uE (w7.heap.size,w8.heap.size) (by simp)
 rw[World.size_alloc,<- hq] at o1 o2
 dsimp only at o1 o2
 have G14:=zh qD;have OF1:=zh o1;have OF2:=zh o2
 clear uE zO uF qD o1 o2 hq zN X12 zM R12
 have s0:=Q14.out.cell 0;have s1:=Q14.out.cell 1;have s2:=Q14.out.cell 2;have s3:=Q14.out.cell 3;have s4:=Q14.out.cell 4;have s5:=Q14.out.cell 5;have s6:=Q14.out.cell 6
 have t0:=Q14.out.free 0;have t1:=Q14.out.free 1;have t2:=Q14.out.free 2;have t3:=Q14.out.free 3;have t4:=Q14.out.free 4;have t5:=Q14.out.free 5;have t6:=Q14.out.free 6
 simp only[zg] at s0 s1 s2 s3 s4 s5 s6
 go_wp2_with fail
 refine Lex.zk ⟨⟨rfl,Y0.out⟩,trivial⟩ ?_
 have Ip:∀ k,k≠q->(((((((w14.setCell ⟨q,0,none⟩ (.int .i64 2)).setCell ⟨q,1,none⟩ (.string ⟨#[97,47,98]⟩)).setCell ⟨q,2,none⟩ (.slice ma 1 mc)).setCell ⟨q,3,none⟩ (.int .i64 1)).setCell ⟨q,4,none⟩ (.string ⟨#[]⟩)).setCell ⟨q,5,none⟩ (.string ⟨#[]⟩)).setCell ⟨q,6,none⟩ (.slice aa 1 ac)).heap[k]? = w14.heap[k]? :=fun k hk=>Nv hk _ _ _ _ _ _ _
 have hsz:(((((((w14.setCell ⟨q,0,none⟩ (.int .i64 2)).setCell ⟨q,1,none⟩ (.string ⟨#[97,47,98]⟩)).setCell ⟨q,2,none⟩ (.slice ma 1 mc)).setCell ⟨q,3,none⟩ (.int .i64 1)).setCell ⟨q,4,none⟩ (.string ⟨#[]⟩)).setCell ⟨q,5,none⟩ (.string ⟨#[]⟩)).setCell ⟨q,6,none⟩ (.slice aa 1 ac)).heap.size=w14.heap.size:=OL (b:=q) _ _ _ _ _ _ _
 have X15:=zh (show Below w4.heap.size w4 (((((((w14.setCell ⟨q,0,none⟩ (.int .i64 2)).setCell ⟨q,1,none⟩ (.string ⟨#[97,47,98]⟩)).setCell ⟨q,2,none⟩ (.slice ma 1 mc)).setCell ⟨q,3,none⟩ (.int .i64 1)).setCell ⟨q,4,none⟩ (.string ⟨#[]⟩)).setCell ⟨q,5,none⟩ (.string ⟨#[]⟩)).setCell ⟨q,6,none⟩ (.slice aa 1 ac)) from WY X14.out zQ _ _ _ _ _ _ _)
 have Q15:=zh (show At (((((((w14.setCell ⟨q,0,none⟩ (.int .i64 2)).setCell ⟨q,1,none⟩ (.string ⟨#[97,47,98]⟩)).setCell ⟨q,2,none⟩ (.slice ma 1 mc)).setCell ⟨q,3,none⟩ (.int .i64 1)).setCell ⟨q,4,none⟩ (.string ⟨#[]⟩)).setCell ⟨q,5,none⟩ (.string ⟨#[]⟩)).setCell ⟨q,6,none⟩ (.slice aa 1 ac)) q 29 #[.int .i64 2,.string ⟨#[97,47,98]⟩,.slice ma 1 mc,.int .i64 1,.string ⟨#[]⟩,.string ⟨#[]⟩,.slice aa 1 ac] from At.Qc Q14.out _ _ _ _ _ _ _)
 have R15:=zh (Ae (w':=((((((w14.setCell ⟨q,0,none⟩ (.int .i64 2)).setCell ⟨q,1,none⟩ (.string ⟨#[97,47,98]⟩)).setCell ⟨q,2,none⟩ (.slice ma 1 mc)).setCell ⟨q,3,none⟩ (.int .i64 1)).setCell ⟨q,4,none⟩ (.string ⟨#[]⟩)).setCell ⟨q,5,none⟩ (.string ⟨#[]⟩)).setCell ⟨q,6,none⟩ (.slice aa 1 ac)) R14.out (fun k hk=>Ip k (by have h1:=HLT.out k hk;have h2:=OF2.out;omega)))
 have A15:=zh (A12.out.keep (w':=((((((w14.setCell ⟨q,0,none⟩ (.int .i64 2)).setCell ⟨q,1,none⟩ (.string ⟨#[97,47,98]⟩)).setCell ⟨q,2,none⟩ (.slice ma 1 mc)).setCell ⟨q,3,none⟩ (.int .i64 1)).setCell ⟨q,4,none⟩ (.string ⟨#[]⟩)).setCell ⟨q,5,none⟩ (.string ⟨#[]⟩)).setCell ⟨q,6,none⟩ (.slice aa 1 ac)) (by rw[hsz];exact G14.out.size) (fun k h1 h2=>(Ip k (by have h3:=OF1.out;omega)).trans (G14.out.block k h2)))
 clear Ip hsz X14 Q14 R14 A12 G14 OF1 OF2 HLT s0 s1 s2 s3 s4 s5 s6 t0 t1 t2 t3 t4 t5 t6 Y0 BD ZD hl5 hl9 c0 c1 c2
 generalize ((((((w14.setCell ⟨q,0,none⟩ (.int .i64 2)).setCell ⟨q,1,none⟩ (.string ⟨#[97,47,98]⟩)).setCell ⟨q,2,none⟩ (.slice ma 1 mc)).setCell ⟨q,3,none⟩ (.int .i64 1)).setCell ⟨q,4,none⟩ (.string ⟨#[]⟩)).setCell ⟨q,5,none⟩ (.string ⟨#[]⟩)).setCell ⟨q,6,none⟩ (.slice aa 1 ac)=w15 at*
 have B15:=zh (B4.out.trans (X15.out.mono B4.out.size));have S15:=zh (S4.out.below X15.out);have K15:=zh (K4.out.below X15.out);have T15:=zh (T4.out.below X15.out u7)
 have hbq:b≠q:=T15.out.ne Q15.out (by decide)
 have M15:=zh (show Own.Af w15 (.slice ma 1 mc) M2 from Own.Af.of (Bc.own R15.out) HML.out.symm)
 clear X15 S4 K4 T4 B4
 have c0:=T15.out.cell 0;have c1:=T15.out.cell 1;have c2:=T15.out.cell 2
 have s0:=Q15.out.cell 0;have s1:=Q15.out.cell 1;have s2:=Q15.out.cell 2;have s3:=Q15.out.cell 3;have s4:=Q15.out.cell 4;have s5:=Q15.out.cell 5;have s6:=Q15.out.cell 6
 simp only[zg] at s0 s1 s2 s3 s4 s5 s6 c0 c1 c2
 go_wp2_with fail
 refine(HAP.out _ _ _ _ w15 B15.out S15.out K15.out M15.out A15.out.mG.out).mono ?_
 intro e w16 hp
 obtain⟨sv2,kv2,rfl,hs2,hk2,jG⟩:=hp.val
 have T16:=zh (T15.out.below jG T15.out.lt);have Q16:=zh (Q15.out.below jG Q15.out.lt);have R16:=zh (own_below R15.out jG);have A16:=zh (A15.out.below jG);have B16:=zh (B15.out.trans (jG.mono B15.out.size))
 have Tn:b<w15.heap.size:=T15.out.lt
 obtain⟨sb,sd,rfl⟩:=hs2.len
 obtain⟨kb,kd,rfl⟩:=hk2.len
 have S16:=zh hs2;have K16:=zh hk2
 obtain⟨c2n,S2,K2⟩:=o2
 dsimp only at S16 K16
 dsimp only
 clear hp hs2 hk2 jG T15 Q15 R15 A15 B15 S15 K15 M15 HAP s0 s1 s2 s3 s4 s5 s6 c0 c1 c2
 have c0:=T16.out.cell 0;have c1:=T16.out.cell 1;have c2:=T16.out.cell 2;have c0f:=T16.out.free 0;have c1f:=T16.out.free 1;have c2f:=T16.out.free 2
 simp only[zg] at c0 c1 c2
 go_upto_region 6 with fail
 have Ip:∀ k,k≠b->(((w16.setCell ⟨b,0,none⟩ (.int .i64 c2n)).setCell ⟨b,1,none⟩ (.slice sb S2.length sd)).setCell ⟨b,2,none⟩ (.slice kb K2.length kd)).heap[k]? = w16.heap[k]? :=fun k hk=>by rw[zo hk,zo hk,zo hk]
 have hsz:(((w16.setCell ⟨b,0,none⟩ (.int .i64 c2n)).setCell ⟨b,1,none⟩ (.slice sb S2.length sd)).setCell ⟨b,2,none⟩ (.slice kb K2.length kd)).heap.size=w16.heap.size:=by simp[World.setCell]
 have ht:=((T16.out.set 0 (.int .i64 c2n)).set 1 (.slice sb S2.length sd)).set 2 (.slice kb K2.length kd)
 simp only[List.setIfInBounds_toArray,List.set_cons_zero,List.set_cons_succ] at ht
 have T17:=zh ht
 have Q17:=zh (Q16.out.keep (Ip q hbq.symm))
 have R17:=zh (Ae R16.out (fun k hk=>Ip k (by have:=Ak R16.out k hk;omega)))
 have A17:=zh (A16.out.keep (Nat.le_of_eq hsz.symm) (fun k hk _=>Ip k (by omega)))
 have S17:=zh (((S16.out.keep (Nat.le_of_eq hsz.symm) (fun k hk _=>Ip k (by omega)))).mono (G:=Own.aP) (fun _ _ _=>trivial))
 have K17:=zh (((K16.out.keep (Nat.le_of_eq hsz.symm) (fun k hk _=>Ip k (by omega)))).mono (G:=Own.aP) (fun _ _ _=>trivial))
 have B17:=zh (((B16.out.setCell (p:=⟨b,0,none⟩) hwb (.int .i64 c2n)).setCell (p:=⟨b,1,none⟩) hwb (.slice sb S2.length sd)).setCell (p:=⟨b,2,none⟩) hwb (.slice kb K2.length kd))
 clear Ip hsz ht T16 Q16 R16 A16 S16 K16 B16 c0 c1 c2 c0f c1f c2f Tn
 generalize ((w16.setCell ⟨b,0,none⟩ (.int .i64 c2n)).setCell ⟨b,1,none⟩ (.slice sb S2.length sd)).setCell ⟨b,2,none⟩ (.slice kb K2.length kd)=w17 at*
 obtain⟨c0,c1,c2⟩:=T17.out.c3
 go_wp2_with fail
 refine(HA1.out _ _ w17 B17.out S17.out K17.out).mono ?_
 rintro e w18 ⟨hp,hb⟩
 obtain⟨v',rfl,hrow⟩:=hp
 obtain⟨x1a,x1n,x1c,rfl⟩:=Ac hrow
 clear hrow c0 c1 c2
 have T18:=zh (T17.out.below hb T17.out.lt);have Q18:=zh (Q17.out.below hb Q17.out.lt);have R18:=zh (own_below R17.out hb);have A18:=zh (A17.out.below hb);have S18:=zh (S17.out.below hb);have K18:=zh (K17.out.below hb);have B18:=zh (B17.out.trans ((hb).mono B17.out.size))
 clear T17 Q17 R17 A17 S17 K17 B17
 clear hb
 go_upto_region 7 with fail
 have hb:Below w18.heap.size w18 (w18.alloc (.cells #[.string ⟨#[97,47,98]⟩,.slice x1a x1n x1c,.int .i64 xt] 39)):=zb
 have qE:=zh (At.new w18 39 #[.string ⟨#[97,47,98]⟩,.slice x1a x1n x1c,.int .i64 xt])
 have T19:=zh (T18.out.below hb T18.out.lt);have Q19:=zh (Q18.out.below hb Q18.out.lt);have R19:=zh (own_below R18.out hb);have A19:=zh (A18.out.below hb);have S19:=zh (S18.out.below hb);have K19:=zh (K18.out.below hb);have B19:=zh (B18.out.trans ((hb).mono B18.out.size))
 clear T18 Q18 R18 A18 S18 K18 B18
 clear hb
 generalize w18.alloc (.cells #[.string ⟨#[97,47,98]⟩,.slice x1a x1n x1c,.int .i64 xt] 39)=w19 at*
 obtain⟨bx,hbx⟩:∃ g,g=w18.heap.size:=⟨_,rfl⟩
 rw[<- hbx] at qE ⊢
 clear hbx
 obtain⟨c0,c1,c2⟩:=T19.out.c3
 go_wp2_with fail
 refine(HA2.out _ _ w19 B19.out S19.out K19.out).mono ?_
 rintro e w20 ⟨hp,hb⟩
 obtain⟨v',rfl,hrow⟩:=hp
 obtain⟨x2a,x2n,x2c,rfl⟩:=Ac hrow
 clear hrow c0 c1 c2
 have T20:=zh (T19.out.below hb T19.out.lt);have Q20:=zh (Q19.out.below hb Q19.out.lt);have R20:=zh (own_below R19.out hb);have A20:=zh (A19.out.below hb);have S20:=zh (S19.out.below hb);have K20:=zh (K19.out.below hb);have B20:=zh (B19.out.trans ((hb).mono B19.out.size))
 clear T19 Q19 R19 A19 S19 K19 B19
 have uG:=zh (qE.out.below hb qE.out.lt)
 clear hb qE
 go_upto_region 8 with fail
 have hb:Below w20.heap.size w20 (w20.alloc (.cells #[.string ⟨#[97]⟩,.slice x2a x2n x2c,.int .i64 yt] 39)):=zb
 have qF:=zh (At.new w20 39 #[.string ⟨#[97]⟩,.slice x2a x2n x2c,.int .i64 yt])
 have uH:=zh (uG.out.below hb uG.out.lt)
 have T21:=zh (T20.out.below hb T20.out.lt);have Q21:=zh (Q20.out.below hb Q20.out.lt);have R21:=zh (own_below R20.out hb);have A21:=zh (A20.out.below hb);have S21:=zh (S20.out.below hb);have K21:=zh (K20.out.below hb);have B21:=zh (B20.out.trans ((hb).mono B20.out.size))
 clear T20 Q20 R20 A20 S20 K20 B20
 clear hb uG
 generalize w20.alloc (.cells #[.string ⟨#[97]⟩,.slice x2a x2n x2c,.int .i64 yt] 39)=w21 at*
 obtain⟨by_,hby⟩:∃ g,g=w20.heap.size:=⟨_,rfl⟩
 rw[<- hby] at qF ⊢
 clear hby
 obtain⟨c0,c1,c2⟩:=T21.out.c3
 go_wp2_with fail
 refine(HA3.out _ _ w21 B21.out S21.out K21.out).mono ?_
 rintro e w22 ⟨hp,hb⟩
 have hp:e=.returned (.tuple #[.agg #[.string ⟨#[]⟩,.slice none 0 0,.int .i64 0],.bool false]):=hp
 subst hp
 clear c0 c1 c2
 have uJ:=zh (uH.out.below hb uH.out.lt);have uK:=zh (qF.out.below hb qF.out.lt)
 have T22:=zh (T21.out.below hb T21.out.lt);have Q22:=zh (Q21.out.below hb Q21.out.lt);have R22:=zh (own_below R21.out hb);have A22:=zh (A21.out.below hb);have S22:=zh (S21.out.below hb);have K22:=zh (K21.out.below hb);have B22:=zh (B21.out.trans ((hb).mono B21.out.size))
 clear T21 Q21 R21 A21 S21 K21 B21
 clear hb uH qF
 go_upto_region 9 with fail
 have hb:Below w22.heap.size w22 (w22.alloc (.cells #[.string ⟨#[]⟩,.slice none 0 0,.int .i64 0] 39)):=zb
 have uL:=zh (uJ.out.below hb uJ.out.lt);have uM:=zh (uK.out.below hb uK.out.lt)
 have T23:=zh (T22.out.below hb T22.out.lt);have Q23:=zh (Q22.out.below hb Q22.out.lt);have R23:=zh (own_below R22.out hb);have A23:=zh (A22.out.below hb);have S23:=zh (S22.out.below hb);have K23:=zh (K22.out.below hb);have B23:=zh (B22.out.trans ((hb).mono B22.out.size))
 clear T22 Q22 R22 A22 S22 K22 B22
 clear hb uJ uK
 generalize w22.alloc (.cells #[.string ⟨#[]⟩,.slice none 0 0,.int .i64 0] 39)=w23 at*
 have s0:=Q23.out.cell 0;have s1:=Q23.out.cell 1;have s2:=Q23.out.cell 2;have s3:=Q23.out.cell 3;have s4:=Q23.out.cell 4;have s5:=Q23.out.cell 5;have s6:=Q23.out.cell 6
 simp only[zg] at s0 s1 s2 s3 s4 s5 s6
 go_wp2_with fail
 have M23:Own.Af w23 (.slice ma 1 mc) M2:=Own.Af.of (Bc.own R23.out) HML.out.symm
 refine(HEN.out _ _ w23 B23.out M23 A23.out.mG.out).mono ?_
 rintro e w24 ⟨rfl,hb⟩
 have uN:=zh (uL.out.below hb uL.out.lt);have uO:=zh (uM.out.below hb uM.out.lt)
 clear M23 s0 s1 s2 s3 s4 s5 s6
 have T24:=zh (T23.out.below hb T23.out.lt);have Q24:=zh (Q23.out.below hb Q23.out.lt);have R24:=zh (own_below R23.out hb);have A24:=zh (A23.out.below hb);have S24:=zh (S23.out.below hb);have K24:=zh (K23.out.below hb);have B24:=zh (B23.out.trans ((hb).mono B23.out.size))
 clear T23 Q23 R23 A23 S23 K23 B23
 clear hb uL uM
 go_wp2_with fail
 refine(HDE.out w24 B24.out).mono ?_
 rintro e w25 ⟨⟨mv2,av2,rfl,hm2,ha2⟩,hb⟩
 obtain⟨na,nc,hmv⟩:=hm2.len
 have hmv:mv2=.slice na M2.length nc:=hmv
 subst hmv
 obtain⟨da,dc,hav⟩:=ha2.len
 have hav:av2=.slice da aps.length dc:=hav
 subst hav
 have M25:=zh (show Own.Af w25 (.slice na M2.length nc) M2 from hm2.mono (fun _ _ _=>trivial));have D25:=zh (show Own.Hq w25 (.slice da aps.length dc) aps from(Own.eH ha2).out)
 have uP:=zh (uN.out.below hb uN.out.lt);have uQ:=zh (uO.out.below hb uO.out.lt)
 clear hm2 ha2
 have T25:=zh (T24.out.below hb T24.out.lt);have Q25:=zh (Q24.out.below hb Q24.out.lt);have R25:=zh (own_below R24.out hb);have A25:=zh (A24.out.below hb);have S25:=zh (S24.out.below hb);have K25:=zh (K24.out.below hb);have B25:=zh (B24.out.trans ((hb).mono B24.out.size))
 clear T24 Q24 R24 A24 S24 K24 B24
 clear hb uN uO
 unfold Own.opV
 dsimp only
 go_upto_region 11 with fail
 have hb:Below w25.heap.size w25 (w25.alloc (.cells #[.int .i64 2,.string ⟨#[97,47,98]⟩,.slice na M2.length nc,.int .i64 1,.string ⟨#[]⟩,.string ⟨#[]⟩,.slice da aps.length dc] 29)):=zb
 have ZB:=zh (At.new w25 29 #[.int .i64 2,.string ⟨#[97,47,98]⟩,.slice na M2.length nc,.int .i64 1,.string ⟨#[]⟩,.string ⟨#[]⟩,.slice da aps.length dc])
 have XB:=zh (uP.out.below hb uP.out.lt);have YB:=zh (uQ.out.below hb uQ.out.lt)
 have M26:=zh (M25.out.below hb);have D26:=zh (D25.out.below hb)
 have T26:=zh (T25.out.below hb T25.out.lt);have Q26:=zh (Q25.out.below hb Q25.out.lt);have R26:=zh (own_below R25.out hb);have A26:=zh (A25.out.below hb);have S26:=zh (S25.out.below hb);have K26:=zh (K25.out.below hb);have B26:=zh (B25.out.trans ((hb).mono B25.out.size))
 clear T25 Q25 R25 A25 S25 K25 B25
 clear hb uP uQ M25 D25
 generalize w25.alloc (.cells #[.int .i64 2,.string ⟨#[97,47,98]⟩,.slice na M2.length nc,.int .i64 1,.string ⟨#[]⟩,.string ⟨#[]⟩,.slice da aps.length dc] 29)=w26 at*
 obtain⟨bz,hbz⟩:∃ g,g=w25.heap.size:=⟨_,rfl⟩
 rw[<- hbz] at ZB ⊢
 clear hbz
 have s0:=Q26.out.cell 0;have s1:=Q26.out.cell 1;have s2:=Q26.out.cell 2;have s3:=Q26.out.cell 3;have s4:=Q26.out.cell 4;have s5:=Q26.out.cell 5;have s6:=Q26.out.cell 6
 simp only[zg] at s0 s1 s2 s3 s4 s5 s6
 have x0:=XB.out.cell 0;have y0:=YB.out.cell 0
 have z0:=ZB.out.cell 0;have z1:=ZB.out.cell 1;have z2:=ZB.out.cell 2;have z3:=ZB.out.cell 3;have z4:=ZB.out.cell 4;have z5:=ZB.out.cell 5;have z6:=ZB.out.cell 6
 simp only[zg] at x0 y0 z0 z1 z2 z3 z4 z5 z6
 have MQ:Own.Af w26 (.slice ma 1 mc) M2:=Own.Af.of (Bc.own R26.out) HML.out.symm
 have hso:=HSO.out (.slice na M2.length nc) (.slice da aps.length dc) (.slice ma 1 mc) (.slice aa 1 ac) w26 M26.out MQ D26.out A26.out.mG.out
 have HS:=zh hso
 clear hso MQ
 go_wp2_with fail
 refine HS.out.mono ?_
 rintro e w27 ⟨rfl,hb⟩
 have B27:=zh (B26.out.trans (hb.mono B26.out.size))
 clear hb
 go_wp2_with fail
 go_ret
 exact⟨rfl,B27.out⟩
end
end Go.Proofs.YtjlmglgmcekmhaaGreatDoor
