/- The laws' own claims in package 53. -/
import Derived.Test.YtjlmglgmcekmhaaGreatDoorShkB12
set_option linter.unusedVariables false
set_option linter.unusedSimpArgs false
set_option maxRecDepth 100000
set_option maxHeartbeats 4000000
namespace Go.Proofs.YtjlmglgmcekmhaaGreatDoor
section
open Go Go.RowKit Go.Maps
namespace Own
def zdl (w:World)(R:Ar × Int)(e:Ending)(w' : World):Prop:=
 ∃ sv kv,e=.returned (.tuple #[.agg #[.int .i64 R.1.count,sv,kv],.int .i64 R.2])/\Au 3 Fw (fun k=>w.heap.size<=k) w' sv R.1.spaces/\Au 2 gL (fun k=>w.heap.size<=k) w' kv R.1.keys/\Below w.heap.size w w'
theorem RF.val {w:World}{R:Ar × Int}{e:Ending}{w' : World}(h:RF w R e w'):zdl w R e w':=by
 obtain⟨R1,R2⟩:=R
 obtain⟨⟨_,h2,rfl⟩|⟨h1,sv,kv,rfl,h3,h4⟩,hb⟩:=h
 ·have h2:R1=.none:=h2
  subst h2
  exact⟨_,_,rfl,Au.nil _ _,Au.nil _ _,hb⟩
 ·have h1:R2=0:=h1
  subst h1
  exact⟨sv,kv,rfl,h3,h4,hb⟩
theorem je (o:Ar)(op:Op)(i:Nat)(hi:i<2)(ks:List Nat):∀ a∈(Bl o op i ks).Aa,a.name.size<=140737488355328/\a.sig.chains.length<=140737488355328/\a.sig.path.length<=140737488355328:=fun a ha=>by
 rw[Ik] at ha
 obtain⟨b,_,rfl⟩:=List.mem_map.1 ha
 obtain⟨_,h2,_,h4,_⟩:=PW (RG b i hi (Bc o (opW op [])).1)
 refine⟨?_,by omega,by omega⟩
 rw[show(Dy i (Bc o (opW op [])).1 b).name=CZ b from rfl,LH]
 decide
theorem jf (l:List Nat):(keysOf l).length<=256:=by
 unfold keysOf
 have:=List.length_filter_le (fun b=>decide (b∈l)) (List.range 256)
 simpa using this
end Own
theorem UF (p:ByteArray)(th:Int)(l:List Nat)(a:Option Addr)(c:Nat)(w:World)(hM:IY w)(h:DI w (.slice a l.length c) l)(hl:∀ b∈l,b<256)(h1:1<=l.length)(h12:l.length<=12):
 Calls Tryz.prog 29 #[.string p,.int .i64 th,.slice a l.length c] w (Own.zdl w (Own.Cq .none (Own.Bl .none (Own.FL p th (Own.keysOf l)) 0 (Own.keysOf l)))):=by
 have hkl:=Own.KI l
 have hkn:=Own.jf l
 have hmb:=fun W (hW:Below w.heap.size w W)=>Jd l a c W (h.below hW) hl h1 h12
 have hcp:=fun base g n cap L W (h:Gl base W (.slice (some ⟨g,0,none⟩) n cap) n L) hn hn2 hcap ho hm=>Ov base g n cap L l W h hn hn2 hcap ho hl hm
 obtain⟨K,hK⟩:∃ K,K=Own.keysOf l:=⟨_,rfl⟩
 rw[<- hK] at hkl hkn ⊢
 simp only[<- hK] at hcp hmb
 have hsg:=fun(mv av:Value) (ka:Option Addr) (kc:Nat) W (hM:IY W) (hm:Own.Ag W mv (Own.FL p th K).members) ha hk=>JM .none (Own.FL p th K) 0 K (.slice none 0 0) (.slice none 0 0) mv av ka kc W hM (by omega) ⟨_,_,_,rfl⟩ ⟨_,_,_,rfl⟩ hm ha (by show(Own.Bo K).length<=_;rw[show(Own.Bo K).length=K.length from List.length_map _];omega) hk hkl.lt (by omega)
 have hap:=fun(mv av:Value) W (hM:IY W) (hm:Own.Ag W mv (Own.Bo K)) hA=>Ra .none (Own.Bl .none (Own.FL p th K) 0 K) (.slice none 0 0) (.slice none 0 0) mv av W hM (Au.nil _ _) (Au.nil _ _) hm hA (by decide) (by decide) (fun s hs=>by cases hs) (by show(Own.Bo K).length<=_;rw[show(Own.Bo K).length=K.length from List.length_map _];omega) (Own.je _ _ _ (by omega) _)
 have hov:∀ mv av,Own.opV (Own.FL p th K) mv av=.agg #[.int .i64 0,.string p,mv,.int .i64 th,.string ⟨#[]⟩,.string ⟨#[]⟩,av]:=fun _ _=>rfl
 simp only[hov] at hsg
 clear hov
 obtain⟨OPS,xP⟩:∃ x,x=Own.Bl .none (Own.FL p th K) 0 K:=⟨_,rfl⟩
 have og:∀ (mv av:Value) (ka:Option Addr) (kc:Nat) (W:World),IY W->Own.Ag W mv (Own.Bo K)->(∃ a c,av=.slice a 0 c)->DI W (.slice ka K.length kc) K->
  Calls Tryz.prog 30 #[.agg #[.int .i64 0,.slice none 0 0,.slice none 0 0],.agg #[.int .i64 0,.string p,mv,.int .i64 th,.string ⟨#[]⟩,.string ⟨#[]⟩,av],.int .i64 0,.slice ka K.length kc] W fun e w' => ∃ av',e=.returned (Own.opV OPS mv av')/\Own.Dc W.heap.size w' av' OPS.Aa/\Below W.heap.size W w':=fun mv av ka kc W hM hm ha hk=>by
  refine(hsg mv av ka kc W hM hm ha hk).mono ?_
  rintro e w' ⟨av',e1,e2,e3⟩
  rw[xP]
  exact⟨av',e1,e2,e3⟩
 rw[<- xP]
 simp only[<- xP] at hap
 obtain⟨R,hR⟩:∃ R,R=Own.Cq .none OPS:=⟨_,rfl⟩
 simp only[<- hR] at hap ⊢
 have HMB:=zh hmb;have HCP:=zh hcp;have HSG:=zh og;have HAP:=zh hap;have HM:=zh hM;have HH:=zh h
 clear hmb hcp hsg og hap hM h hl hK xP hR hkl
 have F1:=zh (show Aw w _ [(25,#[.int .i64 0,.slice none 0 0,.slice none 0 0]),(25,#[.int .i64 0,.slice none 0 0,.slice none 0 0])] from(((Dm.nil w).push 25 #[.int .i64 0,.slice none 0 0,.slice none 0 0]).push 25 #[.int .i64 0,.slice none 0 0,.slice none 0 0]).boxes)
 go_enter Tryz.func29,Tryz.ntmps29
 go_upto_region 2 with fail
 generalize ((w.alloc (.cells #[.int .i64 0,.slice none 0 0,.slice none 0 0] 25)).alloc (.cells #[.int .i64 0,.slice none 0 0,.slice none 0 0] 25))=w1 at*
 go_wp2_with fail
 refine(HMB.out w1 F1.out.under).mono ?_
 rintro e w2 ⟨mv,rfl,hm2,hb2⟩
 have F2:=zh (F1.out.step hb2)
 obtain⟨ma,mn,mc,rfl⟩:=Ad hm2
 have hmc:Own.Ag w2 (.slice ma mn mc) (Own.Bo K):=Own.Ag.of (Bh.own hm2) rfl
 have hm3:=HM.out.below F2.out.under
 have HMM:=zh hmc;have HM2:=zh hm3
 clear hmc hm2 hb2 hm3 F1
 go_upto_region 4 with fail
 have hb3:Below w2.heap.size w2 (w2.alloc (.cells #[.int .i64 0,.string p,.slice ma mn mc,.int .i64 th,.string ⟨#[]⟩,.string ⟨#[]⟩,.slice none 0 0] 29)):=zb
 have hat:=At.new w2 29 #[.int .i64 0,.string p,.slice ma mn mc,.int .i64 th,.string ⟨#[]⟩,.string ⟨#[]⟩,.slice none 0 0]
 have F3:=zh (F2.out.step hb3);have HAT:=zh hat;have zdm:=zh (HMM.out.below hb3)
 clear hb3 hat F2 HMM HM2
 generalize w2.alloc (.cells #[.int .i64 0,.string p,.slice ma mn mc,.int .i64 th,.string ⟨#[]⟩,.string ⟨#[]⟩,.slice none 0 0] 29)=w3 at*
 obtain⟨g,hg⟩:∃ g,g=w2.heap.size:=⟨_,rfl⟩
 rw[<- hg] at HAT ⊢
 clear hg
 have c0:=HAT.out.cell 0;have c1:=HAT.out.cell 1;have c2:=HAT.out.cell 2;have c3:=HAT.out.cell 3;have c4:=HAT.out.cell 4;have c5:=HAT.out.cell 5;have c6:=HAT.out.cell 6
 simp only[zg] at c0 c1 c2 c3 c4 c5 c6
 obtain⟨x10,x11,x12⟩:=F3.out.zak rfl
 have Y1:=zh (zi x10)
 have Y2:=zh (zi c0)
 have hlt1:w.heap.size+1<w3.heap.size:=F3.out.lt (i:=1) (by show 1<2;omega)
 have hlt2:g<w3.heap.size:=HAT.out.lt
 refine Lex.zn (fun k=>k=w.heap.size+1\/k=g) [0,1,2] 11 [5,1,1,1,1] ?_
 simp only[Lex.Br,zd]
 go_wp2_with fail
 refine(QM a l.length c _).mono ?_
 rintro e _ ⟨rfl,rfl⟩
 have hb4:Below w3.heap.size w3 (w3.alloc (.cells #[.slice a l.length c] 66)).drew:=((Below.refl w3.heap.size w3).alloc (Nat.le_refl _) _).drew
 have B4:=zh hb4;have C4:=zh (show(w3.alloc (.cells #[.slice a l.length c] 66)).drew.cell? ⟨w3.heap.size,0,none⟩=some (.slice a l.length c) from Ze w3 (.slice a l.length c) 66);have H4:=zh (HH.out.below (F3.out.under.trans (hb4.mono F3.out.under.size)))
 clear hb4 c0 c1 c2 c3 c4 c5 c6
 (try clear x10 x11 x12)
 go_wp2_with fail
 generalize (w3.alloc (.cells #[.slice a l.length c] 66)).drew=w4 at*
 refine Lex.Mid.intro (fun k hk _=>by rcases hk with hk|hk<;>(rw[hk];exact B4.out.block _ (by omega))) ?_
 go_wp2_with fail
 refine(QL w3.heap.size _ l _ C4.out H4.out h1 h12).mono ?_
 rintro e w5 ⟨v',L',rfl,hl',hr',ho',hm',hb5⟩
 obtain⟨gk,cap,rfl,_⟩:=CB hr' (by omega)
 have hgc:=(jL hr').1
 have hgu:=Al hr' gk rfl
 have B5:=zh (B4.out.trans (hb5.mono B4.out.size))
 have HR:=zh hr';have HO:=zh ho';have HMm:=zh hm'
 have hg0:w3.heap.size<=gk:=Nat.le_trans B4.out.size hgu
 clear hr' ho' hm' hb5 hgu H4 C4 B4
 go_wp2_with fail
 refine Lex.Mid.intro (fun k hk _=>by rcases hk with hk|hk<;>(rw[hk];exact B5.out.block _ (by omega))) ?_
 go_wp2_with fail
 refine(HCP.out _ gk l.length cap L' _ HR.out h1 (by omega) hgc HO.out HMm.out).mono ?_
 rintro e w6 ⟨rfl,hk,hf⟩
 have B6:=zh (B5.out.trans (hf.below B5.out.size (fun k hk=>by rw[hk];exact hg0)))
 have HK:=zh hk
 clear hk hf B5 HR HO HMm HCP hg0
 go_wp2_with fail
 refine Lex.Mid.intro (fun k hk _=>by rcases hk with hk|hk<;>(rw[hk];exact B6.out.block _ (by omega))) ?_
 go_wp2_with fail
 have F6:=zh (F3.out.step B6.out)
 refine(HSG.out (.slice ma mn mc) (.slice none 0 0) _ _ w6 (HM.out.below F6.out.under) (zdm.out.below B6.out) ⟨_,_,rfl⟩ HK.out).mono ?_
 rintro e w7 ⟨av,rfl,hav,hb7⟩
 have B7:=zh (B6.out.trans (hb7.mono B6.out.size))
 have F7:=zh (F3.out.step B7.out)
 have HAV:=zh hav
 clear hav hb7 HK F6 B6
 obtain⟨V,hV⟩:∃ V,V=Own.opV OPS (.slice ma mn mc) av:=⟨_,rfl⟩
 rw[<- hV]
 have HV:=zh hV;clear hV
 go_wp2_with fail
 refine Lex.Mid.intro (fun k hk _=>by rcases hk with hk|hk<;>(rw[hk];exact B7.out.block _ (by omega))) ?_
 go_wp2_with fail
 have happ:=HAP.out (.slice ma mn mc) av w7 (HM.out.below F7.out.under) (zdm.out.below B7.out) HAV.out.tu.out
 rw[<- HV.out] at happ
 refine happ.mono ?_
 intro e w8 hp
 obtain⟨sv,kv,rfl,hs8,hk8,hb8⟩:=hp.val
 have B8:=zh (B7.out.trans (hb8.mono B7.out.size))
 have F8:=zh (F7.out.step hb8)
 have hz7:w.heap.size+2<=w7.heap.size:=F7.out.size
 obtain⟨sa,sc,rfl⟩:=hs8.len
 obtain⟨ya,yc,rfl⟩:=hk8.len
 have HS8:=zh hs8;have HK8:=zh hk8
 clear hp hs8 hk8 hb8 happ B7 F7
 obtain⟨x00,x01,x02,zcf,zcg,zch⟩:=F8.out.zbZ rfl
 obtain⟨R1,R2⟩:=R
 dsimp only at*
 go_wp2_with fail
 refine Lex.Mid.intro (fun k hk _=>by rcases hk with hk|hk<;>(rw[hk];exact B8.out.block _ (by omega))) ?_
 go_wp2_with fail
 refine Lex.zk ⟨⟨.inl rfl,Y1.out⟩,⟨.inl rfl,Y1.out⟩,⟨.inr rfl,Y2.out⟩,trivial⟩ ?_
 go_wp2_with fail
 have G2:=((F8.out.put 0 0 (.int .i64 R1.count) rfl).put 0 1 (.slice sa R1.spaces.length sc) rfl).put 0 2 (.slice ya R1.keys.length yc) rfl
 refine BM rfl rfl rfl (AQ (G2.at1 0 rfl) Tryz.underlying25 rfl Bv) ⟨_,_,rfl,?_,?_,G2.under⟩
 ·exact (HS8.out.keep (by simp [World.setCell]) (fun k hk _ => by
   have hne:k≠w.heap.size:=by omega
   rw[zo hne,zo hne,zo hne])).mono (fun k hk _=>by omega)
 ·exact (HK8.out.keep (by simp [World.setCell]) (fun k hk _ => by
   have hne:k≠w.heap.size:=by omega
   rw[zo hne,zo hne,zo hne])).mono (fun k hk _=>by omega)
theorem dA (s t:Sig.T)(cv pv cv2 pv2:Value)(w:World)(hc:Am w cv s.chains)(hp:Am w pv s.path)(hc2:Am w cv2 t.chains)(hp2:Am w pv2 t.path)(hl:s.chains.length<=140737488355328)(hlp:s.path.length<=140737488355328)(hl2:t.chains.length<=140737488355328)(zew:t.path.length<=140737488355328):
 Calls Tryz.prog 143 #[.agg #[.int .i64 s.index,cv,pv],.agg #[.int .i64 t.index,cv2,pv2]] w fun e w' => e=.returned (.bool (decide (s.index=t.index)&&decide (s.chains=t.chains)&&decide (s.path=t.path)))/\Below w.heap.size w w':=by
 obtain⟨R,hR⟩:∃ R,R=(decide (s.index=t.index)&&decide (s.chains=t.chains)&&decide (s.path=t.path)):=⟨_,rfl⟩
 rw[<- hR]
 obtain⟨ca,cc,rfl⟩:=hc.len
 obtain⟨pa,pc,rfl⟩:=hp.len
 obtain⟨da,dc,rfl⟩:=hc2.len
 obtain⟨qa,qc,rfl⟩:=hp2.len
 have HR:=zh hR;clear hR
 have F1:=zh (show Aw w _ [(70,#[.int .i64 s.index,.slice ca s.chains.length cc,.slice pa s.path.length pc]),(70,#[.int .i64 t.index,.slice da t.chains.length dc,.slice qa t.path.length qc])] from(((Dm.nil w).push 70 #[.int .i64 s.index,.slice ca s.chains.length cc,.slice pa s.path.length pc]).push 70 #[.int .i64 t.index,.slice da t.chains.length dc,.slice qa t.path.length qc]).boxes)
 have hsc:=fun W (hW:Below w.heap.size w W)=>QA _ _ s.chains t.chains W (hc.below hW) (hc2.below hW) hl hl2
 have hsp:=fun W (hW:Below w.heap.size w W)=>QA _ _ s.path t.path W (hp.below hW) (hp2.below hW) hlp zew
 have HSC:=zh hsc;have HSP:=zh hsp
 clear hc hp hc2 hp2 hsc hsp
 go_enter Tryz.func143,Tryz.ntmps143
 go_upto_region 1 with fail
 generalize ((w.alloc (.cells #[.int .i64 s.index,.slice ca s.chains.length cc,.slice pa s.path.length pc] 70)).alloc (.cells #[.int .i64 t.index,.slice da t.chains.length dc,.slice qa t.path.length qc] 70))=w1 at*
 obtain⟨x00,x01,x02⟩:=F1.out.Gj rfl
 obtain⟨x10,x11,x12⟩:=F1.out.zak rfl
 by_cases i1:s.index=t.index
 case neg=>
  have e1:(s.index==t.index)=false:=by rw[beq_eq_false_iff_ne];exact i1
  have HE:=zh (show R=false by rw[HR.out,decide_eq_false i1];rfl)
  go_wp2_with fail
  go_ret
  exact⟨by rw[HE.out];rfl,F1.out.under⟩
 have e1:(s.index==t.index)=true:=by rw[beq_iff_eq];exact i1
 have I1:=zh i1;clear i1
 go_wp2_with fail
 refine(HSC.out w1 F1.out.under).mono ?_
 rintro e _ ⟨rfl,q,rfl⟩
 have hbq:Below w1.heap.size w1 (w1.drewN q):=below_drewN (Below.refl _ _) q
 have F2:=zh (F1.out.step hbq)
 clear hbq
 generalize w1.drewN q=w2 at*
 (try clear x00 x01 x02);(try clear x10 x11 x12)
 obtain⟨x00,x01,x02⟩:=F2.out.Gj rfl
 obtain⟨x10,x11,x12⟩:=F2.out.zak rfl
 by_cases i2:s.chains=t.chains
 case neg=>
  rw[decide_eq_false i2]
  have HE:=zh (show R=false by rw[HR.out,decide_eq_false i2];simp)
  clear i2
  go_wp2_with fail
  go_ret
  exact⟨by rw[HE.out];rfl,F2.out.under⟩
 rw[decide_eq_true i2]
 have HE:=zh (show R=decide (s.path=t.path) by rw[HR.out,decide_eq_true I1.out,decide_eq_true i2];rfl)
 clear i2
 go_wp2_with fail
 refine(HSP.out w2 F2.out.under).mono ?_
 rintro e _ ⟨rfl,q,rfl⟩
 have hbq:Below w2.heap.size w2 (w2.drewN q):=below_drewN (Below.refl _ _) q
 have F3:=zh (F2.out.step hbq)
 clear hbq
 generalize w2.drewN q=w3 at*
 go_wp2_with fail
 go_ret
 exact⟨by rw[HE.out];rfl,F3.out.under⟩
theorem UG (l:List Own.Aj)(v1 v2:Value)(w:World)(h1:Own.I4 w v1 l)(h2:Own.I4 w v2 l)(hl:l.length<=140737488355328)(hal:∀ a∈l,a.sig.chains.length<=140737488355328/\a.sig.path.length<=140737488355328):
 Calls Tryz.prog 89 #[v1,v2] w fun e w' => e=.returned (.bool true)/\Below w.heap.size w w':=by
 obtain⟨a1,c1,rfl,hp1⟩:=id h1
 obtain⟨a2,c2,rfl,hp2⟩:=id h2
 clear hp1 hp2
 have H1:=zh h1;have H2:=zh h2;have HAL:=zh hal
 clear h1 h2 hal
 go_enter Tryz.func89,Tryz.ntmps89
 go_wp2_with fail
 go_loopw [5] (fun i wr=>∃ k:Nat,k<=l.length/\i=.int .i64 k/\Below w.heap.size w wr) (fun i _=>l.length-(intOf i).toNat)
 case atStart=>exact⟨0,by omega,rfl,Below.refl _ _⟩
 case round=>
  obtain⟨k,hk,rfl,hb⟩:=hrel
  have HB:=zh hb
  by_cases hlt:k<l.length
  case neg=>
   have dk:decide ((k:Int)<(l.length:Int))=false:=zf
   clear hb
   go_wp2_with fail
   go_ret
   exact⟨rfl,HB.out⟩
  have dk:decide ((k:Int)<(l.length:Int))=true:=zt
  obtain⟨a',c',hv,hcs⟩:=H1.out.below hb
  cases hv
  obtain⟨b,o,cv,pv,ha,hbl,e0,e1,e2,e3,hcv,hpv,_⟩:=hcs k hlt
  clear hcs
  obtain⟨a',c',hv,hcs⟩:=H2.out.below hb
  cases hv
  obtain⟨b2,o2,cv2,pv2,ha2,zeR,g0,g1,g2,g3,xQ,hpv2,_⟩:=hcs k hlt
  clear hcs
  subst ha
  subst ha2
  obtain⟨z2,z3⟩:=HAL.out l[k] (List.getElem_mem hlt)
  obtain⟨x,hx⟩:∃ x,x=l[k]:=⟨_,rfl⟩
  rw[<- hx] at e0 e1 g0 g1 hcv hpv xQ hpv2 z2 z3
  have hsm:=dA x.sig x.sig cv pv cv2 pv2 wr.drew hcv hpv xQ hpv2 z2 z3 z2 z3
  rw[decide_eq_true (rfl:x.sig.index=x.sig.index),decide_eq_true (rfl:x.sig.chains=x.sig.chains),decide_eq_true (rfl:x.sig.path=x.sig.path)] at hsm
  obtain⟨ca,cc,rfl⟩:=hcv.len
  obtain⟨pa,pc,rfl⟩:=hpv.len
  obtain⟨ca2,cc2,rfl⟩:=xQ.len
  obtain⟨pa2,pc2,rfl⟩:=hpv2.len
  have HSM:=zh hsm
  clear hx hsm hb hcv hpv xQ hpv2
  obtain⟨xn,⟨xi,xc,xp⟩⟩:=x
  dsimp only at*
  go_wp2_with fail
  refine Lex.zl ?_
  go_wp2_with fail
  refine HSM.out.mono ?_
  rintro e w7 ⟨rfl,hb7⟩
  have B7:=zh (HB.out.trans ((show Below wr.heap.size wr w7 from(Below.refl wr.heap.size wr).drew.trans hb7).mono HB.out.size))
  clear hb7 e0 e1 e2 e3 g0 g1 g2 g3
  go_wp2_with fail
  refine Lex.ze ?_
  go_wp2_with fail
  (try go_round)
  case measure=>simp[intOf];omega
  case rel=>exact⟨k+1,by omega,by go_num,B7.out⟩
theorem zaI (x y:ByteArray):(x==y)=decide (x=y):=by
 rw[Bool.eq_iff_iff,decide_eq_true_iff]
 constructor
 ·intro h
  cases x;cases y
  have h' : (_:Array UInt8)==_:=h
  exact congrArg ByteArray.mk (eq_of_beq h')
 ·rintro rfl
  cases x
  show(_:Array UInt8)==_
  exact BEq.rfl
theorem Lf (D:Nat)(a c:ByteArray)(w:World):(Op.equalIn (D+1) 9 (.string a) (.string c)).run Tryz.prog w=.ok (a==c) w:=by
 rw[Op.equalIn]
 simp[Tryz.underlying9]
theorem UH (D:Nat)(a b c d:ByteArray)(w:World):(Op.equalIn (D+2) 76 (.agg #[.string a,.string b]) (.agg #[.string c,.string d])).run Tryz.prog w=.ok ((a==c)&&(b==d)) w:=by
 have hs:Tryz.prog.stoodInHeld 76=false:=by kernel_rfl
 have e1:=Lf D a c w
 have e2:=Lf D b d w
 have s1:∀ w,(sizeOf 9).run Tryz.prog w=.ok 1 w:=fun w=>by kernel_rfl
 have s2:∀ w,(isAgg 9).run Tryz.prog w=.ok false w:=fun w=>by kernel_rfl
 rw[Op.equalIn]
 cases h1:a==c<;>cases h2:b==d<;>rw[h1] at e1<;>rw[h2] at e2<;>simp[Tryz.underlying76,hs,part,e1,e2,s1,s2,Result.andThen]
theorem dB (a:ByteArray):(a==a)=true:=by rw[zaI];simp
theorem Ro (a b:ByteArray)(w:World):(binOp .neq 76 (.agg #[.string a,.string b]) (.agg #[.string a,.string b])).run Tryz.prog w=.ok (.bool false) w:=by
 have h2:(Op.equal 76 (.agg #[.string a,.string b]) (.agg #[.string a,.string b])).run Tryz.prog w=.ok ((a==a)&&(b==b)) w:=UH 9998 a b a b w
 rw[dB,dB] at h2
 simp[binOp,h2,Result.andThen]
theorem YQ (s:Own.Space)(v1 v2:Value)(w:World)(h1:Own.Ag w v1 s.members)(h2:Own.Ag w v2 s.members)(hl:s.members.length<=140737488355328):
 Calls Tryz.prog 23 #[.agg #[.string s.pre,v1,.int .i64 s.threshold],.agg #[.string s.pre,v2,.int .i64 s.threshold]] w fun e w' => e=.returned (.bool true)/\Below w.heap.size w w':=by
 obtain⟨pre,l,th⟩:=s
 dsimp only at*
 obtain⟨a1,c1,rfl⟩:=h1.len
 obtain⟨a2,c2,rfl⟩:=h2.len
 have F1:=zh (show Aw w _ [(39,#[.string pre,.slice a1 l.length c1,.int .i64 th]),(39,#[.string pre,.slice a2 l.length c2,.int .i64 th])] from(((Dm.nil w).push 39 #[.string pre,.slice a1 l.length c1,.int .i64 th]).push 39 #[.string pre,.slice a2 l.length c2,.int .i64 th]).boxes)
 have x00:((w.alloc (.cells #[.string pre,.slice a1 l.length c1,.int .i64 th] 39)).alloc (.cells #[.string pre,.slice a2 l.length c2,.int .i64 th] 39)).cell? ⟨w.heap.size,0,none⟩=some (.string pre):=F1.out.cell 0 0 rfl rfl
 have x01:((w.alloc (.cells #[.string pre,.slice a1 l.length c1,.int .i64 th] 39)).alloc (.cells #[.string pre,.slice a2 l.length c2,.int .i64 th] 39)).cell? ⟨w.heap.size,1,none⟩=some (.slice a1 l.length c1):=F1.out.cell 0 1 rfl rfl
 have x02:((w.alloc (.cells #[.string pre,.slice a1 l.length c1,.int .i64 th] 39)).alloc (.cells #[.string pre,.slice a2 l.length c2,.int .i64 th] 39)).cell? ⟨w.heap.size,2,none⟩=some (.int .i64 th):=F1.out.cell 0 2 rfl rfl
 have x10:((w.alloc (.cells #[.string pre,.slice a1 l.length c1,.int .i64 th] 39)).alloc (.cells #[.string pre,.slice a2 l.length c2,.int .i64 th] 39)).cell? ⟨w.heap.size+1,0,none⟩=some (.string pre):=F1.out.cell 1 0 rfl rfl
 have x11:((w.alloc (.cells #[.string pre,.slice a1 l.length c1,.int .i64 th] 39)).alloc (.cells #[.string pre,.slice a2 l.length c2,.int .i64 th] 39)).cell? ⟨w.heap.size+1,1,none⟩=some (.slice a2 l.length c2):=F1.out.cell 1 1 rfl rfl
 have x12:((w.alloc (.cells #[.string pre,.slice a1 l.length c1,.int .i64 th] 39)).alloc (.cells #[.string pre,.slice a2 l.length c2,.int .i64 th] 39)).cell? ⟨w.heap.size+1,2,none⟩=some (.int .i64 th):=F1.out.cell 1 2 rfl rfl
 have H1:=zh h1;have H2:=zh h2
 clear h1 h2
 go_enter Tryz.func23,Tryz.ntmps23
 go_wp2_with fail
 generalize ((w.alloc (.cells #[.string pre,.slice a1 l.length c1,.int .i64 th] 39)).alloc (.cells #[.string pre,.slice a2 l.length c2,.int .i64 th] 39))=w1 at*
 go_loopw [5] (fun i wr=>∃ k:Nat,k<=l.length/\i=.int .i64 k/\Below w1.heap.size w1 wr) (fun i _=>l.length-(intOf i).toNat)
 case atStart=>exact⟨0,by omega,rfl,Below.refl _ _⟩
 case round=>
  obtain⟨k,hk,rfl,hb⟩:=hrel
  have HBW:=zh hb;have FR:=zh (F1.out.step hb)
  clear hb
  (try clear x00);(try clear x01);(try clear x02);(try clear x10);(try clear x11);(try clear x12)
  have x01:wr.cell? ⟨w.heap.size,1,none⟩=some (.slice a1 l.length c1):=FR.out.cell 0 1 rfl rfl
  have x11:wr.cell? ⟨w.heap.size+1,1,none⟩=some (.slice a2 l.length c2):=FR.out.cell 1 1 rfl rfl
  by_cases hlt:k<l.length
  case neg=>
   have dk:decide ((k:Int)<l.length)=false:=zf
   go_wp2_with fail
   go_ret
   exact⟨rfl,FR.out.under⟩
  have dk:decide ((k:Int)<l.length)=true:=zt
  obtain⟨b,o,ha,hbl,e0,e1⟩:=Own.Ag.cells (H1.out.below FR.out.under) hlt
  obtain⟨b',o',ha',zeS,e0',e1'⟩:=Own.Ag.cells (H2.out.below FR.out.under) hlt
  subst ha
  subst ha'
  obtain⟨x,hx⟩:∃ x,x=l[k]:=⟨_,rfl⟩
  rw[<- hx] at e0 e1 e0' e1'
  obtain⟨n,pu⟩:=x
  dsimp only at e0 e1 e0' e1'
  have hne:=Ro n pu
  clear hx
  go_wp2_with fail
  go_quiet (fail)
  go_wp2_with fail
  go_round
  case measure=>simp[intOf];omega
  case rel=>exact⟨k+1,by omega,by go_num,below_drewN HBW.out nq⟩
theorem VD (op:Own.Op)(mv av mv2 av2:Value)(w:World)(hm:Own.Ag w mv op.members)(hm2:Own.Ag w mv2 op.members)(hA:Own.I4 w av op.Aa)(hA2:Own.I4 w av2 op.Aa)
 (hl:op.members.length<=140737488355328) (hal:op.Aa.length<=140737488355328) (hall:∀ a∈op.Aa,a.sig.chains.length<=140737488355328/\a.sig.path.length<=140737488355328):
 Calls Tryz.prog 28 #[Own.opV op mv av,Own.opV op mv2 av2] w fun e w' => e=.returned (.bool true)/\Below w.heap.size w w':=by
 obtain⟨kd,pre,ms,th,nm,pb,aps⟩:=op
 unfold Own.opV
 dsimp only at*
 obtain⟨ma,mc,rfl⟩:=hm.len
 obtain⟨na,nc,rfl⟩:=hm2.len
 obtain⟨aa,ac,rfl,hap⟩:=id hA
 obtain⟨ba,bc,rfl,hbp⟩:=id hA2
 clear hap hbp
 have F1:=zh (show Aw w _ [(29,#[.int .i64 kd,.string pre,.slice ma ms.length mc,.int .i64 th,.string nm,.string pb,.slice aa aps.length ac]),(29,#[.int .i64 kd,.string pre,.slice na ms.length nc,.int .i64 th,.string nm,.string pb,.slice ba aps.length bc])] from(((Dm.nil w).push 29 #[.int .i64 kd,.string pre,.slice ma ms.length mc,.int .i64 th,.string nm,.string pb,.slice aa aps.length ac]).push 29 #[.int .i64 kd,.string pre,.slice na ms.length nc,.int .i64 th,.string nm,.string pb,.slice ba aps.length bc]).boxes)
 have hss:=fun W (hW:Below w.heap.size w W)=>YQ ⟨pre,ms,th⟩ (.slice ma ms.length mc) (.slice na ms.length nc) W (hm.below hW) (hm2.below hW) hl
 have hsa:=fun W (hW:Below w.heap.size w W)=>UG aps (.slice aa aps.length ac) (.slice ba aps.length bc) W (hA.below hW) (hA2.below hW) hal hall
 have HSS:=zh hss;have HSA:=zh hsa
 clear hss hsa hm hm2 hA hA2 hall
 go_enter Tryz.func28,Tryz.ntmps28
 go_upto_region 1 with fail
 generalize ((w.alloc (.cells #[.int .i64 kd,.string pre,.slice ma ms.length mc,.int .i64 th,.string nm,.string pb,.slice aa aps.length ac] 29)).alloc (.cells #[.int .i64 kd,.string pre,.slice na ms.length nc,.int .i64 th,.string nm,.string pb,.slice ba aps.length bc] 29))=w1 at*
 obtain⟨x00,x01,x02,x03,x04,x05,x06⟩:=F1.out.KH rfl
 obtain⟨x10,x11,x12,x13,x14,x15,x16⟩:=F1.out.LW rfl
 have Y0:=zh (zi x01)
 have Y1:=zh (zi x02)
 have Y2:=zh (zi x03)
 have Z0:=zh (zi x11)
 have Z1:=zh (zi x12)
 have Z2:=zh (zi x13)
 have hz:w.heap.size+2<=w1.heap.size:=F1.out.size
 refine Lex.FJ (fun k=>k=w.heap.size\/k=w.heap.size+1) [1,3,5,8,10,12] [14,15] 18 [.pure 14,.new,.new] [1,1] (by kernel_rfl) (by kernel_rfl) (by kernel_rfl) ?_
 simp only[Lex.Jf,Lex.Br,zd]
 have zd:w1.drew.heap.size=w1.heap.size:=by rw[Fb]
 have ZD:=zh zd
 clear zd
 go_wp2_with fail
 refine Lex.Qk.intro ?_
 intro w2 hw2
 have hl2:w1.heap.size<=w2.heap.size:=by rw[<- ZD.out];exact hw2
 go_wp2_with fail
 refine Lex.Ql.intro (fun w3 hg3 hk3 ho3=>?_)
 have hs3:=hk3.at_
 have G3:=zh ((Below.refl w1.heap.size w1).drew.trans hg3)
 obtain⟨g,hg⟩:∃ g,g=w2.heap.size:=⟨_,rfl⟩
 rw[World.size_alloc]
 rw[<- hg] at hs3 hl2 ⊢
 have S3:=zh hs3
 clear hg3 hk3 ho3 hs3 hg hw2
 intro w4 hw4
 have hl4:w1.heap.size<=w4.heap.size:=by rw[<- ZD.out];exact hw4
 go_wp2_with fail
 refine Lex.Ql.intro (fun w5 hg5 hk5 ho5=>?_)
 have hs5:=hk5.at_
 have hoff:=ho5 (g,g+1) List.mem_cons_self
 rw[World.size_alloc] at hoff
 have G5:=zh (G3.out.trans (hg5.mono G3.out.size))
 have S4:=zh (S3.out.below hg5 S3.out.lt)
 obtain⟨q,hq⟩:∃ q,q=w4.heap.size:=⟨_,rfl⟩
 rw[<- hq] at hs5 hl4 hoff ⊢
 have S5:=zh hs5
 have hne:g≠q:=by simp only at hoff;omega
 clear hg5 hk5 ho5 hs5 hq hw4 hoff G3 S3
 have s0:=S4.out.cell 0;have s1:=S4.out.cell 1;have s2:=S4.out.cell 2;have s3:=S4.out.free 0;have s4:=S4.out.free 1;have s5:=S4.out.free 2
 have k0:=S5.out.cell 0;have k1:=S5.out.cell 1;have k2:=S5.out.cell 2;have k3:=S5.out.free 0;have k4:=S5.out.free 1;have k5:=S5.out.free 2
 simp only[zg] at s0 s1 s2 k0 k1 k2
 go_wp2_with fail
 refine Lex.Mid.intro (fun j hj hjl=>by
  have h3:j≠g:=by omega
  rw[zo h3,zo h3,zo h3]
  exact G5.out.block _ (by omega)) ?_
 go_wp2_with fail
 refine Lex.Mid.intro (fun j hj hjl=>by
  have h3:j≠g:=by omega
  have h4:j≠q:=by omega
  rw[zo h4,zo h4,zo h4,zo h3,zo h3,zo h3]
  exact G5.out.block _ (by omega)) ?_
 go_wp2_with fail
 refine Lex.zk ⟨⟨.inl rfl,Y0.out⟩,⟨.inl rfl,Y1.out⟩,⟨.inl rfl,Y2.out⟩,⟨.inr rfl,Z0.out⟩,⟨.inr rfl,Z1.out⟩,⟨.inr rfl,Z2.out⟩,trivial⟩ ?_
 have T4:=zh ((((((S4.out.set 0 (.string pre)).set 1 (.slice ma ms.length mc)).set 2 (.int .i64 th)).far (p:=⟨q,0,none⟩) hne (.string pre)).far (p:=⟨q,1,none⟩) hne (.slice na ms.length nc)).far (p:=⟨q,2,none⟩) hne (.int .i64 th))
 have T5:=zh ((((((S5.out.far (p:=⟨g,0,none⟩) hne.symm (.string pre)).far (p:=⟨g,1,none⟩) hne.symm (.slice ma ms.length mc)).far (p:=⟨g,2,none⟩) hne.symm (.int .i64 th)).set 0 (.string pre)).set 1 (.slice na ms.length nc)).set 2 (.int .i64 th))
 have B6:=zh ((((((G5.out.setCell (p:=⟨g,0,none⟩) hl2 (.string pre)).setCell (p:=⟨g,1,none⟩) hl2 (.slice ma ms.length mc)).setCell (p:=⟨g,2,none⟩) hl2 (.int .i64 th)).setCell (p:=⟨q,0,none⟩) hl4 (.string pre)).setCell (p:=⟨q,1,none⟩) hl4 (.slice na ms.length nc)).setCell (p:=⟨q,2,none⟩) hl4 (.int .i64 th))
 have F6:=zh (F1.out.step B6.out)
 clear s0 s1 s2 s3 s4 s5 k0 k1 k2 k3 k4 k5 S4 S5 G5 Y0 Y1 Y2 Z0 Z1 Z2 B6
 (try clear x00 x01 x02 x03 x04 x05 x06);(try clear x10 x11 x12 x13 x14 x15 x16)
 generalize (((((w5.setCell ⟨g,0,none⟩ (.string pre)).setCell ⟨g,1,none⟩ (.slice ma ms.length mc)).setCell ⟨g,2,none⟩ (.int .i64 th)).setCell ⟨q,0,none⟩ (.string pre)).setCell ⟨q,1,none⟩ (.slice na ms.length nc)).setCell ⟨q,2,none⟩ (.int .i64 th)=w6 at*
 have s0:=T4.out.cell 0;have s1:=T4.out.cell 1;have s2:=T4.out.cell 2
 have k0:=T5.out.cell 0;have k1:=T5.out.cell 1;have k2:=T5.out.cell 2
 simp only[List.getElem?_toArray,List.getElem?_cons_zero,List.getElem?_cons_succ,List.setIfInBounds_toArray,List.set_cons_zero,List.set_cons_succ] at s0 s1 s2 k0 k1 k2
 obtain⟨x00,x01,x02,x03,x04,x05,x06⟩:=F6.out.KH rfl
 obtain⟨x10,x11,x12,x13,x14,x15,x16⟩:=F6.out.LW rfl
 have hbe:(pre.toList==pre.toList)=true:=beq_self_eq_true _
 go_wp2_with fail
 refine(HSS.out w6 F6.out.under).mono ?_
 rintro e w7 ⟨rfl,hb7⟩
 have F7:=zh (F6.out.step hb7)
 clear hb7 s0 s1 s2 k0 k1 k2 HSS
 (try clear x00 x01 x02 x03 x04 x05 x06);(try clear x10 x11 x12 x13 x14 x15 x16)
 obtain⟨x00,x01,x02,x03,x04,x05,x06⟩:=F7.out.KH rfl
 obtain⟨x10,x11,x12,x13,x14,x15,x16⟩:=F7.out.LW rfl
 have hbn:(nm.toList==nm.toList)=true:=beq_self_eq_true _
 have hbp:(pb.toList==pb.toList)=true:=beq_self_eq_true _
 go_wp2_with fail
 refine(HSA.out w7 F7.out.under).mono ?_
 rintro e w8 ⟨rfl,hb8⟩
 have F8:=zh (F7.out.step hb8)
 clear hb8
 go_wp2_with fail
 go_ret
 exact⟨rfl,F8.out.under⟩
theorem DI.at1 {w:World}{b x:Nat}(h:At w b 5 #[.int .u8 (x:Int)]):DI w (.slice (some ⟨b,0,none⟩) 1 1) [x]:=
 ⟨rfl,_,_,rfl,.inr ⟨b,0,rfl,h.lt,fun j u hj => by
   match j,hj with
   | 0,hj=>exact(h.cell 0).trans hj
   | j+1,hj=>cases hj⟩⟩
theorem awake53_any (w:World)(hM:IY w):Calls Tryz.prog 11 #[] w fun e w' => e=.returned (.bool true)/\Below w.heap.size w w':=by
 obtain⟨o1,o2,M2,OP,aps,EB,sx,sy,hA⟩:=Own.awk
 have hcl:=fun(b:Nat) W (hW:Below w.heap.size w W) (ha:At W b 5 #[.int .u8 1])=>UF Own.sA 1 [1] (some ⟨b,0,none⟩) 1 W (hM.below hW) (DI.at1 ha) (by simp) (by simp) (by simp)
 rw[hA.claim] at hcl
 have hmb:=fun(b:Nat) W (ha:At W b 5 #[.int .u8 2])=>Jd [2] (some ⟨b,0,none⟩) 1 W (DI.at1 ha) (by simp) (by simp) (by simp)
 rw[hA.m2,hA.m2l] at hmb
 have hsg:=fun(sv kv mv:Value) (b:Nat) W (hW:Below w.heap.size w W) hs hk (hm:Own.Ag W mv M2) (ha:At W b 5 #[.int .u8 1])=>JM o1 ⟨2,Own.sAB,M2,1,⟨#[]⟩,⟨#[]⟩,[]⟩ 1 [1] sv kv mv (.slice none 0 0) (some ⟨b,0,none⟩) 1 W (hM.below hW) (by omega) hs hk hm ⟨_,_,rfl⟩ (by rw[hA.m2l];omega) (DI.at1 ha) (by simp) (by simp)
 rw[hA.apd] at hsg
 unfold Own.opV Own.YG at hsg
 dsimp only at hsg
 have hop:=hA.op
 subst hop
 have hap:=fun(sv kv mv av:Value) W (hW:Below w.heap.size w W) hS hK (hm:Own.Ag W mv M2) hap=>Ra o1 ⟨2,Own.sAB,M2,1,⟨#[]⟩,⟨#[]⟩,aps⟩ sv kv mv av W (hM.below hW) hS hK hm hap (Nat.le_trans hA.s1.1 (by omega)) (Nat.le_trans hA.s1.2.1 (by omega)) (fun s hs=>Nat.le_trans (hA.s1.2.2 s hs) (by omega)) (by show M2.length<=_;rw[hA.m2l];omega) hA.all
 rw[hA.app] at hap
 unfold Own.opV at hap
 dsimp only at hap
 have hvl:=fun(sv kv:Value) W (hW:Below w.heap.size w W) hS hK=>KO o1 sv kv W (hM.below hW) hS hK (Nat.le_trans hA.s1.1 (by omega)) (Nat.le_trans hA.s1.2.1 (by omega)) (fun s hs=>Nat.le_trans (hA.s1.2.2 s hs) (by omega))
 rw[hA.ok1] at hvl
 have hau:=fun(p:ByteArray) (sv kv:Value) W (hW:Below w.heap.size w W) hS hK=>Qc o2 p sv kv W (hM.below hW) hS hK (Nat.le_trans hA.s2.1 (by omega)) (Nat.le_trans hA.s2.2.1 (by omega)) (fun s hs=>Nat.le_trans (hA.s2.2.2 s hs) (by omega))
 have zaJ:=hau Own.oz
 have iq:=hau Own.iY
 have zaK:=hau Own.sB
 rw[hA.au1] at zaJ
 rw[hA.au2] at iq
 rw[hA.au3] at zaK
 have hen:=fun(mv av:Value) W (hW:Below w.heap.size w W) (hm:Own.Ag W mv M2) hap=>OQ ⟨2,Own.sAB,M2,1,⟨#[]⟩,⟨#[]⟩,aps⟩ mv av W (hM.below hW) hm hap (by show M2.length<=_;rw[hA.m2l];omega) (Nat.le_trans hA.sum (by omega)) (fun a ha=>⟨hA.idx a ha,(hA.all a ha).2⟩)
 rw[hA.enc] at hen
 unfold Own.opV at hen
 dsimp only at hen
 have hde:=fun W (hW:Below w.heap.size w W)=>YF EB W (hM.below hW) (Nat.le_trans hA.sz (by omega))
 rw[hA.dec] at hde
 have hso:=fun(mv av mv2 av2:Value) W hm hm2 hA1 hA2=>VD ⟨2,Own.sAB,M2,1,⟨#[]⟩,⟨#[]⟩,aps⟩ mv av mv2 av2 W hm hm2 hA1 hA2 (by show M2.length<=_;rw[hA.m2l];omega) (by show aps.length<=_;rw[hA.apl];omega) (fun a ha=>(hA.all a ha).2)
 unfold Own.opV at hso
 dsimp only at hso
 obtain⟨c1,S1,K1⟩:=o1
 have hc1:c1=1:=hA.c1
 obtain⟨⟨p1,n1⟩,hk1,hn1⟩:=hA.k1
 have hk1:K1=[⟨p1,n1⟩]:=hk1
 have hn1:n1=1:=hn1
 subst hc1 hk1 hn1
 obtain⟨xp,xm,xt⟩:=sx
 obtain⟨yp,ym,yt⟩:=sy
 have hx1:xp=Own.sAB:=hA.x1
 have hy1:yp=Own.sA:=hA.y1
 subst hx1 hy1
 have hml:=hA.m2l
 have hal:=hA.apl
 have HCL:=zh hcl;have HMB:=zh hmb;have HSG:=zh hsg;have HAP:=zh hap;have HVL:=zh hvl;have HA1:=zh zaJ;have HA2:=zh iq;have HA3:=zh zaK;have HEN:=zh hen;have HDE:=zh hde;have HSO:=zh hso;have HML:=zh hml;have HAL:=zh hal
 clear hcl hmb hsg hap hvl hau zaJ iq zaK hen hde hso hA hml hal hM
 unfold Own.sAB Own.sA Own.oz Own.iY Own.sB at*
 go_enter Tryz.func11,Tryz.ntmps11
 go_wp2_with fail
 have hb1:Below w.heap.size w (w.alloc (.cells #[.int .u8 1] 5)):=zb
 have hat:=At.new w 5 #[.int .u8 1]
 have B1:=zh hb1;have T1:=zh hat;clear hb1 hat
 generalize w.alloc (.cells #[.int .u8 1] 5)=w1 at*
 refine(HCL.out w.heap.size w1 B1.out T1.out).mono ?_
 rintro e w2 ⟨sv,kv,rfl,hs2,hk2,hb2⟩
 have hb2':=B1.out.trans (hb2.mono B1.out.size)
 have hs3:Own.BH w2 sv S1:=hs2.mono (fun _ _ _=>trivial)
 have hk3:Own.DJ w2 kv [⟨p1,1⟩]:=hk2.mono (fun _ _ _=>trivial)
 obtain⟨sa,sc,rfl⟩:=hs3.len
 obtain⟨ka,kc,hkv⟩:=hk3.len
 have hkv:kv=.slice ka 1 kc:=hkv
 subst hkv
 have hb3:Below w2.heap.size w2 (w2.alloc (.cells #[.int .i64 1,.slice sa S1.length sc,.slice ka 1 kc] 25)):=zb
 have B3:=zh (hb2'.trans (hb3.mono hb2'.size));have S3:=zh (hs3.below hb3);have K3:=zh (hk3.below hb3)
 have T3:=zh (At.new w2 25 #[.int .i64 1,.slice sa S1.length sc,.slice ka 1 kc])
 have hwb:w.heap.size<=w2.heap.size:=hb2'.size
 clear hs2 hk2 hb2 hb2' hs3 hk3 hb3 B1 T1 HCL
 go_wp2_with fail
 generalize w2.alloc (.cells #[.int .i64 1,.slice sa S1.length sc,.slice ka 1 kc] 25)=w3 at*
 obtain⟨b,hb⟩:∃ b,b=w2.heap.size:=⟨_,rfl⟩
 rw[<- hb] at T3 hwb ⊢
 clear hb
 refine(HVL.out _ _ w3 B3.out S3.out K3.out).mono ?_
 rintro e w4 ⟨rfl,hb4⟩
 have B4:=zh (B3.out.trans (hb4.mono B3.out.size));have S4:=zh (S3.out.below hb4);have K4:=zh (K3.out.below hb4);have T4:=zh (T3.out.below hb4 T3.out.lt)
 clear hb4 B3 S3 K3 T3 HVL
 obtain⟨gk,ok,ha,_,e0,e1⟩:=Own.DJ.cells K4.out (i:=0) (by simp)
 subst ha
 have e1:w4.cell? ⟨gk,ok+1,none⟩=some (.int .i64 1):=by simpa using e1
 clear e0
 obtain⟨c0,c1,c2⟩:=T4.out.c3
 go_wp2_with fail
 clear e1
 have Y0:=zh (zi c0)
 have zaL:b<w4.heap.size:=T4.out.lt
 refine Lex.FJ (fun k=>k=b) [0] [1,4,6] 7 [.pure 1,.new,.call,.pure 1,.new,.call,.new] [] (by kernel_rfl) (by kernel_rfl) (by kernel_rfl) ?_
 simp only[Lex.Jf,Lex.Br,zd]
 have bd:Below w4.heap.size w4 w4.drew:=(Below.refl _ _).drew
 have BD:=zh bd
 have ZD:=zh (show w4.drew.heap.size=w4.heap.size by rw[Fb])
 clear bd
 go_wp2_with fail
 refine Lex.Qk.intro ?_
 intro w5 hw5
 go_wp2_with fail
 refine Lex.Ql.intro (fun w6 hg6 hk6 ho6=>?_)
 have hs6:=hk6.at_
 have hl5:w4.heap.size<=w5.heap.size:=by rw[<- ZD.out];exact hw5
 obtain⟨g6,hg⟩:∃ g,g=w5.heap.size:=⟨_,rfl⟩
 rw[World.size_alloc]
 rw[<- hg] at hs6 hl5 ⊢
 have X6:=zh (BD.out.trans (hg6.mono BD.out.size));have P6:=zh hs6
 clear hg6 hk6 ho6 hs6 hg hw5
 intro w7 hg7
 have X7:=zh (X6.out.trans (hg7.mono X6.out.size));have P7:=zh (P6.out.below hg7 P6.out.lt)
 clear hg7 X6 P6
 go_wp2_with fail
 refine(HMB.out g6 w7 P7.out).mono ?_
 rintro e w8 ⟨mv,rfl,hm8,hb8⟩
 obtain⟨ma,mn,mc,rfl⟩:=Ad hm8
 obtain rfl:=Bf hm8
 have X8:=zh (X7.out.trans (hb8.mono X7.out.size));have BB8:=zh hb8
 have zdn:Own.Ag w8 (.slice ma 1 mc) M2:=Own.Ag.of (Bh.own hm8) HML.out.symm
 have M8:=zh zdn;have R8:=zh hm8;have HLT:=zh (fun k (hk:(Value.slice ma 1 mc).ownBlock=some k)=>(show w7.heap.size<=k/\k<w8.heap.size from⟨Al hm8 k hk,Own.J8 hm8 k hk⟩))
 have hz7:w4.heap.size<=w7.heap.size:=X7.out.size
 clear hm8 hb8 zdn X7 P7 HMB
 go_wp2_with fail
 refine Lex.Vx.intro (fun j hj hjl=>by rw[hj];exact X8.out.block _ zaL) (Lex.Kept.of_below BB8.out) ?_
 go_wp2_with fail
 refine Lex.Qk.intro ?_
 intro w9 hw9
 go_wp2_with fail
 refine Lex.Ql.intro (fun w10 xR hk10 zex=>?_)
 have ou:=hk10.at_
 have hl9:w4.heap.size<=w9.heap.size:=by rw[<- ZD.out];exact hw9
 obtain⟨g10,hg⟩:∃ g,g=w9.heap.size:=⟨_,rfl⟩
 rw[World.size_alloc]
 rw[<- hg] at ou hl9 ⊢
 have X10:=zh (X8.out.trans (xR.mono X8.out.size));have P10:=zh ou;have M10:=zh (M8.out.below xR);have R10:=zh (own_below R8.out xR)
 clear xR hk10 zex ou hg hw9 X8 M8 BB8 R8
 intro w11 Uj
 have X11:=zh (X10.out.trans (Uj.mono X10.out.size));have P11:=zh (P10.out.below Uj P10.out.lt);have M11:=zh (M10.out.below Uj);have R11:=zh (own_below R10.out Uj)
 have B11:=zh (B4.out.trans (X11.out.mono B4.out.size))
 clear Uj X10 P10 M10 R10
 go_wp2_with fail
 refine(HSG.out (.slice sa S1.length sc) (.slice (some ⟨gk,ok,none⟩) 1 kc) (.slice ma 1 mc) g10 w11 B11.out ⟨_,_,_,rfl⟩ ⟨_,_,_,rfl⟩ M11.out P11.out).mono ?_
 rintro e w12 ⟨av,rfl,zaM,xU⟩
 obtain⟨aa,ac,hav⟩:=zaM.len
 rw[HAL.out] at hav
 subst hav
 have X12:=zh (X11.out.trans (xU.mono X11.out.size));have zdo:=zh xU;have R12:=zh (own_below R11.out xU);have A12:=zh zaM
 have wO:w4.heap.size<=w11.heap.size:=X11.out.size
 clear zaM xU X11 P11 M11 HSG B11 R11
 go_wp2_with fail
 refine Lex.Vx.intro (fun j hj hjl=>by rw[hj];exact X12.out.block _ zaL) (Lex.Kept.of_below zdo.out) ?_
 intro w13 zdp
 go_wp2_with fail
 refine Lex.Ql.intro (fun w14 xW zdq zaN=>?_)
 have zaO:=zdq.at_
 have zdr:w4.heap.size<=w13.heap.size:=by rw[<- ZD.out];exact zdp
 obtain⟨q,hq⟩:∃ g,g=w13.heap.size:=⟨_,rfl⟩
 rw[<- hq] at zaO zdr ⊢
 have X14:=zh (X12.out.trans (xW.mono X12.out.size));have Q14:=zh zaO;have R14:=zh (own_below R12.out xW)
 have o1:=zaN (w11.heap.size,w12.heap.size) (by simp)
 have o2:=zaN (w7.heap.size,w8.heap.size) (by simp)
 rw[World.size_alloc,<- hq] at o1 o2
 dsimp only at o1 o2
 have G14:=zh xW;have OF1:=zh o1;have OF2:=zh o2
 clear zaN zdq zaO xW o1 o2 hq zdp X12 zdo R12
 have s0:=Q14.out.cell 0;have s1:=Q14.out.cell 1;have s2:=Q14.out.cell 2;have s3:=Q14.out.cell 3;have s4:=Q14.out.cell 4;have s5:=Q14.out.cell 5;have s6:=Q14.out.cell 6
 have t0:=Q14.out.free 0;have t1:=Q14.out.free 1;have t2:=Q14.out.free 2;have t3:=Q14.out.free 3;have t4:=Q14.out.free 4;have t5:=Q14.out.free 5;have t6:=Q14.out.free 6
 simp only[zg] at s0 s1 s2 s3 s4 s5 s6
 go_wp2_with fail
 refine Lex.zk ⟨⟨rfl,Y0.out⟩,trivial⟩ ?_
 have Jb:∀ k,k≠q->(((((((w14.setCell ⟨q,0,none⟩ (.int .i64 2)).setCell ⟨q,1,none⟩ (.string ⟨#[97,47,98]⟩)).setCell ⟨q,2,none⟩ (.slice ma 1 mc)).setCell ⟨q,3,none⟩ (.int .i64 1)).setCell ⟨q,4,none⟩ (.string ⟨#[]⟩)).setCell ⟨q,5,none⟩ (.string ⟨#[]⟩)).setCell ⟨q,6,none⟩ (.slice aa 1 ac)).heap[k]? = w14.heap[k]? :=fun k hk=>OT hk _ _ _ _ _ _ _
 have hsz:(((((((w14.setCell ⟨q,0,none⟩ (.int .i64 2)).setCell ⟨q,1,none⟩ (.string ⟨#[97,47,98]⟩)).setCell ⟨q,2,none⟩ (.slice ma 1 mc)).setCell ⟨q,3,none⟩ (.int .i64 1)).setCell ⟨q,4,none⟩ (.string ⟨#[]⟩)).setCell ⟨q,5,none⟩ (.string ⟨#[]⟩)).setCell ⟨q,6,none⟩ (.slice aa 1 ac)).heap.size=w14.heap.size:=Qt (b:=q) _ _ _ _ _ _ _
 have X15:=zh (show Below w4.heap.size w4 (((((((w14.setCell ⟨q,0,none⟩ (.int .i64 2)).setCell ⟨q,1,none⟩ (.string ⟨#[97,47,98]⟩)).setCell ⟨q,2,none⟩ (.slice ma 1 mc)).setCell ⟨q,3,none⟩ (.int .i64 1)).setCell ⟨q,4,none⟩ (.string ⟨#[]⟩)).setCell ⟨q,5,none⟩ (.string ⟨#[]⟩)).setCell ⟨q,6,none⟩ (.slice aa 1 ac)) from YE X14.out zdr _ _ _ _ _ _ _)
 have Q15:=zh (show At (((((((w14.setCell ⟨q,0,none⟩ (.int .i64 2)).setCell ⟨q,1,none⟩ (.string ⟨#[97,47,98]⟩)).setCell ⟨q,2,none⟩ (.slice ma 1 mc)).setCell ⟨q,3,none⟩ (.int .i64 1)).setCell ⟨q,4,none⟩ (.string ⟨#[]⟩)).setCell ⟨q,5,none⟩ (.string ⟨#[]⟩)).setCell ⟨q,6,none⟩ (.slice aa 1 ac)) q 29 #[.int .i64 2,.string ⟨#[97,47,98]⟩,.slice ma 1 mc,.int .i64 1,.string ⟨#[]⟩,.string ⟨#[]⟩,.slice aa 1 ac] from At.Rn Q14.out _ _ _ _ _ _ _)
 have R15:=zh (Af (w':=((((((w14.setCell ⟨q,0,none⟩ (.int .i64 2)).setCell ⟨q,1,none⟩ (.string ⟨#[97,47,98]⟩)).setCell ⟨q,2,none⟩ (.slice ma 1 mc)).setCell ⟨q,3,none⟩ (.int .i64 1)).setCell ⟨q,4,none⟩ (.string ⟨#[]⟩)).setCell ⟨q,5,none⟩ (.string ⟨#[]⟩)).setCell ⟨q,6,none⟩ (.slice aa 1 ac)) R14.out (fun k hk=>Jb k (by have h1:=HLT.out k hk;have h2:=OF2.out;omega)))
 have A15:=zh (A12.out.keep (w':=((((((w14.setCell ⟨q,0,none⟩ (.int .i64 2)).setCell ⟨q,1,none⟩ (.string ⟨#[97,47,98]⟩)).setCell ⟨q,2,none⟩ (.slice ma 1 mc)).setCell ⟨q,3,none⟩ (.int .i64 1)).setCell ⟨q,4,none⟩ (.string ⟨#[]⟩)).setCell ⟨q,5,none⟩ (.string ⟨#[]⟩)).setCell ⟨q,6,none⟩ (.slice aa 1 ac)) (by rw[hsz];exact G14.out.size) (fun k h1 h2=>(Jb k (by have h3:=OF1.out;omega)).trans (G14.out.block k h2)))
 clear Jb hsz X14 Q14 R14 A12 G14 OF1 OF2 HLT s0 s1 s2 s3 s4 s5 s6 t0 t1 t2 t3 t4 t5 t6 Y0 BD ZD hl5 hl9 c0 c1 c2
 generalize ((((((w14.setCell ⟨q,0,none⟩ (.int .i64 2)).setCell ⟨q,1,none⟩ (.string ⟨#[97,47,98]⟩)).setCell ⟨q,2,none⟩ (.slice ma 1 mc)).setCell ⟨q,3,none⟩ (.int .i64 1)).setCell ⟨q,4,none⟩ (.string ⟨#[]⟩)).setCell ⟨q,5,none⟩ (.string ⟨#[]⟩)).setCell ⟨q,6,none⟩ (.slice aa 1 ac)=w15 at*
 have B15:=zh (B4.out.trans (X15.out.mono B4.out.size));have S15:=zh (S4.out.below X15.out);have K15:=zh (K4.out.below X15.out);have T15:=zh (T4.out.below X15.out zaL)
 have hbq:b≠q:=T15.out.ne Q15.out (by decide)
 have M15:=zh (show Own.Ag w15 (.slice ma 1 mc) M2 from Own.Ag.of (Bh.own R15.out) HML.out.symm)
 clear X15 S4 K4 T4 B4
 have c0:=T15.out.cell 0;have c1:=T15.out.cell 1;have c2:=T15.out.cell 2
 have s0:=Q15.out.cell 0;have s1:=Q15.out.cell 1;have s2:=Q15.out.cell 2;have s3:=Q15.out.cell 3;have s4:=Q15.out.cell 4;have s5:=Q15.out.cell 5;have s6:=Q15.out.cell 6
 simp only[zg] at s0 s1 s2 s3 s4 s5 s6 c0 c1 c2
 go_wp2_with fail
 refine(HAP.out _ _ _ _ w15 B15.out S15.out K15.out M15.out A15.out.tu.out).mono ?_
 intro e w16 hp
 obtain⟨sv2,kv2,rfl,hs2,hk2,oI⟩:=hp.val
 have T16:=zh (T15.out.below oI T15.out.lt);have Q16:=zh (Q15.out.below oI Q15.out.lt);have R16:=zh (own_below R15.out oI);have A16:=zh (A15.out.below oI);have B16:=zh (B15.out.trans (oI.mono B15.out.size))
 have UU:b<w15.heap.size:=T15.out.lt
 obtain⟨sb,sd,rfl⟩:=hs2.len
 obtain⟨kb,kd,rfl⟩:=hk2.len
 have S16:=zh hs2;have K16:=zh hk2
 obtain⟨c2n,S2,K2⟩:=o2
 dsimp only at S16 K16
 dsimp only
 clear hp hs2 hk2 oI T15 Q15 R15 A15 B15 S15 K15 M15 HAP s0 s1 s2 s3 s4 s5 s6 c0 c1 c2
 have c0:=T16.out.cell 0;have c1:=T16.out.cell 1;have c2:=T16.out.cell 2;have c0f:=T16.out.free 0;have c1f:=T16.out.free 1;have c2f:=T16.out.free 2
 simp only[zg] at c0 c1 c2
 go_upto_region 6 with fail
 have Jb:∀ k,k≠b->(((w16.setCell ⟨b,0,none⟩ (.int .i64 c2n)).setCell ⟨b,1,none⟩ (.slice sb S2.length sd)).setCell ⟨b,2,none⟩ (.slice kb K2.length kd)).heap[k]? = w16.heap[k]? :=fun k hk=>by rw[zo hk,zo hk,zo hk]
 have hsz:(((w16.setCell ⟨b,0,none⟩ (.int .i64 c2n)).setCell ⟨b,1,none⟩ (.slice sb S2.length sd)).setCell ⟨b,2,none⟩ (.slice kb K2.length kd)).heap.size=w16.heap.size:=by simp[World.setCell]
 have ht:=((T16.out.set 0 (.int .i64 c2n)).set 1 (.slice sb S2.length sd)).set 2 (.slice kb K2.length kd)
 simp only[List.setIfInBounds_toArray,List.set_cons_zero,List.set_cons_succ] at ht
 have T17:=zh ht
 have Q17:=zh (Q16.out.keep (Jb q hbq.symm))
 have R17:=zh (Af R16.out (fun k hk=>Jb k (by have:=Al R16.out k hk;omega)))
 have A17:=zh (A16.out.keep (Nat.le_of_eq hsz.symm) (fun k hk _=>Jb k (by omega)))
 have S17:=zh (((S16.out.keep (Nat.le_of_eq hsz.symm) (fun k hk _=>Jb k (by omega)))).mono (G:=Own.gK) (fun _ _ _=>trivial))
 have K17:=zh (((K16.out.keep (Nat.le_of_eq hsz.symm) (fun k hk _=>Jb k (by omega)))).mono (G:=Own.gK) (fun _ _ _=>trivial))
 have B17:=zh (((B16.out.setCell (p:=⟨b,0,none⟩) hwb (.int .i64 c2n)).setCell (p:=⟨b,1,none⟩) hwb (.slice sb S2.length sd)).setCell (p:=⟨b,2,none⟩) hwb (.slice kb K2.length kd))
 clear Jb hsz ht T16 Q16 R16 A16 S16 K16 B16 c0 c1 c2 c0f c1f c2f UU
 generalize ((w16.setCell ⟨b,0,none⟩ (.int .i64 c2n)).setCell ⟨b,1,none⟩ (.slice sb S2.length sd)).setCell ⟨b,2,none⟩ (.slice kb K2.length kd)=w17 at*
 obtain⟨c0,c1,c2⟩:=T17.out.c3
 go_wp2_with fail
 refine(HA1.out _ _ w17 B17.out S17.out K17.out).mono ?_
 rintro e w18 ⟨hp,hb⟩
 obtain⟨v',rfl,hrow⟩:=hp
 obtain⟨x1a,x1n,x1c,rfl⟩:=Ad hrow
 clear hrow c0 c1 c2
 have T18:=zh (T17.out.below hb T17.out.lt);have Q18:=zh (Q17.out.below hb Q17.out.lt);have R18:=zh (own_below R17.out hb);have A18:=zh (A17.out.below hb);have S18:=zh (S17.out.below hb);have K18:=zh (K17.out.below hb);have B18:=zh (B17.out.trans ((hb).mono B17.out.size))
 clear T17 Q17 R17 A17 S17 K17 B17
 clear hb
 go_upto_region 7 with fail
 have hb:Below w18.heap.size w18 (w18.alloc (.cells #[.string ⟨#[97,47,98]⟩,.slice x1a x1n x1c,.int .i64 xt] 39)):=zb
 have xX:=zh (At.new w18 39 #[.string ⟨#[97,47,98]⟩,.slice x1a x1n x1c,.int .i64 xt])
 have T19:=zh (T18.out.below hb T18.out.lt);have Q19:=zh (Q18.out.below hb Q18.out.lt);have R19:=zh (own_below R18.out hb);have A19:=zh (A18.out.below hb);have S19:=zh (S18.out.below hb);have K19:=zh (K18.out.below hb);have B19:=zh (B18.out.trans ((hb).mono B18.out.size))
 clear T18 Q18 R18 A18 S18 K18 B18
 clear hb
 generalize w18.alloc (.cells #[.string ⟨#[97,47,98]⟩,.slice x1a x1n x1c,.int .i64 xt] 39)=w19 at*
 obtain⟨bx,hbx⟩:∃ g,g=w18.heap.size:=⟨_,rfl⟩
 rw[<- hbx] at xX ⊢
 clear hbx
 obtain⟨c0,c1,c2⟩:=T19.out.c3
 go_wp2_with fail
 refine(HA2.out _ _ w19 B19.out S19.out K19.out).mono ?_
 rintro e w20 ⟨hp,hb⟩
 obtain⟨v',rfl,hrow⟩:=hp
 obtain⟨x2a,x2n,x2c,rfl⟩:=Ad hrow
 clear hrow c0 c1 c2
 have T20:=zh (T19.out.below hb T19.out.lt);have Q20:=zh (Q19.out.below hb Q19.out.lt);have R20:=zh (own_below R19.out hb);have A20:=zh (A19.out.below hb);have S20:=zh (S19.out.below hb);have K20:=zh (K19.out.below hb);have B20:=zh (B19.out.trans ((hb).mono B19.out.size))
 clear T19 Q19 R19 A19 S19 K19 B19
 have zaP:=zh (xX.out.below hb xX.out.lt)
 clear hb xX
 go_upto_region 8 with fail
 have hb:Below w20.heap.size w20 (w20.alloc (.cells #[.string ⟨#[97]⟩,.slice x2a x2n x2c,.int .i64 yt] 39)):=zb
 have xY:=zh (At.new w20 39 #[.string ⟨#[97]⟩,.slice x2a x2n x2c,.int .i64 yt])
 have zaQ:=zh (zaP.out.below hb zaP.out.lt)
 have T21:=zh (T20.out.below hb T20.out.lt);have Q21:=zh (Q20.out.below hb Q20.out.lt);have R21:=zh (own_below R20.out hb);have A21:=zh (A20.out.below hb);have S21:=zh (S20.out.below hb);have K21:=zh (K20.out.below hb);have B21:=zh (B20.out.trans ((hb).mono B20.out.size))
 clear T20 Q20 R20 A20 S20 K20 B20
 clear hb zaP
 generalize w20.alloc (.cells #[.string ⟨#[97]⟩,.slice x2a x2n x2c,.int .i64 yt] 39)=w21 at*
 obtain⟨by_,hby⟩:∃ g,g=w20.heap.size:=⟨_,rfl⟩
 rw[<- hby] at xY ⊢
 clear hby
 obtain⟨c0,c1,c2⟩:=T21.out.c3
 go_wp2_with fail
 refine(HA3.out _ _ w21 B21.out S21.out K21.out).mono ?_
 rintro e w22 ⟨hp,hb⟩
 have hp:e=.returned (.tuple #[.agg #[.string ⟨#[]⟩,.slice none 0 0,.int .i64 0],.bool false]):=hp
 subst hp
 clear c0 c1 c2
 have zaR:=zh (zaQ.out.below hb zaQ.out.lt);have zaS:=zh (xY.out.below hb xY.out.lt)
 have T22:=zh (T21.out.below hb T21.out.lt);have Q22:=zh (Q21.out.below hb Q21.out.lt);have R22:=zh (own_below R21.out hb);have A22:=zh (A21.out.below hb);have S22:=zh (S21.out.below hb);have K22:=zh (K21.out.below hb);have B22:=zh (B21.out.trans ((hb).mono B21.out.size))
 clear T21 Q21 R21 A21 S21 K21 B21
 clear hb zaQ xY
 go_upto_region 9 with fail
 have hb:Below w22.heap.size w22 (w22.alloc (.cells #[.string ⟨#[]⟩,.slice none 0 0,.int .i64 0] 39)):=zb
 have zaT:=zh (zaR.out.below hb zaR.out.lt);have zaU:=zh (zaS.out.below hb zaS.out.lt)
 have T23:=zh (T22.out.below hb T22.out.lt);have Q23:=zh (Q22.out.below hb Q22.out.lt);have R23:=zh (own_below R22.out hb);have A23:=zh (A22.out.below hb);have S23:=zh (S22.out.below hb);have K23:=zh (K22.out.below hb);have B23:=zh (B22.out.trans ((hb).mono B22.out.size))
 clear T22 Q22 R22 A22 S22 K22 B22
 clear hb zaR zaS
 generalize w22.alloc (.cells #[.string ⟨#[]⟩,.slice none 0 0,.int .i64 0] 39)=w23 at*
 have s0:=Q23.out.cell 0;have s1:=Q23.out.cell 1;have s2:=Q23.out.cell 2;have s3:=Q23.out.cell 3;have s4:=Q23.out.cell 4;have s5:=Q23.out.cell 5;have s6:=Q23.out.cell 6
 simp only[zg] at s0 s1 s2 s3 s4 s5 s6
 go_wp2_with fail
 have M23:Own.Ag w23 (.slice ma 1 mc) M2:=Own.Ag.of (Bh.own R23.out) HML.out.symm
 refine(HEN.out _ _ w23 B23.out M23 A23.out.tu.out).mono ?_
 rintro e w24 ⟨rfl,hb⟩
 have zaV:=zh (zaT.out.below hb zaT.out.lt);have zaW:=zh (zaU.out.below hb zaU.out.lt)
 clear M23 s0 s1 s2 s3 s4 s5 s6
 have T24:=zh (T23.out.below hb T23.out.lt);have Q24:=zh (Q23.out.below hb Q23.out.lt);have R24:=zh (own_below R23.out hb);have A24:=zh (A23.out.below hb);have S24:=zh (S23.out.below hb);have K24:=zh (K23.out.below hb);have B24:=zh (B23.out.trans ((hb).mono B23.out.size))
 clear T23 Q23 R23 A23 S23 K23 B23
 clear hb zaT zaU
 go_wp2_with fail
 refine(HDE.out w24 B24.out).mono ?_
 rintro e w25 ⟨⟨mv2,av2,rfl,hm2,ha2⟩,hb⟩
 obtain⟨na,nc,hmv⟩:=hm2.len
 have hmv:mv2=.slice na M2.length nc:=hmv
 subst hmv
 obtain⟨da,dc,hav⟩:=ha2.len
 have hav:av2=.slice da aps.length dc:=hav
 subst hav
 have M25:=zh (show Own.Ag w25 (.slice na M2.length nc) M2 from hm2.mono (fun _ _ _=>trivial));have D25:=zh (show Own.I4 w25 (.slice da aps.length dc) aps from(Own.kH ha2).out)
 have zaX:=zh (zaV.out.below hb zaV.out.lt);have zaY:=zh (zaW.out.below hb zaW.out.lt)
 clear hm2 ha2
 have T25:=zh (T24.out.below hb T24.out.lt);have Q25:=zh (Q24.out.below hb Q24.out.lt);have R25:=zh (own_below R24.out hb);have A25:=zh (A24.out.below hb);have S25:=zh (S24.out.below hb);have K25:=zh (K24.out.below hb);have B25:=zh (B24.out.trans ((hb).mono B24.out.size))
 clear T24 Q24 R24 A24 S24 K24 B24
 clear hb zaV zaW
 unfold Own.opV
 dsimp only
 go_upto_region 11 with fail
 have hb:Below w25.heap.size w25 (w25.alloc (.cells #[.int .i64 2,.string ⟨#[97,47,98]⟩,.slice na M2.length nc,.int .i64 1,.string ⟨#[]⟩,.string ⟨#[]⟩,.slice da aps.length dc] 29)):=zb
 have ZB:=zh (At.new w25 29 #[.int .i64 2,.string ⟨#[97,47,98]⟩,.slice na M2.length nc,.int .i64 1,.string ⟨#[]⟩,.string ⟨#[]⟩,.slice da aps.length dc])
 have XB:=zh (zaX.out.below hb zaX.out.lt);have YB:=zh (zaY.out.below hb zaY.out.lt)
 have M26:=zh (M25.out.below hb);have D26:=zh (D25.out.below hb)
 have T26:=zh (T25.out.below hb T25.out.lt);have Q26:=zh (Q25.out.below hb Q25.out.lt);have R26:=zh (own_below R25.out hb);have A26:=zh (A25.out.below hb);have S26:=zh (S25.out.below hb);have K26:=zh (K25.out.below hb);have B26:=zh (B25.out.trans ((hb).mono B25.out.size))
 clear T25 Q25 R25 A25 S25 K25 B25
 clear hb zaX zaY M25 D25
 generalize w25.alloc (.cells #[.int .i64 2,.string ⟨#[97,47,98]⟩,.slice na M2.length nc,.int .i64 1,.string ⟨#[]⟩,.string ⟨#[]⟩,.slice da aps.length dc] 29)=w26 at*
 obtain⟨bz,hbz⟩:∃ g,g=w25.heap.size:=⟨_,rfl⟩
 rw[<- hbz] at ZB ⊢
 clear hbz
 have s0:=Q26.out.cell 0;have s1:=Q26.out.cell 1;have s2:=Q26.out.cell 2;have s3:=Q26.out.cell 3;have s4:=Q26.out.cell 4;have s5:=Q26.out.cell 5;have s6:=Q26.out.cell 6
 simp only[zg] at s0 s1 s2 s3 s4 s5 s6
 have x0:=XB.out.cell 0;have y0:=YB.out.cell 0
 have z0:=ZB.out.cell 0;have z1:=ZB.out.cell 1;have z2:=ZB.out.cell 2;have z3:=ZB.out.cell 3;have z4:=ZB.out.cell 4;have z5:=ZB.out.cell 5;have z6:=ZB.out.cell 6
 simp only[zg] at x0 y0 z0 z1 z2 z3 z4 z5 z6
 have MQ:Own.Ag w26 (.slice ma 1 mc) M2:=Own.Ag.of (Bh.own R26.out) HML.out.symm
 have hso:=HSO.out (.slice na M2.length nc) (.slice da aps.length dc) (.slice ma 1 mc) (.slice aa 1 ac) w26 M26.out MQ D26.out A26.out.tu.out
 have HS:=zh hso
 clear hso MQ
 go_wp2_with fail
 refine HS.out.mono ?_
 rintro e w27 ⟨rfl,hb⟩
 have B27:=zh (B26.out.trans (hb.mono B26.out.size))
 clear hb
 go_wp2_with fail
 go_ret
 exact⟨rfl,B27.out⟩
end
end Go.Proofs.YtjlmglgmcekmhaaGreatDoor
