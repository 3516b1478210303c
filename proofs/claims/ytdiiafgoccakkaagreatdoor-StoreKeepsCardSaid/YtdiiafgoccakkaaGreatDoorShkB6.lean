/- A transaction applied to a state of the program. -/
import Derived.Maps.Keyed
import Derived.Test.YtdiiafgoccakkaaGreatDoorShkB5
set_option linter.unusedVariables false
set_option linter.unusedSimpArgs false
set_option maxRecDepth 100000
set_option maxHeartbeats 4000000
namespace Go.Proofs.YtdiiafgoccakkaaGreatDoor
section
open Go Go.RowKit Go.Maps
namespace Sto
open Own (Bt Srt BH)
def Jh (f:FuncId)(ob:Nat):Value:=.func (.func f) #[.pointer (some ⟨ob,0,none⟩)] #[]
def Ig (ob:Nat)(k:Int):Value:=if k=0 then Jh 86 ob else if k=1 then Jh 87 ob else if k=2 then Jh 88 ob else Jh 89 ob
theorem kw (k:Int)(h:0<=k/\k<=3):keyOf Tryz.prog 3 (.int .i64 k)=some (.int .i64 k):=keyOf_int_mk (P:=Tryz.prog) (k:=3) (q:=.i64) Tryz.underlying3 (uq (by omega))
theorem ki (k:Int):WideAt.IsKeyLit (.int .i64 k):=by unfold WideAt.IsKeyLit;trivial
theorem kne {k j:Int}(h:k≠j):(Lit.int .i64 k)≠.int .i64 j:=fun e=>h (by cases e;rfl)
def Kinds (w:World)(km ob:Nat):Prop:=∃ D,w.ownsMap Tryz.prog 3 RV km 4 D/\∀ k:Int,0<=k->k<=3->∀ z,D.atKey (.int .i64 k) z=.held (Ig ob k)
theorem Kinds.keep {w w' : World}{km ob:Nat}(h:Kinds w km ob)(hk:w'.heap[km]? = w.heap[km]?):Kinds w' km ob:=by
 obtain⟨D,⟨es,clock,hb,F,hs,hD⟩,hr⟩:=h
 exact⟨D,⟨es,clock,by rw[hk];exact hb,F,hs,hD⟩,hr⟩
theorem Kinds.lt {w:World}{km ob:Nat}(h:Kinds w km ob):km<w.heap.size:=by obtain⟨D,h,_⟩:=h;exact h.lt
theorem Kinds.look {w:World}{km ob:Nat}(h:Kinds w km ob){k:Int}(h0:0<=k)(h3:k<=3):(Instr.lookup 160 (.map (some km)) (.int .i64 k) false).run Tryz.prog w=.ok (Ig ob k) w:=by
 obtain⟨D,hD,hr⟩:=h
 have hz:(zeroValue 159).run Tryz.prog w=.ok .nilFunc w:=by kernel_rfl
 obtain⟨v,ps,hrun,hv⟩:=hD.lookup law Tryz.underlying160 hz (R:=RV) (zd:=.held .nilFunc) (zp:=[]) rfl (kw k ⟨h0,h3⟩)
 rw[hr k h0 h3] at hv
 unfold RV at hv
 simp only[Option.some.injEq,Prod.mk.injEq,DataW.held.injEq] at hv
 rw[hv.1] at hrun
 exact hrun
theorem jy (w:World)(ob:Nat):∃ w1 w2 w3 w4,
 (Instr.mapUpdate 160 (.map (some w.heap.size)) (.int .i64 0) (Jh 86 ob)).run Tryz.prog (w.alloc (.map #[] 0))=.ok () w1/\
 (Instr.mapUpdate 160 (.map (some w.heap.size)) (.int .i64 1) (Jh 87 ob)).run Tryz.prog w1=.ok () w2/\
 (Instr.mapUpdate 160 (.map (some w.heap.size)) (.int .i64 2) (Jh 88 ob)).run Tryz.prog w2=.ok () w3/\
 (Instr.mapUpdate 160 (.map (some w.heap.size)) (.int .i64 3) (Jh 89 ob)).run Tryz.prog w3=.ok () w4/\Kinds w4 w.heap.size ob/\Below w.heap.size w w4:=by
 have h0:(w.alloc (.map #[] 0)).ownsMap Tryz.prog 3 RV w.heap.size 0 (.map []):=World.ownsMap_made w _ _ _
 obtain⟨w1,r1,o1,g1⟩:=h0.update law Tryz.underlying160 (by unfold maxLen;omega) (kw 0 (by omega)) (val:=Jh 86 ob) (d:=.held (Jh 86 ob)) (ps:=[]) rfl
 obtain⟨w2,r2,o2,g2⟩:=o1.update law Tryz.underlying160 (by unfold maxLen;omega) (kw 1 (by omega)) (val:=Jh 87 ob) (d:=.held (Jh 87 ob)) (ps:=[]) rfl
 obtain⟨w3,r3,o3,g3⟩:=o2.update law Tryz.underlying160 (by unfold maxLen;omega) (kw 2 (by omega)) (val:=Jh 88 ob) (d:=.held (Jh 88 ob)) (ps:=[]) rfl
 obtain⟨w4,r4,o4,g4⟩:=o3.update law Tryz.underlying160 (by unfold maxLen;omega) (kw 3 (by omega)) (val:=Jh 89 ob) (d:=.held (Jh 89 ob)) (ps:=[]) rfl
 have hb:Below w.heap.size w (w.alloc (.map #[] 0)):=zb
 have hg:∀ {a b:World},Below w.heap.size w a->a.grownBy b (some w.heap.size)->Below w.heap.size w b:=fun ha h=>ha.grown h ha.size (fun k hk=>by cases hk;exact Nat.le_refl _)
 refine⟨w1,w2,w3,w4,r1,r2,r3,r4,⟨_,o4,fun k k0 k3 z=>?_⟩,hg (hg (hg (hg hb g1) g2) g3) g4⟩
 have m0:IsMap (.map []:DataW Value):=isMap_empty
 have m1:=m0.put (.int .i64 0) (.held (Jh 86 ob))
 have m2:=m1.put (.int .i64 1) (.held (Jh 87 ob))
 have m3:=m2.put (.int .i64 2) (.held (Jh 88 ob))
 have hk:k=0\/k=1\/k=2\/k=3:=by omega
 unfold Ig
 rcases hk with rfl|rfl|rfl|rfl
 ·rw[atKey_put_other (kne (by omega)),atKey_put_other (kne (by omega)),atKey_put_other (kne (by omega)),atKey_put_same m0 (ki 0),if_pos rfl]
 ·rw[atKey_put_other (kne (by omega)),atKey_put_other (kne (by omega)),atKey_put_same m1 (ki 1),if_neg (by omega),if_pos rfl]
 ·rw[atKey_put_other (kne (by omega)),atKey_put_same m2 (ki 2),if_neg (by omega),if_neg (by omega),if_pos rfl]
 ·rw[atKey_put_same m3 (ki 3),if_neg (by omega),if_neg (by omega),if_neg (by omega)]
def Fg (w:World)(F:Nat->Prop)(s:St)(l:List SOp)(e:Ending)(w' : World):Prop:=match txn s l with
 | .error c=>e=.returned (.tuple #[.agg #[.map none,.slice none 0 0,.map none],.int .i64 c])/\Below w.heap.size w w'
 | .ok t=>∃ mo mv ve F',e=.returned (.tuple #[.agg #[.map (some mo),ve,.map (some mv)],.int .i64 0])/\StC w' F' mo mv ve t/\(∀ k,SFo F' mo mv ve k->(F k/\k<w.heap.size)\/(w.heap.size<=k/\k<w'.heap.size))/\(∀ k,k=mo\/k=mv\/ve.ownBlock=some k->w.heap.size<=k)/\Below w.heap.size w w'
structure iy (w2:World) (F:Nat->Prop) (s:St) (l:List SOp) (ob mo mv km:Nat) (k:Nat) (wr:World):Prop where
 st:∃ F' ve t,steps (l.take k) s=.ok t/\Bw t/\StO w2 F wr ob F' mo mv ve t
 ks:Kinds wr km ob
theorem Kinds.RN {w:World}{km ob base n size:Nat}{e:TypeId}{v:Value}{xs:List Value}(h:Kinds w km ob)(ho:w.ownsRow base e size v n xs):v.ownBlock≠some km:=by
 intro hv
 obtain⟨D,⟨es,clock,hb,_⟩,_⟩:=h
 obtain⟨cur,hc⟩:=Ao ho hv
 unfold At at hc
 rw[hc] at hb
 cases hb
theorem JK (F G:Nat->Prop)(mo mv:Nat)(ve:Value)(s:St)(v:Value)(l:List SOp)(w:World)(h:StC w F mo mv ve s)(hs:Bw s)(hl:Nt G w v l)(hr:∀ x∈l,Fe x)(hll:l.length<=140737488350000):
 Calls Tryz.prog 33 #[.agg #[.map (some mo),ve,.map (some mv)],v] w (Fg w F s l):=by
 obtain⟨R,hR⟩:∃ R,R=Fg w F s l:=⟨_,rfl⟩
 rw[<- hR]
 obtain⟨ea,ec,rfl⟩:=h.en.len
 obtain⟨la,lc,rfl⟩:=hl.len
 have he1:=hs.e1
 have HR:=zh hR;have H:=zh h;have HOK:=zh hs;have HL:=zh hl;have HRE:=zh hr
 clear hR h hs hl hr
 have T1:=zh (show Aj w _ [(84,#[.map (some mo),.slice ea s.ents.length ec,.map (some mv)]),(84,#[.map none,.slice none 0 0,.map none])] from(((Bp.nil w).push 84 #[.map (some mo),.slice ea s.ents.length ec,.map (some mv)]).push 84 #[.map none,.slice none 0 0,.map none]).boxes)
 go_enter Tryz.func33,Tryz.ntmps33
 go_upto_region 1 with fail
 generalize ((w.alloc (.cells #[.map (some mo),.slice ea s.ents.length ec,.map (some mv)] 84)).alloc (.cells #[.map none,.slice none 0 0,.map none] 84))=w1 at*
 have hc:=fun W (hW:Below w.heap.size w W)=>YH G (.slice la l.length lc) l W (HL.out.below hW) HRE.out hll
 have HC:=zh hc;clear hc
 go_wp2_with fail
 refine(HC.out w1 T1.out.under).mono ?_
 rintro e w2 ⟨rfl,hb2⟩
 have T2:=zh (T1.out.step hb2)
 clear hb2 HC
 obtain⟨t00,t01,t02⟩:=T2.out.Ev rfl
 obtain⟨t10,t11,t12,DI,DJ,DK⟩:=T2.out.JH rfl
 cases hall:l.all D6 with
 | false =>
   have hst:txn s l=.error 1:=by unfold txn;rw[if_neg (by rw[hall];decide)]
   have HST:=zh hst
   clear hst hall
   go_wp2_with fail
   have T3:=((T2.out.put 1 0 (.map none) rfl).put 1 1 (.slice none 0 0) rfl).put 1 2 (.map none) rfl
   refine AQ rfl rfl rfl (Al (T3.at1 1 rfl) Tryz.underlying84 rfl AX) ?_
   rw[HR.out]
   unfold Fg
   rw[HST.out]
   exact⟨rfl,T3.under⟩
 | true =>
   have hst:txn s l=steps l s:=by unfold txn;rw[if_pos hall]
   have HST:=zh hst;have jk:=zh hall
   clear hst hall
   go_wp2_with fail
   have htr:StC w (fun k=>F k/\k<w.heap.size) mo mv (.slice ea s.ents.length ec) s:=H.out.mono (fun k h1 h2=>⟨h1,h2⟩) ⟨fun e=>H.out.fo.1 e.1,fun e=>H.out.fo.2.1 e.1,fun k hv e=>(H.out.eb k hv).2.1 e.1⟩
   have HTR:=zh htr;clear htr
   refine(bG (fun k=>F k/\k<w.heap.size) mo mv (.slice ea s.ents.length ec) s _ (HTR.out.below T2.out.under) (by omega)).mono ?_
   rintro e w3 ⟨mo2,mv2,ve2,rfl,hc3,ho3,hm3,hv3,hb3⟩
   obtain⟨va,vm,vc,rfl⟩:=Ah ho3
   obtain⟨ob,hob⟩:∃ b,b=w3.heap.size:=⟨_,rfl⟩
   have hz2:w.heap.size+2<=w2.heap.size:=T2.out.size
   have hz3:=hb3.size
   have hal:Below w3.heap.size w3 (w3.alloc (.cells #[.map (some mo2),.slice va vm vc,.map (some mv2)] 84)):=zb
   have hso:StO w2 (fun k=>F k/\k<w.heap.size) (w3.alloc (.cells #[.map (some mo2),.slice va vm vc,.map (some mv2)] 84)) ob (fun k=>(F k/\k<w.heap.size)/\k<w2.heap.size) mo2 mv2 (.slice va vm vc) s:=by
    rw[hob]
    exact⟨At.new _ _ _,hc3.below hal,own_below ho3 hal,hb3.trans (hal.mono hb3.size),⟨hz3,hm3,hv3⟩,fun k hk=>.inl hk,fun hk=>by have:=hk.2;omega⟩
   have SO:=zh hso;have T4:=zh ((T2.out.step hb3).step hal)
   have hsz:ob<(w3.alloc (.cells #[.map (some mo2),.slice va vm vc,.map (some mv2)] 84)).heap.size:=by rw[World.size_alloc];omega
   clear hso hal hc3 ho3
   (try clear t00);(try clear t01);(try clear t02);(try clear t10 t11 t12 DI DJ DK)
   have t00:(w3.alloc (.cells #[.map (some mo2),.slice va vm vc,.map (some mv2)] 84)).cell? ⟨w.heap.size,0,none⟩=some (.map (some mo)):=T4.out.cell 0 0 rfl rfl
   have t01:(w3.alloc (.cells #[.map (some mo2),.slice va vm vc,.map (some mv2)] 84)).cell? ⟨w.heap.size,1,none⟩=some (.slice ea s.ents.length ec):=T4.out.cell 0 1 rfl rfl
   have t02:(w3.alloc (.cells #[.map (some mo2),.slice va vm vc,.map (some mv2)] 84)).cell? ⟨w.heap.size,2,none⟩=some (.map (some mv)):=T4.out.cell 0 2 rfl rfl
   go_upto_region 4 with fail
   (try clear t00);(try clear t01);(try clear t02);(try clear t10 t11 t12 DI DJ DK)
   rw[<- hob]
   generalize w3.alloc (.cells #[.map (some mo2),.slice va vm vc,.map (some mv2)] 84)=w4 at*
   clear hob
   obtain⟨w5,w6,w7,w8,r1,r2,r3,r4,hk8,hb8⟩:=jy w4 ob
   unfold Jh at r1 r2 r3 r4
   obtain⟨km,hkm⟩:∃ k,k=w4.heap.size:=⟨_,rfl⟩
   have hmm :=@run_makeMap Tryz.prog
   go_wp2_with fail
   clear r1 r2 r3 r4 hmm
   rw[<- hkm] at hk8 ⊢
   have SO8:=zh (SO.out.below hb8);have T8:=zh (T4.out.step hb8);have HK8:=zh hk8;have B8:=zh hb8
   have hl1:=SO.out.st.UE
   have hl2:=SO.out.st.QW
   have Rt:km≠ob/\km≠mo2/\km≠mv2:=by omega
   clear hk8 hb8 hkm
   go_loopw [24] (fun i wr=>∃ k:Nat,k<=l.length/\i=.int .i64 k/\iy w2 (fun k=>F k/\k<w.heap.size) s l ob mo2 mv2 km k wr) (fun i _=>l.length-(intOf i).toNat)
   case atStart=>exact⟨0,by omega,rfl,⟨_,_,s,rfl,HOK.out,SO8.out⟩,HK8.out⟩
   case round=>
    obtain⟨k,hk,rfl,⟨F',ve',t,hsteps,Ru,Gi⟩,hkr⟩:=hrel
    have TR:=T2.out.step Gi.bel
    by_cases hlt:k<l.length
    ·have dk:decide ((k:Int)<l.length)=true:=by simp;omega
     obtain⟨b,o,u,ha,hbl,e0,e1,e2,e3,e4,e5,hu⟩:=Nt.cells (HL.out.below TR.under) hlt
     subst ha
     have hnx:=Uo l k hlt hsteps
     obtain⟨x,hx⟩:∃ x,x=l[k]:=⟨_,rfl⟩
     have hxo:D6 x=true:=by rw[hx];exact List.all_eq_true.1 jk.out _ (List.getElem_mem hlt)
     rw[<- hx] at e0 e1 e2 e3 e5 hu
     obtain⟨ua,uc,rfl⟩:=hu.len
     have K1:=zh (show Aj wr _ [(77,#[.int .i64 x.kind,.string x.name,.string x.data,.int .i64 x.obj.kind,.slice ua x.obj.refs.length uc,.string x.obj.data])] from((Bp.nil wr).push 77 #[.int .i64 x.kind,.string x.name,.string x.data,.int .i64 x.obj.kind,.slice ua x.obj.refs.length uc,.string x.obj.data]).boxes)
     have bQ:=zh (Gi.below K1.out.under);have HKR:=zh (hkr.keep (K1.out.under.block km hkr.lt));have HU:=zh (hu.1.below K1.out.under);have HX:=zh hx;have HXO:=zh hxo;have HNX:=zh hnx;have Ld:=zh Ru
     have hb1:Below wr.heap.size wr (wr.alloc (.cells #[.int .i64 x.kind,.string x.name,.string x.data,.int .i64 x.obj.kind,.slice ua x.obj.refs.length uc,.string x.obj.data] 77)):=K1.out.under
     clear Gi hkr hu hx hxo hnx Ru hsteps TR
     have k00:(wr.alloc (.cells #[.int .i64 x.kind,.string x.name,.string x.data,.int .i64 x.obj.kind,.slice ua x.obj.refs.length uc,.string x.obj.data] 77)).cell? ⟨wr.heap.size,0,none⟩=some (.int .i64 x.kind):=K1.out.cell 0 0 rfl rfl
     have k01:(wr.alloc (.cells #[.int .i64 x.kind,.string x.name,.string x.data,.int .i64 x.obj.kind,.slice ua x.obj.refs.length uc,.string x.obj.data] 77)).cell? ⟨wr.heap.size,1,none⟩=some (.string x.name):=K1.out.cell 0 1 rfl rfl
     have k02:(wr.alloc (.cells #[.int .i64 x.kind,.string x.name,.string x.data,.int .i64 x.obj.kind,.slice ua x.obj.refs.length uc,.string x.obj.data] 77)).cell? ⟨wr.heap.size,2,none⟩=some (.string x.data):=K1.out.cell 0 2 rfl rfl
     have k03:(wr.alloc (.cells #[.int .i64 x.kind,.string x.name,.string x.data,.int .i64 x.obj.kind,.slice ua x.obj.refs.length uc,.string x.obj.data] 77)).cell? ⟨wr.heap.size,3,none⟩=some (.int .i64 x.obj.kind):=K1.out.cell 0 3 rfl rfl
     have k04:(wr.alloc (.cells #[.int .i64 x.kind,.string x.name,.string x.data,.int .i64 x.obj.kind,.slice ua x.obj.refs.length uc,.string x.obj.data] 77)).cell? ⟨wr.heap.size,4,none⟩=some (.slice ua x.obj.refs.length uc):=K1.out.cell 0 4 rfl rfl
     have k05:(wr.alloc (.cells #[.int .i64 x.kind,.string x.name,.string x.data,.int .i64 x.obj.kind,.slice ua x.obj.refs.length uc,.string x.obj.data] 77)).cell? ⟨wr.heap.size,5,none⟩=some (.string x.obj.data):=K1.out.cell 0 5 rfl rfl
     have hkd:=RF HXO.out
     go_upto_region 8 with fail
     clear e0 e1 e2 e3 e4 e5
     (try clear k00);(try clear k01);(try clear k02);(try clear k03);(try clear k04);(try clear k05)
     generalize (wr.alloc (.cells #[.int .i64 x.kind,.string x.name,.string x.data,.int .i64 x.obj.kind,.slice ua x.obj.refs.length uc,.string x.obj.data] 77))=wq at*
     obtain⟨k00,k01,k02,k03,k04,k05⟩:=K1.out.zaU rfl
     have hlk:=HKR.out.look (k:=x.kind) (by omega) (by omega)
     rcases hkd with h0|h1|h2|h3
     ·have hkf:Ig ob x.kind=.func (.func 86) #[.pointer (some ⟨ob,0,none⟩)] #[]:=by unfold Ig;rw[if_pos h0];rfl
      rw[hkf] at hlk
      have H0:=zh h0
      clear hkf h0
      go_wp2_with fail
      clear hlk
      (try clear k00);(try clear k01);(try clear k02);(try clear k03);(try clear k04);(try clear k05)
      refine(sG w2 wq (fun k=>F k/\k<w.heap.size) F' ob mo2 mv2 ve' t x (.slice ua x.obj.refs.length uc) bQ.out Ld.out HXO.out H0.out HU.out).mono ?_
      intro e w9 hpost
      unfold Cr at hpost
      cases hsx:step t x with
      | error c =>
        rw[hsx] at hpost
        obtain⟨rfl,hb9⟩:=hpost
        have dz:(c==(0:Int))=false:=by rw[beq_eq_false_iff_ne];rcases KX hsx with h|h<;>omega
        have hst:txn s l=.error c:=by rw[HST.out];exact Hu l (k+1) (by rw[HNX.out,<- HX.out];exact hsx)
        have YI:=zh hst
        have T9:=zh (T2.out.step hb9)
        clear hst hb9 hsx
        obtain⟨t10,t11,t12,DI,DJ,DK⟩:=T9.out.JH rfl
        go_wp2_with fail
        have T3:=((T9.out.put 1 0 (.map none) rfl).put 1 1 (.slice none 0 0) rfl).put 1 2 (.map none) rfl
        refine AQ rfl rfl rfl (Al (T3.at1 1 rfl) Tryz.underlying84 rfl AX) ?_
        rw[HR.out]
        unfold Fg
        rw[YI.out]
        exact⟨rfl,T3.under⟩
      | ok t9 =>
        rw[hsx] at hpost
        obtain⟨rfl,F9,ve9,so9,hf9⟩:=hpost
        have hst:steps (l.take (k+1)) s=.ok t9:=by rw[HNX.out,<- HX.out];exact hsx
        have UW:=step_ok Ld.out HXO.out hsx
        have hk9:Kinds w9 km ob:=HKR.out.keep (hf9.keep km HKR.out.lt (by
         rintro(h|h|h|h)
         ·exact Rt.1 h
         ·exact Rt.2.1 h
         ·exact Rt.2.2 h
         ·exact HKR.out.RN bQ.out.own h))
        have HAI:=zh (iy.mk (w2:=w2) (F:=fun k=>F k/\k<w.heap.size) (s:=s) (l:=l) (ob:=ob) (mo:=mo2) (mv:=mv2) (km:=km) (k:=k+1) (wr:=w9) ⟨F9,ve9,t9,hst,UW,so9⟩ hk9)
        clear hst UW hk9 so9 hf9 hsx
        go_wp2
        exact⟨⟨k+1,by omega,by go_num,HAI.out⟩,by simp[intOf];omega⟩
     ·have hkf:Ig ob x.kind=.func (.func 87) #[.pointer (some ⟨ob,0,none⟩)] #[]:=by unfold Ig;rw[if_neg (by omega),if_pos h1];rfl
      rw[hkf] at hlk
      have H0:=zh h1
      clear hkf h1
      go_wp2_with fail
      clear hlk
      (try clear k00);(try clear k01);(try clear k02);(try clear k03);(try clear k04);(try clear k05)
      refine(nM w2 wq (fun k=>F k/\k<w.heap.size) F' ob mo2 mv2 ve' t x (.slice ua x.obj.refs.length uc) bQ.out Ld.out HXO.out H0.out HU.out).mono ?_
      intro e w9 hpost
      unfold Cr at hpost
      cases hsx:step t x with
      | error c =>
        rw[hsx] at hpost
        obtain⟨rfl,hb9⟩:=hpost
        have dz:(c==(0:Int))=false:=by rw[beq_eq_false_iff_ne];rcases KX hsx with h|h<;>omega
        have hst:txn s l=.error c:=by rw[HST.out];exact Hu l (k+1) (by rw[HNX.out,<- HX.out];exact hsx)
        have YI:=zh hst
        have T9:=zh (T2.out.step hb9)
        clear hst hb9 hsx
        obtain⟨t10,t11,t12,DI,DJ,DK⟩:=T9.out.JH rfl
        go_wp2_with fail
        have T3:=((T9.out.put 1 0 (.map none) rfl).put 1 1 (.slice none 0 0) rfl).put 1 2 (.map none) rfl
        refine AQ rfl rfl rfl (Al (T3.at1 1 rfl) Tryz.underlying84 rfl AX) ?_
        rw[HR.out]
        unfold Fg
        rw[YI.out]
        exact⟨rfl,T3.under⟩
      | ok t9 =>
        rw[hsx] at hpost
        obtain⟨rfl,F9,ve9,so9,hf9⟩:=hpost
        have hst:steps (l.take (k+1)) s=.ok t9:=by rw[HNX.out,<- HX.out];exact hsx
        have UW:=step_ok Ld.out HXO.out hsx
        have hk9:Kinds w9 km ob:=HKR.out.keep (hf9.keep km HKR.out.lt (by
         rintro(h|h|h|h)
         ·exact Rt.1 h
         ·exact Rt.2.1 h
         ·exact Rt.2.2 h
         ·exact HKR.out.RN bQ.out.own h))
        have HAI:=zh (iy.mk (w2:=w2) (F:=fun k=>F k/\k<w.heap.size) (s:=s) (l:=l) (ob:=ob) (mo:=mo2) (mv:=mv2) (km:=km) (k:=k+1) (wr:=w9) ⟨F9,ve9,t9,hst,UW,so9⟩ hk9)
        clear hst UW hk9 so9 hf9 hsx
        go_wp2
        exact⟨⟨k+1,by omega,by go_num,HAI.out⟩,by simp[intOf];omega⟩
     ·have hkf:Ig ob x.kind=.func (.func 88) #[.pointer (some ⟨ob,0,none⟩)] #[]:=by unfold Ig;rw[if_neg (by omega),if_neg (by omega),if_pos h2];rfl
      rw[hkf] at hlk
      have H0:=zh h2
      clear hkf h2
      go_wp2_with fail
      clear hlk
      (try clear k00);(try clear k01);(try clear k02);(try clear k03);(try clear k04);(try clear k05)
      refine(sM w2 wq (fun k=>F k/\k<w.heap.size) F' ob mo2 mv2 ve' t x (.slice ua x.obj.refs.length uc) bQ.out Ld.out H0.out HU.out).mono ?_
      intro e w9 hpost
      unfold Cr at hpost
      cases hsx:step t x with
      | error c =>
        rw[hsx] at hpost
        obtain⟨rfl,hb9⟩:=hpost
        have dz:(c==(0:Int))=false:=by rw[beq_eq_false_iff_ne];rcases KX hsx with h|h<;>omega
        have hst:txn s l=.error c:=by rw[HST.out];exact Hu l (k+1) (by rw[HNX.out,<- HX.out];exact hsx)
        have YI:=zh hst
        have T9:=zh (T2.out.step hb9)
        clear hst hb9 hsx
        obtain⟨t10,t11,t12,DI,DJ,DK⟩:=T9.out.JH rfl
        go_wp2_with fail
        have T3:=((T9.out.put 1 0 (.map none) rfl).put 1 1 (.slice none 0 0) rfl).put 1 2 (.map none) rfl
        refine AQ rfl rfl rfl (Al (T3.at1 1 rfl) Tryz.underlying84 rfl AX) ?_
        rw[HR.out]
        unfold Fg
        rw[YI.out]
        exact⟨rfl,T3.under⟩
      | ok t9 =>
        rw[hsx] at hpost
        obtain⟨rfl,F9,ve9,so9,hf9⟩:=hpost
        have hst:steps (l.take (k+1)) s=.ok t9:=by rw[HNX.out,<- HX.out];exact hsx
        have UW:=step_ok Ld.out HXO.out hsx
        have hk9:Kinds w9 km ob:=HKR.out.keep (hf9.keep km HKR.out.lt (by
         rintro(h|h|h|h)
         ·exact Rt.1 h
         ·exact Rt.2.1 h
         ·exact Rt.2.2 h
         ·exact HKR.out.RN bQ.out.own h))
        have HAI:=zh (iy.mk (w2:=w2) (F:=fun k=>F k/\k<w.heap.size) (s:=s) (l:=l) (ob:=ob) (mo:=mo2) (mv:=mv2) (km:=km) (k:=k+1) (wr:=w9) ⟨F9,ve9,t9,hst,UW,so9⟩ hk9)
        clear hst UW hk9 so9 hf9 hsx
        go_wp2
        exact⟨⟨k+1,by omega,by go_num,HAI.out⟩,by simp[intOf];omega⟩
     ·have hkf:Ig ob x.kind=.func (.func 89) #[.pointer (some ⟨ob,0,none⟩)] #[]:=by unfold Ig;rw[if_neg (by omega),if_neg (by omega),if_neg (by omega)];rfl
      rw[hkf] at hlk
      have H0:=zh h3
      clear hkf h3
      go_wp2_with fail
      clear hlk
      (try clear k00);(try clear k01);(try clear k02);(try clear k03);(try clear k04);(try clear k05)
      refine(sN w2 wq (fun k=>F k/\k<w.heap.size) F' ob mo2 mv2 ve' t x (.slice ua x.obj.refs.length uc) bQ.out Ld.out HXO.out H0.out HU.out).mono ?_
      intro e w9 hpost
      unfold Cr at hpost
      cases hsx:step t x with
      | error c =>
        rw[hsx] at hpost
        obtain⟨rfl,hb9⟩:=hpost
        have dz:(c==(0:Int))=false:=by rw[beq_eq_false_iff_ne];rcases KX hsx with h|h<;>omega
        have hst:txn s l=.error c:=by rw[HST.out];exact Hu l (k+1) (by rw[HNX.out,<- HX.out];exact hsx)
        have YI:=zh hst
        have T9:=zh (T2.out.step hb9)
        clear hst hb9 hsx
        obtain⟨t10,t11,t12,DI,DJ,DK⟩:=T9.out.JH rfl
        go_wp2_with fail
        have T3:=((T9.out.put 1 0 (.map none) rfl).put 1 1 (.slice none 0 0) rfl).put 1 2 (.map none) rfl
        refine AQ rfl rfl rfl (Al (T3.at1 1 rfl) Tryz.underlying84 rfl AX) ?_
        rw[HR.out]
        unfold Fg
        rw[YI.out]
        exact⟨rfl,T3.under⟩
      | ok t9 =>
        rw[hsx] at hpost
        obtain⟨rfl,F9,ve9,so9,hf9⟩:=hpost
        have hst:steps (l.take (k+1)) s=.ok t9:=by rw[HNX.out,<- HX.out];exact hsx
        have UW:=step_ok Ld.out HXO.out hsx
        have hk9:Kinds w9 km ob:=HKR.out.keep (hf9.keep km HKR.out.lt (by
         rintro(h|h|h|h)
         ·exact Rt.1 h
         ·exact Rt.2.1 h
         ·exact Rt.2.2 h
         ·exact HKR.out.RN bQ.out.own h))
        have HAI:=zh (iy.mk (w2:=w2) (F:=fun k=>F k/\k<w.heap.size) (s:=s) (l:=l) (ob:=ob) (mo:=mo2) (mv:=mv2) (km:=km) (k:=k+1) (wr:=w9) ⟨F9,ve9,t9,hst,UW,so9⟩ hk9)
        clear hst UW hk9 so9 hf9 hsx
        go_wp2
        exact⟨⟨k+1,by omega,by go_num,HAI.out⟩,by simp[intOf];omega⟩
    ·have dk:decide ((k:Int)<l.length)=false:=by simp;omega
     have hkl:k=l.length:=by omega
     rw[hkl,List.take_length] at hsteps
     have YI:=zh (show txn s l=.ok t by rw[HST.out];exact hsteps)
     obtain⟨ua,um,uc,rfl⟩:=Ah Gi.own
     obtain⟨b0,b1,b2⟩:=Gi.box.c3
     have uH:=Gi.ge.1
     have SOF:=zh Gi;have TF:=zh TR
     clear hsteps Gi TR hkr Ru hkl
     obtain⟨t10,t11,t12,DI,DJ,DK⟩:=TF.out.JH rfl
     go_wp2_with fail
     (try clear t00);(try clear t01);(try clear t02);(try clear t10 t11 t12 DI DJ DK)
     clear b0 b1 b2
     have T3:=((TF.out.put 1 0 (.map (some mo2)) rfl).put 1 1 (.slice ua um uc) rfl).put 1 2 (.map (some mv2)) rfl
     refine AQ rfl rfl rfl (Al (T3.at1 1 rfl) Tryz.underlying84 rfl AX) ?_
     rw[HR.out]
     unfold Fg
     rw[YI.out]
     have hkp:∀ k,k≠w.heap.size+1->(((wr.setCell ⟨w.heap.size+1,0,none⟩ (.map (some mo2))).setCell ⟨w.heap.size+1,1,none⟩ (.slice ua um uc)).setCell ⟨w.heap.size+1,2,none⟩ (.map (some mv2))).heap[k]? = wr.heap[k]? :=fun k hk=>by
      rw[zo hk,zo hk,zo hk]
     have Py:wr.heap.size<=(((wr.setCell ⟨w.heap.size+1,0,none⟩ (.map (some mo2))).setCell ⟨w.heap.size+1,1,none⟩ (.slice ua um uc)).setCell ⟨w.heap.size+1,2,none⟩ (.map (some mv2))).heap.size:=by simp only[World.setCell,Array.size_modify];exact Nat.le_refl _
     have hup:=Az SOF.out.own
     have hge:=SOF.out.ge
     have hcl:∀ k,SFo F' mo2 mv2 (.slice ua um uc) k->(F k/\k<w.heap.size)\/(w2.heap.size<=k/\k<wr.heap.size):=by
      rintro k (h|h|h|h)
      ·have:=SOF.out.st.UE;exact .inr (by omega)
      ·have:=SOF.out.st.QW;exact .inr (by omega)
      ·rcases SOF.out.sub k h with h|h
       ·exact .inl h.1
       ·exact .inr h
      ·exact .inr ⟨hup k h,(SOF.out.st.eb k h).1⟩
     refine⟨mo2,mv2,.slice ua um uc,F',rfl,SOF.out.st.keep Py (fun k hk _=>hkp k (by rcases hcl k hk with h|h<;>omega)),fun k hk=>(hcl k hk).imp id (fun h=>by omega),?_,T3.under⟩
     rintro k (h|h|h)
     ·omega
     ·omega
     ·have:=hup k h;omega
end Sto
structure Dq {α : Type} (e:TypeId) (size:Nat) (R:Elem α) (B:Nat) (w:World) (v:Value) (l:List α):Prop where
 row:∃ css:List (List Value),css.length=l.length/\(∀ i (hi:i<l.length) (hi' : i<css.length),css[i].length=size/\R (fun k=>B<=k/\v.ownBlock≠some k) w css[i] l[i])/\w.ownsRow B e size v l.length css.flatten/\∀ u∈css.flatten,u.oneCell' = true
section
variable {α : Type} {e:TypeId} {size B:Nat} {R:Elem α} {w w' : World} {v v' : Value} {l:List α}
theorem Dq.nil (w:World):Dq e size R B w (.slice none 0 0) []:=⟨[],rfl,(fun i hi=>by cases hi),⟨by simp,.inl ⟨rfl,rfl⟩⟩,(fun u hu=>by cases hu)⟩
theorem Dq.keep [Cc R](h:Dq e size R B w v l)(hs:w.heap.size<=w'.heap.size)(hk:∀ k,B<=k->k<w.heap.size->w'.heap[k]? = w.heap[k]?):Dq e size R B w' v l:=by
 obtain⟨css,h1,h2,h3,h4⟩:=h.row
 exact⟨css,h1,fun i hi hi' => ⟨(h2 i hi hi').1,Cc.keep (h2 i hi hi').2 hs fun k hk1 hk2=>hk k hk1.1 hk2⟩,Ar h3 fun k hv=>hk k (Az h3 k hv) (by obtain⟨cur,hc⟩:=Ao h3 hv;exact hc.lt),h4⟩
theorem Dq.lH [Cc R](h:Dq e size R B w v l)(hs:w.heap.size<=w'.heap.size){P:Nat->Prop}(hP:∀ k,v.ownBlock=some k->P k)(hR:∀ cs x,R (fun k=>B<=k/\v.ownBlock≠some k) w cs x->R (fun k=>(B<=k/\v.ownBlock≠some k)/\P k) w cs x)(hk:∀ k,P k->k<w.heap.size->w'.heap[k]? = w.heap[k]?):Dq e size R B w' v l:=by
 obtain⟨css,h1,h2,h3,h4⟩:=h.row
 exact⟨css,h1,fun i hi hi' => ⟨(h2 i hi hi').1,Cc.mono (Cc.keep (hR _ _ (h2 i hi hi').2) hs fun k hk1 hk2=>hk k hk1.2 hk2) fun k hk _=>hk.1⟩,Ar h3 fun k hv=>hk k (hP k hv) (by obtain⟨cur,hc⟩:=Ao h3 hv;exact hc.lt),h4⟩
theorem Dq.below [Cc R](h:Dq e size R B w v l)(hb:Below w.heap.size w w'):Dq e size R B w' v l:=h.keep hb.size fun k _ hl=>hb.block k hl
theorem Dq.setCell [Cc R](h:Dq e size R B w v l){b j:Nat}(hb:b<B)(u:Value):Dq e size R B (w.setCell ⟨b,j,none⟩ u) v l:=
 h.keep (by simp[World.setCell]) fun k hk _=>zo (by show k≠b;omega)
theorem Dq.push [Cc R]{css:List (List Value)}{cs:List Value}{x : α}(h1:css.length=l.length)(h2:∀ i (hi:i<l.length) (hi' : i<css.length),css[i].length=size/\R (fun k=>B<=k/\v.ownBlock≠some k) w css[i] l[i])(h4:∀ u∈css.flatten,u.oneCell' = true)
 (hc:cs.length=size) (hx:R (fun k=>B<=k/\v.ownBlock≠some k) w cs x) (h1c:∀ u∈cs,u.oneCell' = true) (ho:w'.ownsRow B e size v' (l.length+1) (css.flatten++cs)) (hg:w.grownBy w' v.ownBlock) (hv:v'.ownBlock=v.ownBlock\/v'.ownBlock=some w.heap.size):Dq e size R B w' v' (l++[x]):=by
 have key:∀ (c:List Value) (y : α),R (fun k=>B<=k/\v.ownBlock≠some k) w c y->R (fun k=>B<=k/\v'.ownBlock≠some k) w' c y:=by
  intro c y h
  have h0:R (fun k=>(B<=k/\v.ownBlock≠some k)/\k<w.heap.size) w c y:=Cc.mono h fun k hk hl=>⟨hk,hl⟩
  refine Cc.mono (Cc.keep h0 hg.size fun k hk hl=>hg.block k hl fun e=>hk.1.2 e.symm) fun k hk _=>⟨hk.1.1,fun e=>?_⟩
  rcases hv with hv|hv
  ·exact hk.1.2 (hv ▸ e)
  ·rw[hv] at e;cases e;have:=hk.2;omega
 refine⟨css++[cs],by simp[h1],fun i hi hi' => ?_,by rw[List.length_append,List.length_singleton,List.flatten_append,List.flatten_singleton];exact ho,fun u hu=>?_⟩
 ·by_cases hin:i<css.length
  ·rw[List.getElem_append_left hin,List.getElem_append_left (by omega)]
   exact⟨(h2 i (by omega) hin).1,key _ _ (h2 i (by omega) hin).2⟩
  ·have:i=css.length:=by simp at hi';omega
   subst this
   rw[List.getElem_append_right (by omega),List.getElem_append_right (by omega)]
   simp only[h1,Nat.sub_self,List.getElem_cons_zero]
   exact⟨hc,key _ _ hx⟩
 ·rw[List.flatten_append,List.flatten_singleton] at hu
  rcases List.mem_append.1 hu with hu|hu
  ·exact h4 u hu
  ·exact h1c u hu
theorem Dq.list [Cc R](h:Dq e size R B w v l):Dp size R (fun k=>B<=k) w v l:=by
 obtain⟨css,h1,h2,h3,h4⟩:=h.row
 exact Dp.Yw (JX.own h3) rfl h1 (Az h3) fun i hi hi' => ⟨(h2 i hi hi').1,Cc.mono (h2 i hi hi').2 fun k hk _=>hk.1⟩
end
end
section
open Go Go.RowKit Go.Maps
def UY (v:Value):Prop:=∃ a n c,v=.slice a n c/\n<=c
theorem UY.own {w:World}{base size n:Nat}{e:TypeId}{v:Value}{xs:List Value}(h:w.ownsRow base e size v n xs):UY v:=by
 rcases h.2 with ⟨rfl,_⟩|⟨g,cap,cur,rfl,_,_,hnc,_⟩
 ·exact⟨_,_,_,rfl,Nat.le_refl _⟩
 ·exact⟨_,_,_,rfl,hnc⟩
namespace Sto
open Own (Bt Srt BH)
theorem Rj:Nonempty (Qb Tryz.prog 22 64 3 48):=LU (z:=.agg #[.int .i64 0,.slice none 0 0,.string ⟨#[]⟩]) Tryz.underlying22 (by kernel_rfl) rfl (by omega)
theorem UZ:Nonempty (Qb Tryz.prog 24 71 2 32):=LU (z:=.agg #[.string ⟨#[]⟩,.string ⟨#[]⟩]) Tryz.underlying24 (by kernel_rfl) rfl (by omega)
theorem Dr:(Tryz.prog.info? 26).map (·.size)=some 3:=by kernel_rfl
theorem bR {α : Type}{f : α -> ByteArray}{l:List α}(h:Srt f l){L:List ByteArray}(hi:bI L)(hm:∀ k,has f k l=true↔k∈L):L=l.map f:=by
 refine Rb hi ?_ fun x=>?_
 ·unfold bI
  refine List.pairwise_map.2 (List.Pairwise.imp (fun {a b} hab=>?_) h)
  have:=hab
  unfold Bt at this
  rw[ByteArray.toList_eq,ByteArray.toList_eq] at this
  exact this
 ·rw[<- hm,LJ,List.mem_map]
theorem Xh {α : Type}{f : α -> ByteArray}{l:List α}{L:List ByteArray}(hn:L.Nodup)(hm:∀ k,has f k l=true↔k∈L):L.length<=l.length:=by
 have hs:L ⊆ l.map f:=fun k hk=>by
  obtain⟨x,hx,e⟩:=LJ.1 ((hm k).2 hk)
  exact List.mem_map.2 ⟨x,hx,e⟩
 have:=hn.length_le_of_subset hs
 rwa [List.length_map] at this
abbrev sP (B:Nat)(w:World)(v:Value)(l:List Obj):Prop:=Dq 64 3 sw B w v l
abbrev sQ (B:Nat)(w:World)(v:Value)(l:List Val):Prop:=Dq 71 2 sD B w v l
def yJ (v:Value):Prop:=∃ x y z,v=.agg #[x,y,z]/\UY y
def RU (w:World)(s:St)(e:Ending)(w' : World):Prop:=∃ v,e=.returned v/\StV (fun k=>w.heap.size<=k) w' v s/\Below w.heap.size w w' /\ yJ v
theorem Va {w:World}{base n m c k:Nat}{a:Option Addr}{xs:List ByteArray}(h:w.ownsRow base 9 1 (.slice a m c) n (xs.map Value.string))(hk:k<n)(hn:xs.length=n):∃ g o,a=some ⟨g,o,none⟩/\w.cell? ⟨g,o+k,none⟩=some (.string (xs.getD k ⟨#[]⟩)):=by
 subst hn
 obtain⟨a',c',e,hq⟩:=Am.own h
 cases e
 obtain⟨g,o,rfl,hc⟩:=hq.resolve_left (by omega)
 exact⟨g,o,rfl,hc k hk⟩
theorem Le (F:Nat->Prop)(mo mv:Nat)(ve:Value)(s:St)(w:World)(h:StC w F mo mv ve s)(hs:Bw s):
 Calls Tryz.prog 34 #[.agg #[.map (some mo),ve,.map (some mv)]] w (RU w s):=by
 obtain⟨R,hR⟩:∃ R,R=RU w s:=⟨_,rfl⟩
 rw[<- hR]
 obtain⟨ea,ec,rfl⟩:=h.en.len
 obtain⟨f,hf,hfm⟩:=h.om
 obtain⟨g,hg,hgm⟩:=h.vm
 have he1:=hs.e1
 have ho1:=hs.o1
 have hv1:=hs.v1
 have HR:=zh hR;have H:=zh h;have HOK:=zh hs;have HF:=zh hf;have HFM:=zh hfm;have HG:=zh hg;have HGM:=zh hgm
 clear hR h hs hf hfm hg hgm
 have T1:=zh (show Aj w _ [(84,#[.map (some mo),.slice ea s.ents.length ec,.map (some mv)]),(26,#[.slice none 0 0,.slice none 0 0,.slice none 0 0]),(26,#[.slice none 0 0,.slice none 0 0,.slice none 0 0])] from((((Bp.nil w).push 84 #[.map (some mo),.slice ea s.ents.length ec,.map (some mv)]).push 26 #[.slice none 0 0,.slice none 0 0,.slice none 0 0]).push 26 #[.slice none 0 0,.slice none 0 0,.slice none 0 0]).boxes)
 go_enter Tryz.func34,Tryz.ntmps34
 go_upto_region 2 with fail
 generalize (((w.alloc (.cells #[.map (some mo),.slice ea s.ents.length ec,.map (some mv)] 84)).alloc (.cells #[.slice none 0 0,.slice none 0 0,.slice none 0 0] 26)).alloc (.cells #[.slice none 0 0,.slice none 0 0,.slice none 0 0] 26))=w1 at*
 obtain⟨t00,t01,t02⟩:=T1.out.Ev rfl
 go_wp2_with fail
 refine(bN mo _).mono ?_
 rintro e w2 ⟨rfl,hw2⟩
 subst hw2
 have hb2:Below w1.heap.size w1 (w1.alloc (.cells #[.map (some mo)] 81)):=zb
 have hcell:=IJ w1 (.map (some mo)) 81
 have hsm:=((HF.out.below T1.out.under HF.out.lt).below hb2 (HF.out.below T1.out.under HF.out.lt).lt).smap
 have T2:=zh (T1.out.step hb2)
 have HCE:=zh hcell;have HSM:=zh hsm
 clear hb2 hcell hsm
 generalize w1.alloc (.cells #[.map (some mo)] 81)=w2 at*
 go_wp2_with fail
 refine(jq w1.heap.size mo s.objs.length f _ HCE.out HSM.out (by omega) (fun l h1 h2=>?_)).mono ?_
 ·have:=Xh h1 fun k=>by rw[<- HFM.out.Et k];exact h2 k
  omega
 rintro e w3 ⟨v3,L,rfl,hL1,hL2,hL3,hb3⟩
 have hL:=bR HOK.out.os hL2 fun k=>by rw[<- HFM.out.Et k];exact hL3 k
 subst hL
 rw[List.length_map] at hL1
 obtain⟨la,lm,lc,rfl⟩:=Ah hL1
 obtain rfl:=Iu hL1
 have hz32:=hb3.size
 have T3:=zh (T2.out.step hb3);have HL3:=zh hL1
 clear hL1 hL2 hL3 hb3
 (try clear t00 t01 t02)
 go_wp2_with fail
 have hz3:w.heap.size+3<=w2.heap.size:=T2.out.size
 go_loopw [14] (fun i wr=>∃ (k:Nat) (v:Value),k<=s.objs.length/\i=.int .i64 k/\Aj w wr [(84,#[.map (some mo),.slice ea s.ents.length ec,.map (some mv)]),(26,#[.slice none 0 0,.slice none 0 0,.slice none 0 0]),(26,#[v,.slice none 0 0,.slice none 0 0])]/\sP w3.heap.size wr v (s.objs.take k)/\wr.ownsRow w2.heap.size 9 1 (.slice la s.objs.length lc) s.objs.length ((s.objs.map dig).map Value.string)/\w3.heap.size<=wr.heap.size) (fun i _=>s.objs.length-(intOf i).toNat)
 case atStart=>exact⟨0,_,by omega,rfl,T3.out,Dq.nil _,HL3.out,Nat.le_refl _⟩
 case round=>
  obtain⟨k,v,hk,rfl,hbx,hrow,hlr,hzr⟩:=hrel
  have HB:=zh hbx;have HRW:=zh hrow;have HLR:=zh hlr
  clear hbx hrow hlr
  by_cases hlt:k<s.objs.length
  ·have dk:decide ((k:Int)<s.objs.length)=true:=by simp;omega
   obtain⟨o,ho⟩:∃ o,o=s.objs[k]:=⟨_,rfl⟩
   have hmem:o∈s.objs:=by rw[ho];exact List.getElem_mem hlt
   have hlk:=aj HOK.out.os hmem
   obtain⟨sv,e1,e2⟩:=HFM.out.hit hlk
   obtain⟨sa,sc,rfl⟩:=e2.len
   obtain⟨d,hd⟩:∃ d,d=dig o:=⟨_,rfl⟩
   have hds:d.size<=maxLen:=by unfold maxLen;rw[hd,OE];decide
   have hrl:o.refs.length<=4000000:=by have:=(Dv (HOK.out.ok o hmem)).2.2.1;omega
   have hx1:(f d).getD (.agg #[.int .i64 0,.slice none 0 0,.string ⟨#[]⟩])=.agg #[.int .i64 o.kind,.slice sa o.refs.length sc,.string o.data]:=by rw[hd,e1];rfl
   obtain⟨lg,lo,rfl,ce⟩:=Va HLR.out hlt (List.length_map _)
   rw[show(s.objs.map dig).getD k ⟨#[]⟩=d by rw[hd,ho];simp[List.getD_eq_getElem?_getD,hlt]] at ce
   have hsm:=(HF.out.below HB.out.under HF.out.lt).smap
   have HX1:=zh hx1;have HSV:=zh (e2.1.below HB.out.under);have yL:=zh hsm;have HO:=zh ho;have HD:=zh hd;have zde:=zh hmem
   clear hx1 e1 e2 hsm hlk hmem ho hd
   obtain⟨k00,k01,k02⟩:=HB.out.Ev rfl
   obtain⟨k20,k21,k22,Qj,Qk,Ql⟩:=HB.out.jf rfl
   have O1:=zh (show Aj wr _ [(64,#[.int .i64 o.kind,.slice sa o.refs.length sc,.string o.data])] from((Bp.nil wr).push 64 #[.int .i64 o.kind,.slice sa o.refs.length sc,.string o.data]).boxes)
   go_upto_region 6 with (at_lookup;go_must (refine Yv rfl _ _ 81 64 rfl Tryz.underlying81 (.agg #[.int .i64 0,.slice none 0 0,.string ⟨#[]⟩]) (QY _) yL.out rfl d rfl hds ?_);rw[HX1.out])
   clear ce
   (try clear k00 k01 k02);(try clear k20 k21 k22 Qj Qk Ql)
   generalize (wr.alloc (.cells #[.int .i64 o.kind,.slice sa o.refs.length sc,.string o.data] 64))=wa at*
   obtain⟨o00,o01,o02,Ka,Ke,OQ⟩:=O1.out.Hz rfl
   go_wp2_with fail
   refine(Cn (.slice sa o.refs.length sc) o.refs _ (HSV.out.below O1.out.under) hrl).mono ?_
   rintro e wb ⟨v4,rfl,_,hu4,ho4,hb4⟩
   obtain⟨na,nm,nc,rfl⟩:=Ah ho4
   have O2:=zh (O1.out.step hb4);have HO4:=zh ho4
   have hza:wr.heap.size+1<=wa.heap.size:=O1.out.size
   clear hb4 ho4 hu4
   (try clear Ka);(try clear o00);(try clear Ke);(try clear o01);(try clear OQ);(try clear o02)
   obtain⟨o00,o01,o02,Ka,Ke,OQ⟩:=O2.out.Hz rfl
   go_upto_region 7 with fail
   (try clear Ka);(try clear o00);(try clear Ke);(try clear o01);(try clear OQ);(try clear o02)
   have O3:=zh (O2.out.put 0 1 (.slice na nm nc) rfl)
   have HO5:=zh (Ar HO4.out (w':=wb.setCell ⟨wr.heap.size,1,none⟩ (.slice na nm nc)) (fun k hk=>zo (by have:=Az HO4.out k hk;show k≠wr.heap.size;omega)))
   clear HO4
   generalize wb.setCell ⟨wr.heap.size,1,none⟩ (.slice na nm nc)=wc at*
   have hal:Below wc.heap.size wc (wc.alloc (.cells #[.int .i64 o.kind,.slice na nm nc,.string o.data] 64)):=zb
   have hvb:∀ k,v.ownBlock=some k->k<wr.heap.size:=fun k hk=>by
    obtain⟨_,_,_,q,_⟩:=HRW.out.row
    obtain⟨cur,hc⟩:=Ao q hk
    exact hc.lt
   have hrow:=(HRW.out.below O3.out.under).below hal
   obtain⟨css,q1,q2,q3,q4⟩:=hrow.row
   obtain⟨ra,rm,rc,rfl⟩:=Ah q3
   have HO6:=zh (own_below HO5.out hal);have HVB:=zh hvb
   clear hvb
   have HBC:=zh (HB.out.step O3.out.under);have HBD:=zh ((HB.out.step O3.out.under).step hal);have HLC:=zh (own_below (own_below HLR.out O3.out.under) hal)
   have Q1:=zh q1;have Q2:=zh q2;have Q3:=zh q3;have Q4:=zh q4
   have HRN:=zh (EY wc 64 #[.int .i64 o.kind,.slice na nm nc,.string o.data] 3 1 1 rfl)
   have hlen:(s.objs.take k).length=k:=by rw[List.length_take];omega
   clear hrow hal q1 q2 q3 q4
   obtain⟨k20,k21,k22,Qj,Qk,Ql⟩:=HBC.out.jf rfl
   obtain⟨o00,o01,o02⟩:=O3.out.Ev rfl
   go_wp2_with (at_builtin;go_must (refine BG Rj rfl _ _ rfl w3.heap.size (s.objs.take k).length (.slice ra rm rc) css.flatten rfl Q3.out (.slice (some ⟨wc.heap.size,0,none⟩) 1 1) 1 [.int .i64 o.kind,.slice na nm nc,.string o.data] rfl HRN.out (by intro u hu;simp at hu;rcases hu with rfl|rfl|rfl<;>rfl) (by omega) (by omega) (by have:=O3.out.under.size;rw[World.size_alloc];omega) ?_);intro v9 w9 ho9 hg9 hw9;obtain⟨ya,ym,yc,rfl⟩:=Ah ho9;have HB9:=zh (HBD.out.far (O:=w3.heap.size) (by show w.heap.size+3<=_;omega) (Az Q3.out) hg9);have HO9:=zh ho9;have HG9:=zh hg9;have HW9:=zh hw9;clear ho9 hg9 hw9;have y20:w9.cell? ⟨w.heap.size+1+1,0,none⟩=some (.slice ra rm rc):=HB9.out.cell 2 0 rfl rfl;have yM:w9.frozen? ⟨w.heap.size+1+1,0,none⟩=false:=HB9.out.free 2 0 rfl;have y21:w9.cell? ⟨w.heap.size+1+1,1,none⟩=some (.slice none 0 0):=HB9.out.cell 2 1 rfl rfl;have yN:w9.frozen? ⟨w.heap.size+1+1,1,none⟩=false:=HB9.out.free 2 1 rfl;have y22:w9.cell? ⟨w.heap.size+1+1,2,none⟩=some (.slice none 0 0):=HB9.out.cell 2 2 rfl rfl;have yO:w9.frozen? ⟨w.heap.size+1+1,2,none⟩=false:=HB9.out.free 2 2 rfl)
   (try clear yM);(try clear y20);(try clear yN);(try clear y21);(try clear yO);(try clear y22)
   (try clear k00 k01 k02);(try clear k20 k21 k22 Qj Qk Ql)
   have hpush:=Dq.push (R:=sw) (x:=o) Q1.out Q2.out Q4.out (cs:=[.int .i64 o.kind,.slice na nm nc,.string o.data]) rfl ⟨_,rfl,Am.own HO6.out,fun _ k hk=>by
    obtain⟨cur,hc⟩:=Ao HO6.out hk
    have h1:=Az HO6.out k hk
    exact⟨⟨by omega,fun e=>by have:=HVB.out k e;omega⟩,hc.lt⟩⟩ (by intro u hu;simp at hu;rcases hu with rfl|rfl|rfl<;>rfl) HO9.out HG9.out HW9.out
   have htk:s.objs.take k++[o]=s.objs.take (k+1):=by rw[HO.out,List.take_succ_eq_append_getElem hlt]
   rw[htk] at hpush
   have hl9:=Ar HLC.out (fun k hk=>HG9.out.block k (by obtain⟨cur,hc⟩:=Ao HLC.out hk;exact hc.lt) (fun e=>uZ HLC.out Q3.out (by decide) k hk e.symm))
   have hgs:=HG9.out.size
   exact⟨⟨k+1,.slice ya ym yc,by omega,by go_num,HB9.out.put 2 0 (.slice ya ym yc) rfl,hpush.setCell (by omega) _,Ar hl9 (fun k hk=>zo (by have:=Az hl9 k hk;show k≠w.heap.size+2;omega)),by have:=O3.out.under.size;simp only[World.setCell,Array.size_modify];simp only[World.size_alloc] at hgs;omega⟩,by simp[intOf];omega⟩
  ·have dk:decide ((k:Int)<s.objs.length)=false:=by simp;omega
   have hkl:k=s.objs.length:=by omega
   have hrow:=HRW.out
   rw[hkl,List.take_length] at hrow
   obtain⟨ra,rm,rc,rfl⟩:∃ a n c,v=.slice a n c:=by obtain⟨_,_,_,q,_⟩:=hrow.row;exact Ah q
   have zaY:=zh hrow
   clear hrow HRW HLR
   obtain⟨k00,k01,k02⟩:=HB.out.Ev rfl
   obtain⟨k20,k21,k22,Qj,Qk,Ql⟩:=HB.out.jf rfl
   go_wp2_with fail
   (try clear k00 k01 k02);(try clear k20 k21 k22 Qj Qk Ql)
   refine(Cn (.slice ea s.ents.length ec) s.ents _ (H.out.en.below HB.out.under) (by omega)).mono ?_
   rintro e wa ⟨v4,rfl,_,_,ho4,hba⟩
   obtain⟨na,nm,nc,rfl⟩:=Ah ho4
   have HBA:=zh (HB.out.step hba);have HO4:=zh ho4;have HRA:=zh (zaY.out.below hba)
   have hza:=hba.size
   clear hba ho4 zaY
   obtain⟨k00,k01,k02⟩:=HBA.out.Ev rfl
   obtain⟨k20,k21,k22,Qj,Qk,Ql⟩:=HBA.out.jf rfl
   go_upto_region 10 with fail
   (try clear k00 k01 k02);(try clear k20 k21 k22 Qj Qk Ql)
   have HBB:=zh (HBA.out.put 2 1 (.slice na nm nc) rfl)
   have HRB:=zh (HRA.out.setCell (b:=w.heap.size+2) (j:=1) (by omega) (.slice na nm nc))
   have HOB:=zh (Ar HO4.out (w':=wa.setCell ⟨w.heap.size+2,1,none⟩ (.slice na nm nc)) (fun k hk=>zo (by have:=Az HO4.out k hk;show k≠w.heap.size+2;omega)))
   have hzb:wa.heap.size=(wa.setCell ⟨w.heap.size+2,1,none⟩ (.slice na nm nc)).heap.size:=by simp only[World.setCell,Array.size_modify]
   have HZB:=zh hzb
   clear HRA HO4 hzb
   generalize wa.setCell ⟨w.heap.size+2,1,none⟩ (.slice na nm nc)=wb at*
   obtain⟨k00,k01,k02⟩:=HBB.out.Ev rfl
   obtain⟨k20,k21,k22,Qj,Qk,Ql⟩:=HBB.out.jf rfl
   go_wp2_with fail
   (try clear k00 k01 k02);(try clear k20 k21 k22 Qj Qk Ql)
   refine(YG mv _).mono ?_
   rintro e wc ⟨rfl,hwc⟩
   subst hwc
   have hbc:Below wb.heap.size wb (wb.alloc (.cells #[.map (some mv)] 82)):=zb
   have hcell:=IJ wb (.map (some mv)) 82
   have hsm:=((HG.out.below HBB.out.under HG.out.lt).below hbc (HG.out.below HBB.out.under HG.out.lt).lt).smap
   have HBC:=zh (HBB.out.step hbc)
   have HCE:=zh hcell;have HSM:=zh hsm;have HRC:=zh (HRB.out.below hbc);have HOC:=zh (own_below HOB.out hbc)
   have hzc:=hbc.size
   clear hbc hcell hsm HRB HOB
   generalize wb.alloc (.cells #[.map (some mv)] 82)=wc at*
   go_wp2_with fail
   refine(bM wb.heap.size mv s.vals.length g _ HCE.out HSM.out (by omega) (fun l h1 h2=>?_)).mono ?_
   ·have:=Xh h1 fun k=>by rw[<- HGM.out.Et k];exact h2 k
    omega
   rintro e wl ⟨v6,L2,rfl,hL1,hL2,hL3,hbl⟩
   have hL:=bR HOK.out.vs hL2 fun k=>by rw[<- HGM.out.Et k];exact hL3 k
   subst hL
   rw[List.length_map] at hL1
   obtain⟨la,lm,lc,rfl⟩:=Ah hL1
   obtain rfl:=Iu hL1
   have HBL:=zh (HBC.out.step hbl);have HL4:=zh hL1;have HRL:=zh (HRC.out.below hbl);have HOL:=zh (own_below HOC.out hbl)
   have hzl:=hbl.size
   clear hL1 hL2 hL3 hbl HRC HOC
   go_wp2_with fail
   have hz4:w3.heap.size<=wl.heap.size:=by have:=HZB.out;omega
   go_loopw [42] (fun i wr=>∃ (k:Nat) (v:Value),k<=s.vals.length/\i=.int .i64 k/\Aj w wr [(84,#[.map (some mo),.slice ea s.ents.length ec,.map (some mv)]),(26,#[.slice none 0 0,.slice none 0 0,.slice none 0 0]),(26,#[.slice ra rm rc,.slice na nm nc,v])]/\sQ wl.heap.size wr v (s.vals.take k)/\(∀ j,w3.heap.size<=j->j<wl.heap.size->wr.heap[j]? = wl.heap[j]?)/\wl.heap.size<=wr.heap.size) (fun i _=>s.vals.length-(intOf i).toNat)
   case atStart=>exact⟨0,_,by omega,rfl,HBL.out,Dq.nil _,fun _ _ _=>rfl,Nat.le_refl _⟩
   case round=>
    obtain⟨k,v,hk,rfl,hbx,hrow,hkeep,hzr⟩:=hrel
    have HX:=zh hbx;have HRW:=zh hrow;have HKP:=zh hkeep
    clear hbx hrow hkeep
    have zdf:w.heap.size+3<=w3.heap.size:=by omega
    by_cases hlt:k<s.vals.length
    ·have dk:decide ((k:Int)<s.vals.length)=true:=by simp;omega
     obtain⟨x,hx⟩:∃ x,x=s.vals[k]:=⟨_,rfl⟩
     have hmem:x∈s.vals:=by rw[hx];exact List.getElem_mem hlt
     have hlk:=aj HOK.out.vs hmem
     have hgx:=HGM.out x.name
     rw[hlk] at hgx
     have hns:x.name.size<=maxLen:=by
      have:=HOK.out.vk x hmem
      unfold Jd EU at this
      simp only[Bool.and_eq_true,decide_eq_true_eq] at this
      unfold maxLen;omega
     have hx1:(g x.name).getD (.string ⟨#[]⟩)=.string x.data:=by rw[hgx];rfl
     have hlr:=Ar HL4.out (w':=wr) (fun j hj=>HKP.out j (by have:=Az HL4.out j hj;have:=HZB.out;omega) (by obtain⟨cur,hc⟩:=Ao HL4.out hj;exact hc.lt))
     obtain⟨lg,lo,rfl,ce⟩:=Va hlr hlt (List.length_map _)
     rw[show(s.vals.map Val.name).getD k ⟨#[]⟩=x.name by rw[hx];simp[List.getD_eq_getElem?_getD,hlt]] at ce
     have hsm:=(HG.out.below HX.out.under HG.out.lt).smap
     have zs:∀ w,(zeroValue 9).run Tryz.prog w=.ok (.string ⟨#[]⟩) w:=fun w=>by kernel_rfl
     have hal:Below wr.heap.size wr (wr.alloc (.cells #[.string x.name,.string x.data] 71)):=zb
     have hvb:∀ k,v.ownBlock=some k->k<wr.heap.size:=fun k hk=>by
      obtain⟨_,_,_,q,_⟩:=HRW.out.row
      obtain⟨cur,hc⟩:=Ao q hk
      exact hc.lt
     obtain⟨css,q1,q2,q3,q4⟩:=(HRW.out.below hal).row
     obtain⟨qa,qm,qc,rfl⟩:=Ah q3
     have HX1:=zh hx1;have yL:=zh hsm;have HXE:=zh hx;have ZS:=zh zs;have HXD:=zh (HX.out.step hal)
     have Q1:=zh q1;have Q2:=zh q2;have Q3:=zh q3;have Q4:=zh q4
     have HRN:=zh (EY wr 71 #[.string x.name,.string x.data] 2 1 1 rfl)
     have hlen:(s.vals.take k).length=k:=by rw[List.length_take];omega
     have HAL:=zh hal
     clear hx1 hgx hlk hmem hsm hx zs hal hvb q1 q2 q3 q4 hlr
     obtain⟨k00,k01,k02⟩:=HX.out.Ev rfl
     obtain⟨k20,k21,k22,Qj,Qk,Ql⟩:=HX.out.jf rfl
     go_wp2_with (first|(at_lookup;go_must (refine Yv rfl _ _ 82 9 rfl Tryz.underlying82 (.string ⟨#[]⟩) (ZS.out _) yL.out rfl x.name rfl hns ?_);rw[HX1.out])|(at_builtin;go_must (refine BG UZ rfl _ _ rfl wl.heap.size (s.vals.take k).length (.slice qa qm qc) css.flatten rfl Q3.out (.slice (some ⟨wr.heap.size,0,none⟩) 1 1) 1 [.string x.name,.string x.data] rfl HRN.out (by intro u hu;simp at hu;rcases hu with rfl|rfl<;>rfl) (by omega) (by omega) (by rw[World.size_alloc];omega) ?_);intro v9 w9 ho9 hg9 hw9;obtain⟨ya,ym,yc,rfl⟩:=Ah ho9;have HB9:=zh (HXD.out.far (O:=wl.heap.size) (by show w.heap.size+3<=_;omega) (Az Q3.out) hg9);have HO9:=zh ho9;have HG9:=zh hg9;have HW9:=zh hw9;clear ho9 hg9 hw9;have y20:w9.cell? ⟨w.heap.size+1+1,0,none⟩=some (.slice ra rm rc):=HB9.out.cell 2 0 rfl rfl;have yM:w9.frozen? ⟨w.heap.size+1+1,0,none⟩=false:=HB9.out.free 2 0 rfl;have y21:w9.cell? ⟨w.heap.size+1+1,1,none⟩=some (.slice na nm nc):=HB9.out.cell 2 1 rfl rfl;have yN:w9.frozen? ⟨w.heap.size+1+1,1,none⟩=false:=HB9.out.free 2 1 rfl;have y22:w9.cell? ⟨w.heap.size+1+1,2,none⟩=some (.slice qa qm qc):=HB9.out.cell 2 2 rfl rfl;have yO:w9.frozen? ⟨w.heap.size+1+1,2,none⟩=false:=HB9.out.free 2 2 rfl))
     (try clear yM);(try clear y20);(try clear yN);(try clear y21);(try clear yO);(try clear y22)
     (try clear k00 k01 k02);(try clear k20 k21 k22 Qj Qk Ql)
     have hpush:=Dq.push (R:=sD) (x:=x) Q1.out Q2.out Q4.out (cs:=[.string x.name,.string x.data]) rfl rfl (by intro u hu;simp at hu;rcases hu with rfl|rfl<;>rfl) HO9.out HG9.out HW9.out
     have htk:s.vals.take k++[x]=s.vals.take (k+1):=by rw[HXE.out,List.take_succ_eq_append_getElem hlt]
     rw[htk] at hpush
     have hgs:=HG9.out.size
     refine⟨⟨k+1,.slice ya ym yc,by omega,by go_num,HB9.out.put 2 2 (.slice ya ym yc) rfl,hpush.setCell (by omega) _,fun j h1 h2=>?_,by simp only[World.setCell,Array.size_modify];simp only[World.size_alloc] at hgs;omega⟩,by simp[intOf];omega⟩
     rw[zo (by show j≠w.heap.size+2;omega),HG9.out.block j (by simp only[World.size_alloc];omega) (fun e=>by have:=Az Q3.out j e.symm;omega),HAL.out.block j (by omega)]
     exact HKP.out j h1 h2
    ·have dk:decide ((k:Int)<s.vals.length)=false:=by simp;omega
     have hkl:k=s.vals.length:=by omega
     have hrow:=HRW.out
     rw[hkl,List.take_length] at hrow
     obtain⟨qa,qm,qc,rfl⟩:∃ a n c,v=.slice a n c:=by obtain⟨_,_,_,q,_⟩:=hrow.row;exact Ah q
     have HRV:=zh hrow
     clear hrow HRW
     obtain⟨k10,k11,k12,zcc,zcd,zce⟩:=HX.out.JH rfl
     obtain⟨k20,k21,k22,Qj,Qk,Ql⟩:=HX.out.jf rfl
     go_wp2_with fail
     (try clear k00 k01 k02);(try clear k10 k11 k12 zcc zcd zce);(try clear k20 k21 k22 Qj Qk Ql)
     have T9:=((HX.out.put 1 0 (.slice ra rm rc) rfl).put 1 1 (.slice na nm nc) rfl).put 1 2 (.slice qa qm qc) rfl
     refine UF rfl rfl (Al (T9.at1 1 rfl) Tryz.underlying26 rfl Dr) ?_
     rw[HR.out]
     have hb1:w.heap.size+1<w3.heap.size:=by omega
     have ro:=(((HRL.out.keep (w':=wr) hzr fun j h1 h2=>HKP.out j h1 h2).setCell (j:=0) hb1 (.slice ra rm rc)).setCell (j:=1) hb1 (.slice na nm nc)).setCell (j:=2) hb1 (.slice qa qm qc)
     have rv:=((HRV.out.setCell (b:=w.heap.size+1) (j:=0) (by omega) (.slice ra rm rc)).setCell (b:=w.heap.size+1) (j:=1) (by omega) (.slice na nm nc)).setCell (b:=w.heap.size+1) (j:=2) (by omega) (.slice qa qm qc)
     have re:=Ar HOL.out (w':=((wr.setCell ⟨w.heap.size+1,0,none⟩ (.slice ra rm rc)).setCell ⟨w.heap.size+1,1,none⟩ (.slice na nm nc)).setCell ⟨w.heap.size+1,2,none⟩ (.slice qa qm qc)) (fun j hj=>by
      have h1:=Az HOL.out j hj
      have h2:j<wl.heap.size:=by obtain⟨cur,hc⟩:=Ao HOL.out hj;exact hc.lt
      have h3:j≠w.heap.size+1:=by omega
      rw[zo h3,zo h3,zo h3]
      exact HKP.out j (by omega) h2)
     refine⟨_,rfl,⟨_,_,_,rfl,ro.list.mono fun k hk _=>?_,⟨Am.own re,fun _ k hk=>?_⟩,rv.list.mono fun k hk _=>?_⟩,T9.under,_,_,_,rfl,UY.own re⟩
     ·have hk2:w3.heap.size<=k:=hk
      show w.heap.size<=k
      omega
     ·obtain⟨cur,hc⟩:=Ao re hk
      have:=Az re k hk
      exact⟨by show w.heap.size<=k;omega,hc.lt⟩
     ·have hk2:wl.heap.size<=k:=hk
      show w.heap.size<=k
      omega
end Sto
namespace Sto
open Own (Bt Srt BH)
theorem yP {w w' : World}{b g:Nat}{t:TypeId}{cs:Array Value}(h:Lib.OthersKept 5 (some b) w w')(ha:At w g t cs)(hg:g≠b)(ht:t≠5):At w' g t cs:=
 h g _ ha (by simpa using hg) (fun c fz e=>by cases e;exact ht rfl)
theorem Vb (w:World)(s:ByteArray)(c:Nat):Am (w.alloc (.cells #[.string s] 9)) (.slice (some ⟨w.heap.size,0,none⟩) 1 c) [s]:=
 ⟨_,_,rfl,.inr ⟨_,_,rfl,fun j hj => by
   match j,hj with
   | 0,_=>exact IJ w (.string s) 9⟩⟩
theorem bS (w:World)(s t:ByteArray)(c:Nat):Am (w.alloc (.cells #[.string s,.string t] 9)) (.slice (some ⟨w.heap.size,0,none⟩) 2 c) [s,t]:=
 ⟨_,_,rfl,.inr ⟨_,_,rfl,fun j hj => by
   have h:=At.new w 9 #[.string s,.string t]
   match j,hj with
   | 0,_=>exact(h.cell 0).trans rfl
   | 1,_=>exact(h.cell 1).trans rfl⟩⟩
theorem lJ {o:Obj}(h:okO o=true):encR o=.tuple #[.string (BJ o),.int .i64 0]:=by unfold encR;rw[if_pos h]
theorem OT (l:List SOp)(k:Nat)(h:k<l.length):Cod.cat ((l.take (k+1)).map Bv)=Cod.cat ((l.take k).map Bv)++Bv l[k]:=by
 have key:∀ (a:List ByteArray) (x:ByteArray),Cod.cat (a++[x])=Cod.cat a++x:=by
  intro a x
  induction a with
  | nil=>show x++⟨#[]⟩=⟨#[]⟩++x;rw[KI,Nk]
  | cons y a ih=>show y++Cod.cat (a++[x])=(y++Cod.cat a)++x;rw[ih,ByteArray.append_assoc]
 rw[List.take_succ_eq_append_getElem h,List.map_append,List.map_cons,List.map_nil,key]
theorem YK {x:SOp}(h:D6 x=true):(Bv x).size<=200000:=by
 obtain⟨f1,f2⟩:=WJ h
 have h1:=Cod.Cu x.kind.toNat
 have h2:=Qe (Mg x) 80000 f2
 have h3:=Cod.Cu (Mg x).length
 unfold Bv Cod.texts
 rw[Sha.Ab,Sha.Ab]
 have h4:(80000+10)*(Mg x).length<=80010*2:=Nat.mul_le_mul (Nat.le_refl _) f1
 omega
theorem bT {l:List SOp}(h:∀ x∈l,D6 x=true):(Cod.cat (l.map Bv)).size<=200000*l.length:=by
 induction l with
 | nil=>exact Nat.zero_le _
 | cons x l ih =>
   have h1:=YK (h x List.mem_cons_self)
   have h2:=ih fun y hy=>h y (List.mem_cons_of_mem _ hy)
   show(Bv x++Cod.cat (l.map Bv)).size<=_
   rw[Sha.Ab,List.length_cons]
   omega
theorem bU (F:Nat->Prop)(v:Value)(l:List SOp)(w:World)(h:Nt F w v l)(hok:∀ x∈l,D6 x=true)(hl:l.length<=1000000):
 Calls Tryz.prog 68 #[v] w fun e w' => e=.returned (.string (Ca l))/\Below w.heap.size w w':=by
 obtain⟨a,c,rfl⟩:=h.len
 obtain⟨T,hT⟩:∃ T,T=Ca l:=⟨_,rfl⟩
 rw[<- hT]
 have H:=zh h;have HOK:=zh hok;have HT:=zh hT;have HSZ:=zh (bT hok)
 clear h hok hT
 go_enter Tryz.func68,Tryz.ntmps68
 go_wp2_with fail
 refine(Ri l.length _ (by omega)).mono ?_
 rintro e w1 ⟨rfl,hb1⟩
 have HBL:=zh ((Cm.new w).below hb1)
 have HBW:=zh (((Below.refl w.heap.size w).alloc (Nat.le_refl _) (.cells #[.pointer none,.slice none 0 0] 118)).trans (hb1.mono (by simp)))
 clear hb1
 obtain⟨u,hu2⟩:∃ u,u=Cod.uns l.length:=⟨_,rfl⟩
 have hu:=Cod.Cu l.length
 rw[<- hu2] at hu ⊢
 have HU:=zh hu2
 clear hu2
 go_wp2_with fail
 refine(aZ w.heap.size ⟨#[]⟩ u _ HBL.out (by show 0+u.size<=_;omega)).mono ?_
 rintro e w2 ⟨rfl,h2,hb2⟩
 rw[Nk] at h2
 have H2:=zh h2;have sj:=zh (HBW.out.trans hb2);clear h2 hb2
 go_wp2
 go_loopw [14] (fun i wr=>∃ k:Nat,k<=l.length/\i=.int .i64 k/\Cm wr w.heap.size (u++Cod.cat ((l.take k).map Bv))/\Below w.heap.size w wr) (fun i _=>l.length-(intOf i).toNat)
 case atStart=>exact⟨0,by omega,rfl,by rw[List.take_zero];show Cm _ _ (u++⟨#[]⟩);rw[KI];exact H2.out,sj.out⟩
 case round=>
  obtain⟨k,hk,rfl,hbl,hbw⟩:=hrel
  have yQ:=zh hbl;have HB:=zh hbw
  clear hbl hbw
  by_cases hlt:k<l.length
  ·have dk:decide ((k:Int)<l.length)=true:=by simp;omega
   obtain⟨b,o,v',ha,hbl,e0,e1,e2,e3,e4,e5,hu9⟩:=Nt.cells H.out hlt
   subst ha
   replace e0:=(HB.out.cell (p:=⟨b,o+k*6,none⟩) hbl).trans e0
   replace e1:=(HB.out.cell (p:=⟨b,o+k*6+1,none⟩) hbl).trans e1
   replace e2:=(HB.out.cell (p:=⟨b,o+k*6+2,none⟩) hbl).trans e2
   replace e3:=(HB.out.cell (p:=⟨b,o+k*6+3,none⟩) hbl).trans e3
   replace e4:=(HB.out.cell (p:=⟨b,o+k*6+4,none⟩) hbl).trans e4
   replace e5:=(HB.out.cell (p:=⟨b,o+k*6+5,none⟩) hbl).trans e5
   obtain⟨x,hx⟩:∃ x,x=l[k]:=⟨_,rfl⟩
   have hxo:D6 x=true:=by rw[hx];exact HOK.out _ (List.getElem_mem hlt)
   rw[<- hx] at e0 e1 e2 e3 e5 hu9
   obtain⟨ua,uc,rfl⟩:=hu9.len
   obtain⟨Y,hY⟩:∃ Y,Y=u++Cod.cat ((l.take k).map Bv):=⟨_,rfl⟩
   have yR:=yQ.out
   rw[<- hY] at yR
   have hYz:Y.size<=200000000100:=by
    have h1:=bT (l:=l.take k) (fun y hy=>HOK.out y (List.mem_of_mem_take hy))
    have h2:(l.take k).length<=1000000:=by rw[List.length_take];omega
    rw[hY,Sha.Ab]
    have:=Nat.mul_le_mul_left 200000 h2
    omega
   obtain⟨f1,f2⟩:=WJ hxo
   have hys:(Cod.texts (Mg x)).size<=400000:=by
    have h2:=Qe (Mg x) 80000 f2
    have h3:=Cod.Cu (Mg x).length
    have h4:(80000+10)*(Mg x).length<=80010*2:=Nat.mul_le_mul (Nat.le_refl _) f1
    unfold Cod.texts
    rw[Sha.Ab]
    omega
   have hkd:=RF hxo
   have hkn:((x.kind.toNat:Nat):Int)=x.kind:=by omega
   have gL:=fun W=>Ri x.kind.toNat W (by omega)
   rw[hkn] at gL
   have HX:=zh hx;have HXO:=zh hxo;have HU9:=zh hu9.1;have HY:=zh hY;have HYB:=zh yR;have HYZ:=zh hYz;have HFZ:=zh f2;have HYS:=zh hys;have zcf:=zh gL
   have yT:Below wr.heap.size wr (wr.alloc (.cells #[.int .i64 x.kind,.string x.name,.string x.data,.int .i64 x.obj.kind,.slice ua x.obj.refs.length uc,.string x.obj.data] 77)):=zb
   have hat:=At.new wr 77 #[.int .i64 x.kind,.string x.name,.string x.data,.int .i64 x.obj.kind,.slice ua x.obj.refs.length uc,.string x.obj.data]
   have hbn:w.heap.size<wr.heap.size:=HYB.out.lt
   clear hx hxo hu9 hY yR hYz f1 f2 hys hkn gL yQ
   have HAT:=zh hat;have HB3:=zh (HB.out.trans (yT.mono HB.out.size));have zcg:=zh (HYB.out.below yT)
   have o0:=HAT.out.c1
   clear hat yT
   go_upto_region 6 with fail
   clear e0 e1 e2 e3 e4 e5
   generalize wr.alloc (.cells #[.int .i64 x.kind,.string x.name,.string x.data,.int .i64 x.obj.kind,.slice ua x.obj.refs.length uc,.string x.obj.data] 77)=w3 at*
   go_wp2_with fail
   refine(zcf.out _).mono ?_
   rintro e w4 ⟨rfl,hb4⟩
   have zch:=zh (HAT.out.below hb4 HAT.out.lt);have zci:=zh (zcg.out.below hb4);have HB4:=zh (HB3.out.trans (hb4.mono HB3.out.size))
   have hn1:=Cod.Cu x.kind.toNat
   obtain⟨n1,yU⟩:∃ n,n=Cod.uns x.kind.toNat:=⟨_,rfl⟩
   rw[<- yU] at hn1 ⊢
   have HN1:=zh yU
   clear yU hb4 o0
   go_wp2_with fail
   refine(zbW w.heap.size Y n1 _ zci.out (by have:=HYZ.out;omega)).mono ?_
   rintro e w5 ⟨rfl,h5,hb5,hk5⟩
   have zcj:=zh (yP hk5 zch.out (by omega) (by decide));have vJ:=zh h5;have HB5:=zh (HB4.out.trans hb5)
   have JZ:Mg x=if x.kind=0 then [BJ x.obj] else if x.kind=1 then [x.name] else if x.kind=2 then [x.data] else [x.name,x.data]:=rfl
   obtain⟨o0,o1,o2,o3,o4,o5⟩:=zcj.out.c6
   clear h5 hb5 hk5
   rcases hkd with h0|h1|h2|h3
   ·have d0:(x.kind==0)=true:=by rw[h0];rfl
    rw[if_pos h0] at JZ
    have hoo:okO x.obj=true:=by
     have:=HXO.out
     unfold D6 at this
     rwa [if_pos h0] at this
    have HFL:=zh JZ;have HOO:=zh hoo
    clear JZ hoo h0
    go_wp2_with fail
    refine(KZ x.obj (.slice ua x.obj.refs.length uc) _ (HU9.out.below HB5.out) (Eu HOO.out)).mono ?_
    rintro e w6 ⟨rfl,hb6⟩
    rw[lJ HOO.out]
    have HB6:=zh (HB5.out.trans (hb6.mono HB5.out.size));have jA:=zh (vJ.out.below hb6)
    clear hb6 o0 o1 o2 o3 o4 o5
    obtain⟨eo,heo⟩:∃ z,z=BJ x.obj:=⟨_,rfl⟩
    rw[<- heo] at HFL ⊢
    clear heo
    go_wp2_with fail
    have hal:Below w6.heap.size w6 (w6.alloc (.cells #[.string eo] 9)):=zb
    have hfl:Mg x=[eo]:=HFL.out
    have hfz:=HFZ.out
    rw[hfl] at hfz
    have htz:(Cod.texts [eo]).size<=400000:=by have:=HYS.out;rw[hfl] at this;exact this
    refine(Di _ [eo] _ (Vb w6 eo 1) (fun y hy=>by have:=hfz y hy;omega) (by simp) (by omega)).mono ?_
    rintro e w7 ⟨rfl,hb7⟩
    have B7:=zh ((HB6.out.trans (hal.mono HB6.out.size)).trans (hb7.mono (Nat.le_trans HB6.out.size hal.size)))
    have BL7:=zh ((jA.out.below hal).below hb7)
    have jB:=zh hfl
    clear hal hfl hfz hb7
    obtain⟨t,ht⟩:∃ t,t=Cod.texts [eo]:=⟨_,rfl⟩
    rw[<- ht] at htz ⊢
    have HTT:=zh ht
    clear ht
    go_wp2_with fail
    refine(aZ w.heap.size _ t _ BL7.out (by rw[Sha.Ab];have:=HYZ.out;omega)).mono ?_
    rintro e w8 ⟨rfl,h8,hb8⟩
    have hfin:Cm w8 w.heap.size (u++Cod.cat ((l.take (k+1)).map Bv)):=by
     have e1:u++Cod.cat ((l.take (k+1)).map Bv)=(Y++n1)++t:=by
      rw[OT l k hlt,<- HX.out,<- ByteArray.append_assoc,<- HY.out]
      unfold Bv
      rw[jB.out,<- HTT.out,<- HN1.out,ByteArray.append_assoc]
     rw[e1]
     exact h8
    have Eh:=zh hfin;have B8:=zh (B7.out.trans hb8)
    clear hfin h8 hb8
    go_wp2
    exact⟨⟨k+1,by omega,by go_num,Eh.out,B8.out⟩,by simp[intOf];omega⟩
   ·have d0:(x.kind==0)=false:=by rw[h1];rfl
    have d1:(x.kind==1)=true:=by rw[h1];rfl
    rw[if_neg (by omega),if_pos h1] at JZ
    have HFL:=zh JZ;have HB6:=HB5;have jA:=vJ
    clear JZ h1
    go_wp2_with fail
    clear o0 o1 o2 o3 o4 o5
    have hal:Below w5.heap.size w5 (w5.alloc (.cells #[.string x.name] 9)):=zb
    have hfl:Mg x=[x.name]:=HFL.out
    have hfz:=HFZ.out
    rw[hfl] at hfz
    have htz:(Cod.texts [x.name]).size<=400000:=by have:=HYS.out;rw[hfl] at this;exact this
    refine(Di _ [x.name] _ (Vb w5 x.name 1) (fun y hy=>by have:=hfz y hy;omega) (by simp) (by omega)).mono ?_
    rintro e w7 ⟨rfl,hb7⟩
    have B7:=zh ((HB6.out.trans (hal.mono HB6.out.size)).trans (hb7.mono (Nat.le_trans HB6.out.size hal.size)))
    have BL7:=zh ((jA.out.below hal).below hb7)
    have jB:=zh hfl
    clear hal hfl hfz hb7
    obtain⟨t,ht⟩:∃ t,t=Cod.texts [x.name]:=⟨_,rfl⟩
    rw[<- ht] at htz ⊢
    have HTT:=zh ht
    clear ht
    go_wp2_with fail
    refine(aZ w.heap.size _ t _ BL7.out (by rw[Sha.Ab];have:=HYZ.out;omega)).mono ?_
    rintro e w8 ⟨rfl,h8,hb8⟩
    have hfin:Cm w8 w.heap.size (u++Cod.cat ((l.take (k+1)).map Bv)):=by
     have e1:u++Cod.cat ((l.take (k+1)).map Bv)=(Y++n1)++t:=by
      rw[OT l k hlt,<- HX.out,<- ByteArray.append_assoc,<- HY.out]
      unfold Bv
      rw[jB.out,<- HTT.out,<- HN1.out,ByteArray.append_assoc]
     rw[e1]
     exact h8
    have Eh:=zh hfin;have B8:=zh (B7.out.trans hb8)
    clear hfin h8 hb8
    go_wp2
    exact⟨⟨k+1,by omega,by go_num,Eh.out,B8.out⟩,by simp[intOf];omega⟩
   ·have d0:(x.kind==0)=false:=by rw[h2];rfl
    have d1:(x.kind==1)=false:=by rw[h2];rfl
    have d2:(x.kind==2)=true:=by rw[h2];rfl
    rw[if_neg (by omega),if_neg (by omega),if_pos h2] at JZ
    have HFL:=zh JZ;have HB6:=HB5;have jA:=vJ
    clear JZ h2
    go_wp2_with fail
    clear o0 o1 o2 o3 o4 o5
    have hal:Below w5.heap.size w5 (w5.alloc (.cells #[.string x.data] 9)):=zb
    have hfl:Mg x=[x.data]:=HFL.out
    have hfz:=HFZ.out
    rw[hfl] at hfz
    have htz:(Cod.texts [x.data]).size<=400000:=by have:=HYS.out;rw[hfl] at this;exact this
    refine(Di _ [x.data] _ (Vb w5 x.data 1) (fun y hy=>by have:=hfz y hy;omega) (by simp) (by omega)).mono ?_
    rintro e w7 ⟨rfl,hb7⟩
    have B7:=zh ((HB6.out.trans (hal.mono HB6.out.size)).trans (hb7.mono (Nat.le_trans HB6.out.size hal.size)))
    have BL7:=zh ((jA.out.below hal).below hb7)
    have jB:=zh hfl
    clear hal hfl hfz hb7
    obtain⟨t,ht⟩:∃ t,t=Cod.texts [x.data]:=⟨_,rfl⟩
    rw[<- ht] at htz ⊢
    have HTT:=zh ht
    clear ht
    go_wp2_with fail
    refine(aZ w.heap.size _ t _ BL7.out (by rw[Sha.Ab];have:=HYZ.out;omega)).mono ?_
    rintro e w8 ⟨rfl,h8,hb8⟩
    have hfin:Cm w8 w.heap.size (u++Cod.cat ((l.take (k+1)).map Bv)):=by
     have e1:u++Cod.cat ((l.take (k+1)).map Bv)=(Y++n1)++t:=by
      rw[OT l k hlt,<- HX.out,<- ByteArray.append_assoc,<- HY.out]
      unfold Bv
      rw[jB.out,<- HTT.out,<- HN1.out,ByteArray.append_assoc]
     rw[e1]
     exact h8
    have Eh:=zh hfin;have B8:=zh (B7.out.trans hb8)
    clear hfin h8 hb8
    go_wp2
    exact⟨⟨k+1,by omega,by go_num,Eh.out,B8.out⟩,by simp[intOf];omega⟩
   ·have d0:(x.kind==0)=false:=by rw[h3];rfl
    have d1:(x.kind==1)=false:=by rw[h3];rfl
    have d2:(x.kind==2)=false:=by rw[h3];rfl
    rw[if_neg (by omega),if_neg (by omega),if_neg (by omega)] at JZ
    have HFL:=zh JZ;have HB6:=HB5;have jA:=vJ
    clear JZ h3
    go_wp2_with fail
    clear o0 o1 o2 o3 o4 o5
    have hal:Below w5.heap.size w5 (w5.alloc (.cells #[.string x.name,.string x.data] 9)):=zb
    have hfl:Mg x=[x.name,x.data]:=HFL.out
    have hfz:=HFZ.out
    rw[hfl] at hfz
    have htz:(Cod.texts [x.name,x.data]).size<=400000:=by have:=HYS.out;rw[hfl] at this;exact this
    refine(Di _ [x.name,x.data] _ (bS w5 x.name x.data 2) (fun y hy=>by have:=hfz y hy;omega) (by simp) (by omega)).mono ?_
    rintro e w7 ⟨rfl,hb7⟩
    have B7:=zh ((HB6.out.trans (hal.mono HB6.out.size)).trans (hb7.mono (Nat.le_trans HB6.out.size hal.size)))
    have BL7:=zh ((jA.out.below hal).below hb7)
    have jB:=zh hfl
    clear hal hfl hfz hb7
    obtain⟨t,ht⟩:∃ t,t=Cod.texts [x.name,x.data]:=⟨_,rfl⟩
    rw[<- ht] at htz ⊢
    have HTT:=zh ht
    clear ht
    go_wp2_with fail
    refine(aZ w.heap.size _ t _ BL7.out (by rw[Sha.Ab];have:=HYZ.out;omega)).mono ?_
    rintro e w8 ⟨rfl,h8,hb8⟩
    have hfin:Cm w8 w.heap.size (u++Cod.cat ((l.take (k+1)).map Bv)):=by
     have e1:u++Cod.cat ((l.take (k+1)).map Bv)=(Y++n1)++t:=by
      rw[OT l k hlt,<- HX.out,<- ByteArray.append_assoc,<- HY.out]
      unfold Bv
      rw[jB.out,<- HTT.out,<- HN1.out,ByteArray.append_assoc]
     rw[e1]
     exact h8
    have Eh:=zh hfin;have B8:=zh (B7.out.trans hb8)
    clear hfin h8 hb8
    go_wp2
    exact⟨⟨k+1,by omega,by go_num,Eh.out,B8.out⟩,by simp[intOf];omega⟩
  ·have dk:decide ((k:Int)<l.length)=false:=by simp;omega
   have hbl:=yQ.out
   rw[List.take_of_length_le (by omega)] at hbl
   have he:u++Cod.cat (l.map Bv)=T:=by rw[HT.out,HU.out];rfl
   rw[he] at hbl
   have HBF:=zh hbl
   clear hbl he
   go_wp2_with fail
   refine(yC w.heap.size T _ HBF.out).mono ?_
   rintro e w4 ⟨rfl,h4,hb4⟩
   have HB4:=zh (HB.out.trans hb4);clear h4 hb4
   go_wp2
   go_ret
   exact⟨rfl,HB4.out⟩
end Sto
namespace Sto
open Own (Bt Srt BH)
theorem Xi {s:St}(h:Bw s):∀ v∈s.vals,v.name.size<=65536/\v.data.size<=65536:=fun v hv=>by
 have h1:=h.vk v hv
 unfold Jd EU at h1
 simp only[Bool.and_eq_true,decide_eq_true_eq] at h1
 omega
theorem Lf (l:List ByteArray)(n m:Nat)(h:∀ x∈l,x.size<=n)(hl:l.length<=m):(Cod.texts l).size<=10+(n+10)*m:=by
 have h1:=Qe l n h
 have h2:=Cod.Cu l.length
 have h3:=Nat.mul_le_mul_left (n+10) hl
 unfold Cod.texts
 rw[Sha.Ab]
 omega
theorem bV {s:St}(h:Bw s):∀ x∈s.objs.map BJ,x.size<=80000:=fun x hx=>by
 obtain⟨o,ho,rfl⟩:=List.mem_map.1 hx
 exact Sto.EI (h.ok o ho)
theorem bW {s:St}(h:Bw s):(Cod.texts (s.objs.map BJ)).size<=90000000/\(Cod.texts s.ents).size<=300000000/\(Cod.texts (Bj s.vals)).size<=200000000:=by
 have h1:=Lf (s.objs.map BJ) 80000 1024 (bV h) (by rw[List.length_map];exact h.o1)
 have h2:=Lf s.ents 65536 4096 h.es h.e1
 have h3:=Lf (Bj s.vals) 65536 2048 (KL (Xi h)) (by rw[Gc];have:=h.v1;omega)
 omega
theorem JL {s:St}(h:Bw s):(Ad s).size<=600000000:=by
 obtain⟨h1,h2,h3⟩:=bW h
 unfold Ad
 rw[Sha.Ab,Sha.Ab]
 omega
theorem YL (l:List Val)(k:Nat)(h:k<l.length):Bj (l.take (k+1))=Bj (l.take k)++[l[k].name,l[k].data]:=by
 unfold Bj
 rw[List.take_succ_eq_append_getElem h,List.flatMap_append]
 rfl
theorem MB (F:Nat->Prop)(mo mv:Nat)(ve:Value)(s:St)(w:World)(h:StC w F mo mv ve s)(hs:Bw s):
 Calls Tryz.prog 128 #[.agg #[.map (some mo),ve,.map (some mv)]] w fun e w' => e=.returned (.string (Ad s))/\Below w.heap.size w w':=by
 obtain⟨ea,ec,rfl⟩:=h.en.len
 obtain⟨T,hT⟩:∃ T,T=Ad s:=⟨_,rfl⟩
 rw[<- hT]
 have ho1:=hs.o1
 have he1:=hs.e1
 have hv1:=hs.v1
 have H:=zh h;have HOK:=zh hs;have HT:=zh hT
 clear h hs hT
 have T1:=zh (show Aj w _ [(84,#[.map (some mo),.slice ea s.ents.length ec,.map (some mv)])] from((Bp.nil w).push 84 #[.map (some mo),.slice ea s.ents.length ec,.map (some mv)]).boxes)
 go_enter Tryz.func128,Tryz.ntmps128
 go_upto_region 1 with fail
 generalize (w.alloc (.cells #[.map (some mo),.slice ea s.ents.length ec,.map (some mv)] 84))=w1 at*
 obtain⟨t00,t01,t02⟩:=T1.out.Ev rfl
 go_wp2_with fail
 refine(Le F mo mv (.slice ea s.ents.length ec) s _ (H.out.below T1.out.under) HOK.out).mono ?_
 rintro e w2 ⟨v,rfl,⟨vo,ve2,vv,rfl,hvo,hve,hvv⟩,hb2,-⟩
 obtain⟨oa,oc,rfl⟩:=hvo.len
 obtain⟨na,nc,rfl⟩:=hve.len
 obtain⟨va,vc,rfl⟩:=hvv.len
 (try clear t00 t01 t02)
 have S1:=zh (show Aj w2 _ [(26,#[.slice oa s.objs.length oc,.slice na s.ents.length nc,.slice va s.vals.length vc])] from((Bp.nil w2).push 26 #[.slice oa s.objs.length oc,.slice na s.ents.length nc,.slice va s.vals.length vc]).boxes)
 have HVO:=zh (hvo.below S1.out.under);have HVE:=zh (hve.below S1.out.under);have HVV:=zh (hvv.below S1.out.under)
 have B2:=zh (T1.out.under.trans (hb2.mono T1.out.under.size))
 clear hvo hve hvv hb2
 go_upto_region 3 with fail
 have hzs:w2.heap.size+1<=((w2.alloc (.cells #[.slice oa s.objs.length oc,.slice na s.ents.length nc,.slice va s.vals.length vc] 26))).heap.size:=S1.out.size
 generalize (w2.alloc (.cells #[.slice oa s.objs.length oc,.slice na s.ents.length nc,.slice va s.vals.length vc] 26))=w3 at*
 obtain⟨t00,t01,t02⟩:=S1.out.Ev rfl
 go_wp2_with fail
 (try clear t00 t01 t02)
 go_loopw [4,17] (fun tl i wr=>∃ k:Nat,k<=s.objs.length/\i=.int .i64 k/\wr.ownsRow w3.heap.size 9 1 tl k (((s.objs.map BJ).take k).map Value.string)/\Below w3.heap.size w3 wr) (fun _ i _=>s.objs.length-(intOf i).toNat)
 case atStart=>exact⟨0,by omega,rfl,⟨rfl,.inl ⟨rfl,rfl⟩⟩,Below.refl _ _⟩
 case round=>
  obtain⟨k,hk,rfl,hrow,hb⟩:=hrel
  obtain⟨ra,rm,rc,rfl⟩:=Ah hrow
  obtain rfl:=Iu hrow
  have HRW:=zh hrow;have HB:=zh hb
  clear hrow hb
  by_cases hlt:rm<s.objs.length
  ·have dk:decide ((rm:Int)<s.objs.length)=true:=by simp;omega
   obtain⟨b,o,u,ha,hbl,e0,e1,e2,hu⟩:=Xc.cells (HVO.out.below HB.out) hlt
   subst ha
   obtain⟨x,hx⟩:∃ x,x=s.objs[rm]:=⟨_,rfl⟩
   have hxo:okO x=true:=by rw[hx];exact HOK.out.ok _ (List.getElem_mem hlt)
   rw[<- hx] at e0 e2 hu
   obtain⟨ua,uc,rfl⟩:=hu.len
   have O1:=zh (show Aj wr _ [(64,#[.int .i64 x.kind,.slice ua x.refs.length uc,.string x.data])] from((Bp.nil wr).push 64 #[.int .i64 x.kind,.slice ua x.refs.length uc,.string x.data]).boxes)
   have HX:=zh hx;have HXO:=zh hxo;have HU:=zh hu
   clear hx hxo hu
   have o00:(wr.alloc (.cells #[.int .i64 x.kind,.slice ua x.refs.length uc,.string x.data] 64)).cell? ⟨wr.heap.size,0,none⟩=some (.int .i64 x.kind):=O1.out.cell 0 0 rfl rfl
   have o01:(wr.alloc (.cells #[.int .i64 x.kind,.slice ua x.refs.length uc,.string x.data] 64)).cell? ⟨wr.heap.size,1,none⟩=some (.slice ua x.refs.length uc):=O1.out.cell 0 1 rfl rfl
   have o02:(wr.alloc (.cells #[.int .i64 x.kind,.slice ua x.refs.length uc,.string x.data] 64)).cell? ⟨wr.heap.size,2,none⟩=some (.string x.data):=O1.out.cell 0 2 rfl rfl
   go_upto_region 6 with fail
   clear e0 e1 e2
   (try clear o00);(try clear o01);(try clear o02)
   generalize (wr.alloc (.cells #[.int .i64 x.kind,.slice ua x.refs.length uc,.string x.data] 64))=wa at*
   obtain⟨o00,o01,o02⟩:=O1.out.Ev rfl
   go_wp2_with fail
   (try clear o00);(try clear o01);(try clear o02)
   refine(KZ x (.slice ua x.refs.length uc) _ (HU.out.1.below O1.out.under) (Eu HXO.out)).mono ?_
   rintro e wb ⟨rfl,hbb⟩
   rw[lJ HXO.out]
   obtain⟨eo,heo⟩:∃ z,z=BJ x:=⟨_,rfl⟩
   rw[<- heo]
   have hal:Below wb.heap.size wb (wb.alloc (.cells #[.string eo] 9)):=zb
   have hbw:Below wr.heap.size wr wb:=O1.out.under.trans (hbb.mono O1.out.under.size)
   have HEO:=zh heo;have HRD:=zh (own_below (own_below HRW.out hbw) hal);have HBD:=zh ((HB.out.trans (hbw.mono HB.out.size)).trans (hal.mono (Nat.le_trans HB.out.size hbw.size)))
   have hzw:=HBD.out.size
   clear heo hal hbw hbb
   go_wp2_with (at_builtin;go_must (refine Rf rfl _ _ rfl w3.heap.size rm (.slice ra rm rc) (((s.objs.map BJ).take rm).map Value.string) rfl HRD.out wb.heap.size 1 eo rfl (IJ wb (.string eo) 9) (by omega) hzw ?_);intro v9 w9 ho9 hg9 _;obtain⟨ya,ym,yc,rfl⟩:=Ah ho9;have HO9:=zh ho9;have HB9:=zh (HBD.out.grown hg9 HBD.out.size (fun j hj=>Az HRD.out j hj));clear ho9 hg9)
   have hfin:w9.ownsRow w3.heap.size 9 1 (.slice ya ym yc) (rm+1) (((s.objs.map BJ).take (rm+1)).map Value.string):=by
    have e:(s.objs.map BJ).take (rm+1)=(s.objs.map BJ).take rm++[eo]:=by
     rw[List.take_succ_eq_append_getElem (by rw[List.length_map];exact hlt),List.getElem_map,<- HX.out,<- HEO.out]
    rw[e,List.map_append]
    exact HO9.out
   have Eh:=zh hfin
   clear hfin HO9
   exact⟨⟨rm+1,by omega,by go_num,Eh.out,HB9.out⟩,by simp[intOf];omega⟩
  ·have dk:decide ((rm:Int)<s.objs.length)=false:=by simp;omega
   have hkl:rm=s.objs.length:=by omega
   have hrow:=HRW.out
   rw[hkl,List.take_of_length_le (by rw[List.length_map];exact Nat.le_refl _)] at hrow
   have HR1:=zh hrow
   have SR:=zh (S1.out.step HB.out);have zck:=zh (HVV.out.below HB.out);have zcl:=zh (HVE.out.below HB.out)
   have hzr:=HB.out.size
   clear hrow HRW
   obtain⟨t00,t01,t02⟩:=SR.out.Ev rfl
   go_wp2_with fail
   (try clear t00 t01 t02)
   have hlim:∀ j,(Value.slice ra rm rc).ownBlock=some j->j<wr.heap.size:=fun j hj=>by
    rw[hkl] at hj
    obtain⟨cur,hc⟩:=Ao HR1.out hj
    exact hc.lt
   have zdg:=zh hlim
   clear hlim
   subst hkl
   obtain⟨wl,hwl⟩:∃ x,x=wr:=⟨_,rfl⟩
   subst hwl
   go_loopw [5,34] (fun tl i wr=>∃ k:Nat,k<=s.vals.length/\i=.int .i64 k/\wr.ownsRow wl.heap.size 9 1 tl (2*k) ((Bj (s.vals.take k)).map Value.string)/\Below wl.heap.size wl wr) (fun _ i _=>s.vals.length-(intOf i).toNat)
   case atStart=>exact⟨0,by omega,rfl,⟨rfl,.inl ⟨rfl,rfl⟩⟩,Below.refl _ _⟩
   case round=>
    obtain⟨j,hj,rfl,hrow,hb⟩:=hrel
    obtain⟨pa,pm,pc,rfl⟩:=Ah hrow
    obtain hpm:=Iu hrow
    have HRW:=zh hrow;have HB2:=zh hb
    clear hrow hb
    by_cases hlv:j<s.vals.length
    ·have dj:decide ((j:Int)<s.vals.length)=true:=by simp;omega
     obtain⟨b,o,ha,hbl,e0,e1⟩:=UD.cells (zck.out.below HB2.out) hlv
     subst ha
     obtain⟨x,hx⟩:∃ x,x=s.vals[j]:=⟨_,rfl⟩
     rw[<- hx] at e0 e1
     have O1:=zh (show Aj wr _ [(71,#[.string x.name,.string x.data])] from((Bp.nil wr).push 71 #[.string x.name,.string x.data]).boxes)
     have HX:=zh hx
     clear hx
     have o00:(wr.alloc (.cells #[.string x.name,.string x.data] 71)).cell? ⟨wr.heap.size,0,none⟩=some (.string x.name):=O1.out.cell 0 0 rfl rfl
     have o01:(wr.alloc (.cells #[.string x.name,.string x.data] 71)).cell? ⟨wr.heap.size,1,none⟩=some (.string x.data):=O1.out.cell 0 1 rfl rfl
     go_upto_region 12 with fail
     clear e0 e1
     (try clear o00);(try clear o01)
     generalize (wr.alloc (.cells #[.string x.name,.string x.data] 71))=wa at*
     obtain⟨o00,o01⟩:=O1.out.vF rfl
     have hal:Below wa.heap.size wa (wa.alloc (.cells #[.string x.name,.string x.data] 9)):=zb
     have HRD:=zh (own_below (own_below HRW.out O1.out.under) hal);have HBD:=zh ((HB2.out.trans (O1.out.under.mono HB2.out.size)).trans (hal.mono (Nat.le_trans HB2.out.size O1.out.under.size)))
     have hzw:=HBD.out.size
     have hv2:2*j+2<=4000000:=by omega
     clear hal
     go_wp2_with (at_builtin;go_must (refine OM rfl _ _ rfl wl.heap.size (2*j) (.slice pa pm pc) ((Bj (s.vals.take j)).map Value.string) rfl HRD.out (.slice (some ⟨wa.heap.size,0,none⟩) 2 2) [x.name,x.data] rfl (bS wa x.name x.data 2) hv2 hzw ?_);intro v9 w9 ho9 hg9 _;obtain⟨ya,ym,yc,rfl⟩:=Ah ho9;have HO9:=zh ho9;have HB9:=zh (HBD.out.grown hg9 HBD.out.size (fun j hj=>Az HRD.out j hj));clear ho9 hg9)
     have hfin:w9.ownsRow wl.heap.size 9 1 (.slice ya ym yc) (2*(j+1)) ((Bj (s.vals.take (j+1))).map Value.string):=by
      rw[YL s.vals j hlv,<- HX.out,List.map_append]
      exact HO9.out
     have Eh:=zh hfin
     clear hfin HO9
     exact⟨⟨j+1,by omega,by go_num,Eh.out,HB9.out⟩,by simp[intOf];omega⟩
    ·have dj:decide ((j:Int)<s.vals.length)=false:=by simp;omega
     have hjl:j=s.vals.length:=by omega
     subst hjl
     have hrow:=HRW.out
     rw[List.take_length,<- hpm] at hrow
     have hvl:(Bj s.vals).length=pm:=by rw[Gc];omega
     have hstr:Am wr (.slice pa (Bj s.vals).length pc) (Bj s.vals):=by
      rw[<- hvl] at hrow
      exact Am.own hrow
     have zaZ:Am wr (.slice ra s.objs.length rc) (s.objs.map BJ):=by
      have h1:=own_below HR1.out HB2.out
      have e1:s.objs.length=(s.objs.map BJ).length:=(List.length_map _).symm
      rw[e1] at h1 ⊢
      exact Am.own h1
     rw[hvl] at hstr
     obtain⟨z1,z2,z3⟩:=bW HOK.out
     have SR2:=zh (SR.out.step HB2.out)
     have c1:=Di (.slice ra s.objs.length rc) (s.objs.map BJ)
     have HS1:=zh zaZ;have HS2:=zh hstr;have HZ:=zh (show _/\_/\_ from⟨z1,z2,z3⟩)
     have HTE:=zh (show T=(Cod.texts (s.objs.map BJ)++Cod.texts s.ents)++Cod.texts (Bj s.vals) by rw[HT.out];unfold Ad;rw[ByteArray.append_assoc])
     clear hrow hstr zaZ z1 z2 z3 c1 hvl hpm
     go_upto_region 14 with fail
     obtain⟨t00,t01,t02⟩:=SR2.out.Ev rfl
     have HI:=zh (zi t01)
     have hsl:w2.heap.size<wr.heap.size:=by have:=SR2.out.size;have h:w2.heap.size+1<=wr.heap.size:=this;omega
     refine Lex.zn (fun i=>i=w2.heap.size) [3] 8 [2,3,3] ?_
     simp only[Lex.Bh,zd]
     go_wp2_with fail
     refine(Di _ (s.objs.map BJ) _ (HS1.out.below (Below.refl wr.heap.size wr).drew) (fun x hx=>by have:=bV HOK.out x hx;omega) (by rw[List.length_map];omega) (by have:=HZ.out.1;omega)).mono ?_
     rintro e w4 ⟨rfl,hb4⟩
     replace hb4:Below wr.heap.size wr w4:=(Below.refl wr.heap.size wr).drew.trans hb4
     obtain⟨X1,hX1⟩:∃ z,z=Cod.texts (s.objs.map BJ):=⟨_,rfl⟩
     obtain⟨X2,hX2⟩:∃ z,z=Cod.texts s.ents:=⟨_,rfl⟩
     obtain⟨X3,hX3⟩:∃ z,z=Cod.texts (Bj s.vals):=⟨_,rfl⟩
     have z1:=HZ.out.1;have z2:=HZ.out.2.1;have z3:=HZ.out.2.2
     have hte:=HTE.out
     rw[<- hX1] at z1
     rw[<- hX2] at z2
     rw[<- hX3] at z3
     rw[<- hX1,<- hX2,<- hX3] at hte
     rw[<- hX1]
     have SR4:=zh (SR2.out.step hb4);have HB4:=zh hb4;have zcm:=zh hte;have HX1:=zh hX1;have HX2:=zh hX2;have HX3:=zh hX3
     clear hb4 hte hX1 hX2 hX3 HTE HZ
     (try clear t00 t01 t02)
     obtain⟨t00,t01,t02⟩:=SR4.out.Ev rfl
     go_wp2
     refine Lex.Mid.intro (fun i hi hl=>by subst hi;exact HB4.out.block _ hl) ?_
     go_wp2_with fail
     refine(Di _ s.ents _ ((zcl.out.1.below HB2.out).below HB4.out) (fun x hx=>by have:=HOK.out.es x hx;omega) (by omega) (by rw[<- HX2.out];omega)).mono ?_
     rintro e w5 ⟨rfl,hb5⟩
     rw[<- HX2.out]
     have HB5:=zh (HB4.out.trans (hb5.mono HB4.out.size))
     clear hb5
     (try clear t00 t01 t02)
     go_wp2
     refine Lex.Mid.intro (fun i hi hl=>by subst hi;exact HB5.out.block _ hl) ?_
     go_wp2_with fail
     refine(Di _ (Bj s.vals) _ (HS2.out.below HB5.out) (fun x hx=>by have:=KL (Xi HOK.out) x hx;omega) (by rw[Gc];omega) (by rw[<- HX3.out];omega)).mono ?_
     rintro e w6 ⟨rfl,hb6⟩
     rw[<- HX3.out]
     have HB6:=zh (HB5.out.trans (hb6.mono HB5.out.size))
     clear hb6
     go_wp2
     refine Lex.Mid.intro (fun i hi hl=>by subst hi;exact HB6.out.block _ hl) ?_
     go_wp2
     refine Lex.zk ⟨⟨rfl,HI.out⟩,trivial⟩ ?_
     go_wp2
     go_ret
     refine⟨by rw[zcm.out];rfl,?_⟩
     have h1:=S1.out.under.trans (HB.out.mono S1.out.under.size)
     have h2:=B2.out.trans (h1.mono B2.out.size)
     have h3:=h2.trans (HB2.out.mono h2.size)
     exact h3.trans (HB6.out.mono h3.size)
end Sto
namespace Sto
section
variable {c:Ac} {e:Nat} {data:ByteArray}
theorem VY {i:Nat}(hc:Calm c)(h8:8<=c.Aa.length)(hi:i<AY c.Aa.length):(begun e data c).read ((Bo c.Aa.length e+i:Nat):Int)=(piece data i,0):=by
 obtain⟨a1,a2,a3⟩:=JC e h8
 have hb:=Nn (e:=e) (data:=data) h8 hi
 rw[Qa (E9 hc) (by rw[Cy];omega) (by rw[hb,Hr]),hb]
theorem ME (hc:Calm c)(h8:8<=c.Aa.length):(begun e data c).read ((e%2:Nat):Int)=(Er e data,0):=by
 have hb:=Uj (e:=e) (data:=data) h8
 rw[Qa (E9 hc) (by rw[Cy];omega) (by rw[hb,JA]),hb]
theorem Vd (hc:Calm c)(h8:8<=c.Aa.length):∀ k,k<=AY c.Aa.length->Es (fun p=>(begun e data c).read p) (Bo c.Aa.length e) k=some (Mw data k)
 | 0,_=>rfl
 | k + 1,h => by
   show(match Es (fun p=>(begun e data c).read p) (Bo c.Aa.length e) k with|none=>none|some b=>if ((begun e data c).read ((Bo c.Aa.length e+k:Nat):Int)).2=0/\((begun e data c).read ((Bo c.Aa.length e+k:Nat):Int)).1.size=512 then some (b++((begun e data c).read ((Bo c.Aa.length e+k:Nat):Int)).1) else none)=_
   rw[Vd hc h8 k (by omega),VY hc h8 (by omega)]
   dsimp only
   rw[if_pos ⟨rfl,Hr _ _⟩]
   rfl
theorem bX (m h:Hd):FI m [h]=if m.epoch<h.epoch then h else m:=rfl
end
theorem nQ {n e:Nat}{rd:Nat->ByteArray × Int}{H:Hd}(hH:Cg n rd (e%2)=some H)(hE:H.epoch=e)(ho:∀ h,Cg n rd (1-e%2)=some h->h.epoch<e):∃ h0 l,Ch n rd 2=h0::l/\FI h0 l=H:=by
 have hl:Ch n rd 2=([]++(Cg n rd 0).toList)++(Cg n rd 1).toList:=rfl
 rw[hl,List.nil_append]
 rcases Nat.mod_two_eq_zero_or_one e with h|h
 ·rw[h] at hH ho
  rw[hH]
  cases h1:Cg n rd 1 with
  | none=>exact⟨H,[],rfl,rfl⟩
  | some g =>
    have:=ho g h1
    exact⟨H,[g],rfl,by rw[bX,if_neg (by omega)]⟩
 ·rw[h] at hH ho
  rw[hH]
  cases h1:Cg n rd 0 with
  | none=>exact⟨H,[],rfl,rfl⟩
  | some g =>
    have:=ho g h1
    exact⟨g,[H],rfl,by rw[bX,if_pos (by omega)]⟩
theorem nR {c:Ac}{e:Nat}{s:St}(hc:Calm c)(h8:8<=c.Aa.length)(h1:1<=e)(h2:e<=4611686018427387903)(hok:Bw s)(hfit:Ai (Ad s).size<AY c.Aa.length)
 (ho:∀ h,Cg c.Aa.length (fun p=>(begun e (Ad s) c).read p) (1-e%2)=some h->h.epoch<e):opn c.Aa.length (fun p=>(begun e (Ad s) c).read p)=.ok (e,s):=by
 have hz:=JL hok
 obtain⟨g1,g2⟩:=kX (n:=c.Aa.length) h1 h2 (data:=Ad s) (by omega) hfit
 have hr:=ME (e:=e) (data:=Ad s) hc h8
 have hH:Cg c.Aa.length (fun p=>(begun e (Ad s) c).read p) (e%2)=some ⟨e,(Ad s).size,Sha.sha (Ad s)⟩:=by
  rw[Uq (by show((begun e (Ad s) c).read ((e%2:Nat):Int)).2=0;rw[hr]) (by show FH _ _ ((begun e (Ad s) c).read ((e%2:Nat):Int)).1;rw[hr];exact g1)]
  show some (Mi ((begun e (Ad s) c).read ((e%2:Nat):Int)).1)=_
  rw[hr,g2]
 obtain⟨h0,l,hl,hm⟩:=nQ hH rfl ho
 have hsn:=Vd (e:=e) (data:=Ad s) hc h8 (Ai (Ad s).size) (by omega)
 have hj:=nD (Ad s)
 rw[aP h8 hl hm hsn (by show Mh ((Mw (Ad s) (Ai (Ad s).size)).extract 0 (Ad s).size)=some s;rw[hj];exact zaH hok) hok (by show Sha.sha ((Mw (Ad s) (Ai (Ad s).size)).extract 0 (Ad s).size)=Sha.sha (Ad s);rw[hj])]
 have hcl:=QI (data:=Ad s) hc h8 h1 (by omega)
 have he:(fun i:Nat=>(fun p:Nat=>(begun e (Ad s) c).read p) (Bo c.Aa.length e+Ai (Ad s).size+i))=FE (begun e (Ad s) c) (Bo c.Aa.length e+Ai (Ad s).size):=by
  funext i
  unfold FE
  dsimp only
  congr 1
 show(match replay (opened e (AY c.Aa.length-Ai (Ad s).size) (fun i:Nat=>(fun p:Nat=>(begun e (Ad s) c).read p) (Bo c.Aa.length e+Ai (Ad s).size+i))).recs s with|none=>(Except.error 9:Except Int (Nat × St))|some t=>.ok (e,t))=_
 rw[he,hcl.opened]
 rfl
theorem nS {c:Ac}{n p:Nat}{s:ByteArray}(h:(c.read p)=(s,0)){x:Hd}(hx:Cg n (fun p=>c.read p) p=some x):x=Mi s:=by
 obtain⟨-,-,e⟩:=QJ hx
 rw[e]
 show Mi (c.read p).1=_
 rw[h]
end Sto
end
section
open Go Go.RowKit Go.Maps
namespace Sto
theorem Lg (n:Nat)(w:World)(h:n<=140737488355328):Calls Tryz.prog 65 #[.string ⟨#[0]⟩,.int .i64 n] w fun e w' => e=.returned (.string (zeros n))/\Below w.heap.size w w' :=
 (Tryz.strings_Repeat ⟨#[0]⟩ n w (by omega) (by show 1*_<=_;omega)).mono fun e w' ⟨he,hb⟩=>⟨he,hb⟩
theorem bY (e:Nat)(data:ByteArray)(w:World)(he:e<9223372036854775808)(hd:data.size<=9223372036854775000):
 Calls Tryz.prog 129 #[.int .i64 e,.string data] w fun x w' => x=.returned (.string (Er e data))/\Below w.heap.size w w':=by
 obtain⟨HD,hHD⟩:∃ z,z=Er e data:=⟨_,rfl⟩
 rw[<- hHD]
 have HHD:=zh hHD
 clear hHD
 go_enter Tryz.func129,Tryz.ntmps129
 go_wp2_with fail
 refine(bO e _ he).mono ?_
 rintro x w1 ⟨rfl,hb1⟩
 have HB1:=zh hb1;clear hb1
 obtain⟨A,hA⟩:∃ z,z=big e 8:=⟨_,rfl⟩
 have zA:A.size<=8:=by rw[hA,Bq];omega
 rw[<- hA]
 have HA:=zh hA;clear hA
 go_wp2_with fail
 refine(bO data.size _ (by omega)).mono ?_
 rintro x w2 ⟨rfl,hb2⟩
 have HB2:=zh (HB1.out.trans (hb2.mono HB1.out.size));clear hb2
 obtain⟨B,hB⟩:∃ z,z=big data.size 8:=⟨_,rfl⟩
 have zB:B.size<=8:=by rw[hB,Bq];omega
 rw[<- hB]
 have HB:=zh hB;clear hB
 go_wp2_with fail
 refine(Dw data _ hd).mono ?_
 rintro x w3 ⟨rfl,hb3⟩
 have HB3:=zh (HB2.out.trans (hb3.mono HB2.out.size));clear hb3
 obtain⟨S,hS⟩:∃ z,z=Sha.sha data:=⟨_,rfl⟩
 have zS:S.size<=32:=by rw[hS,Sha.Bn];omega
 rw[<- hS]
 have HS:=zh hS;clear hS
 go_wp2_with fail
 refine(Lg 432 _ (by omega)).mono ?_
 rintro x w4 ⟨rfl,hb4⟩
 have HB4:=zh (HB3.out.trans (hb4.mono HB3.out.size));clear hb4
 obtain⟨Z,hZ⟩:∃ z,z=zeros 432:=⟨_,rfl⟩
 have zZ:Z.size<=432:=by rw[hZ,BI];omega
 rw[<- hZ]
 have HZ:=zh hZ;clear hZ
 go_wp2_with fail
 refine(Dw _ _ (by simp only[Sha.Ab];show 1+_<=_;omega)).mono ?_
 rintro x w5 ⟨rfl,hb5⟩
 have HB5:=zh (HB4.out.trans (hb5.mono HB4.out.size));clear hb5
 have hbody:A++B++S++Z=Ep e data:=by
  unfold Ep
  rw[<- HA.out,<- HB.out,<- HS.out,<- HZ.out,ByteArray.append_assoc,ByteArray.append_assoc]
 have HBO:=zh hbody;clear hbody
 obtain⟨C,hC⟩:∃ z,z=Sha.sha (⟨#[11]⟩++(A++B++S++Z)):=⟨_,rfl⟩
 have zC:C.size<=32:=by rw[hC,Sha.Bn];omega
 rw[<- hC]
 have HC:=zh hC;clear hC
 go_wp2
 go_ret
 refine⟨?_,HB5.out⟩
 have e1:HD=C++(A++B++S++Z):=by
  rw[HHD.out,HC.out,HBO.out]
  rfl
 rw[e1]
 rfl
end Sto
namespace Sto
def DR (da ep mo:Nat)(ve:Value)(mv:Nat)(jv:Value):Array Value:=#[.pointer (some ⟨da,0,none⟩),.int .i64 ep,.map (some mo),ve,.map (some mv),jv]
def YM (w:World)(sb:Nat)(d:Au)(c:Ac)(ep len mo:Nat)(ve:Value)(mv:Nat)(e:Ending)(w' : World):Prop:=
 ∃ j : Bg,e = .returned (.int .i64 0) ∧ Cq w' j ∧ j.da = d.a ∧ j.first = Bo c.Aa.length ep + Ai len ∧ j.count = AY c.Aa.length - Ai len ∧ j.epoch = ep ∧
   j.recs=(opened ep (AY c.Aa.length-Ai len) (FE c (Bo c.Aa.length ep+Ai len))).recs/\j.next=(opened ep (AY c.Aa.length-Ai len) (FE c (Bo c.Aa.length ep+Ai len))).next/\j.chain=(opened ep (AY c.Aa.length-Ai len) (FE c (Bo c.Aa.length ep+Ai len))).jch/\
   (∀ k,j.foot k->w.heap.size<=k)/\At w' sb 130 (DR d.a ep mo ve mv (.pointer (some ⟨j.jb,0,none⟩)))/\Fr (fun k=>k=sb) w w'
theorem Xj (sb:Nat)(d:Au)(c:Ac)(ep len mo:Nat)(ve:Value)(mv:Nat)(jv:Value)(w:World)(hs:At w sb 130 (DR d.a ep mo ve mv jv))(h:Ak w d c)(hp:c.pending.length<=1000000)(hz:∀ p,(c.read p).1.size<=9223372036854775000)(h8:8<=c.Aa.length)(hep:ep<=4611686018427387903)(hln:len<=9223372036854775000)(hfit:Ai len<AY c.Aa.length)(hv:∃ a n c,ve=.slice a n c)(hj:jv=.pointer none\/∃ p,jv=.pointer (some p)):
 Calls Tryz.prog 55 #[.pointer (some ⟨sb,0,none⟩),.int .i64 len] w (YM w sb d c ep len mo ve mv):=by
 obtain⟨R,hR⟩:∃ R,R=YM w sb d c ep len mo ve mv:=⟨_,rfl⟩
 rw[<- hR]
 obtain⟨va,vn,vc,rfl⟩:=hv
 obtain⟨a1,a2,a3⟩:=JC ep h8
 have hm:=h.most
 have hsl:=hs.lt
 have hst:At w sb 130 #[.pointer (some ⟨d.a,0,none⟩),.int .i64 ep,.map (some mo),.slice va vn vc,.map (some mv),jv]:=hs
 obtain⟨N,hN⟩:∃ N,N=c.Aa.length:=⟨_,rfl⟩
 obtain⟨H0,hH0⟩:∃ z,z=AY N:=⟨_,rfl⟩
 obtain⟨A0,hA0⟩:∃ z,z=Bo N ep:=⟨_,rfl⟩
 obtain⟨P0,hP0⟩:∃ z,z=Ai len:=⟨_,rfl⟩
 rw[<- hN,<- hH0] at a1 a2 hfit
 rw[<- hA0] at a1
 rw[<- hP0] at hfit
 rw[<- hN] at hm h8
 have hAr:=fun W (hW:Ak W d c)=>Qi d c ep W hW (by rw[<- hN];omega) (by omega)
 have hHf:=fun W (hW:Ak W d c)=>GJ d c W hW (by rw[<- hN];omega)
 rw[<- hN,<- hA0] at hAr
 rw[<- hN,<- hH0] at hHf
 have hPg:=fun W=>JJ len W hln
 rw[<- hP0] at hPg
 have HR:=zh hR;have HST:=zh hst;have HDK:=zh h;have HZ:=zh hz;have HAR:=zh hAr;have HHF:=zh hHf;have HPG:=zh hPg;have HN:=zh hN;have HH0:=zh hH0;have HA0:=zh hA0;have HP0:=zh hP0
 have a1' : A0+H0<=N:=a1
 clear hR hst hs h hz hAr hHf hPg hN hH0 hA0 hP0 a1 a3
 have hop:=pW d c (FE c (A0+P0)) (A0+P0) (H0-P0) ep c.Aa.length w.drew rfl (HDK.out.below (Below.refl w.heap.size w).drew (Nat.le_refl _)) (by omega) (by rw[<- HN.out];omega) (by rw[<- HN.out];omega) hep hp HZ.out (fun k=>rfl)
 rw[show((A0+P0:Nat):Int)=(A0:Int)+P0 by omega,show((H0-P0:Nat):Int)=(H0:Int)-P0 by omega] at hop
 have HOP:=zh hop
 clear hop
 have c0:=HST.out.cell 0;have c1:=HST.out.cell 1;have c3:=HST.out.cell 5
 simp only[zg] at c0 c1 c3
 have HI0:=zh (zi c0)
 have HI1:=zh (zi c1)
 go_enter Tryz.func55,Tryz.ntmps55
 go_wp2_with fail
 refine(HPG.out _).mono ?_
 rintro e w1 ⟨rfl,hw1⟩
 subst w1
 go_wp2
 refine Lex.zn (fun i=>i=sb) [3,18,26] 32 [13,7,8] ?_
 simp only[Lex.Bh,zd]
 go_wp2_with fail
 refine(HAR.out _ (HDK.out.below (Below.refl w.heap.size w).drew (Nat.le_refl _))).mono ?_
 rintro e w1 ⟨rfl,hw1⟩
 subst w1
 go_wp2
 refine Lex.Mid.intro (fun i hi hl=>rfl) ?_
 go_wp2_with fail
 refine(HHF.out _ (HDK.out.below (Below.refl w.heap.size w).drew (Nat.le_refl _))).mono ?_
 rintro e w1 ⟨rfl,hw1⟩
 subst w1
 go_wp2
 refine Lex.Mid.intro (fun i hi hl=>rfl) ?_
 go_wp2_with fail
 refine HOP.out.mono ?_
 rintro e w2 ⟨j,rfl,hj,hda,e1,e2,e3,e4,e5,e6,Io,hb⟩
 replace hb:Below w.heap.size w w2:=(Below.refl w.heap.size w).drew.trans hb
 have S2:=zh (HST.out.below hb hsl);have HJ:=zh hj;have HDA:=zh hda;have HE:=zh (show _/\_/\_/\_/\_/\_ from⟨e1,e2,e3,e4,e5,e6⟩);have HFT:=zh Io;have HB:=zh hb
 clear hj hda e1 e2 e3 e4 e5 e6 Io hb c0 c1 c3
 have c5:=S2.out.cell 5;have c5f:=S2.out.free 5
 simp only[zg] at c5
 go_wp2
 refine Lex.Mid.intro (fun i hi hl=>by subst hi;exact HB.out.block _ hl) ?_
 go_wp2
 refine Lex.zk ⟨⟨rfl,HI0.out⟩,⟨rfl,HI0.out⟩,⟨rfl,HI1.out⟩,trivial⟩ ?_
 go_wp2_with fail
 show R (.returned (.int .i64 0)) (w2.setCell ⟨sb,5,none⟩ (.pointer (some ⟨j.jb,0,none⟩)))
 rw[HR.out]
 obtain⟨e1,e2,e3,e4,e5,e6⟩:=HE.out
 have hsb:∀ k,j.foot k->k≠sb:=fun k hk e=>by have h9:w.heap.size<=k:=HFT.out k hk;subst e;exact absurd hsl (by omega)
 unfold YM
 rw[<- HN.out]
 refine⟨j,rfl,HJ.out.keep fun k hk=>heap_setCell_other w2 ⟨sb,5,none⟩ k _ (hsb k hk),HDA.out,?_,?_,e3,?_,?_,?_,HFT.out,?_,Fr.setCell (F:=fun k=>k=sb) (Fr.of_below HB.out) (p:=⟨sb,5,none⟩) (Or.inl rfl) _⟩
 ·rw[<- HA0.out,<- HP0.out];exact e1
 ·rw[<- HH0.out,<- HP0.out];exact e2
 ·rw[<- HH0.out,<- HA0.out,<- HP0.out];exact e4
 ·rw[<- HH0.out,<- HA0.out,<- HP0.out];exact e5
 ·rw[<- HH0.out,<- HA0.out,<- HP0.out];exact e6
 ·have:=S2.out.set 5 (.pointer (some ⟨j.jb,0,none⟩))
  exact this
end Sto
namespace Sto
structure zcn (w1:World) (d:Au) (c:Ac) (first:Nat) (data:ByteArray) (k:Nat) (wr:World):Prop where
 step:∃ d1,DStep w1 wr d d1 { c with pending:=Dy first data k }
def YO (w:World)(sb:Nat)(d:Au)(c:Ac)(ep mo:Nat)(ve:Value)(mv:Nat)(s:St)(e:Ending)(w' : World):Prop:=
 ∃ (j : Bg) (d' : Au),e = .returned (.tuple #[]) ∧ Live w' j d' (begun ep (Ad s) c) ∧ d'.a = d.a ∧ j.first = Bo c.Aa.length ep + Ai (Ad s).size ∧ j.count = AY c.Aa.length - Ai (Ad s).size ∧ j.epoch = ep ∧ j.recs = [] ∧ j.next = 0 ∧
   (∀ k,j.foot k->w.heap.size<=k)/\(∀ k,d'.foot k->d.foot k\/w.heap.size<=k)/\At w' sb 130 (DR d.a ep mo ve mv (.pointer (some ⟨j.jb,0,none⟩)))/\Fr (fun k=>k=sb\/d.foot k) w w'
theorem YP {c:Ac}(h:Calm c):({ c with pending:=[] } : Ac)=c:=by
 have:=h.pend
 cases c
 simp only at this
 subst this
 rfl
theorem Ve (sb:Nat)(d:Au)(c:Ac)(ep0 ep mo:Nat)(ve:Value)(mv:Nat)(jv:Value)(F:Nat->Prop)(s:St)(w:World)(hs:At w sb 130 (DR d.a ep0 mo ve mv jv))(hst:StC w F mo mv ve s)(hok:Bw s)(hd:Ak w d c)(hc:Calm c)(hz:Ga c)
 (hb:¬ d.foot sb) (h8:8<=c.Aa.length) (h1:1<=ep) (h2:ep<=4611686018427387903) (hfit:Ai (Ad s).size<AY c.Aa.length) (hj:jv=.pointer none\/∃ p,jv=.pointer (some p)):
 Calls Tryz.prog 67 #[.pointer (some ⟨sb,0,none⟩),.int .i64 ep] w (YO w sb d c ep mo ve mv s):=by
 obtain⟨R,hR⟩:∃ R,R=YO w sb d c ep mo ve mv s:=⟨_,rfl⟩
 rw[<- hR]
 obtain⟨ea,ec,rfl⟩:=hst.en.len
 have hsl:=hs.lt
 have hm:=hd.most
 have zba:At w sb 130 #[.pointer (some ⟨d.a,0,none⟩),.int .i64 ep0,.map (some mo),.slice ea s.ents.length ec,.map (some mv),jv]:=hs
 have HR:=zh hR;have HST:=zh zba;have HSC:=zh hst;have HOK:=zh hok;have HD:=zh hd;have HC:=zh hc;have HZ:=zh hz;have HB0:=zh hb;have HFI:=zh hfit;have HJ:=zh hj;have H8:=zh h8
 clear hR hst hok hd hc hz hb hfit hj hs zba h8
 have hsn:=MB F mo mv (.slice ea s.ents.length ec) s w HSC.out HOK.out
 have c0:=HST.out.cell 0;have c2:=HST.out.cell 2;have c3:=HST.out.cell 3;have c4:=HST.out.cell 4
 simp only[zg] at c0 c2 c3 c4
 go_enter Tryz.func67,Tryz.ntmps67
 go_wp2_with fail
 refine hsn.mono ?_
 rintro e w1 ⟨rfl,hb1⟩
 obtain⟨D,hD⟩:∃ z,z=Ad s:=⟨_,rfl⟩
 rw[<- hD]
 have hDz:D.size<=600000000:=by rw[hD];exact JL HOK.out
 obtain⟨N,hN⟩:∃ N,N=c.Aa.length:=⟨_,rfl⟩
 obtain⟨H0,hH0⟩:∃ z,z=AY N:=⟨_,rfl⟩
 obtain⟨A0,hA0⟩:∃ z,z=Bo N ep:=⟨_,rfl⟩
 have hd1:=HD.out.below hb1 (Nat.le_refl _)
 obtain⟨ar1,ar2,ar3⟩:=JC ep H8.out
 have hAr:=fun W (hW:Ak W d c)=>Qi d c ep W hW (by have:=H8.out;omega) (by omega)
 have hHf:=fun W (hW:Ak W d c)=>GJ d c W hW (by have:=H8.out;omega)
 rw[<- hN] at hm
 rw[<- hN,<- hA0] at hAr
 rw[<- hN,<- hH0] at hHf
 rw[<- hN,<- hA0,<- hH0] at ar1
 rw[<- hN,<- hH0] at ar2
 have HD1:=zh hd1;have HB1:=zh hb1;have HDD:=zh hD;have HN:=zh hN;have HH0:=zh hH0;have HA0:=zh hA0;have HAR:=zh hAr;have HHF:=zh hHf
 clear hsn hd1 hb1 hD hN hH0 hA0 hAr hHf ar3 c0 c2 c3 c4
 have S1:=zh (HST.out.below HB1.out hsl)
 have c0:=S1.out.c1
 go_wp2_with fail
 refine(HAR.out _ (by first|exact HD1.out|exact HD1.out.below (Below.refl w1.heap.size w1).drew (Nat.le_refl _)|exact HD1.out.below (below_drewN (Below.refl w1.heap.size w1) _) (Nat.le_refl _))).mono ?_
 rintro e w2 ⟨rfl,hw2⟩
 subst w2
 go_wp2_with fail
 refine(HHF.out _ (by first|exact HD1.out|exact HD1.out.below (Below.refl w1.heap.size w1).drew (Nat.le_refl _)|exact HD1.out.below (below_drewN (Below.refl w1.heap.size w1) _) (Nat.le_refl _))).mono ?_
 rintro e w2 ⟨rfl,hw2⟩
 subst w2
 go_wp2_with fail
 clear c0
 go_loopw [24] (fun i wr=>∃ k:Nat,k<=H0/\i=.int .i64 k/\zcn w1 d c A0 D k wr) (fun i _=>H0-(intOf i).toNat)
 case atStart=>
  refine⟨0,Nat.zero_le _,rfl,⟨d,?_⟩⟩
  have e:({ c with pending:=Dy A0 D 0 } : Ac)=c:=YP HC.out
  rw[e]
  exact DStep.refl HD1.out
 case round=>
  obtain⟨k,hk,rfl,⟨dk,hdk⟩⟩:=hrel
  have HDK:=zh hdk
  clear hdk
  have S2:=zh (HDK.out.fr.at S1.out HB0.out)
  by_cases hlt:k<H0
  ·have dd:decide ((k:Int)<H0)=true:=by simp;omega
   obtain⟨M1,hM1⟩:∃ z,z=min D.size (k*512):=⟨_,rfl⟩
   obtain⟨M2,hM2⟩:∃ z,z=min D.size ((k+1)*512):=⟨_,rfl⟩
   have hm1:min (D.size:Int) ((k:Int)*512)=(M1:Int):=by omega
   have hm2:min (D.size:Int) (((k:Int)+1)*512)=(M2:Int):=by omega
   have hMa:M1<=M2:=by omega
   have hMb:M2<=D.size:=by omega
   have hMc:M2<=M1+512:=by omega
   have HM1:=zh hM1;have HM2:=zh hM2
   clear hM1 hM2
   go_upto_region 6 with fail
   obtain⟨P,hP⟩:∃ z,z=D.extract M1 M2:=⟨_,rfl⟩
   have hPz:P.size<=512:=by rw[hP,ByteArray.size_extract];omega
   rw[<- hP]
   have hpc:P++zeros (512-P.size)=piece D k:=by
    have e:P=D.extract (k*512) ((k+1)*512):=by
     rw[hP,HM1.out,HM2.out]
     apply Sha.Bl
     rw[Sha.Ba,Sha.Ba]
     by_cases hx:k*512<=D.size
     ·rw[Nat.min_eq_right hx]
      by_cases hy:(k+1)*512<=D.size
      ·rw[Nat.min_eq_right hy]
      ·rw[Nat.min_eq_left (by omega),List.take_of_length_le (by rw[List.length_drop,Sha.Aq];exact Nat.le_refl _),List.take_of_length_le (by rw[List.length_drop,Sha.Aq];omega)]
     ·rw[Nat.min_eq_left (by omega),Nat.min_eq_left (by omega),List.drop_of_length_le (by rw[Sha.Aq];exact Nat.le_refl _),List.drop_of_length_le (by rw[Sha.Aq];omega),List.take_nil,List.take_nil]
    unfold piece
    rw[<- e]
   have vK:(512:Int)-(P.size:Int)=((512-P.size:Nat):Int):=by omega
   obtain⟨Z,hZ⟩:∃ z,z=zeros (512-P.size):=⟨_,rfl⟩
   have zZ:Z.size<=512:=by rw[hZ,BI];omega
   have hZP:P.size+Z.size=512:=by rw[hZ,BI];omega
   rw[<- hZ] at hpc
   have HP:=zh hP;have HPC:=zh hpc;have HZE:=zh hZ;have zco:=zh vK;have HZP:=zh hZP
   clear hP hpc hZ vK hZP hm1 hm2
   have c0:=S2.out.c1
   have HI0:=zh (zi c0)
   have hrp:=fun W=>Lg (512-P.size) W (by omega)
   rw[<- HZE.out,<- zco.out] at hrp
   have HRP:=zh hrp
   clear hrp
   refine Lex.zn (fun i=>i=sb) [3] 13 [12] ?_
   simp only[Lex.Bh,zd]
   go_wp2_with fail
   refine(HRP.out _).mono ?_
   rintro e w3 ⟨rfl,hb3⟩
   have HB3:=zh (show Below wr.heap.size wr w3 from(Below.refl wr.heap.size wr).drew.trans hb3)
   clear hb3 c0
   go_wp2
   refine Lex.Mid.intro (fun i hi hl=>by subst hi;exact HB3.out.block _ hl) ?_
   have hd3:=HDK.out.at_.below HB3.out (Nat.le_refl _)
   have hlen3:=KP A0 D k
   have hw4:=GY dk _ (A0+k) (P++Z) w3 (by show A0+k<c.Aa.length;rw[<- HN.out];omega) (by rw[Sha.Ab];exact HZP.out) (by show(Dy A0 D k).length<=_;omega) (by show c.recorded.length<=_;rw[HC.out.none];exact Nat.zero_le _) hd3
   rw[HDK.out.a,show((A0+k:Nat):Int)=(A0:Int)+k by omega] at hw4
   have HW4:=zh hw4
   clear hw4 hd3 hlen3
   go_wp2_with fail
   refine HW4.out.mono ?_
   rintro e w5 ⟨rfl,d5,hs5⟩
   have hs6:DStep w1 w5 d d5 { c with pending:=Dy A0 D (k+1) } :=by
    have e:(Ac.note (Ac.wrote { c with pending:=Dy A0 D k } (A0+k) (P++Z)) ⟨(A0:Int)+k,P++Z,false⟩) = { c with pending:=Dy A0 D (k+1) } :=by
     unfold Ac.note
     rw[if_neg (by show ¬ c.recording=true;rw[HC.out.off];decide),HPC.out]
     rfl
    have h2:=hs5
    rw[e] at h2
    exact(HDK.out.trans ⟨HDK.out.at_.below HB3.out (Nat.le_refl _),rfl,rfl,rfl,fun _ h=>.inl h,Fr.of_below HB3.out⟩).trans h2
   have HS6:=zh hs6
   clear hs5 hs6
   go_wp2
   refine Lex.zk ⟨⟨rfl,HI0.out⟩,trivial⟩ ?_
   go_wp2
   exact⟨⟨k+1,by omega,by go_num,⟨d5,HS6.out⟩⟩,by simp[intOf];omega⟩
  ·have dd:decide ((k:Int)<H0)=false:=by simp;omega
   have hkH:k=H0:=by omega
   have hlen3:=KP A0 D k
   have hsy:=Lv dk _ wr (by show(Dy A0 D k).length<=_;omega) (by show c.recorded.length<=_;rw[HC.out.none];exact Nat.zero_le _) HDK.out.at_
   rw[HDK.out.a] at hsy
   have HSY:=zh hsy
   clear hsy hlen3
   have c0:=S2.out.c1
   go_wp2_with fail
   refine HSY.out.mono ?_
   rintro e w5 ⟨rfl,d5,hs5⟩
   have hs6:DStep w1 w5 d d5 { c with Aa:=Bz A0 D H0 c.Aa } :=by
    have e:(Ac.note (Ac.synced { c with pending:=Dy A0 D k }) ⟨0,⟨#[]⟩,true⟩) = { c with Aa:=Bz A0 D H0 c.Aa } :=by
     unfold Ac.note
     rw[if_neg (by show ¬ c.recording=true;rw[HC.out.off];decide)]
     show({ c with Aa:=flush c.Aa (Dy A0 D k),pending:=[] } : Ac)=_
     rw[Ui,hkH]
     have:=HC.out.pend
     cases c
     simp only at this
     subst this
     rfl
    have h2:=hs5
    rw[e] at h2
    exact HDK.out.trans h2
   have HS6:=zh hs6
   clear hs5 hs6 c0 HSY HDK S2
   subst hkH
   have S3:=zh (HS6.out.fr.at S1.out HB0.out)
   have c0:=S3.out.c1
   have HI0:=zh (zi c0)
   go_wp2
   refine Lex.zn (fun i=>i=sb) [3] 9 [9] ?_
   simp only[Lex.Bh,zd]
   go_wp2_with fail
   refine(bY ep D _ (by omega) (by omega)).mono ?_
   rintro e w6 ⟨rfl,hb6⟩
   have HB6:=zh (show Below w5.heap.size w5 w6 from(Below.refl w5.heap.size w5).drew.trans hb6)
   clear hb6 c0
   have hln:(Bz A0 D k c.Aa).length=c.Aa.length:=Jt _ _ _ _
   obtain⟨HB,hHB⟩:∃ z,z=Er ep D:=⟨_,rfl⟩
   have zHB:HB.size=512:=by rw[hHB];exact JA _ _
   rw[<- hHB]
   have hw7:=GY d5 _ (ep%2) HB w6 (by show ep%2<(Bz A0 D k c.Aa).length;rw[hln,<- HN.out];have:=H8.out;rw[<- HN.out] at this;omega) zHB (by show c.pending.length<=_;rw[HC.out.pend];exact Nat.zero_le _) (by show c.recorded.length<=_;rw[HC.out.none];exact Nat.zero_le _) (HS6.out.at_.below HB6.out (Nat.le_refl _))
   rw[HS6.out.a,show((ep%2:Nat):Int)=(ep:Int)%2 by omega] at hw7
   have HW7:=zh hw7;have HHB:=zh hHB
   clear hw7 hln hHB zHB
   go_wp2
   refine Lex.Mid.intro (fun i hi hl=>by subst hi;exact HB6.out.block _ hl) ?_
   go_wp2_with fail
   refine HW7.out.mono ?_
   rintro e w8 ⟨rfl,d8,hs8⟩
   have hs9:DStep w1 w8 d d8 { c with Aa:=Bz A0 D k c.Aa,pending:=[(ep%2,HB)] } :=by
    have e:(Ac.note (Ac.wrote { c with Aa:=Bz A0 D k c.Aa } (ep%2) HB) ⟨(ep:Int)%2,HB,false⟩) = { c with Aa:=Bz A0 D k c.Aa,pending:=[(ep%2,HB)] } :=by
     unfold Ac.note
     rw[if_neg (by show ¬ c.recording=true;rw[HC.out.off];decide)]
     show({ c with Aa:=Bz A0 D k c.Aa,pending:=c.pending++[(ep%2,HB)] } : Ac)=_
     rw[HC.out.pend]
     rfl
    have h2:=hs8
    rw[e] at h2
    exact(HS6.out.trans ⟨HS6.out.at_.below HB6.out (Nat.le_refl _),rfl,rfl,rfl,fun _ h=>.inl h,Fr.of_below HB6.out⟩).trans h2
   have HS9:=zh hs9
   have S4:=zh (hs9.fr.at S1.out HB0.out)
   have hsy:=Lv d8 _ w8 (by show 1<=1000000;omega) (by show c.recorded.length<=_;rw[HC.out.none];exact Nat.zero_le _) hs9.at_
   rw[hs9.a] at hsy
   have HSY:=zh hsy
   clear hs8 hs9 hsy
   go_wp2
   refine Lex.zk ⟨⟨rfl,HI0.out⟩,trivial⟩ ?_
   have c0:=S4.out.c1
   go_wp2_with fail
   refine HSY.out.mono ?_
   rintro e w9 ⟨rfl,d9,hs9⟩
   have bH:DStep w1 w9 d d9 (begun ep D c):=by
    have e:(Ac.note (Ac.synced { c with Aa:=Bz A0 D k c.Aa,pending:=[(ep%2,HB)] }) ⟨0,⟨#[]⟩,true⟩)=begun ep D c:=by
     unfold Ac.note
     rw[if_neg (by show ¬ c.recording=true;rw[HC.out.off];decide)]
     unfold begun
     rw[<- HN.out,<- HA0.out,<- HH0.out,<- HHB.out]
     show({ c with Aa:=(Bz A0 D k c.Aa).set (ep%2) HB,pending:=[] } : Ac)=_
     have:=HC.out.pend
     cases c
     simp only at this
     subst this
     rfl
    have h2:=hs9
    rw[e] at h2
    exact HS9.out.trans h2
   have IB:=zh bH
   clear hs9 bH c0 HSY S4
   have S5:=zh (IB.out.fr.at S1.out HB0.out)
   have c1:=S5.out.cell 1;have c1f:=S5.out.free 1
   simp only[zg] at c1
   have S6:=zh (S5.out.set 1 (.int .i64 ep))
   have hbl:(begun ep D c).Aa.length=c.Aa.length:=Cy ep D c
   have hbc:Calm (begun ep D c):=E9 HC.out
   have hbz:Ga (begun ep D c):=aJ HC.out H8.out HZ.out
   have hbd:∀ k,k≠sb->(w9.setCell ⟨sb,1,none⟩ (.int .i64 ep)).heap[k]? = w9.heap[k]? :=fun k hk=>heap_setCell_other w9 ⟨sb,1,none⟩ k _ hk
   have hsf:∀ k,d9.foot k->k≠sb:=fun k hk e=>by
    rcases IB.out.foot k hk with h1|h1
    ·exact HB0.out (e ▸ h1)
    ·have:=HB1.out.size;subst e;omega
   have hd9:Ak (w9.setCell ⟨sb,1,none⟩ (.int .i64 ep)) d9 (begun ep D c):=IB.out.at_.keep fun k hk=>hbd k (hsf k hk)
   have hso:=Xj sb d9 (begun ep D c) ep D.size mo (.slice ea s.ents.length ec) mv jv _ (by rw[IB.out.a];exact S6.out) hd9 (by rw[hbc.pend];exact Nat.zero_le _) (fun p=>Nat.le_trans (hbz.int p) (by decide)) (by rw[hbl];exact H8.out) (by omega) (by omega) (by rw[hbl,HDD.out];exact HFI.out) ⟨_,_,_,rfl⟩ HJ.out
   have HSO:=zh hso;have HBC:=zh hbc;have HBZ:=zh hbz;have HBL:=zh hbl;have HD9:=zh hd9;have HSF:=zh hsf
   clear hso hbc hbz hbl hbd hd9 hsf
   go_wp2_with fail
   refine HSO.out.mono ?_
   rintro e w10 ⟨j,rfl,hj,hda,e1,e2,e3,e4,e5,e6,Io,hat,hfr⟩
   have HE:=zh (show _/\_/\_/\_/\_/\_ from⟨e1,e2,e3,e4,e5,e6⟩);have HJJ:=zh hj;have HDA:=zh hda;have HFT:=zh Io;have HAT:=zh hat;have HFR:=zh hfr
   clear hj hda e1 e2 e3 e4 e5 e6 Io hat hfr c1 c1f
   go_wp2
   go_end0
   rw[HR.out]
   obtain⟨e1,e2,e3,e4,e5,e6⟩:=HE.out
   have hcl:Clean ep (begun ep D c) (Bo c.Aa.length ep+Ai D.size) (AY c.Aa.length-Ai D.size):=QI HC.out H8.out h1 (by omega)
   rw[HBL.out] at e1 e2 e4 e5 e6
   rw[hcl.opened] at e4 e5 e6
   have hww:w1.heap.size<=w9.heap.size:=IB.out.fr.size
   have zcp:=HB1.out.size
   have hwz:(w9.setCell ⟨sb,1,none⟩ (.int .i64 ep)).heap.size=w9.heap.size:=by rw[World.size_setCell]
   have hft:∀ k,j.foot k->w9.heap.size<=k:=fun k hk=>by rw[<- hwz];exact HFT.out k hk
   unfold YO
   rw[<- HDD.out]
   have hdl:Ak w10 d9 (begun ep D c):=HD9.out.fr HFR.out fun k hk hf=>HSF.out k hf hk
   refine⟨j,d9,rfl,⟨⟨HJJ.out,hdl,HDA.out.symm,fun k hk hf=>?_,?_⟩,?_,HBC.out,HBZ.out,?_,?_⟩,IB.out.a,e1,e2,e3,e4,e5,fun k hk=>?_,fun k hk=>?_,?_,?_⟩
   ·have:=IB.out.at_.lt k hf
    have:=hft k hk
    omega
   ·obtain⟨a1,a2,a3⟩:=JC ep H8.out
    have:=HFI.out
    rw[HBL.out,e1,e2,HDD.out]
    omega
   ·have zcq:Clean j.epoch (begun ep D c) j.first j.count:=by rw[e3,e1,e2];exact hcl
    exact zcq.holds e4 e5 (by rw[e6,e3];rfl)
   ·rw[e6];exact ZT _
   ·rw[e3];exact h2
   ·have:=hft k hk;omega
   ·rcases IB.out.foot k hk with h|h
    ·exact .inl h
    ·right;omega
   ·rw[<- IB.out.a];exact HAT.out
   ·refine Fr.trans (G:=fun k=>k=sb) (Fr.setCell (F:=fun k=>k=sb\/d.foot k) (Fr.trans (G:=d.foot) (Fr.of_below HB1.out) IB.out.fr fun k hk=>.inl (.inr hk)) (p:=⟨sb,1,none⟩) (Or.inl (Or.inl rfl)) _) HFR.out fun k hk=>.inl (.inl hk)
end Sto
namespace Sto
open Own (Bt Srt BH)
theorem Vf (sb da ep mo:Nat)(ve:Value)(mv:Nat)(jv:Value)(w:World)(h:At w sb 130 (DR da ep mo ve mv jv)):
 Calls Tryz.prog 26 #[.pointer (some ⟨sb,0,none⟩)] w fun e w' => e=.returned (.int .i64 ep)/\w' = w:=by
 have c1:=h.cell 1
 simp only[DR,List.getElem?_toArray,List.getElem?_cons_zero,List.getElem?_cons_succ] at c1
 go_enter Tryz.func26,Tryz.ntmps26
 go_wp2
 (try go_ret)
 exact⟨rfl,rfl⟩
theorem Vg (sb da ep mo:Nat)(ve:Value)(mv:Nat)(jv:Value)(F:Nat->Prop)(s:St)(w:World)(h:At w sb 130 (DR da ep mo ve mv jv))(hst:StC w F mo mv ve s)(hok:Bw s):
 Calls Tryz.prog 20 #[.pointer (some ⟨sb,0,none⟩)] w (RU w s):=by
 obtain⟨R,hR⟩:∃ R,R=RU w s:=⟨_,rfl⟩
 rw[<- hR]
 obtain⟨ea,ec,rfl⟩:=hst.en.len
 have HR:=zh hR;have H:=zh h;have HST:=zh hst;have HOK:=zh hok
 clear hR h hst hok
 have T1:=zh (show Aj w _ [(26,#[.slice none 0 0,.slice none 0 0,.slice none 0 0])] from((Bp.nil w).push 26 #[.slice none 0 0,.slice none 0 0,.slice none 0 0]).boxes)
 go_enter Tryz.func20,Tryz.ntmps20
 go_upto_region 1 with fail
 generalize (w.alloc (.cells #[.slice none 0 0,.slice none 0 0,.slice none 0 0] 26))=w1 at*
 have H1:=zh (H.out.below T1.out.under H.out.lt)
 have c2:=H1.out.cell 2;have c3:=H1.out.cell 3;have c4:=H1.out.cell 4
 simp only[DR,List.getElem?_toArray,List.getElem?_cons_zero,List.getElem?_cons_succ] at c2 c3 c4
 go_wp2_with fail
 refine(Le F mo mv (.slice ea s.ents.length ec) s _ (HST.out.below T1.out.under) HOK.out).mono ?_
 rintro e w6 ⟨v6,rfl,⟨wo,we,wv,rfl,h1,h2,h3⟩,hb6,hcp⟩
 have T6:=zh (T1.out.step hb6)
 have yV:=zh (show StV (fun k=>w1.heap.size<=k) w6 (.agg #[wo,we,wv]) s from⟨_,_,_,rfl,h1,h2,h3⟩)
 obtain⟨xa,xc,rfl⟩:=h1.len
 obtain⟨ya,yc,rfl⟩:=h2.len
 obtain⟨za,zc,rfl⟩:=h3.len
 have hcap:UY (.slice ya s.ents.length yc):=by obtain⟨_,_,_,e,hc⟩:=hcp;cases e;exact hc
 have HCAP:=zh hcap
 clear h1 h2 h3 hb6 c2 c3 c4 hcp hcap
 obtain⟨t00,t01,t02,Ci,Cj,Ck⟩:=T6.out.Hz rfl
 go_wp2_with fail
 (try clear t00 t01 t02 Ci Cj Ck)
 have T9:=((T6.out.put 0 0 (.slice xa s.objs.length xc) rfl).put 0 1 (.slice ya s.ents.length yc) rfl).put 0 2 (.slice za s.vals.length zc) rfl
 refine UF rfl rfl (Al (T9.at1 0 rfl) Tryz.underlying26 rfl Dr) ?_
 rw[HR.out]
 have hz5:w.heap.size+1<=w1.heap.size:=T1.out.size
 have hkp:∀ k,k≠w.heap.size->(((w6.setCell ⟨w.heap.size,0,none⟩ (.slice xa s.objs.length xc)).setCell ⟨w.heap.size,1,none⟩ (.slice ya s.ents.length yc)).setCell ⟨w.heap.size,2,none⟩ (.slice za s.vals.length zc)).heap[k]? = w6.heap[k]? :=fun k hk=>by
  rw[zo hk,zo hk,zo hk]
 have hsz:w6.heap.size<=(((w6.setCell ⟨w.heap.size,0,none⟩ (.slice xa s.objs.length xc)).setCell ⟨w.heap.size,1,none⟩ (.slice ya s.ents.length yc)).setCell ⟨w.heap.size,2,none⟩ (.slice za s.vals.length zc)).heap.size:=by simp only[World.setCell,Array.size_modify];exact Nat.le_refl _
 have hst:=yV.out.keep hsz (fun k hk _=>hkp k (by have hk2:w1.heap.size<=k:=hk;omega))
 obtain⟨a1,a2,a3,e1,g1,g2,g3⟩:=hst
 cases e1
 exact⟨_,rfl,⟨_,_,_,rfl,g1.mono fun k (hk:w1.heap.size<=k) _=>(by show w.heap.size<=k;omega),g2.mono fun k (hk:w1.heap.size<=k) _=>(by show w.heap.size<=k;omega),g3.mono fun k (hk:w1.heap.size<=k) _=>(by show w.heap.size<=k;omega)⟩,T9.under,_,_,_,rfl,HCAP.out⟩
def lK (s:St)(n:ByteArray):ByteArray:=match look Val.name n s.vals with
 | some v=>v.data
 | none=>⟨#[]⟩
theorem jC (sb da ep mo:Nat)(ve:Value)(mv:Nat)(jv:Value)(F:Nat->Prop)(s:St)(n:ByteArray)(w:World)(h:At w sb 130 (DR da ep mo ve mv jv))(hst:StC w F mo mv ve s)(hn:n.size<=140737488350000):
 Calls Tryz.prog 25 #[.pointer (some ⟨sb,0,none⟩),.string n] w fun e w' => e=.returned (.string (lK s n))/\Below w.heap.size w w':=by
 obtain⟨g,hx,hv⟩:=hst.vm
 obtain⟨V,hV⟩:∃ V,V=lK s n:=⟨_,rfl⟩
 have hx1:(g n).getD (.string ⟨#[]⟩)=.string V:=by
  rw[hv n,hV]
  unfold lK
  cases look Val.name n s.vals<;>rfl
 rw[<- hV]
 have HX:=zh hx;have HX1:=zh hx1
 have hns:n.size<=maxLen:=by unfold maxLen;omega
 have ZS:=zh (show ∀ W:World,(zeroValue 9).run Tryz.prog W=.ok (.string ⟨#[]⟩) W from fun W=>by kernel_rfl)
 have c4:=h.cell 4
 simp only[DR,List.getElem?_toArray,List.getElem?_cons_zero,List.getElem?_cons_succ] at c4
 clear hst hv hx hx1 hV h
 go_enter Tryz.func25,Tryz.ntmps25
 go_wp2_with (at_lookup;go_must (refine Yv rfl _ _ 82 9 rfl Tryz.underlying82 (.string ⟨#[]⟩) (ZS.out _) HX.out.smap rfl n rfl hns ?_);rw[HX1.out])
 (try go_ret)
 exact⟨rfl,Below.refl _ _⟩
def OU (w:World)(s:St)(d:ByteArray)(e:Ending)(w' : World):Prop:=match look dig d s.objs with
 | none=>e=.returned (.tuple #[.agg #[.int .i64 0,.slice none 0 0,.string ⟨#[]⟩],.int .i64 6])/\Below w.heap.size w w'
 | some o=>∃ v,e=.returned (.tuple #[Dj o v,.int .i64 0])/\CO (fun k=>w.heap.size<=k) w' v o.refs/\Below w.heap.size w w'
theorem sS (sb da ep mo:Nat)(ve:Value)(mv:Nat)(jv:Value)(F:Nat->Prop)(s:St)(d:ByteArray)(w:World)(h:At w sb 130 (DR da ep mo ve mv jv))(hst:StC w F mo mv ve s)(hok:Bw s)(hd:d.size<=140737488350000):
 Calls Tryz.prog 23 #[.pointer (some ⟨sb,0,none⟩),.string d] w (OU w s d):=by
 obtain⟨R,hR⟩:∃ R,R=OU w s d:=⟨_,rfl⟩
 rw[<- hR]
 obtain⟨f,hx,hv⟩:=hst.om
 have hds:d.size<=maxLen:=by unfold maxLen;omega
 have HR:=zh hR;have H:=zh h;have HX:=zh hx
 have T1:=zh (show Aj w _ [(64,#[.int .i64 0,.slice none 0 0,.string ⟨#[]⟩])] from((Bp.nil w).push 64 #[.int .i64 0,.slice none 0 0,.string ⟨#[]⟩]).boxes)
 have hl1:=h.lt
 clear hR h hx
 cases hl:look dig d s.objs with
 | some o =>
   obtain⟨sv,e1,e2⟩:=hv.hit hl
   have hro:o.refs.length<=4000000:=by
    have:=(Dv (hok.ok o (by unfold look at hl;exact List.mem_of_find?_eq_some hl))).2.2.1
    omega
   obtain⟨sa,sc,rfl⟩:=e2.len
   have hx1:(f d).getD (.agg #[.int .i64 0,.slice none 0 0,.string ⟨#[]⟩])=.agg #[.int .i64 o.kind,.slice sa o.refs.length sc,.string o.data]:=by rw[e1];rfl
   have hx2:(f d).isSome=true:=by rw[e1];rfl
   have HX1:=zh hx1;have HX2:=zh hx2;have HL:=zh hl;have HE2:=zh e2
   clear hx1 hx2 hl e1 e2 hst hv
   go_enter Tryz.func23,Tryz.ntmps23
   go_upto_region 1 with fail
   generalize (w.alloc (.cells #[.int .i64 0,.slice none 0 0,.string ⟨#[]⟩] 64))=w1 at*
   have H1:=zh (H.out.below T1.out.under hl1)
   have HX3:=zh (HX.out.below T1.out.under HX.out.lt)
   have c2:=H1.out.cell 2
   simp only[DR,List.getElem?_toArray,List.getElem?_cons_zero,List.getElem?_cons_succ] at c2
   have S1:=zh (show Aj w1 _ [(64,#[.int .i64 o.kind,.slice sa o.refs.length sc,.string o.data])] from((Bp.nil w1).push 64 #[.int .i64 o.kind,.slice sa o.refs.length sc,.string o.data]).boxes)
   go_upto_region 4 with (at_lookup;go_must (refine D8 rfl _ _ 81 64 rfl Tryz.underlying81 (.agg #[.int .i64 0,.slice none 0 0,.string ⟨#[]⟩]) (QY _) HX3.out.smap rfl d rfl hds ?_);rw[HX1.out,HX2.out])
   generalize (w1.alloc (.cells #[.int .i64 o.kind,.slice sa o.refs.length sc,.string o.data] 64))=w2 at*
   clear c2
   obtain⟨t00,t01,t02,Ci,Cj,Ck⟩:=S1.out.Hz rfl
   go_wp2_with fail
   refine(Cn (.slice sa o.refs.length sc) o.refs _ (HE2.out.1.below (T1.out.under.trans (S1.out.under.mono T1.out.under.size))) hro).mono ?_
   rintro e w3 ⟨cv,rfl,h1,h2,h3,hb3⟩
   have HCL:=zh (show ∀ k,cv.ownBlock=some k->k<w3.heap.size from fun k hk=>by obtain⟨cur,hc⟩:=Ao h3 hk;exact hc.lt)
   obtain⟨ca,cc,rfl⟩:=h1.len
   have hz1:w.heap.size+1<=w1.heap.size:=T1.out.size
   have hz2:w1.heap.size+1<=w2.heap.size:=S1.out.size
   have S2:=zh (S1.out.step hb3)
   (try clear Ci);(try clear t00);(try clear Cj);(try clear t01);(try clear Ck);(try clear t02)
   have HC:=zh h1;have HCB:=zh h2;have HB3:=zh hb3
   clear h1 h2 h3 hb3
   obtain⟨t00,t01,t02,Ci,Cj,Ck⟩:=S2.out.Hz rfl
   go_upto_region 5 with fail
   (try clear Ci);(try clear t00);(try clear Cj);(try clear t01);(try clear Ck);(try clear t02)
   have S3:=zh (S2.out.put 0 1 (.slice ca o.refs.length cc) rfl)
   have hk4:∀ k,k≠w1.heap.size->(w3.setCell ⟨w1.heap.size,1,none⟩ (.slice ca o.refs.length cc)).heap[k]? = w3.heap[k]? :=fun k hk=>heap_setCell_other w3 ⟨w1.heap.size,1,none⟩ k _ hk
   have hz3:=HB3.out.size
   have hcv:CO (fun k=>w2.heap.size<=k) (w3.setCell ⟨w1.heap.size,1,none⟩ (.slice ca o.refs.length cc)) (.slice ca o.refs.length cc) o.refs:=by
    refine CO.keep ⟨HC.out,fun _ k hk=>⟨HCB.out k hk,HCL.out k hk⟩⟩ (by rw[World.size_setCell];exact Nat.le_refl _) fun k hk _=>hk4 k (by have hk2:w2.heap.size<=k:=hk;omega)
   have HCV:=zh hcv
   clear hk4 hcv
   generalize w3.setCell ⟨w1.heap.size,1,none⟩ (.slice ca o.refs.length cc)=w4 at*
   have T4:=zh (T1.out.step S3.out.under)
   have S4:=zh (show Aj w1 w4 [(64,#[.int .i64 o.kind,.slice ca o.refs.length cc,.string o.data])] from S3.out)
   have s0:=S4.out.cell 0 0 rfl rfl;have s1:=S4.out.cell 0 1 rfl rfl;have s2:=S4.out.cell 0 2 rfl rfl
   simp only[Nat.add_zero] at s0 s1 s2
   obtain⟨u00,u01,u02,zdh,zdi,zdj⟩:=T4.out.Hz rfl
   go_wp2_with fail
   have T9:=((T4.out.put 0 0 (.int .i64 o.kind) rfl).put 0 1 (.slice ca o.refs.length cc) rfl).put 0 2 (.string o.data) rfl
   refine AQ rfl rfl rfl (Al (T9.at1 0 rfl) Tryz.underlying64 rfl Iw) ?_
   rw[HR.out]
   unfold OU
   rw[HL.out]
   refine⟨_,rfl,?_,T9.under⟩
   have hkp:∀ k,k≠w.heap.size->(((w4.setCell ⟨w.heap.size,0,none⟩ (.int .i64 o.kind)).setCell ⟨w.heap.size,1,none⟩ (.slice ca o.refs.length cc)).setCell ⟨w.heap.size,2,none⟩ (.string o.data)).heap[k]? = w4.heap[k]? :=fun k hk=>by
    rw[zo hk,zo hk,zo hk]
   exact(HCV.out.keep (by simp only[World.setCell,Array.size_modify];exact Nat.le_refl _) (fun k hk _=>hkp k (by have hk2:w2.heap.size<=k:=hk;omega))).mono fun k (hk:w2.heap.size<=k) _=>(by show w.heap.size<=k;omega)
 | none =>
   have e1:=hv.miss hl
   have hx1:(f d).getD (.agg #[.int .i64 0,.slice none 0 0,.string ⟨#[]⟩])=.agg #[.int .i64 0,.slice none 0 0,.string ⟨#[]⟩]:=by rw[e1];rfl
   have hx2:(f d).isSome=false:=by rw[e1];rfl
   have HX1:=zh hx1;have HX2:=zh hx2;have HL:=zh hl
   clear hx1 hx2 hl e1 hst hv
   go_enter Tryz.func23,Tryz.ntmps23
   go_upto_region 1 with fail
   generalize (w.alloc (.cells #[.int .i64 0,.slice none 0 0,.string ⟨#[]⟩] 64))=w1 at*
   have H1:=zh (H.out.below T1.out.under hl1)
   have HX3:=zh (HX.out.below T1.out.under HX.out.lt)
   have c2:=H1.out.cell 2
   simp only[DR,List.getElem?_toArray,List.getElem?_cons_zero,List.getElem?_cons_succ] at c2
   have S1:=zh (show Aj w1 _ [(64,#[.int .i64 0,.slice none 0 0,.string ⟨#[]⟩])] from((Bp.nil w1).push 64 #[.int .i64 0,.slice none 0 0,.string ⟨#[]⟩]).boxes)
   have T2:=zh (T1.out.step S1.out.under)
   have t00:(w1.alloc (.cells #[.int .i64 0,.slice none 0 0,.string ⟨#[]⟩] 64)).cell? ⟨w.heap.size,0,none⟩=some (.int .i64 0):=T2.out.cell 0 0 rfl rfl
   have Ci:(w1.alloc (.cells #[.int .i64 0,.slice none 0 0,.string ⟨#[]⟩] 64)).frozen? ⟨w.heap.size,0,none⟩=false:=T2.out.free 0 0 rfl
   have t01:(w1.alloc (.cells #[.int .i64 0,.slice none 0 0,.string ⟨#[]⟩] 64)).cell? ⟨w.heap.size,1,none⟩=some (.slice none 0 0):=T2.out.cell 0 1 rfl rfl
   have Cj:(w1.alloc (.cells #[.int .i64 0,.slice none 0 0,.string ⟨#[]⟩] 64)).frozen? ⟨w.heap.size,1,none⟩=false:=T2.out.free 0 1 rfl
   have t02:(w1.alloc (.cells #[.int .i64 0,.slice none 0 0,.string ⟨#[]⟩] 64)).cell? ⟨w.heap.size,2,none⟩=some (.string ⟨#[]⟩):=T2.out.cell 0 2 rfl rfl
   have Ck:(w1.alloc (.cells #[.int .i64 0,.slice none 0 0,.string ⟨#[]⟩] 64)).frozen? ⟨w.heap.size,2,none⟩=false:=T2.out.free 0 2 rfl
   go_wp2_with (at_lookup;go_must (refine D8 rfl _ _ 81 64 rfl Tryz.underlying81 (.agg #[.int .i64 0,.slice none 0 0,.string ⟨#[]⟩]) (QY _) HX3.out.smap rfl d rfl hds ?_);rw[HX1.out,HX2.out])
   have T9:=((T2.out.put 0 0 (.int .i64 0) rfl).put 0 1 (.slice none 0 0) rfl).put 0 2 (.string ⟨#[]⟩) rfl
   refine AQ rfl rfl rfl (Al (T9.at1 0 rfl) Tryz.underlying64 rfl Iw) ?_
   rw[HR.out]
   unfold OU
   rw[HL.out]
   exact⟨rfl,T9.under⟩
end Sto
namespace Sto
open Own (Bt Srt BH)
structure StP where
 sb:Nat
 mo:Nat
 mv:Nat
 ve:Value
 F:Nat->Prop
 d:Au
 j:Bg
def StP.foot (p:StP)(k:Nat):Prop:=k=p.sb\/SFo p.F p.mo p.mv p.ve k\/p.j.foot k\/p.d.foot k
def StP.core (p:StP)(k:Nat):Prop:=k=p.sb\/p.j.foot k\/p.d.foot k
structure BK (w:World) (p:StP) (ep:Nat) (s:St) (c:Ac):Prop where
 self:At w p.sb 130 (DR p.d.a ep p.mo p.ve p.mv (.pointer (some ⟨p.j.jb,0,none⟩)))
 st:StC w p.F p.mo p.mv p.ve s
 ok:Bw s
 live:Live w p.j p.d c
 ep:p.j.epoch=ep
 n8:8<=c.Aa.length
 few:p.j.recs.length<=p.j.next
 lim:∀ k,SFo p.F p.mo p.mv p.ve k->k<w.heap.size/\¬ p.j.foot k/\¬ p.d.foot k/\k≠p.sb
 sbn:¬ p.j.foot p.sb/\¬ p.d.foot p.sb
structure CU (w w' : World) (p p' : StP) (ep:Nat) (s:St) (c:Ac):Prop where
 at_:BK w' p' ep s c
 sb:p'.sb=p.sb
 a:p'.d.a=p.d.a
 core:∀ k,p'.core k->p.core k\/w.heap.size<=k
 foot:∀ k,p'.foot k->p.foot k\/w.heap.size<=k
 fr:Fr p.core w w'
section
variable {w w' w1:World} {p p' p1:StP} {ep ep' : Nat} {s t:St} {c c' : Ac}
theorem BK.lt (h:BK w p ep s c):∀ k,p.foot k->k<w.heap.size:=by
 rintro k (rfl|hk|hk|hk)
 ·exact h.self.lt
 ·exact(h.lim k hk).1
 ·exact h.live.jd.AV.lt k hk
 ·exact h.live.jd.disk.lt k hk
theorem BK.keep (h:BK w p ep s c)(hs:w.heap.size<=w'.heap.size)(hk:∀ k,p.foot k->w'.heap[k]? = w.heap[k]?):BK w' p ep s c:=
 ⟨h.self.keep (hk _ (.inl rfl)),h.st.keep hs fun k hF _ => hk k (.inr (.inl hF)),h.ok,
   ⟨⟨h.live.jd.AV.keep fun k hF=>hk k (.inr (.inr (.inl hF))),h.live.jd.disk.keep fun k hF=>hk k (.inr (.inr (.inr hF))),h.live.jd.da,h.live.jd.apart,h.live.jd.inn⟩,h.live.holds,h.live.calm,h.live.sized,h.live.chain,h.live.epoch⟩,
   h.ep,h.n8,h.few,fun k hF=>⟨Nat.lt_of_lt_of_le (h.lim k hF).1 hs,(h.lim k hF).2⟩,h.sbn⟩
theorem BK.below (h:BK w p ep s c)(hb:Below w.heap.size w w'):BK w' p ep s c:=h.keep hb.size fun k hk=>hb.block k (h.lt k hk)
theorem CU.of_below (h:BK w p ep s c)(hb:Below w.heap.size w w'):CU w w' p p ep s c:=⟨h.below hb,rfl,rfl,fun _ hk=>.inl hk,fun _ hk=>.inl hk,Fr.of_below hb⟩
theorem CU.trans (h:CU w w1 p p1 ep s c)(k:CU w1 w' p1 p' ep' t c'):CU w w' p p' ep' t c' :=
 ⟨k.at_,k.sb.trans h.sb,k.a.trans h.a,fun j hj=>(k.core j hj).elim (h.core j) fun e=>.inr (Nat.le_trans h.fr.size e),fun j hj=>(k.foot j hj).elim (h.foot j) fun e=>.inr (Nat.le_trans h.fr.size e),h.fr.trans k.fr h.core⟩
end
theorem Xk (sb:Nat)(d:Au)(c:Ac)(ep mo:Nat)(ve:Value)(mv:Nat)(jv:Value)(F:Nat->Prop)(s:St)(need:Nat)(w:World)(h:At w sb 130 (DR d.a ep mo ve mv jv))(hst:StC w F mo mv ve s)(hok:Bw s)(hd:Ak w d c)(h8:8<=c.Aa.length)(hep:ep<4611686018427387903)(zcS:need<=1000000000):
 Calls Tryz.prog 71 #[.pointer (some ⟨sb,0,none⟩),.int .i64 need] w fun e w' => e=.returned (.bool (decide (Ai (Ad s).size+need<=AY c.Aa.length)))/\Below w.heap.size w w':=by
 obtain⟨ea,ec,rfl⟩:=hst.en.len
 have hm:=hd.most
 have hsl:=h.lt
 have c0:=h.cell 0;have c1:=h.cell 1;have c2:=h.cell 2;have c3:=h.cell 3;have c4:=h.cell 4
 simp only[DR,List.getElem?_toArray,List.getElem?_cons_zero,List.getElem?_cons_succ] at c0 c1 c2 c3 c4
 have dd:decide ((ep:Int)<4611686018427387903)=true:=by simp;omega
 obtain⟨D,hD⟩:∃ z,z=Ad s:=⟨_,rfl⟩
 have hDz:D.size<=600000000:=by rw[hD];exact JL hok
 have hsn:=fun W (hW:Below w.heap.size w W)=>MB F mo mv (.slice ea s.ents.length ec) s W (hst.below hW) hok
 rw[<- hD] at hsn
 rw[<- hD]
 obtain⟨P0,hP0⟩:∃ z,z=Ai D.size:=⟨_,rfl⟩
 have zdk:P0<=1171876:=by rw[hP0];unfold Ai;omega
 have hPg:=fun W=>JJ D.size W (by omega)
 rw[<- hP0] at hPg
 rw[<- hP0]
 obtain⟨N,hN⟩:∃ N,N=c.Aa.length:=⟨_,rfl⟩
 have hHf:=fun W (hW:Ak W d c)=>GJ d c W hW (by omega)
 rw[<- hN] at hm hHf
 rw[<- hN]
 obtain⟨H0,hH0⟩:∃ z,z=AY N:=⟨_,rfl⟩
 rw[<- hH0] at hHf
 rw[<- hH0]
 obtain⟨B,hB⟩:∃ B,B=decide (P0+need<=H0):=⟨_,rfl⟩
 rw[<- hB]
 have HBB:=zh hB
 have HSN:=zh hsn;have HPG:=zh hPg;have HHF:=zh hHf;have H:=zh h;have HDK:=zh hd
 have HI0:=zh (zi c0)
 clear hsn hPg hHf hD hP0 hN hH0 h hd hst hok h8 hB
 go_enter Tryz.func71,Tryz.ntmps71
 go_wp2
 refine Lex.zn (fun i=>i=sb) [18] 20 [11,2,7] ?_
 simp only[Lex.Bh,zd]
 go_wp2_with fail
 refine(HSN.out _ (Below.refl w.heap.size w).drew).mono ?_
 rintro e w2 ⟨rfl,hb2⟩
 have HB2:=zh (show Below w.heap.size w w2 from(Below.refl w.heap.size w).drew.trans hb2)
 clear hb2
 go_wp2
 refine Lex.Mid.intro (fun i hi hl=>by subst hi;exact HB2.out.block _ hl) ?_
 go_wp2_with fail
 refine(HPG.out _).mono ?_
 rintro e w3 ⟨rfl,hw3⟩
 subst w3
 have q0:=(H.out.below HB2.out hsl).cell 0
 simp only[DR,List.getElem?_toArray,List.getElem?_cons_zero,List.getElem?_cons_succ] at q0
 go_wp2
 refine Lex.Mid.intro (fun i hi hl=>by subst hi;exact HB2.out.block _ hl) ?_
 go_wp2_with fail
 refine(HHF.out _ (HDK.out.below HB2.out (Nat.le_refl _))).mono ?_
 rintro e w3 ⟨rfl,hw3⟩
 subst w3
 go_wp2
 refine Lex.Mid.intro (fun i hi hl=>by subst hi;exact HB2.out.block _ hl) ?_
 clear dd c0 c1 c2 c3 c4 q0
 cases B with
 | true =>
   have hle:=of_decide_eq_true HBB.out.symm
   have dl:decide ((P0:Int)+need<=H0)=true:=by simp;omega
   clear hle
   go_wp2
   refine Lex.zk ⟨⟨rfl,HI0.out⟩,trivial⟩ ?_
   go_wp2
   go_ret
   exact⟨rfl,HB2.out⟩
 | false =>
   have hle:=of_decide_eq_false HBB.out.symm
   have dl:decide ((P0:Int)+need<=H0)=false:=by simp;omega
   clear hle
   go_wp2
   refine Lex.zk ⟨⟨rfl,HI0.out⟩,trivial⟩ ?_
   go_wp2
   go_ret
   exact⟨rfl,HB2.out⟩
theorem Vh (p:StP)(ep ep' : Nat)(s:St)(c:Ac)(w:World)(h:BK w p ep s c)(h1:1<=ep')(h2:ep' <= 4611686018427387903)(hfit:Ai (Ad s).size<AY c.Aa.length):
 Calls Tryz.prog 67 #[.pointer (some ⟨p.sb,0,none⟩),.int .i64 ep'] w fun e w' => e=.returned (.tuple #[])/\∃ p',CU w w' p p' ep' s (begun ep' (Ad s) c)/\p'.mo=p.mo/\p'.mv=p.mv/\p'.ve=p.ve/\p'.F=p.F/\p'.j.next=0/\p'.j.count=AY c.Aa.length-Ai (Ad s).size/\p'.j.first=Bo c.Aa.length ep' + Ai (Ad s).size/\p'.j.recs=[]:=by
 refine(Ve p.sb p.d c ep ep' p.mo p.ve p.mv _ p.F s w h.self h.st h.ok h.live.jd.disk h.live.calm h.live.sized h.sbn.2 h.n8 h1 h2 hfit (.inr ⟨_,rfl⟩)).mono ?_
 rintro e w' ⟨j,d',rfl,hl,ha,e1,e2,e3,e4,e5,hjf,hdf,hat,hfr⟩
 have hz:=hfr.size
 have zdl:=h.self.lt
 have hcf:∀ k,SFo p.F p.mo p.mv p.ve k->¬ (k=p.sb\/p.d.foot k):=fun k hk=>by
  rintro(e|e)
  ·exact(h.lim k hk).2.2.2 e
  ·exact(h.lim k hk).2.2.1 e
 refine⟨rfl,{ p with d:=d',j:=j },⟨⟨by rw[ha];exact hat,h.st.fr hfr hcf,h.ok,hl,e3,by rw[Cy];exact h.n8,by rw[e4];exact Nat.zero_le _,fun k hk=>⟨Nat.lt_of_lt_of_le (h.lim k hk).1 hz,fun hf=>?_,fun hf=>?_,(h.lim k hk).2.2.2⟩,fun hf=>?_,fun hf=>?_⟩,rfl,ha,?_,?_,hfr.mono ?_⟩,rfl,rfl,rfl,rfl,e5,e2,e1,e4⟩
 ·have:=hjf k hf;have:=(h.lim k hk).1;omega
 ·rcases hdf k hf with h3|h3
  ·exact(h.lim k hk).2.2.1 h3
  ·have:=(h.lim k hk).1;omega
 ·have h3:w.heap.size<=p.sb:=hjf _ hf
  omega
 ·rcases hdf _ hf with h3|h3
  ·exact h.sbn.2 h3
  ·have h4:w.heap.size<=p.sb:=h3
   omega
 ·rintro k (hk|hk|hk)
  ·exact .inl (.inl hk)
  ·exact .inr (hjf k hk)
  ·exact(hdf k hk).imp (fun x=>.inr (.inr x)) id
 ·rintro k (hk|hk|hk|hk)
  ·exact .inl (.inl hk)
  ·exact .inl (.inr (.inl hk))
  ·exact .inr (hjf k hk)
  ·exact(hdf k hk).imp (fun x=>.inr (.inr (.inr x))) id
 ·rintro k (hk|hk)
  ·exact .inl hk
  ·exact .inr (.inr hk)
def YQ (w:World)(p:StP)(ep:Nat)(s:St)(c:Ac)(e:Ending)(w' : World):Prop:=
 (Ai (Ad s).size+1<=AY c.Aa.length/\e=.returned (.int .i64 0)/\∃ p',CU w w' p p' (ep+1) s (begun (ep+1) (Ad s) c))\/
 (¬ Ai (Ad s).size+1<=AY c.Aa.length/\e=.returned (.int .i64 22)/\Below w.heap.size w w')
theorem YS (p:StP)(ep:Nat)(s:St)(c:Ac)(w:World)(h:BK w p ep s c)(hep:ep<4611686018427387903):
 Calls Tryz.prog 28 #[.pointer (some ⟨p.sb,0,none⟩)] w (YQ w p ep s c):=by
 obtain⟨R,hR⟩:∃ R,R=YQ w p ep s c:=⟨_,rfl⟩
 rw[<- hR]
 have hfi:=Xk p.sb p.d c ep p.mo p.ve p.mv _ p.F s 1 w h.self h.st h.ok h.live.jd.disk h.n8 hep (by omega)
 obtain⟨B,hB⟩:∃ B,B=decide (Ai (Ad s).size+1<=AY c.Aa.length):=⟨_,rfl⟩
 rw[<- hB] at hfi
 rw[show((1:Nat):Int)=1 from rfl] at hfi
 have HR:=zh hR;have H:=zh h;have HFI:=zh hfi;have HB:=zh hB
 clear hR h hfi hB
 go_enter Tryz.func28,Tryz.ntmps28
 go_wp2_with fail
 refine HFI.out.mono ?_
 rintro e w1 ⟨rfl,hb1⟩
 have HB1:=zh hb1
 clear hb1
 cases B with
 | false =>
   go_wp2
   (try go_ret)
   rw[HR.out]
   exact .inr ⟨of_decide_eq_false HB.out.symm,rfl,HB1.out⟩
 | true =>
   have hle:=of_decide_eq_true HB.out.symm
   have h1:=H.out.below HB1.out
   have hbl:=Vh p ep (ep+1) s c w1 h1 (by omega) (by omega) (by omega)
   rw[show((ep+1:Nat):Int)=(ep:Int)+1 by omega] at hbl
   have c1:=h1.self.cell 1
   simp only[DR,List.getElem?_toArray,List.getElem?_cons_zero,List.getElem?_cons_succ] at c1
   have HBL:=zh hbl;have HLE:=zh hle
   clear hbl hle h1
   go_wp2_with fail
   refine HBL.out.mono ?_
   rintro e w2 ⟨rfl,p',hst,-⟩
   have HST:=zh hst
   clear hst c1
   go_wp2
   (try go_ret)
   rw[HR.out]
   exact .inl ⟨HLE.out,rfl,p',(CU.of_below H.out HB1.out).trans HST.out⟩
end Sto
end
end Go.Proofs.YtdiiafgoccakkaaGreatDoor
