/- A state of the program from lists: private. -/
import Derived.Test.YtdiiafgoccakkaaGreatDoorShkB6
set_option linter.unusedVariables false
set_option linter.unusedSimpArgs false
set_option maxRecDepth 100000
set_option maxHeartbeats 8000000
namespace Go.Proofs.YtdiiafgoccakkaaGreatDoor
section
open Go Go.RowKit Go.Maps
namespace Sto
open Own (Bt Srt BH)
theorem Lh {α : Type}{f : α -> ByteArray}{x : α} : ∀ {l:List α},(∀ y∈l,Bt (f y) (f x)=true)->BH f x l=l++[x]
 | [],_=>rfl
 | y :: l,h => by
   unfold BH
   rw[if_pos (h y List.mem_cons_self),Lh fun z hz=>h z (List.mem_cons_of_mem _ hz)]
   rfl
theorem OX {α : Type}{f : α -> ByteArray}{l:List α}{x : α}(h:Srt f l)(hx:∀ y,l.getLast? = some y->Bt (f y) (f x)=true):Srt f (l++[x])/\∀ y∈l,Bt (f y) (f x)=true:=by
 have hall:∀ y∈l,Bt (f y) (f x)=true:=by
  intro y hy
  rcases List.eq_nil_or_concat l with rfl|⟨l2,z,hlz⟩
  ·cases hy
  ·rw[List.concat_eq_append] at hlz
   subst hlz
   have hz:=hx z (by simp)
   rcases List.mem_append.1 hy with hy|hy
   ·exact Own.KJ ((List.pairwise_append.1 h).2.2 y hy z (by simp)) hz
   ·rw[List.mem_singleton.1 hy];exact hz
 refine⟨List.pairwise_append.2 ⟨h,List.pairwise_singleton _ _,fun y hy z hz=>?_⟩,hall⟩
 rw[List.mem_singleton.1 hz]
 exact hall y hy
theorem Iz {α : Type}{f : α -> ByteArray}{l:List α}{t:ByteArray}(h:∀ y∈l,Bt (f y) t=true):has f t l=false:=by
 cases hh:has f t l with
 | false=>rfl
 | true =>
   obtain⟨y,hy,e⟩:=LJ.1 hh
   have:=h y hy
   rw[e,Own.CJ] at this
   cases this
theorem Xl {α : Type}{l:List α}{k:Nat}(h:k<l.length):(l.take (k+1)).getLast? = some l[k]:=by
 rw[List.take_succ_eq_append_getElem h,List.getLast?_append]
 rfl
structure OY (s:St):Prop where
 o:∀ o∈s.objs,Reach o
 e:s.ents.length<=4000000/\∀ e∈s.ents,e.size<=140737488350000
 v:∀ v∈s.vals,v.name.size<=140737488350000/\v.data.size<=140737488350000
 l:s.objs.length<=4000000/\s.vals.length<=4000000
theorem Rv (p:ByteArray->Bool)(n:Nat)(hp:Pred 81 p n)(v:Value)(xs:List ByteArray)(w:World)(h:Am w v xs)(hx:∀ x∈xs,x.size<=n)(hl:xs.length<=140737488355328):
 Calls Tryz.prog 140 #[v,.func (.func 81) #[] #[]] w fun e w' => (∃ i:Int,e=.returned (.int .i64 i)/\(decide (0<=i)=xs.any p))/\Below w.heap.size w w':=by
 obtain⟨a,c,rfl,hc⟩:=h
 have HP:=zh hp;have HC:=zh hc;have HX:=zh hx;clear hp hc hx
 go_enter Tryz.func140,Tryz.ntmps140
 go_wp2
 go_loopw [8] (fun i wr=>∃ k:Nat,k<=xs.length/\i=.int .i64 k/\(xs.take k).any p=false/\Below w.heap.size w wr) (fun i _=>xs.length-(intOf i).toNat)
 case atStart=>exact⟨0,by omega,rfl,rfl,Below.refl _ _⟩
 case round=>
  obtain⟨k,hk,rfl,hno,hb⟩:=hrel
  have HNO:=zh hno;have HB:=zh hb;clear hno hb
  by_cases hlt:k<xs.length
  ·have dk:decide ((k:Int)<xs.length)=true:=by simp;omega
   obtain⟨b,o,rfl,hc⟩:=HC.out.resolve_left (by omega)
   have ce:=hc k hlt
   have ce2:=(HB.out.cell (p:=⟨b,o+k,none⟩) (block_lt ce)).trans ce
   obtain⟨s,hs⟩:∃ s,s=xs.getD k ⟨#[]⟩:=⟨_,rfl⟩
   rw[<- hs] at ce2
   have hsx:s=xs[k]:=by rw[hs];simp[List.getD_eq_getElem?_getD,hlt]
   have hsz:s.size<=n:=HX.out s (by rw[hsx];exact List.getElem_mem hlt)
   have htk:(xs.take (k+1)).any p=p s:=by
    rw[List.take_succ_eq_append_getElem hlt,List.any_append,HNO.out,<- hsx]
    simp
   have hany:p s=true->xs.any p=true:=fun h=>List.any_eq_true.2 ⟨s,by rw[hsx];exact List.getElem_mem hlt,h⟩
   have HTK:=zh htk;have yD:=zh hany;have HCC:=zh hc;clear htk hany hs hsx ce hc
   go_wp2_with fail
   refine(HP.out s _ hsz).mono ?_
   rintro e w2 ⟨rfl,hb2⟩
   have HB2:=zh (HB.out.trans (hb2.mono HB.out.size));clear hb2
   cases hps:p s with
   | true =>
     have ha:=yD.out hps
     have HA:=zh ha;clear ha
     go_wp2
     go_ret
     exact⟨⟨_,rfl,by rw[HA.out];simp⟩,HB2.out⟩
   | false =>
     have ht:=HTK.out
     rw[hps] at ht
     have HT:=zh ht;clear ht
     go_wp2
     exact⟨⟨k+1,by omega,by go_num,HT.out,HB2.out⟩,by simp[intOf];omega⟩
  ·have dk:decide ((k:Int)<xs.length)=false:=by simp;omega
   have hall:xs.any p=false:=by
    have:=HNO.out
    rw[List.take_of_length_le (by omega)] at this
    exact this
   have HA:=zh hall;clear hall
   go_wp2
   go_ret
   exact⟨⟨_,rfl,by rw[HA.out];rfl⟩,HB.out⟩
theorem Qm (p:ByteArray->Bool)(n:Nat)(hp:Pred 81 p n)(v:Value)(xs:List ByteArray)(w:World)(h:Am w v xs)(hx:∀ x∈xs,x.size<=n)(hl:xs.length<=140737488355328):
 Calls Tryz.prog 80 #[v,.func (.func 81) #[] #[]] w fun e w' => e=.returned (.bool (xs.any p))/\Below w.heap.size w w':=by
 have HI:=zh (Rv p n hp v xs w h hx hl);clear hp h hx
 go_enter Tryz.func80,Tryz.ntmps80
 go_wp2_with fail
 refine HI.out.mono ?_
 rintro e w2 ⟨⟨i,rfl,hi⟩,hb⟩
 have HB:=zh hb;have HJ:=zh hi;clear hb hi
 go_wp2
 go_ret
 exact⟨by rw[<- HJ.out];rfl,HB.out⟩
theorem VZ:Pred 81 (fun x=>decide (65536<x.size)) 140737488355328:=by
 intro x w hx
 go_enter Tryz.func81,Tryz.ntmps81
 go_wp2
 go_ret
 refine⟨?_,Below.refl _ _⟩
 show Ending.returned (.bool _)=Ending.returned (.bool _)
 congr 2
 rw[Bool.eq_iff_iff]
 simp
 omega
def YT (w:World)(s:St)(e:Ending)(w' : World):Prop:=
 (Bw s/\∃ mo mv ve F,e=.returned (.tuple #[.agg #[.map (some mo),ve,.map (some mv)],.bool true])/\StC w' F mo mv ve s/\(∀ k,SFo F mo mv ve k->w.heap.size<=k/\k<w'.heap.size)/\Below w.heap.size w w')\/
 (¬ Bw s/\∃ mo mv ea en ec,e=.returned (.tuple #[.agg #[.map (some mo),.slice ea en ec,.map (some mv)],.bool false])/\Below w.heap.size w w')
theorem OZ (G:Nat->Prop)(vo ve vv:Value)(s:St)(w:World)(ho:Xc G w vo s.objs)(he:Am w ve s.ents)(hv:UD G w vv s.vals)(hr:OY s):
 Calls Tryz.prog 32 #[.agg #[vo,ve,vv]] w (YT w s):=by
 obtain⟨R,hR⟩:∃ R,R=YT w s:=⟨_,rfl⟩
 rw[<- hR]
 obtain⟨oa,oc,rfl⟩:=ho.len
 obtain⟨ea,ec,rfl⟩:=he.len
 obtain⟨va,vc,rfl⟩:=hv.len
 have hel:=hr.e.1
 have hol:=hr.l.1
 have hvl:=hr.l.2
 have HR:=zh hR;have HO:=zh ho;have HE:=zh he;have HV:=zh hv;have HRE:=zh hr
 clear hR ho he hv hr
 have T1:=zh (show Aj w _ [(26,#[.slice oa s.objs.length oc,.slice ea s.ents.length ec,.slice va s.vals.length vc]),(84,#[.map none,.slice none 0 0,.map none])] from(((Bp.nil w).push 26 #[.slice oa s.objs.length oc,.slice ea s.ents.length ec,.slice va s.vals.length vc]).push 84 #[.map none,.slice none 0 0,.map none]).boxes)
 have hmm :=@run_makeMap Tryz.prog
 go_enter Tryz.func32,Tryz.ntmps32
 go_upto_region 1 with fail
 generalize ((w.alloc (.cells #[.slice oa s.objs.length oc,.slice ea s.ents.length ec,.slice va s.vals.length vc] 26)).alloc (.cells #[.map none,.slice none 0 0,.map none] 84))=w1 at*
 have T2:=zh (T1.out.step ((Below.refl w1.heap.size w1).alloc (Nat.le_refl _) (.map #[] 0)))
 have t00:(w1.alloc (.map #[] 0)).cell? ⟨w.heap.size,0,none⟩=some (.slice oa s.objs.length oc):=T2.out.cell 0 0 rfl rfl
 have t01:(w1.alloc (.map #[] 0)).cell? ⟨w.heap.size,1,none⟩=some (.slice ea s.ents.length ec):=T2.out.cell 0 1 rfl rfl
 have t02:(w1.alloc (.map #[] 0)).cell? ⟨w.heap.size,2,none⟩=some (.slice va s.vals.length vc):=T2.out.cell 0 2 rfl rfl
 go_wp2_with fail
 refine(Cn (.slice ea s.ents.length ec) s.ents _ (HE.out.below T2.out.under) (by omega)).mono ?_
 rintro e w3 ⟨v3,rfl,_,_,ho3,hb3⟩
 obtain⟨na,nm,nc,rfl⟩:=Ah ho3
 obtain rfl:=Iu ho3
 have hz1:w.heap.size+2<=w1.heap.size:=T1.out.size
 have hz3:=hb3.size
 rw[World.size_alloc] at hz3
 have hmo:CY w3 w1.heap.size 0 (fun _=>none):=(CY.made w1).below hb3 (by rw[World.size_alloc];omega)
 have J3:Below w1.heap.size w1 w3:=((Below.refl w1.heap.size w1).alloc (Nat.le_refl _) (.map #[] 0)).trans (hb3.mono (by rw[World.size_alloc];omega))
 have hal:Below w3.heap.size w3 (w3.alloc (.map #[] 0)):=zb
 have Rs:Below w3.heap.size w3 ((w3.alloc (.map #[] 0)).alloc (.cells #[.map (some w1.heap.size),.slice na s.ents.length nc,.map (some w3.heap.size)] 84)):=hal.alloc (by rw[World.size_alloc];omega) _
 have hso:StO w1 (fun _=>False) ((w3.alloc (.map #[] 0)).alloc (.cells #[.map (some w1.heap.size),.slice na s.ents.length nc,.map (some w3.heap.size)] 84)) (w3.heap.size+1) (fun _=>False) w1.heap.size w3.heap.size (.slice na s.ents.length nc) ⟨[],s.ents,[]⟩:=by
  have hob:=own_below ho3 Rs
  have hxm:=hmo.below Rs hmo.lt
  have hxv:CY ((w3.alloc (.map #[] 0)).alloc (.cells #[.map (some w1.heap.size),.slice na s.ents.length nc,.map (some w3.heap.size)] 84)) w3.heap.size 0 (fun _=>none):=(CY.made w3).below zb (by rw[World.size_alloc];omega)
  refine⟨At.new1 _ _ _ _,⟨⟨_,hxm,fun k=>rfl⟩,⟨_,hxv,fun k=>rfl⟩,Am.own hob,fun k hk=>?_,⟨id,id,by omega⟩⟩,Ou hob (by rw[World.size_alloc];omega),J3.trans (Rs.mono J3.size),⟨by omega,Nat.le_refl _,by omega⟩,fun k hk=>hk.elim,id⟩
  obtain⟨cur,hc⟩:=Ao hob hk
  exact⟨hc.lt,id,hxm.JW hc,hxv.JW hc⟩
 have SO:=zh hso;have T5:=zh ((T2.out.step hb3).step Rs)
 clear hso ho3 hb3 hmo J3 hal
 (try clear t00);(try clear t01);(try clear t02)
 have hsz5:((w3.alloc (.map #[] 0)).alloc (.cells #[.map (some w1.heap.size),.slice na s.ents.length nc,.map (some w3.heap.size)] 84)).heap.size=w3.heap.size+2:=by simp
 have HS5:=zh hsz5
 go_upto_region 2 with fail
 clear hmm hsz5 Rs
 generalize (w3.alloc (.map #[] 0)).alloc (.cells #[.map (some w1.heap.size),.slice na s.ents.length nc,.map (some w3.heap.size)] 84)=w5 at*
 obtain⟨t00,t01,t02⟩:=T5.out.Ev rfl
 obtain⟨t10,t11,t12,DI,DJ,DK⟩:=T5.out.JH rfl
 obtain⟨b0,b1,b2⟩:=SO.out.box.c3
 by_cases hn1:1024<s.objs.length
 ·have d1:decide ((1024:Int)<s.objs.length)=true:=zt
  go_wp2_with fail
  have T9:=((T5.out.put 1 0 (.map (some w1.heap.size)) rfl).put 1 1 (.slice na s.ents.length nc) rfl).put 1 2 (.map (some w3.heap.size)) rfl
  refine AQ rfl rfl rfl (Al (T9.at1 1 rfl) Tryz.underlying84 rfl AX) ?_
  rw[HR.out]
  exact .inr ⟨(fun h=>by have:=h.o1;omega),_,_,_,_,_,rfl,T9.under⟩
 have d1:decide ((1024:Int)<s.objs.length)=false:=zf
 by_cases hn2:4096<s.ents.length
 ·have d2:decide ((4096:Int)<s.ents.length)=true:=zt
  go_wp2_with fail
  have T9:=((T5.out.put 1 0 (.map (some w1.heap.size)) rfl).put 1 1 (.slice na s.ents.length nc) rfl).put 1 2 (.map (some w3.heap.size)) rfl
  refine AQ rfl rfl rfl (Al (T9.at1 1 rfl) Tryz.underlying84 rfl AX) ?_
  rw[HR.out]
  exact .inr ⟨(fun h=>by have:=h.e1;omega),_,_,_,_,_,rfl,T9.under⟩
 have d2:decide ((4096:Int)<s.ents.length)=false:=zf
 by_cases hn3:1024<s.vals.length
 ·have d3:decide ((1024:Int)<s.vals.length)=true:=zt
  go_wp2_with fail
  have T9:=((T5.out.put 1 0 (.map (some w1.heap.size)) rfl).put 1 1 (.slice na s.ents.length nc) rfl).put 1 2 (.map (some w3.heap.size)) rfl
  refine AQ rfl rfl rfl (Al (T9.at1 1 rfl) Tryz.underlying84 rfl AX) ?_
  rw[HR.out]
  exact .inr ⟨(fun h=>by have:=h.v1;omega),_,_,_,_,_,rfl,T9.under⟩
 have d3:decide ((1024:Int)<s.vals.length)=false:=zf
 go_wp2_with fail
 (try clear t00);(try clear t01);(try clear t02);(try clear t10 t11 t12 DI DJ DK)
 clear b0 b1 b2 d1 d2 d3
 go_loopw [5,38] (fun last i wr=>∃ (k:Nat) (F:Nat->Prop),k<=s.objs.length/\i=.int .i64 k/\last=.string (if k=0 then ⟨#[]⟩ else dig (s.objs.getD (k-1) Obj.none))/\StO w1 (fun _=>False) wr (w3.heap.size+1) F w1.heap.size w3.heap.size (.slice na s.ents.length nc) ⟨s.objs.take k,s.ents,[]⟩/\(∀ o∈s.objs.take k,okO o=true)/\Srt dig (s.objs.take k)) (fun _ i _=>s.objs.length-(intOf i).toNat)
 case atStart=>exact⟨0,_,by omega,rfl,rfl,SO.out,(fun o h=>by cases h),List.Pairwise.nil⟩
 case round=>
  obtain⟨k,F,hk,rfl,rfl,Gi,nT,hsrt⟩:=hrel
  have HSO:=zh Gi;have nU:=zh nT;have Vi:=zh hsrt
  have TR:=zh (T1.out.step Gi.bel)
  have hsz:=Gi.bel.size
  clear Gi nT hsrt
  by_cases hlt:k<s.objs.length
  ·have dk:decide ((k:Int)<s.objs.length)=true:=by simp;omega
   obtain⟨b,o,u,ha,hbl,e0,e1,e2,hu⟩:=Xc.cells (HO.out.below TR.out.under) hlt
   subst ha
   obtain⟨x,hx⟩:∃ x,x=s.objs[k]:=⟨_,rfl⟩
   have hrx:Reach x:=by rw[hx];exact HRE.out.o _ (List.getElem_mem hlt)
   rw[<- hx] at e0 e2 hu
   obtain⟨ua,uc,rfl⟩:=hu.len
   have O1:=zh (show Aj wr _ [(64,#[.int .i64 x.kind,.slice ua x.refs.length uc,.string x.data])] from((Bp.nil wr).push 64 #[.int .i64 x.kind,.slice ua x.refs.length uc,.string x.data]).boxes)
   have HU:=zh hu;have HX:=zh hx;have HRX:=zh hrx
   clear hu hx hrx
   have o00:(wr.alloc (.cells #[.int .i64 x.kind,.slice ua x.refs.length uc,.string x.data] 64)).cell? ⟨wr.heap.size,0,none⟩=some (.int .i64 x.kind):=O1.out.cell 0 0 rfl rfl
   have Ka:(wr.alloc (.cells #[.int .i64 x.kind,.slice ua x.refs.length uc,.string x.data] 64)).frozen? ⟨wr.heap.size,0,none⟩=false:=O1.out.free 0 0 rfl
   have o01:(wr.alloc (.cells #[.int .i64 x.kind,.slice ua x.refs.length uc,.string x.data] 64)).cell? ⟨wr.heap.size,1,none⟩=some (.slice ua x.refs.length uc):=O1.out.cell 0 1 rfl rfl
   have Ke:(wr.alloc (.cells #[.int .i64 x.kind,.slice ua x.refs.length uc,.string x.data] 64)).frozen? ⟨wr.heap.size,1,none⟩=false:=O1.out.free 0 1 rfl
   have o02:(wr.alloc (.cells #[.int .i64 x.kind,.slice ua x.refs.length uc,.string x.data] 64)).cell? ⟨wr.heap.size,2,none⟩=some (.string x.data):=O1.out.cell 0 2 rfl rfl
   have OQ:(wr.alloc (.cells #[.int .i64 x.kind,.slice ua x.refs.length uc,.string x.data] 64)).frozen? ⟨wr.heap.size,2,none⟩=false:=O1.out.free 0 2 rfl
   obtain⟨last,hlast⟩:∃ z,z=(if k=0 then (⟨#[]⟩:ByteArray) else dig (s.objs.getD (k-1) Obj.none)):=⟨_,rfl⟩
   rw[<- hlast]
   have HLA:=zh hlast
   clear hlast
   go_upto_region 8 with fail
   clear e0 e1 e2
   (try clear Ka);(try clear o00);(try clear Ke);(try clear o01);(try clear OQ);(try clear o02)
   generalize (wr.alloc (.cells #[.int .i64 x.kind,.slice ua x.refs.length uc,.string x.data] 64))=wa at*
   obtain⟨o00,o01,o02,Ka,Ke,OQ⟩:=O1.out.Hz rfl
   go_wp2_with fail
   refine(La x (.slice ua x.refs.length uc) _ (HU.out.1.below O1.out.under) HRX.out).mono ?_
   rintro e wb ⟨rfl,hbb⟩
   have O2:=zh (O1.out.step hbb)
   clear hbb
   have SOB:=zh (HSO.out.below O2.out.under);have TB:=zh (TR.out.step O2.out.under)
   (try clear Ka);(try clear o00);(try clear Ke);(try clear o01);(try clear OQ);(try clear o02)
   obtain⟨o00,o01,o02,Ka,Ke,OQ⟩:=O2.out.Hz rfl
   obtain⟨t10,t11,t12,DI,DJ,DK⟩:=TB.out.JH rfl
   obtain⟨b0,b1,b2⟩:=SOB.out.box.c3
   cases hok:okO x with
   | false =>
     rw[Y5 hok]
     have hnot:¬ Bw s:=fun h=>by
      have:=h.ok x (by rw[HX.out];exact List.getElem_mem hlt)
      rw[hok] at this;cases this
     have HN:=zh hnot
     clear hnot hok
     go_wp2_with fail
     have T9:=((TB.out.put 1 0 (.map (some w1.heap.size)) rfl).put 1 1 (.slice na s.ents.length nc) rfl).put 1 2 (.map (some w3.heap.size)) rfl
     refine AQ rfl rfl rfl (Al (T9.at1 1 rfl) Tryz.underlying84 rfl AX) ?_
     rw[HR.out]
     exact .inr ⟨HN.out,_,_,_,_,_,rfl,T9.under⟩
   | true =>
     rw[OG hok]
     obtain⟨d,hd⟩:∃ d,d=dig x:=⟨_,rfl⟩
     rw[<- hd]
     have HD:=zh hd;have HOK:=zh hok
     clear hd hok
     have hrl:x.refs.length<=4000000:=by have:=(Dv HOK.out).2.2.1;omega
     have hds:d.size<=maxLen:=by unfold maxLen;rw[HD.out,OE];decide
     by_cases hk0:k=0
     ·have hkn:¬ 0<k:=by omega
      have dk0:decide ((0:Int)<k)=false:=zf
      have HSN:=zh (OX (f:=dig) (x:=x) Vi.out (fun y hy=>by rw[hk0,List.take_zero] at hy;cases hy))
      have HK0:=zh hk0
      clear hk0
      clear b0 b1 b2
      (try clear t00);(try clear t01);(try clear t02);(try clear t10 t11 t12 DI DJ DK)
      go_wp2_with fail
      refine(Cn (.slice ua x.refs.length uc) x.refs _ (HU.out.1.below O2.out.under) hrl).mono ?_
      rintro e wc ⟨v4,rfl,_,_,ho4,hbc⟩
      obtain⟨pa,pm,pc,rfl⟩:=Ah ho4
      have O3:=zh (O2.out.step hbc);have HO4:=zh ho4
      have hzb:=O2.out.under.size
      clear hbc ho4
      (try clear Ka);(try clear o00);(try clear Ke);(try clear o01);(try clear OQ);(try clear o02)
      obtain⟨o00,o01,o02,Ka,Ke,OQ⟩:=O3.out.Hz rfl
      go_upto_region 12 with fail
      (try clear Ka);(try clear o00);(try clear Ke);(try clear o01);(try clear OQ);(try clear o02)
      have O4:=zh (O3.out.put 0 1 (.slice pa pm pc) rfl)
      have HO5:=zh (Ar HO4.out (w':=wc.setCell ⟨wr.heap.size,1,none⟩ (.slice pa pm pc)) (fun k hk=>zo (by have:=Az HO4.out k hk;have:=O2.out.size;have h2:wr.heap.size+1<=wb.heap.size:=this;show k≠wr.heap.size;omega)))
      have zcr:wr.heap.size+1<=wb.heap.size:=O2.out.size
      clear HO4
      generalize wc.setCell ⟨wr.heap.size,1,none⟩ (.slice pa pm pc)=wd at*
      obtain⟨f,hf,hfm⟩:=HSO.out.st.om
      have yX:=HSO.out.box.lt
      have yY:=HSO.out.st.UE
      have yZ:=HSO.out.st.QW
      have SOD:=zh ((HSO.out.below O4.out.under).more (lo:=wr.heap.size) hsz ⟨yX,yY,yZ⟩ (fun k hv=>(HSO.out.st.eb k hv).1))
      have hf5:=hfm.keep (G:=fun k=>F k\/(wr.heap.size<=k/\k<wd.heap.size)) (w':=wd) fun v x hv=>(hv.below O4.out.under).mono fun k hk _=>.inl hk
      have hx5:=hf.below O4.out.under hf.lt
      have hv5:CO (fun k=>F k\/(wr.heap.size<=k/\k<wd.heap.size)) wd (.slice pa pm pc) x.refs:=⟨Am.own HO5.out,fun _ k hk=>by
       obtain⟨cur,hc⟩:=Ao HO5.out hk
       have:=Az HO5.out k hk
       exact⟨.inr ⟨by omega,hc.lt⟩,hc.lt⟩⟩
      have HF5:=zh hf5;have HX5:=zh hx5;have HV5:=zh hv5
      have hnew:has dig (dig x) (s.objs.take k)=false:=Iz HSN.out.2
      have hput:BH dig x (s.objs.take k)=s.objs.take (k+1):=by rw[Lh HSN.out.2,HX.out,List.take_succ_eq_append_getElem hlt]
      have hsr:Srt dig (s.objs.take (k+1)):=by
       have:=HSN.out.1
       rwa [HX.out,<- List.take_succ_eq_append_getElem hlt] at this
      have bZ:∀ o∈s.objs.take (k+1),okO o=true:=by
       rw[List.take_succ_eq_append_getElem hlt]
       intro o ho
       rcases List.mem_append.1 ho with ho|ho
       ·exact nU.out o ho
       ·rw[List.mem_singleton.1 ho,<- HX.out];exact HOK.out
      have hlen:(s.objs.take k).length=k:=by rw[List.length_take];omega
      have b0:=SOD.out.box.c1
      have sU:=zh hnew;have PX:=zh hput;have HSR:=zh hsr;have zq:=zh bZ
      clear hf5 hx5 hv5 hf hfm hnew hput hsr bZ
      obtain⟨o00,o01,o02⟩:=O4.out.Ev rfl
      go_wp2_with (at_mapUpdate;go_must (refine JF rfl _ _ _ 81 64 rfl Tryz.underlying81 HX5.out (by show(s.objs.take k).length<maxLen;unfold maxLen;omega) rfl d (Dj x (.slice pa pm pc)) rfl rfl hds ?_);intro w6 hm6 hg6)
      have hs6:=SOD.out.st.putObj (o:=x) (sv:=.slice pa pm pc) HF5.out sU.out (by rw[<- HD.out];exact hm6) hg6 HV5.out
      have hfin:=SOD.out.lF hg6 hs6 rfl
      have Li:StO w1 (fun _=>False) w6 (w3.heap.size+1) (fun k=>F k\/(wr.heap.size<=k/\k<wd.heap.size)) w1.heap.size w3.heap.size (.slice na s.ents.length nc) ⟨s.objs.take (k+1),s.ents,[]⟩:=by
       rw[<- PX.out]
       exact hfin
      have Eh:=zh Li
      clear hs6 hm6 hg6 hfin Li
      have Vj:(Value.string d)=.string (if k+1=0 then (⟨#[]⟩:ByteArray) else dig (s.objs.getD (k+1-1) Obj.none)):=by
       rw[if_neg (by omega),HD.out,HX.out,Nat.add_sub_cancel]
       simp[List.getD_eq_getElem?_getD,hlt]
      have HL2:=zh Vj
      clear Vj
      go_wp2
      exact⟨⟨k+1,_,by omega,by go_num,HL2.out,Eh.out,zq.out,HSR.out⟩,by simp[intOf];omega⟩
     ·have dk0:decide ((0:Int)<k)=true:=zt
      have hlp:k-1<s.objs.length:=by omega
      have sV:last=dig s.objs[k-1]:=by
       rw[HLA.out,if_neg hk0]
       simp[List.getD_eq_getElem?_getD,hlp]
      have HLD:=zh sV
      clear sV
      have hkp:0<k:=by omega
      have hbad:Bt last d=false->¬ Bw s:=fun hlb h=>by
       have h1:=List.pairwise_iff_getElem.1 h.os (k-1) k hlp hlt (by omega)
       rw[<- HLD.out,<- HX.out,<- HD.out,hlb] at h1
       cases h1
      have HBAD:=zh hbad
      clear hbad
      cases h1:Op.bytesLess d.toList last.toList with
      | true =>
        have HN:=zh (HBAD.out (Own.ZX (x:=d) (y:=last) h1))
        go_wp2_with fail
        have T9:=((TB.out.put 1 0 (.map (some w1.heap.size)) rfl).put 1 1 (.slice na s.ents.length nc) rfl).put 1 2 (.map (some w3.heap.size)) rfl
        refine AQ rfl rfl rfl (Al (T9.at1 1 rfl) Tryz.underlying84 rfl AX) ?_
        rw[HR.out]
        exact .inr ⟨HN.out,_,_,_,_,_,rfl,T9.under⟩
      | false =>
        cases h2:(d.toList==last.toList) with
        | true =>
          have he:d=last:=Own.toList_inj (by simpa using h2)
          have HN:=zh (HBAD.out (by rw[he];exact Own.CJ last))
          clear he
          go_wp2_with fail
          have T9:=((TB.out.put 1 0 (.map (some w1.heap.size)) rfl).put 1 1 (.slice na s.ents.length nc) rfl).put 1 2 (.map (some w3.heap.size)) rfl
          refine AQ rfl rfl rfl (Al (T9.at1 1 rfl) Tryz.underlying84 rfl AX) ?_
          rw[HR.out]
          exact .inr ⟨HN.out,_,_,_,_,_,rfl,T9.under⟩
        | false =>
          have hlb:Bt last d=true:=by
           cases hlb:Bt last d with
           | true=>rfl
           | false =>
             have he:=Own.WH (x:=last) (y:=d) hlb h1
             rw[he] at h2
             simp at h2
          have HSN:=zh (OX (f:=dig) (x:=x) Vi.out (fun y hy=>by
           have h3:=Xl (l:=s.objs) (k:=k-1) hlp
           rw[show k-1+1=k by omega] at h3
           rw[h3] at hy
           cases hy
           rw[<- HLD.out,<- HD.out]
           exact hlb))
          clear hlb
          clear b0 b1 b2
          (try clear t00);(try clear t01);(try clear t02);(try clear t10 t11 t12 DI DJ DK)
          go_wp2_with fail
          refine(Cn (.slice ua x.refs.length uc) x.refs _ (HU.out.1.below O2.out.under) hrl).mono ?_
          rintro e wc ⟨v4,rfl,_,_,ho4,hbc⟩
          obtain⟨pa,pm,pc,rfl⟩:=Ah ho4
          have O3:=zh (O2.out.step hbc);have HO4:=zh ho4
          have hzb:=O2.out.under.size
          clear hbc ho4
          (try clear Ka);(try clear o00);(try clear Ke);(try clear o01);(try clear OQ);(try clear o02)
          obtain⟨o00,o01,o02,Ka,Ke,OQ⟩:=O3.out.Hz rfl
          go_upto_region 12 with fail
          (try clear Ka);(try clear o00);(try clear Ke);(try clear o01);(try clear OQ);(try clear o02)
          have O4:=zh (O3.out.put 0 1 (.slice pa pm pc) rfl)
          have HO5:=zh (Ar HO4.out (w':=wc.setCell ⟨wr.heap.size,1,none⟩ (.slice pa pm pc)) (fun k hk=>zo (by have:=Az HO4.out k hk;have:=O2.out.size;have h2:wr.heap.size+1<=wb.heap.size:=this;show k≠wr.heap.size;omega)))
          have zcr:wr.heap.size+1<=wb.heap.size:=O2.out.size
          clear HO4
          generalize wc.setCell ⟨wr.heap.size,1,none⟩ (.slice pa pm pc)=wd at*
          obtain⟨f,hf,hfm⟩:=HSO.out.st.om
          have yX:=HSO.out.box.lt
          have yY:=HSO.out.st.UE
          have yZ:=HSO.out.st.QW
          have SOD:=zh ((HSO.out.below O4.out.under).more (lo:=wr.heap.size) hsz ⟨yX,yY,yZ⟩ (fun k hv=>(HSO.out.st.eb k hv).1))
          have hf5:=hfm.keep (G:=fun k=>F k\/(wr.heap.size<=k/\k<wd.heap.size)) (w':=wd) fun v x hv=>(hv.below O4.out.under).mono fun k hk _=>.inl hk
          have hx5:=hf.below O4.out.under hf.lt
          have hv5:CO (fun k=>F k\/(wr.heap.size<=k/\k<wd.heap.size)) wd (.slice pa pm pc) x.refs:=⟨Am.own HO5.out,fun _ k hk=>by
           obtain⟨cur,hc⟩:=Ao HO5.out hk
           have:=Az HO5.out k hk
           exact⟨.inr ⟨by omega,hc.lt⟩,hc.lt⟩⟩
          have HF5:=zh hf5;have HX5:=zh hx5;have HV5:=zh hv5
          have hnew:has dig (dig x) (s.objs.take k)=false:=Iz HSN.out.2
          have hput:BH dig x (s.objs.take k)=s.objs.take (k+1):=by rw[Lh HSN.out.2,HX.out,List.take_succ_eq_append_getElem hlt]
          have hsr:Srt dig (s.objs.take (k+1)):=by
           have:=HSN.out.1
           rwa [HX.out,<- List.take_succ_eq_append_getElem hlt] at this
          have bZ:∀ o∈s.objs.take (k+1),okO o=true:=by
           rw[List.take_succ_eq_append_getElem hlt]
           intro o ho
           rcases List.mem_append.1 ho with ho|ho
           ·exact nU.out o ho
           ·rw[List.mem_singleton.1 ho,<- HX.out];exact HOK.out
          have hlen:(s.objs.take k).length=k:=by rw[List.length_take];omega
          have b0:=SOD.out.box.c1
          have sU:=zh hnew;have PX:=zh hput;have HSR:=zh hsr;have zq:=zh bZ
          clear hf5 hx5 hv5 hf hfm hnew hput hsr bZ
          obtain⟨o00,o01,o02⟩:=O4.out.Ev rfl
          go_wp2_with (at_mapUpdate;go_must (refine JF rfl _ _ _ 81 64 rfl Tryz.underlying81 HX5.out (by show(s.objs.take k).length<maxLen;unfold maxLen;omega) rfl d (Dj x (.slice pa pm pc)) rfl rfl hds ?_);intro w6 hm6 hg6)
          have hs6:=SOD.out.st.putObj (o:=x) (sv:=.slice pa pm pc) HF5.out sU.out (by rw[<- HD.out];exact hm6) hg6 HV5.out
          have hfin:=SOD.out.lF hg6 hs6 rfl
          have Li:StO w1 (fun _=>False) w6 (w3.heap.size+1) (fun k=>F k\/(wr.heap.size<=k/\k<wd.heap.size)) w1.heap.size w3.heap.size (.slice na s.ents.length nc) ⟨s.objs.take (k+1),s.ents,[]⟩:=by
           rw[<- PX.out]
           exact hfin
          have Eh:=zh Li
          clear hs6 hm6 hg6 hfin Li
          have Vj:(Value.string d)=.string (if k+1=0 then (⟨#[]⟩:ByteArray) else dig (s.objs.getD (k+1-1) Obj.none)):=by
           rw[if_neg (by omega),HD.out,HX.out,Nat.add_sub_cancel]
           simp[List.getD_eq_getElem?_getD,hlt]
          have HL2:=zh Vj
          clear Vj
          go_wp2
          exact⟨⟨k+1,_,by omega,by go_num,HL2.out,Eh.out,zq.out,HSR.out⟩,by simp[intOf];omega⟩
  ·have dk:decide ((k:Int)<s.objs.length)=false:=by simp;omega
   have hkl:k=s.objs.length:=by omega
   have Gi:=HSO.out;have nT:=nU.out;have hsrt:=Vi.out
   rw[hkl,List.take_length] at Gi nT hsrt
   have zcs:=zh Gi;have zbb:=zh nT;have zbc:=zh hsrt
   clear Gi nT hsrt HSO nU Vi
   obtain⟨t00,t01,t02⟩:=TR.out.Ev rfl
   generalize (if k=0 then (⟨#[]⟩:ByteArray) else dig (s.objs.getD (k-1) Obj.none))=last
   go_wp2_with fail
   (try clear t00);(try clear t01);(try clear t02);(try clear t10 t11 t12 DI DJ DK)
   clear TR hsz
   go_loopw [73] (fun i wr=>∃ k:Nat,k<=s.vals.length/\i=.int .i64 k/\StO w1 (fun _=>False) wr (w3.heap.size+1) F w1.heap.size w3.heap.size (.slice na s.ents.length nc) ⟨s.objs,s.ents,s.vals.take k⟩/\(∀ v∈s.vals.take k,Jd v=true)/\Srt Val.name (s.vals.take k)) (fun i _=>s.vals.length-(intOf i).toNat)
   case atStart=>exact⟨0,by omega,rfl,zcs.out,(fun o h=>by cases h),List.Pairwise.nil⟩
   case round=>
    obtain⟨j,hj,rfl,Gi,nV,hsrt⟩:=hrel
    have HSO:=zh Gi;have vL:=zh nV;have Vi:=zh hsrt
    have TR:=zh (T1.out.step Gi.bel)
    clear Gi nV hsrt
    by_cases hlv:j<s.vals.length
    ·have dj:decide ((j:Int)<s.vals.length)=true:=by simp;omega
     obtain⟨b,o,ha,hbl,e0,e1⟩:=UD.cells (HV.out.below TR.out.under) hlv
     subst ha
     obtain⟨x,hx⟩:∃ x,x=s.vals[j]:=⟨_,rfl⟩
     rw[<- hx] at e0 e1
     have hrx:=HRE.out.v x (by rw[hx];exact List.getElem_mem hlv)
     have O1:=zh (show Aj wr _ [(71,#[.string x.name,.string x.data])] from((Bp.nil wr).push 71 #[.string x.name,.string x.data]).boxes)
     have HX:=zh hx
     clear hx
     have o00:(wr.alloc (.cells #[.string x.name,.string x.data] 71)).cell? ⟨wr.heap.size,0,none⟩=some (.string x.name):=O1.out.cell 0 0 rfl rfl
     have Ka:(wr.alloc (.cells #[.string x.name,.string x.data] 71)).frozen? ⟨wr.heap.size,0,none⟩=false:=O1.out.free 0 0 rfl
     have o01:(wr.alloc (.cells #[.string x.name,.string x.data] 71)).cell? ⟨wr.heap.size,1,none⟩=some (.string x.data):=O1.out.cell 0 1 rfl rfl
     have Ke:(wr.alloc (.cells #[.string x.name,.string x.data] 71)).frozen? ⟨wr.heap.size,1,none⟩=false:=O1.out.free 0 1 rfl
     go_upto_region 18 with fail
     clear e0 e1
     (try clear Ka);(try clear o00);(try clear Ke);(try clear o01)
     have SOA:=zh (HSO.out.below O1.out.under);have TA:=zh (TR.out.step O1.out.under)
     have HVA:=zh ((HV.out.below TR.out.under).below O1.out.under)
     generalize (wr.alloc (.cells #[.string x.name,.string x.data] 71))=wa at*
     have hd1:Below wa.heap.size wa wa.drew:=(Below.refl wa.heap.size wa).drew
     obtain⟨o00,o01⟩:=O1.out.vF rfl
     obtain⟨t00,t01,t02⟩:=TA.out.Ev rfl
     obtain⟨t10,t11,t12,DI,DJ,DK⟩:=TA.out.JH rfl
     refine Lex.zl ?_
     obtain⟨b0,b1,b2⟩:=SOA.out.box.c3
     have hmem:x∈s.vals:=by rw[HX.out];exact List.getElem_mem hlv
     cases hnm:EU x.name with
     | false =>
       have HNM:=zh hnm
       clear hnm
       have HNB:=zh (show ¬ Bw s from fun h=>by have h1:=h.vk x hmem;unfold Jd at h1;rw[HNM.out] at h1;cases h1)
       go_wp2_with fail
       refine(DL x.name _).mono ?_
       rintro e wb ⟨rfl,hwb⟩
       subst wb
       rw[HNM.out]
       go_wp2
       refine Lex.ze ?_
       go_wp2_with fail
       have T9:=((TA.out.drew.put 1 0 (.map (some w1.heap.size)) rfl).put 1 1 (.slice na s.ents.length nc) rfl).put 1 2 (.map (some w3.heap.size)) rfl
       refine AQ rfl rfl rfl (Al (T9.at1 1 rfl) Tryz.underlying84 rfl AX) ?_
       rw[HR.out]
       exact .inr ⟨HNB.out,_,_,_,_,_,rfl,T9.under⟩
     | true =>
       have HNM:=zh hnm
       clear hnm
       by_cases hs1:x.data.size<1
       ·have ds1:decide ((x.data.size:Int)<1)=true:=zt
        have HNB:=zh (show ¬ Bw s from fun h=>by have h1:=h.vk x hmem;unfold Jd at h1;simp only[Bool.and_eq_true,decide_eq_true_eq] at h1;omega)
        go_wp2_with fail
        refine(DL x.name _).mono ?_
        rintro e wb ⟨rfl,hwb⟩
        subst wb
        rw[HNM.out]
        go_wp2
        refine Lex.ze ?_
        go_wp2_with fail
        have T9:=((TA.out.drew.put 1 0 (.map (some w1.heap.size)) rfl).put 1 1 (.slice na s.ents.length nc) rfl).put 1 2 (.map (some w3.heap.size)) rfl
        refine AQ rfl rfl rfl (Al (T9.at1 1 rfl) Tryz.underlying84 rfl AX) ?_
        rw[HR.out]
        exact .inr ⟨HNB.out,_,_,_,_,_,rfl,T9.under⟩
       have ds1:decide ((x.data.size:Int)<1)=false:=zf
       by_cases hs2:65536<x.data.size
       ·have ds2:decide ((65536:Int)<x.data.size)=true:=zt
        have HNB:=zh (show ¬ Bw s from fun h=>by have h1:=h.vk x hmem;unfold Jd at h1;simp only[Bool.and_eq_true,decide_eq_true_eq] at h1;omega)
        go_wp2_with fail
        refine(DL x.name _).mono ?_
        rintro e wb ⟨rfl,hwb⟩
        subst wb
        rw[HNM.out]
        go_wp2
        refine Lex.ze ?_
        go_wp2_with fail
        have T9:=((TA.out.drew.put 1 0 (.map (some w1.heap.size)) rfl).put 1 1 (.slice na s.ents.length nc) rfl).put 1 2 (.map (some w3.heap.size)) rfl
        refine AQ rfl rfl rfl (Al (T9.at1 1 rfl) Tryz.underlying84 rfl AX) ?_
        rw[HR.out]
        exact .inr ⟨HNB.out,_,_,_,_,_,rfl,T9.under⟩
       have ds2:decide ((65536:Int)<x.data.size)=false:=zf
       have hvo:Jd x=true:=by
        unfold Jd
        rw[HNM.out,decide_eq_true (show 1<=x.data.size by omega),decide_eq_true (show x.data.size<=65536 by omega)]
        rfl
       have HVO:=zh hvo
       clear hvo
       by_cases hj0:j=0
       ·have hjn:¬ 0<j:=by omega
        have dj0:decide ((0:Int)<j)=false:=zf
        have HSN:=zh (OX (f:=Val.name) (x:=x) Vi.out (fun y hy=>by rw[hj0,List.take_zero] at hy;cases hy))
        have HJ0:=zh hj0
        clear hj0
        go_wp2_with fail
        refine(DL x.name _).mono ?_
        rintro e wb ⟨rfl,hwb⟩
        subst wb
        rw[HNM.out]
        go_wp2
        refine Lex.ze ?_
        clear b0 b1 b2
        have SOD:=zh (SOA.out.below hd1);have OD:=zh O1.out.drew
        (try clear t00);(try clear t01);(try clear t02);(try clear t10 t11 t12 DI DJ DK)
        (try clear Ka);(try clear o00);(try clear Ke);(try clear o01)
        generalize wa.drew=wd at*
        obtain⟨g,hg,hgm⟩:=SOD.out.st.vm
        have hnew:has Val.name x.name (s.vals.take j)=false:=Iz HSN.out.2
        have hput:BH Val.name x (s.vals.take j)=s.vals.take (j+1):=by rw[Lh HSN.out.2,HX.out,List.take_succ_eq_append_getElem hlv]
        have hsr:Srt Val.name (s.vals.take (j+1)):=by
         have:=HSN.out.1
         rwa [HX.out,<- List.take_succ_eq_append_getElem hlv] at this
        have cu:∀ o∈s.vals.take (j+1),Jd o=true:=by
         rw[List.take_succ_eq_append_getElem hlv]
         intro o ho
         rcases List.mem_append.1 ho with ho|ho
         ·exact vL.out o ho
         ·rw[List.mem_singleton.1 ho,<- HX.out];exact HVO.out
        have hlen:(s.vals.take j).length=j:=by rw[List.length_take];omega
        have b2:=SOD.out.box.cell 2
        simp only[zg] at b2
        have HG:=zh hg;have HGM:=zh hgm;have sU:=zh hnew;have PX:=zh hput;have HSR:=zh hsr;have zu:=zh cu
        clear hg hgm hnew hput hsr cu hd1
        obtain⟨o00,o01⟩:=OD.out.vF rfl
        have hns:x.name.size<=maxLen:=by have:=hrx.1;unfold maxLen;omega
        go_wp2_with (at_mapUpdate;go_must (refine JF rfl _ _ _ 82 9 rfl Tryz.underlying82 HG.out (by show(s.vals.take j).length<maxLen;unfold maxLen;omega) rfl x.name (.string x.data) rfl rfl hns ?_);intro w6 hm6 hg6)
        have hs6:=SOD.out.st.Lb (l:=BH Val.name x (s.vals.take j)) (by rw[HGM.out.RH Vi.out];exact hm6) (HGM.out.put x) hg6
        have hfin:=SOD.out.Lb hg6 hs6 rfl
        have Li:StO w1 (fun _=>False) w6 (w3.heap.size+1) F w1.heap.size w3.heap.size (.slice na s.ents.length nc) ⟨s.objs,s.ents,s.vals.take (j+1)⟩:=by
         rw[<- PX.out]
         exact hfin
        have Eh:=zh Li
        clear hs6 hm6 hg6 hfin Li
        go_wp2_with fail
        exact⟨⟨_,_,_,.int .i64 ((j+1:Nat):Int),⟨j+1,by omega,rfl,Eh.out,zu.out,HSR.out⟩,rfl,rfl,rfl,by go_num⟩,by simp[intOf];omega⟩
       ·have hjp:0<j:=by omega
        have dj0:decide ((0:Int)<j)=true:=zt
        have hlp:j-1<s.vals.length:=by omega
        have hix:((j:Int)-1).toNat=j-1:=by omega
        obtain⟨p,hp⟩:∃ p,p=s.vals[j-1]:=⟨_,rfl⟩
        obtain⟨b9,o9,hbo,_,p0,_⟩:=UD.cells HVA.out hlp
        cases hbo
        rw[<- hp] at p0
        have HP:=zh hp
        clear hp
        cases hlb:Op.bytesLess p.name.toList x.name.toList with
        | false =>
          have HNB:=zh (show ¬ Bw s from fun h=>by have h1:=List.pairwise_iff_getElem.1 h.vs (j-1) j hlp hlv (by omega);rw[<- HP.out,<- HX.out] at h1;have h2:Op.bytesLess p.name.toList x.name.toList=true:=h1;rw[hlb] at h2;cases h2)
          go_wp2_with fail
          refine(DL x.name _).mono ?_
          rintro e wb ⟨rfl,hwb⟩
          subst wb
          rw[HNM.out]
          go_wp2
          refine Lex.ze ?_
          go_wp2_with fail
          have T9:=((TA.out.drew.put 1 0 (.map (some w1.heap.size)) rfl).put 1 1 (.slice na s.ents.length nc) rfl).put 1 2 (.map (some w3.heap.size)) rfl
          refine AQ rfl rfl rfl (Al (T9.at1 1 rfl) Tryz.underlying84 rfl AX) ?_
          rw[HR.out]
          exact .inr ⟨HNB.out,_,_,_,_,_,rfl,T9.under⟩
        | true =>
          have HSN:=zh (OX (f:=Val.name) (x:=x) Vi.out (fun y hy=>by
           have h3:=Xl (l:=s.vals) (k:=j-1) hlp
           rw[show j-1+1=j by omega] at h3
           rw[h3] at hy
           cases hy
           rw[<- HP.out]
           exact hlb))
          go_wp2_with fail
          refine(DL x.name _).mono ?_
          rintro e wb ⟨rfl,hwb⟩
          subst wb
          rw[HNM.out]
          go_wp2
          refine Lex.ze ?_
          clear b0 b1 b2
          have SOD:=zh (SOA.out.below hd1);have OD:=zh O1.out.drew
          (try clear t00);(try clear t01);(try clear t02);(try clear t10 t11 t12 DI DJ DK)
          (try clear Ka);(try clear o00);(try clear Ke);(try clear o01)
          generalize wa.drew=wd at*
          obtain⟨g,hg,hgm⟩:=SOD.out.st.vm
          have hnew:has Val.name x.name (s.vals.take j)=false:=Iz HSN.out.2
          have hput:BH Val.name x (s.vals.take j)=s.vals.take (j+1):=by rw[Lh HSN.out.2,HX.out,List.take_succ_eq_append_getElem hlv]
          have hsr:Srt Val.name (s.vals.take (j+1)):=by
           have:=HSN.out.1
           rwa [HX.out,<- List.take_succ_eq_append_getElem hlv] at this
          have cu:∀ o∈s.vals.take (j+1),Jd o=true:=by
           rw[List.take_succ_eq_append_getElem hlv]
           intro o ho
           rcases List.mem_append.1 ho with ho|ho
           ·exact vL.out o ho
           ·rw[List.mem_singleton.1 ho,<- HX.out];exact HVO.out
          have hlen:(s.vals.take j).length=j:=by rw[List.length_take];omega
          have b2:=SOD.out.box.cell 2
          simp only[zg] at b2
          have HG:=zh hg;have HGM:=zh hgm;have sU:=zh hnew;have PX:=zh hput;have HSR:=zh hsr;have zu:=zh cu
          clear hg hgm hnew hput hsr cu hd1
          obtain⟨o00,o01⟩:=OD.out.vF rfl
          have hns:x.name.size<=maxLen:=by have:=hrx.1;unfold maxLen;omega
          go_wp2_with (at_mapUpdate;go_must (refine JF rfl _ _ _ 82 9 rfl Tryz.underlying82 HG.out (by show(s.vals.take j).length<maxLen;unfold maxLen;omega) rfl x.name (.string x.data) rfl rfl hns ?_);intro w6 hm6 hg6)
          have hs6:=SOD.out.st.Lb (l:=BH Val.name x (s.vals.take j)) (by rw[HGM.out.RH Vi.out];exact hm6) (HGM.out.put x) hg6
          have hfin:=SOD.out.Lb hg6 hs6 rfl
          have Li:StO w1 (fun _=>False) w6 (w3.heap.size+1) F w1.heap.size w3.heap.size (.slice na s.ents.length nc) ⟨s.objs,s.ents,s.vals.take (j+1)⟩:=by
           rw[<- PX.out]
           exact hfin
          have Eh:=zh Li
          clear hs6 hm6 hg6 hfin Li
          go_wp2_with fail
          exact⟨⟨_,_,_,.int .i64 ((j+1:Nat):Int),⟨j+1,by omega,rfl,Eh.out,zu.out,HSR.out⟩,rfl,rfl,rfl,by go_num⟩,by simp[intOf];omega⟩
    ·have dj:decide ((j:Int)<s.vals.length)=false:=by simp;omega
     have hjl:j=s.vals.length:=by omega
     have Gi:=HSO.out;have nV:=vL.out;have hsrt:=Vi.out
     rw[hjl,List.take_length] at Gi nV hsrt
     have zw:=zh Gi;have zbd:=zh nV;have zbe:=zh hsrt
     clear Gi nV hsrt HSO vL Vi
     obtain⟨b0,b1,b2⟩:=zw.out.box.c3
     obtain⟨t00,t01,t02⟩:=TR.out.Ev rfl
     obtain⟨t10,t11,t12,DI,DJ,DK⟩:=TR.out.JH rfl
     go_upto_region 22 with fail
     have HI0:=zh (zi b0)
     have HI1:=zh (zi b1)
     have HI2:=zh (zi b2)
     have zdm:=zw.out.box.lt
     refine Lex.zn (fun i=>i=w3.heap.size+1) [0] 6 [4,2] ?_
     simp only[Lex.Bh,zd]
     go_wp2_with fail
     refine(Qm _ _ VZ (.slice ea s.ents.length ec) s.ents _ (HE.out.below TR.out.under.drew) (fun x hx=>by have:=HRE.out.e.2 x hx;omega) (by omega)).mono ?_
     rintro e wb ⟨rfl,hbb⟩
     replace hbb:Below wr.heap.size wr wb:=(Below.refl wr.heap.size wr).drew.trans hbb
     have SOB:=zh (zw.out.below hbb);have TB:=zh (TR.out.step hbb);have HBB:=zh hbb
     clear hbb b0 b1 b2
     (try clear t00);(try clear t01);(try clear t02);(try clear t10 t11 t12 DI DJ DK)
     obtain⟨b0,b1,b2⟩:=SOB.out.box.c3
     obtain⟨t10,t11,t12,DI,DJ,DK⟩:=TB.out.JH rfl
     obtain⟨bad,hbad⟩:∃ b,b=s.ents.any fun x=>decide (65536<x.size):=⟨_,rfl⟩
     rw[<- hbad]
     have HBAD:=zh hbad
     clear hbad
     go_wp2
     refine Lex.Mid.intro (fun i hi hl=>by subst hi;exact HBB.out.block _ hl) ?_
     go_wp2_with fail
     have hkp:∀ k,k≠w.heap.size+1->(((wb.setCell ⟨w.heap.size+1,0,none⟩ (.map (some w1.heap.size))).setCell ⟨w.heap.size+1,1,none⟩ (.slice na s.ents.length nc)).setCell ⟨w.heap.size+1,2,none⟩ (.map (some w3.heap.size))).heap[k]? = wb.heap[k]? :=fun k hk=>by
      rw[zo hk,zo hk,zo hk]
     have HKP:=zh hkp
     clear hkp
     refine Lex.Mid.intro (fun i hi hl=>by subst hi;exact(HKP.out _ (by omega)).trans (HBB.out.block _ hl)) ?_
     go_wp2
     refine Lex.zk ⟨⟨rfl,?_⟩,trivial⟩ ?_
     ·trivial
     go_wp2_with fail
     have T9:=((TB.out.put 1 0 (.map (some w1.heap.size)) rfl).put 1 1 (.slice na s.ents.length nc) rfl).put 1 2 (.map (some w3.heap.size)) rfl
     refine AQ rfl rfl rfl (Al (T9.at1 1 rfl) Tryz.underlying84 rfl AX) ?_
     rw[HR.out]
     cases bad with
     | true =>
       refine .inr ⟨fun h=>?_,_,_,_,_,_,rfl,T9.under⟩
       obtain⟨x,hx,hx2⟩:=List.any_eq_true.1 HBAD.out.symm
       have:=h.es x hx
       have:=of_decide_eq_true hx2
       omega
     | false =>
       have hes:∀ e∈s.ents,e.size<=65536:=fun e he=>by
        have:=List.any_eq_false.1 HBAD.out.symm e he
        simp only[decide_eq_true_eq] at this
        omega
       have hok:Bw s:=⟨by omega,by omega,by omega,zbb.out,zbc.out,hes,zbd.out,zbe.out⟩
       have hup:=Az SOB.out.own
       have hge:=SOB.out.ge
       have hcl:∀ k,SFo F w1.heap.size w3.heap.size (.slice na s.ents.length nc) k->w1.heap.size<=k/\k<wb.heap.size:=by
        rintro k (h|h|h|h)
        ·have:=SOB.out.st.UE;omega
        ·have:=SOB.out.st.QW;omega
        ·rcases SOB.out.sub k h with h|h
         ·exact h.1.elim
         ·exact h
        ·exact⟨hup k h,(SOB.out.st.eb k h).1⟩
       have Py:wb.heap.size<=(((wb.setCell ⟨w.heap.size+1,0,none⟩ (.map (some w1.heap.size))).setCell ⟨w.heap.size+1,1,none⟩ (.slice na s.ents.length nc)).setCell ⟨w.heap.size+1,2,none⟩ (.map (some w3.heap.size))).heap.size:=by simp only[World.setCell,Array.size_modify];exact Nat.le_refl _
       exact .inl ⟨hok,_,_,_,F,rfl,SOB.out.st.keep Py (fun k hk _=>HKP.out k (by have:=hcl k hk;omega)),fun k hk=>by have:=hcl k hk;omega,T9.under⟩
theorem YU (G:Nat->Prop)(v:Value)(s:St)(w:World)(h:StV G w v s)(hr:OY s):
 Calls Tryz.prog 32 #[v] w (YT w s):=by
 obtain⟨vo,ve,vv,rfl,ho,he,hv⟩:=h
 exact OZ G vo ve vv s w ho he.1 hv hr
end Sto
namespace Sto
open Own (Bt Srt BH)
def sW:Value:=.agg #[.slice none 0 0,.slice none 0 0,.slice none 0 0]
def lM (w:World)(s:St)(l:List SOp)(e:Ending)(w' : World):Prop:=
 ((¬ Bw s/\e=.returned (.tuple #[sW,.int .i64 1]))\/
  (Bw s/\∃ c,txn s l=.error c/\e=.returned (.tuple #[sW,.int .i64 c]))\/
  (Bw s/\∃ t v,txn s l=.ok t/\e=.returned (.tuple #[v,.int .i64 0])/\StV (fun k=>w.heap.size<=k) w' v t))/\Below w.heap.size w w'
theorem jD {s:St}{l:List SOp}{c:Int}(h:txn s l=.error c):c=1\/c=6\/c=7:=by
 unfold txn at h
 split at h
 ·exact .inr (WT l h)
 ·cases h;exact .inl rfl
theorem jE (F G:Nat->Prop)(v u:Value)(s:St)(l:List SOp)(w:World)(h:StV F w v s)(hr:OY s)(hl:Nt G w u l)(hrl:∀ x∈l,Fe x)(hll:l.length<=140737488350000):
 Calls Tryz.prog 9 #[v,u] w (lM w s l):=by
 obtain⟨R,hR⟩:∃ R,R=lM w s l:=⟨_,rfl⟩
 rw[<- hR]
 obtain⟨vo,ve,vv,rfl,ho,he,hv⟩:=h
 obtain⟨oa,oc,rfl⟩:=ho.len
 obtain⟨ea,ec,rfl⟩:=he.len
 obtain⟨va,vc,rfl⟩:=hv.len
 obtain⟨la,lc,rfl⟩:=hl.len
 have HR:=zh hR;have HSV:=zh (show StV F w (.agg #[.slice oa s.objs.length oc,.slice ea s.ents.length ec,.slice va s.vals.length vc]) s from⟨_,_,_,rfl,ho,he,hv⟩);have HRE:=zh hr;have HL:=zh hl;have HRL:=zh hrl
 clear hR ho he hv hr hl hrl
 have T1:=zh (show Aj w _ [(26,#[.slice oa s.objs.length oc,.slice ea s.ents.length ec,.slice va s.vals.length vc]),(26,#[.slice none 0 0,.slice none 0 0,.slice none 0 0])] from(((Bp.nil w).push 26 #[.slice oa s.objs.length oc,.slice ea s.ents.length ec,.slice va s.vals.length vc]).push 26 #[.slice none 0 0,.slice none 0 0,.slice none 0 0]).boxes)
 go_enter Tryz.func9,Tryz.ntmps9
 go_upto_region 1 with fail
 generalize ((w.alloc (.cells #[.slice oa s.objs.length oc,.slice ea s.ents.length ec,.slice va s.vals.length vc] 26)).alloc (.cells #[.slice none 0 0,.slice none 0 0,.slice none 0 0] 26))=w1 at*
 obtain⟨t00,t01,t02⟩:=T1.out.Ev rfl
 go_wp2_with fail
 (try clear t00 t01 t02)
 refine(YU F _ s _ (HSV.out.below T1.out.under) HRE.out).mono ?_
 rintro e w2 (⟨hok,mo,mv,ve2,F2,rfl,hc2,hs2,hb2⟩|⟨hno,mo,mv,na,nn,nc,rfl,hb2⟩)
 ·obtain⟨na,nc,rfl⟩:=hc2.en.len
  have T2:=zh (T1.out.step hb2)
  have S1:=zh (show Aj w2 _ [(84,#[.map (some mo),.slice na s.ents.length nc,.map (some mv)])] from((Bp.nil w2).push 84 #[.map (some mo),.slice na s.ents.length nc,.map (some mv)]).boxes)
  have HC2:=zh hc2;have HOK:=zh hok;have HS2:=zh hs2
  clear hc2 hb2 hok hs2
  go_upto_region 4 with fail
  have T3:=zh (T2.out.step S1.out.under)
  generalize (w2.alloc (.cells #[.map (some mo),.slice na s.ents.length nc,.map (some mv)] 84))=w3 at*
  obtain⟨t00,t01,t02⟩:=S1.out.Ev rfl
  go_wp2_with fail
  (try clear t00 t01 t02)
  refine(JK F2 G mo mv (.slice na s.ents.length nc) s (.slice la l.length lc) l _ (HC2.out.below S1.out.under) HOK.out (HL.out.below T3.out.under) HRL.out hll).mono ?_
  intro e w4 hpost
  unfold Fg at hpost
  cases htx:txn s l with
  | error c =>
    rw[htx] at hpost
    obtain⟨rfl,hb4⟩:=hpost
    have dz:(c==(0:Int))=false:=by rw[beq_eq_false_iff_ne];rcases jD htx with h|h|h<;>omega
    have T4:=zh (T3.out.step hb4);have HTX:=zh htx
    clear hb4 htx
    have Q1:=zh (show Aj w4 _ [(84,#[.map none,.slice none 0 0,.map none])] from((Bp.nil w4).push 84 #[.map none,.slice none 0 0,.map none]).boxes)
    have T5:=zh (T4.out.step Q1.out.under)
    have t10:(w4.alloc (.cells #[.map none,.slice none 0 0,.map none] 84)).cell? ⟨w.heap.size+1,0,none⟩=some (.slice none 0 0):=T5.out.cell 1 0 rfl rfl
    have DI:(w4.alloc (.cells #[.map none,.slice none 0 0,.map none] 84)).frozen? ⟨w.heap.size+1,0,none⟩=false:=T5.out.free 1 0 rfl
    have t11:(w4.alloc (.cells #[.map none,.slice none 0 0,.map none] 84)).cell? ⟨w.heap.size+1,1,none⟩=some (.slice none 0 0):=T5.out.cell 1 1 rfl rfl
    have DJ:(w4.alloc (.cells #[.map none,.slice none 0 0,.map none] 84)).frozen? ⟨w.heap.size+1,1,none⟩=false:=T5.out.free 1 1 rfl
    have t12:(w4.alloc (.cells #[.map none,.slice none 0 0,.map none] 84)).cell? ⟨w.heap.size+1,2,none⟩=some (.slice none 0 0):=T5.out.cell 1 2 rfl rfl
    have DK:(w4.alloc (.cells #[.map none,.slice none 0 0,.map none] 84)).frozen? ⟨w.heap.size+1,2,none⟩=false:=T5.out.free 1 2 rfl
    go_wp2_with fail
    (try clear t00 t01 t02);(try clear DI);(try clear t10);(try clear DJ);(try clear t11);(try clear DK);(try clear t12)
    have T9:=((T5.out.put 1 0 (.slice none 0 0) rfl).put 1 1 (.slice none 0 0) rfl).put 1 2 (.slice none 0 0) rfl
    refine AQ rfl rfl rfl (Al (T9.at1 1 rfl) Tryz.underlying26 rfl Dr) ?_
    rw[HR.out]
    exact⟨.inr (.inl ⟨HOK.out,c,HTX.out,rfl⟩),T9.under⟩
  | ok t =>
    rw[htx] at hpost
    obtain⟨mo2,mv2,ve4,F4,rfl,hc4,hs4,hn4,hb4⟩:=hpost
    obtain⟨pa,pc,rfl⟩:=hc4.en.len
    have Ru:=Yi HOK.out htx
    have Q1:=zh (show Aj w4 _ [(84,#[.map (some mo2),.slice pa t.ents.length pc,.map (some mv2)])] from((Bp.nil w4).push 84 #[.map (some mo2),.slice pa t.ents.length pc,.map (some mv2)]).boxes)
    have T4:=zh (T3.out.step hb4);have HTX:=zh htx;have HC4:=zh hc4;have Ld:=zh Ru
    clear hb4 htx hc4 hs4 hn4 Ru
    have T5:=zh (T4.out.step Q1.out.under)
    go_upto_region 7 with fail
    generalize (w4.alloc (.cells #[.map (some mo2),.slice pa t.ents.length pc,.map (some mv2)] 84))=w5 at*
    obtain⟨q00,q01,q02⟩:=Q1.out.Ev rfl
    go_wp2_with fail
    refine(Le F4 mo2 mv2 (.slice pa t.ents.length pc) t _ (HC4.out.below Q1.out.under) Ld.out).mono ?_
    rintro e w6 ⟨v6,rfl,⟨wo,we,wv,rfl,h1,h2,h3⟩,hb6,-⟩
    have T6:=zh (T5.out.step hb6)
    have yV:=zh (show StV (fun k=>w5.heap.size<=k) w6 (.agg #[wo,we,wv]) t from⟨_,_,_,rfl,h1,h2,h3⟩)
    obtain⟨xa,xc,rfl⟩:=h1.len
    obtain⟨ya,yc,rfl⟩:=h2.len
    obtain⟨za,zc,rfl⟩:=h3.len
    clear h1 h2 h3 hb6
    (try clear q00 q01 q02)
    obtain⟨t10,t11,t12,DI,DJ,DK⟩:=T6.out.JH rfl
    go_wp2_with fail
    (try clear t00 t01 t02);(try clear DI);(try clear t10);(try clear DJ);(try clear t11);(try clear DK);(try clear t12)
    have T9:=((T6.out.put 1 0 (.slice xa t.objs.length xc) rfl).put 1 1 (.slice ya t.ents.length yc) rfl).put 1 2 (.slice za t.vals.length zc) rfl
    refine AQ rfl rfl rfl (Al (T9.at1 1 rfl) Tryz.underlying26 rfl Dr) ?_
    rw[HR.out]
    have hz5:w.heap.size+2<=w5.heap.size:=T5.out.size
    have hkp:∀ k,k≠w.heap.size+1->(((w6.setCell ⟨w.heap.size+1,0,none⟩ (.slice xa t.objs.length xc)).setCell ⟨w.heap.size+1,1,none⟩ (.slice ya t.ents.length yc)).setCell ⟨w.heap.size+1,2,none⟩ (.slice za t.vals.length zc)).heap[k]? = w6.heap[k]? :=fun k hk=>by
     rw[zo hk,zo hk,zo hk]
    have hsz:w6.heap.size<=(((w6.setCell ⟨w.heap.size+1,0,none⟩ (.slice xa t.objs.length xc)).setCell ⟨w.heap.size+1,1,none⟩ (.slice ya t.ents.length yc)).setCell ⟨w.heap.size+1,2,none⟩ (.slice za t.vals.length zc)).heap.size:=by simp only[World.setCell,Array.size_modify];exact Nat.le_refl _
    have hst:=yV.out.keep hsz (fun k hk _=>hkp k (by have hk2:w5.heap.size<=k:=hk;omega))
    obtain⟨a1,a2,a3,e1,g1,g2,g3⟩:=hst
    cases e1
    exact⟨.inr (.inr ⟨HOK.out,t,_,HTX.out,rfl,⟨_,_,_,rfl,g1.mono fun k (hk:w5.heap.size<=k) _=>(by show w.heap.size<=k;omega),g2.mono fun k (hk:w5.heap.size<=k) _=>(by show w.heap.size<=k;omega),g3.mono fun k (hk:w5.heap.size<=k) _=>(by show w.heap.size<=k;omega)⟩⟩),T9.under⟩
 ·have _hdummy:=T1
  have S1:=zh (show Aj w2 _ [(84,#[.map (some mo),.slice na nn nc,.map (some mv)])] from((Bp.nil w2).push 84 #[.map (some mo),.slice na nn nc,.map (some mv)]).boxes)
  have T5:=zh ((T1.out.step hb2).step S1.out.under);have HNO:=zh hno
  clear hb2 hno
  have t10:(w2.alloc (.cells #[.map (some mo),.slice na nn nc,.map (some mv)] 84)).cell? ⟨w.heap.size+1,0,none⟩=some (.slice none 0 0):=T5.out.cell 1 0 rfl rfl
  have DI:(w2.alloc (.cells #[.map (some mo),.slice na nn nc,.map (some mv)] 84)).frozen? ⟨w.heap.size+1,0,none⟩=false:=T5.out.free 1 0 rfl
  have t11:(w2.alloc (.cells #[.map (some mo),.slice na nn nc,.map (some mv)] 84)).cell? ⟨w.heap.size+1,1,none⟩=some (.slice none 0 0):=T5.out.cell 1 1 rfl rfl
  have DJ:(w2.alloc (.cells #[.map (some mo),.slice na nn nc,.map (some mv)] 84)).frozen? ⟨w.heap.size+1,1,none⟩=false:=T5.out.free 1 1 rfl
  have t12:(w2.alloc (.cells #[.map (some mo),.slice na nn nc,.map (some mv)] 84)).cell? ⟨w.heap.size+1,2,none⟩=some (.slice none 0 0):=T5.out.cell 1 2 rfl rfl
  have DK:(w2.alloc (.cells #[.map (some mo),.slice na nn nc,.map (some mv)] 84)).frozen? ⟨w.heap.size+1,2,none⟩=false:=T5.out.free 1 2 rfl
  go_wp2_with fail
  (try clear t00 t01 t02);(try clear DI);(try clear t10);(try clear DJ);(try clear t11);(try clear DK);(try clear t12)
  have T9:=((T5.out.put 1 0 (.slice none 0 0) rfl).put 1 1 (.slice none 0 0) rfl).put 1 2 (.slice none 0 0) rfl
  refine AQ rfl rfl rfl (Al (T9.at1 1 rfl) Tryz.underlying26 rfl Dr) ?_
  rw[HR.out]
  exact⟨.inl ⟨HNO.out,rfl⟩,T9.under⟩
end Sto
namespace Sto
open Own (Bt Srt BH)
def jF (w:World)(b:Nat)(x y z:Value):World:=((w.setCell ⟨b,2,none⟩ x).setCell ⟨b,3,none⟩ y).setCell ⟨b,4,none⟩ z
section
variable {w w' w1:World} {p p' p1:StP} {ep ep' : Nat} {s t:St} {c c' : Ac} {x y z:Value}
theorem Nu {b k:Nat}(hk:k≠b):(jF w b x y z).heap[k]? = w.heap[k]? :=by
 unfold jF
 rw[zo hk,zo hk,zo hk]
theorem Xm {b:Nat} : (jF w b x y z).heap.size=w.heap.size:=by
 unfold jF
 simp only[World.size_setCell]
theorem vM {b:Nat} : Fr (fun k=>k=b) w (jF w b x y z):=
 (((Fr.refl (fun k=>k=b) w).setCell (p:=⟨b,2,none⟩) (Or.inl rfl) x).setCell (p:=⟨b,3,none⟩) (Or.inl rfl) y).setCell (p:=⟨b,4,none⟩) (Or.inl rfl) z
theorem BK.turn (h:BK w p ep s c){F:Nat->Prop}{mo mv:Nat}{ve:Value}(ht:StC w F mo mv ve t)(hok:Bw t)(hl:∀ k,SFo F mo mv ve k->k<w.heap.size/\¬ p.j.foot k/\¬ p.d.foot k/\k≠p.sb):
 BK (jF w p.sb (.map (some mo)) ve (.map (some mv))) { p with mo:=mo,mv:=mv,ve:=ve,F:=F } ep t c:=
 ⟨((h.self.set 2 (.map (some mo))).set 3 ve).set 4 (.map (some mv)),ht.keep (by rw [Xm];exact Nat.le_refl _) fun k hk _ => Nu (hl k hk).2.2.2,hok,
   ⟨⟨h.live.jd.AV.keep fun k hF=>Nu fun e=>h.sbn.1 (e ▸ hF),h.live.jd.disk.keep fun k hF=>Nu fun e=>h.sbn.2 (e ▸ hF),h.live.jd.da,h.live.jd.apart,h.live.jd.inn⟩,h.live.holds,h.live.calm,h.live.sized,h.live.chain,h.live.epoch⟩,
   h.ep,h.n8,h.few,fun k hF=>⟨by rw[Xm];exact(hl k hF).1,(hl k hF).2⟩,h.sbn⟩
theorem BK.Xn (h:BK w p ep s c){j' : Bg}{d' : Au}(hs:Ef w w' p.j j' p.d d' c')(hl:Live w' j' d' c')(hc:c'.Aa.length=c.Aa.length)(hf:j'.recs.length<=j'.next):CU w w' p { p with j:=j',d:=d' } ep s c':=by
 have hz:=hs.fr.size
 have hsb:=h.self.lt
 have hn:∀ k,SFo p.F p.mo p.mv p.ve k->¬ (p.j.foot k\/p.d.foot k):=fun k hk=>by
  rintro(e|e)
  ·exact(h.lim k hk).2.1 e
  ·exact(h.lim k hk).2.2.1 e
 refine⟨⟨?_,h.st.fr hs.fr hn,h.ok,hl,hs.epoch.trans h.ep,by rw[hc];exact h.n8,hf,fun k hk=>⟨Nat.lt_of_lt_of_le (h.lim k hk).1 hz,fun hf=>?_,fun hf=>?_,(h.lim k hk).2.2.2⟩,fun hf=>?_,fun hf=>?_⟩,rfl,hs.a,?_,?_,hs.fr.mono ?_⟩
 ·rw[hs.a,hs.jb]
  exact hs.fr.at h.self (by rintro(e|e);exact h.sbn.1 e;exact h.sbn.2 e)
 ·rcases hs.Tp k hf with e|e
  ·exact(h.lim k hk).2.1 e
  ·have:=(h.lim k hk).1;omega
 ·rcases hs.Tq k hf with e|e
  ·exact(h.lim k hk).2.2.1 e
  ·have:=(h.lim k hk).1;omega
 ·rcases hs.Tp _ hf with e|e
  ·exact h.sbn.1 e
  ·have e2:w.heap.size<=p.sb:=e
   omega
 ·rcases hs.Tq _ hf with e|e
  ·exact h.sbn.2 e
  ·have e2:w.heap.size<=p.sb:=e
   omega
 ·rintro k (hk|hk|hk)
  ·exact .inl (.inl hk)
  ·exact(hs.Tp k hk).imp (fun e=>.inr (.inl e)) id
  ·exact(hs.Tq k hk).imp (fun e=>.inr (.inr e)) id
 ·rintro k (hk|hk|hk|hk)
  ·exact .inl (.inl hk)
  ·exact .inl (.inr (.inl hk))
  ·exact(hs.Tp k hk).imp (fun e=>.inr (.inr (.inl e))) id
  ·exact(hs.Tq k hk).imp (fun e=>.inr (.inr (.inr e))) id
 ·rintro k (hk|hk)
  ·exact .inr (.inl hk)
  ·exact .inr (.inr hk)
theorem BK.commit (h:BK w p ep s c){w3 w4:World}{p4:StP}(hb:Below w.heap.size w w3)(hs:CU w3 w4 p p4 ep' s c'){F:Nat->Prop}{mo mv:Nat}{ve:Value}(ht:StC w3 F mo mv ve t)(hok:Bw t)(hF:∀ k,SFo F mo mv ve k->(p.F k/\k<w.heap.size)\/(w.heap.size<=k/\k<w3.heap.size)):
 CU w (jF w4 p4.sb (.map (some mo)) ve (.map (some mv))) p { p4 with mo:=mo,mv:=mv,ve:=ve,F:=F } ep' t c':=by
 have hz:=hb.size
 have hz4:=hs.fr.size
 have hold:∀ k,SFo F mo mv ve k->k<w3.heap.size/\¬ p.core k:=fun k hk=>by
  rcases hF k hk with ⟨h1,h2⟩|⟨h1,h2⟩
  ·have:=h.lim k (.inr (.inr (.inl h1)))
   exact⟨by omega,by rintro(e|e|e);exact this.2.2.2 e;exact this.2.1 e;exact this.2.2.1 e⟩
  ·refine⟨h2,?_⟩
   rintro(e|e|e)
   ·have:=h.self.lt;omega
   ·have:=h.live.jd.AV.lt k e;omega
   ·have:=h.live.jd.disk.lt k e;omega
 have hnew:∀ k,SFo F mo mv ve k->k<w4.heap.size/\¬ p4.core k:=fun k hk=>⟨by have:=(hold k hk).1;omega,fun hc=>by
  rcases hs.core k hc with e|e
  ·exact(hold k hk).2 e
  ·have:=(hold k hk).1;omega⟩
 have ht4:StC w4 F mo mv ve t:=ht.fr hs.fr fun k hk=>(hold k hk).2
 have h5:=hs.at_.turn ht4 hok (fun k hk=>⟨(hnew k hk).1,fun e=>(hnew k hk).2 (.inr (.inl e)),fun e=>(hnew k hk).2 (.inr (.inr e)),fun e=>(hnew k hk).2 (.inl e)⟩)
 refine⟨h5,hs.sb,hs.a,fun k hk=>?_,fun k hk=>?_,Fr.trans (G:=fun k=>k=p4.sb) (Fr.trans (Fr.of_below hb) hs.fr fun k hk=>.inl hk) vM fun k (hk:k=p4.sb)=>.inl (.inl (hk.trans hs.sb))⟩
 ·exact(hs.core k hk).imp id fun e=>by omega
 ·rcases hk with hk|hk|hk|hk
  ·exact .inl (.inl (hk.trans hs.sb))
  ·rcases hF k hk with h1|h1
   ·exact .inl (.inr (.inl (.inr (.inr (.inl h1.1)))))
   ·exact .inr h1.1
  ·rcases hs.foot k (.inr (.inr (.inl hk))) with h1|h1
   ·exact .inl h1
   ·exact .inr (Nat.le_trans hz h1)
  ·rcases hs.foot k (.inr (.inr (.inr hk))) with h1|h1
   ·exact .inl h1
   ·exact .inr (Nat.le_trans hz h1)
end
theorem vN {s t:St}{l:List SOp}(h:txn s l=.ok t):∀ x∈l,D6 x=true:=by
 unfold txn at h
 split at h
 ·rename_i h1
  exact List.all_eq_true.1 h1
 ·cases h
def I4 (w:World)(p:StP)(ep:Nat)(s:St)(c:Ac)(l:List SOp)(e:Ending)(w' : World):Prop:=match txn s l with
 | .error k=>e=.returned (.int .i64 k)/\Below w.heap.size w w'
 | .ok t => if 65536 < (Ca l).size then e = .returned (.int .i64 7) ∧ Below w.heap.size w w'
   else if Bb ((Ca l).size:Nat)<=(p.j.count:Int)-p.j.next then e=.returned (.int .i64 0)/\∃ p',CU w w' p p' ep t (after p.j (Ca l) c)
   else if (Ai (Ad s).size:Int)+Bb ((Ca l).size:Nat)<=AY c.Aa.length then e=.returned (.int .i64 0)/\∃ p' c',CU w w' p p' (ep+1) t c'
   else e=.returned (.int .i64 22)/\Below w.heap.size w w'
theorem cB (p:StP)(ep:Nat)(s:St)(c:Ac)(G:Nat->Prop)(v:Value)(l:List SOp)(w:World)(h:BK w p ep s c)(hep:ep<4611686018427387903)(hl:Nt G w v l)(hr:∀ x∈l,Fe x)(hll:l.length<=1000000):
 Calls Tryz.prog 19 #[.pointer (some ⟨p.sb,0,none⟩),v] w (I4 w p ep s c l):=by
 obtain⟨R,hR⟩:∃ R,R=I4 w p ep s c l:=⟨_,rfl⟩
 rw[<- hR]
 obtain⟨ea,ec,hve⟩:=h.st.en.len
 obtain⟨la,lc,rfl⟩:=hl.len
 have hap:=JK p.F G p.mo p.mv p.ve s (.slice la l.length lc) l w h.st h.ok hl hr (by omega)
 have c2:=h.self.cell 2;have c3:=h.self.cell 3;have c4:=h.self.cell 4
 simp only[DR,List.getElem?_toArray,List.getElem?_cons_zero,List.getElem?_cons_succ] at c2 c3 c4
 rw[hve] at hap c3
 have HR:=zh hR;have H:=zh h;have HL:=zh hl;have HRE:=zh hr;have HAP:=zh hap;have HVE:=zh hve
 clear hR h hl hr hap hve
 go_enter Tryz.func19,Tryz.ntmps19
 go_wp2_with fail
 refine HAP.out.mono ?_
 intro e w1 hpost
 clear c2 c3 c4
 unfold Fg at hpost
 cases htx:txn s l with
 | error k =>
   rw[htx] at hpost
   obtain⟨rfl,hb1⟩:=hpost
   have dz:(k==(0:Int))=false:=by rw[beq_eq_false_iff_ne];rcases jD htx with h|h|h<;>omega
   have HB1:=zh (hb1.trans (((Below.refl w1.heap.size w1).alloc (Nat.le_refl _) (.cells #[.map none,.slice none 0 0,.map none] 84)).mono hb1.size));have HTX:=zh htx
   clear hb1 htx
   go_wp2
   (try go_ret)
   rw[HR.out]
   unfold I4
   rw[HTX.out]
   exact⟨rfl,HB1.out⟩
 | ok t =>
   rw[htx] at hpost
   obtain⟨mo2,mv2,ve4,F4,rfl,hc4,hs4,hn4,hb1⟩:=hpost
   obtain⟨pa,pc,rfl⟩:=hc4.en.len
   have Ru:=Yi H.out.ok htx
   have hall:=vN htx
   have Q1:=zh (show Aj w1 _ [(84,#[.map (some mo2),.slice pa t.ents.length pc,.map (some mv2)])] from((Bp.nil w1).push 84 #[.map (some mo2),.slice pa t.ents.length pc,.map (some mv2)]).boxes)
   have HB1:=zh hb1;have HTX:=zh htx;have HC4:=zh hc4;have Ld:=zh Ru;have jk:=zh hall;have HS4:=zh hs4;have HN4:=zh hn4
   clear hb1 htx hc4 hs4 hn4 Ru hall
   go_upto_region 4 with fail
   generalize (w1.alloc (.cells #[.map (some mo2),.slice pa t.ents.length pc,.map (some mv2)] 84))=w2 at*
   have HB2:=zh (HB1.out.trans (Q1.out.under.mono HB1.out.size))
   go_wp2_with fail
   refine(bU G (.slice la l.length lc) l _ (HL.out.below HB2.out) jk.out hll).mono ?_
   rintro e w3 ⟨rfl,hb3⟩
   have cO:=zh (Q1.out.under.trans (hb3.mono Q1.out.under.size))
   have HB3:=zh (HB2.out.trans (hb3.mono HB2.out.size));have Q3:=zh (Q1.out.step hb3)
   clear hb3
   obtain⟨X,hX⟩:∃ X,X=Ca l:=⟨_,rfl⟩
   rw[<- hX]
   have HX:=zh hX
   have hXe:Ca l=X:=HX.out.symm
   clear hX
   by_cases hbig:65536<X.size
   ·have db:decide ((65536:Int)<X.size)=true:=by simp;omega
    go_wp2
    (try go_ret)
    rw[HR.out]
    unfold I4
    rw[HTX.out,hXe]
    show if 65536<X.size then _ else _
    rw[if_pos hbig]
    exact⟨rfl,HB3.out⟩
   ·have db:decide ((65536:Int)<X.size)=false:=by simp;omega
    obtain⟨K,hK⟩:∃ K:Nat,Bb (X.size:Nat)=K:=⟨(Bb (X.size:Nat)).toNat,by unfold Bb;split;omega;split<;>omega⟩
    have hK1:1<=K/\K<=151:=by
     unfold Bb at hK
     split at hK
     ·omega
     ·split at hK<;>omega
    have HXE:=zh hXe;have HK:=zh hK
    clear hXe hK
    have h3:=zh (H.out.below HB3.out)
    have hjn:=h3.out.live.jd.AV.next
    have hjc:p.j.count<=4096:=by have:=h3.out.live.jd.inn;have:=h3.out.live.jd.disk.most;omega
    have c5:=h3.out.self.cell 5
    simp only[DR,List.getElem?_toArray,List.getElem?_cons_zero,List.getElem?_cons_succ] at c5
    go_wp2_with fail
    refine(SH _ _).mono ?_
    rintro e w4 ⟨rfl,hw4⟩
    subst w4
    rw[HK.out]
    go_wp2_with fail
    refine(Pz p.j _ h3.out.live.jd.AV).mono ?_
    rintro e w4 ⟨rfl,hw4⟩
    subst w4
    by_cases hfree:(K:Int)<=(p.j.count:Int)-p.j.next
    ·have df:decide ((p.j.count:Int)-p.j.next<K)=false:=by simp;omega
     go_upto_region 12 with fail
     clear c5
     have HP:=zh (CU.of_below h3.out (Below.refl w3.heap.size w3).drew)
     have zct:=hfree
     have HLV:=zh (HP.out.at_)
     have cZ:p.j.recs.length<1000000:=by have:=HLV.out.few;have:=HLV.out.live.jd.AV.next;have:=HLV.out.live.jd.inn;have:=HLV.out.live.jd.disk.most;omega
     have happ:=Q8 p.j p.d c X w3.drew HLV.out.live (by omega) cZ
     have c5:=HLV.out.self.cell 5
     simp only[DR,List.getElem?_toArray,List.getElem?_cons_zero,List.getElem?_cons_succ] at c5
     rw[HP.out.sb] at c5
     have zx:=zh happ
     clear happ cZ
     go_wp2_with fail
     refine zx.out.mono ?_
     rintro e w6 ⟨j6,d6,c6,sZ,hl6,⟨_,rfl,hc6,e6,n6⟩|⟨hno,_⟩⟩
     ·rw[HK.out] at n6
      have dh:c6.Aa.length=c.Aa.length:=by rw[hc6,FX]
      have hs6:=HLV.out.Xn sZ hl6 dh (by rw[e6,List.length_append];have:=HLV.out.few;show _+1<=_;omega)
      have ht6:=HP.out.trans hs6
      have hq6:At w6 w1.heap.size 84 #[.map (some mo2),.slice pa t.ents.length pc,.map (some mv2)]:=ht6.fr.at (Q3.out.at1 0 rfl) (fun e=>by
       have hlt:=H.out.lt _ (show p.foot w1.heap.size from by rcases e with e|e|e;exact .inl e;exact .inr (.inr (.inl e));exact .inr (.inr (.inr e)))
       have:=HB1.out.size
       omega)
      have HT6:=zh ht6;have HC6:=zh hc6;have HQ6:=zh hq6
      clear sZ hl6 hc6 e6 n6 dh hs6 ht6 hq6 c5
      have hs6:=HT6.out.at_.self
      have tq:=HT6.out.sb
      have q0:=HQ6.out.cell 0;have q1:=HQ6.out.cell 1;have q2:=HQ6.out.cell 2
      have b2:=hs6.cell 2;have b3:=hs6.cell 3;have b4:=hs6.cell 4;have f2:=hs6.free 2;have f3:=hs6.free 3;have f4:=hs6.free 4
      simp only[DR,List.getElem?_toArray,List.getElem?_cons_zero,List.getElem?_cons_succ] at q0 q1 q2 b2 b3 b4
      rw[tq] at b2 b3 b4 f2 f3 f4
      clear hs6 tq
      go_wp2
      (try go_ret)
      rw[HR.out]
      have hfin:=H.out.commit HB3.out HT6.out (HC4.out.below (cO.out)) Ld.out (fun k hk=>by
       rcases HS4.out k hk with h|h
       ·exact .inl h
       ·exact .inr ⟨h.1,Nat.lt_of_lt_of_le h.2 cO.out.size⟩)
      have zy:=HT6.out.sb
      rw[zy] at hfin
      unfold I4
      rw[HTX.out,HXE.out]
      show if 65536<X.size then _ else _
      rw[if_neg hbig,HK.out]
      rw[if_pos hfree];rw[HC6.out] at hfin;exact⟨rfl,_,hfin⟩
     ·rw[HK.out] at hno
      omega
    ·have df:decide ((p.j.count:Int)-p.j.next<K)=true:=by simp;omega
     have hfi:=Xk p.sb p.d c ep p.mo p.ve p.mv _ p.F s K w3.drew (h3.out.below (Below.refl w3.heap.size w3).drew).self (h3.out.below (Below.refl w3.heap.size w3).drew).st h3.out.ok (h3.out.below (Below.refl w3.heap.size w3).drew).live.jd.disk h3.out.n8 hep (by omega)
     obtain⟨B,hB⟩:∃ B,B=decide (Ai (Ad s).size+K<=AY c.Aa.length):=⟨_,rfl⟩
     rw[<- hB] at hfi
     have HFI:=zh hfi;have HB:=zh hB
     clear hfi hB
     go_wp2_with fail
     refine HFI.out.mono ?_
     rintro e w4 ⟨rfl,hb4⟩
     have z8:=zh ((Below.refl w3.heap.size w3).drew.trans hb4)
     clear hb4 c5
     cases B with
     | false =>
       go_wp2
       (try go_ret)
       rw[HR.out]
       unfold I4
       rw[HTX.out,HXE.out]
       show if 65536<X.size then _ else _
       rw[if_neg hbig,HK.out,if_neg (by omega),if_neg (by have:=of_decide_eq_false HB.out.symm;omega)]
       exact⟨rfl,HB3.out.trans (z8.out.mono HB3.out.size)⟩
     | true =>
       have hle:=of_decide_eq_true HB.out.symm
       have h4:=h3.out.below z8.out
       have hbl:=Vh p ep (ep+1) s c w4 h4 (by omega) (by omega) (by omega)
       rw[show((ep+1:Nat):Int)=(ep:Int)+1 by omega] at hbl
       have c1:=h4.self.cell 1
       simp only[DR,List.getElem?_toArray,List.getElem?_cons_zero,List.getElem?_cons_succ] at c1
       have HBL:=zh hbl;have HLE:=zh hle
       clear hbl hle h4
       go_wp2_with fail
       refine HBL.out.mono ?_
       rintro e w5 ⟨rfl,p4,dw,-,-,-,-,n4,k4,-,-⟩
       have zct:(K:Int)<=(p4.j.count:Int)-p4.j.next:=by rw[n4,k4];have:=HLE.out;omega
       have HP:=zh ((CU.of_below h3.out z8.out).trans dw)
       obtain⟨c4,hc4⟩:∃ z,z=begun (ep+1) (Ad s) c:=⟨_,rfl⟩
       rw[<- hc4] at HP
       clear dw c1 n4 k4 hc4
       have HLV:=zh (HP.out.at_)
       have cZ:p4.j.recs.length<1000000:=by have:=HLV.out.few;have:=HLV.out.live.jd.AV.next;have:=HLV.out.live.jd.inn;have:=HLV.out.live.jd.disk.most;omega
       have happ:=Q8 p4.j p4.d c4 X w5 HLV.out.live (by omega) cZ
       have c5:=HLV.out.self.cell 5
       simp only[DR,List.getElem?_toArray,List.getElem?_cons_zero,List.getElem?_cons_succ] at c5
       rw[HP.out.sb] at c5
       have zx:=zh happ
       clear happ cZ
       go_wp2_with fail
       refine zx.out.mono ?_
       rintro e w6 ⟨j6,d6,c6,sZ,hl6,⟨_,rfl,hc6,e6,n6⟩|⟨hno,_⟩⟩
       ·rw[HK.out] at n6
        have dh:c6.Aa.length=c4.Aa.length:=by rw[hc6,FX]
        have hs6:=HLV.out.Xn sZ hl6 dh (by rw[e6,List.length_append];have:=HLV.out.few;show _+1<=_;omega)
        have ht6:=HP.out.trans hs6
        have hq6:At w6 w1.heap.size 84 #[.map (some mo2),.slice pa t.ents.length pc,.map (some mv2)]:=ht6.fr.at (Q3.out.at1 0 rfl) (fun e=>by
         have hlt:=H.out.lt _ (show p.foot w1.heap.size from by rcases e with e|e|e;exact .inl e;exact .inr (.inr (.inl e));exact .inr (.inr (.inr e)))
         have:=HB1.out.size
         omega)
        have HT6:=zh ht6;have HC6:=zh hc6;have HQ6:=zh hq6
        clear sZ hl6 hc6 e6 n6 dh hs6 ht6 hq6 c5
        have hs6:=HT6.out.at_.self
        have tq:=HT6.out.sb
        have q0:=HQ6.out.cell 0;have q1:=HQ6.out.cell 1;have q2:=HQ6.out.cell 2
        have b2:=hs6.cell 2;have b3:=hs6.cell 3;have b4:=hs6.cell 4;have f2:=hs6.free 2;have f3:=hs6.free 3;have f4:=hs6.free 4
        simp only[DR,List.getElem?_toArray,List.getElem?_cons_zero,List.getElem?_cons_succ] at q0 q1 q2 b2 b3 b4
        rw[tq] at b2 b3 b4 f2 f3 f4
        clear hs6 tq
        go_wp2
        (try go_ret)
        rw[HR.out]
        have hfin:=H.out.commit HB3.out HT6.out (HC4.out.below (cO.out)) Ld.out (fun k hk=>by
         rcases HS4.out k hk with h|h
         ·exact .inl h
         ·exact .inr ⟨h.1,Nat.lt_of_lt_of_le h.2 cO.out.size⟩)
        have zy:=HT6.out.sb
        rw[zy] at hfin
        unfold I4
        rw[HTX.out,HXE.out]
        show if 65536<X.size then _ else _
        rw[if_neg hbig,HK.out]
        rw[if_neg (by omega),if_pos (by have:=HLE.out;omega)];exact⟨rfl,_,_,hfin⟩
       ·rw[HK.out] at hno
        omega
end Sto
end
section
open Go Go.RowKit Go.Maps
end
section
open Go Go.RowKit Go.Maps
theorem YV (v:Value)(xs:List ByteArray)(w:World)(hv:Am w v xs)(hx:∀ x∈xs,x.size<=140737488350000)(hl:xs.length<=140737488350000)(ht:(Cod.texts xs).size<=140737488355328):
 Calls Tryz.prog 135 #[v] w fun e w' => e=.returned (.string (Cod.texts xs))/\Below w.heap.size w w':=by
 obtain⟨a,c,rfl⟩:=hv.len
 have HV:=zh hv;have HX:=zh hx;have HT:=zh ht;clear hv hx ht
 have hts:Cod.texts xs=Cod.uns xs.length++Cod.cat (xs.map Cod.text):=rfl
 have HTS:=zh hts;clear hts
 generalize Cod.texts xs=T at*
 go_enter Tryz.func135,Tryz.ntmps135
 go_wp2_with fail
 refine(Ns xs.length _ (by omega)).mono ?_
 rintro e w1 ⟨rfl,hb1⟩
 obtain⟨u,hu2⟩:∃ u,u=Cod.uns xs.length:=⟨_,rfl⟩
 rw[<- hu2] at HTS ⊢
 have HB1:=zh hb1;clear hu2 hb1
 have hbig:∀ k,(u++Cod.cat ((xs.take k).map Cod.text)).size<=140737488355328:=fun k=>by
  have h1:=bg xs k
  have h2:=HT.out
  rw[HTS.out,Sha.Ab] at h2
  rw[Sha.Ab]
  omega
 have zcu:=zh hbig;clear hbig
 go_wp2
 go_loopw [3,4] (fun o i wr=>∃ k:Nat,k<=xs.length/\i=.int .i64 k/\o=.string (u++Cod.cat ((xs.take k).map Cod.text))/\Below w.heap.size w wr) (fun _ i _=>xs.length-(intOf i).toNat)
 case atStart=>exact⟨0,by omega,rfl,by rw[List.take_zero];show _=Value.string (u++⟨#[]⟩);rw[KI],HB1.out⟩
 case round=>
  obtain⟨k,hk,rfl,rfl,hbl⟩:=hrel
  have HBL:=zh hbl;clear hbl
  by_cases hlt:k<xs.length
  ·have dk:decide ((k:Int)<xs.length)=true:=by simp;omega
   obtain⟨b,o,rfl⟩:=HV.out.addrOf hlt
   have ce:=(HV.out.below HBL.out).cellAt hlt
   obtain⟨s,hs⟩:∃ s,s=xs.getD k ⟨#[]⟩:=⟨_,rfl⟩
   rw[<- hs] at ce
   have hsx:s=xs[k]:=by rw[hs];simp[List.getD_eq_getElem?_getD,hlt]
   have hsz:s.size<=140737488350000:=HX.out s (by rw[hsx];exact List.getElem_mem hlt)
   have hstep:(u++Cod.cat ((xs.take k).map Cod.text))++Cod.text s=u++Cod.cat ((xs.take (k+1)).map Cod.text):=by rw[bf xs k hlt,hsx,ByteArray.append_assoc]
   have hb1:=zcu.out (k+1)
   rw[<- hstep] at hb1
   obtain⟨Y,hY⟩:∃ Y,Y=u++Cod.cat ((xs.take k).map Cod.text):=⟨_,rfl⟩
   rw[<- hY] at hstep hb1 ⊢
   rw[Sha.Ab] at hb1
   have HST:=zh hstep;clear hstep hY hs hsx
   go_wp2_with fail
   refine(QM s _ hsz).mono ?_
   rintro e w2 ⟨rfl,hb2⟩
   have HB2:=zh (HBL.out.trans (hb2.mono HBL.out.size));clear hb2
   generalize Cod.text s=t at*
   go_wp2_with fail
   rw[HST.out]
   exact⟨⟨k+1,by omega,by go_num,rfl,HB2.out⟩,by simp[intOf];omega⟩
  ·have dk:decide ((k:Int)<xs.length)=false:=by simp;omega
   have hf:u++Cod.cat ((xs.take k).map Cod.text)=T:=by rw[List.take_of_length_le (by omega),HTS.out]
   rw[hf]
   clear hf
   go_wp2
   go_ret
   exact⟨rfl,HBL.out⟩
theorem Rx (s:ByteArray)(w:World):Calls Tryz.prog 95 #[.string s] w fun e w' => e=.returned (.bool (decide (s.size=32)))/\w' = w:=by
 go_enter Tryz.func95,Tryz.ntmps95
 go_wp2
 go_ret
 refine⟨?_,rfl⟩
 show Ending.returned (.bool _)=Ending.returned (.bool _)
 congr 2
 rw[Bool.eq_iff_iff]
 simp
 omega
theorem Vk (v:Value)(xs:List ByteArray)(w:World)(h:Am w v xs)(hl:xs.length<=140737488355328):
 Calls Tryz.prog 148 #[v] w fun e w' => e=.returned (.bool (Gg xs))/\w' = w:=by
 obtain⟨a,c,rfl⟩:=h.len
 obtain⟨R,hR⟩:∃ R,R=Gg xs:=⟨_,rfl⟩
 rw[<- hR]
 have HR:=zh hR;have HV:=zh h;clear hR h
 go_enter Tryz.func148,Tryz.ntmps148
 go_wp2
 go_loopw [3] (fun i wr=>∃ k:Nat,k<=xs.length/\i=.int .i64 k/\Gg (xs.take k)=true/\wr=w) (fun i _=>xs.length-(intOf i).toNat)
 case atStart=>exact⟨0,by omega,rfl,rfl,rfl⟩
 case round=>
  obtain⟨k,hk,rfl,hok,rfl⟩:=hrel
  have HOK:=zh hok;clear hok
  by_cases hlt:k<xs.length
  ·have dk:decide ((k:Int)<xs.length)=true:=by simp;omega
   obtain⟨b,o,rfl⟩:=HV.out.addrOf hlt
   have ce:=HV.out.cellAt hlt
   obtain⟨s,hs⟩:∃ s,s=xs.getD k ⟨#[]⟩:=⟨_,rfl⟩
   rw[<- hs] at ce
   have hsx:s=xs[k]:=by rw[hs];simp[List.getD_eq_getElem?_getD,hlt]
   have htk:Gg (xs.take (k+1))=decide (s.size=32):=by
    have:=HOK.out
    unfold Gg at this ⊢
    rw[List.take_succ_eq_append_getElem hlt,List.all_append,this,<- hsx]
    simp
   have hno:s.size≠32->R=false:=fun h=>by
    rw[HR.out]
    unfold Gg
    rw[List.all_eq_false]
    exact⟨s,by rw[hsx];exact List.getElem_mem hlt,by simpa using h⟩
   have HTK:=zh htk;have HNO:=zh hno;clear htk hno hs hsx
   go_wp2_with fail
   refine(Rx s _).mono ?_
   rintro e w2 ⟨rfl,rfl⟩
   by_cases h32:s.size=32
   ·rw[decide_eq_true h32]
    have ht:=HTK.out
    rw[decide_eq_true h32] at ht
    have HT:=zh ht;clear ht h32
    go_wp2
    exact⟨⟨k+1,by omega,by go_num,HT.out,by first|rfl|trivial⟩,by simp[intOf];omega⟩
   ·rw[decide_eq_false h32]
    have ht:=HNO.out h32
    have HT:=zh ht;clear ht h32
    go_wp2
    go_ret
    exact⟨by rw[HT.out];rfl,rfl⟩
  ·have dk:decide ((k:Int)<xs.length)=false:=by simp;omega
   have hf:R=true:=by
    have:=HOK.out
    rw[List.take_of_length_le (by omega)] at this
    rw[HR.out,this]
   have HF:=zh hf;clear hf
   go_wp2
   go_ret
   exact⟨by rw[HF.out];rfl,rfl⟩
theorem tu (xs ys:List ByteArray)(hl:xs.length=ys.length)(h:∀ k,k<xs.length->xs.getD k ⟨#[]⟩=ys.getD k ⟨#[]⟩):xs=ys:=by
 apply List.ext_getElem hl
 intro k h1 h2
 have:=h k h1
 simpa [List.getD_eq_getElem?_getD,h1,h2] using this
theorem bytes_beq {a b:ByteArray} : (a.toList==b.toList)=decide (a=b):=by
 rw[Bool.eq_iff_iff,beq_iff_eq,decide_eq_true_eq]
 constructor
 ·intro h
  rw[ByteArray.toList_eq,ByteArray.toList_eq] at h
  exact Sha.Bl h
 ·intro h;rw[h]
theorem dA (v1 v2:Value)(xs ys:List ByteArray)(w:World)(h1:Am w v1 xs)(h2:Am w v2 ys)(hl1:xs.length<=140737488355328)(hl2:ys.length<=140737488355328):
 Calls Tryz.prog 38 #[v1,v2] w fun e w' => e=.returned (.bool (decide (xs=ys)))/\∃ q,w' = w.drewN q:=by
 obtain⟨a1,c1,rfl⟩:=h1.len
 obtain⟨a2,c2,rfl⟩:=h2.len
 obtain⟨R,hR⟩:∃ R,R=decide (xs=ys):=⟨_,rfl⟩
 rw[<- hR]
 have HR:=zh hR;have HV1:=zh h1;have HV2:=zh h2;clear hR h1 h2
 go_enter Tryz.func38,Tryz.ntmps38
 by_cases hl:xs.length=ys.length
 ·have d0:((xs.length:Int) != ys.length)=false:=by simp;omega
  have d0' : ¬ ((xs.length:Int)=ys.length)↔False:=by simp;omega
  have HL:=zh hl
  have hly:ys.length<=xs.length:=by omega
  have hlx:xs.length<=ys.length:=by omega
  clear hl
  go_wp2
  go_loopw [5] (fun i wr=>∃ k q:Nat,k<=xs.length/\i=.int .i64 k/\(∀ j,j<k->xs.getD j ⟨#[]⟩=ys.getD j ⟨#[]⟩)/\wr=w.drewN q) (fun i _=>xs.length-(intOf i).toNat)
  case atStart=>exact⟨0,0,by omega,rfl,fun j hj=>absurd hj (by omega),rfl⟩
  case round=>
   obtain⟨k,q,hk,rfl,heq,rfl⟩:=hrel
   have HEQ:=zh heq;clear heq
   by_cases hlt:k<xs.length
   ·have dk:decide ((k:Int)<xs.length)=true:=by simp;omega
    have dy:decide ((k:Int)<ys.length)=true:=by simp;omega
    obtain⟨b1,o1,rfl⟩:=HV1.out.addrOf hlt
    obtain⟨b2,o2,rfl⟩:=HV2.out.addrOf (k:=k) (by omega)
    have ce1:=HV1.out.cellAt hlt
    have ce2:=HV2.out.cellAt (k:=k) (by omega)
    obtain⟨s,hs⟩:∃ s,s=xs.getD k ⟨#[]⟩:=⟨_,rfl⟩
    obtain⟨t,ht⟩:∃ t,t=ys.getD k ⟨#[]⟩:=⟨_,rfl⟩
    rw[<- hs] at ce1
    rw[<- ht] at ce2
    have HS:=zh hs;have HT:=zh ht;clear hs ht
    by_cases hst:s=t
    ·have e1:(s.toList==t.toList)=true:=by rw[hst];exact beq_self_eq_true _
     have hnx:∀ j,j<k+1->xs.getD j ⟨#[]⟩=ys.getD j ⟨#[]⟩:=fun j hj=>by
      rcases Nat.lt_or_ge j k with h|h
      ·exact HEQ.out j h
      ·have:j=k:=by omega
       rw[this,<- HS.out,<- HT.out,hst]
     have HNX:=zh hnx;clear hnx hst
     go_wp2
     refine Lex.zl ?_
     go_wp2
     refine Lex.ze ?_
     go_wp2
     exact⟨⟨k+1,q+1,by omega,by go_num,HNX.out,rfl⟩,by simp[intOf];omega⟩
    ·have e1:(s.toList==t.toList)=false:=by rw[bytes_beq];simpa using hst
     have hf:R=false:=by
      rw[HR.out,decide_eq_false]
      intro h
      exact hst (by rw[HS.out,HT.out,h])
     have HF:=zh hf;clear hf hst
     go_wp2
     refine Lex.zl ?_
     go_wp2
     refine Lex.ze ?_
     go_wp2
     go_ret
     exact⟨by rw[HF.out];rfl,q+1,rfl⟩
   ·have dk:decide ((k:Int)<xs.length)=false:=by simp;omega
    have hf:R=true:=by
     rw[HR.out]
     exact decide_eq_true (tu xs ys HL.out (fun j hj=>HEQ.out j (by omega)))
    have HF:=zh hf;clear hf
    go_wp2
    go_ret
    exact⟨by rw[HF.out];rfl,q,rfl⟩
 ·have hf : R = false :=by
   rw[HR.out,decide_eq_false]
   intro h
   exact hl (by rw[h])
  have d0:((xs.length:Int) != ys.length)=true:=by simp;omega
  have HF:=zh hf;clear hf
  go_wp2
  go_ret
  exact⟨by rw[HF.out];rfl,0,rfl⟩
theorem YW (o:Obj)(v:Value)(w:World)(h:Am w v o.refs)(hr:Reach o):
 Calls Tryz.prog 93 #[Dj o v] w fun e w' => e=.returned (.bool (okO o))/\Below w.heap.size w w':=by
 obtain⟨a,c,rfl⟩:=h.len
 obtain⟨k,l,x⟩:=o
 obtain⟨hr1,hr2,hr3⟩:=hr
 unfold Dj
 simp only at h hr1 hr2 hr3 ⊢
 obtain⟨R,hR⟩:∃ R,R=okO ⟨k,l,x⟩:=⟨_,rfl⟩
 rw[<- hR]
 unfold okO at hR
 simp only at hR
 have HR:=zh hR;clear hR
 have hb0:Below w.heap.size w (w.alloc (.cells #[.int .i64 k,.slice a l.length c,.string x] 64)):=zb
 have HB:=zh hb0;have HS:=zh (h.below hb0);clear hb0 h hr1
 go_enter Tryz.func93,Tryz.ntmps93
 by_cases h1:0<=k
 ·have d1:decide (k<0)=false:=by simp;omega
  by_cases h2:k<=15
  ·have d2:decide (15<k)=false:=by simp;omega
   by_cases h3:l.length<=64
   ·have d3:decide ((64:Int)<l.length)=false:=by simp;omega
    by_cases h4:x.size<=65536
    ·have d4:decide ((65536:Int)<x.size)=false:=by simp;omega
     have e:R=Gg l:=by rw[HR.out,decide_eq_true h1,decide_eq_true h2,decide_eq_true h3,decide_eq_true h4];simp
     have HE:=zh e;clear e
     go_wp2_with fail
     refine(Vk _ l _ HS.out (by omega)).mono ?_
     rintro e2 w2 ⟨rfl,rfl⟩
     go_wp2
     go_ret
     exact⟨by rw[HE.out];rfl,HB.out⟩
    ·have d4:decide ((65536:Int)<x.size)=true:=by simp;omega
     have e:R=false:=by rw[HR.out,decide_eq_false h4];simp
     have HE:=zh e;clear e
     go_wp2
     go_ret
     exact⟨by rw[HE.out];rfl,HB.out⟩
   ·have d3:decide ((64:Int)<l.length)=true:=by simp;omega
    have e:R=false:=by rw[HR.out,decide_eq_false h3];simp
    have HE:=zh e;clear e
    go_wp2
    go_ret
    exact⟨by rw[HE.out];rfl,HB.out⟩
  ·have d2:decide (15<k)=true:=by simp;omega
   have e:R=false:=by rw[HR.out,decide_eq_false h2];simp
   have HE:=zh e;clear e
   go_wp2
   go_ret
   exact⟨by rw[HE.out];rfl,HB.out⟩
 ·have d1:decide (k<0)=true:=by simp;omega
  have e:R=false:=by rw[HR.out,decide_eq_false h1];simp
  have HE:=zh e;clear e
  go_wp2
  go_ret
  exact⟨by rw[HE.out];rfl,HB.out⟩
theorem Wd (o:Obj)(v:Value)(w:World)(h:Am w v o.refs)(hr:Reach o):
 Calls Tryz.prog 73 #[Dj o v] w fun e w' => e=.returned (encR o)/\Below w.heap.size w w':=by
 obtain⟨a,c,rfl⟩:=h.len
 obtain⟨R,hR⟩:∃ R,R=encR o:=⟨_,rfl⟩
 rw[<- hR]
 unfold encR at hR
 have hval:=YW o (.slice a o.refs.length c) (w.alloc (.cells #[.int .i64 o.kind,.slice a o.refs.length c,.string o.data] 64)) (h.below zb) hr
 have yE:=zh hval
 have hb0:Below w.heap.size w (w.alloc (.cells #[.int .i64 o.kind,.slice a o.refs.length c,.string o.data] 64)):=zb
 have HR:=zh hR;have HB0:=zh hb0;have HS:=zh h;have HRE:=zh hr;clear hval hR hb0 h hr
 unfold Dj
 go_enter Tryz.func73,Tryz.ntmps73
 go_wp2_with fail
 refine yE.out.mono ?_
 rintro e w1 ⟨rfl,hb1⟩
 cases hok:okO o with
 | false =>
   have hr2:=HR.out
   rw[if_neg (by rw[hok];decide)] at hr2
   have HR2:=zh hr2;clear hr2 hok
   have hb:=HB0.out.trans (hb1.mono HB0.out.size)
   have HBB:=zh hb;clear hb hb1
   go_wp2
   go_ret2
   exact⟨by rw[HR2.out];rfl,HBB.out⟩
 | true =>
   have hr2:=HR.out
   rw[if_pos hok] at hr2
   obtain⟨p1,p2,p3,p4,p5⟩:=Dv hok
   obtain⟨z1,z2⟩:=EI o hok
   have henc:BJ o=Cod.uns o.kind.toNat++Cod.texts o.refs++Cod.text o.data:=by unfold BJ;rw[ByteArray.append_assoc]
   rw[henc] at hr2
   have hu:=Cod.Cu o.kind.toNat
   have ht:=Cod.Cu o.data.size
   have hts:(Cod.text o.data).size<=65546:=by unfold Cod.text;rw[Sha.Ab];omega
   obtain⟨kn,hkn⟩:∃ kn:Nat,o.kind=kn:=⟨o.kind.toNat,by omega⟩
   have hkl:kn<=15:=by omega
   have hpc:∀ x∈o.refs,x.size<=140737488350000:=fun x hx=>by have:=p5 x hx;omega
   have t0:At w1 w.heap.size 64 #[.int .i64 o.kind,.slice a o.refs.length c,.string o.data]:=(At.new w _ _).below hb1 (by simp)
   have k0:=t0.c1
   rw[hkn] at k0 hr2 hu
   rw[Int.toNat_natCast] at hr2 hu
   have hb:=HB0.out.trans (hb1.mono HB0.out.size)
   have HR2:=zh hr2;have HB1:=zh hb;have T0:=zh t0;have HPC:=zh hpc;clear hr2 hb hb1 t0 hpc henc hok p5 hkn p1 p2 z1 HR
   go_wp2_with fail
   refine(aS kn _ (by omega)).mono ?_
   rintro e w2 ⟨rfl,hb2⟩
   have HB2:=zh (HB1.out.trans (hb2.mono HB1.out.size));have T2:=zh (T0.out.below hb2 T0.out.lt)
   have j1:=T2.out.cell 1;have j2:=T2.out.cell 2
   simp only[zg] at j1 j2
   clear hb2 k0
   generalize Cod.uns kn=U at*
   go_wp2
   refine Lex.zn (fun i=>i=w.heap.size) [6] 8 [4,4] ?_
   simp only[Lex.Bh,zd]
   go_wp2_with fail
   refine(YV (.slice a o.refs.length c) o.refs _ ((HS.out.below HB2.out).drewN 1) HPC.out (by omega) (by omega)).mono ?_
   rintro e w3 ⟨rfl,hb3⟩
   have vO:Below w2.heap.size w2 w3:=(Below.refl w2.heap.size w2).drew.trans hb3
   have cO:=zh vO
   have HB3:=zh (HB2.out.trans (vO.mono HB2.out.size));have T3:=zh (T2.out.below vO T2.out.lt)
   have i2:=T3.out.cell 2
   simp only[zg] at i2
   clear hb3 vO j1 j2
   generalize Cod.texts o.refs=V at*
   go_wp2
   refine Lex.Mid.intro (fun i hi hl=>by subst hi;exact cO.out.block _ hl) ?_
   go_wp2_with fail
   refine(QM o.data _ (by omega)).mono ?_
   rintro e w4 ⟨rfl,hb4⟩
   have zcv:=zh (cO.out.trans (hb4.mono cO.out.size))
   have HB4:=zh (HB3.out.trans (hb4.mono HB3.out.size));clear hb4 i2
   generalize Cod.text o.data=X at*
   go_wp2
   refine Lex.Mid.intro (fun i hi hl=>by subst hi;exact zcv.out.block _ hl) ?_
   go_wp2
   refine Lex.zk ⟨⟨rfl,by show(World.cell? _ ⟨w.heap.size,2,none⟩).isSome=true;rw[T2.out.drew.cell 2];rfl⟩,trivial⟩ ?_
   go_wp2
   go_ret2
   exact⟨by rw[HR2.out];rfl,HB4.out⟩
theorem Wh (o:Obj)(v:Value)(w:World)(h:Am w v o.refs)(hr:Reach o):
 Calls Tryz.prog 22 #[Dj o v] w fun e w' => e=.returned (U5 o)/\Below w.heap.size w w':=by
 obtain⟨a,c,rfl⟩:=h.len
 obtain⟨R,hR⟩:∃ R,R=U5 o:=⟨_,rfl⟩
 rw[<- hR]
 unfold U5 at hR
 have hb0:Below w.heap.size w (w.alloc (.cells #[.int .i64 o.kind,.slice a o.refs.length c,.string o.data] 64)):=zb
 have henc:=Wd o (.slice a o.refs.length c) (w.alloc (.cells #[.int .i64 o.kind,.slice a o.refs.length c,.string o.data] 64)) (h.below hb0) hr
 have iY:=zh henc;have HR:=zh hR;have HB0:=zh hb0;clear henc hR hb0 h hr
 unfold Dj
 go_enter Tryz.func22,Tryz.ntmps22
 go_wp2_with fail
 refine iY.out.mono ?_
 rintro e w1 ⟨rfl,hb1⟩
 have HB1:=zh (HB0.out.trans (hb1.mono HB0.out.size));clear hb1
 have hr2:=HR.out
 by_cases hok:okO o=true
 ·rw[if_pos hok] at hr2
  have hz:=(EI o hok).1
  have he:encR o=.tuple #[.string (BJ o),.int .i64 0]:=by unfold encR;rw[if_pos hok]
  rw[he]
  have HR2:=zh hr2;clear hr2 hok he iY HR
  generalize BJ o=S at*
  obtain⟨T,hT⟩:∃ T:ByteArray,T=⟨#[7]⟩++S:=⟨_,rfl⟩
  have hTs:T.size<=70001:=by rw[hT,Sha.Ab];show 1+S.size<=_;omega
  rw[<- hT] at HR2
  have HT:=zh hT;clear hT
  go_wp2_with fail
  rw[<- HT.out]
  refine(rQ T _ (by omega)).mono ?_
  rintro e w2 ⟨rfl,hb2⟩
  have HB2:=zh (HB1.out.trans (hb2.mono HB1.out.size));clear hb2
  go_wp2
  go_ret2
  exact⟨by rw[HR2.out];rfl,HB2.out⟩
 ·rw[if_neg hok] at hr2
  have he:encR o=.tuple #[.string ⟨#[]⟩,.int .i64 1]:=by unfold encR;rw[if_neg hok]
  rw[he]
  have HR2:=zh hr2;clear hr2 hok he iY HR
  go_wp2
  go_ret2
  exact⟨by rw[HR2.out];rfl,HB1.out⟩
end
section
open Go Go.RowKit Go.Maps
def dB (a b:Obj):Bool:=decide (a.kind=b.kind)&&decide (a.data=b.data)&&decide (a.refs=b.refs)
theorem jG (a:Obj):dB a a=true:=by simp[dB]
theorem dD (o p:Obj)(v u:Value)(w:World)(h:Am w v o.refs)(g:Am w u p.refs)(ho:Reach o)(hp:Reach p):
 Calls Tryz.prog 24 #[Dj o v,Dj p u] w fun e w' => e=.returned (.bool (dB o p))/\Below w.heap.size w w':=by
 obtain⟨a,c,rfl⟩:=h.len
 obtain⟨b,d,rfl⟩:=g.len
 obtain⟨k,l,x⟩:=o
 obtain⟨k2,l2,x2⟩:=p
 obtain⟨ho1,ho2,ho3⟩:=ho
 obtain⟨hp1,hp2,hp3⟩:=hp
 unfold Dj
 simp only at h g ho1 ho2 ho3 hp1 hp2 hp3 ⊢
 obtain⟨R,hR⟩:∃ R,R=dB ⟨k,l,x⟩ ⟨k2,l2,x2⟩:=⟨_,rfl⟩
 rw[<- hR]
 unfold dB at hR
 simp only at hR
 have hb0:Below w.heap.size w ((w.alloc (.cells #[.int .i64 k,.slice a l.length c,.string x] 64)).alloc (.cells #[.int .i64 k2,.slice b l2.length d,.string x2] 64)):=zb.alloc (by simp) _
 have HR:=zh hR;have HB:=zh hb0;have HS:=zh (h.below hb0);have HG:=zh (g.below hb0);clear hR hb0 h g ho1 hp1
 go_enter Tryz.func24,Tryz.ntmps24
 by_cases h1:k=k2
 ·have d1:(k==k2)=true:=by simpa using h1
  by_cases h2:x=x2
  ·have d2:(x.toList==x2.toList)=true:=by rw[h2];exact beq_self_eq_true _
   have e:R=decide (l=l2):=by rw[HR.out,decide_eq_true h1,decide_eq_true h2];simp
   have HE:=zh e;clear e h1 h2
   go_wp2_with fail
   refine(dA _ _ l l2 _ HS.out HG.out (by omega) (by omega)).mono ?_
   rintro e2 w2 ⟨rfl,q,rfl⟩
   have HB2:=zh (below_drewN HB.out q)
   generalize decide (l=l2)=D at*
   go_wp2
   go_ret
   exact⟨by rw[HE.out];rfl,HB2.out⟩
  ·have d2:(x.toList==x2.toList)=false:=by rw[bytes_beq];simpa using h2
   have e:R=false:=by rw[HR.out,decide_eq_false h2];simp
   have HE:=zh e;clear e h1 h2
   go_wp2
   go_ret
   exact⟨by rw[HE.out];rfl,HB.out⟩
 ·have d1:(k==k2)=false:=by simpa using h1
  have e:R=false:=by rw[HR.out,decide_eq_false h1];simp
  have HE:=zh e;clear e h1
  go_wp2
  go_ret
  exact⟨by rw[HE.out];rfl,HB.out⟩
namespace Sto
open Own (Bt Srt BH)
def nW (o:Obj):ByteArray:=if okO o then dig o else ⟨#[]⟩
theorem lN {o:Obj}(h:okO o=true):nW o=dig o:=by unfold nW;rw[if_pos h]
theorem zF (o:Obj):∃ k,U5 o=.tuple #[.string (nW o),.int .i64 k]:=by
 cases h:okO o with
 | true=>exact⟨0,by rw[OG h,lN h]⟩
 | false=>exact⟨1,by rw[Y5 h];unfold nW;rw[h];rfl⟩
theorem Wi (o:Obj)(v:Value)(w:World)(h:Am w v o.refs)(hr:Reach o):
 Calls Tryz.prog 30 #[Dj o v] w fun e w' => e=.returned (.string (nW o))/\Below w.heap.size w w':=by
 obtain⟨va,vc,rfl⟩:=h.len
 obtain⟨k,hk⟩:=zF o
 obtain⟨D,hD⟩:∃ D,D=nW o:=⟨_,rfl⟩
 rw[<- hD] at hk ⊢
 have hal:Below w.heap.size w (w.alloc (.cells #[.int .i64 o.kind,.slice va o.refs.length vc,.string o.data] 64)):=zb
 have hdg:=Wh o (.slice va o.refs.length vc) (w.alloc (.cells #[.int .i64 o.kind,.slice va o.refs.length vc,.string o.data] 64)) (h.below hal) hr
 rw[hk] at hdg
 have HDG:=zh hdg;have HAL:=zh hal
 clear hdg hk hD h hr hal
 unfold Dj
 go_enter Tryz.func30,Tryz.ntmps30
 go_wp2_with fail
 refine HDG.out.mono ?_
 rintro e w1 ⟨rfl,hb1⟩
 have HB1:=zh (HAL.out.trans (hb1.mono HAL.out.size))
 clear hb1
 go_wp2
 (try go_ret)
 exact⟨rfl,HB1.out⟩
end Sto
theorem dJ (n:Nat)(w:World)(h1:1<=n)(h2:n<=4096):
 Calls Tryz.prog 12 #[.int .i64 n] w fun e w' => ∃ (d:Au) (v:Value),e=.returned (.tuple #[.pointer (some ⟨d.a,0,none⟩),Yg v (.slice none 0 0)])/\Ak w' d (.blank n)/\
  Am w' v (List.replicate n ⟨#[]⟩)/\Below w.heap.size w w' /\ ∀ k,d.foot k->w.heap.size<=k:=by
 go_enter Tryz.func12,Tryz.ntmps12
 go_wp2_with fail
 refine(oO n _ h1 h2).mono ?_
 rintro e w1 ⟨d,rfl,hd,hb1,Io⟩
 have HD:=zh hd;have HB:=zh hb1;have HF:=zh Io;clear hd hb1 Io
 go_wp2_with fail
 refine(qX n _ h1 h2).mono ?_
 rintro e w2 ⟨v,rfl,ho,hb2⟩
 obtain⟨g,cap,rfl,_⟩:=BM ho (by omega)
 have HO:=zh ho;have HB2:=zh hb2;clear ho hb2
 have Vl:At w2 w.heap.size 41 #[.slice none 0 0,.slice none 0 0]:=((At.new w 41 _).below HB.out (by simp)).below HB2.out (Nat.lt_of_lt_of_le (by simp) HB.out.size)
 have hlt2:=Vl.lt
 have z0:=(Vl.alloc (.cells #[.slice (some ⟨g,0,none⟩) n cap,.slice none 0 0] 41)).free 0;have z1:=(Vl.alloc (.cells #[.slice (some ⟨g,0,none⟩) n cap,.slice none 0 0] 41)).free 1
 have k0:=(Vl.alloc (.cells #[.slice (some ⟨g,0,none⟩) n cap,.slice none 0 0] 41)).cell 0;have k1:=(Vl.alloc (.cells #[.slice (some ⟨g,0,none⟩) n cap,.slice none 0 0] 41)).cell 1
 simp only[zg] at k0 k1
 have y0:=Vl.free 0;have y1:=Vl.free 1;have x0:=Vl.cell 0;have x1:=Vl.cell 1
 simp only[zg] at x0 x1
 have HA2:=zh Vl;clear Vl
 unfold Yg
 go_wp2
 refine Lex.zl ?_
 go_wp2
 refine Lex.ze ?_
 go_wp2_with fail
 have hge:w1.heap.size<=g:=by
  obtain⟨_,⟨h0,_⟩|⟨g',cap',cur,hgv,hle,_⟩⟩:=HO.out
  ·cases h0
  ·cases hgv;exact hle
 have zcp:w.heap.size<w1.heap.size:=Nat.lt_of_lt_of_le (by simp) HB.out.size
 have hne:∀ i:Nat,(Value.slice (some ⟨g,0,none⟩) n cap).ownBlock≠some (⟨w.heap.size,i,none⟩:Addr).block:=by
  intro i e
  have:g=w.heap.size:=by simpa [Value.ownBlock] using e
  omega
 have hset:=(((HA2.out.set 0 (.slice (some ⟨g,0,none⟩) n cap)).set 1 (.slice none 0 0)).alloc (.cells #[.slice (some ⟨g,0,none⟩) n cap,.slice none 0 0] 41))
 have hfr:Fr (fun k=>k=w.heap.size) w2 (((w2.setCell ⟨w.heap.size,0,none⟩ (.slice (some ⟨g,0,none⟩) n cap)).setCell ⟨w.heap.size,1,none⟩ (.slice none 0 0)).alloc (.cells #[.slice (some ⟨g,0,none⟩) n cap,.slice none 0 0] 41)):=
  (((Fr.refl (fun k=>k=w.heap.size) w2).setCell (p:=⟨w.heap.size,0,none⟩) (.inl rfl) _).setCell (p:=⟨w.heap.size,1,none⟩) (.inl rfl) _).alloc _
 have hrows:=((ownsRow_setCell_other (ownsRow_setCell_other HO.out (a:=⟨w.heap.size,0,none⟩) (hne 0) (.slice (some ⟨g,0,none⟩) n cap)) (a:=⟨w.heap.size,1,none⟩) (hne 1) (.slice none 0 0)).alloc (.cells #[.slice (some ⟨g,0,none⟩) n cap,.slice none 0 0] 41))
 refine bodyPost_ret (v:=.tuple #[.pointer (some ⟨d.a,0,none⟩),.agg #[.slice (some ⟨g,0,none⟩) n cap,.slice none 0 0]]) ?_ rfl ⟨d,_,rfl,?_,?_,?_,?_⟩
 ·rw[Pk (p:=3) (u:=2) (ty:=41) rfl]
  have hset':=hset.drew
  simp[asAddr,run_loadVar_row _ w.heap.size 41 41 _ (0,0) _ hset' Tryz.underlying41 rfl TI]
 ·refine(HD.out.below HB2.out (Nat.le_refl _)).fr hfr.drew ?_
  rintro k rfl hk
  have:=HF.out _ hk
  simp at this
  omega
 ·refine Am.own (base:=w1.heap.size) ?_
  rw[List.length_replicate]
  exact hrows
 ·have hb:Below w.heap.size w w2:=(((Below.refl w.heap.size w).alloc (Nat.le_refl _) _).trans (HB.out.mono (by simp))).trans (HB2.out.mono (by omega))
  exact(hb.trans (hfr.below hb.size (fun k hk=>by omega))).drew
 ·intro k hk
  have:=HF.out _ hk
  simp at this
  omega
namespace Sto
def oX:Obj:=⟨5,[],⟨#[120]⟩⟩
def Pb:List SOp:=[⟨0,oX,⟨#[]⟩,⟨#[]⟩⟩,⟨2,Obj.none,⟨#[]⟩,⟨#[101,110,116,114,121]⟩⟩,⟨3,Obj.none,⟨#[110]⟩,⟨#[118]⟩⟩]
def st3:St:=⟨[oX],[⟨#[101,110,116,114,121]⟩],[⟨⟨#[110]⟩,⟨#[118]⟩⟩]⟩
def dK:List SOp:=[⟨3,Obj.none,⟨#[110]⟩,⟨#[]⟩⟩]
theorem okX:okO oX=true:=by decide +kernel
theorem dO:txn St.none Pb=.ok st3:=by rfl
theorem lQ:txn st3 dK=.ok ⟨[oX],[⟨#[101,110,116,114,121]⟩],[]⟩:=by rfl
theorem Qo:(Ca Pb).size<=100:=by decide +kernel
theorem Xo:(Ad St.none).size=3:=by decide +kernel
theorem tC:(Ad st3).size<=100/\1<=(Ad st3).size:=by decide +kernel
theorem jH:∀ x∈Pb,Fe x:=by
 intro x hx
 simp[Pb] at hx
 rcases hx with rfl|rfl|rfl
 ·exact⟨Eu okX,by decide,by decide⟩
 ·exact⟨⟨(fun _ h=>by cases h),by decide,by decide⟩,by decide,by decide⟩
 ·exact⟨⟨(fun _ h=>by cases h),by decide,by decide⟩,by decide,by decide⟩
theorem dP:∀ x∈dK,Fe x:=by
 intro x hx
 simp[dK] at hx
 subst hx
 exact⟨⟨(fun _ h=>by cases h),by decide,by decide⟩,by decide,by decide⟩
theorem zG:lK st3 ⟨#[110]⟩=⟨#[118]⟩:=by rfl
theorem zbf:look dig (dig oX) st3.objs=some oX:=by
 show look dig (dig oX) [oX]=some oX
 rw[CX,if_pos rfl]
end Sto
namespace Sto
def Pf (c:Ac):Ac :={ c with Aa:=(c.Aa.set 0 (zeros 512)).set 1 (zeros 512) }
def Lj:Nat->List (Nat × ByteArray)
 | 0=>[]
 | k+1=>Lj k++[(k,zeros 512)]
theorem Qp:∀ k,(Lj k).length=k
 | 0=>rfl
 | k + 1 => by
   show(Lj k++[_]).length=_
   rw[List.length_append,Qp k]
   rfl
theorem Ma (c:Ac):(Pf c).Aa.length=c.Aa.length:=by
 show((c.Aa.set _ _).set _ _).length=_
 rw[List.length_set,List.length_set]
theorem Nv {c:Ac}(h:Calm c):Calm (Pf c):=⟨h.pend,h.off,h.none⟩
theorem dQ {c:Ac}(h:Calm c)(hz:Ga c):Ga (Pf c):=by
 rw[LQ (Nv h)]
 intro q hq
 rw[Ma] at hq
 show(((c.Aa.set 0 _).set 1 _).getD q ⟨#[]⟩).size<=512
 rw[Ht,Ht]
 split
 ·rw[BI];exact Nat.le_refl _
 ·split
  ·rw[BI];exact Nat.le_refl _
  ·exact(LQ h).1 hz q hq
theorem vP (w:World)(da:Nat):let w':=((w.alloc (.map #[] 0)).alloc (.map #[] 0)).alloc (.cells (DR da 0 w.heap.size (.slice none 0 0) (w.heap.size+1) (.pointer none)) 130)
 StC w' (fun _=>False) w.heap.size (w.heap.size+1) (.slice none 0 0) St.none/\At w' (w.heap.size+2) 130 (DR da 0 w.heap.size (.slice none 0 0) (w.heap.size+1) (.pointer none))/\Below w.heap.size w w':=by
 intro w'
 have e1:(w.alloc (.map #[] 0)).heap.size=w.heap.size+1:=World.size_alloc _ _
 have e2:((w.alloc (.map #[] 0)).alloc (.map #[] 0)).heap.size=w.heap.size+2:=by rw[World.size_alloc,e1]
 have b2:Below (w.heap.size+1) (w.alloc (.map #[] 0)) ((w.alloc (.map #[] 0)).alloc (.map #[] 0)):=(Below.refl _ _).alloc (by rw[e1];exact Nat.le_refl _) _
 have b3:Below (w.heap.size+2) ((w.alloc (.map #[] 0)).alloc (.map #[] 0)) w':=(Below.refl _ _).alloc (by rw[e2];exact Nat.le_refl _) _
 have b13:Below (w.heap.size+1) (w.alloc (.map #[] 0)) w':=b2.trans (b3.mono (by omega))
 have hxm:CY w' w.heap.size 0 (fun _=>none):=(CY.made w).below b13 (by omega)
 have hxv:CY w' (w.heap.size+1) 0 (fun _=>none):=by
  have:=CY.made (w.alloc (.map #[] 0))
  rw[e1] at this
  exact this.below b3 (by omega)
 refine⟨⟨⟨_,hxm,fun k=>rfl⟩,⟨_,hxv,fun k=>rfl⟩,⟨none,0,rfl,.inl rfl⟩,fun k hk=>(by cases hk),⟨id,id,by omega⟩⟩,?_,zb.trans (b13.mono (by omega))⟩
 have:=At.new ((w.alloc (.map #[] 0)).alloc (.map #[] 0)) 130 (DR da 0 w.heap.size (.slice none 0 0) (w.heap.size+1) (.pointer none))
 rw[e2] at this
 exact this
def lS (w:World)(d:Au)(c:Ac)(e:Ending)(w' : World):Prop:=
 ∃ p:StP,e=.returned (.tuple #[.pointer (some ⟨p.sb,0,none⟩),.int .i64 0])/\BK w' p 1 St.none (begun 1 (Ad St.none) (Pf c))/\p.d.a=d.a/\p.j.next=0/\p.j.count=AY c.Aa.length-Ai (Ad St.none).size/\p.j.recs=[]/\p.j.first=Bo c.Aa.length 1+Ai (Ad St.none).size/\(∀ k,p.foot k->d.foot k\/w.heap.size<=k)/\Fr d.foot w w'
theorem dR (d:Au)(c:Ac)(w:World)(h:Ak w d c)(hc:Calm c)(hz:Ga c)(h8:8<=c.Aa.length):
 Calls Tryz.prog 18 #[.pointer (some ⟨d.a,0,none⟩)] w (lS w d c):=by
 obtain⟨R,hR⟩:∃ R,R=lS w d c:=⟨_,rfl⟩
 rw[<- hR]
 have dd:decide ((c.Aa.length:Int)<8)=false:=by simp;omega
 have hmm :=@run_makeMap Tryz.prog
 have HR:=zh hR;have H:=zh h;have HC:=zh hc;have HZ:=zh hz;have H8:=zh h8
 clear hR h hc hz h8
 go_enter Tryz.func18,Tryz.ntmps18
 go_wp2_with fail
 refine(GX d c _ H.out).mono ?_
 rintro e w1 ⟨rfl,hw⟩
 subst w1
 go_wp2_with fail
 clear hmm
 go_loopw [9] (fun i wr=>∃ k:Nat,k<=2/\i=.int .i64 k/\∃ d1,DStep w wr d d1 { c with pending:=Lj k }) (fun i _=>2-(intOf i).toNat)
 case atStart=>
  refine⟨0,Nat.zero_le _,rfl,d,?_⟩
  have e:({ c with pending:=Lj 0 } : Ac)=c:=YP HC.out
  rw[e]
  exact DStep.refl H.out
 case round=>
  obtain⟨k,hk,rfl,⟨dk,hdk⟩⟩:=hrel
  have HDK:=zh hdk
  clear hdk
  by_cases hlt:k<2
  ·have dk2:decide ((k:Int)<2)=true:=by simp;omega
   go_wp2_with fail
   have hrp:=Lg 512 wr (by omega)
   refine hrp.mono ?_
   rintro e w3 ⟨rfl,hb3⟩
   obtain⟨Z,hZ⟩:∃ z,z=zeros 512:=⟨_,rfl⟩
   rw[<- hZ]
   have hlen3:=Qp k
   have hw4:=GY dk _ k Z w3 (by show k<c.Aa.length;have:=H8.out;omega) (by rw[hZ];exact BI _) (by show(Lj k).length<=_;omega) (by show c.recorded.length<=_;rw[HC.out.none];exact Nat.zero_le _) (HDK.out.at_.below hb3 (Nat.le_refl _))
   rw[HDK.out.a] at hw4
   have HW4:=zh hw4;have HB3:=zh hb3;have HZZ:=zh hZ
   clear hw4 hb3 hrp hlen3 hZ
   go_wp2_with fail
   refine HW4.out.mono ?_
   rintro e w5 ⟨rfl,d5,hs5⟩
   have hs6:DStep w w5 d d5 { c with pending:=Lj (k+1) } :=by
    have e:(Ac.note (Ac.wrote { c with pending:=Lj k } k Z) ⟨(k:Int),Z,false⟩) = { c with pending:=Lj (k+1) } :=by
     unfold Ac.note
     rw[if_neg (by show ¬ c.recording=true;rw[HC.out.off];decide),HZZ.out]
     rfl
    have h2:=hs5
    rw[e] at h2
    exact(HDK.out.trans ⟨HDK.out.at_.below HB3.out (Nat.le_refl _),rfl,rfl,rfl,fun _ h=>.inl h,Fr.of_below HB3.out⟩).trans h2
   have HS6:=zh hs6
   clear hs5 hs6
   go_wp2
   exact⟨⟨k+1,by omega,by go_num,⟨d5,HS6.out⟩⟩,by simp[intOf];omega⟩
  ·have dk2:decide ((k:Int)<2)=false:=by simp;omega
   have hk2:k=2:=by omega
   have hlen3:=Qp k
   have hsy:=Lv dk _ wr (by show(Lj k).length<=_;omega) (by show c.recorded.length<=_;rw[HC.out.none];exact Nat.zero_le _) HDK.out.at_
   rw[HDK.out.a] at hsy
   have HSY:=zh hsy;have HK2:=zh hk2
   clear hsy hlen3 hk2
   go_wp2_with fail
   refine HSY.out.mono ?_
   rintro e w5 ⟨rfl,d5,hs5⟩
   have hs6:DStep w w5 d d5 (Pf c):=by
    have e:(Ac.note (Ac.synced { c with pending:=Lj k }) ⟨0,⟨#[]⟩,true⟩)=Pf c:=by
     unfold Ac.note
     rw[if_neg (by show ¬ c.recording=true;rw[HC.out.off];decide),HK2.out]
     have:=HC.out.pend
     cases c
     simp only at this
     subst this
     rfl
    have h2:=hs5
    rw[e] at h2
    exact HDK.out.trans h2
   have HS6:=zh hs6
   clear hs5 hs6 HSY HDK
   have hmm :=@run_makeMap Tryz.prog
   go_upto_region 10 with fail
   clear hmm
   have hns:=vP w5 d.a
   obtain⟨S,hS⟩:∃ S,S=w5.heap.size+1+1:=⟨_,rfl⟩
   have hw6:∃ w6,w6=((w5.alloc (.map #[] 0)).alloc (.map #[] 0)).alloc (.cells #[.pointer (some ⟨d.a,0,none⟩),.int .i64 0,.map (some w5.heap.size),.slice none 0 0,.map (some (w5.heap.size+1)),.pointer none] 130):=⟨_,rfl⟩
   obtain⟨w6,hw6⟩:=hw6
   rw[<- hw6,<- hS]
   obtain⟨n1,n2,n3⟩:=(show StC w6 (fun _=>False) w5.heap.size (w5.heap.size+1) (.slice none 0 0) St.none/\At w6 S 130 (DR d.a 0 w5.heap.size (.slice none 0 0) (w5.heap.size+1) (.pointer none))/\Below w5.heap.size w5 w6 from by rw[hw6,hS];exact hns)
   have hfit:Ai (Ad St.none).size<AY c.Aa.length:=by
    have e:Ai (Ad St.none).size=1:=by decide +kernel
    rw[e]
    unfold AY
    have:=H8.out
    omega
   have hwl:=Ma c
   have hd6:=HS6.out.at_.below n3 (Nat.le_refl _)
   have hsd:¬ d5.foot S:=fun hf=>by have:=HS6.out.at_.lt _ hf;omega
   have hbg:=Ve S d5 (Pf c) 0 1 w5.heap.size (.slice none 0 0) (w5.heap.size+1) (.pointer none) (fun _=>False) St.none w6 (by rw[HS6.out.a];exact n2) n1 Bw.none hd6 (Nv HC.out) (dQ HC.out HZ.out) hsd (by rw[hwl];exact H8.out) (by omega) (by omega) (by rw[hwl];exact hfit) (.inl rfl)
   rw[show((1:Nat):Int)=1 from rfl] at hbg
   have HBG:=zh hbg;have N1:=zh n1;have N3:=zh n3;have HSS:=zh hS;have HWL:=zh hwl;have HSD:=zh hsd;have HSL:=zh n2.lt
   clear hbg n1 n2 n3 hns hw6 hS hfit hwl hd6 hsd
   go_wp2_with fail
   refine HBG.out.mono ?_
   rintro e w7 ⟨j,d7,rfl,hl,ha,e1,e2,e3,e4,e5,hjf,hdf,hat,hfr⟩
   have HP:=zh (show _/\_/\_/\_/\_/\_/\_/\_/\_/\_/\_ from⟨hl,ha,e1,e2,e3,e4,e5,hjf,hdf,hat,hfr⟩)
   clear hl ha e1 e2 e3 e4 e5 hjf hdf hat hfr
   go_wp2
   (try go_ret2)
   rw[HR.out]
   obtain⟨hl,ha,e1,e2,e3,e4,e5,hjf,hdf,hat,hfr⟩:=HP.out
   have hz5:w.heap.size<=w5.heap.size:=HS6.out.fr.size
   have hz6:=N3.out.size
   have hsS:=HSS.out
   have hl5:=HS6.out.at_.lt
   have hmo:=N1.out.UE
   have hmv:=N1.out.QW
   have hz7:=hfr.size
   have hS7:=HSL.out
   have hsl:=hat.lt
   have hcf:∀ k,SFo (fun _=>False) w5.heap.size (w5.heap.size+1) (.slice none 0 0) k->w5.heap.size<=k/\k<S:=by
    rintro k (e|e|e|e)
    ·omega
    ·omega
    ·exact e.elim
    ·cases e
   refine⟨⟨S,w5.heap.size,w5.heap.size+1,.slice none 0 0,fun _=>False,d7,j⟩,rfl,⟨?_,?_,Bw.none,hl,e3,?_,?_,?_,?_⟩,ha.trans HS6.out.a,e5,?_,e4,?_,?_,?_⟩
   ·show At w7 S 130 (DR d7.a 1 w5.heap.size (.slice none 0 0) (w5.heap.size+1) (.pointer (some ⟨j.jb,0,none⟩)))
    rw[ha]
    exact hat
   ·refine N1.out.fr hfr fun k hk hc=>?_
    have:=hcf k hk
    rcases hc with e|e
    ·omega
    ·have:=hl5 k e;omega
   ·rw[Cy,HWL.out];exact H8.out
   ·show j.recs.length<=j.next
    rw[e4];exact Nat.zero_le _
   ·intro k hk
    have hk2:=hcf k hk
    refine⟨by omega,fun hf=>?_,fun hf=>?_,?_⟩
    ·have h9:w6.heap.size<=k:=hjf k hf
     omega
    ·rcases hdf k hf with e|e
     ·have:=hl5 k e;omega
     ·omega
    ·show k≠S
     omega
   ·refine⟨fun hf=>?_,fun hf=>?_⟩
    ·have h9:w6.heap.size<=S:=hjf S hf
     omega
    ·rcases hdf S hf with e|e
     ·exact HSD.out e
     ·omega
   ·show j.count=_
    rw[e2,HWL.out]
   ·show j.first=_
    rw[e1,HWL.out]
   ·rintro k (hk|hk|hk|hk)
    ·right;have h9:k=S:=hk;omega
    ·right;have:=hcf k hk;omega
    ·right;have h9:w6.heap.size<=k:=hjf k hk;omega
    ·rcases hdf k hk with e|e
     ·exact(HS6.out.foot k e)
     ·right;omega
   ·refine Fr.trans (G:=fun k=>k=S\/d5.foot k) (Fr.trans (G:=fun _=>False) HS6.out.fr (Fr.of_below N3.out) fun k hk=>hk.elim) hfr fun k hk=>?_
    rcases hk with e|e
    ·right;omega
    ·exact HS6.out.foot k e
end Sto
namespace Sto
def jI (h:Hd):List Value:=[.int .i64 h.epoch,.int .i64 h.len,.string h.dg]
def hdV (h:Hd):Value:=.agg #[.int .i64 h.epoch,.int .i64 h.len,.string h.dg]
def zbg (w:World)(v:Value)(l:List Hd):Prop:=∃ b o c,v=.slice (some ⟨b,o,none⟩) l.length c/\b<w.heap.size/\∀ i (h:i<l.length),w.cell? ⟨b,o+i*3,none⟩=some (.int .i64 (l[i].epoch:Nat))/\w.cell? ⟨b,o+i*3+1,none⟩=some (.int .i64 (l[i].len:Nat))/\w.cell? ⟨b,o+i*3+2,none⟩=some (.string l[i].dg)
theorem jJ (x y:Hd)(w:World):
 Calls Tryz.prog 46 #[hdV x,hdV y] w fun e w' => e=.returned (.int .i64 (Lib.compareInt x.epoch y.epoch))/\Below w.heap.size w w':=by
 obtain⟨C,hC⟩:∃ C,C=Lib.compareInt (x.epoch:Nat) (y.epoch:Nat):=⟨_,rfl⟩
 rw[<- hC]
 have hcm:=fun W=>Tryz.cmp_Compare_int (x.epoch:Nat) (y.epoch:Nat) W
 rw[<- hC] at hcm
 have HCM:=zh hcm
 have T1:=zh (show Aj w _ [(109,#[.int .i64 x.epoch,.int .i64 x.len,.string x.dg]),(109,#[.int .i64 y.epoch,.int .i64 y.len,.string y.dg])] from(((Bp.nil w).push 109 #[.int .i64 x.epoch,.int .i64 x.len,.string x.dg]).push 109 #[.int .i64 y.epoch,.int .i64 y.len,.string y.dg]).boxes)
 clear hC hcm
 unfold hdV
 go_enter Tryz.func46,Tryz.ntmps46
 go_upto_region 1 with fail
 generalize ((w.alloc (.cells #[.int .i64 x.epoch,.int .i64 x.len,.string x.dg] 109)).alloc (.cells #[.int .i64 y.epoch,.int .i64 y.len,.string y.dg] 109))=w1 at*
 obtain⟨t00,t01,t02⟩:=T1.out.Ev rfl
 obtain⟨t10,t11,t12⟩:=T1.out.zbZ rfl
 go_wp2_with fail
 refine(HCM.out _).mono ?_
 rintro e w2 ⟨rfl,hw2⟩
 subst w2
 go_wp2
 (try go_ret)
 exact⟨rfl,T1.out.under⟩
theorem tF (v:Value)(h0:Hd)(l:List Hd)(w:World)(h:zbg w v (h0::l))(hl:l.length<=1000):
 Calls Tryz.prog 45 #[v,.func (.func 46) #[] #[]] w fun e w' => e=.returned (hdV (FI h0 l))/\Below w.heap.size w w':=by
 obtain⟨M,hM⟩:∃ M,M=FI h0 l:=⟨_,rfl⟩
 rw[<- hM]
 obtain⟨b,o,c,rfl,hbl,hc⟩:=h
 have hlen:(h0::l).length=l.length+1:=rfl
 obtain⟨n,hn⟩:∃ n,n=l.length+1:=⟨_,rfl⟩
 rw[hlen,<- hn]
 have d1:decide ((n:Int)<1)=false:=zf
 have g0:=hc 0 (by simp)
 obtain⟨g0,g1,g2⟩:=g0
 have HC:=zh hc;have HM:=zh hM;have HN:=zh hn
 simp only[List.getElem_cons_zero,Nat.zero_mul,Nat.add_zero] at g0 g1 g2
 have T1:=zh (show Aj w _ [(109,#[.int .i64 0,.int .i64 0,.string ⟨#[]⟩]),(109,#[.int .i64 h0.epoch,.int .i64 h0.len,.string h0.dg])] from(((Bp.nil w).push 109 #[.int .i64 0,.int .i64 0,.string ⟨#[]⟩]).push 109 #[.int .i64 h0.epoch,.int .i64 h0.len,.string h0.dg]).boxes)
 have hn0:0<n:=by omega
 have dn0:decide ((0:Int)<n)=true:=zt
 clear hc hM hlen hn
 go_enter Tryz.func45,Tryz.ntmps45
 go_upto_region 4 with fail
 have hz1:=T1.out.size
 generalize ((w.alloc (.cells #[.int .i64 0,.int .i64 0,.string ⟨#[]⟩] 109)).alloc (.cells #[.int .i64 h0.epoch,.int .i64 h0.len,.string h0.dg] 109))=w1 at*
 clear g0 g1 g2
 go_wp2
 go_loopw [6] (fun i wr=>∃ k:Nat,k<=l.length/\i=.int .i64 ((k:Int)+1)/\Aj w wr [(109,#[.int .i64 0,.int .i64 0,.string ⟨#[]⟩]),(109,(jI (FI h0 (l.take k))).toArray)]) (fun i _=>l.length+1-(intOf i).toNat)
 case atStart=>exact⟨0,Nat.zero_le _,rfl,T1.out⟩
 case round=>
  obtain⟨k,hk,rfl,hbx⟩:=hrel
  obtain⟨m,hm⟩:∃ m,m=FI h0 (l.take k):=⟨_,rfl⟩
  rw[<- hm] at hbx
  have T2:=zh (show Aj w wr [(109,#[.int .i64 0,.int .i64 0,.string ⟨#[]⟩]),(109,#[.int .i64 m.epoch,.int .i64 m.len,.string m.dg])] from hbx)
  have HMM:=zh hm
  clear hbx hm
  obtain⟨m0,m1,m2,m0f,m1f,m2f⟩:=T2.out.JH rfl
  by_cases hlt:k<l.length
  ·have dk:decide ((k:Int)+1<n)=true:=decide_eq_true (by have:=HN.out;omega)
   obtain⟨x,hx⟩:∃ x,x=l[k]:=⟨_,rfl⟩
   obtain⟨g0,g1,g2⟩:=HC.out (k+1) (by show k+1<l.length+1;omega)
   simp only[List.getElem_cons_succ] at g0 g1 g2
   rw[<- hx] at g0 g1 g2
   have hbw:=T2.out.under
   rw[<- hbw.cell hbl] at g0 g1 g2
   have hop:=fun W=>jJ x m W
   have hstep:FI h0 (l.take (k+1))=if m.epoch<x.epoch then x else m:=by
    unfold FI
    rw[List.take_succ_eq_append_getElem hlt,List.foldl_append,<- hx]
    show(if (FI h0 (l.take k)).epoch<x.epoch then x else FI h0 (l.take k))=_
    rw[<- HMM.out]
   have HOP:=zh hop;have HX:=zh hx;have HST:=zh hstep
   clear hop hx hstep hbw
   have hkn:k+1<n:=by have:=HN.out;omega
   go_upto_region 7 with fail
   refine Lex.zl ?_
   go_wp2_with fail
   obtain⟨C,hC⟩:∃ C,C=Lib.compareInt (x.epoch:Nat) (m.epoch:Nat):=⟨_,rfl⟩
   have hop:=HOP.out
   rw[<- hC] at hop
   refine(hop _).mono ?_
   rintro e w4 ⟨rfl,hb4⟩
   replace hb4:Below wr.heap.size wr w4:=(Below.refl wr.heap.size wr).drew.trans hb4
   clear hop m0 m1 m2 m0f m1f m2f g0 g1 g2
   obtain⟨g0,g1,g2⟩:=HC.out (k+1) (by show k+1<l.length+1;omega)
   simp only[List.getElem_cons_succ] at g0 g1 g2
   rw[<- HX.out] at g0 g1 g2
   have T4:=zh (show Aj w w4 [(109,#[.int .i64 0,.int .i64 0,.string ⟨#[]⟩]),(109,#[.int .i64 m.epoch,.int .i64 m.len,.string m.dg])] from T2.out.step hb4)
   have hbw:=T4.out.under
   rw[<- hbw.cell hbl] at g0 g1 g2
   obtain⟨m0,m1,m2,m0f,m1f,m2f⟩:=T4.out.JH rfl
   have HCC:=zh hC
   clear hC hbw hb4
   by_cases hmx:m.epoch<x.epoch
   ·have dc : decide (0 < C) = true :=by
     rw[HCC.out]
     unfold Lib.compareInt
     rw[if_neg (by omega),if_pos (by omega)]
     rfl
    have HS2:=zh (HST.out.trans (if_pos hmx))
    clear hmx
    go_wp2
    refine Lex.ze ?_
    go_wp2_with fail
    have T5:=((T4.out.put 1 0 (.int .i64 x.epoch) rfl).put 1 1 (.int .i64 x.len) rfl).put 1 2 (.string x.dg) rfl
    refine⟨⟨k+1,by omega,by go_num,?_⟩,by simp[intOf];omega⟩
    rw[HS2.out]
    exact T5
   ·have dc : decide (0 < C) = false :=by
     rw[HCC.out]
     unfold Lib.compareInt
     split
     ·rfl
     ·rw[if_neg (by omega)];rfl
    have HS2:=zh (HST.out.trans (if_neg hmx))
    clear hmx
    go_wp2
    refine Lex.ze ?_
    go_wp2_with fail
    refine⟨⟨k+1,by omega,by go_num,?_⟩,by simp[intOf];omega⟩
    rw[HS2.out]
    exact T4.out
  ·have dk:decide ((k:Int)+1<n)=false:=decide_eq_false (by have:=HN.out;omega)
   have hkl:k=l.length:=by omega
   obtain⟨n0,n1,n2,n0f,n1f,n2f⟩:=T2.out.Hz rfl
   have hMm:M=m:=by rw[HM.out,HMM.out,hkl,List.take_length]
   have HMm:=zh hMm
   clear hMm hkl
   go_wp2_with fail
   have T9:=((T2.out.put 0 0 (.int .i64 m.epoch) rfl).put 0 1 (.int .i64 m.len) rfl).put 0 2 (.string m.dg) rfl
   refine UF rfl rfl (Al (T9.at1 0 rfl) Tryz.underlying109 rfl (by kernel_rfl)) ?_
   rw[HMm.out]
   exact⟨rfl,T9.under⟩
end Sto
namespace Sto
def Qq (s:ByteArray):Int:=if numOf s 8<9223372036854775808 then (numOf s 8:Nat) else (numOf s 8:Int)-18446744073709551616
theorem tH (n b:Nat)(hn:n<72057594037927936)(hb:b<256):bits .or .i64 (wrap64 ((n:Int)*256)) (b:Int)=if 256*n+b<9223372036854775808 then ((256*n+b:Nat):Int) else ((256*n+b:Nat):Int)-18446744073709551616:=by
 have h1:(BitVec.ofInt 64 (wrap64 ((n:Int)*256))).toNat=2^8*n:=by
  rw[BitVec.toNat_ofInt]
  unfold wrap64
  omega
 have h2:(BitVec.ofInt 64 (b:Int)).toNat=b:=by
  rw[BitVec.toNat_ofInt]
  omega
 have h3:(BitVec.ofInt 64 (wrap64 ((n:Int)*256)) ||| BitVec.ofInt 64 (b:Int)).toNat=256*n+b:=by
  rw[BitVec.toNat_or,h1,h2,<- Nat.two_pow_add_eq_or_of_lt (by omega:b<2^8) n]
 show IntKind.i64.wrap ((BitVec.ofInt 64 (wrap64 ((n:Int)*256)) ||| BitVec.ofInt 64 (b:Int)).toNat:Int)=_
 rw[h3,IntWalk.i64_left]
 unfold wrap64
 split<;>omega
theorem Hq (s:ByteArray):∀ k,numOf s k<256^k
 | 0=>by show 0<1;omega
 | k + 1 => by
   have h1:=Hq s k
   have h2:=CW s k
   show 256*numOf s k+AJ s k<_
   rw[Nat.pow_succ]
   omega
theorem Xp (s:ByteArray)(w:World)(h1:s.size=8):
 Calls Tryz.prog 99 #[.string s] w fun e w' => e=.returned (.int .i64 (Qq s))/\w' = w:=by
 obtain⟨R,hR⟩:∃ R,R=Qq s:=⟨_,rfl⟩
 rw[<- hR]
 have HR:=zh hR
 clear hR
 go_enter Tryz.func99,Tryz.ntmps99
 go_wp2
 go_loopw [3,5] (fun n i wr=>∃ k:Nat,k<=8/\i=.int .i64 k/\n=.int .i64 (if k=8 then R else (numOf s k:Nat))/\wr=w) (fun _ i _=>8-(intOf i).toNat)
 case atStart=>exact⟨0,by omega,rfl,rfl,rfl⟩
 case round=>
  obtain⟨k,hk,rfl,rfl,rfl⟩:=hrel
  by_cases hlt:k<8
  ·have dk:decide ((k:Int)<8)=true:=by simp;omega
   rw[if_neg (by omega)]
   have hb:=iL s k (by omega)
   have hbl:=CW s k
   have hnl:numOf s k<72057594037927936:=by
    have h9:=Hq s k
    have h10:(256:Nat)^k<=256^7:=Nat.pow_le_pow_right (by omega) (by omega)
    have h11:(256:Nat)^7=72057594037927936:=by decide
    omega
   have hor:=tH (numOf s k) (AJ s k) hnl hbl
   have hst:numOf s (k+1)=256*numOf s k+AJ s k:=rfl
   have HOR:=zh hor;have HST:=zh hst;have HNL:=zh hnl
   clear hor hst hnl
   go_wp2_with fail
   refine⟨⟨k+1,by omega,by go_num,?_,by first|rfl|trivial⟩,by simp[intOf];omega⟩
   rw[HOR.out,<- HST.out]
   by_cases h8:k+1=8
   ·rw[if_pos h8,HR.out]
    unfold Qq
    rw[<- h8]
   ·have hl7 : numOf s (k + 1) < 72057594037927936 :=by
     have h9:=Hq s (k+1)
     have h10:(256:Nat)^(k+1)<=256^7:=Nat.pow_le_pow_right (by omega) (by omega)
     have h11:(256:Nat)^7=72057594037927936:=by decide
     omega
    rw[if_neg h8,if_pos (by omega)]
  ·have dk:decide ((k:Int)<8)=false:=by simp;omega
   rw[if_pos (by omega)]
   go_wp2
   (try go_ret)
   exact⟨rfl,rfl⟩
end Sto
namespace Sto
theorem dropWhile_nil {l:List UInt8} : l.dropWhile (· == 0)=[]↔∀ b∈l,b=0:=by
 induction l with
 | nil=>simp
 | cons x l ih =>
   rw[List.dropWhile_cons]
   by_cases h:x=0
   ·subst h
    simp only[beq_self_eq_true,if_true,List.mem_cons,forall_eq_or_imp,true_and]
    exact ih
   ·rw[if_neg (by simp[h])]
    simp[h]
theorem tJ {l:List UInt8} : Lib.trimB l 0=[]↔∀ b∈l,b=0:=by
 unfold Lib.trimB Lib.trimLeftB Lib.trimRightB
 rw[dropWhile_nil]
 constructor
 ·intro h b hb
  have h1:l.reverse=l.reverse.takeWhile (· == 0)++l.reverse.dropWhile (· == 0):=List.takeWhile_append_dropWhile.symm
  have hm:b∈l.reverse:=List.mem_reverse.2 hb
  rw[h1] at hm
  rcases List.mem_append.1 hm with hm|hm
  ·have:=List.all_takeWhile (l:=l.reverse) (p:=(· == (0:UInt8)))
   rw[List.all_eq_true] at this
   exact eq_of_beq (this b hm)
  ·exact h b (List.mem_reverse.2 hm)
 ·intro h b hb
  exact h b (List.mem_reverse.1 ((List.dropWhile_suffix _).subset (List.mem_reverse.1 hb)))
def jK (n at_:Nat)(E L:Int):Prop:=1<=E/\E<=4611686018427387903/\E%2=at_/\0<=L/\L<=512*(AY n:Nat)/\Ai L.toNat<AY n
def Xq (s:ByteArray):Int:=Qq (s.extract 32 40)
def Xr (s:ByteArray):Int:=Qq (s.extract 40 48)
theorem I5 {x:ByteArray}(h:x.size=8):Ct x=if 0<=Qq x/\Qq x<=4611686018427387903 then Qq x else -1:=by
 have h1:numOf x 8=256*numOf x 7+AJ x 7:=rfl
 have h2:=CW x 7
 have h3:=Hq x 8
 have h4:(256:Nat)^8=18446744073709551616:=by decide
 unfold Ct Qq
 rw[h]
 show(if numOf x 7<_ then _ else _)=_
 by_cases a:numOf x 7<18014398509481984
 ·rw[if_pos a,if_pos (by omega),if_pos (by omega)]
 ·rw[if_neg a]
  by_cases b:numOf x 8<9223372036854775808
  ·rw[if_pos b,if_neg (by omega)]
  ·rw[if_neg b,if_neg (by omega)]
theorem JM {n at_:Nat}{s:ByteArray}(hn:n<=4096)(hs:s.size=512):FH n at_ s↔Sha.sha (⟨#[11]⟩++s.extract 32 512)=s.extract 0 32/\Lib.trimB (s.extract 80 512).data.toList 0=[]/\jK n at_ (Xq s) (Xr s):=by
 have z1:(s.extract 32 40).size=8:=by rw[ByteArray.size_extract];omega
 have z2:(s.extract 40 48).size=8:=by rw[ByteArray.size_extract];omega
 have r1:=I5 z1
 have r2:=I5 z2
 have hz:(∀ b∈(s.extract 80 512).data.toList,b=0)↔∀ i,80<=i->i<512->AJ s i=0:=by
  rw[Sha.Ba]
  constructor
  ·intro h i h1 h2
   have hl:s.data.toList.length=512:=by rw[Sha.Aq,hs]
   have hm:s.data.toList[i]'(by omega)∈(s.data.toList.drop 80).take (512-80):=by
    rw[List.mem_iff_getElem?]
    refine⟨i-80,?_⟩
    rw[List.getElem?_take,if_pos (by omega),List.getElem?_drop,show 80+(i-80)=i by omega,List.getElem?_eq_getElem]
   have:=h _ hm
   unfold AJ
   rw[List.getD_eq_getElem?_getD,List.getElem?_eq_getElem (by omega)]
   show((s.data.toList[i]'(by omega)).toNat)=0
   rw[this]
   rfl
  ·intro h b hb
   obtain⟨i,hi⟩:=List.mem_iff_getElem?.1 hb
   rw[List.getElem?_take] at hi
   split at hi
   ·rename_i h1
    rw[List.getElem?_drop] at hi
    have h2:=h (80+i) (by omega) (by omega)
    unfold AJ at h2
    rw[List.getD_eq_getElem?_getD,hi] at h2
    exact UInt8.toNat_inj.1 (by simpa using h2)
   ·cases hi
 have hE:Xq s=Qq (s.extract 32 40):=rfl
 have hL:Xr s=Qq (s.extract 40 48):=rfl
 rw[<- hE] at r1
 rw[<- hL] at r2
 rw[tJ,hz]
 have hh:AY n<=2047:=by unfold AY;omega
 constructor
 ·intro h
  have a1:=h.ep1;have a2:=h.ep2;have a3:=h.zbS;have a4:=h.len1
  rw[r1] at a1 a2
  rw[r2] at a3 a4
  split at a1
  ·split at a3
   ·rename_i b1 b2
    rw[if_pos b1] at a2
    rw[if_pos b2] at a4
    refine⟨h.sum,h.zero,a1,b1.2,a2,b2.1,?_,a4⟩
    unfold Ai at a4
    omega
   ·omega
  ·omega
 ·rintro⟨h1,h2,a1,a2,a3,a4,a5,a6⟩
  rw[if_pos ⟨by omega,a2⟩] at r1
  rw[if_pos ⟨a4,by omega⟩] at r2
  exact⟨hs,h1,h2,by rw[r1];exact a1,by rw[r1];exact a3,by rw[r2];exact a4,by rw[r2];exact a6⟩
theorem nX {n at_:Nat}{s:ByteArray}(hn:n<=4096)(h:FH n at_ s):Mi s=⟨(Xq s).toNat,(Xr s).toNat,s.extract 48 80⟩:=by
 have hs:=h.size
 have z1:(s.extract 32 40).size=8:=by rw[ByteArray.size_extract];omega
 have z2:(s.extract 40 48).size=8:=by rw[ByteArray.size_extract];omega
 have hh:AY n<=2047:=by unfold AY;omega
 obtain⟨-,-,a1,a2,a3,a4,a5,a6⟩:=(JM hn hs).1 h
 have r1:=I5 z1
 have r2:=I5 z2
 unfold Xq at*
 unfold Xr at*
 rw[if_pos ⟨by omega,a2⟩] at r1
 rw[if_pos ⟨a4,by omega⟩] at r2
 unfold Mi
 rw[r1,r2]
theorem Da:(Tryz.prog.info? 109).map (·.size)=some 3:=by kernel_rfl
def RX (w:World)(c:Ac)(at_:Nat)(e:Ending)(w' : World):Prop:=
 (((c.read at_).2=0/\FH c.Aa.length at_ (c.read at_).1/\e=.returned (.tuple #[.agg #[.int .i64 (Xq (c.read at_).1),.int .i64 (Xr (c.read at_).1),.string ((c.read at_).1.extract 48 80)],.bool true]))\/
  (¬ ((c.read at_).2=0/\FH c.Aa.length at_ (c.read at_).1)/\e=.returned (.tuple #[.agg #[.int .i64 0,.int .i64 0,.string ⟨#[]⟩],.bool false])))/\Below w.heap.size w w'
theorem jL (d:Au)(c:Ac)(at_:Nat)(w:World)(h:Ak w d c)(hp:c.pending.length<=1000000)(hz:(c.read at_).1.size<=9223372036854775000)(h2:2<=c.Aa.length)(ha:at_<=1):
 Calls Tryz.prog 44 #[.pointer (some ⟨d.a,0,none⟩),.int .i64 at_] w (RX w c at_):=by
 obtain⟨R,hR⟩:∃ R,R=RX w c at_:=⟨_,rfl⟩
 rw[<- hR]
 have T1:=zh (show Aj w _ [(109,#[.int .i64 0,.int .i64 0,.string ⟨#[]⟩])] from((Bp.nil w).push 109 #[.int .i64 0,.int .i64 0,.string ⟨#[]⟩]).boxes)
 have hm:=h.most
 have HR:=zh hR;have H:=zh h
 clear hR h
 go_enter Tryz.func44,Tryz.ntmps44
 go_upto_region 1 with fail
 generalize (w.alloc (.cells #[.int .i64 0,.int .i64 0,.string ⟨#[]⟩] 109))=w1 at*
 have H1:=zh (H.out.below T1.out.under (Nat.le_refl _))
 have hrd:=IY d c at_ w1 hp H1.out
 unfold RX at HR
 obtain⟨S,hS⟩:∃ S,S=(c.read at_).1:=⟨_,rfl⟩
 obtain⟨E1,hE1⟩:∃ E,E=(c.read at_).2:=⟨_,rfl⟩
 rw[<- hS,<- hE1] at hrd
 rw[<- hS] at hz
 have HRD:=zh hrd
 have HS:=zh hS;have HE1:=zh hE1
 clear hrd hS hE1
 obtain⟨t00,t01,t02,Ci,Cj,Ck⟩:=T1.out.Hz rfl
 go_wp2_with fail
 refine HRD.out.mono ?_
 rintro e w2 ⟨rfl,hw2⟩
 subst w2
 by_cases he:E1=0
 ·subst he
  have vK:S.size=512\/S.size≠512:=Nat.decEq _ _ |>.em
  rcases vK with hs|hs
  ·have z1:(S.extract 32 512).size=480:=by rw[ByteArray.size_extract];omega
   have hsu:=fun W=>Dw (⟨#[11]⟩++S.extract 32 512) W (by rw[Sha.Ab,z1];decide)
   obtain⟨X,hX⟩:∃ X,X=Sha.sha (⟨#[11]⟩++S.extract 32 512):=⟨_,rfl⟩
   rw[<- hX] at hsu
   have HSU:=zh hsu;have HXE:=zh hX
   clear hsu hX
   go_wp2
   refine Lex.zl ?_
   go_wp2_with fail
   refine(HSU.out _).mono ?_
   rintro e w2 ⟨rfl,hb2⟩
   replace hb2:Below w1.heap.size w1 w2:=(Below.refl w1.heap.size w1).drew.trans hb2
   have T2:=zh (T1.out.step hb2);have H2:=zh (H1.out.below hb2 (Nat.le_refl _))
   clear hb2
   (try clear t00 t01 t02 Ci Cj Ck)
   obtain⟨t00,t01,t02,Ci,Cj,Ck⟩:=T2.out.Hz rfl
   by_cases hxy:X=S.extract 0 32
   ·have dx:(X.toList==(S.extract 0 32).toList)=true:=by rw[beq_toList];exact decide_eq_true hxy
    have dn:(!(X.toList==(S.extract 0 32).toList))=false:=by rw[dx];rfl
    have HXY:=zh hxy
    clear hxy
    have hT:∃ T:ByteArray,T=⟨(Lib.trimB (S.extract 80 512).data.toList 0).toArray⟩:=⟨_,rfl⟩
    obtain⟨TT,hT⟩:=hT
    have htr:=fun W=>Tryz.strings_Trim_one (S.extract 80 512) 0 (by decide) W (by rw[ByteArray.size_extract];omega)
    rw[<- hT] at htr
    have HTR:=zh htr;have HTT:=zh hT
    clear htr hT
    go_wp2_with fail
    refine(HTR.out _).mono ?_
    rintro e w3 ⟨rfl,hw3⟩
    have hb3:Below w2.heap.size w2 w3:=by
     rcases hw3 with rfl|rfl
     ·exact Below.refl _ _
     ·exact(Below.refl _ _).drew
    have T3:=zh (T2.out.step hb3);have H3:=zh (H2.out.below hb3 (Nat.le_refl _))
    clear hb3 hw3
    (try clear t00 t01 t02 Ci Cj Ck)
    obtain⟨t00,t01,t02,Ci,Cj,Ck⟩:=T3.out.Hz rfl
    by_cases hte:TT=⟨#[]⟩
    ·subst hte
     go_wp2
     refine Lex.ze ?_
     have r1:=fun W=>Xp (S.extract 32 40) W (by rw[ByteArray.size_extract];omega)
     have r2:=fun W=>Xp (S.extract 40 48) W (by rw[ByteArray.size_extract];omega)
     obtain⟨EE,hEE⟩:∃ z,z=Xq S:=⟨_,rfl⟩
     obtain⟨LL,hLL⟩:∃ z,z=Xr S:=⟨_,rfl⟩
     rw[show Qq (S.extract 32 40)=EE from hEE.symm] at r1
     rw[show Qq (S.extract 40 48)=LL from hLL.symm] at r2
     have hih:=JM (at_:=at_) hm hs
     rw[<- hEE,<- hLL,<- HXE.out,<- HXY.out] at hih
     have hth:Lib.trimB (S.extract 80 512).data.toList 0=[]:=by
      have:=congrArg (fun b:ByteArray=>b.data.toList) HTT.out
      exact this.symm
     have zbh:FH c.Aa.length at_ S↔jK c.Aa.length at_ EE LL:=hih.trans ⟨fun h=>h.2.2,fun h=>⟨rfl,hth,h⟩⟩
     have HR1:=zh r1;have HR2:=zh r2;have HIH:=zh zbh;have HEE:=zh hEE;have HLL:=zh hLL
     clear r1 r2 hih hth zbh hEE hLL HSU HTR
     go_upto_region 4 with fail
     refine Lex.IG (fun _=>False) [] [9] 10 [.pure 2,.call,.pure 2,.call,.pure 3,.new] [] (by kernel_rfl) (by kernel_rfl) (by kernel_rfl) ?_
     simp only[Lex.JY,Lex.Bh,zd]
     have BD3:=zh (show Below w3.heap.size w3 w3.drew from(Below.refl _ _).drew)
     have ZD3:=zh (show w3.drew.heap.size=w3.heap.size by rw[lX])
     (try clear t00 t01 t02 Ci Cj Ck)
     go_wp2
     refine Lex.UK.intro ?_
     intro w4 hg4
     have HB4:=zh (BD3.out.trans (hg4.mono BD3.out.size))
     clear hg4
     go_wp2_with fail
     refine(HR1.out w4).mono ?_
     rintro e w5 ⟨rfl,hw5⟩
     subst w5
     go_wp2
     refine Lex.UL.intro (fun k hk _=>hk.elim) (Lex.Kept.of_below (Below.refl _ _)) ?_
     go_wp2
     refine Lex.UK.intro ?_
     intro w5 hg5
     have HB5:=zh (HB4.out.trans (hg5.mono HB4.out.size))
     clear hg5
     go_wp2_with fail
     refine(HR2.out w5).mono ?_
     rintro e w6 ⟨rfl,hw6⟩
     subst w6
     go_wp2
     refine Lex.UL.intro (fun k hk _=>hk.elim) (Lex.Kept.of_below (Below.refl _ _)) ?_
     go_wp2
     refine Lex.UK.intro ?_
     intro w6 hw6
     go_wp2
     refine Lex.jh.intro (fun w7 hg hk _=>?_)
     have hs7:=hk.at_
     obtain⟨SB,hSB⟩:∃ SB,SB=w6.heap.size:=⟨_,rfl⟩
     have hsb:w3.heap.size<=SB:=by rw[hSB,<- ZD3.out];exact hw6
     rw[<- hSB] at hs7 ⊢
     have hb7:=HB5.out.trans (hg.mono HB5.out.size)
     have s0:=hs7.cell 0;have s1:=hs7.cell 1;have s2:=hs7.cell 2;have s3:=hs7.free 0;have s4:=hs7.free 1;have s5:=hs7.free 2
     simp only[zg] at s0 s1 s2
     have hb8:=((hb7.setCell (p:=⟨SB,0,none⟩) hsb (.int .i64 EE)).setCell (p:=⟨SB,1,none⟩) hsb (.int .i64 LL)).setCell (p:=⟨SB,2,none⟩) hsb (.string (S.extract 48 80))
     have hs8:At (((w7.setCell ⟨SB,0,none⟩ (.int .i64 EE)).setCell ⟨SB,1,none⟩ (.int .i64 LL)).setCell ⟨SB,2,none⟩ (.string (S.extract 48 80))) SB 109 #[.int .i64 EE,.int .i64 LL,.string (S.extract 48 80)]:=((hs7.set 0 _).set 1 _).set 2 _
     have T8:=zh (T3.out.step hb8);have H8:=zh (H3.out.below hb8 (Nat.le_refl _));have HS8:=zh hs8
     clear hg hk hb7 hs7 hSB hw6 hb8 hs8
     go_wp2
     refine Lex.zk trivial ?_
     clear s0 s1 s2 s3 s4 s5
     generalize ((w7.setCell ⟨SB,0,none⟩ (.int .i64 EE)).setCell ⟨SB,1,none⟩ (.int .i64 LL)).setCell ⟨SB,2,none⟩ (.string (S.extract 48 80))=w8 at*
     obtain⟨s0,s1,s2⟩:=HS8.out.c3
     obtain⟨t00,t01,t02,Ci,Cj,Ck⟩:=T8.out.Hz rfl
     have hnot:¬ jK c.Aa.length at_ EE LL->¬ ((c.read at_).2=0/\FH c.Aa.length at_ (c.read at_).1):=fun hn hh=>hn (HIH.out.1 (by rw[HS.out];exact hh.2))
     have hHf:=fun W (hW:Ak W d c)=>GJ d c W hW h2
     obtain⟨H0,hH0⟩:∃ z,z=AY c.Aa.length:=⟨_,rfl⟩
     have hHl:H0<=2047:=by rw[hH0];unfold AY;omega
     rw[<- hH0] at hHf
     have HNT:=zh hnot;have HHF:=zh hHf;have HH0:=zh hH0
     have HI1:=zh (zi s1)
     clear hnot hHf hH0
     by_cases e1:EE<1
     ·have d1:decide (EE<1)=true:=decide_eq_true e1
      go_wp2
      refine Lex.zn (fun i=>i=SB) [22] 33 [25,7] ?_
      simp only[Lex.Bh,zd]
      go_wp2
      refine Lex.Mid.intro (fun i hi hl=>rfl) ?_
      go_wp2
      refine Lex.Mid.intro (fun i hi hl=>rfl) ?_
      go_wp2
      refine Lex.zk ⟨trivial,trivial⟩ ?_
      go_wp2_with fail
      have T9:=((T8.out.put 0 0 (.int .i64 0) rfl).put 0 1 (.int .i64 0) rfl).put 0 2 (.string ⟨#[]⟩) rfl
      refine AQ rfl rfl rfl (Al (At.drew (T9.at1 0 rfl)) Tryz.underlying109 rfl Da) ?_
      rw[HR.out]
      exact⟨.inr ⟨(HNT.out (by rintro⟨h1,_⟩;omega)),rfl⟩,by first|exact T9.under|exact T9.under.drew⟩
     by_cases e2:4611686018427387903<EE
     ·have d1:decide (EE<1)=false:=decide_eq_false e1
      have d2:decide (4611686018427387903<EE)=true:=decide_eq_true e2
      go_wp2
      refine Lex.zn (fun i=>i=SB) [22] 33 [25,7] ?_
      simp only[Lex.Bh,zd]
      go_wp2
      refine Lex.Mid.intro (fun i hi hl=>rfl) ?_
      go_wp2
      refine Lex.Mid.intro (fun i hi hl=>rfl) ?_
      go_wp2
      refine Lex.zk ⟨trivial,trivial⟩ ?_
      go_wp2_with fail
      have T9:=((T8.out.put 0 0 (.int .i64 0) rfl).put 0 1 (.int .i64 0) rfl).put 0 2 (.string ⟨#[]⟩) rfl
      refine AQ rfl rfl rfl (Al (At.drew (T9.at1 0 rfl)) Tryz.underlying109 rfl Da) ?_
      rw[HR.out]
      exact⟨.inr ⟨(HNT.out (by rintro⟨_,h1,_⟩;omega)),rfl⟩,by first|exact T9.under|exact T9.under.drew⟩
     obtain⟨en,rfl⟩:∃ n:Nat,EE=n:=⟨EE.toNat,by omega⟩
     by_cases e3:en%2=at_
     ·have d1:decide ((en:Int)<1)=false:=decide_eq_false e1
      have d2:decide ((4611686018427387903:Int)<en)=false:=decide_eq_false e2
      have d3:((en:Int)%2 != (at_:Int))=false:=by rw[bne_eq_false_iff_eq];omega
      by_cases e4:LL<0
      ·have d4:decide (LL<0)=true:=decide_eq_true e4
       go_wp2
       refine Lex.zn (fun i=>i=SB) [22] 33 [25,7] ?_
       simp only[Lex.Bh,zd]
       go_wp2
       refine Lex.Mid.intro (fun i hi hl=>rfl) ?_
       go_wp2
       refine Lex.Mid.intro (fun i hi hl=>rfl) ?_
       go_wp2
       refine Lex.zk ⟨trivial,trivial⟩ ?_
       go_wp2_with fail
       have T9:=((T8.out.put 0 0 (.int .i64 0) rfl).put 0 1 (.int .i64 0) rfl).put 0 2 (.string ⟨#[]⟩) rfl
       refine AQ rfl rfl rfl (Al (At.drew (T9.at1 0 rfl)) Tryz.underlying109 rfl Da) ?_
       rw[HR.out]
       exact⟨.inr ⟨(HNT.out (by rintro⟨_,_,_,h1,_⟩;omega)),rfl⟩,by first|exact T9.under|exact T9.under.drew⟩
      obtain⟨ln,rfl⟩:∃ n:Nat,LL=n:=⟨LL.toNat,by omega⟩
      have d4:decide ((ln:Int)<0)=false:=decide_eq_false e4
      by_cases e5:512*H0<ln
      ·have d5:decide (512*(H0:Int)<ln)=true:=zt
       go_wp2
       refine Lex.zn (fun i=>i=SB) [22] 33 [25,7] ?_
       simp only[Lex.Bh,zd]
       go_wp2_with fail
       refine(HHF.out _ (by first|exact H8.out|exact H8.out.below (Below.refl _ _).drew (Nat.le_refl _))).mono ?_
       rintro e wx ⟨rfl,hwx⟩
       subst wx
       go_wp2
       refine Lex.Mid.intro (fun i hi hl=>rfl) ?_
       go_wp2
       refine Lex.Mid.intro (fun i hi hl=>rfl) ?_
       go_wp2
       refine Lex.zk ⟨⟨rfl,HI1.out⟩,trivial⟩ ?_
       go_wp2_with fail
       have T9:=((T8.out.put 0 0 (.int .i64 0) rfl).put 0 1 (.int .i64 0) rfl).put 0 2 (.string ⟨#[]⟩) rfl
       refine AQ rfl rfl rfl (Al (At.drew (T9.at1 0 rfl)) Tryz.underlying109 rfl Da) ?_
       rw[HR.out]
       exact⟨.inr ⟨(HNT.out (by rintro⟨_,_,_,_,h1,_⟩;rw[<- HH0.out] at h1;omega)),rfl⟩,by first|exact T9.under|exact T9.under.drew⟩
      ·have d5:decide (512*(H0:Int)<ln)=false:=zf
       have hPg:=fun W=>JJ ln W (by omega)
       by_cases e6:Ai ln<H0
       ·obtain⟨P0,hP0⟩:∃ z,z=Ai ln:=⟨_,rfl⟩
        rw[<- hP0] at hPg e6
        have d6:decide ((H0:Int)<=P0)=false:=zf
        have d6n:decide (H0<=P0)=false:=zf
        have d6m:¬ H0<=P0:=by omega
        have HPG:=zh hPg;have HP0:=zh hP0;have HE6:=zh e6
        clear hPg hP0 e6
        go_wp2
        refine Lex.zn (fun i=>i=SB) [22] 33 [25,7] ?_
        simp only[Lex.Bh,zd]
        go_wp2_with fail
        refine(HHF.out _ (by first|exact H8.out|exact H8.out.below (Below.refl _ _).drew (Nat.le_refl _))).mono ?_
        rintro e wx ⟨rfl,hwx⟩
        subst wx
        go_wp2
        refine Lex.Mid.intro (fun i hi hl=>rfl) ?_
        go_wp2_with fail
        refine(HPG.out _).mono ?_
        rintro e wx ⟨rfl,hwx⟩
        subst wx
        go_wp2
        refine Lex.Mid.intro (fun i hi hl=>rfl) ?_
        go_wp2_with fail
        refine(HHF.out _ (by first|exact H8.out|exact H8.out.below (Below.refl _ _).drew (Nat.le_refl _))).mono ?_
        rintro e wx ⟨rfl,hwx⟩
        subst wx
        go_wp2
        refine Lex.zk ⟨⟨rfl,HI1.out⟩,trivial⟩ ?_
        go_wp2_with fail
        have T9:=((T8.out.put 0 0 (.int .i64 en) rfl).put 0 1 (.int .i64 ln) rfl).put 0 2 (.string (S.extract 48 80)) rfl
        refine AQ rfl rfl rfl (Al (At.drew (T9.at1 0 rfl)) Tryz.underlying109 rfl Da) ?_
        rw[HR.out]
        refine⟨.inl ⟨HE1.out.symm,?_,?_⟩,by first|exact T9.under|exact T9.under.drew⟩
        ·rw[<- HS.out]
         exact HIH.out.2 ⟨by omega,by omega,by omega,by omega,by rw[<- HH0.out];omega,by rw[<- HH0.out,Int.toNat_natCast,<- HP0.out];exact HE6.out⟩
        ·rw[<- HS.out,<- HEE.out,<- HLL.out]
         rfl
       ·obtain⟨P0,hP0⟩:∃ z,z=Ai ln:=⟨_,rfl⟩
        rw[<- hP0] at hPg e6
        have d6:decide ((H0:Int)<=P0)=true:=zt
        have d6n:decide (H0<=P0)=true:=zt
        have d6m:H0<=P0:=by omega
        have HPG:=zh hPg;have HP0:=zh hP0;have HE6:=zh e6
        clear hPg hP0 e6
        go_wp2
        refine Lex.zn (fun i=>i=SB) [22] 33 [25,7] ?_
        simp only[Lex.Bh,zd]
        go_wp2_with fail
        refine(HHF.out _ (by first|exact H8.out|exact H8.out.below (Below.refl _ _).drew (Nat.le_refl _))).mono ?_
        rintro e wx ⟨rfl,hwx⟩
        subst wx
        go_wp2
        refine Lex.Mid.intro (fun i hi hl=>rfl) ?_
        go_wp2_with fail
        refine(HPG.out _).mono ?_
        rintro e wx ⟨rfl,hwx⟩
        subst wx
        go_wp2
        refine Lex.Mid.intro (fun i hi hl=>rfl) ?_
        go_wp2_with fail
        refine(HHF.out _ (by first|exact H8.out|exact H8.out.below (Below.refl _ _).drew (Nat.le_refl _))).mono ?_
        rintro e wx ⟨rfl,hwx⟩
        subst wx
        go_wp2
        refine Lex.zk ⟨⟨rfl,HI1.out⟩,trivial⟩ ?_
        go_wp2_with fail
        have T9:=((T8.out.put 0 0 (.int .i64 0) rfl).put 0 1 (.int .i64 0) rfl).put 0 2 (.string ⟨#[]⟩) rfl
        refine AQ rfl rfl rfl (Al (At.drew (T9.at1 0 rfl)) Tryz.underlying109 rfl Da) ?_
        rw[HR.out]
        exact⟨.inr ⟨(HNT.out (by rintro⟨_,_,_,_,_,h1⟩;rw[<- HH0.out,Int.toNat_natCast,<- HP0.out] at h1;exact HE6.out h1)),rfl⟩,by first|exact T9.under|exact T9.under.drew⟩
     ·have d1:decide ((en:Int)<1)=false:=decide_eq_false e1
      have d2:decide ((4611686018427387903:Int)<en)=false:=decide_eq_false e2
      have d3:((en:Int)%2 != (at_:Int))=true:=by rw[bne_iff_ne];omega
      go_wp2
      refine Lex.zn (fun i=>i=SB) [22] 33 [25,7] ?_
      simp only[Lex.Bh,zd]
      go_wp2
      refine Lex.Mid.intro (fun i hi hl=>rfl) ?_
      go_wp2
      refine Lex.Mid.intro (fun i hi hl=>rfl) ?_
      go_wp2
      refine Lex.zk ⟨trivial,trivial⟩ ?_
      go_wp2_with fail
      have T9:=((T8.out.put 0 0 (.int .i64 0) rfl).put 0 1 (.int .i64 0) rfl).put 0 2 (.string ⟨#[]⟩) rfl
      refine AQ rfl rfl rfl (Al (At.drew (T9.at1 0 rfl)) Tryz.underlying109 rfl Da) ?_
      rw[HR.out]
      exact⟨.inr ⟨(HNT.out (by rintro⟨_,_,h1,_⟩;omega)),rfl⟩,by first|exact T9.under|exact T9.under.drew⟩
    ·have dt : (TT.toList == []) = false :=by
      rw[beq_eq_false_iff_ne]
      intro e
      refine hte (Sha.Bl ?_)
      rw[ByteArray.toList_eq] at e
      exact e
     have dt2:(!(TT.toList==[]))=true:=by rw[dt];rfl
     have HTE:=zh hte
     clear hte
     go_wp2
     refine Lex.ze ?_
     go_wp2_with fail
     have T9:=((T3.out.put 0 0 (.int .i64 0) rfl).put 0 1 (.int .i64 0) rfl).put 0 2 (.string ⟨#[]⟩) rfl
     refine AQ rfl rfl rfl (Al (At.drew (T9.at1 0 rfl)) Tryz.underlying109 rfl Da) ?_
     rw[HR.out]
     exact⟨.inr ⟨(fun hn=>HTE.out (by rw[HTT.out,((JM hm hs).1 (by rw[HS.out];exact hn.2)).2.1])),rfl⟩,by first|exact T9.under|exact T9.under.drew⟩
   ·have dx:(X.toList==(S.extract 0 32).toList)=false:=by rw[beq_toList];exact decide_eq_false hxy
    have dn:(!(X.toList==(S.extract 0 32).toList))=true:=by rw[dx];rfl
    have HXY:=zh hxy
    clear hxy
    go_wp2
    refine Lex.ze ?_
    go_wp2_with fail
    have T9:=((T2.out.put 0 0 (.int .i64 0) rfl).put 0 1 (.int .i64 0) rfl).put 0 2 (.string ⟨#[]⟩) rfl
    refine AQ rfl rfl rfl (Al (At.drew (T9.at1 0 rfl)) Tryz.underlying109 rfl Da) ?_
    rw[HR.out]
    exact⟨.inr ⟨(fun hn=>HXY.out (by rw[HXE.out,HS.out];exact hn.2.sum)),rfl⟩,by first|exact T9.under|exact T9.under.drew⟩
  ·have de:((S.size:Int) != (512:Int))=true:=by rw[bne_iff_ne];omega
   have HSS:=zh hs
   clear hs
   go_wp2
   refine Lex.zl ?_
   go_wp2
   refine Lex.ze ?_
   go_wp2_with fail
   have T9:=((T1.out.put 0 0 (.int .i64 0) rfl).put 0 1 (.int .i64 0) rfl).put 0 2 (.string ⟨#[]⟩) rfl
   refine AQ rfl rfl rfl (Al (At.drew (T9.at1 0 rfl)) Tryz.underlying109 rfl Da) ?_
   rw[HR.out]
   exact⟨.inr ⟨(fun hn=>HSS.out (by rw[HS.out];exact hn.2.size)),rfl⟩,by first|exact T9.under|exact T9.under.drew⟩
 ·have de:(E1==(0:Int))=false:=by rw[beq_eq_false_iff_ne];exact he
  have dn:(E1 != (0:Int))=true:=by rw[bne_iff_ne];exact he
  have HEE:=zh he
  clear he
  go_wp2
  refine Lex.zl ?_
  go_wp2
  refine Lex.ze ?_
  go_wp2_with fail
  have T9:=((T1.out.put 0 0 (.int .i64 0) rfl).put 0 1 (.int .i64 0) rfl).put 0 2 (.string ⟨#[]⟩) rfl
  refine AQ rfl rfl rfl (Al (At.drew (T9.at1 0 rfl)) Tryz.underlying109 rfl Da) ?_
  rw[HR.out]
  exact⟨.inr ⟨(fun hn=>HEE.out (HE1.out.trans hn.1)),rfl⟩,by first|exact T9.under|exact T9.under.drew⟩
end Sto
theorem jM {l:List Pg}(h:∀ q∈l,q.data.size<=437):(BS l).size<=437*l.length:=by
 have:=Ta l h
 show(EK l).toArray.size<=_
 rw[List.size_toArray]
 exact this
theorem Vm {epoch:Nat}{rd:Nat->ByteArray × Int} : ∀ (n k:Nat) (ch:ByteArray) (s:OSt),(∀ q∈s.open_,q.data.size<=437)->s.open_.length<=k->(∀ r∈s.recs,r.size<=437*k)->∀ r∈(opens epoch rd n k ch s).recs,r.size<=437*(k+n)
 | 0,_,_,_,_,_,h3,r,hr=>h3 r hr
 | n + 1,k,ch,s,h1,h2,h3,r,hr => by
   have hle:∀ r∈s.recs,r.size<=437*(k+(n+1)):=fun r hr=>by have:=h3 r hr;omega
   unfold opens at hr
   split at hr
   ·cases hp:parsed epoch (rd k).1 ch with
    | none=>rw[hp] at hr;exact hle r hr
    | some p =>
      rw[hp] at hr
      dsimp only at hr
      have hpd:=FZ hp
      cases hs:s.step p with
      | none=>rw[hs] at hr;exact hle r hr
      | some s' =>
        rw[hs] at hr
        dsimp only at hr
        have hop:∀ q∈s.open_++[p],q.data.size<=437:=fun q hq=>by
         rcases List.mem_append.1 hq with hq|hq
         ·exact h1 q hq
         ·rw[List.mem_singleton.1 hq];exact hpd
        have key:(∀ q∈s'.open_,q.data.size<=437)/\s'.open_.length<=k+1/\∀ r∈s'.recs,r.size<=437*(k+1):=by
         unfold OSt.step at hs
         split at hs
         ·cases hs
         ·split at hs
          ·split at hs
           ·cases hs
            refine⟨(fun q hq=>by cases hq),Nat.zero_le _,fun r hr=>?_⟩
            rcases List.mem_append.1 hr with hr|hr
            ·have:=h3 r hr;omega
            ·rw[List.mem_singleton.1 hr]
             have hc:=jM hop
             rw[List.length_append,List.length_singleton] at hc
             have:437*(s.open_.length+1)<=437*(k+1):=Nat.mul_le_mul (Nat.le_refl _) (by omega)
             omega
           ·cases hs
          ·cases hs
           refine⟨hop,by rw[List.length_append,List.length_singleton];omega,fun r hr=>?_⟩
           have:=h3 r hr
           omega
        have:=Vm n (k+1) p.check s' key.1 key.2.1 key.2.2 r hr
        omega
   ·exact hle r hr
theorem dU {epoch count:Nat}{rd:Nat->ByteArray × Int}{r:ByteArray}(h:r∈(opened epoch count rd).recs):r.size<=437*count:=by
 have:=Vm count 0 (Hf epoch) (OSt.zero epoch) (fun q hq=>by cases hq) (Nat.zero_le _) (fun r hr=>by cases hr) r h
 omega
namespace Sto
theorem nY:Nonempty (Qb Tryz.prog 107 109 3 32):=LU (z:=.agg #[.int .i64 0,.int .i64 0,.string ⟨#[]⟩]) Tryz.underlying107 (by kernel_rfl) (by kernel_rfl) (by omega)
def rdD (c:Ac)(p:Nat):ByteArray × Int:=c.read p
theorem nZ {w w' : World}{c:Ac}{k:Nat}{e:Ending}(hn:c.Aa.length<=4096)(h:RX w c k e w'):
 ((∃ H,Cg c.Aa.length (rdD c) k=some H/\e=.returned (.tuple #[hdV H,.bool true]))\/(Cg c.Aa.length (rdD c) k=none/\e=.returned (.tuple #[.agg #[.int .i64 0,.int .i64 0,.string ⟨#[]⟩],.bool false])))/\Below w.heap.size w w':=by
 refine⟨?_,h.2⟩
 rcases h.1 with ⟨h1,h2,rfl⟩|⟨h1,rfl⟩
 ·refine .inl ⟨Mi (c.read k).1,Uq (rd:=rdD c) h1 h2,?_⟩
  obtain⟨-,-,a1,-,-,a2,-⟩:=(JM hn h2.size).1 h2
  rw[nX hn h2]
  unfold hdV
  dsimp only
  rw[Int.toNat_of_nonneg (by omega),Int.toNat_of_nonneg a2]
 ·exact .inr ⟨nG (rd:=rdD c) h1,rfl⟩
def Rk (l:List Hd):List Value:=l.flatMap jI
theorem jN (l:List Hd)(x:Hd):Rk (l++[x])=Rk l++jI x:=by simp[Rk]
theorem og (l:List Hd)(i:Nat)(h:i<l.length):(Rk l)[i*3]? = some (.int .i64 l[i].epoch)/\(Rk l)[i*3+1]? = some (.int .i64 l[i].len)/\(Rk l)[i*3+2]? = some (.string l[i].dg):=by
 induction l generalizing i with
 | nil=>cases h
 | cons x l ih =>
   match i with
   | 0=>exact⟨rfl,rfl,rfl⟩
   | i + 1 =>
     have:=ih i (by simpa using h)
     rw[show(i+1)*3=i*3+3 by omega]
     exact this
def Vn (B:Nat)(w:World)(v:Value)(l:List Hd):Prop:=w.ownsRow B 109 3 v l.length (Rk l)
theorem Vn.hds {B:Nat}{w:World}{v:Value}{l:List Hd}(h:Vn B w v l)(h0:0<l.length):zbg w v l:=by
 obtain⟨g,cap,e,hc⟩:=BM h h0
 have hb:g<w.heap.size:=by
  obtain⟨cur,ha⟩:=Ao h (g:=g) (by rw[e];rfl)
  exact ha.lt
 refine⟨g,0,cap,e,hb,fun i hi=>?_⟩
 obtain⟨a,b,c⟩:=og l i hi
 rw[Nat.zero_add]
 exact⟨hc _ _ a,hc _ _ b,hc _ _ c⟩
theorem jO {rd:Nat->ByteArray × Int}{first k:Nat}{b:ByteArray}(h:Es rd first k=some b)(h1:(rd (first+k)).2=0)(h2:(rd (first+k)).1.size=512):Es rd first (k+1)=some (b++(rd (first+k)).1):=by
 show(match Es rd first k with|none=>none|some b=>if (rd (first+k)).2=0/\(rd (first+k)).1.size=512 then some (b++(rd (first+k)).1) else none)=_
 rw[h]
 dsimp only
 rw[if_pos ⟨h1,h2⟩]
theorem jP {rd:Nat->ByteArray × Int}{first k n:Nat}{b:ByteArray}(hk:k+1<=n)(h:Es rd first k=some b)(h1:¬ ((rd (first+k)).2=0/\(rd (first+k)).1.size=512)):Es rd first n=none:=by
 refine iP hk ?_
 show(match Es rd first k with|none=>none|some b=>if (rd (first+k)).2=0/\(rd (first+k)).1.size=512 then some (b++(rd (first+k)).1) else none)=_
 rw[h]
 dsimp only
 rw[if_neg h1]
theorem zH (c:Ac)(first:Nat):(fun i=>rdD c (first+i))=FE c first:=by
 funext i
 unfold rdD FE
 rw[show((first+i:Nat):Int)=(first:Int)+i by omega]
def YX (w:World)(c:Ac)(e:Ending)(w' : World):Prop:=
 (match opn c.Aa.length (rdD c) with
  | .error k=>e=.returned (.tuple #[.pointer none,.int .i64 k])
  | .ok (ep,s)=>∃ sb da mo ve mv jv F,e=.returned (.tuple #[.pointer (some ⟨sb,0,none⟩),.int .i64 0])/\At w' sb 130 (DR da ep mo ve mv jv)/\StC w' F mo mv ve s/\Bw s/\ep<=4611686018427387903/\¬ SFo F mo mv ve sb/\w.heap.size<=sb/\(∀ k,SFo F mo mv ve k->w.heap.size<=k))/\Below w.heap.size w w'
theorem Gw {w w' : World}{c:Ac}{k:Int}(h:opn c.Aa.length (rdD c)=.error k)(hb:Below w.heap.size w w'):YX w c (.returned (.tuple #[.pointer none,.int .i64 k])) w':=by
 refine⟨?_,hb⟩
 rw[h]
end Sto
structure RS where
 a:Nat
 e:Int
def stN (s:ByteArray)(r:RS):Nat × RS:=if r.e=0 then (match Cod.rdN s r.a with|some (v,b)=>(v,⟨b,0⟩)|none=>(0,⟨r.a,9⟩)) else (0,r)
def stC (s:ByteArray)(m:Int)(r:RS):Nat × RS:=if r.e=0 then (match rdC s m r.a with|some (v,b)=>(v,⟨b,0⟩)|none=>(0,⟨r.a,9⟩)) else (0,r)
def stL (s:ByteArray)(r:RS):List ByteArray × RS:=if r.e=0 then (match Cod.AO s r.a with|some (v,b)=>(v,⟨b,0⟩)|none=>([],⟨r.a,9⟩)) else ([],r)
theorem zI {s:ByteArray}{r:RS}(h:r.a<=s.size):(stN s r).2.a<=s.size:=by
 unfold stN
 split
 ·cases hr:Cod.rdN s r.a with
  | none=>exact h
  | some y=>exact(Cod.En hr).2.1
 ·exact h
theorem dV {s:ByteArray}{m:Int}{a v b:Nat}(h:rdC s m a=some (v,b)):Cod.rdN s a=some (v,b)/\(v:Int)<=m:=by
 unfold rdC at h
 cases hr:Cod.rdN s a with
 | none=>rw[hr] at h;cases h
 | some y =>
   obtain⟨v',b'⟩:=y
   simp only[hr] at h
   split at h
   ·cases h;exact⟨rfl,by assumption⟩
   ·cases h
theorem zJ {s:ByteArray}{m:Int}{r:RS}(h:r.a<=s.size):(stC s m r).2.a<=s.size:=by
 unfold stC
 split
 ·cases hr:rdC s m r.a with
  | none=>exact h
  | some y=>exact(Cod.En (dV hr).1).2.1
 ·exact h
theorem tK {s:ByteArray}{m:Nat}{r:RS} : (stC s m r).1<=m:=by
 unfold stC
 split
 ·cases hr:rdC s m r.a with
  | none=>exact Nat.zero_le _
  | some y =>
    have:=(dV hr).2
    show y.1<=m
    omega
 ·exact Nat.zero_le _
theorem YZ {s:ByteArray}{r:RS}(h:r.a<=s.size):(stL s r).2.a<=s.size:=by
 unfold stL
 split
 ·cases hr:Cod.AO s r.a with
  | none=>exact h
  | some y=>exact(Cod.Eb hr).2.1
 ·exact h
theorem zK {s:ByteArray}{r:RS} : (stN s r).1<9223372036854775808:=by
 unfold stN
 split
 ·cases hr:Cod.rdN s r.a with
  | none=>show(0:Nat)<9223372036854775808;decide
  | some y=>exact(Cod.En hr).2.2.2
 ·show(0:Nat)<9223372036854775808
  decide
theorem Za {s:ByteArray}{r:RS} : (stL s r).1.length<=s.size:=by
 unfold stL
 split
 ·cases hr:Cod.AO s r.a with
  | none=>exact Nat.zero_le _
  | some y =>
    have h:=Cod.Eb hr
    have e:=congrArg ByteArray.size h.2.2
    rw[ByteArray.size_extract] at e
    unfold Cod.texts at e
    rw[Sha.Ab] at e
    have:=Cod.TL y.1
    show y.1.length<=_
    omega
 ·exact Nat.zero_le _
def vI (n:Nat):Value:=.int .i64 n
theorem jQ (rb:Nat)(s:ByteArray)(r:RS)(w:World)(h:At w rb 223 (rdV s r.a r.e))(ha:r.a<=s.size)(hs:s.size<=1000000):
 Calls Tryz.prog 112 #[.pointer (some ⟨rb,0,none⟩)] w fun e w' => e=.returned (vI (stN s r).1)/\Ay rb w w' (rdV s (stN s r).2.a (stN s r).2.e):=by
 by_cases he:r.e=0
 ·rw[he] at h
  refine(Uy rb s r.a w h ha (by omega)).mono ?_
  intro e w' hp
  unfold stN
  rw[if_pos he]
  cases hr:Cod.rdN s r.a with
  | none=>rw[hr] at hp;exact hp
  | some y=>rw[hr] at hp;exact hp
 ·refine(Uz rb s r.a r.e he w h).mono ?_
  rintro e _ ⟨rfl,rfl⟩
  unfold stN
  rw[if_neg he]
  exact⟨rfl,Ay.refl h⟩
theorem oh (rb:Nat)(s:ByteArray)(r:RS)(w:World){n:Nat}{r' : RS}(hv:stN s r=(n,r'))(h:At w rb 223 (rdV s r.a r.e))(ha:r.a<=s.size)(hs:s.size<=1000000):
 Calls Tryz.prog 112 #[.pointer (some ⟨rb,0,none⟩)] w fun e w' => e=.returned (.int .i64 n)/\Ay rb w w' (rdV s r'.a r'.e):=by
 have:=jQ rb s r w h ha hs
 rw[hv] at this
 exact this
theorem Ay.of_below {rb:Nat}{w w' : World}{s:ByteArray}{a:Nat}{e:Int}(h:At w rb 223 (rdV s a e))(hb:Below w.heap.size w w'):Ay rb w w' (rdV s a e):=⟨h.below hb h.lt,Fr.of_below hb⟩
theorem dW (rb:Nat)(s:ByteArray)(m:Int)(r:RS)(w:World)(h:At w rb 223 (rdV s r.a r.e))(ha:r.a<=s.size)(hs:s.size<=1000000):
 Calls Tryz.prog 111 #[.pointer (some ⟨rb,0,none⟩),.int .i64 m] w fun e w' => e=.returned (.int .i64 (stC s m r).1)/\Ay rb w w' (rdV s (stC s m r).2.a (stC s m r).2.e):=by
 by_cases he:r.e=0
 ·rw[he] at h
  refine(aW rb s r.a m w h ha (by omega)).mono ?_
  intro e w' hp
  unfold stC
  rw[if_pos he]
  cases hr:rdC s m r.a with
  | none=>rw[hr] at hp;exact hp
  | some y=>rw[hr] at hp;exact hp
 ·refine(aX rb s r.a m r.e he w h).mono ?_
  rintro e _ ⟨rfl,hb⟩
  unfold stC
  rw[if_neg he]
  exact⟨rfl,Ay.of_below h hb⟩
theorem dX (rb:Nat)(s:ByteArray)(r:RS)(w:World)(h:At w rb 223 (rdV s r.a r.e))(ha:r.a<=s.size)(hs:s.size<=1000000):
 Calls Tryz.prog 104 #[.pointer (some ⟨rb,0,none⟩)] w fun e w' => ∃ v,e=.returned v/\Am w' v (stL s r).1/\UY v/\(∀ k,v.ownBlock=some k->w.heap.size<=k)/\Ay rb w w' (rdV s (stL s r).2.a (stL s r).2.e):=by
 by_cases he:r.e=0
 ·rw[he] at h
  refine(QN rb s r.a w h ha hs).mono ?_
  intro e w' hp
  unfold stL
  rw[if_pos he]
  cases hr:Cod.AO s r.a with
  | none =>
    rw[hr] at hp
    obtain⟨h1,h2⟩:=hp
    exact⟨_,h1,⟨_,_,rfl,.inl rfl⟩,⟨_,_,_,rfl,Nat.le_refl _⟩,(fun k hk=>by cases hk),h2⟩
  | some y =>
    rw[hr] at hp
    obtain⟨c,d,h1,⟨h2,h3⟩,h4,h5⟩:=hp
    exact⟨_,h1,h2,⟨_,_,_,rfl,h3⟩,h4,h5⟩
 ·refine(QO rb s r.a r.e he w h).mono ?_
  rintro e _ ⟨rfl,hb⟩
  unfold stL
  rw[if_neg he]
  exact⟨_,rfl,⟨_,_,rfl,.inl rfl⟩,⟨_,_,_,rfl,Nat.le_refl _⟩,(fun k hk=>by cases hk),Ay.of_below h hb⟩
theorem jR (rb:Nat)(s:ByteArray)(m:Int)(r:RS)(w:World){n:Nat}{r' : RS}(hv:stC s m r=(n,r'))(h:At w rb 223 (rdV s r.a r.e))(ha:r.a<=s.size)(hs:s.size<=1000000):
 Calls Tryz.prog 111 #[.pointer (some ⟨rb,0,none⟩),.int .i64 m] w fun e w' => e=.returned (.int .i64 n)/\Ay rb w w' (rdV s r'.a r'.e):=by
 have:=dW rb s m r w h ha hs
 rw[hv] at this
 exact this
theorem JN (rb:Nat)(s:ByteArray)(r:RS)(w:World){l:List ByteArray}{r' : RS}(hv:stL s r=(l,r'))(h:At w rb 223 (rdV s r.a r.e))(ha:r.a<=s.size)(hs:s.size<=1000000):
 Calls Tryz.prog 104 #[.pointer (some ⟨rb,0,none⟩)] w fun e w' => ∃ v,e=.returned v/\Am w' v l/\UY v/\(∀ k,v.ownBlock=some k->w.heap.size<=k)/\Ay rb w w' (rdV s r'.a r'.e):=by
 have:=dX rb s r w h ha hs
 rw[hv] at this
 exact this
namespace Sto
theorem RY {s:ByteArray}{r:RS}{x:ByteArray}(h:x∈(stL s r).1):x.size<=s.size:=by
 unfold stL at h
 split at h
 ·cases hr:Cod.AO s r.a with
  | none=>rw[hr] at h;cases h
  | some y =>
    obtain⟨v,b⟩:=y
    rw[hr] at h
    have h:x∈v:=h
    obtain⟨q1,q2,q3⟩:=Cod.Eb hr
    have e1:=congrArg ByteArray.size q3
    rw[ByteArray.size_extract] at e1
    unfold Cod.texts at e1
    rw[Sha.Ab] at e1
    have:=lq h
    omega
 ·cases h
def JO (os es vs:List ByteArray):Option St:=match Ce os with
 | none=>none
 | some k => match pairUp vs with
   | none=>none
   | some v=>some ⟨k,es,v⟩
theorem vQ {s:ByteArray}{os es vs:List ByteArray}{r1 r2 r3:RS}(h1:stL s ⟨0,0⟩=(os,r1))(h2:stL s r1=(es,r2))(h3:stL s r2=(vs,r3))(hr:r3.a<=s.size):Mh s=if Cv s r3.a r3.e=0 then JO os es vs else none:=by
 have on:∀ a,stL s ⟨a,0⟩=match Cod.AO s a with|some (v,b)=>(v,⟨b,0⟩)|none=>([],⟨a,9⟩):=fun a=>by
  unfold stL
  rw[if_pos rfl]<;>(cases Cod.AO s a<;>rfl)
 have off:∀ (r:RS),r.e=9->stL s r=([],r):=fun r hr=>by
  unfold stL
  rw[if_neg (by rw[hr];decide)]
 have bad:∀ r:RS,r.e=9->Cv s r.a r.e=0->False:=fun r hr he=>by
  unfold Cv at he
  rw[hr] at he
  simp at he
 unfold Mh
 rw[on] at h1
 cases ha:Cod.AO s 0 with
 | none =>
   rw[ha] at h1
   cases h1
   rw[off _ rfl] at h2
   cases h2
   rw[off _ rfl] at h3
   cases h3
   rw[if_neg (bad ⟨0,9⟩ rfl)]
 | some y =>
   obtain⟨os',a⟩:=y
   rw[ha] at h1
   cases h1
   rw[on] at h2
   dsimp only
   cases hb:Cod.AO s a with
   | none =>
     rw[hb] at h2
     cases h2
     rw[off _ rfl] at h3
     cases h3
     rw[if_neg (bad ⟨a,9⟩ rfl)]
   | some y =>
     obtain⟨es',b⟩:=y
     rw[hb] at h2
     cases h2
     rw[on] at h3
     dsimp only
     cases hc:Cod.AO s b with
     | none =>
       rw[hc] at h3
       cases h3
       rw[if_neg (bad ⟨b,9⟩ rfl)]
     | some y =>
       obtain⟨vs',c⟩:=y
       rw[hc] at h3
       cases h3
       have hr:c<=s.size:=hr
       have he:Cv s c 0=if c<s.size then 9 else 0:=by
        unfold Cv
        by_cases h:c<s.size
        ·rw[if_pos ⟨rfl,h⟩,if_pos h]
        ·rw[if_neg (fun e=>h e.2),if_neg h]
       show(if c=s.size then JO os es vs else none)=if Cv s c 0=0 then JO os es vs else none
       rw[he]
       by_cases h:c=s.size
       ·rw[if_pos h,if_neg (show ¬ c<s.size by omega),if_pos rfl]
       ·rw[if_neg h,if_pos (show c<s.size by omega),if_neg (by decide)]
theorem dY {l:List ByteArray}{k:Nat}(h:k<l.length):Ce (l.take (k+1))=match Ce (l.take k) with
 | none=>none
 | some L => match Dn l[k] with
   | none=>none
   | some o=>some (L++[o]):=by
 induction l generalizing k with
 | nil=>cases h
 | cons x l ih =>
   cases k with
   | zero =>
     show(match Dn x with|none=>none|some o=>match Ce (l.take 0) with|none=>none|some K=>some (o::K))=(match Dn x with|none=>none|some o=>some ([]++[o]))
     cases Dn x<;>rfl
   | succ k =>
     have h:k<l.length:=by simpa using h
     show(match Dn x with|none=>none|some o=>match Ce (l.take (k+1)) with|none=>none|some K=>some (o::K))=match (match Dn x with|none=>none|some o=>match Ce (l.take k) with|none=>none|some K=>some (o::K)) with|none=>none|some L=>match Dn l[k] with|none=>none|some o=>some (L++[o])
     rw[ih h]
     cases Dn x with
     | none=>rfl
     | some o =>
       dsimp only
       cases Ce (l.take k) with
       | none=>rfl
       | some K =>
         dsimp only
         cases Dn l[k]<;>rfl
theorem dZ {l:List ByteArray}{k:Nat}(h:k<=l.length)(hn:Ce (l.take k)=none):Ce l=none:=by
 induction l generalizing k with
 | nil=>rw[List.take_nil] at hn;cases hn
 | cons x l ih =>
   cases k with
   | zero=>cases hn
   | succ k =>
     have h:k<=l.length:=by simpa using h
     have hn:(match Dn x with|none=>none|some o=>match Ce (l.take k) with|none=>none|some K=>some (o::K))=none:=hn
     show(match Dn x with|none=>none|some o=>match Ce l with|none=>none|some K=>some (o::K))=none
     cases hx:Dn x with
     | none=>rfl
     | some o =>
       rw[hx] at hn
       dsimp only at hn ⊢
       cases hk:Ce (l.take k) with
       | none=>rw[ih h hk]
       | some K=>rw[hk] at hn;cases hn
theorem Qr {l:List ByteArray}{k:List Obj}(h:Ce l=some k):k.length=l.length/\∀ o∈k,okO o=true:=by
 induction l generalizing k with
 | nil=>cases h;exact⟨rfl,fun o ho=>by cases ho⟩
 | cons x l ih =>
   have h:(match Dn x with|none=>none|some o=>match Ce l with|none=>none|some K=>some (o::K))=some k:=h
   cases hx:Dn x with
   | none=>rw[hx] at h;cases h
   | some o =>
     rw[hx] at h
     dsimp only at h
     cases hk:Ce l with
     | none=>rw[hk] at h;cases h
     | some K =>
       rw[hk] at h
       cases h
       obtain⟨i1,i2⟩:=ih hk
       refine⟨by simp[i1],fun p hp=>?_⟩
       rcases List.mem_cons.1 hp with rfl|hp
       ·unfold Dn at hx
        split at hx
        ·split at hx
         ·split at hx
          ·split at hx
           ·rename_i hc
            cases hx
            exact hc.2
           ·cases hx
          ·cases hx
         ·cases hx
        ·cases hx
       ·exact i2 p hp
theorem Rl:∀ (n:Nat) {l:List ByteArray},l.length=2*n->∃ k,pairUp l=some k/\k.length=n/\∀ i (h:i<k.length),k[i]=⟨l.getD (2*i) ⟨#[]⟩,l.getD (2*i+1) ⟨#[]⟩⟩
 | 0,l,h => by
   have:l=[]:=List.eq_nil_of_length_eq_zero (by omega)
   subst this
   exact⟨[],rfl,rfl,fun i hi=>by cases hi⟩
 | n + 1,l,h => by
   match l,h with
   | x :: y :: l,h =>
     have h:l.length=2*n:=by simp at h;omega
     obtain⟨k,h1,h2,h3⟩:=Rl n h
     refine⟨⟨x,y⟩::k,?_,by simp[h2],fun i hi=>?_⟩
     ·show(match pairUp l with|none=>none|some k=>some ((⟨x,y⟩:Val)::k))=_
      rw[h1]
     ·cases i with
      | zero=>rfl
      | succ i =>
        have hi:i<k.length:=by simpa using hi
        have:=h3 i hi
        show k[i]=_
        rw[this,show 2*(i+1)=2*i+1+1 by omega]
        rfl
theorem Vo:∀ (n:Nat) {l:List ByteArray},l.length=2*n+1->pairUp l=none
 | 0,l,h => by
   match l,h with
   | [x],_=>rfl
 | n + 1,l,h => by
   match l,h with
   | x :: y :: l,h =>
     have h:l.length=2*n+1:=by simp at h;omega
     show(match pairUp l with|none=>none|some k=>some ((⟨x,y⟩:Val)::k))=_
     rw[Vo n h]
end Sto
end
end Go.Proofs.YtdiiafgoccakkaaGreatDoor
