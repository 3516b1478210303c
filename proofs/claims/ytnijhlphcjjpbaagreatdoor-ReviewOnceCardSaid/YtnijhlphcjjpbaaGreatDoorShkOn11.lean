/- Lists of structs that hold strings lie outside blocks without strings. -/
import Derived.Test.YtnijhlphcjjpbaaGreatDoorShkOn10
set_option linter.unusedVariables false
set_option linter.unusedSimpArgs false
set_option maxRecDepth 100000
set_option maxHeartbeats 16000000
namespace Go.Proofs.YtnijhlphcjjpbaaGreatDoor
section
open Go Go.RowKit Go.Maps
namespace Own
def Fu (w:World)(b:Nat):Prop:=∀ i s,w.cell? ⟨b,i,none⟩≠some (.string s)
theorem Fu.at_ {w:World}{b:Nat}{t:TypeId}{cs:Array Value}(h:At w b t cs)(hn:cs.toList.all (fun v=>match v with|.string _=>false|_=>true)=true):Fu w b:=fun i s e=>by
 rw[At.cell h i,<- Array.getElem?_toList] at e
 have:=List.all_eq_true.1 hn _ (List.mem_of_getElem? e)
 cases this
theorem M0 {α : Type}{size:Nat}{R:Elem α}{F:Nat->Prop}{w:World}{v:Value}{l:List α}{b:Nat}(h:Af size R F w v l)(hb:Fu w b)(hs:∀ F cs x,R F w cs x->∃ (j:Nat) (s:ByteArray),cs[j]? = some (.string s))
 (hR:∀ F cs x,R F w cs x->R (fun k=>k≠b) w cs x):Af size R (fun k=>k≠b) w v l:=by
 obtain⟨a,c,hv,hn|⟨b',o,ha,hF,hl,hall⟩⟩:=h
 ·exact⟨a,c,hv,.inl hn⟩
 ·by_cases h0:l.length=0
  ·exact⟨a,c,hv,.inl h0⟩
  ·refine⟨a,c,hv,.inr ⟨b',o,ha,?_,hl,fun i hi=>?_⟩⟩
   ·rintro rfl
    obtain⟨cs,h1,h2,h3⟩:=hall 0 (by omega)
    obtain⟨j,s,hj⟩:=hs _ _ _ h3
    exact hb _ _ (h2 j _ hj)
   ·obtain⟨cs,h1,h2,h3⟩:=hall i hi
    exact⟨cs,h1,h2,hR _ _ _ h3⟩
section
variable {w:World} {v:Value} {b:Nat} {F:Nat->Prop}
theorem Wx {l:List Member}(h:Af 2 BX F w v l)(hb:Fu w b):Af 2 BX (fun k=>k≠b) w v l:=
 M0 h hb (fun F cs x (hx:cs=_)=>⟨0,x.name,by rw[hx];rfl⟩) (fun F cs x (hx:cs=_)=>hx)
theorem gu {l:List KeyUse}(h:Af 2 Qk F w v l)(hb:Fu w b):Af 2 Qk (fun k=>k≠b) w v l:=
 M0 h hb (fun F cs x (hx:cs=_)=>⟨0,x.pub,by rw[hx];rfl⟩) (fun F cs x (hx:cs=_)=>hx)
theorem aO {l:List Vote}(h:Af 3 NS F w v l)(hb:Fu w b):Af 3 NS (fun k=>k≠b) w v l:=
 M0 h hb (fun F cs x (hx:cs=_)=>⟨0,x.name,by rw[hx];rfl⟩) (fun F cs x (hx:cs=_)=>hx)
theorem Yo {l:List Space}(h:Af 3 CU F w v l)(hb:Fu w b):Af 3 CU (fun k=>k≠b) w v l:=
 M0 h hb (fun F cs x ⟨u,h1,_⟩=>⟨0,x.pre,by rw[h1];rfl⟩) (fun F cs x ⟨u,h1,h2⟩=>⟨u,h1,Wx h2 hb⟩)
theorem aP {l:List Ab}(h:Af 6 Mf F w v l)(hb:Fu w b):Af 6 Mf (fun k=>k≠b) w v l:=
 M0 h hb (fun F cs x ⟨u,h1,_⟩=>⟨1,x.path,by rw[h1];rfl⟩) (fun F cs x ⟨u,h1,h2⟩=>⟨u,h1,aO h2 hb⟩)
end
section
variable {w w' : World} {v:Value} {b:Nat}
theorem AX.store {l:List Ab}(h:AX w v l)(hb:Fu w b)(hs:w.heap.size<=w'.heap.size)(hk:∀ k,k≠b->w'.heap[k]? = w.heap[k]?):AX w' v l:=((aP h hb).keep hs (fun k hF _=>hk k hF)).mono (fun _ _ _=>trivial)
theorem Bw.store {l:List Space}(h:Bw w v l)(hb:Fu w b)(hs:w.heap.size<=w'.heap.size)(hk:∀ k,k≠b->w'.heap[k]? = w.heap[k]?):Bw w' v l:=((Yo h hb).keep hs (fun k hF _=>hk k hF)).mono (fun _ _ _=>trivial)
theorem Ca.store {l:List KeyUse}(h:Ca w v l)(hb:Fu w b)(hs:w.heap.size<=w'.heap.size)(hk:∀ k,k≠b->w'.heap[k]? = w.heap[k]?):Ca w' v l:=((gu h hb).keep hs (fun k hF _=>hk k hF)).mono (fun _ _ _=>trivial)
end
end Own
end
section
open Go Go.RowKit Go.Maps
namespace Own
def M5 (X:Nat->Prop)(B:Nat)(w:World)(v:Value)(L:List Ab):Prop:=
 (∀ k,X k->k<w.heap.size)/\(∀ k,v.ownBlock=some k->¬ X k)/\∃ css:List (List Value),css.length=L.length/\w.ownsRow B 46 6 v L.length css.flatten/\∀ i (hi:i<L.length) (hi' : i<css.length),css[i].length=6/\Mf (fun k=>B<=k/\k<w.heap.size/\v.ownBlock≠some k/\¬ X k) w css[i] L[i]
theorem CB.x {X:Nat->Prop}{B:Nat}{w w' : World}{v:Value}{L:List Ab}(h:CB B w v L)(hb:Below w.heap.size w w')(hX:∀ k,X k->w.heap.size<=k/\k<w'.heap.size):M5 X B w' v L:=by
 obtain⟨css,h1,h2,h3⟩:=h
 refine⟨fun k hk=>(hX k hk).2,fun k e hk=>by have:=BO h2 k e;have:=(hX k hk).1;omega,css,h1,own_below h2 hb,fun i hi hi' => ?_⟩
 obtain⟨h4,u,h5,h6⟩:=h3 i hi hi'
 exact⟨h4,u,h5,(h6.below hb).mono (fun k hk hl=>⟨hk.1,hl,hk.2.2,fun hx=>by have:=(hX k hx).1;have:=hk.2.1;omega⟩)⟩
theorem M5.drop {X:Nat->Prop}{B:Nat}{w:World}{v:Value}{L:List Ab}(h:M5 X B w v L):CB B w v L:=by
 obtain⟨_,_,css,h1,h2,h3⟩:=h
 refine⟨css,h1,h2,fun i hi hi' => ?_⟩
 obtain⟨h4,u,h5,h6⟩:=h3 i hi hi'
 exact⟨h4,u,h5,h6.mono (fun k hk _=>⟨hk.1,hk.2.1,hk.2.2.1⟩)⟩
theorem M5.keep {X:Nat->Prop}{B:Nat}{w w' : World}{v:Value}{L:List Ab}(h:M5 X B w v L)(hs:w.heap.size<=w'.heap.size)(hk:∀ k,B<=k->k<w.heap.size->¬ X k->w'.heap[k]? = w.heap[k]?):M5 X B w' v L:=by
 obtain⟨g1,g2,css,h1,h2,h3⟩:=h
 refine⟨fun k hx=>Nat.lt_of_lt_of_le (g1 k hx) hs,g2,css,h1,AA h2 (fun k e=>hk k (Bo h2 k e) (BO h2 k e) (g2 k e)),fun i hi hi' => ?_⟩
 obtain⟨h4,u,h5,h6⟩:=h3 i hi hi'
 exact⟨h4,u,h5,(h6.keep hs (fun k hF hl=>hk k hF.1 hl hF.2.2.2)).mono (fun k hF hl=>⟨hF.1,hl,hF.2.2⟩)⟩
theorem M5.push {X:Nat->Prop}{B:Nat}{w w' : World}{v v' : Value}{L:List Ab}{x:Ab}{a:Option Addr}{c:Nat}{css:List (List Value)}(g1:∀ k,X k->k<w.heap.size)(g2:∀ k,v.ownBlock=some k->¬ X k)(h1:css.length=L.length)
 (h3:∀ i (hi:i<L.length) (hi' : i<css.length),css[i].length=6/\Mf (fun k=>B<=k/\k<w.heap.size/\v.ownBlock≠some k/\¬ X k) w css[i] L[i]) (hx:x.Aq=[])
 (hv' : w'.ownsRow B 46 6 v' (L.length+1) (css.flatten++[.int .i64 x.id,.string x.path,.string x.digest,.int .i64 x.opened,.int .i64 x.expires,.slice a 0 c])) (hg:w.grownBy w' v.ownBlock) (ho:v'.ownBlock=v.ownBlock\/v'.ownBlock=some w.heap.size):M5 X B w' v' (L++[x]):=by
 have hsz:w.heap.size<=w'.heap.size:=hg.size
 have hkp:∀ k,(B<=k/\k<w.heap.size/\v.ownBlock≠some k/\¬ X k)->k<w.heap.size->w'.heap[k]? = w.heap[k]? :=fun k hF hl=>hg.block k hl (fun e=>hF.2.2.1 e.symm)
 have hF:∀ k,(B<=k/\k<w.heap.size/\v.ownBlock≠some k/\¬ X k)->k<w'.heap.size->B<=k/\k<w'.heap.size/\v'.ownBlock≠some k/\¬ X k:=fun k hF hl=>⟨hF.1,hl,by
  rcases ho with ho|ho
  ·rw[ho];exact hF.2.2.1
  ·rw[ho];intro e;have:=Option.some.inj e;omega,hF.2.2.2⟩
 refine⟨fun k hk=>Nat.lt_of_lt_of_le (g1 k hk) hsz,fun k e hk=>?_,css++[[.int .i64 x.id,.string x.path,.string x.digest,.int .i64 x.opened,.int .i64 x.expires,.slice a 0 c]],by simp[h1],?_,fun i hi hi' => ?_⟩
 ·rcases ho with ho|ho
  ·exact g2 k (ho ▸ e) hk
  ·have:=g1 k hk
   rw[ho] at e
   have:=Option.some.inj e
   omega
 ·rw[List.flatten_append,List.length_append]
  simpa using hv'
 ·by_cases hl:i<L.length
  ·obtain⟨h4,u',h5,h6⟩:=h3 i hl (by omega)
   rw[List.getElem_append_left (by omega),List.getElem_append_left hl]
   exact⟨h4,u',h5,(h6.keep hsz hkp).mono hF⟩
  ·have e:i=L.length:=by simp at hi;omega
   subst e
   rw[List.getElem_append_right (by omega),List.getElem_append_right (by omega)]
   simp only[h1,Nat.sub_self,List.getElem_cons_zero]
   exact⟨rfl,_,rfl,by rw[hx];exact Af.nil _ _⟩
end Own
theorem RI (x:Own.Ab)(u:Value)(g1 g2:Nat)(s d:ByteArray)(w:World)(hc:w.cell? ⟨g1,0,none⟩=some (.string s))(hd:w.cell? ⟨g2,0,none⟩=some (.string d)):
 Calls Tryz.prog 41 (#[.agg #[.int .i64 x.id,.string x.path,.string x.digest,.int .i64 x.opened,.int .i64 x.expires,u]]++#[.pointer (some ⟨g1,0,none⟩),.pointer (some ⟨g2,0,none⟩)]) w fun e w' => e=.returned (.bool (decide (x.path=s)&&decide (x.digest=d)))/\Below w.heap.size w w':=by
 obtain⟨i0,q1,q2,q3,i4,q5⟩:=x
 dsimp only
 obtain⟨R,hR⟩:∃ R,R=(decide (q1=s)&&decide (q2=d)):=⟨_,rfl⟩
 rw[<- hR]
 rw[<- bytes_beq,<- bytes_beq] at hR
 have hb1:Below w.heap.size w (w.alloc (.cells #[.int .i64 i0,.string q1,.string q2,.int .i64 q3,.int .i64 i4,u] 46)):=zb
 have q:=(hb1.cell (p:=⟨g1,0,none⟩) (block_lt hc)).trans hc
 have q':=(hb1.cell (p:=⟨g2,0,none⟩) (block_lt hd)).trans hd
 have HB:=zh hb1;have HR:=zh hR
 clear hb1 hc hd hR
 show Calls Tryz.prog 41 #[.agg #[.int .i64 i0,.string q1,.string q2,.int .i64 q3,.int .i64 i4,u],.pointer (some ⟨g1,0,none⟩),.pointer (some ⟨g2,0,none⟩)] w _
 go_enter Tryz.func41,Tryz.ntmps41
 cases h1:q1.toList==s.toList with
 | false =>
   have e:R=false:=by rw[HR.out,h1];rfl
   have HE:=zh e;clear e
   go_wp2_with fail
   go_ret
   exact⟨by rw[HE.out];rfl,HB.out⟩
 | true =>
   have e:R=(q2.toList==d.toList):=by rw[HR.out,h1];rfl
   have HE:=zh e;clear e
   go_wp2_with fail
   go_ret
   exact⟨by rw[HE.out];rfl,HB.out⟩
theorem FV (q:Own.Queue)(size window:Int)(s d:ByteArray)(pv:Value)(w:World)(hM:Fx w)(hP:Own.AX w pv q.props)(hls:q.props.length<=1000000)(hlm:∀ p∈q.props,p.Aq.length<=3000000):
 Calls Tryz.prog 12 #[.agg #[.int .i64 q.next,pv],.int .i64 size,.int .i64 window,.string s,.string d] w fun e w' => (∃ qv,e=.returned (.tuple #[qv,.int .i64 (Own.Eo q size window s d).2.1,.int .i64 (Own.Eo q size window s d).2.2])/\Own.oU w (Own.Eo q size window s d).1 qv w')/\Below w.heap.size w w':=by
 obtain⟨R,hR⟩:∃ R,R=Own.Eo q size window s d:=⟨_,rfl⟩
 rw[<- hR]
 unfold Own.Eo Own.late at hR
 obtain⟨a,c,rfl⟩:=hP.len
 obtain⟨nx,L⟩:=q
 dsimp only at*
 have hb1:Below w.heap.size w ((((w.alloc (.cells #[.int .i64 nx,.slice a L.length c] 24)).alloc (.cells #[.string s] 9)).alloc (.cells #[.string d] 9)).alloc (.cells #[.int .i64 0,.slice none 0 0] 24)):=((zb.alloc (by simp) _).alloc (by simp;omega) _).alloc (by simp;omega) _
 have a0:=(((At.new w 24 #[.int .i64 nx,.slice a L.length c]).alloc (.cells #[.string s] 9)).alloc (.cells #[.string d] 9)).alloc (.cells #[.int .i64 0,.slice none 0 0] 24)
 have a1:=((At.new1 w (.cells #[.int .i64 nx,.slice a L.length c] 24) 9 #[.string s]).alloc (.cells #[.string d] 9)).alloc (.cells #[.int .i64 0,.slice none 0 0] 24)
 have a2:At ((((w.alloc (.cells #[.int .i64 nx,.slice a L.length c] 24)).alloc (.cells #[.string s] 9)).alloc (.cells #[.string d] 9)).alloc (.cells #[.int .i64 0,.slice none 0 0] 24)) (w.heap.size+1+1) 9 #[.string d]:=by
  have:=(At.new1 (w.alloc (.cells #[.int .i64 nx,.slice a L.length c] 24)) (.cells #[.string s] 9) 9 #[.string d]).alloc (.cells #[.int .i64 0,.slice none 0 0] 24)
  rwa [World.size_alloc] at this
 have a3:At ((((w.alloc (.cells #[.int .i64 nx,.slice a L.length c] 24)).alloc (.cells #[.string s] 9)).alloc (.cells #[.string d] 9)).alloc (.cells #[.int .i64 0,.slice none 0 0] 24)) (w.heap.size+1+1+1) 24 #[.int .i64 0,.slice none 0 0]:=by
  have:=At.new1 ((w.alloc (.cells #[.int .i64 nx,.slice a L.length c] 24)).alloc (.cells #[.string s] 9)) (.cells #[.string d] 9) 24 #[.int .i64 0,.slice none 0 0]
  rwa [World.size_alloc,World.size_alloc] at this
 have hz1:w.heap.size+4<=((((w.alloc (.cells #[.int .i64 nx,.slice a L.length c] 24)).alloc (.cells #[.string s] 9)).alloc (.cells #[.string d] 9)).alloc (.cells #[.int .i64 0,.slice none 0 0] 24)).heap.size:=by simp
 obtain⟨c0,c1⟩:=a0.c2
 have hval:=Dv ⟨nx,L⟩ (.slice a L.length c) _ (hM.below hb1) (hP.below hb1) (by show L.length<=_;omega) (fun p hp=>by have:=hlm p hp;omega)
 have HV:=zh hval;have HM:=zh (hM.below hb1);have HP:=zh (hP.below hb1);have HB:=zh hb1;have HA0:=zh a0;have HA1:=zh a1;have HA2:=zh a2;have HA3:=zh a3;have HLM:=zh hlm;have HR:=zh hR
 clear hval hP hM hb1 a0 a1 a2 a3 hlm hR
 go_enter Tryz.func12,Tryz.ntmps12
 go_wp2_with fail
 generalize (((w.alloc (.cells #[.int .i64 nx,.slice a L.length c] 24)).alloc (.cells #[.string s] 9)).alloc (.cells #[.string d] 9)).alloc (.cells #[.int .i64 0,.slice none 0 0] 24)=w1 at*
 refine HV.out.mono ?_
 rintro e w2 ⟨rfl,hb2⟩
 have a0:=HA0.out.below hb2 (by omega);have a1:=HA1.out.below hb2 (by omega);have a2:=HA2.out.below hb2 (by omega);have a3:=HA3.out.below hb2 (by omega)
 have x0:=a0.cell 0;have x1:=a0.cell 1
 have s0:=a1.cell 0;have d0:=a2.cell 0
 have r0:=a3.cell 0;have r1:=a3.cell 1;have r2:=a3.free 0;have r3:=a3.free 1
 simp only[zg] at x0 x1 s0 d0 r0 r1
 have hP2:=HP.out.below hb2
 have hB2:=HB.out.trans (hb2.mono HB.out.size)
 have hs2:w.heap.size+4<=w2.heap.size:=Nat.le_trans hz1 hb2.size
 have HM2:=zh (HM.out.below hb2);have HP2:=zh hP2;have B2:=zh hB2;have A02:=zh a0;have A12:=zh a1;have A22:=zh a2;have A32:=zh a3
 clear hP2 hB2 hb2 a0 a1 a2 a3 c0 c1 HV HP HB HM HA0 HA1 HA2 HA3
 cases hq:Own.A9 ⟨nx,L⟩ with
 | false =>
   have e:R=(Own.Queue.none,0,1):=by rw[HR.out,hq];rfl
   have HE:=zh e;clear e
   go_wp2_with fail
   have F2:=(A32.out.set 0 (.int .i64 0)).set 1 (.slice none 0 0)
   refine Cn rfl rfl rfl rfl (Ad F2 Tryz.underlying24 rfl Ao) ⟨⟨.agg #[.int .i64 0,.slice none 0 0],?_,?_⟩,?_⟩
   ·rw[HE.out];rfl
   ·rw[HE.out];exact⟨_,rfl,Own.CB.nil _ _⟩
   ·exact(B2.out.setCell (p:=⟨w.heap.size+1+1+1,0,none⟩) (by show w.heap.size<=w.heap.size+1+1+1;omega) _).setCell (p:=⟨w.heap.size+1+1+1,1,none⟩) (by show w.heap.size<=w.heap.size+1+1+1;omega) _
 | true=>
 rw[hq] at HR
 have HR2:=zh HR.out
 clear HR
 by_cases h1:size<0
 case pos=>
  have d1:decide (size<0)=true:=decide_eq_true h1
  have e:R=(Own.Queue.none,0,2):=by rw[HR2.out,if_neg (by decide),if_pos (.inl h1)]
  have HE:=zh e;clear e
  go_wp2_with fail
  have F2:=(A32.out.set 0 (.int .i64 0)).set 1 (.slice none 0 0)
  refine Cn rfl rfl rfl rfl (Ad F2 Tryz.underlying24 rfl Ao) ⟨⟨.agg #[.int .i64 0,.slice none 0 0],?_,?_⟩,?_⟩
  ·rw[HE.out];rfl
  ·rw[HE.out];exact⟨_,rfl,Own.CB.nil _ _⟩
  ·exact(B2.out.setCell (p:=⟨w.heap.size+1+1+1,0,none⟩) (by show w.heap.size<=w.heap.size+1+1+1;omega) _).setCell (p:=⟨w.heap.size+1+1+1,1,none⟩) (by show w.heap.size<=w.heap.size+1+1+1;omega) _
 have d1:decide (size<0)=false:=decide_eq_false h1
 by_cases h2:1099511627776<size
 case pos=>
  have d2:decide (1099511627776<size)=true:=decide_eq_true h2
  have e:R=(Own.Queue.none,0,2):=by rw[HR2.out,if_neg (by decide),if_pos (.inr (.inl h2))]
  have HE:=zh e;clear e
  go_wp2_with fail
  have F2:=(A32.out.set 0 (.int .i64 0)).set 1 (.slice none 0 0)
  refine Cn rfl rfl rfl rfl (Ad F2 Tryz.underlying24 rfl Ao) ⟨⟨.agg #[.int .i64 0,.slice none 0 0],?_,?_⟩,?_⟩
  ·rw[HE.out];rfl
  ·rw[HE.out];exact⟨_,rfl,Own.CB.nil _ _⟩
  ·exact(B2.out.setCell (p:=⟨w.heap.size+1+1+1,0,none⟩) (by show w.heap.size<=w.heap.size+1+1+1;omega) _).setCell (p:=⟨w.heap.size+1+1+1,1,none⟩) (by show w.heap.size<=w.heap.size+1+1+1;omega) _
 have d2:decide (1099511627776<size)=false:=decide_eq_false h2
 by_cases h3:window<1
 case pos=>
  have d3:decide (window<1)=true:=decide_eq_true h3
  have e:R=(Own.Queue.none,0,2):=by rw[HR2.out,if_neg (by decide),if_pos (.inr (.inr (.inl h3)))]
  have HE:=zh e;clear e
  go_wp2_with fail
  have F2:=(A32.out.set 0 (.int .i64 0)).set 1 (.slice none 0 0)
  refine Cn rfl rfl rfl rfl (Ad F2 Tryz.underlying24 rfl Ao) ⟨⟨.agg #[.int .i64 0,.slice none 0 0],?_,?_⟩,?_⟩
  ·rw[HE.out];rfl
  ·rw[HE.out];exact⟨_,rfl,Own.CB.nil _ _⟩
  ·exact(B2.out.setCell (p:=⟨w.heap.size+1+1+1,0,none⟩) (by show w.heap.size<=w.heap.size+1+1+1;omega) _).setCell (p:=⟨w.heap.size+1+1+1,1,none⟩) (by show w.heap.size<=w.heap.size+1+1+1;omega) _
 have d3:decide (window<1)=false:=decide_eq_false h3
 by_cases h4:256<window
 case pos=>
  have d4:decide (256<window)=true:=decide_eq_true h4
  have e:R=(Own.Queue.none,0,2):=by rw[HR2.out,if_neg (by decide),if_pos (.inr (.inr (.inr h4)))]
  have HE:=zh e;clear e
  go_wp2_with fail
  have F2:=(A32.out.set 0 (.int .i64 0)).set 1 (.slice none 0 0)
  refine Cn rfl rfl rfl rfl (Ad F2 Tryz.underlying24 rfl Ao) ⟨⟨.agg #[.int .i64 0,.slice none 0 0],?_,?_⟩,?_⟩
  ·rw[HE.out];rfl
  ·rw[HE.out];exact⟨_,rfl,Own.CB.nil _ _⟩
  ·exact(B2.out.setCell (p:=⟨w.heap.size+1+1+1,0,none⟩) (by show w.heap.size<=w.heap.size+1+1+1;omega) _).setCell (p:=⟨w.heap.size+1+1+1,1,none⟩) (by show w.heap.size<=w.heap.size+1+1+1;omega) _
 have d4:decide (256<window)=false:=decide_eq_false h4
 have e:=HR2.out
 rw[if_neg (by decide),if_neg (by omega)] at e
 have HR3:=zh e
 clear e HR2
 go_wp2_with fail
 refine(Qp s w2 HM2.out).mono ?_
 rintro e w3 ⟨rfl,hb3⟩
 have a0:=A02.out.below hb3 (by omega);have a1:=A12.out.below hb3 (by omega);have a2:=A22.out.below hb3 (by omega);have a3:=A32.out.below hb3 (by omega)
 clear x0 x1 s0 d0 r0 r1 r2 r3 d1 d2 d3 d4
 have x0:=a0.cell 0;have x1:=a0.cell 1
 have s0:=a1.cell 0;have d0:=a2.cell 0
 have r0:=a3.cell 0;have r1:=a3.cell 1;have r2:=a3.free 0;have r3:=a3.free 1
 simp only[zg] at x0 x1 s0 d0 r0 r1
 have B3:=zh (B2.out.trans (hb3.mono B2.out.size));have P3:=zh (HP2.out.below hb3);have A03:=zh a0;have A13:=zh a1;have A23:=zh a2;have A33:=zh a3
 have hs3:=Nat.le_trans hs2 hb3.size
 clear a0 a1 a2 a3 hb3 A02 A12 A22 A32 HM2 HP2 B2
 cases hp:Own.Bt s with
 | false =>
   have e:R=(Own.Queue.none,0,4):=by rw[HR3.out,if_pos hp]
   have HE:=zh e;clear e
   go_wp2_with fail
   have F2:=(A33.out.set 0 (.int .i64 0)).set 1 (.slice none 0 0)
   refine Cn rfl rfl rfl rfl (Ad F2 Tryz.underlying24 rfl Ao) ⟨⟨.agg #[.int .i64 0,.slice none 0 0],?_,?_⟩,?_⟩
   ·rw[HE.out];rfl
   ·rw[HE.out];exact⟨_,rfl,Own.CB.nil _ _⟩
   ·exact(B3.out.setCell (p:=⟨w.heap.size+1+1+1,0,none⟩) (by show w.heap.size<=w.heap.size+1+1+1;omega) _).setCell (p:=⟨w.heap.size+1+1+1,1,none⟩) (by show w.heap.size<=w.heap.size+1+1+1;omega) _
 | true=>
 have e:=HR3.out
 rw[hp,if_neg (by decide)] at e
 by_cases h5:d.size=32
 case neg=>
  have d5:((d.size:Int)==32)=false:=beq_eq_false_iff_ne.2 (by omega)
  have hd:Sig.digest d=false:=decide_eq_false h5
  have e2:R=(Own.Queue.none,0,1):=by rw[e,if_pos hd]
  have HE:=zh e2;clear e e2 hd HR3
  go_wp2_with fail
  have F2:=(A33.out.set 0 (.int .i64 0)).set 1 (.slice none 0 0)
  refine Cn rfl rfl rfl rfl (Ad F2 Tryz.underlying24 rfl Ao) ⟨⟨.agg #[.int .i64 0,.slice none 0 0],?_,?_⟩,?_⟩
  ·rw[HE.out];rfl
  ·rw[HE.out];exact⟨_,rfl,Own.CB.nil _ _⟩
  ·exact(B3.out.setCell (p:=⟨w.heap.size+1+1+1,0,none⟩) (by show w.heap.size<=w.heap.size+1+1+1;omega) _).setCell (p:=⟨w.heap.size+1+1+1,1,none⟩) (by show w.heap.size<=w.heap.size+1+1+1;omega) _
 have d5:((d.size:Int)==32)=true:=by rw[beq_iff_eq];omega
 have hd:Sig.digest d=true:=decide_eq_true h5
 rw[hd,if_neg (by decide)] at e
 have HR4:=zh e;have H5:=zh h5
 clear e hd HR3 h5
 have hcf:=Ou 41 #[.pointer (some ⟨w.heap.size+1,0,none⟩),.pointer (some ⟨w.heap.size+1+1,0,none⟩)] (by intros;rfl) (fun p:Own.Ab=>decide (p.path=s)&&decide (p.digest=d)) _ L w3 P3.out (by omega) (fun W x u hb=>RI x u _ _ s d W ((hb.cell (p:=⟨w.heap.size+1,0,none⟩) A13.out.lt).trans s0) ((hb.cell (p:=⟨w.heap.size+1+1,0,none⟩) A23.out.lt).trans d0))
 have HCF:=zh hcf
 clear hcf
 go_wp2_with fail
 refine HCF.out.mono ?_
 rintro e w4 ⟨rfl,hb4⟩
 have a0:=A03.out.below hb4 (by omega);have a1:=A13.out.below hb4 (by omega);have a2:=A23.out.below hb4 (by omega);have a3:=A33.out.below hb4 (by omega)
 clear x0 x1 s0 d0 r0 r1 r2 r3 d5
 have x0:=a0.cell 0;have x1:=a0.cell 1
 have s0:=a1.cell 0;have d0:=a2.cell 0
 have r0:=a3.cell 0;have r1:=a3.cell 1;have r2:=a3.free 0;have r3:=a3.free 1
 simp only[zg] at x0 x1 s0 d0 r0 r1
 have B4:=zh (B3.out.trans (hb4.mono B3.out.size));have P4:=zh (P3.out.below hb4);have A04:=zh a0;have A14:=zh a1;have A24:=zh a2;have A34:=zh a3
 have hs4:=Nat.le_trans hs3 hb4.size
 clear a0 a1 a2 a3 hb4 A03 A13 A23 A33 P3 B3 HCF
 cases hx:L.any (fun p=>decide (p.path=s)&&decide (p.digest=d)) with
 | true =>
   have e:R=(Own.Queue.none,0,5):=by rw[HR4.out,if_pos hx]
   have HE:=zh e;clear e
   go_wp2_with fail
   have F2:=(A34.out.set 0 (.int .i64 0)).set 1 (.slice none 0 0)
   refine Cn rfl rfl rfl rfl (Ad F2 Tryz.underlying24 rfl Ao) ⟨⟨.agg #[.int .i64 0,.slice none 0 0],?_,?_⟩,?_⟩
   ·rw[HE.out];rfl
   ·rw[HE.out];exact⟨_,rfl,Own.CB.nil _ _⟩
   ·exact(B4.out.setCell (p:=⟨w.heap.size+1+1+1,0,none⟩) (by show w.heap.size<=w.heap.size+1+1+1;omega) _).setCell (p:=⟨w.heap.size+1+1+1,1,none⟩) (by show w.heap.size<=w.heap.size+1+1+1;omega) _
 | false=>
 have e:=HR4.out
 rw[hx,if_neg (by decide)] at e
 by_cases h6:L.length=64
 case pos=>
  have d6:((L.length:Int)==64)=true:=by rw[beq_iff_eq];omega
  have e2:R=(Own.Queue.none,0,7):=by rw[e,if_pos (.inl h6)]
  have HE:=zh e2;clear e e2 HR4
  go_wp2_with fail
  have F2:=(A34.out.set 0 (.int .i64 0)).set 1 (.slice none 0 0)
  refine Cn rfl rfl rfl rfl (Ad F2 Tryz.underlying24 rfl Ao) ⟨⟨.agg #[.int .i64 0,.slice none 0 0],?_,?_⟩,?_⟩
  ·rw[HE.out];rfl
  ·rw[HE.out];exact⟨_,rfl,Own.CB.nil _ _⟩
  ·exact(B4.out.setCell (p:=⟨w.heap.size+1+1+1,0,none⟩) (by show w.heap.size<=w.heap.size+1+1+1;omega) _).setCell (p:=⟨w.heap.size+1+1+1,1,none⟩) (by show w.heap.size<=w.heap.size+1+1+1;omega) _
 have d6:((L.length:Int)==64)=false:=beq_eq_false_iff_ne.2 (by omega)
 by_cases h7:nx=1099511627776
 case pos=>
  have d7:(nx==1099511627776)=true:=by rw[beq_iff_eq];exact h7
  have e2:R=(Own.Queue.none,0,7):=by rw[e,if_pos (.inr h7)]
  have HE:=zh e2;clear e e2 HR4 h7
  go_wp2_with fail
  have F2:=(A34.out.set 0 (.int .i64 0)).set 1 (.slice none 0 0)
  refine Cn rfl rfl rfl rfl (Ad F2 Tryz.underlying24 rfl Ao) ⟨⟨.agg #[.int .i64 0,.slice none 0 0],?_,?_⟩,?_⟩
  ·rw[HE.out];rfl
  ·rw[HE.out];exact⟨_,rfl,Own.CB.nil _ _⟩
  ·exact(B4.out.setCell (p:=⟨w.heap.size+1+1+1,0,none⟩) (by show w.heap.size<=w.heap.size+1+1+1;omega) _).setCell (p:=⟨w.heap.size+1+1+1,1,none⟩) (by show w.heap.size<=w.heap.size+1+1+1;omega) _
 have d7:(nx==1099511627776)=false:=beq_eq_false_iff_ne.2 h7
 rw[if_neg (by omega)] at e
 have HE:=zh e;have H7:=zh h7
 clear e HR4 h7
 have hkp:=I9 43 #[] (by intros;rfl) (fun _=>true) nx _ L w4 P4.out hls HLM.out (fun W x u hb=>SH x u W)
 have HKP:=zh hkp
 clear hkp r0 r1 r2 r3
 go_wp2_with fail
 refine HKP.out.mono ?_
 rintro e w5 ⟨⟨v',rfl,hpo⟩,hb5⟩
 have hfl:List.filter (fun _=>true) L=L:=List.filter_eq_self.2 (fun _ _=>rfl)
 rw[hfl] at hpo
 obtain⟨va,vc,rfl⟩:=hpo.one
 have hw:wrap64 (size+window)=size+window:=by unfold wrap64;omega
 have hn:0<=nx/\nx<=1099511627776:=by
  unfold Own.A9 Own.late at hq
  simp only[Bool.and_eq_true,decide_eq_true_eq] at hq
  exact⟨hq.1.1.1,hq.1.1.2⟩
 have hw2:wrap64 (nx+1)=nx+1:=by have:=hn.1;have:=hn.2;unfold wrap64;omega
 have b56:Below w5.heap.size w5 (w5.alloc (.cells #[.int .i64 nx,.slice va L.length vc] 24)):=zb
 have b46:=hb5.trans (b56.mono hb5.size)
 have a0:=A04.out.below b46 (by omega);have a1:=A14.out.below b46 (by omega);have a2:=A24.out.below b46 (by omega);have a3:=A34.out.below b46 (by omega)
 have o6:=At.new w5 24 #[.int .i64 nx,.slice va L.length vc]
 have p6:=(hpo.base (B':=w4.heap.size) (by omega)).x (X:=fun k=>k=w5.heap.size) b56 (fun k hk=>by subst hk;exact⟨Nat.le_refl _,by simp⟩)
 clear x0 x1 s0 d0
 have x0:=a0.cell 0;have x1:=a0.cell 1
 have s0:=a1.cell 0;have d0:=a2.cell 0
 have r0:=a3.cell 0;have r1:=a3.cell 1;have r2:=a3.free 0;have r3:=a3.free 1
 simp only[zg] at x0 x1 s0 d0 r0 r1
 obtain⟨o0,o1⟩:=o6.c2
 have hs5:=hb5.size
 have hz6:w5.heap.size<(w5.alloc (.cells #[.int .i64 nx,.slice va L.length vc] 24)).heap.size:=by simp
 have B6:=zh (B4.out.trans (b46.mono B4.out.size));have A06:=zh a0;have A36:=zh a3;have O6:=zh o6;have P6:=zh p6;have HW:=zh hw;have HW2:=zh hw2
 clear a0 a1 a2 a3 o6 p6 hpo b46 b56 hb5 hfl hw hw2 hn hq hx h6 A04 A14 A24 A34 P4 B4 HKP d6 d7
 go_upto_region 14 with fail
 generalize w5.alloc (.cells #[.int .i64 nx,.slice va L.length vc] 24)=w6 at*
 have b67:Below w6.heap.size w6 (w6.alloc (.cells #[.int .i64 nx,.string s,.string d,.int .i64 size,.int .i64 (size+window),.slice none 0 0] 46)):=zb
 have hrw:=CS w6 46 #[.int .i64 nx,.string s,.string d,.int .i64 size,.int .i64 (size+window),.slice none 0 0] 6 1 1 rfl
 have p7:=P6.out.keep b67.size (fun k _ hl _=>b67.block k hl)
 obtain⟨t1,t2,css,q1,q2,q3⟩:=p7
 have T1:=zh t1;have T2:=zh t2;have Q1:=zh q1;have Q2:=zh q2;have Q3:=zh q3;have HRW:=zh hrw
 have B7:=zh (B6.out.trans (b67.mono B6.out.size));have O7:=zh (O6.out.below b67 O6.out.lt);have A07:=zh (A06.out.below b67 A06.out.lt);have A37:=zh (A36.out.below b67 A36.out.lt)
 have yM:w4.heap.size+3<=w6.heap.size\/w6.heap.size<w4.heap.size+3:=by omega
 have hOl:=O6.out.lt
 have hB6:=B6.out.size
 clear t1 t2 q1 q2 q3 hrw b67 r0 r1 r2 r3 yM
 have zal:w5.heap.size≠w.heap.size:=by omega
 go_upto_region 15 with (first
  | rw[HW.out]
  | (at_builtin;go_must (refine Am Nh rfl _ _ rfl w4.heap.size L.length (.slice va L.length vc) css.flatten rfl Q2.out (.slice (some ⟨w6.heap.size,0,none⟩) 1 1) 1 [.int .i64 nx,.string s,.string d,.int .i64 size,.int .i64 (size+window),.slice none 0 0] rfl HRW.out (by intro u hu;simp at hu;rcases hu with rfl|rfl|rfl|rfl|rfl|rfl<;>rfl) (by omega) (by omega) (by rw[World.size_alloc];omega) ?_);intro v9 w9 ho9 hg9 hw9;obtain⟨ya,ym,yc,rfl⟩:=Ae ho9;have HP9:=zh (Own.M5.push (x:=⟨nx,s,d,size,size+window,[]⟩) T1.out T2.out Q1.out Q3.out rfl ho9 hg9 hw9);have HB9:=zh (Ba B7.out B7.out.size (Cm Q2.out (by omega)) hg9);have O9:=zh (O7.out.keep (hg9.block _ O7.out.lt (fun e=>T2.out _ e.symm rfl)));have A09:=zh (A07.out.keep (hg9.block _ A07.out.lt (fun e=>by have:=Bo Q2.out _ e.symm;omega)));have A39:=zh (A37.out.keep (hg9.block _ A37.out.lt (fun e=>by have:=Bo Q2.out _ e.symm;omega)));have hs9:=hg9.size;have c9:=O9.out.cell 1;have f9:=O9.out.free 1;clear ho9 hg9 hw9))
 have o10:At (w9.setCell ⟨w5.heap.size,1,none⟩ (.slice ya ym yc)) w5.heap.size 24 #[.int .i64 nx,.slice ya ym yc]:=O9.out.set 1 (.slice ya ym yc)
 have a10:=A09.out.far (p:=⟨w5.heap.size,1,none⟩) (by show w.heap.size≠w5.heap.size;omega) (.slice ya ym yc)
 have r10:=A39.out.far (p:=⟨w5.heap.size,1,none⟩) (by show w.heap.size+1+1+1≠w5.heap.size;omega) (.slice ya ym yc)
 have b10:=HB9.out.setCell (p:=⟨w5.heap.size,1,none⟩) (by show w.heap.size<=w5.heap.size;omega) (.slice ya ym yc)
 have p10:=HP9.out.keep (w':=w9.setCell ⟨w5.heap.size,1,none⟩ (.slice ya ym yc)) (by simp[World.setCell]) (fun k _ _ hk=>zo hk)
 have O10:=zh o10;have uN:=zh a10;have R10:=zh r10;have B10:=zh b10;have P10:=zh p10
 have o0:=o10.cell 0;have o1:=o10.free 0
 simp only[zg] at o0
 clear o10 a10 r10 b10 p10 HB9 O9 A09 A39 HP9 c9 f9 hs9 Q1 Q2 Q3 T1 T2 HRW O7 A07 A37 B7 P6 O6 A06 A36 B6 x0 x1 s0 d0
 generalize w9.setCell ⟨w5.heap.size,1,none⟩ (.slice ya ym yc)=w10 at*
 go_upto_region 16 with (rw[HW2.out])
 have o11:At (w10.setCell ⟨w5.heap.size,0,none⟩ (.int .i64 (nx+1))) w5.heap.size 24 #[.int .i64 (nx+1),.slice ya ym yc]:=O10.out.set 0 (.int .i64 (nx+1))
 have a11:=uN.out.far (p:=⟨w5.heap.size,0,none⟩) (by show w.heap.size≠w5.heap.size;omega) (.int .i64 (nx+1))
 have r11:=R10.out.far (p:=⟨w5.heap.size,0,none⟩) (by show w.heap.size+1+1+1≠w5.heap.size;omega) (.int .i64 (nx+1))
 have b11:=B10.out.setCell (p:=⟨w5.heap.size,0,none⟩) (by show w.heap.size<=w5.heap.size;omega) (.int .i64 (nx+1))
 have p11:=P10.out.keep (w':=w10.setCell ⟨w5.heap.size,0,none⟩ (.int .i64 (nx+1))) (by simp[World.setCell]) (fun k _ _ hk=>zo hk)
 have P11:=zh p11.drop;have B11:=zh b11;have R11:=zh r11
 have o2:=o11.cell 0;have o3:=o11.cell 1;have x0:=a11.cell 0
 have r0:=r11.cell 0;have r1:=r11.cell 1;have r2:=r11.free 0;have r3:=r11.free 1
 simp only[zg] at o2 o3 x0 r0 r1
 clear o11 a11 r11 b11 p11 o0 o1 O10 uN R10 B10 P10
 generalize w10.setCell ⟨w5.heap.size,0,none⟩ (.int .i64 (nx+1))=w11 at*
 refine Lex.zn (fun k=>k=w.heap.size) [2] 4 [4] ?_
 simp only[Lex.Bg,zd]
 go_wp2_with fail
 refine Lex.Mid.intro (fun k hk _=>by have hk3:k≠w.heap.size+1+1+1:=(by subst hk;omega);rw[Ar,Ar,zo hk3,zo hk3]) ?_
 go_wp2_with fail
 refine Lex.zk ⟨⟨rfl,zi x0⟩,trivial⟩ ?_
 go_wp2_with fail
 have F2:=((R11.out.set 0 (.int .i64 (nx+1))).set 1 (.slice ya ym yc)).drew
 refine Cn rfl rfl rfl rfl (Ad F2 Tryz.underlying24 rfl Ao) ⟨⟨.agg #[.int .i64 (nx+1),.slice ya ym yc],?_,?_⟩,?_⟩
 ·rw[HE.out];rfl
 ·rw[HE.out]
  refine⟨_,rfl,Own.CB.base (B:=w4.heap.size) (P11.out.keep (by rw[Ar];simp[World.setCell]) (fun k hk _=>?_)) (by omega)⟩
  have hk1:k≠w.heap.size+1+1+1:=by omega
  rw[Ar,zo hk1,zo hk1]
 ·exact((B11.out.setCell (p:=⟨w.heap.size+1+1+1,0,none⟩) (by show w.heap.size<=w.heap.size+1+1+1;omega) _).setCell (p:=⟨w.heap.size+1+1+1,1,none⟩) (by show w.heap.size<=w.heap.size+1+1+1;omega) _).drew
theorem gy (x y:ByteArray):(x==y)=decide (x=y):=by
 rw[Bool.eq_iff_iff,decide_eq_true_iff]
 constructor
 ·intro h
  cases x;cases y
  have h' : (_:Array UInt8)==_:=h
  exact congrArg ByteArray.mk (eq_of_beq h')
 ·rintro rfl
  cases x
  show(_:Array UInt8)==_
  exact BEq.rfl
theorem JU (D:Nat)(a c:ByteArray)(w:World):(Op.equalIn (D+1) 9 (.string a) (.string c)).run Tryz.prog w=.ok (a==c) w:=by
 rw[Op.equalIn]
 simp[Tryz.underlying9]
theorem QK (D:Nat)(a b c d:ByteArray)(w:World):(Op.equalIn (D+2) 73 (.agg #[.string a,.string b]) (.agg #[.string c,.string d])).run Tryz.prog w=.ok ((a==c)&&(b==d)) w:=by
 have hs:Tryz.prog.stoodInHeld 73=false:=by kernel_rfl
 have e1:=JU D a c w
 have e2:=JU D b d w
 have s1:∀ w,(sizeOf 9).run Tryz.prog w=.ok 1 w:=fun w=>by kernel_rfl
 have s2:∀ w,(isAgg 9).run Tryz.prog w=.ok false w:=fun w=>by kernel_rfl
 rw[Op.equalIn]
 cases h1:a==c<;>cases h2:b==d<;>rw[h1] at e1<;>rw[h2] at e2<;>simp[Tryz.underlying73,hs,part,e1,e2,s1,s2,Result.andThen]
theorem Yp (a b c d:ByteArray)(w:World):(binOp .eql 73 (.agg #[.string a,.string b]) (.agg #[.string c,.string d])).run Tryz.prog w=.ok (.bool (decide (a=c)&&decide (b=d))) w:=by
 have h2:(Op.equal 73 (.agg #[.string a,.string b]) (.agg #[.string c,.string d])).run Tryz.prog w=.ok ((a==c)&&(b==d)) w:=QK 9998 a b c d w
 have h3:(decide (a=c)&&decide (b=d))=((a==c)&&(b==d)):=by
  rw[gy,gy]
 rw[h3]
 simp[binOp,h2,Result.andThen]
def Own.M6 (x:Own.Member)(m:Own.Member):Bool:=decide (x.name=m.name)&&decide (x.pub=m.pub)
theorem RJ (v:Value)(l:List Own.Member)(nm pb:ByteArray)(w:World)(h:Own.AY w v l)(hl:l.length<=140737488355328):
 Calls Tryz.prog 135 #[v,.agg #[.string nm,.string pb]] w fun e w' => (∃ i,e=.returned (.int .i64 i)/\Own.Idx (Own.M6 ⟨nm,pb⟩) l i)/\Below w.heap.size w w':=by
 obtain⟨a,c,rfl⟩:=h.len
 have hb1:Below w.heap.size w (w.alloc (.cells #[.string nm,.string pb] 73)):=zb
 have ha:=At.new w 73 #[.string nm,.string pb]
 have HL:=zh (h.below hb1);have HB:=zh hb1;have HA:=zh ha
 clear h hb1 ha
 go_enter Tryz.func135,Tryz.ntmps135
 go_wp2_with fail
 generalize w.alloc (.cells #[.string nm,.string pb] 73)=w1 at*
 go_loopw [8] (fun i wr=>∃ k:Nat,∃ hk:k<=l.length,i=.int .i64 k/\(∀ j (hj:j<k),Own.M6 ⟨nm,pb⟩ (l[j]'(by omega))=false)/\Below w1.heap.size w1 wr) (fun i _=>l.length-(intOf i).toNat)
 case atStart=>exact⟨0,by omega,rfl,(fun j hj=>absurd hj (by omega)),Below.refl _ _⟩
 case round=>
  obtain⟨k,hk,rfl,hn,hb⟩:=hrel
  have HBW:=zh hb;have HN:=zh hn
  by_cases hlt:k<l.length
  case neg=>
   have hke:k=l.length:=by omega
   have dk:decide ((k:Int)<l.length)=false:=zf
   have hix:=Own.Idx.miss (p:=Own.M6 ⟨nm,pb⟩) (l:=l) (fun j hj=>hn j (by omega))
   have HIX:=zh hix
   clear hix hke hb hn
   go_wp2_with fail
   go_ret
   exact⟨⟨_,rfl,HIX.out⟩,HB.out.trans (HBW.out.mono HB.out.size)⟩
  have dk:decide ((k:Int)<l.length)=true:=zt
  obtain⟨b,o,ha,hbl,e0,e1⟩:=Own.AY.cells (HL.out.below hb) hlt
  subst ha
  have ar:=HA.out.below hb HA.out.lt
  obtain⟨c0,c1⟩:=ar.c2
  obtain⟨q0,hq0⟩:∃ x,x=l[k].name:=⟨_,rfl⟩
  obtain⟨q1,hq1⟩:∃ x,x=l[k].pub:=⟨_,rfl⟩
  have hsame:Own.M6 ⟨nm,pb⟩ l[k]=(decide (nm=q0)&&decide (pb=q1)):=by rw[hq0,hq1];rfl
  have heq:=Yp nm pb q0 q1
  rw[<- hq0] at e0
  rw[<- hq1] at e1
  have HS:=zh hsame
  clear hb hn hq0 hq1 hsame ar
  obtain⟨S,hS⟩:∃ S,S=(decide (nm=q0)&&decide (pb=q1)):=⟨_,rfl⟩
  rw[<- hS] at HS heq
  clear hS
  cases S with
  | true =>
    have hix:=Own.Idx.hit hlt HS.out HN.out
    have HIX:=zh hix
    clear hix
    go_wp2_with fail
    go_quiet (fail)
    go_wp2_with fail
    go_ret
    exact⟨⟨_,rfl,HIX.out⟩,HB.out.trans ((below_drewN HBW.out nq).mono HB.out.size)⟩
  | false =>
    have hn2:∀ j (hj:j<k+1),Own.M6 ⟨nm,pb⟩ (l[j]'(by omega))=false:=fun j hj=>by
     by_cases e:j=k
     ·subst e;exact HS.out
     ·exact HN.out j (by omega)
    have HN2:=zh hn2
    clear hn2
    go_wp2_with fail
    go_quiet (fail)
    go_wp2_with fail
    go_round
    case measure=>simp[intOf];omega
    case rel=>exact⟨k+1,by omega,by go_num,HN2.out,below_drewN HBW.out nq⟩
theorem RL (v:Value)(l:List Own.Member)(nm pb:ByteArray)(w:World)(h:Own.AY w v l)(hl:l.length<=140737488355328):
 Calls Tryz.prog 110 #[v,.agg #[.string nm,.string pb]] w fun e w' => e=.returned (.bool (l.any (Own.M6 ⟨nm,pb⟩)))/\Below w.heap.size w w':=by
 have hb1:Below w.heap.size w (w.alloc (.cells #[.string nm,.string pb] 73)):=zb
 have HI:=zh (RJ v l nm pb _ (h.below hb1) hl);have HB1:=zh hb1
 clear h hb1
 go_enter Tryz.func110,Tryz.ntmps110
 go_wp2_with fail
 refine HI.out.mono ?_
 rintro e w2 ⟨⟨i,rfl,hi⟩,hb⟩
 have HB:=zh (HB1.out.trans (hb.mono HB1.out.size));have HJ:=zh hi.any;clear hb hi
 go_wp2_with fail
 go_ret
 exact⟨by rw[<- HJ.out];rfl,HB.out⟩
namespace Own
theorem Wy (s:Space)(v:Vote):counts s v=s.members.any (M6 ⟨v.name,v.pub⟩):=by
 unfold counts M6
 congr 1
 funext m
 congr 1<;>exact decide_eq_decide.2 eq_comm
def Oe (a:Option Space):Space:=match a with
 | none=>⟨⟨#[]⟩,[],0⟩
 | some s=>s
theorem Yq (p:Ab)(o:Ap):D9 p o=((p.Aq.filter (counts (Oe (authority o p.path)))).all (·.agrees)&&((authority o p.path).isSome&&decide ((Oe (authority o p.path)).threshold<=((p.Aq.filter (counts (Oe (authority o p.path)))).length:Int)))):=by
 unfold D9
 cases h:authority o p.path with
 | none=>simp
 | some s=>rfl
theorem JD.vals {w w' : World}{r:Option Space}{e:Ending}(h:JD w r e w'):(∃ v',e=.returned (.tuple #[.agg #[.string (Oe r).pre,v',.int .i64 (Oe r).threshold],.bool r.isSome])/\AY w' v' (Oe r).members)/\Below w.heap.size w w':=by
 obtain⟨h,hb⟩:=h
 refine⟨?_,hb⟩
 cases r with
 | none=>exact⟨_,h,Af.nil _ _⟩
 | some s =>
   obtain⟨v',h1,h2⟩:=h
   exact⟨v',h1,AY.of (BA.own h2) rfl⟩
end Own
theorem MB (p:Own.Ab)(o:Own.Ap)(v sv kv:Value)(w:World)(hM:Fx w)(hV:Own.Ct w v p.Aq)(hS:Own.Bw w sv o.spaces)(hK:Own.Ca w kv o.keys)(hlv:p.Aq.length<=140737488355328)(hls:o.spaces.length<=140737488355328)(hlk:o.keys.length<=140737488355328)(hlm:∀ s∈o.spaces,s.members.length<=140737488355328):
 Calls Tryz.prog 72 #[.agg #[.int .i64 p.id,.string p.path,.string p.digest,.int .i64 p.opened,.int .i64 p.expires,v],.agg #[.int .i64 o.count,sv,kv]] w fun e w' => e=.returned (.bool (Own.D9 p o))/\Below w.heap.size w w':=by
 obtain⟨R,hR⟩:∃ R,R=Own.D9 p o:=⟨_,rfl⟩
 rw[<- hR]
 rw[Own.Yq] at hR
 obtain⟨sa,sc,rfl⟩:=hS.len
 obtain⟨ka,kc,rfl⟩:=hK.len
 obtain⟨va,vc,rfl⟩:=hV.len
 obtain⟨id,pa,di,op,ex,V⟩:=p
 dsimp only at*
 have hb1:Below w.heap.size w ((w.alloc (.cells #[.int .i64 id,.string pa,.string di,.int .i64 op,.int .i64 ex,.slice va V.length vc] 46)).alloc (.cells #[.int .i64 o.count,.slice sa o.spaces.length sc,.slice ka o.keys.length kc] 38)):=zb.alloc (by simp) _
 have a0:=(At.new w 46 #[.int .i64 id,.string pa,.string di,.int .i64 op,.int .i64 ex,.slice va V.length vc]).alloc (.cells #[.int .i64 o.count,.slice sa o.spaces.length sc,.slice ka o.keys.length kc] 38)
 have hau:=EK o pa _ _ _ (hM.below hb1) (hS.below hb1) (hK.below hb1) hls hlk hlm
 have Rw:=hau.mono (fun e w' h=>Own.JD.vals h)
 obtain⟨A,hA⟩:∃ A,A=Own.authority o pa:=⟨_,rfl⟩
 rw[<- hA] at Rw hR
 obtain⟨⟨Ll,M,th⟩,hS'⟩:∃ s,s=Own.Oe A:=⟨_,rfl⟩
 rw[<- hS'] at Rw hR
 obtain⟨ok,hok⟩:∃ b,b=A.isSome:=⟨_,rfl⟩
 rw[<- hok] at Rw hR
 have hmb:M.length<=140737488355328:=by
  have e:M=(Own.Oe A).members:=by rw[<- hS']
  rw[e]
  cases hh:A with
  | none=>exact Nat.zero_le _
  | some s=>exact hlm s (Own.JJ (hA ▸ hh)).2.2.2
 have HMB:=zh hmb
 clear hA hS' hok hau hmb
 dsimp only at Rw hR
 have HAU:=zh Rw;have HV:=zh (hV.below hb1);have HB:=zh hb1;have HA:=zh a0;have HR:=zh hR
 have c1:=a0.cell 1
 simp only[zg] at c1
 clear Rw hM hV hS hK hb1 a0 hR
 go_enter Tryz.func72,Tryz.ntmps72
 go_wp2_with fail
 refine HAU.out.mono ?_
 rintro e w2 ⟨⟨mv,rfl,hmm⟩,hb2⟩
 obtain⟨ma,mc,rfl⟩:=hmm.len
 have b23:Below w2.heap.size w2 (w2.alloc (.cells #[.string Ll,.slice ma M.length mc,.int .i64 th] 70)):=zb
 have b13:=hb2.trans (b23.mono hb2.size)
 have a3:=HA.out.below b13 HA.out.lt
 have s3:=At.new w2 70 #[.string Ll,.slice ma M.length mc,.int .i64 th]
 have d5:=a3.cell 5
 simp only[zg] at d5
 have HB3:=zh (HB.out.trans (b13.mono HB.out.size));have S3:=zh s3;have HV3:=zh (HV.out.below b13);have HM3:=zh (hmm.below b23)
 clear b23 b13 a3 s3 hmm hb2 HAU HV HB HA c1
 obtain⟨CN,hCN⟩:∃ CN,CN=Own.counts ⟨Ll,M,th⟩:=⟨_,rfl⟩
 rw[<- hCN] at HR
 have hcn:∀ x:Own.Vote,CN x=M.any (Own.M6 ⟨x.name,x.pub⟩):=fun x=>by rw[hCN,Own.Wy]
 have HCN:=zh hcn
 clear hCN hcn
 go_upto_region 4 with fail
 generalize w2.alloc (.cells #[.string Ll,.slice ma M.length mc,.int .i64 th] 70)=w3 at*
 clear d5
 go_loopw [7,20] (fun n i wr=>∃ k:Nat,k<=V.length/\i=.int .i64 k/\n=.int .i64 (((V.take k).filter CN).length:Nat)/\((V.take k).filter CN).all (·.agrees)=true/\Below w3.heap.size w3 wr) (fun n i _=>V.length-(intOf i).toNat)
 case atStart=>exact⟨0,by omega,rfl,rfl,rfl,Below.refl _ _⟩
 case round=>
  obtain⟨k,hk,rfl,rfl,hall,hb⟩:=hrel
  have HBW:=zh hb
  have sr:=S3.out.below hb S3.out.lt
  have g1:=sr.cell 1;have g2:=sr.cell 2
  simp only[zg] at g1 g2
  obtain⟨N,hN⟩:∃ N:Nat,N=((V.take k).filter CN).length:=⟨_,rfl⟩
  rw[<- hN]
  by_cases hlt:k<V.length
  case neg=>
   have hke:k=V.length:=by omega
   have dk:decide ((k:Int)<V.length)=false:=zf
   rw[hke,List.take_length] at hall hN
   have e:R=(ok&&decide (th<=(N:Int))):=by rw[HR.out,hall,<- hN,Bool.true_and]
   have HE:=zh e
   clear e hall hN hke hb sr HR
   cases ok with
   | false =>
     go_wp2_with fail
     go_ret
     exact⟨by rw[HE.out];rfl,HB3.out.trans (HBW.out.mono HB3.out.size)⟩
   | true =>
     go_wp2_with fail
     go_ret
     exact⟨by rw[HE.out];rfl,HB3.out.trans (HBW.out.mono HB3.out.size)⟩
  have dk:decide ((k:Int)<V.length)=true:=zt
  obtain⟨b,o',ha,hbl,e0,e1,e2⟩:=Own.Ct.cells (HV3.out.below hb) hlt
  subst ha
  have htk:(V.take (k+1)).filter CN=(V.take k).filter CN++(if CN V[k]=true then [V[k]] else []):=by
   have e:List.filter CN [V[k]]=if CN V[k]=true then [V[k]] else []:=by cases h:CN V[k]<;>simp[h]
   rw[List.take_succ_eq_append_getElem hlt,List.filter_append,e]
  have hNk:N<=k:=by
   rw[hN]
   have:=List.length_filter_le CN (List.take k V)
   have h2:(List.take k V).length=k:=by rw[List.length_take];omega
   omega
  have hbad:CN V[k]=true->V[k].agrees=false->R=false:=fun h1 h2=>by
   rw[HR.out]
   have:(V.filter CN).all (·.agrees)=false:=by
    rw[List.all_eq_false]
    exact⟨V[k],List.mem_filter.2 ⟨List.getElem_mem hlt,h1⟩,by rw[h2];decide⟩
   rw[this,Bool.false_and]
  have hcn:=HCN.out V[k]
  obtain⟨x,hx⟩:∃ x,x=V[k]:=⟨_,rfl⟩
  rw[<- hx] at e0 e1 e2 htk hbad hcn
  obtain⟨xn,xp,xa⟩:=x
  dsimp only at e0 e1 e2 hcn hbad
  obtain⟨C,hC⟩:∃ C,C=CN ⟨xn,xp,xa⟩:=⟨_,rfl⟩
  rw[<- hC] at hbad htk hcn
  have b4:Below wr.heap.size wr (wr.alloc (.cells #[.string xn,.string xp,.bool xa] 82)):=zb
  have s4:=sr.alloc (.cells #[.string xn,.string xp,.bool xa] 82)
  have v4:=At.new wr 82 #[.string xn,.string xp,.bool xa]
  have f1:=s4.cell 1
  simp only[zg] at f1
  have hco:=RL _ M xn xp _ ((HM3.out.below hb).below b4) HMB.out
  rw[<- hcn] at hco
  have HCO:=zh hco;have HB4:=zh (hb.trans (b4.mono hb.size));have V4:=zh v4;have HBAD:=zh hbad;have HTK:=zh htk;have Vx:=zh hall;have HN:=zh hN
  clear hco b4 s4 v4 hbad htk hall hN hcn hC hx hb sr
  go_wp2_with fail
  refine HCO.out.mono ?_
  rintro e w5 ⟨rfl,hb5⟩
  have v5:=V4.out.below hb5 V4.out.lt
  have q2:=v5.cell 2
  simp only[zg] at q2
  have HB5:=zh (HB4.out.trans (hb5.mono HB4.out.size))
  clear hb5 v5
  cases C with
  | false =>
    go_wp2_with fail
    go_round
    case measure=>simp[intOf];omega
    case rel=>
     have h2:=HTK.out
     rw[if_neg (by decide),List.append_nil] at h2
     exact⟨k+1,by omega,by go_num,by rw[h2,<- HN.out],by rw[h2];exact Vx.out,HB5.out⟩
  | true=>
  cases xa with
  | false =>
    have e:=HBAD.out rfl rfl
    have HE:=zh e;clear e
    go_wp2_with fail
    go_ret
    exact⟨by rw[HE.out];rfl,HB3.out.trans (HB5.out.mono HB3.out.size)⟩
  | true =>
    have hw:wrap64 ((N:Int)+1)=((N+1:Nat):Int):=by unfold wrap64;omega
    have HW:=zh hw;clear hw
    go_wp2_with (rw[HW.out])
    go_round
    case measure=>simp[intOf];omega
    case rel=>
     have h2:=HTK.out
     rw[if_pos trivial] at h2
     refine⟨k+1,by omega,by go_num,?_,?_,HB5.out⟩
     ·rw[h2,List.length_append,<- HN.out]
      show Value.int .i64 ((N:Int)+1)=.int .i64 ((N+1:Nat):Int)
      rw[Int.natCast_add];rfl
     ·rw[h2,List.all_append,Vx.out];rfl
theorem GV (q:Own.Queue)(o:Own.Ap)(id:Int)(pv sv kv:Value)(w:World)(hM:Fx w)(hP:Own.AX w pv q.props)(hS:Own.Bw w sv o.spaces)(hK:Own.Ca w kv o.keys)(hlp:q.props.length<=1000000)(hlv:∀ p∈q.props,p.Aq.length<=3000000)(hls:o.spaces.length<=140737488355328)(hlk:o.keys.length<=140737488355328)(hlm:∀ s∈o.spaces,s.members.length<=140737488355328):
 Calls Tryz.prog 30 #[.agg #[.int .i64 q.next,pv],.agg #[.int .i64 o.count,sv,kv],.int .i64 id] w fun e w' => e=.returned (.bool (Own.agreed q o id))/\Below w.heap.size w w':=by
 obtain⟨R,hR⟩:∃ R,R=Own.agreed q o id:=⟨_,rfl⟩
 rw[<- hR]
 unfold Own.agreed at hR
 obtain⟨pa,pc,rfl⟩:=hP.len
 obtain⟨sa,sc,rfl⟩:=hS.len
 obtain⟨ka,kc,rfl⟩:=hK.len
 obtain⟨nx,L⟩:=q
 dsimp only at*
 have hb1:Below w.heap.size w ((w.alloc (.cells #[.int .i64 nx,.slice pa L.length pc] 24)).alloc (.cells #[.int .i64 o.count,.slice sa o.spaces.length sc,.slice ka o.keys.length kc] 38)):=zb.alloc (by simp) _
 have a0:=(At.new w 24 #[.int .i64 nx,.slice pa L.length pc]).alloc (.cells #[.int .i64 o.count,.slice sa o.spaces.length sc,.slice ka o.keys.length kc] 38)
 have a1:=At.new1 w (.cells #[.int .i64 nx,.slice pa L.length pc] 24) 38 #[.int .i64 o.count,.slice sa o.spaces.length sc,.slice ka o.keys.length kc]
 have hfd:=I7 nx id _ L _ (hP.below hb1) (by omega)
 have HFD:=zh hfd;have HB:=zh hb1;have A0:=zh a0;have A1:=zh a1;have HM:=zh (hM.below hb1);have HP:=zh (hP.below hb1);have HS:=zh (hS.below hb1);have HK:=zh (hK.below hb1);have HLV:=zh hlv;have HLM:=zh hlm;have HR:=zh hR
 clear hfd hb1 a0 a1 hM hP hS hK hlv hlm hR
 go_enter Tryz.func30,Tryz.ntmps30
 go_wp2_with fail
 refine HFD.out.mono ?_
 rintro e w2 ⟨⟨i,rfl,hi⟩,hb2⟩
 have a0:=A0.out.below hb2 A0.out.lt;have a1:=A1.out.below hb2 A1.out.lt
 obtain⟨x0,x1⟩:=a0.c2;obtain⟨y0,y1,y2⟩:=a1.c3
 have B2:=zh (HB.out.trans (hb2.mono HB.out.size));have A02:=zh a0;have A12:=zh a1;have M2:=zh (HM.out.below hb2);have P2:=zh (HP.out.below hb2);have S2:=zh (HS.out.below hb2);have K2:=zh (HK.out.below hb2)
 have hfi:(i<0/\Own.CW L id=none)\/∃ j:Nat,∃ hj:j<L.length,i=(j:Int)/\Own.CW L id=some L[j]:=hi.find
 clear hi hb2 a0 a1 A0 A1 HM HP HS HK HB HFD
 go_upto_region 2 with fail
 rcases hfi with ⟨hi,hn⟩|⟨j,hj,rfl,hn⟩
 ·have di:decide (0<=i)=false:=zf
  have e:R=false:=by rw[HR.out,hn]
  have HE:=zh e;clear e hn
  have D2:=zh B2.out.drew
  refine Lex.zl ?_
  go_wp2_with fail
  refine Lex.ze ?_
  go_wp2_with fail
  go_ret
  exact⟨by rw[HE.out];rfl,D2.out⟩
 ·have di:decide (0<=(j:Int))=true:=zt
  have e:R=(Own.A9 ⟨nx,L⟩&&Own.Bf o&&Own.D9 L[j] o):=by rw[HR.out,hn]
  have HR2:=zh e;clear e hn HR
  refine Lex.zl ?_
  go_wp2_with fail
  have d2:Below w2.heap.size w2 w2.drew:=(Below.refl _ _).drew
  refine(Dv ⟨nx,L⟩ _ w2.drew (M2.out.below d2) (P2.out.below d2) (by show L.length<=_;omega) (fun p hp=>by have:=HLV.out p hp;omega)).mono ?_
  rintro e w3 ⟨rfl,hb3⟩
  have b23:=d2.trans (hb3.mono (Nat.le_of_eq rfl))
  have a0:=A02.out.below b23 A02.out.lt;have a1:=A12.out.below b23 A12.out.lt
  clear x0 x1 y0 y1 y2
  obtain⟨x0,x1⟩:=a0.c2;obtain⟨y0,y1,y2⟩:=a1.c3
  have B3:=zh (B2.out.trans (b23.mono B2.out.size));have A03:=zh a0;have A13:=zh a1;have M3:=zh (M2.out.below b23);have P3:=zh (P2.out.below b23);have S3:=zh (S2.out.below b23);have K3:=zh (K2.out.below b23)
  clear b23 hb3 a0 a1 d2 A02 A12 M2 P2 S2 K2 B2
  cases hq:Own.A9 ⟨nx,L⟩ with
  | false =>
    have e:R=false:=by rw[HR2.out,hq];rfl
    have HE:=zh e;clear e
    go_wp2_with fail
    refine Lex.ze ?_
    go_wp2_with fail
    go_ret
    exact⟨by rw[HE.out];rfl,B3.out⟩
  | true=>
  go_wp2_with fail
  refine(Fe o _ _ w3 M3.out S3.out K3.out hls hlk HLM.out).mono ?_
  rintro e w4 ⟨rfl,hb4⟩
  have a0:=A03.out.below hb4 A03.out.lt;have a1:=A13.out.below hb4 A13.out.lt
  clear x0 x1 y0 y1 y2
  obtain⟨x0,x1⟩:=a0.c2;obtain⟨y0,y1,y2⟩:=a1.c3
  have B4:=zh (B3.out.trans (hb4.mono B3.out.size));have M4:=zh (M3.out.below hb4);have S4:=zh (S3.out.below hb4);have K4:=zh (K3.out.below hb4)
  have hp4:=P3.out.below hb4
  clear hb4 a0 a1 A03 A13 M3 P3 S3 K3 B3
  cases ho:Own.Bf o with
  | false =>
    have e:R=false:=by rw[HR2.out,hq,ho];rfl
    have HE:=zh e;clear e
    go_wp2_with fail
    refine Lex.ze ?_
    go_wp2_with fail
    go_ret
    exact⟨by rw[HE.out];rfl,B4.out⟩
  | true=>
  have e:R=Own.D9 L[j] o:=by rw[HR2.out,hq,ho];rfl
  have HE:=zh e;clear e
  obtain⟨b,o',u,ha,hbl,e0,e1,e2,e3,e4,e5,huv⟩:=Own.AX.cells hp4 hj
  subst ha
  have hlk2:=HLV.out L[j] (List.getElem_mem hj)
  obtain⟨ua,uc,rfl⟩:=huv.len
  have hag:=MB L[j] o _ _ _ w4 M4.out huv S4.out K4.out (by omega) hls hlk HLM.out
  obtain⟨x,hx⟩:∃ x,x=L[j]:=⟨_,rfl⟩
  rw[<- hx] at e0 e1 e2 e3 e4 e5 hag HE
  obtain⟨pid,ppa,pdi,pop,pex,pvs⟩:=x
  dsimp only at e0 e1 e2 e3 e4 e5 hag
  have HAG:=zh hag
  clear hag huv hp4 hx
  go_wp2_with fail
  refine HAG.out.mono ?_
  rintro e w5 ⟨rfl,hb5⟩
  rw[<- HE.out]
  have B5:=zh (B4.out.trans (hb5.mono B4.out.size))
  clear hb5
  go_wp2_with fail
  refine Lex.ze ?_
  go_wp2_with fail
  go_ret
  exact⟨rfl,B5.out⟩
def SV (w:World)(R:Own.Queue × Own.Ab × Int)(e:Ending)(w' : World):Prop:=
 (∃ qv pv,e=.returned (.tuple #[qv,.agg #[.int .i64 R.2.1.id,.string R.2.1.path,.string R.2.1.digest,.int .i64 R.2.1.opened,.int .i64 R.2.1.expires,pv],.int .i64 R.2.2])/\Own.eB w' qv R.1/\Own.Ct w' pv R.2.1.Aq)/\Below w.heap.size w w'
theorem Own.CB.props {B:Nat}{w:World}{v:Value}{L:List Own.Ab}(h:Own.CB B w v L):Own.AX w v L:=h.list (fun _ _ _=>trivial)
theorem Own.Ns {w:World}{B n:Nat}{v:Value}{l:List Own.Vote}(h:w.ownsRow B 82 3 v n (l.flatMap Own.DC))(hn:n=l.length):Own.Ct w v l:=Own.Ct.of (BA.own h) hn
theorem Og (q:Own.Queue)(o:Own.Ap)(size id:Int)(qv sv kv:Value)(w:World)(hMx:Fx w)(hP:Own.AX w qv q.props)(hS:Own.Bw w sv o.spaces)(hK:Own.Ca w kv o.keys)
 (hlp:q.props.length<=1000000) (hlv:∀ x∈q.props,x.Aq.length<=3000000) (hls:o.spaces.length<=140737488355328) (hlk:o.keys.length<=140737488355328) (hlm:∀ x∈o.spaces,x.members.length<=140737488355328):
 Calls Tryz.prog 28 #[.agg #[.int .i64 q.next,qv],.agg #[.int .i64 o.count,sv,kv],.int .i64 size,.int .i64 id] w (SV w (Own.merge q o size id)):=by
 obtain⟨R,hR⟩:∃ R,R=Own.merge q o size id:=⟨_,rfl⟩
 obtain⟨Q,hQ⟩:∃ Q,Q=SV w R:=⟨_,rfl⟩
 rw[<- hR,<- hQ]
 have HQ:=zh hQ;clear hQ
 unfold Own.merge Own.CW Own.without at hR
 obtain⟨qa,qc,rfl⟩:=hP.len
 obtain⟨sa,sc,rfl⟩:=hS.len
 obtain⟨ka,kc,rfl⟩:=hK.len
 have hvq:=fun W (hW:Below w.heap.size w W)=>Dv q (.slice qa q.props.length qc) W (hMx.below hW) (hP.below hW) (by omega) (fun p hp=>by have:=hlv p hp;omega)
 have hvo:=fun W (hW:Below w.heap.size w W)=>Fe o (.slice sa o.spaces.length sc) (.slice ka o.keys.length kc) W (hMx.below hW) (hS.below hW) (hK.below hW) hls hlk hlm
 have Wz:=fun(p:Own.Ab) v W (hW:Below w.heap.size w W) (hv:Own.Ct W v p.Aq) (hl:p.Aq.length<=140737488355328)=>MB p o v (.slice sa o.spaces.length sc) (.slice ka o.keys.length kc) W (hMx.below hW) hv (hS.below hW) (hK.below hW) hl hls hlk hlm
 obtain⟨QB,hQB⟩:∃ b,b=Own.A9 q:=⟨_,rfl⟩
 obtain⟨OB,hOB⟩:∃ b,b=Own.Bf o:=⟨_,rfl⟩
 simp only[<- hQB,<- hOB] at hvq hvo hR
 obtain⟨AP,hAP⟩:∃ AP:Own.Ab->Bool,AP=fun p=>Own.D9 p o:=⟨_,rfl⟩
 have hap:∀ p,Own.D9 p o=AP p:=fun p=>by rw[hAP]
 simp only[hap] at hR Wz
 obtain⟨nx,L⟩:=q
 obtain⟨cnt,S,K⟩:=o
 dsimp only at*
 have HVQ:=zh hvq;have HVO:=zh hvo;have uO:=zh Wz;have HR:=zh hR;have HP:=zh hP;have HLV:=zh hlv
 clear hvq hvo Wz hR hS hK hlm hQB hOB hAP hap hP hlv hMx
 have F1:=zh (show AQ w _ [(24,#[.int .i64 nx,.slice qa L.length qc]),(38,#[.int .i64 cnt,.slice sa S.length sc,.slice ka K.length kc]),(3,#[.int .i64 id]),(24,#[.int .i64 0,.slice none 0 0]),(46,#[.int .i64 0,.string ⟨#[]⟩,.string ⟨#[]⟩,.int .i64 0,.int .i64 0,.slice none 0 0])] from((((((Fg.nil w).push 24 #[.int .i64 nx,.slice qa L.length qc]).push 38 #[.int .i64 cnt,.slice sa S.length sc,.slice ka K.length kc]).push 3 #[.int .i64 id]).push 24 #[.int .i64 0,.slice none 0 0]).push 46 #[.int .i64 0,.string ⟨#[]⟩,.string ⟨#[]⟩,.int .i64 0,.int .i64 0,.slice none 0 0]).boxes)
 have x00:(((((w.alloc (.cells #[.int .i64 nx,.slice qa L.length qc] 24)).alloc (.cells #[.int .i64 cnt,.slice sa S.length sc,.slice ka K.length kc] 38)).alloc (.cells #[.int .i64 id] 3)).alloc (.cells #[.int .i64 0,.slice none 0 0] 24)).alloc (.cells #[.int .i64 0,.string ⟨#[]⟩,.string ⟨#[]⟩,.int .i64 0,.int .i64 0,.slice none 0 0] 46)).cell? ⟨w.heap.size,0,none⟩=some (.int .i64 nx):=F1.out.cell 0 0 rfl rfl
 have x01:(((((w.alloc (.cells #[.int .i64 nx,.slice qa L.length qc] 24)).alloc (.cells #[.int .i64 cnt,.slice sa S.length sc,.slice ka K.length kc] 38)).alloc (.cells #[.int .i64 id] 3)).alloc (.cells #[.int .i64 0,.slice none 0 0] 24)).alloc (.cells #[.int .i64 0,.string ⟨#[]⟩,.string ⟨#[]⟩,.int .i64 0,.int .i64 0,.slice none 0 0] 46)).cell? ⟨w.heap.size,1,none⟩=some (.slice qa L.length qc):=F1.out.cell 0 1 rfl rfl
 have x20:(((((w.alloc (.cells #[.int .i64 nx,.slice qa L.length qc] 24)).alloc (.cells #[.int .i64 cnt,.slice sa S.length sc,.slice ka K.length kc] 38)).alloc (.cells #[.int .i64 id] 3)).alloc (.cells #[.int .i64 0,.slice none 0 0] 24)).alloc (.cells #[.int .i64 0,.string ⟨#[]⟩,.string ⟨#[]⟩,.int .i64 0,.int .i64 0,.slice none 0 0] 46)).cell? ⟨w.heap.size+1+1,0,none⟩=some (.int .i64 id):=F1.out.cell 2 0 rfl rfl
 go_enter Tryz.func28,Tryz.ntmps28
 go_wp2_with fail
 generalize (((((w.alloc (.cells #[.int .i64 nx,.slice qa L.length qc] 24)).alloc (.cells #[.int .i64 cnt,.slice sa S.length sc,.slice ka K.length kc] 38)).alloc (.cells #[.int .i64 id] 3)).alloc (.cells #[.int .i64 0,.slice none 0 0] 24)).alloc (.cells #[.int .i64 0,.string ⟨#[]⟩,.string ⟨#[]⟩,.int .i64 0,.int .i64 0,.slice none 0 0] 46))=w1 at*
 refine(I7 nx id (.slice qa L.length qc) L w1 (HP.out.below F1.out.under) (by omega)).mono ?_
 rintro e w2 ⟨⟨i,rfl,hi⟩,hb2⟩
 have F2:=zh (F1.out.step hb2);have HI:=zh hi
 (try clear x00);(try clear x01);(try clear x20)
 clear hb2 hi
 obtain⟨x00,x01⟩:=F2.out.Ry rfl
 go_wp2_with fail
 refine(HVQ.out w2 F2.out.under).mono ?_
 rintro e w3 ⟨rfl,hb3⟩
 have F3:=zh (F2.out.step hb3)
 (try clear x00);(try clear x01);(try clear x20)
 clear hb3
 cases QB with
 | false =>
   have HE:=zh (show R=(Own.Queue.none,Own.Ab.none,1) by rw[HR.out];rfl)
   obtain⟨x30,x31,Eu,Ev⟩:=F3.out.Mi rfl
   obtain⟨x40,x41,x42,x43,x44,x45,Ew,Ey,Ez,Ux,Uy,Uz⟩:=F3.out.aF rfl
   go_wp2_with fail
   have g1:=F3.out.put 3 0 (.int .i64 0) rfl
   have g2:=g1.put 3 1 (.slice none 0 0) rfl
   have g3:=g2.put 4 0 (.int .i64 0) rfl
   have g4:=g3.put 4 1 (.string ⟨#[]⟩) rfl
   have g5:=g4.put 4 2 (.string ⟨#[]⟩) rfl
   have g6:=g5.put 4 3 (.int .i64 0) rfl
   have g7:=g6.put 4 4 (.int .i64 0) rfl
   have G2:=g7.put 4 5 (.slice none 0 0) rfl
   clear g1 g2 g3 g4 g5 g6 g7
   refine Co rfl rfl rfl rfl (Ad (G2.at1 3 rfl) Tryz.underlying24 rfl Ao) (Ad (G2.at1 4 rfl) Tryz.underlying46 rfl CJ) ?_
   rw[HQ.out,HE.out]
   exact⟨⟨_,_,rfl,⟨_,rfl,Af.nil _ _⟩,Af.nil _ _⟩,G2.under⟩
 | true=>
 obtain⟨x10,x11,x12⟩:=F3.out.XY rfl
 go_wp2_with fail
 refine(HVO.out w3 F3.out.under).mono ?_
 rintro e w4 ⟨rfl,hb4⟩
 have F4:=zh (F3.out.step hb4)
 (try clear x00);(try clear x01);(try clear x10 x11 x12);(try clear x20);(try clear x30 x31 Eu Ev);(try clear x40 x41 x42 x43 x44 x45 Ew Ey Ez Ux Uy Uz)
 clear hb4
 cases OB with
 | false =>
   have HE:=zh (show R=(Own.Queue.none,Own.Ab.none,1) by rw[HR.out];rfl)
   obtain⟨x30,x31,Eu,Ev⟩:=F4.out.Mi rfl
   obtain⟨x40,x41,x42,x43,x44,x45,Ew,Ey,Ez,Ux,Uy,Uz⟩:=F4.out.aF rfl
   go_wp2_with fail
   have g1:=F4.out.put 3 0 (.int .i64 0) rfl
   have g2:=g1.put 3 1 (.slice none 0 0) rfl
   have g3:=g2.put 4 0 (.int .i64 0) rfl
   have g4:=g3.put 4 1 (.string ⟨#[]⟩) rfl
   have g5:=g4.put 4 2 (.string ⟨#[]⟩) rfl
   have g6:=g5.put 4 3 (.int .i64 0) rfl
   have g7:=g6.put 4 4 (.int .i64 0) rfl
   have G2:=g7.put 4 5 (.slice none 0 0) rfl
   clear g1 g2 g3 g4 g5 g6 g7
   refine Co rfl rfl rfl rfl (Ad (G2.at1 3 rfl) Tryz.underlying24 rfl Ao) (Ad (G2.at1 4 rfl) Tryz.underlying46 rfl CJ) ?_
   rw[HQ.out,HE.out]
   exact⟨⟨_,_,rfl,⟨_,rfl,Af.nil _ _⟩,Af.nil _ _⟩,G2.under⟩
 | true=>
 have hr:=HR.out
 rw[if_neg (show ¬ (true&&true)=false by decide)] at hr
 have HR1:=zh hr;clear hr HR
 rcases HI.out with ⟨rfl,hf,_⟩|⟨j,hj,rfl,hf,hpj,_⟩
 ·have HE:=zh (show R=(Own.Queue.none,Own.Ab.none,6) by rw[HR1.out,hf])
  clear hf
  obtain⟨x30,x31,Eu,Ev⟩:=F4.out.Mi rfl
  obtain⟨x40,x41,x42,x43,x44,x45,Ew,Ey,Ez,Ux,Uy,Uz⟩:=F4.out.aF rfl
  go_wp2_with fail
  have g1:=F4.out.put 3 0 (.int .i64 0) rfl
  have g2:=g1.put 3 1 (.slice none 0 0) rfl
  have g3:=g2.put 4 0 (.int .i64 0) rfl
  have g4:=g3.put 4 1 (.string ⟨#[]⟩) rfl
  have g5:=g4.put 4 2 (.string ⟨#[]⟩) rfl
  have g6:=g5.put 4 3 (.int .i64 0) rfl
  have g7:=g6.put 4 4 (.int .i64 0) rfl
  have G2:=g7.put 4 5 (.slice none 0 0) rfl
  clear g1 g2 g3 g4 g5 g6 g7
  refine Co rfl rfl rfl rfl (Ad (G2.at1 3 rfl) Tryz.underlying24 rfl Ao) (Ad (G2.at1 4 rfl) Tryz.underlying46 rfl CJ) ?_
  rw[HQ.out,HE.out]
  exact⟨⟨_,_,rfl,⟨_,rfl,Af.nil _ _⟩,Af.nil _ _⟩,G2.under⟩
 have dj:decide ((j:Int)<0)=false:=zf
 have hr:=HR1.out
 rw[hf] at hr
 obtain⟨b,o',u,ha,hbl,e0,e1,e2,e3,e4,e5,huv⟩:=Own.AX.cells (HP.out.below F4.out.under) hj
 have hlj:=HLV.out L[j] (List.getElem_mem hj)
 obtain⟨x,hx⟩:∃ x,x=L[j]:=⟨_,rfl⟩
 rw[<- hx] at e0 e1 e2 e3 e4 huv hlj hr
 obtain⟨ua,uc,rfl⟩:=huv.len
 have hb5:Below w4.heap.size w4 w4.drew:=(Below.refl w4.heap.size w4).drew
 have Wz:=uO.out x (.slice ua x.Aq.length uc) w4.drew (F4.out.under.trans (hb5.mono F4.out.under.size)) (huv.below hb5) (by omega)
 have hcp:=fun W (hW:Below w4.heap.size w4 W)=>I8 x (.slice ua x.Aq.length uc) W (huv.below hW) hlj
 obtain⟨pid,ppa,pdi,pop,pex,V⟩:=x
 dsimp only at e0 e1 e2 e3 e4 huv hlj Wz hcp hr
 obtain⟨AG,hAG⟩:∃ b,b=AP ⟨pid,ppa,pdi,pop,pex,V⟩:=⟨_,rfl⟩
 rw[<- hAG] at hr Wz
 have HCP:=zh hcp;have HR2:=zh hr;have HAG:=zh Wz
 have hbb:w.heap.size+5<=w4.heap.size:=F4.out.size
 have hnl:b<w.heap.size:=by
  obtain⟨_,_,_,ha',yN,_⟩:=Own.AX.cells HP.out hj
  rw[ha] at ha'
  cases ha'
  exact yN
 obtain⟨x00,x01⟩:=F4.out.Ry rfl
 subst ha
 clear hcp hr Wz hx hf hpj huv HR1 hAG uO hb5
 by_cases hxs:pex<=size
 ·have dx:decide (pex<=size)=true:=decide_eq_true hxs
  have HE:=zh (show R=(Own.Queue.none,Own.Ab.none,8) by rw[HR2.out,if_pos hxs])
  clear hxs
  (try clear x00);(try clear x01)
  obtain⟨x00,x01⟩:=F4.out.Ry rfl
  obtain⟨x30,x31,Eu,Ev⟩:=F4.out.Mi rfl
  obtain⟨x40,x41,x42,x43,x44,x45,Ew,Ey,Ez,Ux,Uy,Uz⟩:=F4.out.aF rfl
  go_wp2_with fail
  have g1:=F4.out.put 3 0 (.int .i64 0) rfl
  have g2:=g1.put 3 1 (.slice none 0 0) rfl
  have g3:=g2.put 4 0 (.int .i64 0) rfl
  have g4:=g3.put 4 1 (.string ⟨#[]⟩) rfl
  have g5:=g4.put 4 2 (.string ⟨#[]⟩) rfl
  have g6:=g5.put 4 3 (.int .i64 0) rfl
  have g7:=g6.put 4 4 (.int .i64 0) rfl
  have G2:=g7.put 4 5 (.slice none 0 0) rfl
  clear g1 g2 g3 g4 g5 g6 g7
  refine Co rfl rfl rfl rfl (Ad (G2.at1 3 rfl) Tryz.underlying24 rfl Ao) (Ad (G2.at1 4 rfl) Tryz.underlying46 rfl CJ) ?_
  rw[HQ.out,HE.out]
  exact⟨⟨_,_,rfl,⟨_,rfl,Af.nil _ _⟩,Af.nil _ _⟩,G2.under⟩
 have dx:decide (pex<=size)=false:=decide_eq_false hxs
 have hr3:=HR2.out
 rw[if_neg hxs] at hr3
 have HR3:=zh hr3
 clear hr3 hxs HR2
 (try clear x00);(try clear x01)
 obtain⟨x00,x01⟩:=F4.out.Ry rfl
 obtain⟨x10,x11,x12⟩:=F4.out.XY rfl
 go_wp2_with fail
 refine Lex.zl ?_
 go_wp2_with fail
 refine HAG.out.mono ?_
 rintro e w7 ⟨rfl,hb7⟩
 have H8 : Below w4.heap.size w4 w7:=(Below.refl w4.heap.size w4).drew.trans hb7
 have F7:=zh (F4.out.step H8);have HB7:=zh H8
 (try clear x00);(try clear x01);(try clear x10 x11 x12);(try clear x20);(try clear x30 x31 Eu Ev);(try clear x40 x41 x42 x43 x44 x45 Ew Ey Ez Ux Uy Uz)
 go_wp2_with fail
 refine Lex.ze ?_
 cases AG with
 | false =>
   have HE:=zh (show R=(Own.Queue.none,Own.Ab.none,20) by rw[HR3.out,if_pos rfl])
   clear e0 e1 e2 e3 e4 e5 hb7 H8
   obtain⟨x30,x31,Eu,Ev⟩:=F7.out.Mi rfl
   obtain⟨x40,x41,x42,x43,x44,x45,Ew,Ey,Ez,Ux,Uy,Uz⟩:=F7.out.aF rfl
   go_wp2_with fail
   have g1:=F7.out.put 3 0 (.int .i64 0) rfl
   have g2:=g1.put 3 1 (.slice none 0 0) rfl
   have g3:=g2.put 4 0 (.int .i64 0) rfl
   have g4:=g3.put 4 1 (.string ⟨#[]⟩) rfl
   have g5:=g4.put 4 2 (.string ⟨#[]⟩) rfl
   have g6:=g5.put 4 3 (.int .i64 0) rfl
   have g7:=g6.put 4 4 (.int .i64 0) rfl
   have G2:=g7.put 4 5 (.slice none 0 0) rfl
   clear g1 g2 g3 g4 g5 g6 g7
   refine Co rfl rfl rfl rfl (Ad (G2.at1 3 rfl) Tryz.underlying24 rfl Ao) (Ad (G2.at1 4 rfl) Tryz.underlying46 rfl CJ) ?_
   rw[HQ.out,HE.out]
   exact⟨⟨_,_,rfl,⟨_,rfl,Af.nil _ _⟩,Af.nil _ _⟩,G2.under⟩
 | true=>
 have HE:=zh (show R=(⟨nx,L.filter fun p => !decide (p.id=id)⟩,⟨pid,ppa,pdi,pop,pex,V⟩,0) by rw[HR3.out,if_neg (by decide)])
 have aQ:b<w7.heap.size:=Nat.lt_of_lt_of_le hbl H8.size
 replace e0:=(H8.cell (p:=⟨b,o' + j*6,none⟩) hbl).trans e0
 replace e1:=(H8.cell (p:=⟨b,o' + j*6+1,none⟩) hbl).trans e1
 replace e2:=(H8.cell (p:=⟨b,o' + j*6+2,none⟩) hbl).trans e2
 replace e3:=(H8.cell (p:=⟨b,o' + j*6+3,none⟩) hbl).trans e3
 replace e4:=(H8.cell (p:=⟨b,o' + j*6+4,none⟩) hbl).trans e4
 replace e5:=(H8.cell (p:=⟨b,o' + j*6+5,none⟩) hbl).trans e5
 obtain⟨x00,x01⟩:=F7.out.Ry rfl
 have x20:w7.cell? ⟨w.heap.size+1+1,0,none⟩=some (.int .i64 id):=F7.out.cell 2 0 rfl rfl
 have hq7:w.heap.size<w7.heap.size:=F7.out.lt (i:=0) (by show 0<5;omega)
 have h2l:w.heap.size+1+1<w7.heap.size:=F7.out.lt (i:=2) (by show 2<5;omega)
 have HX0:=zh (zi x01)
 have HX1:=zh (zi e0)
 have hd7:Below w7.heap.size w7 w7.drew:=(Below.refl w7.heap.size w7).drew
 have hkp:=I9 73 #[.pointer (some ⟨w.heap.size+1+1,0,none⟩)] (by intros;rfl) (fun p:Own.Ab => !decide (p.id=id)) nx (.slice (some ⟨b,o',none⟩) L.length qc) L w7.drew (HP.out.below (F7.out.under.trans (hd7.mono F7.out.under.size))) hlp HLV.out (fun W x u hb=>Um x u _ id W (((hd7.trans hb).cell (p:=⟨w.heap.size+1+1,0,none⟩) h2l).trans x20))
 have HKP:=zh hkp
 clear hkp hb7 H8 hd7
 go_wp2_with fail
 refine Lex.zn (fun k=>k=w.heap.size\/k=b) [4,7] 8 [3] ?_
 simp only[Lex.Bg,zd]
 go_wp2_with fail
 refine HKP.out.mono ?_
 rintro e w8 ⟨⟨v8,rfl,hpo⟩,hb8⟩
 rw[Ar] at hpo
 obtain⟨wa,wc,rfl⟩:=hpo.one
 obtain⟨NL,hNL⟩:∃ NL,NL=L.filter fun p => !decide (p.id=id):=⟨_,rfl⟩
 rw[<- hNL] at hpo HE ⊢
 have RN : Below w7.heap.size w7 w8:=(Below.refl w7.heap.size w7).drew.trans hb8
 have F8:=zh (F7.out.step RN);have HB8:=zh RN;have HPO:=zh hpo
 (try clear x00);(try clear x01);(try clear x10 x11 x12);(try clear x20);(try clear x30 x31 Eu Ev);(try clear x40 x41 x42 x43 x44 x45 Ew Ey Ez Ux Uy Uz)
 replace e0:=(RN.cell (p:=⟨b,o' + j*6,none⟩) aQ).trans e0
 replace e1:=(RN.cell (p:=⟨b,o' + j*6+1,none⟩) aQ).trans e1
 replace e2:=(RN.cell (p:=⟨b,o' + j*6+2,none⟩) aQ).trans e2
 replace e3:=(RN.cell (p:=⟨b,o' + j*6+3,none⟩) aQ).trans e3
 replace e4:=(RN.cell (p:=⟨b,o' + j*6+4,none⟩) aQ).trans e4
 replace e5:=(RN.cell (p:=⟨b,o' + j*6+5,none⟩) aQ).trans e5
 have HC8:=zh (HCP.out w8 (HB7.out.trans (RN.mono HB7.out.size)))
 clear hb8 RN hpo hNL
 obtain⟨x00,x01⟩:=F8.out.Ry rfl
 go_wp2_with fail
 refine Lex.Mid.intro (fun k hk _=>by rcases hk with hk|hk<;>(rw[hk];exact HB8.out.block _ (by assumption))) ?_
 go_wp2_with fail
 refine HC8.out.mono ?_
 rintro e w9 ⟨v',rfl,hov,hb9⟩
 obtain⟨va',vm',vc',rfl⟩:=Ae hov
 obtain rfl:=BU hov
 have F9:=zh (F8.out.step hb9);have HOV:=zh hov;have HP9:=zh (HPO.out.below hb9)
 (try clear x00);(try clear x01);(try clear x10 x11 x12);(try clear x20);(try clear x30 x31 Eu Ev);(try clear x40 x41 x42 x43 x44 x45 Ew Ey Ez Ux Uy Uz)
 clear hb9 hov e0 e1 e2 e3 e4 e5
 obtain⟨x30,x31,Eu,Ev⟩:=F9.out.Mi rfl
 obtain⟨x40,x41,x42,x43,x44,x45,Ew,Ey,Ez,Ux,Uy,Uz⟩:=F9.out.aF rfl
 go_wp2_with fail
 refine Lex.zk ⟨⟨.inl rfl,HX0.out⟩,⟨.inr rfl,HX1.out⟩,trivial⟩ ?_
 go_wp2_with fail
 have g1:=F9.out.put 3 0 (.int .i64 nx) rfl
 have g2:=g1.put 3 1 (.slice wa NL.length wc) rfl
 have g3:=g2.put 4 0 (.int .i64 pid) rfl
 have g4:=g3.put 4 1 (.string ppa) rfl
 have g5:=g4.put 4 2 (.string pdi) rfl
 have g6:=g5.put 4 3 (.int .i64 pop) rfl
 have g7:=g6.put 4 4 (.int .i64 pex) rfl
 have G2:=g7.put 4 5 (.slice va' V.length vc') rfl
 clear g1 g2 g3 g4 g5 g6 g7
 refine Co rfl rfl rfl rfl (Ad (G2.at1 3 rfl) Tryz.underlying24 rfl Ao) (Ad (G2.at1 4 rfl) Tryz.underlying46 rfl CJ) ?_
 rw[HQ.out,HE.out]
 have hup:=Bo HOV.out
 have h7:w.heap.size+5<=w7.heap.size:=F7.out.size
 have h8:w.heap.size+5<=w8.heap.size:=F8.out.size
 refine⟨⟨_,_,rfl,⟨_,rfl,?_⟩,?_⟩,G2.under⟩
 ·refine Own.CB.props (HP9.out.keep (by simp[World.setCell]) (fun k hk _=>?_))
  have k2:k≠w.heap.size+1+1+1:=by omega
  have k3:k≠w.heap.size+1+1+1+1:=by omega
  rw[zo k3,zo k3,zo k3,zo k3,zo k3,zo k3,zo k2,zo k2]
 ·refine Own.Ns (AA HOV.out (fun k hk=>?_)) rfl
  have:=hup k hk
  have k2:k≠w.heap.size+1+1+1:=by omega
  have k3:k≠w.heap.size+1+1+1+1:=by omega
  rw[zo k3,zo k3,zo k3,zo k3,zo k3,zo k3,zo k2,zo k2]
namespace Own
def cellsS (L:List Ab)(us:List Value):List Value:=(List.zipWith IB L us).flatten
structure Eh (B:Nat) (w:World) (v:Value) (L:List Ab) (us:List Value):Prop where
 len:us.length=L.length
 row:w.ownsRow B 46 6 v L.length (cellsS L us)
 Aq:∀ i (h:i<L.length) (h' : i<us.length),w.ownsRow B 82 3 us[i] L[i].Aq.length (L[i].Aq.flatMap DC)
 apart:us.Pairwise fun a b=>∀ k,a.ownBlock=some k->b.ownBlock≠some k
theorem Eh.nil (B:Nat)(w:World):Eh B w (.slice none 0 0) [] []:=⟨rfl,⟨rfl,.inl ⟨rfl,rfl⟩⟩,fun i h=>absurd h (by simp),List.Pairwise.nil⟩
theorem Eh.below {B:Nat}{w w' : World}{v:Value}{L:List Ab}{us:List Value}(h:Eh B w v L us)(hb:Below w.heap.size w w'):Eh B w' v L us:=
 ⟨h.len,own_below h.row hb,fun i h1 h2=>own_below (h.Aq i h1 h2) hb,h.apart⟩
theorem Eh.keep {B:Nat}{w w' : World}{v:Value}{L:List Ab}{us:List Value}(h:Eh B w v L us)(hk:∀ k,B<=k->k<w.heap.size->w'.heap[k]? = w.heap[k]?):Eh B w' v L us:=
 ⟨h.len,AA h.row (fun k e=>hk k (Bo h.row k e) (BO h.row k e)),fun i h1 h2=>AA (h.Aq i h1 h2) (fun k e=>hk k (Bo (h.Aq i h1 h2) k e) (BO (h.Aq i h1 h2) k e)),h.apart⟩
theorem W9 (L:List Ab)(us:List Value)(x:Ab)(u:Value)(h:us.length=L.length):cellsS (L++[x]) (us++[u])=cellsS L us++IB x u:=by
 unfold cellsS
 rw[List.zipWith_append h.symm]
 simp
theorem Eh.push {B:Nat}{w w' : World}{v v' u:Value}{L:List Ab}{x:Ab}{us:List Value}(h:Eh B w v L us)(hu:w.ownsRow B 82 3 u x.Aq.length (x.Aq.flatMap DC))(hd:∀ i (h:i<us.length) k,us[i].ownBlock=some k->u.ownBlock≠some k)
 (hv:w'.ownsRow B 46 6 v' (L.length+1) (cellsS L us++IB x u)) (hg:w.grownBy w' v.ownBlock):Eh B w' v' (L++[x]) (us++[u]):=by
 have hkeep:∀ {z:Value} {n:Nat} {xs:List Value},w.ownsRow B 82 3 z n xs->w'.ownsRow B 82 3 z n xs:=fun hz=>AA hz (fun k e=>hg.block k (BO hz k e) (fun e' => LK hz h.row (by decide) k e e'.symm))
 refine⟨by simp[h.len],?_,fun i h1 h2=>?_,?_⟩
 ·rw[W9 _ _ _ _ h.len,List.length_append]
  exact hv
 ·by_cases hi:i<L.length
  ·rw[List.getElem_append_left hi,List.getElem_append_left (by rw[h.len];exact hi)]
   exact hkeep (h.Aq i hi (by rw[h.len];exact hi))
  ·have e:i=L.length:=by simp at h1;omega
   subst e
   rw[List.getElem_append_right (Nat.le_refl _),List.getElem_append_right (by rw[h.len];exact Nat.le_refl _)]
   simp only[h.len,Nat.sub_self,List.getElem_cons_zero]
   exact hkeep hu
 ·refine List.pairwise_append.2 ⟨h.apart,List.pairwise_singleton _ _,fun a ha b hb k hk=>?_⟩
  have hb:b=u:=by simpa using hb
  subst hb
  obtain⟨i,hi,rfl⟩:=List.getElem_of_mem ha
  exact hd i hi k hk
theorem Eh.one {B:Nat}{w:World}{v:Value}{L:List Ab}{us:List Value}(h:Eh B w v L us):∃ a c,v=.slice a L.length c:=by
 obtain⟨a,m,c,rfl⟩:=Ae h.row
 obtain rfl:=BU h.row
 exact⟨a,c,rfl⟩
theorem Eh.props {B:Nat}{w:World}{v:Value}{L:List Ab}{us:List Value}(h:Eh B w v L us):AX w v L:=by
 refine Af.TY (css:=List.zipWith IB L us) (BA.own h.row) rfl (by simp[h.len]) (fun _ _=>trivial) (fun i hi hi' => ?_)
 have h2:i<us.length:=by rw[h.len];exact hi
 rw[List.getElem_zipWith]
 exact⟨rfl,us[i],rfl,Ns (h.Aq i hi h2) rfl⟩
end Own
theorem WA (nx:Int)(pv:Value)(l:List Own.Ab)(w:World)(hP:Own.AX w pv l)(hl:l.length<=1000000)(hlv:∀ x∈l,x.Aq.length<=3000000):
 Calls Tryz.prog 42 #[.agg #[.int .i64 nx,pv],.func (.func 43) #[] #[]] w fun e w' => (∃ v' us,e=.returned (.agg #[.int .i64 nx,v'])/\Own.Eh (w.heap.size+3) w' v' l us)/\Below w.heap.size w w':=by
 obtain⟨a,c,rfl⟩:=hP.len
 have F1:=zh (show AQ w _ [(24,#[.int .i64 nx,.slice a l.length c]),(24,#[.int .i64 0,.slice none 0 0]),(24,#[.int .i64 nx,.slice none 0 0])] from((((Fg.nil w).push 24 #[.int .i64 nx,.slice a l.length c]).push 24 #[.int .i64 0,.slice none 0 0]).push 24 #[.int .i64 nx,.slice none 0 0]).boxes)
 have HL:=zh hP;have HLV:=zh hlv
 clear hP hlv
 have x00:(((w.alloc (.cells #[.int .i64 nx,.slice a l.length c] 24)).alloc (.cells #[.int .i64 0,.slice none 0 0] 24)).alloc (.cells #[.int .i64 nx,.slice none 0 0] 24)).cell? ⟨w.heap.size,0,none⟩=some (.int .i64 nx):=F1.out.cell 0 0 rfl rfl
 have x01:(((w.alloc (.cells #[.int .i64 nx,.slice a l.length c] 24)).alloc (.cells #[.int .i64 0,.slice none 0 0] 24)).alloc (.cells #[.int .i64 nx,.slice none 0 0] 24)).cell? ⟨w.heap.size,1,none⟩=some (.slice a l.length c):=F1.out.cell 0 1 rfl rfl
 go_enter Tryz.func42,Tryz.ntmps42
 go_upto_region 2 with fail
 generalize (((w.alloc (.cells #[.int .i64 nx,.slice a l.length c] 24)).alloc (.cells #[.int .i64 0,.slice none 0 0] 24)).alloc (.cells #[.int .i64 nx,.slice none 0 0] 24))=w1 at*
 go_wp2_with fail
 (try clear x00);(try clear x01)
 go_loopw [14] (fun i wr=>∃ (k:Nat) (v:Value) (us:List Value),k<=l.length/\i=.int .i64 k/\AQ w wr [(24,#[.int .i64 nx,.slice a l.length c]),(24,#[.int .i64 0,.slice none 0 0]),(24,#[.int .i64 nx,v])]/\Own.Eh (w.heap.size+3) wr v (l.take k) us) (fun i _=>l.length-(intOf i).toNat)
 case atStart=>exact⟨0,_,[],by omega,rfl,F1.out,Own.Eh.nil _ _⟩
 case round=>
  obtain⟨k,v,us,hk,rfl,hbx,hpo⟩:=hrel
  obtain⟨L,hL⟩:∃ L,L=l.take k:=⟨_,rfl⟩
  rw[<- hL] at hpo
  have hLM:L.length<=1000000:=by rw[hL,List.length_take];omega
  obtain⟨va,vc,rfl⟩:=hpo.one
  have G1:=zh hbx;have HPO:=zh hpo
  clear hbx hpo
  by_cases hlt:k<l.length
  case neg=>
   obtain⟨x10,x11,uL,uM⟩:=G1.out.xS rfl
   obtain⟨x20,x21⟩:=G1.out.xV rfl
   have hke:k=l.length:=by omega
   have dk:decide ((k:Int)<l.length)=false:=zf
   have HL2:=zh (show L=l by rw[hL,hke,List.take_length])
   clear hke hL
   go_wp2_with fail
   have G2:=((G1.out.put 1 0 (.int .i64 nx) rfl).put 1 1 (.slice va L.length vc) rfl)
   refine Gn rfl rfl (Ad (G2.at1 1 rfl) Tryz.underlying24 rfl Ao) ⟨⟨_,us,rfl,?_⟩,G2.under⟩
   rw[<- HL2.out]
   exact HPO.out.keep (fun k hk _=>by
    have hk1:k≠w.heap.size+1:=by omega
    rw[zo hk1,zo hk1])
  have dk:decide ((k:Int)<l.length)=true:=zt
  have HTK:=zh (show l.take (k+1)=L++[l[k]] by rw[List.take_succ_eq_append_getElem hlt,<- hL])
  clear hL
  obtain⟨b,o,u,ha,hbl,e0,e1,e2,e3,e4,e5,huv⟩:=Own.AX.cells (HL.out.below G1.out.under) hlt
  subst ha
  have hlk:=HLV.out l[k] (List.getElem_mem hlt)
  obtain⟨x,hx⟩:∃ x,x=l[k]:=⟨_,rfl⟩
  rw[<- hx] at e0 e1 e2 e3 e4 huv hlk
  obtain⟨ua,uc,rfl⟩:=huv.len
  have hcp:=fun W (hW:Below wr.heap.size wr W)=>I8 x (.slice ua x.Aq.length uc) W (huv.below hW) hlk
  have hall:=fun W=>SH x (.slice ua x.Aq.length uc) W
  have HCP:=zh hcp;have HX:=zh hx;have Vx:=zh hall
  obtain⟨pid,ppa,pdi,pop,pex,pvs⟩:=x
  dsimp only at e0 e1 e2 e3 e4 HCP Vx
  clear hx hcp hall huv
  have P5:=zh (show AQ wr _ [(46,#[.int .i64 pid,.string ppa,.string pdi,.int .i64 pop,.int .i64 pex,.slice ua pvs.length uc])] from((Fg.nil wr).push 46 #[.int .i64 pid,.string ppa,.string pdi,.int .i64 pop,.int .i64 pex,.slice ua pvs.length uc]).boxes)
  have G5:=zh (G1.out.step P5.out.under);have yO:=zh (HPO.out.below P5.out.under)
  go_upto_region 5 with fail
  generalize (wr.alloc (.cells #[.int .i64 pid,.string ppa,.string pdi,.int .i64 pop,.int .i64 pex,.slice ua pvs.length uc] 46))=w5 at*
  obtain⟨z00,z01,z02,z03,z04,z05⟩:=P5.out.oq rfl
  clear e0 e1 e2 e3 e4 e5
  go_wp2_with fail
  refine(Vx.out w5).mono ?_
  rintro e w6 ⟨rfl,hb6⟩
  have P6:=zh (P5.out.step hb6);have G6:=zh (G5.out.step hb6);have p9:=zh (yO.out.below hb6)
  (try clear z00 z01 z02 z03 z04 z05)
  clear hb6
  obtain⟨z00,z01,z02,z03,z04,z05⟩:=P6.out.oq rfl
  obtain⟨x20,x21,uP,uQ⟩:=G6.out.sM rfl
  have hol:w.heap.size+1+1<w6.heap.size:=G6.out.lt (i:=2) (by show 2<3;omega)
  have hwz:w.heap.size+3<=w6.heap.size:=G6.out.size
  have HXS:=zh (zi x21)
  have yP:=zh (HCP.out w6.drew (P6.out.under.trans ((Below.refl w6.heap.size w6).drew.mono P6.out.under.size)))
  go_wp2_with fail
  refine Lex.zn (fun j=>j=w.heap.size+1+1) [1] 5 [4] ?_
  simp only[Lex.Bg,zd]
  go_wp2_with fail
  refine yP.out.mono ?_
  rintro e w7 ⟨v',rfl,hov,hb7⟩
  rw[Ar] at hov
  obtain⟨va',vm',vc',rfl⟩:=Ae hov
  have H8 : Below w6.heap.size w6 w7:=(Below.refl w6.heap.size w6).drew.trans hb7
  have G7:=zh (G6.out.step H8);have HB7:=zh H8;have HOV:=zh hov;have yQ:=zh (p9.out.below H8)
  (try clear z00 z01 z02 z03 z04 z05)
  (try clear x00);(try clear x01);(try clear x10 x11 uL uM);(try clear uP);(try clear x20);(try clear uQ);(try clear x21)
  obtain⟨x20,x21,uP,uQ⟩:=G7.out.sM rfl
  clear hb7 H8 hov
  go_wp2_with fail
  refine Lex.Mid.intro (fun j hj _=>by rw[hj];exact HB7.out.block _ hol) ?_
  have hrw:=(CS w7 46 #[.int .i64 pid,.string ppa,.string pdi,.int .i64 pop,.int .i64 pex,.slice va' vm' vc'] 6 1 1 rfl)
  have Oy:Below w7.heap.size w7 (w7.alloc (.cells #[.int .i64 pid,.string ppa,.string pdi,.int .i64 pop,.int .i64 pex,.slice va' vm' vc'] 46)):=zb
  have h67:=HB7.out.size
  have pE:=zh (yQ.out.below Oy);have HRW:=zh hrw;have G8:=zh (G7.out.step Oy);have yR:=zh (Cm (own_below HOV.out Oy) hwz)
  have uR:∀ i (h:i<us.length) k,us[i].ownBlock=some k->(Value.slice va' vm' vc').ownBlock≠some k:=fun i h k hk e=>by
   have hi:i<L.length:=by rw[<- p9.out.len];exact h
   have h1:=Own.BO (p9.out.Aq i hi h) k hk
   have h2:=Bo HOV.out k e
   omega
  have yS:=zh uR
  clear hrw Oy uR
  go_wp2_with (at_builtin;go_must (refine Am Nh rfl _ _ rfl (w.heap.size+3) L.length (.slice va L.length vc) (Own.cellsS L us) rfl pE.out.row (.slice (some ⟨w7.heap.size,0,none⟩) 1 1) 1 [.int .i64 pid,.string ppa,.string pdi,.int .i64 pop,.int .i64 pex,.slice va' vm' vc'] rfl HRW.out (by intro u hu;simp at hu;rcases hu with rfl|rfl|rfl|rfl|rfl|rfl<;>rfl) (by omega) (by omega) (by rw[World.size_alloc];omega) ?_);intro v9 w9 ho9 hg9 hw9;obtain⟨ya,ym,yc,rfl⟩:=Ae ho9;have HP9:=zh (Own.Eh.push (x:=⟨pid,ppa,pdi,pop,pex,pvs⟩) pE.out yR.out yS.out ho9 hg9);have G9:=zh (G8.out.far (Nat.le_refl _) (Bo pE.out.row) hg9);have y20:w9.cell? ⟨w.heap.size+1+1,0,none⟩=some (.int .i64 nx):=G9.out.cell 2 0 rfl rfl;have zam:w9.frozen? ⟨w.heap.size+1+1,0,none⟩=false:=G9.out.free 2 0 rfl;have y21:w9.cell? ⟨w.heap.size+1+1,1,none⟩=some (.slice va L.length vc):=G9.out.cell 2 1 rfl rfl;have zan:w9.frozen? ⟨w.heap.size+1+1,1,none⟩=false:=G9.out.free 2 1 rfl;clear ho9 hg9 hw9)
  refine Lex.zk ⟨⟨rfl,HXS.out⟩,trivial⟩ ?_
  go_wp2_with fail
  refine⟨⟨k+1,.slice ya ym yc,us++[.slice va' vm' vc'],by omega,by go_num,G9.out.put 2 1 (.slice ya ym yc) rfl,?_⟩,by simp[intOf];omega⟩
  rw[HTK.out,<- HX.out]
  exact HP9.out.keep (fun k hk _=>zo (by show k≠w.heap.size+1+1;omega))
theorem OM {w:World}{base g n cap size:Nat}{e:TypeId}{xs:List Value}(h:w.ownsRow base e size (.slice (some ⟨g,0,none⟩) n cap) n xs)(i:Nat)(hi:i<xs.length)(u:Value):(w.setCell ⟨g,i,none⟩ u).ownsRow base e size (.slice (some ⟨g,0,none⟩) n cap) n (xs.set i u):=by
 obtain⟨ys,h1,h2,h3,h4,h5,h6⟩:=Ko h
 refine EM (cur:=xs.set i u++ys) ?_ h2 h3 h4 (by simpa using h5) (by rw[List.take_append_of_le_length (by rw[List.length_set,h6];exact Nat.le_refl _),List.take_of_length_le (by rw[List.length_set,h6];exact Nat.le_refl _)])
 have:=h1.set i u
 rwa [List.setIfInBounds_toArray,List.set_append_left _ _ hi] at this
namespace Own
def DV (p:Ab)(nv:List Vote):Ab:=⟨p.id,p.path,p.digest,p.opened,p.expires,nv⟩
theorem Eh.turn {B:Nat}{w w' : World}{v u' : Value}{L:List Ab}{us:List Value}(h:Eh B w v L us){i:Nat}(hi:i<L.length){nv:List Vote}
 (hrow:w'.ownsRow B 46 6 v L.length (cellsS (L.set i (DV L[i] nv)) (us.set i u'))) (hu:w'.ownsRow B 82 3 u' nv.length (nv.flatMap DC))
 (hother:∀ j (hj:j<L.length) (hj' : j<us.length),j≠i->w'.ownsRow B 82 3 us[j] L[j].Aq.length (L[j].Aq.flatMap DC))
 (hap:∀ j (hj:j<us.length),j≠i->∀ k,us[j].ownBlock=some k->u'.ownBlock≠some k):Eh B w' v (L.set i (DV L[i] nv)) (us.set i u'):=by
 refine⟨by simp[h.len],by rw[List.length_set];exact hrow,fun j h1 h2=>?_,?_⟩
 ·rw[List.length_set] at h1 h2
  by_cases hji:j=i
  ·subst hji
   rw[List.getElem_set_self,List.getElem_set_self]
   exact hu
  ·rw[List.getElem_set_ne (fun e=>hji e.symm),List.getElem_set_ne (fun e=>hji e.symm)]
   exact hother j h1 h2 hji
 ·rw[List.pairwise_iff_getElem]
  intro a b ha hb hab k hk
  rw[List.length_set] at ha hb
  by_cases hai:i=a
  ·subst hai
   rw[List.getElem_set_self] at hk
   rw[List.getElem_set_ne (by omega)]
   intro e
   exact hap b hb (by omega) k e hk
  ·rw[List.getElem_set_ne hai] at hk
   by_cases hbi:i=b
   ·subst hbi
    rw[List.getElem_set_self]
    exact hap a ha (by omega) k hk
   ·rw[List.getElem_set_ne hbi]
    exact(List.pairwise_iff_getElem.1 h.apart) a b ha hb hab k hk
theorem kH (L:List Ab):∀ (us:List Value) (i:Nat) (hi:i<L.length) (_:us.length=L.length) (nv:List Vote) (u' : Value),cellsS (L.set i (DV L[i] nv)) (us.set i u')=(cellsS L us).set (i*6+5) u':=by
 induction L with
 | nil=>intro us i hi;cases hi
 | cons x L ih =>
   intro us i hi hl nv u'
   cases us with
   | nil=>cases hl
   | cons z us =>
     cases i with
     | zero=>rfl
     | succ i =>
       have hi' : i<L.length:=by simpa using hi
       have:=ih us i hi' (by simpa using hl) nv u'
       unfold cellsS at this ⊢
       show IB x z++(List.zipWith IB (L.set i (DV L[i] nv)) (us.set i u')).flatten=(IB x z++(List.zipWith IB L us).flatten).set ((i+1)*6+5) u'
       rw[this,List.set_append_right _ _ (by show 6<=_;omega)]
       congr 2
       show i*6+5=(i+1)*6+5-6
       omega
theorem gB (L:List Ab):∀ (us:List Value) (i:Nat) (hi:i<L.length) (hi' : i<us.length) (_:us.length=L.length) (nv:List Vote),cellsS (L.set i (DV L[i] nv)) us=cellsS L us:=by
 induction L with
 | nil=>intro us i hi;cases hi
 | cons x L ih =>
   intro us i hi hi' hl nv
   cases us with
   | nil=>cases hl
   | cons z us =>
     cases i with
     | zero=>rfl
     | succ i =>
       have hi2:i<L.length:=by simpa using hi
       have:=ih us i hi2 (by simpa using hi') (by simpa using hl) nv
       unfold cellsS at this ⊢
       show IB x z++(List.zipWith IB (L.set i (DV L[i] nv)) us).flatten=IB x z++(List.zipWith IB L us).flatten
       rw[this]
theorem Kr (L:List Ab):∀ (us:List Value) (i:Nat) (hi:i<L.length) (hi' : i<us.length) (c:Nat) (_:c<6),(cellsS L us)[i*6+c]? = (IB L[i] us[i])[c]? :=by
 induction L with
 | nil=>intro us i hi;cases hi
 | cons x L ih =>
   intro us i hi hi' c hc
   cases us with
   | nil=>cases hi'
   | cons z us =>
     have hl:(IB x z).length=6:=rfl
     cases i with
     | zero =>
       show(IB x z++cellsS L us)[0*6+c]? = _
       rw[Nat.zero_mul,Nat.zero_add,List.getElem?_append_left (by omega)]
       rfl
     | succ i =>
       have:=ih us i (by simpa using hi) (by simpa using hi') c hc
       show(IB x z++cellsS L us)[(i+1)*6+c]? = (IB (L[i]'(by simpa using hi)) (us[i]'(by simpa using hi')))[c]?
       rw[<- this,List.getElem?_append_right (by omega),hl]
       congr 1
       omega
theorem kI (L:List Ab):∀ (us:List Value),us.length=L.length->(cellsS L us).length=L.length*6:=by
 induction L with
 | nil=>intro us _;simp[cellsS]
 | cons x L ih =>
   intro us hl
   cases us with
   | nil=>cases hl
   | cons z us =>
     have:=ih us (by simpa using hl)
     unfold cellsS at this ⊢
     show(IB x z++(List.zipWith IB L us).flatten).length=_
     rw[List.length_append,this]
     show 6+L.length*6=(L.length+1)*6
     omega
theorem QL:∀ (L:List Ab) (i:Nat) (hi:i<L.length) (_:L.Pairwise fun x y=>x.id<y.id) (nv:List Vote),Qj L (DV L[i] nv)=L.set i (DV L[i] nv)
 | [],i,hi,_,_=>by cases hi
 | x :: L,0,hi,hp,nv => by
   obtain⟨h1,_⟩:=List.pairwise_cons.1 hp
   have e:Qj (x::L) (DV x nv)=DV x nv::L:=by
    unfold Qj
    rw[List.map_cons,if_pos (show x.id=(DV x nv).id from rfl)]
    congr 1
    have:∀ y∈L,(if y.id=(DV x nv).id then DV x nv else y)=y:=fun y hy=>if_neg (by have:=h1 y hy;show ¬ y.id=x.id;omega)
    rw[List.map_congr_left this,List.map_id']
   exact e
 | x :: L,i + 1,hi,hp,nv => by
   obtain⟨h1,h2⟩:=List.pairwise_cons.1 hp
   have hi' : i<L.length:=by simpa using hi
   have ih:=QL L i hi' h2 nv
   have:=h1 _ (List.getElem_mem hi')
   have e:Qj (x::L) (DV L[i] nv)=x::Qj L (DV L[i] nv):=by
    unfold Qj
    rw[List.map_cons,if_neg (by show ¬ x.id=L[i].id;omega)]
   show Qj (x::L) (DV L[i] nv)=x::L.set i (DV L[i] nv)
   rw[e,ih]
end Own
def WB (w:World)(R:Own.Queue × Own.Ap × Int)(e:Ending)(w' : World):Prop:=
 (∃ qv sv kv,e=.returned (.tuple #[qv,.agg #[.int .i64 R.2.1.count,sv,kv],.int .i64 R.2.2])/\Own.eB w' qv R.1/\Own.Bw w' sv R.2.1.spaces/\Own.Ca w' kv R.2.1.keys)/\Below w.heap.size w w'
namespace Own
theorem Yr {q:Queue}(h:A9 q=true){p:Ab}(hp:p∈q.props):Bh p=true/\p.id<q.next/\q.next<=1099511627776:=by
 unfold A9 late at h
 simp only[Bool.and_eq_true,decide_eq_true_eq] at h
 have:=GK h.2 p hp
 simp only[Bool.and_eq_true,decide_eq_true_eq] at this
 exact⟨this.1,this.2,h.1.1.2⟩
structure POK (p:Ab):Prop where
 id0:0<=p.id
 path:p.path.size<=64
 dig:p.digest.size=32
 len:p.Aq.length<=1024
 srt:Srt Vote.name p.Aq
theorem POK.of {p:Ab}(h:Bh p=true):POK p:=by
 unfold Bh Sig.digest at h
 simp only[Bool.and_eq_true,decide_eq_true_eq] at h
 obtain⟨⟨⟨⟨⟨h1,h2⟩,h3⟩,_⟩,h5⟩,h6⟩:=h
 refine⟨h1,?_,h3,h5,(I4 (f:=Vote.name) h6).1⟩
 unfold Bt at h2
 simp only[Bool.and_eq_true,decide_eq_true_eq] at h2
 exact h2.1.2
end Own
namespace Own
theorem pF {α : Type}{f : α -> ByteArray}{t:ByteArray}{l:List α}(h:Dt f t l=true):posB f t l<l.length:=by
 unfold Dt at h
 cases hq:l[posB f t l]? with
 | none=>rw[hq] at h;cases h
 | some y=>exact(List.getElem?_eq_some_iff.1 hq).1
theorem Kt:∀ (V:List Vote) (i:Nat) (hi:i<V.length) (c:Nat) (_:c<3),(V.flatMap DC)[i*3+c]? = (DC V[i])[c]?
 | [],i,hi,_,_=>by cases hi
 | x :: V,0,_,c,hc => by
   rw[List.flatMap_cons,Nat.zero_mul,Nat.zero_add,List.getElem?_append_left (by show c<3;exact hc)]
   rfl
 | x :: V,i + 1,hi,c,hc => by
   rw[List.flatMap_cons,List.getElem?_append_right (by show 3<=_;omega)]
   have:=Kt V i (by simpa using hi) c hc
   show(V.flatMap DC)[(i+1)*3+c-3]? = _
   rw[show(i+1)*3+c-3=i*3+c by omega,this]
   rfl
theorem aR (V:List Vote):(V.flatMap DC).length=V.length*3:=by
 induction V with
 | nil=>rfl
 | cons x V ih=>rw[List.flatMap_cons,List.length_append,ih,List.length_cons];show 3+_=_;omega
theorem SX:∀ (V:List Vote) (i:Nat) (_:i<V.length) (x:Vote),(V.set i x).flatMap DC=(((V.flatMap DC).set (i*3) (.string x.name)).set (i*3+1) (.string x.pub)).set (i*3+2) (.bool x.agrees)
 | [],i,hi,_=>by cases hi
 | y::V,0,_,x=>rfl
 | y :: V,i + 1,hi,x => by
   have ih:=SX V i (by simpa using hi) x
   show(y::V.set i x).flatMap DC=_
   have hl:(DC y).length=3:=rfl
   rw[List.flatMap_cons,List.flatMap_cons,ih,List.set_append_right _ _ (by omega),List.set_append_right _ _ (by omega),List.set_append_right _ _ (by omega),hl,show(i+1)*3-3=i*3 by omega,show(i+1)*3+1-3=i*3+1 by omega,show(i+1)*3+2-3=i*3+2 by omega]
end Own
namespace Own
theorem Eh.ne {B:Nat}{w:World}{v:Value}{L:List Ab}{us:List Value}(h:Eh B w v L us){i j:Nat}(hi:i<us.length)(hj:j<us.length)(hij:i≠j):∀ k,us[i].ownBlock=some k->us[j].ownBlock≠some k:=by
 intro k hk
 rcases Nat.lt_or_ge i j with hlt|hge
 ·exact(List.pairwise_iff_getElem.1 h.apart) i j hi hj hlt k hk
 ·intro hk2
  exact(List.pairwise_iff_getElem.1 h.apart) j i hj hi (by omega) k hk2 hk
theorem aS (V:List Vote)(i:Nat)(x:Vote):(V.flatMap DC).take (i*3)++(DC x++(V.flatMap DC).drop (i*3))=(V.take i++x::V.drop i).flatMap DC:=by
 have h:∀ (V:List Vote) (i:Nat),(V.flatMap DC).take (i*3)=(V.take i).flatMap DC/\(V.flatMap DC).drop (i*3)=(V.drop i).flatMap DC:=by
  intro V
  induction V with
  | nil=>intro i;simp
  | cons y V ih =>
    intro i
    cases i with
    | zero=>simp
    | succ i =>
      obtain⟨h1,h2⟩:=ih i
      have hl:(DC y).length=3:=rfl
      rw[List.flatMap_cons,List.take_append,List.drop_append,hl,show(i+1)*3-3=i*3 by omega,h1,h2,List.take_of_length_le (by omega),List.drop_of_length_le (by omega)]
      exact⟨rfl,rfl⟩
 rw[(h V i).1,(h V i).2,List.flatMap_append,List.flatMap_cons]
theorem Eh.same {B:Nat}{w w' : World}{g cap ub uc:Nat}{L:List Ab}{us:List Value}{j:Nat}{V nv:List Vote}(h:Eh B w (.slice (some ⟨g,0,none⟩) L.length cap) L us)(hj:j<L.length)(hju:j<us.length)(hue:us[j]=.slice (some ⟨ub,0,none⟩) V.length uc)
 (hu:w'.ownsRow B 82 3 (.slice (some ⟨ub,0,none⟩) V.length uc) nv.length (nv.flatMap DC)) (hw:w.ownsRow B 82 3 (.slice (some ⟨ub,0,none⟩) V.length uc) V.length (V.flatMap DC)) (hk:∀ k,k≠ub->w'.heap[k]? = w.heap[k]?):Eh B w' (.slice (some ⟨g,0,none⟩) L.length cap) (L.set j (DV L[j] nv)) us:=by
 have hgu:g≠ub:=fun e=>LK h.row hw (by decide) g rfl (by rw[e];rfl)
 have e:us.set j (.slice (some ⟨ub,0,none⟩) V.length uc)=us:=by rw[<- hue];exact List.set_getElem_self hju
 have ht:=Eh.turn (u':=.slice (some ⟨ub,0,none⟩) V.length uc) (nv:=nv) h hj (w':=w') ?_ hu (fun i hi hi' hij=>AA (h.Aq i hi hi') (fun k hkk=>hk k (fun e2=>h.ne hi' hju hij k hkk (by rw[hue,e2];rfl)))) (fun i hi hij k hkk=>by
  have:=h.ne hi hju hij k hkk
  rwa [hue] at this)
 ·rwa [e] at ht
 ·rw[e,gB L us j hj hju h.len nv]
  exact AA h.row (fun k hkk=>hk k (by cases hkk;exact hgu))
end Own
theorem Yt (q:Own.Queue)(o:Own.Ap)(id:Int)(ag:Bool)(ap:Own.Ce)(qv sv kv cv pv:Value)(w:World)(hMx:Fx w)(hP:Own.AX w qv q.props)(hS:Own.Bw w sv o.spaces)(hK:Own.Ca w kv o.keys)(hcs:AO w cv ap.sig.chains)(hps:AO w pv ap.sig.path)(hcap:EY pv)
 (hlp:q.props.length<=1000000) (hlv:∀ x∈q.props,x.Aq.length<=3000000) (hls:o.spaces.length<=3000000) (hlk:o.keys.length<=800000) (hlm:∀ x∈o.spaces,x.members.length<=3000000)
 (hal:ap.name.size<=140737488355328/\ap.sig.chains.length<=140737488355328/\ap.sig.path.length<=140737488355328):
 Calls Tryz.prog 25 #[.agg #[.int .i64 q.next,qv],.agg #[.int .i64 o.count,sv,kv],.int .i64 id,.bool ag,.agg #[.string ap.name,.int .i64 ap.sig.index,cv,pv]] w (WB w (Own.EZ q o id ag ap)):=by
 obtain⟨R,hR⟩:∃ R,R=Own.EZ q o id ag ap:=⟨_,rfl⟩
 obtain⟨Q,hQ⟩:∃ Q,Q=WB w R:=⟨_,rfl⟩
 rw[<- hR,<- hQ]
 have HQ:=zh hQ;clear hQ
 unfold Own.EZ Own.CW at hR
 obtain⟨qa,qc,rfl⟩:=hP.len
 obtain⟨sa,sc,rfl⟩:=hS.len
 obtain⟨ka,kc,rfl⟩:=hK.len
 obtain⟨ca,cc,rfl⟩:=hcs.len
 obtain⟨pa,pc,rfl⟩:=hps.len
 have hvq:=fun W (hW:Below w.heap.size w W)=>Dv q (.slice qa q.props.length qc) W (hMx.below hW) (hP.below hW) (by omega) (fun p hp=>by have:=hlv p hp;omega)
 have hvo:=fun W (hW:Below w.heap.size w W)=>Fe o (.slice sa o.spaces.length sc) (.slice ka o.keys.length kc) W (hMx.below hW) (hS.below hW) (hK.below hW) (by omega) (by omega) (fun x hx=>by have:=hlm x hx;omega)
 have hau:=fun(s:ByteArray) W (hW:Below w.heap.size w W)=>EK o s (.slice sa o.spaces.length sc) (.slice ka o.keys.length kc) W (hMx.below hW) (hS.below hW) (hK.below hW) (by omega) (by omega) (fun x hx=>by have:=hlm x hx;omega)
 have hus:=fun(X:Nat->Prop) (s:Own.Space) (path msg:ByteArray) (ma:Option Addr) (mc:Nat) W (hW:Below w.heap.size w W) (hXw:∀ k,X k->w.heap.size<=k) (hX:∀ k,X k->k<W.heap.size) hm hmc uS Ma=>Yh X o s path msg ap (.slice sa o.spaces.length sc) (.slice ka o.keys.length kc) (.slice ca ap.sig.chains.length cc) (.slice pa ap.sig.path.length pc) ma mc W hX (hMx.below hW) ((hS.mono (G:=fun k=>¬ X k) (fun k _ hk h=>by have:=hXw k h;omega)).below hW) (hK.below hW) hm hmc (hcs.below hW) (hps.below hW) hcap uS hlk Ma hal
 have hqp:=fun(h:Own.A9 q=true) (p:Own.Ab) (hp:p∈q.props)=>Own.Yr h hp
 have pG:Own.A9 q=true->q.props.Pairwise fun x y=>x.id<y.id:=fun h=>Own.aM h
 obtain⟨QB,hQB⟩:∃ b,b=Own.A9 q:=⟨_,rfl⟩
 obtain⟨OB,hOB⟩:∃ b,b=Own.Bf o:=⟨_,rfl⟩
 simp only[<- hQB,<- hOB] at hvq hvo hR hqp pG
 obtain⟨nx,L⟩:=q
 dsimp only at*
 obtain⟨AU,hAU⟩:∃ AU,AU=Own.authority o:=⟨_,rfl⟩
 obtain⟨UR,hUR⟩:∃ UR:Own.Space->ByteArray->Except Int (Own.Member × List Own.KeyUse),UR=fun s m=>Own.NW o s m ap:=⟨_,rfl⟩
 have hur:∀ s m,Own.NW o s m ap=UR s m:=fun s m=>by rw[hUR]
 have aT:∀ s m c,UR s m=.error c->(c==0)=false:=fun s m c h=>by
  rw[<- hur] at h
  unfold Own.NW at h
  split at h
  ·cases h;rfl
  ·split at h
   ·split at h
    ·cases h;rfl
    ·cases h
   ·cases h;rfl
 have uT:=zh aT;clear aT
 have hR2:R=if (QB&&OB)=false then (Own.Queue.none,Own.Ap.none,1) else match L.find? (fun p=>decide (p.id=id)) with
  | none=>(Own.Queue.none,Own.Ap.none,6)
  | some p => match AU p.path with
    | none=>(Own.Queue.none,Own.Ap.none,6)
    | some s => match UR s (Own.Ay p ag) with
      | .error c=>(Own.Queue.none,Own.Ap.none,c)
      | .ok (m,K)=>if 1024<(Own.Bq p.Aq ⟨ap.name,m.pub,ag⟩).length then (Own.Queue.none,Own.Ap.none,7) else (⟨nx,Own.Qj L (Own.DV p (Own.Bq p.Aq ⟨ap.name,m.pub,ag⟩))⟩,{ o with keys:=K },0):=by
  rw[hR,hAU]
  split
  ·rfl
  ·cases L.find? (fun p=>decide (p.id=id)) with
   | none=>rfl
   | some p =>
     dsimp only
     cases Own.authority o p.path with
     | none=>rfl
     | some s =>
       dsimp only
       rw[<- hur]
       unfold Own.NW
       cases Own.find s.members ap.name with
       | none=>rfl
       | some m =>
         dsimp only
         cases hv:Sig.verify m.pub (Own.Ay p ag) ap.sig with
         | false=>rfl
         | true =>
           by_cases hi:ap.sig.index<Own.Bc o.keys m.pub
           ·simp[hi]
           ·simp only[Bool.true_eq_false,hi,if_false,if_true]
            rfl
 simp only[<- hAU,hur] at hau hus
 have HVQ:=zh hvq;have HVO:=zh hvo;have uU:=zh hau;have HUS:=zh hus;have HQP:=zh hqp;have uV:=zh pG;have HR:=zh hR2;have HP:=zh hP;have HLV:=zh hlv;have HMX:=zh hMx;have HAU:=zh hAU
 have HSS:=zh hS;have HKK:=zh hK
 clear hvq hvo hau hus hqp pG hR hR2 hS hK hlm hQB hOB hAU hUR hur hP hlv hMx hcs hps hcap
 obtain⟨nm,⟨ix,chs,pth⟩⟩:=ap
 obtain⟨cnt,S,K⟩:=o
 dsimp only at*
 have F1:=zh (show AQ w _ [(24,#[.int .i64 nx,.slice qa L.length qc]),(38,#[.int .i64 cnt,.slice sa S.length sc,.slice ka K.length kc]),(43,#[.string nm,.int .i64 ix,.slice ca chs.length cc,.slice pa pth.length pc]),(24,#[.int .i64 0,.slice none 0 0]),(38,#[.int .i64 0,.slice none 0 0,.slice none 0 0])] from((((((Fg.nil w).push 24 #[.int .i64 nx,.slice qa L.length qc]).push 38 #[.int .i64 cnt,.slice sa S.length sc,.slice ka K.length kc]).push 43 #[.string nm,.int .i64 ix,.slice ca chs.length cc,.slice pa pth.length pc]).push 24 #[.int .i64 0,.slice none 0 0]).push 38 #[.int .i64 0,.slice none 0 0,.slice none 0 0]).boxes)
 have x00:(((((w.alloc (.cells #[.int .i64 nx,.slice qa L.length qc] 24)).alloc (.cells #[.int .i64 cnt,.slice sa S.length sc,.slice ka K.length kc] 38)).alloc (.cells #[.string nm,.int .i64 ix,.slice ca chs.length cc,.slice pa pth.length pc] 43)).alloc (.cells #[.int .i64 0,.slice none 0 0] 24)).alloc (.cells #[.int .i64 0,.slice none 0 0,.slice none 0 0] 38)).cell? ⟨w.heap.size,0,none⟩=some (.int .i64 nx):=F1.out.cell 0 0 rfl rfl
 have x01:(((((w.alloc (.cells #[.int .i64 nx,.slice qa L.length qc] 24)).alloc (.cells #[.int .i64 cnt,.slice sa S.length sc,.slice ka K.length kc] 38)).alloc (.cells #[.string nm,.int .i64 ix,.slice ca chs.length cc,.slice pa pth.length pc] 43)).alloc (.cells #[.int .i64 0,.slice none 0 0] 24)).alloc (.cells #[.int .i64 0,.slice none 0 0,.slice none 0 0] 38)).cell? ⟨w.heap.size,1,none⟩=some (.slice qa L.length qc):=F1.out.cell 0 1 rfl rfl
 go_enter Tryz.func25,Tryz.ntmps25
 go_wp2_with fail
 generalize (((((w.alloc (.cells #[.int .i64 nx,.slice qa L.length qc] 24)).alloc (.cells #[.int .i64 cnt,.slice sa S.length sc,.slice ka K.length kc] 38)).alloc (.cells #[.string nm,.int .i64 ix,.slice ca chs.length cc,.slice pa pth.length pc] 43)).alloc (.cells #[.int .i64 0,.slice none 0 0] 24)).alloc (.cells #[.int .i64 0,.slice none 0 0,.slice none 0 0] 38))=w1 at*
 refine(HVQ.out w1 F1.out.under).mono ?_
 rintro e w2 ⟨rfl,hb2⟩
 have F2:=zh (F1.out.step hb2)
 (try clear x00);(try clear x01)
 clear hb2
 cases QB with
 | false =>
   have HE:=zh (show R=(Own.Queue.none,Own.Ap.none,1) by rw[HR.out];rfl)
   obtain⟨x30,x31,Eu,Ev⟩:=F2.out.Mi rfl
   obtain⟨x40,x41,x42,Ew,Ey,Ez⟩:=F2.out.VK rfl
   go_wp2_with fail
   have g1:=F2.out.put 3 0 (.int .i64 0) rfl
   have g2:=g1.put 3 1 (.slice none 0 0) rfl
   have g3:=g2.put 4 0 (.int .i64 0) rfl
   have g4:=g3.put 4 1 (.slice none 0 0) rfl
   have G2:=g4.put 4 2 (.slice none 0 0) rfl
   clear g1 g2 g3 g4
   refine Co rfl rfl rfl rfl (Ad (G2.at1 3 rfl) Tryz.underlying24 rfl Ao) (Ad (G2.at1 4 rfl) Tryz.underlying38 rfl Av) ?_
   rw[HQ.out,HE.out]
   exact⟨⟨_,_,_,rfl,⟨_,rfl,Af.nil _ _⟩,Af.nil _ _,Af.nil _ _⟩,G2.under⟩
 | true=>
 obtain⟨x10,x11,x12⟩:=F2.out.XY rfl
 go_wp2_with fail
 refine(HVO.out w2 F2.out.under).mono ?_
 rintro e w3 ⟨rfl,hb3⟩
 have F3:=zh (F2.out.step hb3)
 (try clear x00);(try clear x01);(try clear x10 x11 x12);(try clear x30 x31 Eu Ev);(try clear x40 x41 x42 Ew Ey Ez)
 clear hb3
 cases OB with
 | false =>
   have HE:=zh (show R=(Own.Queue.none,Own.Ap.none,1) by rw[HR.out];rfl)
   obtain⟨x30,x31,Eu,Ev⟩:=F3.out.Mi rfl
   obtain⟨x40,x41,x42,Ew,Ey,Ez⟩:=F3.out.VK rfl
   go_wp2_with fail
   have g1:=F3.out.put 3 0 (.int .i64 0) rfl
   have g2:=g1.put 3 1 (.slice none 0 0) rfl
   have g3:=g2.put 4 0 (.int .i64 0) rfl
   have g4:=g3.put 4 1 (.slice none 0 0) rfl
   have G2:=g4.put 4 2 (.slice none 0 0) rfl
   clear g1 g2 g3 g4
   refine Co rfl rfl rfl rfl (Ad (G2.at1 3 rfl) Tryz.underlying24 rfl Ao) (Ad (G2.at1 4 rfl) Tryz.underlying38 rfl Av) ?_
   rw[HQ.out,HE.out]
   exact⟨⟨_,_,_,rfl,⟨_,rfl,Af.nil _ _⟩,Af.nil _ _,Af.nil _ _⟩,G2.under⟩
 | true=>
 have hr:=HR.out
 rw[if_neg (show ¬ (true&&true)=false by decide)] at hr
 obtain⟨x00,x01⟩:=F3.out.Ry rfl
 have HR1:=zh hr;clear hr HR
 go_wp2_with fail
 refine(I7 nx id (.slice qa L.length qc) L w3 (HP.out.below F3.out.under) (by omega)).mono ?_
 rintro e w4 ⟨⟨i,rfl,hi⟩,hb4⟩
 have F4:=zh (F3.out.step hb4)
 (try clear x00);(try clear x01);(try clear x10 x11 x12);(try clear x30 x31 Eu Ev);(try clear x40 x41 x42 Ew Ey Ez)
 clear hb4
 rcases hi with ⟨rfl,hf,_⟩|⟨j,hj,rfl,hf,hpj,_⟩
 ·have HE:=zh (show R=(Own.Queue.none,Own.Ap.none,6) by rw[HR1.out,hf])
  clear hf
  obtain⟨x30,x31,Eu,Ev⟩:=F4.out.Mi rfl
  obtain⟨x40,x41,x42,Ew,Ey,Ez⟩:=F4.out.VK rfl
  go_wp2_with fail
  have g1:=F4.out.put 3 0 (.int .i64 0) rfl
  have g2:=g1.put 3 1 (.slice none 0 0) rfl
  have g3:=g2.put 4 0 (.int .i64 0) rfl
  have g4:=g3.put 4 1 (.slice none 0 0) rfl
  have G2:=g4.put 4 2 (.slice none 0 0) rfl
  clear g1 g2 g3 g4
  refine Co rfl rfl rfl rfl (Ad (G2.at1 3 rfl) Tryz.underlying24 rfl Ao) (Ad (G2.at1 4 rfl) Tryz.underlying38 rfl Av) ?_
  rw[HQ.out,HE.out]
  exact⟨⟨_,_,_,rfl,⟨_,rfl,Af.nil _ _⟩,Af.nil _ _,Af.nil _ _⟩,G2.under⟩
 have dj:decide ((j:Int)<0)=false:=zf
 have hr:=HR1.out
 rw[hf] at hr
 have HR2:=zh hr
 obtain⟨x00,x01⟩:=F4.out.Ry rfl
 clear hr hf hpj HR1
 go_wp2_with fail
 refine(WA nx (.slice qa L.length qc) L w4 (HP.out.below F4.out.under) hlp HLV.out).mono ?_
 rintro e w5 ⟨⟨v5,us,rfl,hso⟩,hb5⟩
 obtain⟨g,cap,rfl,_⟩:=Dm hso.row (by omega)
 have O6:=zh (show AQ w5 _ [(24,#[.int .i64 nx,.slice (some ⟨g,0,none⟩) L.length cap])] from((Fg.nil w5).push 24 #[.int .i64 nx,.slice (some ⟨g,0,none⟩) L.length cap]).boxes)
 have F6:=zh (F4.out.step (hb5.trans (O6.out.under.mono hb5.size)));have SO6:=zh (hso.below O6.out.under);have kK:=hso
 have hz5:w.heap.size+5<=w4.heap.size:=F4.out.size
 have zao:=hb5.size
 (try clear x00);(try clear x01);(try clear x10 x11 x12);(try clear x30 x31 Eu Ev);(try clear x40 x41 x42 Ew Ey Ez)
 clear hb5 hso
 go_upto_region 7 with fail
 generalize (w5.alloc (.cells #[.int .i64 nx,.slice (some ⟨g,0,none⟩) L.length cap] 24))=w6 at*
 have hju:j<us.length:=by rw[SO6.out.len];exact hj
 have hcc:∀ i x,(Own.cellsS L us)[i]? = some x->w6.cell? ⟨g,i,none⟩=some x:=by
  obtain⟨g',cap',e,h⟩:=Dm SO6.out.row (by omega)
  cases e
  exact h
 have hvj:=SO6.out.Aq j hj hju
 have gD:=kK.Aq j hj (by rw[kK.len];exact hj)
 obtain⟨ua,um,uc,hue⟩:=Ae hvj
 rw[hue] at hvj gD
 obtain rfl:=BU hvj
 have hgl:g<w6.heap.size:=Own.BO SO6.out.row g rfl
 have hgu:w4.heap.size+3<=g:=Bo SO6.out.row g rfl
 obtain⟨hpk,Lm,hnx⟩:=HQP.out (by first|rfl|trivial) L[j] (List.getElem_mem hj)
 have pI:=Own.POK.of hpk
 have c0:=hcc (j*6) _ (Own.Kr L us j hj hju 0 (by omega))
 have c1:=hcc (j*6+1) _ (Own.Kr L us j hj hju 1 (by omega))
 have c2:=hcc (j*6+2) _ (Own.Kr L us j hj hju 2 (by omega))
 have c3:=hcc (j*6+3) _ (Own.Kr L us j hj hju 3 (by omega))
 have c4:=hcc (j*6+4) _ (Own.Kr L us j hj hju 4 (by omega))
 have c5:=hcc (j*6+5) _ (Own.Kr L us j hj hju 5 (by omega))
 rw[hue] at c5
 obtain⟨x,hx⟩:∃ x,x=L[j]:=⟨_,rfl⟩
 have hr:=HR2.out
 rw[<- hx] at c0 c1 c2 c3 c4 c5 hvj gD pI Lm hr
 obtain⟨pid,ppa,pdi,pop,pex,V⟩:=x
 dsimp only at c0 c1 c2 c3 c4 c5 hvj gD pI Lm hr
 have HX:=zh hx;have HUE:=zh hue;have HVJ:=zh hvj;have uX:=zh gD;have HG5:=zh kK.row;have pJ:=zh pI;have HR3:=zh hr
 obtain⟨x10,x11,x12⟩:=F6.out.XY rfl
 have hz6:w5.heap.size+1<=w6.heap.size:=O6.out.size
 clear hx hue hvj gD kK hr HR2 hcc hpk
 have z01:w6.cell? ⟨w5.heap.size,1,none⟩=some (.slice (some ⟨g,0,none⟩) L.length cap):=O6.out.cell 0 1 rfl rfl
 go_upto_region 8 with fail
 clear z01
 have aU:=fun W (hW:Below w6.heap.size w6 W)=>uU.out ppa W (F6.out.under.trans (hW.mono F6.out.under.size))
 have hr4:=HR3.out
 cases hA:AU ppa with
 | none =>
   rw[hA] at hr4
   simp only[hA] at aU
   have HE:=zh hr4;have HA6:=zh aU
   clear hr4 aU hA HR3
   refine Lex.Cj (fun _=>False) [] [9] 11 [.pure 5,.call,.pure 3,.new] [1] (by kernel_rfl) (by kernel_rfl) (by kernel_rfl) ?_
   simp only[Lex.Fq,Lex.Bg,zd]
   have BD6:=zh (show Below w6.heap.size w6 w6.drew from(Below.refl _ _).drew)
   have ZD6:=zh (show w6.drew.heap.size=w6.heap.size by rw[Ar])
   go_wp2_with fail
   refine Lex.GU.intro ?_
   intro w6a hga
   have HBa:=zh (BD6.out.trans (hga.mono BD6.out.size))
   clear hga
   (try clear x00);(try clear x01);(try clear x10 x11 x12);(try clear x30 x31 Eu Ev);(try clear x40 x41 x42 Ew Ey Ez)
   clear c0 c1 c2 c3 c4 c5
   go_wp2_with fail
   refine(HA6.out w6a HBa.out).mono ?_
   rintro e w7 ⟨rfl,hb7⟩
   have HB7:=zh (HBa.out.trans (hb7.mono HBa.out.size));have BB7:=zh hb7
   clear hb7
   go_wp2_with fail
   refine Lex.JR.intro (fun k hk _=>hk.elim) (Lex.Kept.of_below BB7.out) ?_
   go_wp2_with fail
   refine Lex.GU.intro ?_
   intro w7a gF
   go_wp2_with fail
   refine Lex.Nr.intro (fun w7b hg hk _=>?_)
   have hs7:=hk.at_
   obtain⟨SB,hSB⟩:∃ SB,SB=w7a.heap.size:=⟨_,rfl⟩
   have hsb:w6.heap.size<=SB:=by rw[hSB,<- ZD6.out];exact gF
   rw[<- hSB] at hs7 ⊢
   have hb7:=HB7.out.trans (hg.mono HB7.out.size)
   have s0:=hs7.cell 0;have s1:=hs7.cell 1;have s2:=hs7.cell 2;have s3:=hs7.free 0;have s4:=hs7.free 1;have s5:=hs7.free 2
   simp only[zg] at s0 s1 s2
   have F8:=zh (F6.out.step (((hb7.setCell (p:=⟨SB,0,none⟩) hsb (.string ⟨#[]⟩)).setCell (p:=⟨SB,1,none⟩) hsb (.slice none 0 0)).setCell (p:=⟨SB,2,none⟩) hsb (.int .i64 0)))
   clear hg hk hb7 hs7 hSB gF
   go_wp2_with fail
   refine Lex.Mid.intro (fun k hk _=>hk.elim) ?_
   go_wp2_with fail
   refine Lex.zk trivial ?_
   clear s0 s1 s2 s3 s4 s5
   generalize ((w7b.setCell ⟨SB,0,none⟩ (.string ⟨#[]⟩)).setCell ⟨SB,1,none⟩ (.slice none 0 0)).setCell ⟨SB,2,none⟩ (.int .i64 0)=w8 at*
   obtain⟨x30,x31,Eu,Ev⟩:=F8.out.Mi rfl
   obtain⟨x40,x41,x42,Ew,Ey,Ez⟩:=F8.out.VK rfl
   go_wp2_with fail
   have g1:=F8.out.put 3 0 (.int .i64 0) rfl
   have g2:=g1.put 3 1 (.slice none 0 0) rfl
   have g3:=g2.put 4 0 (.int .i64 0) rfl
   have g4:=g3.put 4 1 (.slice none 0 0) rfl
   have G2:=g4.put 4 2 (.slice none 0 0) rfl
   clear g1 g2 g3 g4
   refine Co rfl rfl rfl rfl (Ad (G2.at1 3 rfl) Tryz.underlying24 rfl Ao) (Ad (G2.at1 4 rfl) Tryz.underlying38 rfl Av) ?_
   rw[HQ.out,HE.out]
   exact⟨⟨_,_,_,rfl,⟨_,rfl,Af.nil _ _⟩,Af.nil _ _,Af.nil _ _⟩,G2.under⟩
 | some sp =>
   rw[hA] at hr4
   simp only[hA] at aU
   have HR5:=zh hr4;have HA6:=zh aU;have HSA:=zh hA
   obtain⟨Ll,M,th⟩:=sp
   dsimp only at HA6 HR5
   clear hr4 aU hA HR3
   refine Lex.Cj (fun _=>False) [] [9] 11 [.pure 5,.call,.pure 3,.new] [1] (by kernel_rfl) (by kernel_rfl) (by kernel_rfl) ?_
   simp only[Lex.Fq,Lex.Bg,zd]
   have BD6:=zh (show Below w6.heap.size w6 w6.drew from(Below.refl _ _).drew)
   have ZD6:=zh (show w6.drew.heap.size=w6.heap.size by rw[Ar])
   go_wp2_with fail
   refine Lex.GU.intro ?_
   intro w6a hga
   have HBa:=zh (BD6.out.trans (hga.mono BD6.out.size))
   clear hga
   (try clear x00);(try clear x01);(try clear x10 x11 x12);(try clear x30 x31 Eu Ev);(try clear x40 x41 x42 Ew Ey Ez)
   go_wp2_with fail
   refine(HA6.out w6a HBa.out).mono ?_
   rintro e w7 ⟨⟨mv,rfl,hov⟩,hb7⟩
   dsimp only at hov
   obtain⟨ma,mm,mc,rfl⟩:=Ae hov
   obtain rfl:=BU hov
   have hov:=Cm hov HBa.out.size
   have HB7:=zh (HBa.out.trans (hb7.mono HBa.out.size));have BB7:=zh hb7
   have hmc:M.length<=mc:=by
    obtain⟨_,⟨h0,hn⟩|⟨_,_,_,h0,_,_,h1,_⟩⟩:=hov
    ·injection h0 with _ q1 q2
     omega
    ·injection h0 with _ q1 q2
     omega
   have HOV:=zh hov
   clear hb7 hov
   go_wp2_with fail
   refine Lex.JR.intro (fun k hk _=>hk.elim) (Lex.Kept.of_below BB7.out) ?_
   go_wp2_with fail
   refine Lex.GU.intro ?_
   intro w7a gF
   go_wp2_with fail
   refine Lex.Nr.intro (fun w7b hg hk ho=>?_)
   have hs7:=hk.at_
   obtain⟨SB,hSB⟩:∃ SB,SB=w7a.heap.size:=⟨_,rfl⟩
   have hsb:w6.heap.size<=SB:=by rw[hSB,<- ZD6.out];exact gF
   rw[<- hSB] at hs7 ⊢
   have hb7:=HB7.out.trans (hg.mono HB7.out.size)
   have gG:=own_below HOV.out hg
   have hne:=hs7.own_ne gG (by decide)
   have s0:=hs7.cell 0;have s1:=hs7.cell 1;have s2:=hs7.cell 2;have s3:=hs7.free 0;have s4:=hs7.free 1;have s5:=hs7.free 2
   simp only[zg] at s0 s1 s2
   have hb8:=(((hb7.setCell (p:=⟨SB,0,none⟩) hsb (.string Ll)).setCell (p:=⟨SB,1,none⟩) hsb (.slice ma M.length mc)).setCell (p:=⟨SB,2,none⟩) hsb (.int .i64 th))
   have hs8:At (((w7b.setCell ⟨SB,0,none⟩ (.string Ll)).setCell ⟨SB,1,none⟩ (.slice ma M.length mc)).setCell ⟨SB,2,none⟩ (.int .i64 th)) SB 70 #[.string Ll,.slice ma M.length mc,.int .i64 th]:=((hs7.set 0 (.string Ll)).set 1 (.slice ma M.length mc)).set 2 (.int .i64 th)
   have hm8:Af 2 Own.BX (fun k=>w6.heap.size<=k/\k≠SB/\k<(((w7b.setCell ⟨SB,0,none⟩ (.string Ll)).setCell ⟨SB,1,none⟩ (.slice ma M.length mc)).setCell ⟨SB,2,none⟩ (.int .i64 th)).heap.size) (((w7b.setCell ⟨SB,0,none⟩ (.string Ll)).setCell ⟨SB,1,none⟩ (.slice ma M.length mc)).setCell ⟨SB,2,none⟩ (.int .i64 th)) (.slice ma M.length mc) M:=
    DF (enc:=Own.Lg) (fun _=>rfl) (fun _=>rfl) (BA.own (AA gG (fun k hk=>by
     have h2:k≠SB:=fun e=>hne (by rw[hk,e])
     rw[zo h2,zo h2,zo h2]))) rfl (fun k hk=>by
     have h1:=Bo gG k hk
     have h2:=Own.BO gG k hk
     refine⟨h1,fun e=>hne (by rw[hk,e]),?_⟩
     simp only[World.setCell,Array.size_modify]
     exact h2)
   have F8:=zh (F6.out.step hb8);have O8:=zh (O6.out.step hb8);have SO8:=zh (SO6.out.below hb8);have HB8:=zh hb8;have S8:=zh hs8;have HM8:=zh hm8
   clear hg hk ho hb7 hs7 hSB gF hb8 hs8 hm8 gG hne HOV HBa HB7 BB7
   go_wp2_with fail
   refine Lex.Mid.intro (fun k hk _=>hk.elim) ?_
   go_wp2_with fail
   refine Lex.zk trivial ?_
   clear s0 s1 s2 s3 s4 s5
   generalize ((w7b.setCell ⟨SB,0,none⟩ (.string Ll)).setCell ⟨SB,1,none⟩ (.slice ma M.length mc)).setCell ⟨SB,2,none⟩ (.int .i64 th)=w8 at*
   go_upto_region 11 with fail
   have c0':=(HB8.out.cell (p:=⟨g,j*6,none⟩) hgl).trans c0
   have c1':=(HB8.out.cell (p:=⟨g,j*6+1,none⟩) hgl).trans c1
   have c2':=(HB8.out.cell (p:=⟨g,j*6+2,none⟩) hgl).trans c2
   have c3':=(HB8.out.cell (p:=⟨g,j*6+3,none⟩) hgl).trans c3
   have c4':=(HB8.out.cell (p:=⟨g,j*6+4,none⟩) hgl).trans c4
   have c5':=(HB8.out.cell (p:=⟨g,j*6+5,none⟩) hgl).trans c5
   obtain⟨s0,s1,s2⟩:=S8.out.c3
   (try clear x00);(try clear x01);(try clear x10 x11 x12);(try clear x30 x31 Eu Ev);(try clear x40 x41 x42 Ew Ey Ez)
   obtain⟨x10,x11,x12⟩:=F8.out.XY rfl
   have h1l:w.heap.size+1<w8.heap.size:=F8.out.lt (i:=1) (by show 1<5;omega)
   have h2l:w.heap.size+1+1<w8.heap.size:=F8.out.lt (i:=2) (by show 2<5;omega)
   have hsl:SB<w8.heap.size:=S8.out.lt
   have uY:g<w8.heap.size:=Nat.lt_of_lt_of_le hgl HB8.out.size
   have zaq:=HB8.out.size
   have HC5:=zh c5'
   have HX1:=zh (zi x10)
   have HX2:=zh (zi s0)
   have HX3:=zh (zi c1')
   have HX4:=zh (show(w8.cell? ⟨w.heap.size+1+1,0,none⟩).isSome=true by rw[F8.out.cell 2 0 rfl rfl];rfl)
   have hpk:=pJ.out
   obtain⟨MSG,pK⟩:∃ m,m=Own.Ay ⟨pid,ppa,pdi,pop,pex,V⟩ ag:=⟨_,rfl⟩
   have hms:MSG.size<=9223372036854775000:=by
    have h1:ppa.size<=64:=hpk.path
    have h2:pdi.size=32:=hpk.dig
    have h3:=Cod.CQ pid.toNat;have h4:=Cod.CQ ppa.size;have h5:=Cod.CQ pdi.size
    rw[pK]
    unfold Own.Ay Cod.text Sig.b1
    simp only[ByteArray.size_append]
    have:∀ x:UInt8,(⟨#[x]⟩:ByteArray).size=1:=fun _=>rfl
    rw[this]
    omega
   have Ma:=fun W=>KJ ⟨pid,ppa,pdi,pop,pex,V⟩ ag (.slice ua V.length uc) W hpk.id0 (by show pid<_;omega) (by have:ppa.size<=64:=hpk.path;show ppa.size<=_;omega) (by have:pdi.size=32:=hpk.dig;show pdi.size<=_;omega)
   have hr6:=HR5.out
   simp only[<- pK] at Ma hr6
   have hus:=fun(X:Nat->Prop) W (hW:Below w8.heap.size w8 W) (hXw:∀ k,X k->w.heap.size<=k) (hX:∀ k,X k->k<W.heap.size) (hXm:∀ k,w6.heap.size<=k/\k≠SB/\k<w8.heap.size->¬ X k)=>HUS.out X ⟨Ll,M,th⟩ ppa MSG ma mc W (F8.out.under.trans (hW.mono F8.out.under.size)) hXw hX ((HM8.out.below hW).mono (fun k hk _=>hXm k hk)) hmc HSA.out hms
   dsimp only at hus
   have pO:=zh Ma;have SY:=zh hus;have HR6:=zh hr6
   have aT:=uT.out ⟨Ll,M,th⟩ MSG
   clear Ma hus hr6 pK hpk c0 c1 c2 c3 c4 c5
   cases hU:UR ⟨Ll,M,th⟩ MSG with
   | error ec =>
     have hec:=aT ec hU
     simp only[hU] at SY HR6
     clear aT hU
     have BD8:=zh (show Below w8.heap.size w8 w8.drew from(Below.refl _ _).drew)
     have ZD8:=zh (show w8.drew.heap.size=w8.heap.size by rw[Ar])
     refine Lex.Cj (fun k=>k=w.heap.size+1\/k=SB\/k=g\/k=w.heap.size+1+1) [0,1,5,11] [17] 20 [.pure 10,.call,.pure 1,.call,.pure 4,.new] [1] (by kernel_rfl) (by kernel_rfl) (by kernel_rfl) ?_
     simp only[Lex.Fq,Lex.Bg,zd]
     go_wp2_with fail
     refine Lex.GU.intro ?_
     intro w8a hga
     have HBa:=zh (BD8.out.trans (hga.mono BD8.out.size));have HXa:=zh hga
     clear hga
     (try clear x00);(try clear x01);(try clear x10 x11 x12);(try clear x30 x31 Eu Ev);(try clear x40 x41 x42 Ew Ey Ez)
     clear c0' c1' c2' c3' c4' c5' s0 s1 s2
     go_wp2_with fail
     refine(pO.out _).mono ?_
     rintro e w9 ⟨rfl,hb9⟩
     have F9:=zh (F8.out.step (HBa.out.trans (hb9.mono HBa.out.size)));have HB9:=zh (HBa.out.trans (hb9.mono HBa.out.size));have HX9:=zh (HXa.out.trans (hb9.mono HXa.out.size));have BB9:=zh hb9
     clear hb9
     obtain⟨x20,x21,x22,x23⟩:=F9.out.ou rfl
     go_wp2_with fail
     refine Lex.JR.intro (fun k _ hkl=>HX9.out.block _ hkl) (Lex.Kept.of_below BB9.out) ?_
     go_wp2_with fail
     refine Lex.GU.intro ?_
     intro w9a hga
     have RO:=zh (HB9.out.trans (hga.mono HB9.out.size));have aV:=zh (HX9.out.trans (hga.mono HX9.out.size))
     clear hga HBa HXa HB9 HX9 BB9
     (try clear x00);(try clear x01);(try clear x10 x11 x12);(try clear x20);(try clear x21);(try clear x22);(try clear x23);(try clear x30 x31 Eu Ev);(try clear x40 x41 x42 Ew Ey Ez)
     go_wp2_with fail
     refine(SY.out (fun k=>(w.heap.size<=k/\k<w6.heap.size)\/(w8.heap.size<=k/\k<w9a.heap.size)) w9a RO.out (fun k hk=>by have:=F8.out.size;omega) (fun k hk=>by have:=RO.out.size;omega) (fun k hk=>by omega)).mono ?_
     rintro e w9r ⟨rfl,I6⟩
     unfold Own.nobody
     have aW:=zh (RO.out.trans (I6.mono RO.out.size));have WC:=zh (aV.out.trans (I6.mono aV.out.size));have kL:=zh I6
     clear I6
     go_wp2_with fail
     refine Lex.JR.intro (fun k _ hkl=>WC.out.block _ hkl) (Lex.Kept.of_below kL.out) ?_
     go_wp2_with fail
     refine Lex.GU.intro ?_
     intro w9s gH
     go_wp2_with fail
     refine Lex.Nr.intro (fun w10 U0 hk10 gI=>?_)
     have IJ:=hk10.at_
     obtain⟨NB,hNB⟩:∃ NB,NB=w9s.heap.size:=⟨_,rfl⟩
     have uZ:NB+1<=w9a.heap.size\/w9r.heap.size<=NB:=by
      have:=gI (w9a.heap.size,w9r.heap.size) List.mem_cons_self
      simpa [hNB] using this
     have Yu:w8.heap.size<=NB:=by rw[hNB,<- ZD8.out];exact gH
     rw[<- hNB] at IJ ⊢
     have WE:=zh (aW.out.trans (U0.mono aW.out.size));have kM:=zh (WC.out.trans (U0.mono WC.out.size))
     have kN:At (((w10.setCell ⟨NB,0,none⟩ (.int .i64 0)).setCell ⟨NB,1,none⟩ (.slice none 0 0)).setCell ⟨NB,2,none⟩ (.slice none 0 0)) NB 38 #[(.int .i64 0),(.slice none 0 0),(.slice none 0 0)]:=((IJ.set 0 (.int .i64 0)).set 1 (.slice none 0 0)).set 2 (.slice none 0 0)
     have HBN:=zh (((WE.out.setCell (p:=⟨NB,0,none⟩) Yu (.int .i64 0)).setCell (p:=⟨NB,1,none⟩) Yu (.slice none 0 0)).setCell (p:=⟨NB,2,none⟩) Yu (.slice none 0 0))
     have n0:=IJ.cell 0;have n1:=IJ.cell 1;have n2:=IJ.cell 2;have n3:=IJ.free 0;have n4:=IJ.free 1;have n5:=IJ.free 2
     simp only[zg] at n0 n1 n2
     have hkp:∀ k,k≠NB->(((w10.setCell ⟨NB,0,none⟩ (.int .i64 0)).setCell ⟨NB,1,none⟩ (.slice none 0 0)).setCell ⟨NB,2,none⟩ (.slice none 0 0)).heap[k]? = w10.heap[k]? :=fun k hk=>by
      rw[zo hk,zo hk,zo hk]
     clear kN IJ hNB U0 hk10 gI gH hkp
     go_wp2_with fail
     refine Lex.Mid.intro (fun k _ hkl=>by
      have h3:k≠NB:=by have:=ZD8.out;omega
      rw[zo h3,zo h3,zo h3]
      exact kM.out.block _ hkl) ?_
     go_wp2_with fail
     clear n0 n1 n2 n3 n4 n5
     generalize ((w10.setCell ⟨NB,0,none⟩ (.int .i64 0)).setCell ⟨NB,1,none⟩ (.slice none 0 0)).setCell ⟨NB,2,none⟩ (.slice none 0 0)=w11 at*
     refine Lex.zk ⟨⟨.inl rfl,HX1.out⟩,⟨.inr (.inl rfl),HX2.out⟩,⟨.inr (.inr (.inl rfl)),HX3.out⟩,⟨.inr (.inr (.inr rfl)),HX4.out⟩,trivial⟩ ?_
     have F11:=zh (F8.out.step HBN.out)
     have HE:=zh HR6.out
     obtain⟨x30,x31,Eu,Ev⟩:=F11.out.Mi rfl
     obtain⟨x40,x41,x42,Ew,Ey,Ez⟩:=F11.out.VK rfl
     go_wp2_with fail
     have g1:=F11.out.put 3 0 (.int .i64 0) rfl
     have g2:=g1.put 3 1 (.slice none 0 0) rfl
     have g3:=g2.put 4 0 (.int .i64 0) rfl
     have g4:=g3.put 4 1 (.slice none 0 0) rfl
     have G2:=g4.put 4 2 (.slice none 0 0) rfl
     clear g1 g2 g3 g4
     refine Co rfl rfl rfl rfl (Ad (G2.at1 3 rfl) Tryz.underlying24 rfl Ao) (Ad (G2.at1 4 rfl) Tryz.underlying38 rfl Av) ?_
     rw[HQ.out,HE.out]
     exact⟨⟨_,_,_,rfl,⟨_,rfl,Af.nil _ _⟩,Af.nil _ _,Af.nil _ _⟩,G2.under⟩
   | ok mk =>
     simp only[hU] at SY HR6
     clear aT hU
     obtain⟨mm,K1⟩:=mk
     dsimp only at SY HR6
     have BD8:=zh (show Below w8.heap.size w8 w8.drew from(Below.refl _ _).drew)
     have ZD8:=zh (show w8.drew.heap.size=w8.heap.size by rw[Ar])
     refine Lex.Cj (fun k=>k=w.heap.size+1\/k=SB\/k=g\/k=w.heap.size+1+1) [0,1,5,11] [17] 20 [.pure 10,.call,.pure 1,.call,.pure 4,.new] [1] (by kernel_rfl) (by kernel_rfl) (by kernel_rfl) ?_
     simp only[Lex.Fq,Lex.Bg,zd]
     go_wp2_with fail
     refine Lex.GU.intro ?_
     intro w8a hga
     have HBa:=zh (BD8.out.trans (hga.mono BD8.out.size));have HXa:=zh hga
     clear hga
     (try clear x00);(try clear x01);(try clear x10 x11 x12);(try clear x20);(try clear x21);(try clear x22);(try clear x23);(try clear x30 x31 Eu Ev);(try clear x40 x41 x42 Ew Ey Ez)
     clear c0' c1' c2' c3' c4' c5' s0 s1 s2
     go_wp2_with fail
     refine(pO.out _).mono ?_
     rintro e w9 ⟨rfl,hb9⟩
     have F9:=zh (F8.out.step (HBa.out.trans (hb9.mono HBa.out.size)));have HB9:=zh (HBa.out.trans (hb9.mono HBa.out.size));have HX9:=zh (HXa.out.trans (hb9.mono HXa.out.size));have BB9:=zh hb9
     clear hb9
     obtain⟨x20,x21,x22,x23⟩:=F9.out.ou rfl
     go_wp2_with fail
     refine Lex.JR.intro (fun k _ hkl=>HX9.out.block _ hkl) (Lex.Kept.of_below BB9.out) ?_
     go_wp2_with fail
     refine Lex.GU.intro ?_
     intro w9a hga
     have RO:=zh (HB9.out.trans (hga.mono HB9.out.size));have aV:=zh (HX9.out.trans (hga.mono HX9.out.size))
     clear hga HBa HXa HB9 HX9 BB9
     (try clear x00);(try clear x01);(try clear x10 x11 x12);(try clear x20);(try clear x21);(try clear x22);(try clear x23);(try clear x30 x31 Eu Ev);(try clear x40 x41 x42 Ew Ey Ez)
     go_wp2_with fail
     refine(SY.out (fun k=>(w.heap.size<=k/\k<w6.heap.size)\/(w8.heap.size<=k/\k<w9a.heap.size)) w9a RO.out (fun k hk=>by have:=F8.out.size;omega) (fun k hk=>by have:=RO.out.size;omega) (fun k hk=>by omega)).mono ?_
     rintro e w9r ⟨⟨sv',kv',rfl,kP,kQ⟩,I6⟩
     dsimp only at kP kQ
     obtain⟨sa',sc',rfl⟩:=kP.len
     obtain⟨ka',kc',rfl⟩:=kQ.len
     have aW:=zh (RO.out.trans (I6.mono RO.out.size));have WC:=zh (aV.out.trans (I6.mono aV.out.size));have kL:=zh I6
     clear I6
     go_wp2_with fail
     refine Lex.JR.intro (fun k _ hkl=>WC.out.block _ hkl) (Lex.Kept.of_below kL.out) ?_
     go_wp2_with fail
     refine Lex.GU.intro ?_
     intro w9s gH
     go_wp2_with fail
     refine Lex.Nr.intro (fun w10 U0 hk10 gI=>?_)
     have IJ:=hk10.at_
     obtain⟨NB,hNB⟩:∃ NB,NB=w9s.heap.size:=⟨_,rfl⟩
     have uZ:NB+1<=w9a.heap.size\/w9r.heap.size<=NB:=by
      have:=gI (w9a.heap.size,w9r.heap.size) List.mem_cons_self
      simpa [hNB] using this
     have Yu:w8.heap.size<=NB:=by rw[hNB,<- ZD8.out];exact gH
     rw[<- hNB] at IJ ⊢
     have WE:=zh (aW.out.trans (U0.mono aW.out.size));have kM:=zh (WC.out.trans (U0.mono WC.out.size))
     have hrs:=(kP.mono (G:=fun k=>¬ ((w.heap.size<=k/\k<w6.heap.size)\/k=NB)) (fun k hk hl=>by omega)).below U0
     have hrk:=(kQ.mono (G:=fun k=>¬ ((w.heap.size<=k/\k<w6.heap.size)\/k=NB)) (fun k hk hl=>by omega)).below U0
     have kN:At (((w10.setCell ⟨NB,0,none⟩ (.int .i64 cnt)).setCell ⟨NB,1,none⟩ (.slice sa' S.length sc')).setCell ⟨NB,2,none⟩ (.slice ka' K1.length kc')) NB 38 #[(.int .i64 cnt),(.slice sa' S.length sc'),(.slice ka' K1.length kc')]:=((IJ.set 0 (.int .i64 cnt)).set 1 (.slice sa' S.length sc')).set 2 (.slice ka' K1.length kc')
     have HBN:=zh (((WE.out.setCell (p:=⟨NB,0,none⟩) Yu (.int .i64 cnt)).setCell (p:=⟨NB,1,none⟩) Yu (.slice sa' S.length sc')).setCell (p:=⟨NB,2,none⟩) Yu (.slice ka' K1.length kc'))
     have n0:=IJ.cell 0;have n1:=IJ.cell 1;have n2:=IJ.cell 2;have n3:=IJ.free 0;have n4:=IJ.free 1;have n5:=IJ.free 2
     simp only[zg] at n0 n1 n2
     have hkp:∀ k,k≠NB->(((w10.setCell ⟨NB,0,none⟩ (.int .i64 cnt)).setCell ⟨NB,1,none⟩ (.slice sa' S.length sc')).setCell ⟨NB,2,none⟩ (.slice ka' K1.length kc')).heap[k]? = w10.heap[k]? :=fun k hk=>by
      rw[zo hk,zo hk,zo hk]
     have hsz:w10.heap.size<=(((w10.setCell ⟨NB,0,none⟩ (.int .i64 cnt)).setCell ⟨NB,1,none⟩ (.slice sa' S.length sc')).setCell ⟨NB,2,none⟩ (.slice ka' K1.length kc')).heap.size:=by simp[World.setCell]
     have N11:=zh kN
     have vo:=zh ((hrs.keep hsz (fun k hk _=>hkp k (fun e=>hk (.inr e)))).mono (G:=fun k=>¬ (w.heap.size<=k/\k<w6.heap.size)/\k≠NB) (fun k hk _=>⟨fun h=>hk (.inl h),fun h=>hk (.inr h)⟩))
     have vw:=zh ((hrk.keep hsz (fun k hk _=>hkp k (fun e=>hk (.inr e)))).mono (G:=fun k=>¬ (w.heap.size<=k/\k<w6.heap.size)/\k≠NB) (fun k hk _=>⟨fun h=>hk (.inl h),fun h=>hk (.inr h)⟩))
     clear kN IJ hNB hrs hrk kP kQ hkp hsz U0 hk10 gI gH
     go_wp2_with fail
     refine Lex.Mid.intro (fun k _ hkl=>by
      have h3:k≠NB:=by have:=ZD8.out;omega
      rw[zo h3,zo h3,zo h3]
      exact kM.out.block _ hkl) ?_
     go_wp2_with fail
     clear n0 n1 n2 n3 n4 n5
     generalize ((w10.setCell ⟨NB,0,none⟩ (.int .i64 cnt)).setCell ⟨NB,1,none⟩ (.slice sa' S.length sc')).setCell ⟨NB,2,none⟩ (.slice ka' K1.length kc')=w11 at*
     refine Lex.zk ⟨⟨.inl rfl,HX1.out⟩,⟨.inr (.inl rfl),HX2.out⟩,⟨.inr (.inr (.inl rfl)),HX3.out⟩,⟨.inr (.inr (.inr rfl)),HX4.out⟩,trivial⟩ ?_
     clear HX1 HX2 HX3 HX4 h1l h2l hsl pO SY WE RO aW kM WC aV kL F9 BD8 ZD8 uZ
     have F11:=zh (F8.out.step HBN.out);have O11:=zh (O8.out.step HBN.out);have vB:=zh (SO8.out.below HBN.out)
     have hz8:w.heap.size+5<=w6.heap.size:=F6.out.size
     have oP:=HBN.out.size
     have vC:=zh (own_below (own_below HVJ.out HB8.out) HBN.out)
     have mV:=zh ((HBN.out.cell (p:=⟨g,j*6+5,none⟩) uY).trans HC5.out)
     have mW:g<w11.heap.size:=Nat.lt_of_lt_of_le uY HBN.out.size
     have vD:=N11.out.lt
     clear F6 F8 O6 O8 SO6 SO8 HB8 HBN HC5 HUS uU HVQ HVO HQP HA6 HM8 S8 uT HSS HKK HMX
     obtain⟨x20,x21,x22,x23⟩:=F11.out.ou rfl
     have B12:=zh (show AQ w11 _ [(82,#[.string nm,.string mm.pub,.bool ag])] from((Fg.nil w11).push 82 #[.string nm,.string mm.pub,.bool ag]).boxes)
     go_upto_region 15 with fail
     generalize (w11.alloc (.cells #[.string nm,.string mm.pub,.bool ag] 82))=w12 at*
     have F12:=zh (F11.out.step B12.out.under);have O12:=zh (O11.out.step B12.out.under);have vE:=zh (vB.out.below B12.out.under);have N12:=zh (N11.out.below B12.out.under vD)
     have vF:=zh (vo.out.below B12.out.under);have vG:=zh (vw.out.below B12.out.under);have pQ:=zh (own_below vC.out B12.out.under)
     have hc5:=(B12.out.under.cell (p:=⟨g,j*6+5,none⟩) mW).trans mV.out
     (try clear x00);(try clear x01);(try clear x10 x11 x12);(try clear x20);(try clear x21);(try clear x22);(try clear x23);(try clear x30 x31 Eu Ev);(try clear x40 x41 x42 Ew Ey Ez)
     have x20:w12.cell? ⟨w.heap.size+1+1,0,none⟩=some (.string nm):=F12.out.cell 2 0 rfl rfl
     have hpk:=pJ.out
     have hbs:=VN (.slice ua V.length uc) V nm w12.drew (Own.Ns (own_below pQ.out (Below.refl _ _).drew) rfl) hpk.srt (by have:V.length<=1024:=hpk.len;omega)
     obtain⟨Pn,hPn⟩:∃ Pn,Pn=Own.posB Own.Vote.name nm V:=⟨_,rfl⟩
     obtain⟨HIT,pR⟩:∃ b,b=Own.Dt Own.Vote.name nm V:=⟨_,rfl⟩
     rw[<- hPn,<- pR] at hbs
     have HBS:=zh hbs;have HPN:=zh hPn;have Ya:=zh pR
     clear hbs hPn pR hpk F11 O11 vB vo vw vC mV N11
     go_wp2_with fail
     refine Lex.zl ?_
     go_wp2_with fail
     refine HBS.out.mono ?_
     rintro e w13 ⟨rfl,Yv⟩
     have JV : Below w12.heap.size w12 w13:=(Below.refl w12.heap.size w12).drew.trans Yv
     have yT:=B12.out.under.size
     have gJ:=(JV.cell (p:=⟨g,j*6+5,none⟩) (Nat.lt_of_lt_of_le mW yT)).trans hc5
     have F13:=zh (F12.out.step JV);have O13:=zh (O12.out.step JV);have Lp:=zh (vE.out.below JV);have N13:=zh (N12.out.below JV N12.out.lt);have B13:=zh (B12.out.step JV)
     have vH:=zh (vF.out.below JV);have vI:=zh (vG.out.below JV);have WG:=zh (own_below pQ.out JV)
     have zar:=JV.size
     (try clear x00);(try clear x01);(try clear x10 x11 x12);(try clear x20);(try clear x21);(try clear x22);(try clear x23);(try clear x30 x31 Eu Ev);(try clear x40 x41 x42 Ew Ey Ez)
     clear Yv JV hc5 HBS F12 O12 vE N12 B12 vF vG pQ
     go_wp2_with fail
     refine Lex.ze ?_
     have hlen:V.length<=1024:=pJ.out.len
     cases HIT with
     | true =>
       have hPl:=Own.pF Ya.out.symm
       rw[<- HPN.out] at hPl
       obtain⟨ub,uc',hue,hvc⟩:=Dm WG.out (by omega)
       cases hue
       have d0:=hvc (Pn*3) _ (Own.Kt V Pn hPl 0 (by omega))
       have d1:=hvc (Pn*3+1) _ (Own.Kt V Pn hPl 1 (by omega))
       have d2:=hvc (Pn*3+2) _ (Own.Kt V Pn hPl 2 (by omega))
       obtain⟨cur,hat⟩:=DX WG.out rfl
       have d3:=hat.free (Pn*3);have d4:=hat.free (Pn*3+1);have d5:=hat.free (Pn*3+2)
       obtain⟨v00,v01,v02⟩:=B13.out.sK rfl
       clear hvc hat
       go_wp2_with fail
       refine Lex.zl ?_
       go_wp2_with fail
       refine Lex.ze ?_
       have hkk:∀ k,k≠ub->((((w13.setCell ⟨ub,Pn*3,none⟩ (.string nm)).setCell ⟨ub,Pn*3+1,none⟩ (.string mm.pub)).setCell ⟨ub,Pn*3+2,none⟩ (.bool ag)).drew).heap[k]? = w13.heap[k]? :=fun k hk=>by
        rw[Ar,zo hk,zo hk,zo hk]
       have hvl:=Own.aR V
       have p3:=OM (OM (OM WG.out (Pn*3) (by omega) (.string nm)) (Pn*3+1) (by rw[List.length_set];omega) (.string mm.pub)) (Pn*3+2) (by rw[List.length_set,List.length_set];omega) (.bool ag)
       have hvs:=Own.SX V Pn hPl ⟨nm,mm.pub,ag⟩
       dsimp only at hvs
       rw[<- hvs] at p3
       have p4:=AA (w':=(((w13.setCell ⟨ub,Pn*3,none⟩ (.string nm)).setCell ⟨ub,Pn*3+1,none⟩ (.string mm.pub)).setCell ⟨ub,Pn*3+2,none⟩ (.bool ag)).drew) p3 (fun _ _=>by rw[Ar])
       have zas:w6.heap.size<=ub\/ub<w6.heap.size:=by omega
       have zat:w4.heap.size+3<=ub:=Bo WG.out ub rfl
       have zau:ub<w13.heap.size:=Own.BO WG.out ub rfl
       have zav:ub<w6.heap.size:=Own.BO HVJ.out ub rfl
       have hso:=Own.Eh.same (nv:=V.set Pn ⟨nm,mm.pub,ag⟩) Lp.out hj hju (V:=V) (by rw[HUE.out,<- HX.out]) (by rw[List.length_set];exact p4) WG.out hkk
       have hnb:NB≠ub:=by omega
       have ho5:ub≠w5.heap.size:=by
        have hh:=Own.BO uX.out ub rfl
        omega
       have SOT:=zh hso
       have F15:=zh (F13.out.keep (((F13.out.under.setCell (p:=⟨ub,Pn*3,none⟩) (by show w.heap.size<=ub;omega) (.string nm)).setCell (p:=⟨ub,Pn*3+1,none⟩) (by show w.heap.size<=ub;omega) (.string mm.pub)).setCell (p:=⟨ub,Pn*3+2,none⟩) (by show w.heap.size<=ub;omega) (.bool ag)).drew (by rw[Ar];simp[World.setCell]) (fun k _ hk=>hkk k (by have hk:k<w.heap.size+5:=hk;omega)))
       have N15:=zh (N13.out.keep (hkk NB hnb))
       have kR:=zh (show At w13 w5.heap.size 24 #[.int .i64 nx,.slice (some ⟨g,0,none⟩) L.length cap] from O13.out.at1 0 rfl);have O15:=zh (kR.out.keep (hkk w5.heap.size (fun e=>ho5 e.symm)))
       have hsz:w13.heap.size<=((((w13.setCell ⟨ub,Pn*3,none⟩ (.string nm)).setCell ⟨ub,Pn*3+1,none⟩ (.string mm.pub)).setCell ⟨ub,Pn*3+2,none⟩ (.bool ag)).drew).heap.size:=by rw[Ar];simp[World.setCell]
       have pU:=zh (vH.out.keep hsz (fun k hk _=>hkk k (fun e=>hk.1 (by omega))))
       have pV:=zh (vI.out.keep hsz (fun k hk _=>hkk k (fun e=>hk.1 (by omega))))
       have hput:Own.Bq V ⟨nm,mm.pub,ag⟩=V.set Pn ⟨nm,mm.pub,ag⟩:=by
        rw[Own.Du,Own.Mk,<- Ya.out,<- HPN.out,if_pos rfl,List.set_eq_take_append_cons_drop,if_pos hPl]
       have HE:=zh (show R=(⟨nx,L.set j (Own.DV L[j] (V.set Pn ⟨nm,mm.pub,ag⟩))⟩,⟨cnt,S,K1⟩,0) by
        rw[HR6.out,hput,if_neg (by rw[List.length_set];omega),HX.out,Own.QL L j hj (uV.out (by first|rfl|trivial))])
       clear d0 d1 d2 d3 d4 d5 hkk p3 p4 hvs hso hsz hput gJ v00 v01 v02
       generalize (((w13.setCell ⟨ub,Pn*3,none⟩ (.string nm)).setCell ⟨ub,Pn*3+1,none⟩ (.string mm.pub)).setCell ⟨ub,Pn*3+2,none⟩ (.bool ag)).drew=w15 at*
       obtain⟨o0,o1⟩:=O15.out.c2;obtain⟨n0,n1,n2⟩:=N15.out.c3
       obtain⟨x30,x31,Eu,Ev⟩:=F15.out.Mi rfl
       obtain⟨x40,x41,x42,Ew,Ey,Ez⟩:=F15.out.VK rfl
       have HXN:=zh (zi n0)
       go_wp2_with fail
       refine Lex.zn (fun k=>k=NB) [1] 3 [3] ?_
       simp only[Lex.Bg,zd]
       go_wp2_with fail
       refine Lex.Mid.intro (fun k hk _=>by
        have h3:k≠w.heap.size+1+1+1:=by rw[hk];omega
        rw[Ar,Ar,zo h3,zo h3]) ?_
       go_wp2_with fail
       refine Lex.zk ⟨⟨rfl,HXN.out⟩,trivial⟩ ?_
       go_wp2_with fail
       have g1:=F15.out.put 3 0 (.int .i64 nx) rfl
       have g2:=g1.put 3 1 (.slice (some ⟨g,0,none⟩) L.length cap) rfl
       have g3:=g2.put 4 0 (.int .i64 cnt) rfl
       have g4:=g3.put 4 1 (.slice sa' S.length sc') rfl
       have g5:=g4.put 4 2 (.slice ka' K1.length kc') rfl
       have G2:=g5.drew
       clear g1 g2 g3 g4 g5
       refine Co rfl rfl rfl rfl (Ad (G2.at1 3 rfl) Tryz.underlying24 rfl Ao) (Ad (G2.at1 4 rfl) Tryz.underlying38 rfl Av) ?_
       rw[HQ.out,HE.out]
       have hst:∀ k,k≠w.heap.size+1+1+1->k≠w.heap.size+1+1+1+1->((((((w15.setCell ⟨w.heap.size+1+1+1,0,none⟩ (.int .i64 nx)).setCell ⟨w.heap.size+1+1+1,1,none⟩ (.slice (some ⟨g,0,none⟩) L.length cap)).setCell ⟨w.heap.size+1+1+1+1,0,none⟩ (.int .i64 cnt)).setCell ⟨w.heap.size+1+1+1+1,1,none⟩ (.slice sa' S.length sc')).setCell ⟨w.heap.size+1+1+1+1,2,none⟩ (.slice ka' K1.length kc')).drew).heap[k]? = w15.heap[k]? :=fun k h3 h4=>by
        rw[Ar,zo h4,zo h4,zo h4,zo h3,zo h3]
       have hsz:w15.heap.size<=((((((w15.setCell ⟨w.heap.size+1+1+1,0,none⟩ (.int .i64 nx)).setCell ⟨w.heap.size+1+1+1,1,none⟩ (.slice (some ⟨g,0,none⟩) L.length cap)).setCell ⟨w.heap.size+1+1+1+1,0,none⟩ (.int .i64 cnt)).setCell ⟨w.heap.size+1+1+1+1,1,none⟩ (.slice sa' S.length sc')).setCell ⟨w.heap.size+1+1+1+1,2,none⟩ (.slice ka' K1.length kc')).drew).heap.size:=by rw[Ar];simp[World.setCell]
       refine⟨⟨_,_,_,rfl,⟨_,rfl,?_⟩,?_,?_⟩,G2.under⟩
       ·exact(SOT.out.keep (fun k hk _=>hst k (by omega) (by omega))).props
       ·exact(pU.out.keep hsz (fun k hk _=>hst k (fun e=>hk.1 (by omega)) (fun e=>hk.1 (by omega)))).mono (fun _ _ _=>trivial)
       ·exact(pV.out.keep hsz (fun k hk _=>hst k (fun e=>hk.1 (by omega)) (fun e=>hk.1 (by omega)))).mono (fun _ _ _=>trivial)
     | false =>
       have hput:Own.Bq V ⟨nm,mm.pub,ag⟩=V.take Pn++⟨nm,mm.pub,ag⟩::V.drop Pn:=by
        rw[Own.Du,Own.Mk,<- Ya.out,<- HPN.out,if_neg Bool.false_ne_true,Nat.add_zero]
       have kr:Pn<=V.length:=by rw[HPN.out];exact Own.Mj _ _
       have hnl:(V.take Pn++(⟨nm,mm.pub,ag⟩:Own.Vote)::V.drop Pn).length=V.length+1:=by
        rw[List.length_append,List.length_take,List.length_cons,List.length_drop];omega
       by_cases mX:V.length=1024
       ·have d1:((V.length:Int)==1024)=true:=beq_iff_eq.2 (by omega)
        have HE:=zh (show R=(Own.Queue.none,Own.Ap.none,7) by rw[HR6.out,hput,if_pos (by rw[hnl];omega)])
        clear hput hnl mX
        obtain⟨x30,x31,Eu,Ev⟩:=F13.out.Mi rfl
        obtain⟨x40,x41,x42,Ew,Ey,Ez⟩:=F13.out.VK rfl
        go_wp2_with fail
        have g1:=F13.out.put 3 0 (.int .i64 0) rfl
        have g2:=g1.put 3 1 (.slice none 0 0) rfl
        have g3:=g2.put 4 0 (.int .i64 0) rfl
        have g4:=g3.put 4 1 (.slice none 0 0) rfl
        have G2:=g4.put 4 2 (.slice none 0 0) rfl
        clear g1 g2 g3 g4
        refine Co rfl rfl rfl rfl (Ad (G2.at1 3 rfl) Tryz.underlying24 rfl Ao) (Ad (G2.at1 4 rfl) Tryz.underlying38 rfl Av) ?_
        rw[HQ.out,HE.out]
        exact⟨⟨_,_,_,rfl,⟨_,rfl,Af.nil _ _⟩,Af.nil _ _,Af.nil _ _⟩,G2.under⟩
       have d1:((V.length:Int)==1024)=false:=beq_eq_false_iff_ne.2 (by omega)
       have HE:=zh (show R=(⟨nx,L.set j (Own.DV L[j] (V.take Pn++⟨nm,mm.pub,ag⟩::V.drop Pn))⟩,⟨cnt,S,K1⟩,0) by
        rw[HR6.out,hput,if_neg (by rw[hnl];omega),HX.out,Own.QL L j hj (uV.out (by first|rfl|trivial))])
       have HNL:=zh hnl
       clear hput hnl mX
       obtain⟨v00,v01,v02⟩:=B13.out.sK rfl
       have hba:Below w13.heap.size w13 (w13.alloc (.cells #[.string nm,.string mm.pub,.bool ag] 82)).drew:=zb.drew
       have hnv:=(At.new w13 82 #[.string nm,.string mm.pub,.bool ag]).drew
       have pW:(w13.alloc (.cells #[.string nm,.string mm.pub,.bool ag] 82)).drew.heap.size=w13.heap.size+1:=by rw[Ar];exact World.size_alloc _ _
       have gK:∀ k,(Value.slice ua V.length uc).ownBlock=some k->w4.heap.size+3<=k/\k<w6.heap.size/\k≠w5.heap.size:=fun k hk=>⟨Bo HVJ.out k hk,Own.BO HVJ.out k hk,by have:=Own.BO uX.out k hk;omega⟩
       have hins:=Uh (w4.heap.size+3) V.length Pn w13.heap.size (.slice ua V.length uc) (V.flatMap Own.DC) [.string nm,.string mm.pub,.bool ag] _ (own_below WG.out hba) (Own.mH V) kr (by omega) rfl hnv (by intro u hu;simp at hu;rcases hu with rfl|rfl|rfl<;>rfl) (fun e=>by have:=(gK _ e).2.1;omega) (by rw[pW];omega)
       have fI:=zh hins;have mY:=zh hba;have kS:=zh pW;have HVL:=zh gK
       clear hins hnv hba pW gK
       go_wp2_with fail
       refine Lex.zl ?_
       go_wp2_with fail
       refine fI.out.mono ?_
       rintro e w14 ⟨v',rfl,ho0,kT,vJ⟩
       have hfl:=Own.aS V Pn ⟨nm,mm.pub,ag⟩
       have kU:w14.ownsRow (w4.heap.size+3) 82 3 v' (V.length+1) ((V.take Pn++(⟨nm,mm.pub,ag⟩:Own.Vote)::V.drop Pn).flatMap Own.DC):=by rw[<- hfl];exact ho0
       obtain⟨va',vm',vc',rfl⟩:=Ae kU
       obtain rfl:=BU kU
       have vK:(Value.slice ua V.length uc).ownBlock≠some g:=fun e=>LK WG.out Lp.out.row (by decide) g e rfl
       have OO:∀ k,k<w13.heap.size->(Value.slice ua V.length uc).ownBlock≠some k->w14.heap[k]? = w13.heap[k]? :=fun k hk hne=>(kT.block k (by rw[kS.out];omega) (fun e=>hne e.symm)).trans (mY.out.block k hk)
       have gL:g<w13.heap.size:=Own.BO Lp.out.row g rfl
       have r14:w14.ownsRow (w4.heap.size+3) 46 6 (.slice (some ⟨g,0,none⟩) L.length cap) L.length (Own.cellsS L us):=AA Lp.out.row (fun k hk=>by cases hk;exact OO g gL vK)
       obtain⟨zaw,Ov⟩:=DX r14 (g:=g) rfl
       have f5:=Ov.free (j*6+5)
       have q5:w14.cell? ⟨g,j*6+5,none⟩=some (.slice ua V.length uc):=(Ke (OO g gL vK)).trans gJ
       have pX:w13.heap.size<=w14.heap.size:=by have:=kT.size;rw[kS.out] at this;omega
       have vL:=zh kU;have vM:=zh r14;have yU:=zh OO;have yV:=zh vJ;have yX:=zh kT
       clear ho0 kT vJ hfl kU r14 Ov OO gJ fI v00 v01 v02
       go_wp2_with fail
       refine Lex.ze ?_
       have zH:g<w14.heap.size:=Nat.lt_of_lt_of_le gL pX
       have hkk:∀ k,k<w13.heap.size->(Value.slice ua V.length uc).ownBlock≠some k->k≠g->(w14.setCell ⟨g,j*6+5,none⟩ (.slice va' (V.length+1) vc')).heap[k]? = w13.heap[k]? :=fun k hk hne hkg=>(zo hkg).trans (yU.out k hk hne)
       have hlc:=Own.kI L us Lp.out.len
       have r15:=OM vM.out (j*6+5) (by rw[hlc];omega) (.slice va' (V.length+1) vc')
       rw[<- Own.kH L us j hj Lp.out.len (V.take Pn++(⟨nm,mm.pub,ag⟩:Own.Vote)::V.drop Pn)] at r15
       have vN:(Value.slice va' (V.length+1) vc').ownBlock≠some g:=fun e=>LK vL.out vM.out (by decide) g e rfl
       have vO:(w14.setCell ⟨g,j*6+5,none⟩ (.slice va' (V.length+1) vc')).ownsRow (w4.heap.size+3) 82 3 (.slice va' (V.length+1) vc') (V.take Pn++(⟨nm,mm.pub,ag⟩:Own.Vote)::V.drop Pn).length ((V.take Pn++(⟨nm,mm.pub,ag⟩:Own.Vote)::V.drop Pn).flatMap Own.DC):=by
        rw[HNL.out]
        exact AA vL.out (fun k hk=>zo (show k≠g from fun e=>vN (e ▸ hk)))
       have pY:us[j]=.slice ua V.length uc:=by rw[HUE.out,<- HX.out]
       have hso:=Own.Eh.turn Lp.out hj (u':=.slice va' (V.length+1) vc') (nv:=V.take Pn++(⟨nm,mm.pub,ag⟩:Own.Vote)::V.drop Pn) r15 vO (fun i hi hi' hij=>AA (Lp.out.Aq i hi hi') (fun k hk=>hkk k (Own.BO (Lp.out.Aq i hi hi') k hk) (by have:=Lp.out.ne hi' hju hij k hk;rwa [pY] at this) (fun e=>LK (Lp.out.Aq i hi hi') Lp.out.row (by decide) k hk (by rw[e];rfl)))) (fun i hi' hij k hk=>by
        have hi:i<L.length:=by rw[<- Lp.out.len];exact hi'
        rcases yV.out with h|h
        ·rw[h]
         have:=Lp.out.ne hi' hju hij k hk
         rwa [pY] at this
        ·rw[h]
         intro e
         have h1:=Own.BO (Lp.out.Aq i hi hi') k hk
         have h2:=Option.some.inj e
         have h3:=kS.out
         omega)
       have hgr:w4.heap.size+3<=g:=hgu
       have hvl:=HVL.out
       have hsz:w13.heap.size<=(w14.setCell ⟨g,j*6+5,none⟩ (.slice va' (V.length+1) vc')).heap.size:=by
        have:(w14.setCell ⟨g,j*6+5,none⟩ (.slice va' (V.length+1) vc')).heap.size=w14.heap.size:=by simp[World.setCell]
        omega
       have hbw:Below w.heap.size w (w14.setCell ⟨g,j*6+5,none⟩ (.slice va' (V.length+1) vc')):=by
        have h1:Below w.heap.size w w14:=(F13.out.under.trans (mY.out.mono F13.out.under.size)).grown yX.out (by have:=kS.out;have:=F13.out.under.size;omega) (fun k hk=>by have:=(hvl k hk).1;omega)
        exact h1.setCell (p:=⟨g,j*6+5,none⟩) (by show w.heap.size<=g;omega) _
       have SOT:=zh hso
       have hg5:g≠w5.heap.size:=by
        have:=Own.BO HG5.out g rfl
        omega
       have F15:=zh (F13.out.keep hbw hsz (fun k h1 h2=>hkk k (by have:=F13.out.size;have h2:k<w.heap.size+5:=h2;have h3:w.heap.size+5<=w13.heap.size:=this;omega) (fun e=>by have:=(hvl k e).1;have h2:k<w.heap.size+5:=h2;omega) (fun e=>by have h2:k<w.heap.size+5:=h2;omega)))
       have yY:(Value.slice ua V.length uc).ownBlock≠some NB:=fun e=>by have:=(hvl _ e).2.1;omega
       have N15:=zh (N13.out.keep (hkk NB N13.out.lt yY (by omega)))
       have kR:=zh (show At w13 w5.heap.size 24 #[.int .i64 nx,.slice (some ⟨g,0,none⟩) L.length cap] from O13.out.at1 0 rfl);have O15:=zh (kR.out.keep (hkk w5.heap.size kR.out.lt (fun e=>(hvl _ e).2.2 rfl) (fun e=>hg5 e.symm)))
       have pU:=zh (vH.out.keep hsz (fun k hk hl=>hkk k hl (fun e=>hk.1 (by have:=hvl k e;omega)) (fun e=>hk.1 (by omega))))
       have pV:=zh (vI.out.keep hsz (fun k hk hl=>hkk k hl (fun e=>hk.1 (by have:=hvl k e;omega)) (fun e=>hk.1 (by omega))))
       clear f5 q5 hkk r15 vO pY hso hsz hbw hvl vN hlc
       generalize w14.setCell ⟨g,j*6+5,none⟩ (.slice va' (V.length+1) vc')=w15 at*
       obtain⟨o0,o1⟩:=O15.out.c2;obtain⟨n0,n1,n2⟩:=N15.out.c3
       obtain⟨x30,x31,Eu,Ev⟩:=F15.out.Mi rfl
       obtain⟨x40,x41,x42,Ew,Ey,Ez⟩:=F15.out.VK rfl
       have HXN:=zh (zi n0)
       go_wp2_with fail
       refine Lex.zn (fun k=>k=NB) [1] 3 [3] ?_
       simp only[Lex.Bg,zd]
       go_wp2_with fail
       refine Lex.Mid.intro (fun k hk _=>by
        have h3:k≠w.heap.size+1+1+1:=by rw[hk];omega
        rw[Ar,Ar,zo h3,zo h3]) ?_
       go_wp2_with fail
       refine Lex.zk ⟨⟨rfl,HXN.out⟩,trivial⟩ ?_
       go_wp2_with fail
       have g1:=F15.out.put 3 0 (.int .i64 nx) rfl
       have g2:=g1.put 3 1 (.slice (some ⟨g,0,none⟩) L.length cap) rfl
       have g3:=g2.put 4 0 (.int .i64 cnt) rfl
       have g4:=g3.put 4 1 (.slice sa' S.length sc') rfl
       have g5:=g4.put 4 2 (.slice ka' K1.length kc') rfl
       have G2:=g5.drew
       clear g1 g2 g3 g4 g5
       refine Co rfl rfl rfl rfl (Ad (G2.at1 3 rfl) Tryz.underlying24 rfl Ao) (Ad (G2.at1 4 rfl) Tryz.underlying38 rfl Av) ?_
       rw[HQ.out,HE.out]
       have hst:∀ k,k≠w.heap.size+1+1+1->k≠w.heap.size+1+1+1+1->((((((w15.setCell ⟨w.heap.size+1+1+1,0,none⟩ (.int .i64 nx)).setCell ⟨w.heap.size+1+1+1,1,none⟩ (.slice (some ⟨g,0,none⟩) L.length cap)).setCell ⟨w.heap.size+1+1+1+1,0,none⟩ (.int .i64 cnt)).setCell ⟨w.heap.size+1+1+1+1,1,none⟩ (.slice sa' S.length sc')).setCell ⟨w.heap.size+1+1+1+1,2,none⟩ (.slice ka' K1.length kc')).drew).heap[k]? = w15.heap[k]? :=fun k h3 h4=>by
        rw[Ar,zo h4,zo h4,zo h4,zo h3,zo h3]
       have hsz:w15.heap.size<=((((((w15.setCell ⟨w.heap.size+1+1+1,0,none⟩ (.int .i64 nx)).setCell ⟨w.heap.size+1+1+1,1,none⟩ (.slice (some ⟨g,0,none⟩) L.length cap)).setCell ⟨w.heap.size+1+1+1+1,0,none⟩ (.int .i64 cnt)).setCell ⟨w.heap.size+1+1+1+1,1,none⟩ (.slice sa' S.length sc')).setCell ⟨w.heap.size+1+1+1+1,2,none⟩ (.slice ka' K1.length kc')).drew).heap.size:=by rw[Ar];simp[World.setCell]
       refine⟨⟨_,_,_,rfl,⟨_,rfl,?_⟩,?_,?_⟩,G2.under⟩
       ·exact(SOT.out.keep (fun k hk _=>hst k (by omega) (by omega))).props
       ·exact(pU.out.keep hsz (fun k hk _=>hst k (fun e=>hk.1 (by omega)) (fun e=>hk.1 (by omega)))).mono (fun _ _ _=>trivial)
       ·exact(pV.out.keep hsz (fun k hk _=>hst k (fun e=>hk.1 (by omega)) (fun e=>hk.1 (by omega)))).mono (fun _ _ _=>trivial)
structure LS (w:World) (gO gQ:Nat) (o:Own.Ap) (q:Own.Queue) (sa:Option Addr) (sc:Nat) (ka:Option Addr) (kc:Nat) (qa:Option Addr) (qc:Nat):Prop where
 atO:At w gO 38 #[.int .i64 o.count,.slice sa o.spaces.length sc,.slice ka o.keys.length kc]
 atQ:At w gQ 24 #[.int .i64 q.next,.slice qa q.props.length qc]
 sp:Own.Bw w (.slice sa o.spaces.length sc) o.spaces
 ks:Own.Ca w (.slice ka o.keys.length kc) o.keys
 ps:Own.AX w (.slice qa q.props.length qc) q.props
section
variable {w w' : World} {gO gQ:Nat} {o o' : Own.Ap} {q q' : Own.Queue} {sa ka qa sa' ka' qa' : Option Addr} {sc kc qc sc' kc' qc' : Nat}
theorem LS.below (h:LS w gO gQ o q sa sc ka kc qa qc)(hb:Below w.heap.size w w'):LS w' gO gQ o q sa sc ka kc qa qc:=
 ⟨h.atO.below hb h.atO.lt,h.atQ.below hb h.atQ.lt,h.sp.below hb,h.ks.below hb,h.ps.below hb⟩
theorem LS.ne (h:LS w gO gQ o q sa sc ka kc qa qc):gO≠gQ:=h.atO.ne h.atQ (by decide)
def lsW (w:World)(gO gQ:Nat)(o:Own.Ap)(q:Own.Queue)(sa:Option Addr)(sc:Nat)(ka:Option Addr)(kc:Nat)(qa:Option Addr)(qc:Nat):World:=
 ((((w.setCell ⟨gQ,0,none⟩ (.int .i64 q.next)).setCell ⟨gQ,1,none⟩ (.slice qa q.props.length qc)).setCell ⟨gO,0,none⟩ (.int .i64 o.count)).setCell ⟨gO,1,none⟩ (.slice sa o.spaces.length sc)).setCell ⟨gO,2,none⟩ (.slice ka o.keys.length kc)
theorem LS.put (h:LS w gO gQ o q sa sc ka kc qa qc)(hs:Own.Bw w (.slice sa' o'.spaces.length sc') o'.spaces)(hk:Own.Ca w (.slice ka' o'.keys.length kc') o'.keys)(hp:Own.AX w (.slice qa' q'.props.length qc') q'.props):
 LS (lsW w gO gQ o' q' sa' sc' ka' kc' qa' qc') gO gQ o' q' sa' sc' ka' kc' qa' qc':=by
 have hne:=h.ne
 have hq0:=h.atQ
 have hq1:=(hq0.set 0 (.int .i64 q'.next)).set 1 (.slice qa' q'.props.length qc')
 have ho1:=(h.atO.far (p:=⟨gQ,0,none⟩) (by simp;omega) (.int .i64 q'.next)).far (p:=⟨gQ,1,none⟩) (by simp;omega) (.slice qa' q'.props.length qc')
 have n0:Own.Fu w gQ:=Own.Fu.at_ hq0 rfl
 have n1:Own.Fu ((w.setCell ⟨gQ,0,none⟩ (.int .i64 q'.next)).setCell ⟨gQ,1,none⟩ (.slice qa' q'.props.length qc')) gO:=Own.Fu.at_ ho1 rfl
 have hz1:w.heap.size<=((w.setCell ⟨gQ,0,none⟩ (.int .i64 q'.next)).setCell ⟨gQ,1,none⟩ (.slice qa' q'.props.length qc')).heap.size:=by simp[World.setCell]
 have k1:∀ k,k≠gQ->((w.setCell ⟨gQ,0,none⟩ (.int .i64 q'.next)).setCell ⟨gQ,1,none⟩ (.slice qa' q'.props.length qc')).heap[k]? = w.heap[k]? :=fun k hk=>by rw[zo hk,zo hk]
 have s1:=Own.Bw.store hs n0 hz1 k1
 have s2:=Own.Ca.store hk n0 hz1 k1
 have s3:=Own.AX.store hp n0 hz1 k1
 unfold lsW
 generalize (w.setCell ⟨gQ,0,none⟩ (.int .i64 q'.next)).setCell ⟨gQ,1,none⟩ (.slice qa' q'.props.length qc')=w1 at*
 have hz2:w1.heap.size<=(((w1.setCell ⟨gO,0,none⟩ (.int .i64 o'.count)).setCell ⟨gO,1,none⟩ (.slice sa' o'.spaces.length sc')).setCell ⟨gO,2,none⟩ (.slice ka' o'.keys.length kc')).heap.size:=by simp[World.setCell]
 have k2:∀ k,k≠gO->(((w1.setCell ⟨gO,0,none⟩ (.int .i64 o'.count)).setCell ⟨gO,1,none⟩ (.slice sa' o'.spaces.length sc')).setCell ⟨gO,2,none⟩ (.slice ka' o'.keys.length kc')).heap[k]? = w1.heap[k]? :=fun k hk=>by rw[zo hk,zo hk,zo hk]
 exact⟨((ho1.set 0 _).set 1 _).set 2 _,((hq1.far (p:=⟨gO,0,none⟩) (by simp;omega) _).far (p:=⟨gO,1,none⟩) (by simp;omega) _).far (p:=⟨gO,2,none⟩) (by simp;omega) _,Own.Bw.store s1 n1 hz2 k2,Own.Ca.store s2 n1 hz2 k2,Own.AX.store s3 n1 hz2 k2⟩
theorem Ta (w:World)(gO gQ:Nat)(o:Own.Ap)(q:Own.Queue)(sa:Option Addr)(sc:Nat)(ka:Option Addr)(kc:Nat)(qa:Option Addr)(qc:Nat)(k:Nat)(h1:k≠gO)(h2:k≠gQ):(lsW w gO gQ o q sa sc ka kc qa qc).heap[k]? = w.heap[k]? :=by
 unfold lsW
 rw[zo h1,zo h1,zo h1,zo h2,zo h2]
theorem Nt (w:World)(gO gQ:Nat)(o:Own.Ap)(q:Own.Queue)(sa:Option Addr)(sc:Nat)(ka:Option Addr)(kc:Nat)(qa:Option Addr)(qc:Nat){B:Nat}(h1:B<=gO)(h2:B<=gQ):Below B w (lsW w gO gQ o q sa sc ka kc qa qc):=
 (((((Below.refl B w).setCell (p:=⟨gQ,0,none⟩) h2 _).setCell (p:=⟨gQ,1,none⟩) h2 _).setCell (p:=⟨gO,0,none⟩) h1 _).setCell (p:=⟨gO,1,none⟩) h1 _).setCell (p:=⟨gO,2,none⟩) h1 _
structure Fits (o:Own.Ap) (q:Own.Queue):Prop where
 lp:q.props.length<=1000000
 lv:∀ x∈q.props,x.Aq.length<=3000000
 ls:o.spaces.length<=3000000
 lk:o.keys.length<=800000
 lm:∀ x∈o.spaces,x.members.length<=3000000
theorem LS.EZ (h:LS w gO gQ o q sa sc ka kc qa qc)(hM:Fx w)(hf:Fits o q)(id:Int)(ag:Bool)(ap:Own.Ce){n1 n2:Nat}{B:Nat}{cv pv:Value}(hc:w.ownsRow B 9 1 cv n1 (ap.sig.chains.map Value.string))(hp:w.ownsRow B 9 1 pv n2 (ap.sig.path.map Value.string))(e1:n1=ap.sig.chains.length)(e2:n2=ap.sig.path.length)
 (hal:ap.name.size<=140737488355328/\ap.sig.chains.length<=140737488355328/\ap.sig.path.length<=140737488355328) {R:Own.Queue × Own.Ap × Int} (hR:Own.EZ q o id ag ap=R):
 Calls Tryz.prog 25 #[.agg #[.int .i64 q.next,.slice qa q.props.length qc],.agg #[.int .i64 o.count,.slice sa o.spaces.length sc,.slice ka o.keys.length kc],.int .i64 id,.bool ag,.agg #[.string ap.name,.int .i64 ap.sig.index,cv,pv]] w fun e w' => ∃ sa' sc' ka' kc' qa' qc',
  e=.returned (.tuple #[.agg #[.int .i64 R.1.next,.slice qa' R.1.props.length qc'],.agg #[.int .i64 R.2.1.count,.slice sa' R.2.1.spaces.length sc',.slice ka' R.2.1.keys.length kc'],.int .i64 R.2.2])/\Own.Bw w' (.slice sa' R.2.1.spaces.length sc') R.2.1.spaces/\Own.Ca w' (.slice ka' R.2.1.keys.length kc') R.2.1.keys/\Own.AX w' (.slice qa' R.1.props.length qc') R.1.props/\Below w.heap.size w w':=by
 subst e1 e2
 refine(Yt q o id ag ap _ _ _ cv pv w hM h.ps h.sp h.ks (AO.own hc) (AO.own hp) (EY.own hp) hf.lp hf.lv hf.ls hf.lk hf.lm hal).mono ?_
 rintro e w' ⟨⟨qv,sv,kv,rfl,⟨pv',rfl,h1⟩,h2,h3⟩,hb⟩
 rw[hR] at h1 h2 h3 ⊢
 obtain⟨a1,c1,rfl⟩:=h1.len
 obtain⟨a2,c2,rfl⟩:=h2.len
 obtain⟨a3,c3,rfl⟩:=h3.len
 exact⟨a2,c2,a3,c3,a1,c1,rfl,h2,h3,h1,hb⟩
end
theorem LS.two {w:World}{o:Own.Ap}{q:Own.Queue}{sa ka qa:Option Addr}{sc kc qc:Nat}(hs:Own.Bw w (.slice sa o.spaces.length sc) o.spaces)(hk:Own.Ca w (.slice ka o.keys.length kc) o.keys)(hp:Own.AX w (.slice qa q.props.length qc) q.props):
 LS ((w.alloc (.cells #[.int .i64 q.next,.slice qa q.props.length qc] 24)).alloc (.cells #[.int .i64 o.count,.slice sa o.spaces.length sc,.slice ka o.keys.length kc] 38)) (w.heap.size+1) w.heap.size o q sa sc ka kc qa qc/\Below w.heap.size w ((w.alloc (.cells #[.int .i64 q.next,.slice qa q.props.length qc] 24)).alloc (.cells #[.int .i64 o.count,.slice sa o.spaces.length sc,.slice ka o.keys.length kc] 38)):=by
 have hb:Below w.heap.size w ((w.alloc (.cells #[.int .i64 q.next,.slice qa q.props.length qc] 24)).alloc (.cells #[.int .i64 o.count,.slice sa o.spaces.length sc,.slice ka o.keys.length kc] 38)):=zb.alloc (by simp) _
 exact⟨⟨At.new1 w (.cells #[.int .i64 q.next,.slice qa q.props.length qc] 24) 38 #[.int .i64 o.count,.slice sa o.spaces.length sc,.slice ka o.keys.length kc],(At.new w 24 #[.int .i64 q.next,.slice qa q.props.length qc]).alloc (.cells #[.int .i64 o.count,.slice sa o.spaces.length sc,.slice ka o.keys.length kc] 38),hs.below hb,hk.below hb,hp.below hb⟩,hb⟩
end
section
open Go
namespace Own
theorem QM (p:ByteArray):Bc [] p=0:=rfl
def vt (b:Nat)(ag:Bool):Vote:=⟨(Ag b).name,(Ag b).pub,ag⟩
theorem yZ (b:Nat)(x:Bool):Bq [] (vt b x)=[vt b x]:=rfl
theorem vP {a b:Nat}(h:a<b)(hb:b<8)(x y:Bool):Bq [vt a x] (vt b y)=[vt a x,vt b y]:=by
 unfold Bq Bq
 rw[if_pos (show Ak (vt a x).name (vt b y).name=true from IE h hb)]
theorem vQ {a b c:Nat}(h:a<c)(h' : b<c)(hc:c<8)(x y z:Bool):Bq [vt a x,vt b y] (vt c z)=[vt a x,vt b y,vt c z]:=by
 unfold Bq Bq Bq
 rw[if_pos (show Ak (vt a x).name (vt c z).name=true from IE h hc),if_pos (show Ak (vt b y).name (vt c z).name=true from IE h' hc)]
theorem IK {n:Nat}{th nx:Int}{K:List KeyUse}{L:List Ab}(hn:n<=8)(hK:K.length<=1000)(hL:L.length<=10)(hV:∀ p∈L,p.Aq.length<=1000):Fits (DL (Bn n th) K) ⟨nx,L⟩:=
 ⟨by show L.length ≤ _;omega,fun x hx => by have :=hV x hx;omega,by show 1 ≤ 3000000;omega,by show K.length ≤ _;omega,fun x hx => by
   have:x=Bn n th:=by simpa [DL] using hx
   rw[this]
   show(Et n).length<=_
   rw[IC];omega⟩
theorem MC (K:List KeyUse)(x:KeyUse):(use K x).length<=K.length+1:=by rw[I5];exact JO _ _ _
structure AwP (q0 q1 q2 q3:Queue) (o0 o1 o2 o3:Ap) (p m:Ab):Prop where
 o0e:o0=⟨0,[Bn 3 2],[]⟩
 sub:Eo ⟨5,[]⟩ 10 3 ⟨#[97,47,98]⟩ (Az.Ah 1)=(q0,5,0)
 q0p:q0.props=[p]
 id0:0<=p.id
 id1:p.id<9223372036854775808
 pl:p.path.size<=1000000
 dl:p.digest.size<=1000000
 ok0:A9 q0=true
 v1:EZ q0 o0 5 true (Bl 0 0 p true)=(q1,o1,0)
 a1:agreed q1 o1 5=false
 v2:EZ q1 o1 5 true (Bl 1 0 p true)=(q2,o2,0)
 a2:agreed q2 o2 5=true
 v3:EZ q2 o2 5 false (Bl 2 0 p false)=(q3,o3,0)
 a3:agreed q3 o3 5=false
 m13:merge q2 o2 13 5=(.none,.none,8)
 m12:merge q2 o2 12 5=(⟨6,[]⟩,m,0)
 mid:m.id=5
 wd:Fa q2 5=(⟨6,[]⟩,0)
 ex:expire q2 13=⟨6,[]⟩
 f0:Fits o0 q0
 f1:Fits o1 q1
 f2:Fits o2 q2
 f3:Fits o3 q3
theorem awP:∃ q0 q1 q2 q3 o0 o1 o2 o3 p m,AwP q0 q1 q2 q3 o0 o1 o2 o3 p m:=by
 have hp:FC (BG 5 ⟨#[97,47,98]⟩ (Az.Ah 1) 10 3):=Nn (by decide) (by decide) (by decide) (by decide) (Dw 1) (by decide) (by decide)
 have hsub:=IG (nx:=5) (size:=10) (window:=3) (path:=⟨#[97,47,98]⟩) (dg:=Az.Ah 1) (by decide) (by decide) (by decide) (Dw 1) (by decide) (by decide)
 have Lm:(BG 5 ⟨#[97,47,98]⟩ (Az.Ah 1) 10 3).id=5:=rfl
 have hpx:(BG 5 ⟨#[97,47,98]⟩ (Az.Ah 1) 10 3).expires=13:=rfl
 have hpv:Al (BG 5 ⟨#[97,47,98]⟩ (Az.Ah 1) 10 3) []=BG 5 ⟨#[97,47,98]⟩ (Az.Ah 1) 10 3:=rfl
 have hpd:(BG 5 ⟨#[97,47,98]⟩ (Az.Ah 1) 10 3).digest.size=32:=EL 1
 have hpp:(BG 5 ⟨#[97,47,98]⟩ (Az.Ah 1) 10 3).path.size=3:=rfl
 generalize BG 5 ⟨#[97,47,98]⟩ (Az.Ah 1) 10 3=p at*
 have hV0:=Kz.nil
 have hV1:=hV0.put (by simp) (vt 0 true) (Mt 0)
 have hM1:=(Ob.nil 3).put (b:=0) (by omega) true
 rw[show(⟨(Ag 0).name,(Ag 0).pub,true⟩:Vote)=vt 0 true from rfl] at hM1
 rw[yZ] at hV1 hM1
 have hV2:=hV1.put (by simp) (vt 1 true) (Mt 1)
 have hM2:=hM1.put (b:=1) (by omega) true
 rw[show(⟨(Ag 1).name,(Ag 1).pub,true⟩:Vote)=vt 1 true from rfl] at hM2
 rw[vP (by omega) (by omega)] at hV2 hM2
 have hV3:=hV2.put (by simp) (vt 2 false) (Mt 2)
 have hM3:=hM2.put (b:=2) (by omega) false
 rw[show(⟨(Ag 2).name,(Ag 2).pub,false⟩:Vote)=vt 2 false from rfl] at hM3
 rw[vQ (by omega) (by omega) (by omega)] at hV3 hM3
 have hK0:=Ky.nil
 have hK1:=hK0.use 0 1 (by decide) (by decide)
 have hK2:=hK1.use 1 1 (by decide) (by decide)
 have hK3:=hK2.use 2 1 (by decide) (by decide)
 have n1:Bc (use [] ⟨(Ag 0).pub,1⟩) (Ag 1).pub=0:=by
  rw[Gv hK0.srt,if_neg (Li (a:=0) (b:=1) (by omega) (by omega) (by omega)),QM]
 have n2:Bc (use (use [] ⟨(Ag 0).pub,1⟩) ⟨(Ag 1).pub,1⟩) (Ag 2).pub=0:=by
  rw[Gv hK1.srt,if_neg (Li (a:=1) (b:=2) (by omega) (by omega) (by omega)),Gv hK0.srt,if_neg (Li (a:=0) (b:=2) (by omega) (by omega) (by omega)),QM]
 have l1:=MC [] ⟨(Ag 0).pub,1⟩
 have l2:=MC (use [] ⟨(Ag 0).pub,1⟩) ⟨(Ag 1).pub,1⟩
 have l3:=MC (use (use [] ⟨(Ag 0).pub,1⟩) ⟨(Ag 1).pub,1⟩) ⟨(Ag 2).pub,1⟩
 simp only[List.length_nil] at l1
 refine⟨⟨6,[Al p []]⟩,⟨6,[Al p [vt 0 true]]⟩,⟨6,[Al p [vt 0 true,vt 1 true]]⟩,⟨6,[Al p [vt 0 true,vt 1 true,vt 2 false]]⟩,DL (Bn 3 2) [],DL (Bn 3 2) (use [] ⟨(Ag 0).pub,1⟩),DL (Bn 3 2) (use (use [] ⟨(Ag 0).pub,1⟩) ⟨(Ag 1).pub,1⟩),DL (Bn 3 2) (use (use (use [] ⟨(Ag 0).pub,1⟩) ⟨(Ag 1).pub,1⟩) ⟨(Ag 2).pub,1⟩),p,Al p [vt 0 true,vt 1 true],?_⟩
 refine { o0e:=rfl,sub:=by rw[hsub,hpv];rfl,q0p:=by show[Al p []]=[p];rw[hpv],id0:=by omega,id1:=by omega,pl:=by omega,dl:=by omega,ok0:=DI (by decide) (by decide) (EP hp hV0) (by show p.id<6;omega),v1:=?_,a1:=?_,v2:=?_,a2:=?_,v3:=?_,a3:=?_,m13:=?_,m12:=?_,mid:=Lm,wd:=?_,ex:=?_,f0:=?_,f1:=?_,f2:=?_,f3:=?_ }
 ·have:=Uu (n:=3) (b:=0) (i:=0) (th:=2) (nx:=6) (ag:=true) (by omega) (by decide) (by decide) hK0 hp hV0 (by simp) (by omega) (by decide) (by omega) (by omega) (Int.le_refl _)
  rw[Lm] at this
  exact this
 ·have:=Mv (n:=3) (th:=2) (nx:=6) (by omega) (by decide) (by decide) hK1 hp hV1 hM1 (by omega) (by decide)
  rw[Lm] at this
  exact this
 ·have:=Uu (n:=3) (b:=1) (i:=0) (th:=2) (nx:=6) (ag:=true) (by omega) (by decide) (by decide) hK1 hp hV1 (by simp) (by omega) (by decide) (by omega) (by omega) (by rw[n1];exact Int.le_refl _)
  rw[Lm,show(⟨(Ag 1).name,(Ag 1).pub,true⟩:Vote)=vt 1 true from rfl,vP (by omega) (by omega)] at this
  exact this
 ·have:=Mv (n:=3) (th:=2) (nx:=6) (by omega) (by decide) (by decide) hK2 hp hV2 hM2 (by omega) (by decide)
  rw[Lm] at this
  exact this
 ·have:=Uu (n:=3) (b:=2) (i:=0) (th:=2) (nx:=6) (ag:=false) (by omega) (by decide) (by decide) hK2 hp hV2 (by simp) (by omega) (by decide) (by omega) (by omega) (by rw[n2];exact Int.le_refl _)
  rw[Lm,show(⟨(Ag 2).name,(Ag 2).pub,false⟩:Vote)=vt 2 false from rfl,vQ (by omega) (by omega) (by omega)] at this
  exact this
 ·have:=Mv (n:=3) (th:=2) (nx:=6) (by omega) (by decide) (by decide) hK3 hp hV3 hM3 (by omega) (by decide)
  rw[Lm] at this
  exact this
 ·have:=SQ (n:=3) (th:=2) (nx:=6) (size:=13) (by omega) (by decide) (by decide) hK2 hp hV2 hM2 (by omega) (by decide)
  rw[Lm,hpx] at this
  exact this
 ·have:=SQ (n:=3) (th:=2) (nx:=6) (size:=12) (by omega) (by decide) (by decide) hK2 hp hV2 hM2 (by omega) (by decide)
  rw[Lm,hpx] at this
  exact this
 ·have:=QE (nx:=6) hp hV2 (by omega) (by decide)
  rw[Lm] at this
  exact this
 ·exact fU (nx:=6) hp hV2 (by omega) (by decide) (by omega)
 ·exact IK (by omega) (by simp) (by simp) (fun x hx=>by rw[List.mem_singleton.1 hx];simp[Al])
 ·exact IK (by omega) (by omega) (by simp) (fun x hx=>by rw[List.mem_singleton.1 hx];simp[Al])
 ·exact IK (by omega) (by omega) (by simp) (fun x hx=>by rw[List.mem_singleton.1 hx];simp[Al])
 ·exact IK (by omega) (by omega) (by simp) (fun x hx=>by rw[List.mem_singleton.1 hx];simp[Al])
end Own
end
end Go.Proofs.YtnijhlphcjjpbaaGreatDoor
