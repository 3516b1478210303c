/- The program's owners: binary search in keys and votes. -/
import Derived.Test.YtjlmglgmcekmhaaGreatDoorShkB9
set_option linter.unusedVariables false
set_option linter.unusedSimpArgs false
set_option maxRecDepth 100000
set_option maxHeartbeats 8000000
namespace Go.Proofs.YtjlmglgmcekmhaaGreatDoor
section
open Go Go.RowKit Go.Maps
theorem Ud (k:Own.KeyUse)(t:ByteArray)(w:World):Calls Tryz.prog 184 #[.agg #[.string k.pub,.int .i64 k.next],.string t] w fun e w' => e=.returned (.int .i64 (KX k.pub t))/\Below w.heap.size w w':=by
 have HB:=zh ((Below.refl w.heap.size w).alloc (Nat.le_refl _) (.cells #[.string k.pub,.int .i64 k.next] 59))
 go_enter Tryz.func184,Tryz.ntmps184
 go_wp2_with fail
 refine(Uc k.pub t _).mono ?_
 rintro e w2 ⟨rfl,rfl⟩
 go_wp2_with fail
 go_ret
 exact⟨rfl,HB.out⟩
theorem iw (v:Value)(l:List Own.KeyUse)(t:ByteArray)(w:World)(h:Own.DJ w v l)(hs:Own.Srt Own.KeyUse.pub l)(hl:l.length<=1000000):
 Calls Tryz.prog 183 #[v,.string t,.func (.func 184) #[] #[]] w fun e w' => e=.returned (.tuple #[.int .i64 (Own.posB Own.KeyUse.pub t l:Nat),.bool (Own.Dx Own.KeyUse.pub t l)])/\Below w.heap.size w w':=by
 obtain⟨a,c,rfl⟩:=h.len
 have HL:=zh h;have HS:=zh hs;clear h hs
 go_enter Tryz.func183,Tryz.ntmps183
 go_wp2_with fail
 go_loopw [9,10] (fun i j wr=>∃ p q:Nat,p<=q/\∃ hq:q<=l.length,i=.int .i64 p/\j=.int .i64 q/\(∀ k (h:k<l.length),k<p->Own.Ak l[k].pub t=true)/\(∀ k (h:k<l.length),q<=k->Own.Ak l[k].pub t=false)/\Below w.heap.size w wr) (fun i j _=>(intOf j).toNat-(intOf i).toNat)
 case atStart=>exact⟨0,l.length,by omega,Nat.le_refl _,rfl,rfl,fun _ _ h=>by omega,fun _ _ h=>by omega,Below.refl _ _⟩
 case round=>
  obtain⟨p,q,hpq,hq,rfl,rfl,h1,h2,hb⟩:=hrel
  have HB:=zh hb;have H1:=zh h1;have H2:=zh h2
  by_cases hlt:p<q
  ·have dk:decide ((p:Int)<(q:Int))=true:=zt
   obtain⟨m,hm⟩:∃ m,m=(p+q)/2:=⟨_,rfl⟩
   have em:((p:Int)+(q:Int))/2=(m:Int):=by omega
   have m1:p<=m:=by omega
   have m2:m<q:=by omega
   have hml:m<l.length:=by omega
   obtain⟨b,o,ha,hbl,e0,e1⟩:=Own.DJ.cells (HL.out.below hb) hml
   subst ha
   have hlow:Own.Ak l[m].pub t=true->∀ k (h:k<l.length),k<m+1->Own.Ak l[k].pub t=true:=fun hx k hk hkm=>by
    by_cases e:k=m
    ·subst e;exact hx
    ·exact Own.D9 ((List.pairwise_iff_getElem.1 HS.out) k m hk hml (by omega)) hx
   have hhigh:Own.Ak l[m].pub t=false->∀ k (h:k<l.length),m<=k->Own.Ak l[k].pub t=false:=fun hx k hk hkm=>by
    by_cases e:k=m
    ·subst e;exact hx
    ·cases hc:Own.Ak l[k].pub t with
     | false=>rfl
     | true =>
       have:=Own.D9 ((List.pairwise_iff_getElem.1 HS.out) m k hml hk (by omega)) hc
       rw[hx] at this
       cases this
   obtain⟨ku,hku⟩:∃ x,x=l[m]:=⟨_,rfl⟩
   rw[<- hku] at hlow hhigh e0 e1
   have hcall:=Ud ku t wr
   have zaq:=zh hlow;have sI:=zh hhigh
   clear hb h1 h2 hm hlow hhigh hku
   cases hc:Own.Ak ku.pub t with
   | true =>
     have ec:KX ku.pub t = -1:=by unfold KX;rw[hc];rfl
     rw[ec] at hcall
     clear ec
     go_wp2_with fail
     refine hcall.mono ?_
     rintro e w' ⟨rfl,hb'⟩
     go_wp2_with fail
     exact⟨⟨m+1,q,by omega,by omega,by go_num,rfl,zaq.out hc,H2.out,HB.out.trans (hb'.mono HB.out.size)⟩,by simp[intOf];omega⟩
   | false =>
     obtain⟨r,hr⟩:∃ r,r=KX ku.pub t:=⟨_,rfl⟩
     have er:0<=r:=by rw[hr];unfold KX;rw[hc];simp;split<;>decide
     rw[<- hr] at hcall
     have dr:decide (r<0)=false:=zf
     clear hr
     go_wp2_with fail
     refine hcall.mono ?_
     rintro e w' ⟨rfl,hb'⟩
     go_wp2_with fail
     exact⟨⟨p,m,by omega,by omega,rfl,rfl,H1.out,sI.out hc,HB.out.trans (hb'.mono HB.out.size)⟩,by simp[intOf];omega⟩
  ·obtain rfl:p=q:=by omega
   have dk:decide ((p:Int)<(p:Int))=false:=zf
   have hpos:=Own.QJ (f:=Own.KeyUse.pub) t hq (fun k h=>h1 k h) (fun k h=>h2 k h)
   have sM:=zh hpos
   by_cases hpl:p<l.length
   ·have dp:decide ((p:Int)<(l.length:Int))=true:=zt
    obtain⟨b,o,ha,hbl,e0,e1⟩:=Own.DJ.cells (HL.out.below hb) hpl
    subst ha
    have hge:=h2 p hpl (Nat.le_refl _)
    have hhit:Own.Dx Own.KeyUse.pub t l=decide (l[p].pub=t):=by unfold Own.Dx;rw[<- hpos,List.getElem?_eq_getElem hpl]
    obtain⟨ku,hku⟩:∃ x,x=l[p]:=⟨_,rfl⟩
    rw[<- hku] at hhit hge e0 e1
    have hcall:=Ud ku t wr
    obtain⟨r,hr⟩:∃ r,r=KX ku.pub t:=⟨_,rfl⟩
    have er:(r==0)=Own.Dx Own.KeyUse.pub t l:=by
     rw[hhit,hr];unfold KX;rw[hge]
     by_cases h:ku.pub=t
     ·simp[h]
     ·simp[h]
    rw[<- hr] at hcall
    have ER:=zh er
    clear hb h1 h2 hhit hge hku hr hpos er
    go_wp2_with fail
    refine hcall.mono ?_
    rintro e w' ⟨rfl,hb'⟩
    go_wp2_with fail
    go_ret2
    exact⟨by rw[<- ER.out,<- sM.out];rfl,HB.out.trans (hb'.mono HB.out.size)⟩
   ·have dp:decide ((p:Int)<(l.length:Int))=false:=zf
    have hhit:Own.Dx Own.KeyUse.pub t l=false:=by unfold Own.Dx;rw[<- hpos,List.getElem?_eq_none (by omega)]
    have zar:=zh hhit
    clear hb h1 h2 hhit hpos
    go_wp2_with fail
    go_ret2
    exact⟨by rw[zar.out,<- sM.out];rfl,HB.out⟩
theorem sN {fn:Nat}{tS e:TypeId}{size:Nat}(w:World)
 (hf:∀ args,(callFunc fn args).run Tryz.prog w=((Extern.SlicesOverlaps.overlaps #[tS,tS] #[4] args).run Tryz.prog w).andThen fun v w' => .ok (.value v) w')
 (ht:Tryz.prog.underlying tS=some (.slice e)) (hz:∀ w,(Go.sizeOf e).run Tryz.prog w=.ok size w) (vb b o la ca lb cb:Nat) (hne:vb≠b) (cv cb' : Array Value) (hv:At w vb e cv) (hb:At w b e cb') (h0:cb'.size≠0):
 (callFunc fn #[.slice (some ⟨vb,0,none⟩) la ca,.slice (some ⟨b,o,none⟩) lb cb]).run Tryz.prog w=.ok (.value (.bool false)) w:=by
 rw[hf,Lib.run_overlaps_apart w tS 4 e ht size hz ⟨vb,0,none⟩ ⟨b,o,none⟩ la ca lb cb hne e e cv.size cb'.size ?_ ?_ h0 (hv.free 0) (hv.free _)]
 ·rfl
 ·unfold At at hv;simp[World.shape?,hv]
 ·unfold At at hb;simp[World.shape?,hb]
theorem WK {P:Program}{e:TypeId}{k:Nat}(h:(P.info? e).map (·.size)=some k)(w:World):(Go.sizeOf e).run P w=.ok k w:=by
 cases hq:P.info? e with
 | none=>rw[hq] at h;cases h
 | some i =>
   have hi:i.size=k:=by simpa [hq] using h
   simp[Go.sizeOf,typeInfo,hq,hi]
theorem DW {w:World}{base g n cap size:Nat}{e:TypeId}{cur xs:List Value}(hg:At w g e cur.toArray)(hb:base<=g)(hn:n<=cap)(hc:cap<=maxLen)(hs:cur.length=cap*size)(ht:cur.take (n*size)=xs):w.ownsRow base e size (.slice (some ⟨g,0,none⟩) n cap) n xs:=by
 refine⟨?_,.inr ⟨g,cap,cur.toArray,rfl,hb,hg,hn,hc,by simpa using hs,by simpa using ht⟩⟩
 rw[<- ht,List.length_take,hs]
 exact Nat.min_eq_left (Nat.mul_le_mul_right _ hn)
theorem GK {w:World}{base g n cap size:Nat}{e:TypeId}{xs:List Value}(h:w.ownsRow base e size (.slice (some ⟨g,0,none⟩) n cap) n xs):∃ ys:List Value,At w g e (xs++ys).toArray/\base<=g/\n<=cap/\cap<=maxLen/\(xs++ys).length=cap*size/\xs.length=n*size:=by
 obtain⟨hl,⟨h0,_⟩|⟨g',cap',cur,hv,hb,hg,h1,h2,h3,h4⟩⟩:=h
 ·cases h0
 ·cases hv
  have e1:xs++cur.toList.drop (n*size)=cur.toList:=by rw[<- h4,List.take_append_drop]
  refine⟨cur.toList.drop (n*size),by rw[e1];exact hg,hb,h1,h2,by rw[e1];simpa using h3,hl⟩
theorem Ec:(Tryz.prog.info? 39).map (·.size)=some 3:=by kernel_rfl
theorem Vo (base n i vb:Nat)(v:Value)(xs nw:List Value)(w:World)(ho:w.ownsRow base 39 3 v n xs)(h1:∀ u∈xs,u.oneCell' = true)(hi:i<=n)(hn:n<=3000000)(hnw:nw.length=3)(hnv:At w vb 39 nw.toArray)(h2:∀ u∈nw,u.oneCell' = true)(hvb:v.ownBlock≠some vb)(hbs:base<=w.heap.size):
 Calls Tryz.prog 162 #[v,.int .i64 i,.slice (some ⟨vb,0,none⟩) 1 1] w fun e w' => ∃ v',e=.returned v' /\ w'.ownsRow base 39 3 v' (n+1) (xs.take (i*3)++(nw++xs.drop (i*3)))/\w.grownBy w' v.ownBlock/\(v'.ownBlock=v.ownBlock\/v'.ownBlock=some w.heap.size):=by
 have hrows:Bh w (.slice (some ⟨vb,0,none⟩) 1 1) 3 1 nw:=by
  refine⟨by rw[hnw],_,_,rfl,.inr ⟨vb,0,rfl,hnv.lt,fun j u hj=>?_⟩⟩
  rw[Nat.zero_add,hnv.cell]
  simpa using hj
 have HO:=zh ho;have H1:=zh h1;have H2:=zh h2;have HNV:=zh hnv;have HR:=zh hrows;have HVB:=zh hvb
 clear h1 h2 hnv hrows hvb
 go_enter Tryz.func162,Tryz.ntmps162
 obtain⟨a,m,c,rfl⟩:=Ad ho
 obtain rfl:=Bf ho
 by_cases hie:i=m
 ·subst hie
  have hsl:i<=c:=by
   rcases ho.2 with ⟨h0,_⟩|⟨g,cap,cur,h0,_,_,h3,_⟩
   ·cases h0;exact Nat.le_refl _
   ·cases h0;exact h3
  have hcz:(a=none/\c=0/\i=0)\/∃ g,a=some ⟨g,0,none⟩:=by
   rcases ho.2 with ⟨h0,h5⟩|⟨g,cap,cur,h0,_⟩
   ·cases h0;exact .inl ⟨rfl,rfl,h5⟩
   ·cases h0;exact .inr ⟨g,rfl⟩
  have hxl:xs.take (i*3)=xs/\xs.drop (i*3)=[]:=by
   have:=ho.1
   exact⟨List.take_of_length_le (by omega),List.drop_eq_nil_of_le (by omega)⟩
  have HXL:=zh hxl
  clear ho hxl
  rcases hcz with ⟨rfl,rfl,rfl⟩|⟨g,rfl⟩
  ·go_wp2_with (at_builtin;go_must (refine Ai Ej rfl _ _ rfl base 0 _ xs rfl HO.out (.slice (some ⟨vb,0,none⟩) 1 1) 1 nw rfl HR.out H2.out (by omega) (by omega) hbs ?_);intro v5 w5 ho5 hg5 hx5;obtain⟨va,vm,vc,rfl⟩:=Ad ho5;have HO5:=zh ho5;have HG5:=zh hg5;have HX5:=zh hx5;clear ho5 hg5 hx5)
   go_ret
   exact⟨_,rfl,by rw[HXL.out.1,HXL.out.2,List.append_nil];exact HO5.out,HG5.out,HX5.out⟩
  ·by_cases hci:c=i
   ·subst hci
    go_wp2_with (at_builtin;go_must (refine Ai Ej rfl _ _ rfl base c _ xs rfl HO.out (.slice (some ⟨vb,0,none⟩) 1 1) 1 nw rfl HR.out H2.out (by omega) (by omega) hbs ?_);intro v5 w5 ho5 hg5 hx5;obtain⟨va,vm,vc,rfl⟩:=Ad ho5;have HO5:=zh ho5;have HG5:=zh hg5;have HX5:=zh hx5;clear ho5 hg5 hx5)
    go_ret
    exact⟨_,rfl,by rw[HXL.out.1,HXL.out.2,List.append_nil];exact HO5.out,HG5.out,HX5.out⟩
   ·go_wp2_with (at_builtin;go_must (refine Ai Ej rfl _ _ rfl base i _ xs rfl HO.out (.slice (some ⟨vb,0,none⟩) 1 1) 1 nw rfl HR.out H2.out (by omega) (by omega) hbs ?_);intro v5 w5 ho5 hg5 hx5;obtain⟨va,vm,vc,rfl⟩:=Ad ho5;have HO5:=zh ho5;have HG5:=zh hg5;have HX5:=zh hx5;clear ho5 hg5 hx5)
    go_ret
    exact⟨_,rfl,by rw[HXL.out.1,HXL.out.2,List.append_nil];exact HO5.out,HG5.out,HX5.out⟩
 ·have him:i<m:=by omega
  obtain⟨g,rfl⟩:∃ g,a=some ⟨g,0,none⟩:=by
   rcases ho.2 with ⟨h0,h5⟩|⟨g,cap,cur,h0,_⟩
   ·omega
   ·cases h0;exact⟨g,rfl⟩
  obtain⟨ys,hat,hbg,hmc,hcm,hcl,hxl⟩:=GK ho
  have hne:vb≠g:=fun e=>HVB.out (by rw[e];rfl)
  have HAT:=zh hat
  have de:((i:Int)==(m:Int))=false:=by rw[beq_eq_false_iff_ne];omega
  have ci:¬ c=i:=by omega
  clear ho hat
  by_cases hroom:m+1<=c
  ·have dr:decide ((c:Int)<(m:Int)+1)=false:=zf
   have hov:∀ o lb cb,(callFunc 196 #[.slice (some ⟨vb,0,none⟩) 1 1,.slice (some ⟨g,o,none⟩) lb cb]).run Tryz.prog w=.ok (.value (.bool false)) w:=fun o lb cb=>
    sN w (run_callFunc_extern Tryz.func196 (by kernel_rfl) (by kernel_rfl) (by kernel_rfl) (e:=Extern.SlicesOverlaps.overlaps #[22,22] #[4]) (by kernel_rfl) · w) Tryz.underlying22 (WK Ec) vb g o 1 1 lb cb hne _ _ HNV.out HAT.out (by rw[List.size_toArray];omega)
   go_wp2_with (simp only[hov])
   refine Lex.zl ?_
   clear hov
   have mn1:Nat.min (m+1-i) (m-i)=m-i:=by simp only[Nat.min_def];split<;>omega
   have hcs:(xs.drop (i*3)).length=(m-i)*3:=by rw[List.length_drop,hxl,Nat.sub_mul]
   have OE:At w.drew g 39 (xs++ys).toArray:=HAT.out
   have hsrc:∀ (j:Nat) (u:Value),(xs.drop (i*3))[j]? = some u->w.drew.cell? ⟨g,i*3+j,none⟩=some u:=fun j u hj=>by
    show w.cell? ⟨g,i*3+j,none⟩=some u
    rw[HAT.out.cell]
    rw[List.getElem?_drop] at hj
    simp[List.getElem?_append_left (List.getElem?_eq_some_iff.1 hj).1,hj]
   have Vp:=zh OE;have HCS:=zh hcs;have MN1:=zh mn1;have Ue:=zh hsrc
   clear OE hcs mn1 hsrc
   go_wp2_with (refine Ew rfl _ _ rfl Tryz.underlying22 Ec g ((i+1)*3) (m-i) (c-(i+1)) g (i*3) (m+1-i) (c-i) (by rfl) (by rfl) (xs++ys) 39 Vp.out (xs.drop (i*3)) (by rw[HCS.out,MN1.out]) Ue.out (by rw[HCS.out,hcl];omega) (fun u hu=>H1.out u (List.mem_of_mem_drop hu)) ?_;intro w5 EI hg5 hz5;have Ie:=zh EI;have HG5:=zh hg5;clear EI hg5)
   refine Lex.ze ?_
   have Uf:At w5 vb 39 nw.toArray:=(HG5.out.block vb HNV.out.lt (fun e=>hne (Option.some.inj e))).trans HNV.out
   have iy:=zh Uf
   have mn2:Nat.min 1 (m+1-i)=1:=by simp only[Nat.min_def];split<;>omega
   have sO:((xs++ys).take ((i+1)*3)++(xs.drop (i*3)++(xs++ys).drop ((i+1)*3+(xs.drop (i*3)).length))).length=c*3:=by
    simp only[List.length_append,List.length_take,List.length_drop] at hcl ⊢
    omega
   have Yo:=zh sO;have MN2:=zh mn2
   clear Uf mn2 sO
   obtain⟨C5,hC5⟩:∃ C5,C5=(xs++ys).take ((i+1)*3)++(xs.drop (i*3)++(xs++ys).drop ((i+1)*3+(xs.drop (i*3)).length)):=⟨_,rfl⟩
   rw[<- hC5] at Ie Yo
   have KY:∀ (j:Nat) (u:Value),nw[j]? = some u->w5.cell? ⟨vb,0+j,none⟩=some u:=fun j u hj=>by
    rw[Nat.zero_add,iy.out.cell]
    simpa using hj
   have HC5:=zh hC5;have Ug:=zh KY
   clear hC5 KY
   go_wp2_with (refine Ew rfl _ _ rfl Tryz.underlying22 Ec g (i*3) (m+1-i) (c-i) vb 0 1 1 (by rfl) (by rfl) C5 39 Ie.out nw (by rw[hnw,MN2.out]) Ug.out (by rw[hnw,Yo.out];omega) H2.out ?_;intro w6 Dv hg6 hz6;have EU:=zh Dv;have HG6:=zh hg6;clear Dv hg6)
   go_wp2_with fail
   go_ret
   refine⟨_,rfl,DW EU.out hbg (by omega) hcm ?_ ?_,?_,.inl rfl⟩
   ·have:=Yo.out
    simp only[List.length_append,List.length_take,List.length_drop,hnw] at this ⊢
    omega
   ·have hl:=Yo.out
    have e1:C5.take (i*3)=xs.take (i*3):=by
     rw[HC5.out,List.take_append_of_le_length (by rw[List.length_take,hcl];omega),List.take_take,Nat.min_eq_left (by omega),List.take_append_of_le_length (by omega)]
    have e2:(C5.drop (i*3+nw.length)).take ((m-i)*3)=xs.drop (i*3):=by
     have e3:i*3+nw.length=((xs++ys).take ((i+1)*3)).length:=by rw[List.length_take,hcl,hnw];omega
     rw[HC5.out,e3,List.drop_left,List.take_append_of_le_length (by rw[HCS.out];omega),List.take_of_length_le (by rw[HCS.out];omega)]
    have e4:(m+1)*3=(C5.take (i*3)).length+(nw.length+(m-i)*3):=by rw[List.length_take,hl,hnw];omega
    rw[e4,List.take_length_add_append,List.take_length_add_append,e1,e2]
   ·exact⟨HG6.out.os.trans HG5.out.os,HG6.out.tape.trans HG5.out.tape,HG6.out.output.trans HG5.out.output,Nat.le_trans HG5.out.size HG6.out.size,fun k hk hk2=>(HG6.out.block k (Nat.lt_of_lt_of_le hk HG5.out.size) hk2).trans (HG5.out.block k hk hk2)⟩
  ·have dr:decide ((c:Int)<(m:Int)+1)=true:=zt
   have hxi:(xs.take (i*3)).length=i*3:=by rw[List.length_take,hxl];exact Nat.min_eq_left (Nat.mul_le_mul_right _ hi)
   have HXI:=zh hxi;clear hxi
   have hxs:∀ (j:Nat) (u:Value),(xs.take (i*3))[j]? = some u->w.cell? ⟨g,j,none⟩=some u:=fun j u hj=>by
    rw[HAT.out.cell]
    rw[List.getElem?_take] at hj
    split at hj
    ·simp[List.getElem?_append_left (List.getElem?_eq_some_iff.1 hj).1,hj]
    ·cases hj
   have HXS:=zh hxs;clear hxs
   go_upto_region 10 with (at_builtin;go_must (refine KW Ej Tryz.underlying3 rfl _ _ rfl g i (m+1-i) c .i64 (xs.take (i*3)) rfl _ (show _=((m+1-i:Nat):Int) by omega) rfl HXI.out HXS.out (by omega) (by omega) (by omega) (by omega) ?_);intro nc w5 zs sP zas EI hl5 hb5;rw[show i+(m+1-i)=m+1 by omega] at sP ⊢;have HL5:=zh hl5;have Ie:=zh EI;have HB5:=zh hb5;have cnc:¬ nc=i:=(by omega);have zdL:¬ nc=i+1:=(by omega);(obtain⟨G,hG⟩:∃ G,G=w.heap.size:=⟨_,rfl⟩);rw[<- hG] at Ie ⊢;have HGG:=zh hG;clear hl5 EI hb5 hG)
   have hgl:g<w.heap.size:=HAT.out.lt
   have hgG:g≠G:=by have:=HGG.out;omega
   have hvl:vb<w.heap.size:=HNV.out.lt
   have Uf:At w5 vb 39 nw.toArray:=HNV.out.below HB5.out hvl
   have sQ:At w5 g 39 (xs++ys).toArray:=HAT.out.below HB5.out hgl
   have iy:=zh Uf;have zat:=zh sQ
   have mn2:Nat.min 1 (m+1-i)=1:=by simp only[Nat.min_def];split<;>omega
   have MN2:=zh mn2
   clear Uf sQ mn2
   obtain⟨C5,hC5⟩:∃ C5,C5=xs.take (i*3)++zs:=⟨_,rfl⟩
   have hl5:=HL5.out
   rw[<- hC5] at Ie hl5
   have HC5:=zh hC5;clear hC5 HL5
   have HL5:=zh hl5;clear hl5
   have KY:∀ (j:Nat) (u:Value),nw[j]? = some u->w5.cell? ⟨vb,0+j,none⟩=some u:=fun j u hj=>by
    rw[Nat.zero_add,iy.out.cell]
    simpa using hj
   have Ug:=zh KY
   clear KY
   go_wp2_with (refine Ew rfl _ _ rfl Tryz.underlying22 Ec G (i*3) (m+1-i) (nc-i) vb 0 1 1 (by rfl) (by rfl) C5 39 Ie.out nw (by rw[hnw,MN2.out]) Ug.out (by rw[hnw,HL5.out];omega) H2.out ?_;intro w6 Dv hg6 hz6;have EU:=zh Dv;have HG6:=zh hg6;clear Dv hg6)
   have sS:At w6 g 39 (xs++ys).toArray:=(HG6.out.block g (Nat.lt_of_lt_of_le hgl HB5.out.size) (fun e=>hgG (Option.some.inj e))).trans zat.out
   have zau:=zh sS
   have hl6:(C5.take (i*3)++(nw++C5.drop (i*3+nw.length))).length=nc*3:=by
    simp only[List.length_append,List.length_take,List.length_drop,hnw,HL5.out]
    omega
   obtain⟨C6,hC6⟩:∃ C6,C6=C5.take (i*3)++(nw++C5.drop (i*3+nw.length)):=⟨_,rfl⟩
   rw[<- hC6] at EU hl6
   have HC6:=zh hC6;have HL6:=zh hl6
   clear sS hC6 hl6
   go_wp2_with fail
   refine Lex.zl ?_
   have mn1:Nat.min (m-i) (m-i)=m-i:=Nat.min_self _
   have hcs:(xs.drop (i*3)).length=(m-i)*3:=by rw[List.length_drop,hxl,Nat.sub_mul]
   have OE:At w6.drew G 39 C6.toArray:=EU.out
   have hsrc:∀ (j:Nat) (u:Value),(xs.drop (i*3))[j]? = some u->w6.drew.cell? ⟨g,i*3+j,none⟩=some u:=fun j u hj=>by
    show w6.cell? ⟨g,i*3+j,none⟩=some u
    rw[zau.out.cell]
    rw[List.getElem?_drop] at hj
    simp[List.getElem?_append_left (List.getElem?_eq_some_iff.1 hj).1,hj]
   have Vp:=zh OE;have HCS:=zh hcs;have MN1:=zh mn1;have Ue:=zh hsrc
   clear OE hcs mn1 hsrc
   go_wp2_with (refine Ew rfl _ _ rfl Tryz.underlying22 Ec G ((i+1)*3) (m-i) (nc-(i+1)) g (i*3) (m-i) (c-i) (by rfl) (by rfl) C6 39 Vp.out (xs.drop (i*3)) (by rw[HCS.out,MN1.out]) Ue.out (by rw[HCS.out,HL6.out];omega) (fun u hu=>H1.out u (List.mem_of_mem_drop hu)) ?_;intro w7 JN hg7 hz7;have PD:=zh JN;have HG7:=zh hg7;clear JN hg7)
   refine Lex.ze ?_
   go_wp2_with fail
   go_ret
   refine⟨_,rfl,DW PD.out (by have:=HGG.out;omega) sP zas ?_ ?_,?_,.inr (by rw[HGG.out];rfl)⟩
   ·simp only[List.length_append,List.length_take,List.length_drop,HCS.out,HL6.out]
    omega
   ·have e1 : C6.take ((i + 1) * 3) = xs.take (i * 3) ++ nw :=by
     have e2:C5.take (i*3)=xs.take (i*3):=by rw[HC5.out,List.take_append_of_le_length (by rw[HXI.out];omega),List.take_of_length_le (by rw[HXI.out];omega)]
     have e3:(i+1)*3=(xs.take (i*3)).length+(nw.length+0):=by rw[HXI.out,hnw];omega
     rw[HC6.out,e2,e3,List.take_length_add_append,List.take_length_add_append,List.take_zero,List.append_nil]
    have e4:(m+1)*3=(xs.take (i*3)).length+(nw.length+((xs.drop (i*3)).length+0)):=by rw[HXI.out,hnw,HCS.out];omega
    rw[e1,List.append_assoc,e4,List.take_length_add_append,List.take_length_add_append,List.take_length_add_append,List.take_zero,List.append_nil]
   ·refine⟨?_,?_,?_,?_,fun k hk hk2=>?_⟩
    ·exact(HG7.out.os.trans HG6.out.os).trans HB5.out.os
    ·exact(HG7.out.tape.trans HG6.out.tape).trans HB5.out.tape
    ·exact(HG7.out.output.trans HG6.out.output).trans HB5.out.output
    ·exact Nat.le_trans HB5.out.size (Nat.le_trans HG6.out.size HG7.out.size)
    ·have hkG:some k≠some G:=fun e=>by have:=Option.some.inj e;have:=HGG.out;omega
     have k5:=HB5.out.block k hk
     have s5:=HB5.out.size
     exact((HG7.out.block k (by show k<w6.heap.size;have:=HG6.out.size;omega) hkG).trans (HG6.out.block k (by omega) hkG)).trans k5
theorem Gc:(Tryz.prog.info? 59).map (·.size)=some 2:=by kernel_rfl
theorem aU (base n i vb:Nat)(v:Value)(xs nw:List Value)(w:World)(ho:w.ownsRow base 59 2 v n xs)(h1:∀ u∈xs,u.oneCell' = true)(hi:i<=n)(hn:n<=3000000)(hnw:nw.length=2)(hnv:At w vb 59 nw.toArray)(h2:∀ u∈nw,u.oneCell' = true)(hvb:v.ownBlock≠some vb)(hbs:base<=w.heap.size):
 Calls Tryz.prog 150 #[v,.int .i64 i,.slice (some ⟨vb,0,none⟩) 1 1] w fun e w' => ∃ v',e=.returned v' /\ w'.ownsRow base 59 2 v' (n+1) (xs.take (i*2)++(nw++xs.drop (i*2)))/\w.grownBy w' v.ownBlock/\(v'.ownBlock=v.ownBlock\/v'.ownBlock=some w.heap.size):=by
 have hrows:Bh w (.slice (some ⟨vb,0,none⟩) 1 1) 2 1 nw:=by
  refine⟨by rw[hnw],_,_,rfl,.inr ⟨vb,0,rfl,hnv.lt,fun j u hj=>?_⟩⟩
  rw[Nat.zero_add,hnv.cell]
  simpa using hj
 have HO:=zh ho;have H1:=zh h1;have H2:=zh h2;have HNV:=zh hnv;have HR:=zh hrows;have HVB:=zh hvb
 clear h1 h2 hnv hrows hvb
 go_enter Tryz.func150,Tryz.ntmps150
 obtain⟨a,m,c,rfl⟩:=Ad ho
 obtain rfl:=Bf ho
 by_cases hie:i=m
 ·subst hie
  have hsl:i<=c:=by
   rcases ho.2 with ⟨h0,_⟩|⟨g,cap,cur,h0,_,_,h3,_⟩
   ·cases h0;exact Nat.le_refl _
   ·cases h0;exact h3
  have hcz:(a=none/\c=0/\i=0)\/∃ g,a=some ⟨g,0,none⟩:=by
   rcases ho.2 with ⟨h0,h5⟩|⟨g,cap,cur,h0,_⟩
   ·cases h0;exact .inl ⟨rfl,rfl,h5⟩
   ·cases h0;exact .inr ⟨g,rfl⟩
  have hxl:xs.take (i*2)=xs/\xs.drop (i*2)=[]:=by
   have:=ho.1
   exact⟨List.take_of_length_le (by omega),List.drop_eq_nil_of_le (by omega)⟩
  have HXL:=zh hxl
  clear ho hxl
  rcases hcz with ⟨rfl,rfl,rfl⟩|⟨g,rfl⟩
  ·go_wp2_with (at_builtin;go_must (refine Ai KR rfl _ _ rfl base 0 _ xs rfl HO.out (.slice (some ⟨vb,0,none⟩) 1 1) 1 nw rfl HR.out H2.out (by omega) (by omega) hbs ?_);intro v5 w5 ho5 hg5 hx5;obtain⟨va,vm,vc,rfl⟩:=Ad ho5;have HO5:=zh ho5;have HG5:=zh hg5;have HX5:=zh hx5;clear ho5 hg5 hx5)
   go_ret
   exact⟨_,rfl,by rw[HXL.out.1,HXL.out.2,List.append_nil];exact HO5.out,HG5.out,HX5.out⟩
  ·by_cases hci:c=i
   ·subst hci
    go_wp2_with (at_builtin;go_must (refine Ai KR rfl _ _ rfl base c _ xs rfl HO.out (.slice (some ⟨vb,0,none⟩) 1 1) 1 nw rfl HR.out H2.out (by omega) (by omega) hbs ?_);intro v5 w5 ho5 hg5 hx5;obtain⟨va,vm,vc,rfl⟩:=Ad ho5;have HO5:=zh ho5;have HG5:=zh hg5;have HX5:=zh hx5;clear ho5 hg5 hx5)
    go_ret
    exact⟨_,rfl,by rw[HXL.out.1,HXL.out.2,List.append_nil];exact HO5.out,HG5.out,HX5.out⟩
   ·go_wp2_with (at_builtin;go_must (refine Ai KR rfl _ _ rfl base i _ xs rfl HO.out (.slice (some ⟨vb,0,none⟩) 1 1) 1 nw rfl HR.out H2.out (by omega) (by omega) hbs ?_);intro v5 w5 ho5 hg5 hx5;obtain⟨va,vm,vc,rfl⟩:=Ad ho5;have HO5:=zh ho5;have HG5:=zh hg5;have HX5:=zh hx5;clear ho5 hg5 hx5)
    go_ret
    exact⟨_,rfl,by rw[HXL.out.1,HXL.out.2,List.append_nil];exact HO5.out,HG5.out,HX5.out⟩
 ·have him:i<m:=by omega
  obtain⟨g,rfl⟩:∃ g,a=some ⟨g,0,none⟩:=by
   rcases ho.2 with ⟨h0,h5⟩|⟨g,cap,cur,h0,_⟩
   ·omega
   ·cases h0;exact⟨g,rfl⟩
  obtain⟨ys,hat,hbg,hmc,hcm,hcl,hxl⟩:=GK ho
  have hne:vb≠g:=fun e=>HVB.out (by rw[e];rfl)
  have HAT:=zh hat
  have de:((i:Int)==(m:Int))=false:=by rw[beq_eq_false_iff_ne];omega
  have ci:¬ c=i:=by omega
  clear ho hat
  by_cases hroom:m+1<=c
  ·have dr:decide ((c:Int)<(m:Int)+1)=false:=zf
   have hov:∀ o lb cb,(callFunc 185 #[.slice (some ⟨vb,0,none⟩) 1 1,.slice (some ⟨g,o,none⟩) lb cb]).run Tryz.prog w=.ok (.value (.bool false)) w:=fun o lb cb=>
    sN w (run_callFunc_extern Tryz.func185 (by kernel_rfl) (by kernel_rfl) (by kernel_rfl) (e:=Extern.SlicesOverlaps.overlaps #[23,23] #[4]) (by kernel_rfl) · w) Tryz.underlying23 (WK Gc) vb g o 1 1 lb cb hne _ _ HNV.out HAT.out (by rw[List.size_toArray];omega)
   go_wp2_with (simp only[hov])
   refine Lex.zl ?_
   clear hov
   have mn1:Nat.min (m+1-i) (m-i)=m-i:=by simp only[Nat.min_def];split<;>omega
   have hcs:(xs.drop (i*2)).length=(m-i)*2:=by rw[List.length_drop,hxl,Nat.sub_mul]
   have OE:At w.drew g 59 (xs++ys).toArray:=HAT.out
   have hsrc:∀ (j:Nat) (u:Value),(xs.drop (i*2))[j]? = some u->w.drew.cell? ⟨g,i*2+j,none⟩=some u:=fun j u hj=>by
    show w.cell? ⟨g,i*2+j,none⟩=some u
    rw[HAT.out.cell]
    rw[List.getElem?_drop] at hj
    simp[List.getElem?_append_left (List.getElem?_eq_some_iff.1 hj).1,hj]
   have Vp:=zh OE;have HCS:=zh hcs;have MN1:=zh mn1;have Ue:=zh hsrc
   clear OE hcs mn1 hsrc
   go_wp2_with (refine Ew rfl _ _ rfl Tryz.underlying23 Gc g ((i+1)*2) (m-i) (c-(i+1)) g (i*2) (m+1-i) (c-i) (by rfl) (by rfl) (xs++ys) 59 Vp.out (xs.drop (i*2)) (by rw[HCS.out,MN1.out]) Ue.out (by rw[HCS.out,hcl];omega) (fun u hu=>H1.out u (List.mem_of_mem_drop hu)) ?_;intro w5 EI hg5 hz5;have Ie:=zh EI;have HG5:=zh hg5;clear EI hg5)
   refine Lex.ze ?_
   have Uf:At w5 vb 59 nw.toArray:=(HG5.out.block vb HNV.out.lt (fun e=>hne (Option.some.inj e))).trans HNV.out
   have iy:=zh Uf
   have mn2:Nat.min 1 (m+1-i)=1:=by simp only[Nat.min_def];split<;>omega
   have sO:((xs++ys).take ((i+1)*2)++(xs.drop (i*2)++(xs++ys).drop ((i+1)*2+(xs.drop (i*2)).length))).length=c*2:=by
    simp only[List.length_append,List.length_take,List.length_drop] at hcl ⊢
    omega
   have Yo:=zh sO;have MN2:=zh mn2
   clear Uf mn2 sO
   obtain⟨C5,hC5⟩:∃ C5,C5=(xs++ys).take ((i+1)*2)++(xs.drop (i*2)++(xs++ys).drop ((i+1)*2+(xs.drop (i*2)).length)):=⟨_,rfl⟩
   rw[<- hC5] at Ie Yo
   have KY:∀ (j:Nat) (u:Value),nw[j]? = some u->w5.cell? ⟨vb,0+j,none⟩=some u:=fun j u hj=>by
    rw[Nat.zero_add,iy.out.cell]
    simpa using hj
   have HC5:=zh hC5;have Ug:=zh KY
   clear hC5 KY
   go_wp2_with (refine Ew rfl _ _ rfl Tryz.underlying23 Gc g (i*2) (m+1-i) (c-i) vb 0 1 1 (by rfl) (by rfl) C5 59 Ie.out nw (by rw[hnw,MN2.out]) Ug.out (by rw[hnw,Yo.out];omega) H2.out ?_;intro w6 Dv hg6 hz6;have EU:=zh Dv;have HG6:=zh hg6;clear Dv hg6)
   go_wp2_with fail
   go_ret
   refine⟨_,rfl,DW EU.out hbg (by omega) hcm ?_ ?_,?_,.inl rfl⟩
   ·have:=Yo.out
    simp only[List.length_append,List.length_take,List.length_drop,hnw] at this ⊢
    omega
   ·have hl:=Yo.out
    have e1:C5.take (i*2)=xs.take (i*2):=by
     rw[HC5.out,List.take_append_of_le_length (by rw[List.length_take,hcl];omega),List.take_take,Nat.min_eq_left (by omega),List.take_append_of_le_length (by omega)]
    have e2:(C5.drop (i*2+nw.length)).take ((m-i)*2)=xs.drop (i*2):=by
     have e3:i*2+nw.length=((xs++ys).take ((i+1)*2)).length:=by rw[List.length_take,hcl,hnw];omega
     rw[HC5.out,e3,List.drop_left,List.take_append_of_le_length (by rw[HCS.out];omega),List.take_of_length_le (by rw[HCS.out];omega)]
    have e4:(m+1)*2=(C5.take (i*2)).length+(nw.length+(m-i)*2):=by rw[List.length_take,hl,hnw];omega
    rw[e4,List.take_length_add_append,List.take_length_add_append,e1,e2]
   ·exact⟨HG6.out.os.trans HG5.out.os,HG6.out.tape.trans HG5.out.tape,HG6.out.output.trans HG5.out.output,Nat.le_trans HG5.out.size HG6.out.size,fun k hk hk2=>(HG6.out.block k (Nat.lt_of_lt_of_le hk HG5.out.size) hk2).trans (HG5.out.block k hk hk2)⟩
  ·have dr:decide ((c:Int)<(m:Int)+1)=true:=zt
   have hxi:(xs.take (i*2)).length=i*2:=by rw[List.length_take,hxl];exact Nat.min_eq_left (Nat.mul_le_mul_right _ hi)
   have HXI:=zh hxi;clear hxi
   have hxs:∀ (j:Nat) (u:Value),(xs.take (i*2))[j]? = some u->w.cell? ⟨g,j,none⟩=some u:=fun j u hj=>by
    rw[HAT.out.cell]
    rw[List.getElem?_take] at hj
    split at hj
    ·simp[List.getElem?_append_left (List.getElem?_eq_some_iff.1 hj).1,hj]
    ·cases hj
   have HXS:=zh hxs;clear hxs
   go_upto_region 10 with (at_builtin;go_must (refine KW KR Tryz.underlying3 rfl _ _ rfl g i (m+1-i) c .i64 (xs.take (i*2)) rfl _ (show _=((m+1-i:Nat):Int) by omega) rfl HXI.out HXS.out (by omega) (by omega) (by omega) (by omega) ?_);intro nc w5 zs sP zas EI hl5 hb5;rw[show i+(m+1-i)=m+1 by omega] at sP ⊢;have HL5:=zh hl5;have Ie:=zh EI;have HB5:=zh hb5;have cnc:¬ nc=i:=(by omega);have zdL:¬ nc=i+1:=(by omega);(obtain⟨G,hG⟩:∃ G,G=w.heap.size:=⟨_,rfl⟩);rw[<- hG] at Ie ⊢;have HGG:=zh hG;clear hl5 EI hb5 hG)
   have hgl:g<w.heap.size:=HAT.out.lt
   have hgG:g≠G:=by have:=HGG.out;omega
   have hvl:vb<w.heap.size:=HNV.out.lt
   have Uf:At w5 vb 59 nw.toArray:=HNV.out.below HB5.out hvl
   have sQ:At w5 g 59 (xs++ys).toArray:=HAT.out.below HB5.out hgl
   have iy:=zh Uf;have zat:=zh sQ
   have mn2:Nat.min 1 (m+1-i)=1:=by simp only[Nat.min_def];split<;>omega
   have MN2:=zh mn2
   clear Uf sQ mn2
   obtain⟨C5,hC5⟩:∃ C5,C5=xs.take (i*2)++zs:=⟨_,rfl⟩
   have hl5:=HL5.out
   rw[<- hC5] at Ie hl5
   have HC5:=zh hC5;clear hC5 HL5
   have HL5:=zh hl5;clear hl5
   have KY:∀ (j:Nat) (u:Value),nw[j]? = some u->w5.cell? ⟨vb,0+j,none⟩=some u:=fun j u hj=>by
    rw[Nat.zero_add,iy.out.cell]
    simpa using hj
   have Ug:=zh KY
   clear KY
   go_wp2_with (refine Ew rfl _ _ rfl Tryz.underlying23 Gc G (i*2) (m+1-i) (nc-i) vb 0 1 1 (by rfl) (by rfl) C5 59 Ie.out nw (by rw[hnw,MN2.out]) Ug.out (by rw[hnw,HL5.out];omega) H2.out ?_;intro w6 Dv hg6 hz6;have EU:=zh Dv;have HG6:=zh hg6;clear Dv hg6)
   have sS:At w6 g 59 (xs++ys).toArray:=(HG6.out.block g (Nat.lt_of_lt_of_le hgl HB5.out.size) (fun e=>hgG (Option.some.inj e))).trans zat.out
   have zau:=zh sS
   have hl6:(C5.take (i*2)++(nw++C5.drop (i*2+nw.length))).length=nc*2:=by
    simp only[List.length_append,List.length_take,List.length_drop,hnw,HL5.out]
    omega
   obtain⟨C6,hC6⟩:∃ C6,C6=C5.take (i*2)++(nw++C5.drop (i*2+nw.length)):=⟨_,rfl⟩
   rw[<- hC6] at EU hl6
   have HC6:=zh hC6;have HL6:=zh hl6
   clear sS hC6 hl6
   go_wp2_with fail
   refine Lex.zl ?_
   have mn1:Nat.min (m-i) (m-i)=m-i:=Nat.min_self _
   have hcs:(xs.drop (i*2)).length=(m-i)*2:=by rw[List.length_drop,hxl,Nat.sub_mul]
   have OE:At w6.drew G 59 C6.toArray:=EU.out
   have hsrc:∀ (j:Nat) (u:Value),(xs.drop (i*2))[j]? = some u->w6.drew.cell? ⟨g,i*2+j,none⟩=some u:=fun j u hj=>by
    show w6.cell? ⟨g,i*2+j,none⟩=some u
    rw[zau.out.cell]
    rw[List.getElem?_drop] at hj
    simp[List.getElem?_append_left (List.getElem?_eq_some_iff.1 hj).1,hj]
   have Vp:=zh OE;have HCS:=zh hcs;have MN1:=zh mn1;have Ue:=zh hsrc
   clear OE hcs mn1 hsrc
   go_wp2_with (refine Ew rfl _ _ rfl Tryz.underlying23 Gc G ((i+1)*2) (m-i) (nc-(i+1)) g (i*2) (m-i) (c-i) (by rfl) (by rfl) C6 59 Vp.out (xs.drop (i*2)) (by rw[HCS.out,MN1.out]) Ue.out (by rw[HCS.out,HL6.out];omega) (fun u hu=>H1.out u (List.mem_of_mem_drop hu)) ?_;intro w7 JN hg7 hz7;have PD:=zh JN;have HG7:=zh hg7;clear JN hg7)
   refine Lex.ze ?_
   go_wp2_with fail
   go_ret
   refine⟨_,rfl,DW PD.out (by have:=HGG.out;omega) sP zas ?_ ?_,?_,.inr (by rw[HGG.out];rfl)⟩
   ·simp only[List.length_append,List.length_take,List.length_drop,HCS.out,HL6.out]
    omega
   ·have e1 : C6.take ((i + 1) * 2) = xs.take (i * 2) ++ nw :=by
     have e2:C5.take (i*2)=xs.take (i*2):=by rw[HC5.out,List.take_append_of_le_length (by rw[HXI.out];omega),List.take_of_length_le (by rw[HXI.out];omega)]
     have e3:(i+1)*2=(xs.take (i*2)).length+(nw.length+0):=by rw[HXI.out,hnw];omega
     rw[HC6.out,e2,e3,List.take_length_add_append,List.take_length_add_append,List.take_zero,List.append_nil]
    have e4:(m+1)*2=(xs.take (i*2)).length+(nw.length+((xs.drop (i*2)).length+0)):=by rw[HXI.out,hnw,HCS.out];omega
    rw[e1,List.append_assoc,e4,List.take_length_add_append,List.take_length_add_append,List.take_length_add_append,List.take_zero,List.append_nil]
   ·refine⟨?_,?_,?_,?_,fun k hk hk2=>?_⟩
    ·exact(HG7.out.os.trans HG6.out.os).trans HB5.out.os
    ·exact(HG7.out.tape.trans HG6.out.tape).trans HB5.out.tape
    ·exact(HG7.out.output.trans HG6.out.output).trans HB5.out.output
    ·exact Nat.le_trans HB5.out.size (Nat.le_trans HG6.out.size HG7.out.size)
    ·have hkG:some k≠some G:=fun e=>by have:=Option.some.inj e;have:=HGG.out;omega
     have k5:=HB5.out.block k hk
     have s5:=HB5.out.size
     exact((HG7.out.block k (by show k<w6.heap.size;have:=HG6.out.size;omega) hkG).trans (HG6.out.block k (by omega) hkG)).trans k5
theorem aV {css:List (List Value)}(h:∀ cs∈css,∀ u∈cs,u.oneCell' = true):∀ u∈css.flatten,u.oneCell' = true:=by
 intro u hu
 obtain⟨cs,h1,h2⟩:=List.mem_flatten.1 hu
 exact h cs h1 u h2
theorem nN {css:List (List Value)}{k:Nat}(h:∀ cs∈css,cs.length=k):∀ (i j:Nat) (hi:i<css.length),j<k->css.flatten[i*k+j]? = (css[i])[j]? :=by
 induction css with
 | nil=>intro i j hi;cases hi
 | cons c css ih =>
   intro i j hi hj
   have hc:c.length=k:=h c List.mem_cons_self
   rw[List.flatten_cons]
   cases i with
   | zero=>rw[Nat.zero_mul,Nat.zero_add,List.getElem?_append_left (by omega)];rfl
   | succ i =>
     have hi2:i<css.length:=by simpa using hi
     rw[Nat.succ_mul,List.getElem?_append_right (by omega),hc,show i*k+k+j-k=i*k+j by omega,ih (fun cs hcs=>h cs (List.mem_cons_of_mem _ hcs)) i j hi2 hj]
     rfl
namespace Own
end Own
namespace Own
def encS (s:Space)(v:Value):List Value:=[.string s.pre,v,.int .i64 s.threshold]
def AO (S:List Space)(us:List Value):List Value:=(List.zipWith encS S us).flatten
theorem FI {w:World}{base n size:Nat}{e:TypeId}{v:Value}{xs:List Value}(h:w.ownsRow base e size v n xs):∀ k,v.ownBlock=some k->k<w.heap.size:=fun k hk=>by
 obtain⟨cur,hc⟩:=Dq h hk
 exact hc.lt
theorem Ig {w:World}{base g n cap size:Nat}{e:TypeId}{xs:List Value}(h:w.ownsRow base e size (.slice (some ⟨g,0,none⟩) n cap) n xs)(i:Nat)(hi:i<xs.length)(u:Value):(w.setCell ⟨g,i,none⟩ u).ownsRow base e size (.slice (some ⟨g,0,none⟩) n cap) n (xs.set i u):=by
 obtain⟨ys,h1,h2,h3,h4,h5,h6⟩:=GK h
 refine DW (cur:=xs.set i u++ys) ?_ h2 h3 h4 (by simpa using h5) (by rw[List.take_append_of_le_length (by rw[List.length_set,h6];exact Nat.le_refl _),List.take_of_length_le (by rw[List.length_set,h6];exact Nat.le_refl _)])
 have:=h1.set i u
 rwa [List.setIfInBounds_toArray,List.set_append_left _ _ hi] at this
theorem J5:∀ (S:List Space) (us:List Value),us.length=S.length->(AO S us).length=S.length*3
 | [],_,_=>by simp[AO]
 | s::S,[],h=>by cases h
 | s :: S,u :: us,h => by
   have:=J5 S us (by simpa using h)
   show(encS s u++AO S us).length=_
   rw[List.length_append,this]
   show 3+S.length*3=(S.length+1)*3
   omega
theorem J6:∀ (S:List Space) (us:List Value) (i:Nat) (hi:i<S.length) (hi' : i<us.length) (c:Nat) (_:c<3),(AO S us)[i*3+c]? = (encS S[i] us[i])[c]?
 | [],_,i,hi,_,_,_=>by cases hi
 | s::S,[],i,_,hi',_,_=>by cases hi'
 | s :: S,u :: us,0,_,_,c,hc => by
   show(encS s u++AO S us)[0*3+c]? = _
   rw[Nat.zero_mul,Nat.zero_add,List.getElem?_append_left (by show c<3;exact hc)]
   rfl
 | s :: S,u :: us,i + 1,hi,hi',c,hc => by
   have:=J6 S us i (by simpa using hi) (by simpa using hi') c hc
   show(encS s u++AO S us)[(i+1)*3+c]? = _
   rw[List.getElem?_append_right (by show 3<=_;omega)]
   show(AO S us)[(i+1)*3+c-3]? = _
   rw[show(i+1)*3+c-3=i*3+c by omega,this]
   rfl
theorem Nj:∀ (S:List Space) (us:List Value) (i:Nat) (_:i<S.length) (_:us.length=S.length) (x:Space) (u:Value),AO (S.set i x) (us.set i u)=(((AO S us).set (i*3) (.string x.pre)).set (i*3+1) u).set (i*3+2) (.int .i64 x.threshold)
 | [],_,i,hi,_,_,_=>by cases hi
 | s::S,[],_,_,h,_,_=>by cases h
 | s::S,v::us,0,_,_,x,u=>rfl
 | s :: S,v :: us,i + 1,hi,hl,x,u => by
   have ih:=Nj S us i (by simpa using hi) (by simpa using hl) x u
   have hl3:(encS s v).length=3:=rfl
   show encS s v++AO (S.set i x) (us.set i u)=(((encS s v++AO S us).set ((i+1)*3) _).set ((i+1)*3+1) _).set ((i+1)*3+2) _
   rw[ih,List.set_append_right _ _ (by omega),List.set_append_right _ _ (by omega),List.set_append_right _ _ (by omega),hl3,show(i+1)*3-3=i*3 by omega,show(i+1)*3+1-3=i*3+1 by omega,show(i+1)*3+2-3=i*3+2 by omega]
structure Cg (B:Nat) (w:World) (v:Value) (S:List Space) (us:List Value):Prop where
 len:us.length=S.length
 row:w.ownsRow B 39 3 v S.length (AO S us)
 Ih:∀ i (h:i<S.length) (h' : i<us.length),w.ownsRow B 76 2 us[i] S[i].members.length (S[i].members.flatMap CU)
 apart:us.Pairwise fun a b=>∀ k,a.ownBlock=some k->b.ownBlock≠some k
theorem Cg.below {B:Nat}{w w' : World}{v:Value}{S:List Space}{us:List Value}(h:Cg B w v S us)(hb:Below w.heap.size w w'):Cg B w' v S us:=
 ⟨h.len,own_below h.row hb,fun i h1 h2=>own_below (h.Ih i h1 h2) hb,h.apart⟩
def nO (C:Nat)(v:Value)(us:List Value):Prop:=(∀ k,v.ownBlock=some k->k<C)/\∀ u∈us,∀ k,u.ownBlock=some k->k<C
theorem Cg.isIn {B:Nat}{w:World}{v:Value}{S:List Space}{us:List Value}(h:Cg B w v S us):nO w.heap.size v us:=by
 refine⟨FI h.row,fun u hu=>?_⟩
 obtain⟨i,hi,rfl⟩:=List.getElem_of_mem hu
 exact FI (h.Ih i (by rw[<- h.len];exact hi) hi)
theorem nO.mono {C C' : Nat}{v:Value}{us:List Value}(h:nO C v us)(hC:C<=C'):nO C' v us:=⟨fun k hk=>Nat.lt_of_lt_of_le (h.1 k hk) hC,fun u hu k hk=>Nat.lt_of_lt_of_le (h.2 u hu k hk) hC⟩
theorem Cg.keep {B C:Nat}{w w' : World}{v:Value}{S:List Space}{us:List Value}(h:Cg B w v S us)(hc:nO C v us)(hk:∀ k,B<=k->k<C->w'.heap[k]? = w.heap[k]?):Cg B w' v S us:=
 ⟨h.len,Af h.row (fun k e=>hk k (Al h.row k e) (hc.1 k e)),fun i h1 h2=>Af (h.Ih i h1 h2) (fun k e=>hk k (Al (h.Ih i h1 h2) k e) (hc.2 _ (List.getElem_mem h2) k e)),h.apart⟩
theorem Cg.base {B B' : Nat}{w:World}{v:Value}{S:List Space}{us:List Value}(h:Cg B w v S us)(hb:B' <= B):Cg B' w v S us:=
 ⟨h.len,CO h.row hb,fun i h1 h2=>CO (h.Ih i h1 h2) hb,h.apart⟩
theorem Cg.slice {B:Nat}{w:World}{v:Value}{S:List Space}{us:List Value}(h:Cg B w v S us):∃ a c,v=.slice a S.length c:=by
 obtain⟨a,m,c,rfl⟩:=Ad h.row
 obtain rfl:=Bf h.row
 exact⟨a,c,rfl⟩
theorem Cg.list {B:Nat}{w:World}{v:Value}{S:List Space}{us:List Value}{F:Nat->Prop}(h:Cg B w v S us)(hF:∀ k,B<=k->F k):Au 3 Fw F w v S:=by
 refine Au.Ry (css:=List.zipWith encS S us) (Bh.own h.row) rfl (by simp[h.len]) (fun k hk=>hF k (Al h.row k hk)) (fun i hi hi' => ?_)
 have h2:i<us.length:=by rw[h.len];exact hi
 rw[List.getElem_zipWith]
 exact⟨rfl,us[i],rfl,Cy (enc:=CU) (fun _=>rfl) (fun _=>rfl) (Bh.own (h.Ih i hi h2)) rfl (fun k hk=>hF k (Al (h.Ih i hi h2) k hk))⟩
structure QO (B L:Nat) (F:Nat->Prop) (k:Nat) (w:World) (v:Value) (S:List Space) (us:List Value):Prop where
 len:us.length=S.length
 row:w.ownsRow B 39 3 v S.length (AO S us)
 eY:∀ j,v.ownBlock=some j->j<L
 new:∀ i (h:i<S.length) (h' : i<us.length),i<k->w.ownsRow L 76 2 us[i] S[i].members.length (S[i].members.flatMap CU)
 old:∀ i (h:i<S.length) (h' : i<us.length),k<=i->Au 2 Eh F w us[i] S[i].members
 sep:∀ j,F j->v.ownBlock≠some j
 apart:∀ i j (hi:i<us.length) (hj:j<us.length),i<j->j<k->∀ q,us[i].ownBlock=some q->us[j].ownBlock≠some q
theorem QO.done {B L k:Nat}{F:Nat->Prop}{w:World}{v:Value}{S:List Space}{us:List Value}(h:QO B L F k w v S us)(hk:S.length<=k)(hB:B<=L):Cg B w v S us:=
 ⟨h.len,h.row,fun i h1 h2=>CO (h.new i h1 h2 (by omega)) hB,List.pairwise_iff_getElem.2 fun i j hi hj hij=>h.apart i j hi hj hij (by have:=h.len;omega)⟩
theorem QO.step {B L k g c:Nat}{F:Nat->Prop}{w w5:World}{S:List Space}{us:List Value}{u:Value}(h:QO B L F k w (.slice (some ⟨g,0,none⟩) S.length c) S us)(hk:k<S.length)(hb:Below w.heap.size w w5)(hL:L<=w.heap.size)(hu:w5.ownsRow w.heap.size 76 2 u S[k].members.length (S[k].members.flatMap CU)):
 QO B L F (k+1) (((w5.setCell ⟨g,k*3,none⟩ (.string S[k].pre)).setCell ⟨g,k*3+1,none⟩ u).setCell ⟨g,k*3+2,none⟩ (.int .i64 S[k].threshold)) (.slice (some ⟨g,0,none⟩) S.length c) S (us.set k u):=by
 have hgL:g<L:=h.eY g rfl
 have far:∀ j,j≠g->(((w5.setCell ⟨g,k*3,none⟩ (.string S[k].pre)).setCell ⟨g,k*3+1,none⟩ u).setCell ⟨g,k*3+2,none⟩ (.int .i64 S[k].threshold)).heap[j]? = w5.heap[j]? :=fun j hj=>by
  rw[zo hj,zo hj,zo hj]
 have hcl:=J5 S us h.len
 have hrow:=own_below h.row hb
 have hset:AO S (us.set k u)=(((AO S us).set (k*3) (.string S[k].pre)).set (k*3+1) u).set (k*3+2) (.int .i64 S[k].threshold):=by
  have:=Nj S us k hk h.len S[k] u
  rwa [List.set_getElem_self] at this
 refine⟨by simp[h.len],?_,h.eY,fun i h1 h2 h3=>?_,fun i h1 h2 h3=>?_,h.sep,fun i j hi hj hij hjk q hq=>?_⟩
 ·rw[hset]
  exact Ig (Ig (Ig hrow _ (by omega) _) _ (by rw[List.length_set];omega) _) _ (by rw[List.length_set,List.length_set];omega) _
 ·rw[List.length_set] at h2
  by_cases hik:k=i
  ·subst hik
   rw[List.getElem_set_self]
   exact Af (CO hu hL) (fun j hj=>far j (by have:w.heap.size<=j:=Al hu j hj;omega))
  ·rw[List.getElem_set_ne hik]
   have hn:=own_below (h.new i h1 h2 (by omega)) hb
   exact Af hn (fun j hj=>far j (by have:=Al hn j hj;omega))
 ·rw[List.length_set] at h2
  rw[List.getElem_set_ne (by omega)]
  exact((h.old i h1 h2 (by omega)).below hb).keep (by simp[World.setCell]) (fun j hj _=>far j (fun e=>h.sep j hj (by rw[e];rfl)))
 ·rw[List.length_set] at hi hj
  rw[List.getElem_set_ne (by omega)] at hq
  by_cases zcn:k=j
  ·subst zcn
   rw[List.getElem_set_self]
   intro e
   have h1:=FI (h.new i (by rw[<- h.len];exact hi) hi (by omega)) q hq
   have h2:=Al hu q e
   omega
  ·rw[List.getElem_set_ne zcn]
   exact h.apart i j hi hj hij (by omega) q hq
theorem aW {F:Nat->Prop}{w:World} : ∀ {S:List Space} {css:List (List Value)},css.length=S.length->(∀ i (hi:i<S.length) (hi' : i<css.length),css[i].length=3/\Fw F w css[i] S[i])->
 ∃ us:List Value,us.length=S.length/\css.flatten=AO S us/\∀ i (h:i<S.length) (h' : i<us.length),Au 2 Eh F w us[i] S[i].members
 | [],[],_,_=>⟨[],rfl,rfl,fun i h=>by cases h⟩
 | [],_::_,h,_=>by cases h
 | _::_,[],h,_=>by cases h
 | s :: S,cs :: css,h,hc => by
   obtain⟨us,h1,h2,h3⟩:=aW (S:=S) (css:=css) (by simpa using h) (fun i hi hi' => hc (i+1) (by simp;omega) (by simp;omega))
   obtain⟨_,v,hv,hm⟩:=hc 0 (by simp) (by simp)
   have hv:cs=encS s v:=hv
   refine⟨v::us,by simp[h1],?_,fun i hi hi' => ?_⟩
   ·rw[List.flatten_cons,h2,hv]
    rfl
   ·cases i with
    | zero=>exact hm
    | succ i=>exact h3 i (by simpa using hi) (by simpa using hi')
end Own
structure zdM (w:World) (o:Own.Ar) (sv kv:Value) (us:List Value) (B:Nat) (w' : World):Prop where
 lo:w.heap.size+2<=B
 hi:B<=w'.heap.size
 sp:Own.Cg (w.heap.size+2) w' sv o.spaces us
 inn:Own.nO B sv us
 ks:w'.ownsRow B 59 2 kv o.keys.length (o.keys.flatMap Own.DL)
 bel:Below w.heap.size w w'
theorem Ml (o:Own.Ar)(sv kv:Value)(w:World)(hS:Own.BH w sv o.spaces)(hK:Own.DJ w kv o.keys)(hls:o.spaces.length<=3000000)(hlk:o.keys.length<=3000000)(hlm:∀ s∈o.spaces,s.members.length<=3000000):
 Calls Tryz.prog 50 #[.agg #[.int .i64 o.count,sv,kv]] w fun e w' => ∃ sv' kv' us B,e=.returned (.agg #[.int .i64 o.count,sv',kv'])/\zdM w o sv' kv' us B w':=by
 obtain⟨sa,sc,rfl⟩:=hS.len
 obtain⟨ka,kc,rfl⟩:=hK.len
 have ha1:=(At.new w 25 #[.int .i64 o.count,.slice sa o.spaces.length sc,.slice ka o.keys.length kc]).alloc (.cells #[.int .i64 0,.slice none 0 0,.slice none 0 0] 25)
 have ha2:=At.new1 w (.cells #[.int .i64 o.count,.slice sa o.spaces.length sc,.slice ka o.keys.length kc] 25) 25 #[.int .i64 0,.slice none 0 0,.slice none 0 0]
 have hb1:Below w.heap.size w ((w.alloc (.cells #[.int .i64 o.count,.slice sa o.spaces.length sc,.slice ka o.keys.length kc] 25)).alloc (.cells #[.int .i64 0,.slice none 0 0,.slice none 0 0] 25)):=zb.alloc (by simp) _
 have hz1:((w.alloc (.cells #[.int .i64 o.count,.slice sa o.spaces.length sc,.slice ka o.keys.length kc] 25)).alloc (.cells #[.int .i64 0,.slice none 0 0,.slice none 0 0] 25)).heap.size=w.heap.size+2:=by simp
 have hs1:=(hS.mono (G:=fun k=>k<w.heap.size) (fun k _ hk=>hk)).below hb1;have hk1:=(hK.mono (G:=fun k=>k<w.heap.size) (fun k _ hk=>hk)).below hb1
 have c1:=ha1.cell 1
 simp only[zg] at c1
 have HS:=zh hs1;have HK:=zh hk1;have HA1:=zh ha1;have HA2:=zh ha2;have HB1:=zh hb1;have HLM:=zh hlm
 clear hS hK hs1 hk1 ha1 ha2 hb1 hlm
 go_enter Tryz.func50,Tryz.ntmps50
 go_wp2_with fail
 generalize (w.alloc (.cells #[.int .i64 o.count,.slice sa o.spaces.length sc,.slice ka o.keys.length kc] 25)).alloc (.cells #[.int .i64 0,.slice none 0 0,.slice none 0 0] 25)=w1 at*
 obtain⟨css,q1,q2,q3⟩:=Au.cells HS.out
 obtain⟨us0,u1,u2,u3⟩:=Own.aW q1 q2
 have hone:∀ u∈css.flatten,u.oneCell' = true:=aV fun cs hcs u hu=>by
  obtain⟨i,hi,rfl⟩:=List.getElem_of_mem hcs
  obtain⟨_,v,hv,hm⟩:=q2 i (by omega) hi
  rw[hv] at hu
  obtain⟨a,c,rfl⟩:=hm.len
  simp at hu
  rcases hu with rfl|rfl|rfl<;>rfl
 refine(Yn _ o.spaces.length css.flatten w1 q3 hone hls).mono ?_
 rintro e w2 ⟨v',rfl,ho,hb2⟩
 obtain⟨a,m,c,rfl⟩:=Ad ho
 obtain rfl:=Bf ho
 have hup:=Al ho
 have hlt:=Own.FI ho
 have A1:=zh (HA1.out.below hb2 (by omega));have A2:=zh (HA2.out.below hb2 (by omega));have B2:=zh (HB1.out.trans (hb2.mono HB1.out.size));have HK2:=zh (HK.out.below hb2)
 have hz2:=hb2.size
 have hmx:Own.QO (w.heap.size+2) w2.heap.size (fun k=>k<w.heap.size) 0 w2 (.slice a o.spaces.length c) o.spaces us0:=by
  refine⟨u1,by rw[<- u2,<- hz1];exact ho,hlt,fun i _ _ h=>by omega,fun i h1 h2 _=>(u3 i h1 h2).below hb2,fun k hk e=>by have:=hup k e;omega,fun i j _ _ _ h=>by omega⟩
 have HMX:=zh hmx;have HUP:=zh hup
 have z1:=A1.out.free 1;have y1:=A1.out.cell 1
 simp only[zg] at y1
 clear hb2 hmx HA1 HA2 HB1 HK HS c1 ho hup hlt q1 q2 q3 u1 u2 u3 hone
 go_upto_region 2 with fail
 have XI:=A1.out.set 1 (.slice a o.spaces.length c)
 have Vh:At (w2.setCell ⟨w.heap.size,1,none⟩ (.slice a o.spaces.length c)) w.heap.size 25 #[.int .i64 o.count,.slice a o.spaces.length c,.slice ka o.keys.length kc]:=XI
 have zco:=A2.out.far (p:=⟨w.heap.size,1,none⟩) (by simp) (.slice a o.spaces.length c)
 have hb4:=B2.out.setCell (p:=⟨w.heap.size,1,none⟩) (Nat.le_refl _) (.slice a o.spaces.length c)
 have hz4:(w2.setCell ⟨w.heap.size,1,none⟩ (.slice a o.spaces.length c)).heap.size=w2.heap.size:=by simp[World.setCell]
 have hk4:=HK2.out.keep (w':=w2.setCell ⟨w.heap.size,1,none⟩ (.slice a o.spaces.length c)) (by simp[World.setCell]) (fun k hk _=>zo (by show k≠w.heap.size;omega))
 have hm4:Own.QO (w.heap.size+2) w2.heap.size (fun k=>k<w.heap.size) 0 (w2.setCell ⟨w.heap.size,1,none⟩ (.slice a o.spaces.length c)) (.slice a o.spaces.length c) o.spaces us0:=
  ⟨HMX.out.len,Af HMX.out.row (fun k hk => heap_setCell_other _ _ _ _ (by show k ≠ w.heap.size;have :=Al HMX.out.row k hk;omega)),HMX.out.eY,fun i _ _ h => by omega,
    fun i h1 h2 h3=>(HMX.out.old i h1 h2 h3).keep (by simp[World.setCell]) (fun k hk _=>zo (by show k≠w.heap.size;omega)),HMX.out.sep,fun i j _ _ _ h=>by omega⟩
 obtain⟨L,hL⟩:∃ L,L=w2.heap.size:=⟨_,rfl⟩
 rw[<- hL] at hm4 hz4
 have A4:=zh Vh;have R4:=zh zco;have B4:=zh hb4;have HK4:=zh hk4;have HM4:=zh hm4;have HZ4:=zh hz4
 have hL2:w.heap.size+2<=L:=by omega
 have c1:=Vh.cell 1
 simp only[zg] at c1
 clear XI Vh zco hb4 hk4 hm4 hz4 hL HMX HUP HK2 A1 A2 B2 z1 y1 hz2
 generalize w2.setCell ⟨w.heap.size,1,none⟩ (.slice a o.spaces.length c)=w4 at*
 go_wp2_with fail
 go_loopw [11] (fun i wr=>∃ (k:Nat) (us:List Value),k<=o.spaces.length/\i=.int .i64 k/\Own.QO (w.heap.size+2) L (fun k=>k<w.heap.size) k wr (.slice a o.spaces.length c) o.spaces us/\Fr (fun k=>w.heap.size+2<=k/\a=some ⟨k,0,none⟩) w4 wr) (fun i _=>o.spaces.length-(intOf i).toNat)
 case atStart=>exact⟨0,us0,by omega,rfl,HM4.out,Fr.refl _ _⟩
 case round=>
  obtain⟨k,us,hk,rfl,hrow,hfr⟩:=hrel
  have wL:=hfr.at A4.out (fun h=>by omega)
  have zcp:=hfr.at R4.out (fun h=>by omega)
  have hfz:=hfr.size
  have hLr:L<=wr.heap.size:=by have:=HZ4.out;omega
  have qE:=zh hrow;have HFR:=zh hfr;have AR:=zh wL;have RR:=zh zcp
  have c1:=wL.cell 1
  simp only[zg] at c1
  have hbl:=wL.lt
  clear wL zcp hfr
  by_cases hlt:k<o.spaces.length
  ·have dk:decide ((k:Int)<o.spaces.length)=true:=zt
   obtain⟨g,cap,hv,hcell⟩:=CB hrow.row (by omega)
   cases hv
   obtain⟨ys,q1,hbg,_,_,_,hxl⟩:=GK hrow.row
   have hku:k<us.length:=by rw[hrow.len];exact hlt
   have hget:=Own.J6 o.spaces us k hlt hku
   have f0:=hcell (k*3) _ (hget 0 (by omega));have f1:=hcell (k*3+1) _ (hget 1 (by omega));have f2:=hcell (k*3+2) _ (hget 2 (by omega))
   have z0:=q1.free (k*3);have z1:=q1.free (k*3+1);have z2:=q1.free (k*3+2)
   have e3:=hrow.old k hlt hku (Nat.le_refl _)
   have hlm:=HLM.out o.spaces[k] (List.getElem_mem hlt)
   obtain⟨ma,mc,hvk⟩:=e3.len
   rw[hvk] at e3 f1
   have Q1:=zh q1
   have hcp:=EH o.spaces[k].pre o.spaces[k].threshold _ o.spaces[k].members wr.drew ((e3.below ((Below.refl _ _).drew)).mono (fun _ _ _=>trivial)) hlm
   have HCP:=zh hcp
   obtain⟨pre,hpre⟩:∃ x,x=o.spaces[k].pre:=⟨_,rfl⟩
   obtain⟨th,hth⟩:∃ x,x=o.spaces[k].threshold:=⟨_,rfl⟩
   rw[<- hpre] at f0 HCP
   rw[<- hth] at f2 HCP
   have Vl:=zh hpre;have HTH:=zh hth
   have hgl:g<wr.heap.size:=q1.lt
   clear hrow q1 e3 hvk hlm hcp hpre hth hcell hget hku hxl
   go_wp2_with fail
   refine Lex.zn (fun j=>j=w.heap.size) [1] 9 [9] ?_
   simp only[Lex.Br,zd]
   go_wp2_with fail
   refine HCP.out.mono ?_
   rintro e w5 ⟨v',rfl,hov,hb5⟩
   have Vf : Below wr.heap.size wr w5:=(Below.refl wr.heap.size wr).drew.trans hb5
   obtain⟨va,vm,vc,rfl⟩:=Ad hov
   have y0:=(Vf.cell (p:=⟨g,k*3,none⟩) hgl).trans f0;have y1:=(Vf.cell (p:=⟨g,k*3+1,none⟩) hgl).trans f1;have y2:=(Vf.cell (p:=⟨g,k*3+2,none⟩) hgl).trans f2
   have q5:=Q1.out.below Vf hgl
   have x0:=q5.free (k*3);have x1:=q5.free (k*3+1);have x2:=q5.free (k*3+2)
   have c5:=(Vf.cell (p:=⟨w.heap.size,1,none⟩) hbl).trans c1
   have HB5:=zh Vf;have HOV:=zh hov
   clear hb5 Vf hov q5 f0 f1 f2 z0 z1 z2 Q1
   go_wp2_with fail
   refine Lex.Mid.intro (fun j hj _=>by rw[hj];exact HB5.out.block _ hbl) ?_
   go_wp2_with fail
   refine Lex.zk ⟨⟨rfl,zi c1⟩,trivial⟩ ?_
   go_wp2_with fail
   go_round
   case measure=>simp[intOf];omega
   case rel=>
    have hs5:=qE.out.step hlt HB5.out hLr HOV.out
    rw[<- Vl.out,<- HTH.out] at hs5
    refine⟨k+1,us.set k (.slice va vm vc),by omega,by go_num,hs5,?_⟩
    have f5:Fr (fun k=>w.heap.size+2<=k/\(some ⟨g,0,none⟩:Option Addr)=some ⟨k,0,none⟩) w4 w5:=HFR.out.trans (Fr.of_below HB5.out) (fun _ h=>.inl h)
    exact((f5.setCell (p:=⟨g,k*3,none⟩) (.inl ⟨hbg,rfl⟩) _).setCell (p:=⟨g,k*3+1,none⟩) (.inl ⟨hbg,rfl⟩) _).setCell (p:=⟨g,k*3+2,none⟩) (.inl ⟨hbg,rfl⟩) _
  ·have dk:decide ((k:Int)<o.spaces.length)=false:=zf
   have hso:=hrow.done (by omega) hL2
   have hkr:=HK4.out.fr HFR.out (fun k hk h=>by omega)
   have hkm:=Own.DJ.rows (hkr.mono (G:=Own.gK) (fun _ _ _=>trivial))
   have c2:=AR.out.cell 2
   simp only[zg] at c2
   have HSO:=zh hso;have HKM:=zh hkm
   clear hrow hso hkr hkm
   go_wp2_with fail
   refine(gU _ o.keys.length _ wr HKM.out (Own.yQ _) hlk).mono ?_
   rintro e w5 ⟨v',rfl,hov,hb5⟩
   have hup:=Al hov
   obtain⟨va,vm,vc,rfl⟩:=Ad hov
   have q5:=AR.out.below hb5 hbl
   have r5:=RR.out.below hb5 RR.out.lt
   have x0:=q5.cell 0;have x1:=q5.cell 1;have x2:=q5.cell 2;have x3:=q5.free 2
   have y0:=r5.cell 0;have y1:=r5.cell 1;have y2:=r5.cell 2;have y3:=r5.free 0;have y4:=r5.free 1;have y5:=r5.free 2
   simp only[zg] at x0 x1 x2 y0 y1 y2
   have HB5:=zh hb5;have HOV:=zh hov;have HUP:=zh hup;have R5:=zh r5
   clear hb5 hov hup q5 r5 c1 c2
   go_wp2_with fail
   have F2:=(((R5.out.far (p:=⟨w.heap.size,2,none⟩) (by simp) (.slice va vm vc)).set 0 (.int .i64 o.count)).set 1 (.slice a o.spaces.length c)).set 2 (.slice va vm vc)
   have far:∀ k,k≠w.heap.size->k≠w.heap.size+1->((((w5.setCell ⟨w.heap.size,2,none⟩ (.slice va vm vc)).setCell ⟨w.heap.size+1,0,none⟩ (.int .i64 o.count)).setCell ⟨w.heap.size+1,1,none⟩ (.slice a o.spaces.length c)).setCell ⟨w.heap.size+1,2,none⟩ (.slice va vm vc)).heap[k]? = w5.heap[k]? :=fun k h1 h2=>by
    rw[zo h2,zo h2,zo h2,zo h1]
   have hrz:w.heap.size+1<wr.heap.size:=RR.out.lt
   have zcq:=HB5.out.size
   refine Pz rfl rfl (AQ F2 Tryz.underlying25 rfl Bv) ⟨_,_,us,wr.heap.size,rfl,by omega,by simpa [World.setCell] using zcq,?_,HSO.out.isIn,?_,?_⟩
   ·exact(HSO.out.below HB5.out).keep (HSO.out.isIn.mono zcq) (fun k hk _=>far k (by omega) (by omega))
   ·exact Af HOV.out (fun k hk=>far k (by have:=HUP.out k hk;omega) (by have:=HUP.out k hk;omega))
   ·have zdN:Below w.heap.size w w5:=(B4.out.trans (HFR.out.below (B:=w.heap.size) (by have:=HZ4.out;omega) (fun k hk=>by omega))).trans (HB5.out.mono (by omega))
    exact(((zdN.setCell (p:=⟨w.heap.size,2,none⟩) (Nat.le_refl _) _).setCell (p:=⟨w.heap.size+1,0,none⟩) (by simp) _).setCell (p:=⟨w.heap.size+1,1,none⟩) (by simp) _).setCell (p:=⟨w.heap.size+1,2,none⟩) (by simp) _
theorem nP (cnt:Int)(sv kv:Value)(l:List Own.KeyUse)(p:ByteArray)(w:World)(h:Own.DJ w kv l)(hs:Own.Srt Own.KeyUse.pub l)(hl:l.length<=1000000):
 Calls Tryz.prog 149 #[.agg #[.int .i64 cnt,sv,kv],.string p] w fun e w' => e=.returned (.tuple #[.int .i64 (Own.posB Own.KeyUse.pub p l:Nat),.bool (Own.Dx Own.KeyUse.pub p l)])/\Below w.heap.size w w':=by
 obtain⟨ka,kc,rfl⟩:=h.len
 have hb1:Below w.heap.size w (w.alloc (.cells #[.int .i64 cnt,sv,.slice ka l.length kc] 25)):=zb
 have hbs:=iw _ l p _ (h.below hb1) hs hl
 have HB:=zh hb1;have HBS:=zh hbs
 obtain⟨q,hq⟩:∃ q:Nat,q=Own.posB Own.KeyUse.pub p l:=⟨_,rfl⟩
 obtain⟨r,hr⟩:∃ r,r=Own.Dx Own.KeyUse.pub p l:=⟨_,rfl⟩
 rw[<- hq,<- hr] at HBS ⊢
 clear hb1 hbs h hs hq hr
 go_enter Tryz.func149,Tryz.ntmps149
 go_wp2_with fail
 refine HBS.out.mono ?_
 rintro e w2 ⟨rfl,hb2⟩
 have HB2:=zh (HB.out.trans (hb2.mono HB.out.size));clear hb2
 go_wp2_with fail
 go_ret2
 exact⟨rfl,HB2.out⟩
namespace Own
theorem nQ {p m:ByteArray}{s:Sig.T}(h:Sig.verify p m s=true):0<=s.index/\s.index<64:=by
 unfold Sig.verify Sig.Bq at h
 simp only[Bool.and_eq_true,decide_eq_true_eq] at h
 obtain⟨⟨⟨⟨⟨⟨_,h1⟩,h2⟩,h3⟩,_⟩,_⟩,_⟩:=h
 refine⟨h2,Int.lt_of_lt_of_le h3 ?_⟩
 have:(2:Nat)^(p.get! 32).toNat<=2^6:=Nat.pow_le_pow_right (by omega) h1
 have e:((2:Int)^(p.get! 32).toNat)=((2^(p.get! 32).toNat:Nat):Int):=(Int.natCast_pow 2 _).symm
 rw[e]
 omega
def I4 (w:World)(v:Value)(l:List Aj):Prop:=∃ a c,v=.slice a l.length c/\∀ i (hi:i<l.length),∃ b o cv pv,a=some ⟨b,o,none⟩/\b<w.heap.size/\w.cell? ⟨b,o+i*4,none⟩=some (.string l[i].name)/\w.cell? ⟨b,o+i*4+1,none⟩=some (.int .i64 l[i].sig.index)/\
 w.cell? ⟨b,o+i*4+2,none⟩=some cv/\w.cell? ⟨b,o+i*4+3,none⟩=some pv/\Am w cv l[i].sig.chains/\Am w pv l[i].sig.path/\Er pv
theorem I4.below {w w' : World}{v:Value}{l:List Aj}(h:I4 w v l)(hb:Below w.heap.size w w'):I4 w' v l:=by
 obtain⟨a,c,rfl,h⟩:=h
 refine⟨a,c,rfl,fun i hi=>?_⟩
 obtain⟨b,o,cv,pv,h1,h2,h3,h4,h5,h6,h7,h8,h9⟩:=h i hi
 exact⟨b,o,cv,pv,h1,Nat.lt_of_lt_of_le h2 hb.size,(hb.cell (p:=⟨b,_,none⟩) h2).trans h3,(hb.cell (p:=⟨b,_,none⟩) h2).trans h4,(hb.cell (p:=⟨b,_,none⟩) h2).trans h5,(hb.cell (p:=⟨b,_,none⟩) h2).trans h6,h7.below hb,h8.below hb,h9⟩
def Ei (l:List ByteArray):ByteArray->Option Value:=fun p=>if l.any (fun x=>decide (x=p)) then some (.bool true) else none
theorem Yp (l:List ByteArray)(n:ByteArray):Ei (n::l)=aR (Ei l) n (.bool true):=by
 funext p
 unfold Ei aR
 rw[List.any_cons]
 by_cases h:n=p
 ·simp[h]
 ·rw[decide_eq_false h,Bool.false_or,if_neg h]
def nobody:Value:=.agg #[.int .i64 0,.slice none 0 0,.slice none 0 0]
end Own
theorem Uh:∀ (K:List Own.KeyUse) (p:Nat) (h:p<K.length) (v:Int),(K.flatMap Own.DL).set (p*2+1) (.int .i64 v)=(K.set p ⟨K[p].pub,v⟩).flatMap Own.DL
 | [],p,h,_=>by cases h
 | x :: K,0,_,v => by
   rw[List.flatMap_cons,List.set_cons_zero,List.flatMap_cons]
   rfl
 | x :: K,p + 1,h,v => by
   have ih:=Uh K p (by simpa using h) v
   rw[List.flatMap_cons,List.set_cons_succ,List.flatMap_cons,show(p+1)*2+1=(p*2+1)+1+1 by omega]
   show Value.string x.pub::Value.int .i64 x.next::(K.flatMap Own.DL).set (p*2+1) _=_
   rw[ih]
   rfl
theorem aX (K:List Own.KeyUse)(p:Nat)(h:p<K.length):(K.flatMap Own.DL)[p*2+1]? = some (.int .i64 K[p].next):=by
 have e:K.flatMap Own.DL=(K.map Own.DL).flatten:=List.flatMap_def
 rw[e,nN (k:=2) (fun cs hcs=>by obtain⟨x,_,rfl⟩:=List.mem_map.1 hcs;rfl) p 1 (by simpa using h) (by omega),List.getElem_map]
 rfl
namespace Own
theorem Vq (K:List KeyUse):(K.flatMap DL).length=K.length*2:=by
 induction K with
 | nil=>rfl
 | cons x K ih=>rw[List.flatMap_cons,List.length_append,ih,List.length_cons];show 2+_=_;omega
structure Placed (Kc K1:List KeyUse) (p:ByteArray):Prop where
 at_:∃ h:posB KeyUse.pub p Kc<K1.length,K1[posB KeyUse.pub p Kc].pub=p/\K1[posB KeyUse.pub p Kc].next=Bj Kc p
 use:∀ x,use Kc ⟨p,x⟩=K1.set (posB KeyUse.pub p Kc) ⟨p,x⟩
 len:K1.length<=Kc.length+1
theorem iA {Kc:List KeyUse}{p:ByteArray}(hs:Srt KeyUse.pub Kc)(h:Dx KeyUse.pub p Kc=true):Placed Kc Kc p:=by
 have hn:=Nb p hs
 rw[h,if_pos rfl] at hn
 have hh:=h
 unfold Dx at h
 cases hg:Kc[posB KeyUse.pub p Kc]? with
 | none=>rw[hg] at h;cases h
 | some k =>
   rw[hg] at h hn
   obtain⟨hl,he⟩:=List.getElem?_eq_some_iff.1 hg
   refine⟨⟨hl,?_,?_⟩,fun x=>?_,by omega⟩
   ·rw[he];exact of_decide_eq_true h
   ·rw[he,hn]
   ·rw[FH,Om]
    show Kc.take (posB KeyUse.pub p Kc)++_::Kc.drop (posB KeyUse.pub p Kc+if Dx KeyUse.pub p Kc=true then 1 else 0)=_
    rw[hh,if_pos rfl,List.set_eq_take_append_cons_drop,if_pos hl]
theorem aY {Kc:List KeyUse}{p:ByteArray}(hs:Srt KeyUse.pub Kc)(h:Dx KeyUse.pub p Kc=false):Placed Kc (Kc.take (posB KeyUse.pub p Kc)++(⟨p,0⟩::Kc.drop (posB KeyUse.pub p Kc))) p:=by
 have hn:=Nb p hs
 rw[h,if_neg (by simp)] at hn
 have hle:=Ol (f:=KeyUse.pub) p Kc
 have hl:(Kc.take (posB KeyUse.pub p Kc)).length=posB KeyUse.pub p Kc:=by rw[List.length_take];omega
 have hg:(Kc.take (posB KeyUse.pub p Kc)++(⟨p,0⟩::Kc.drop (posB KeyUse.pub p Kc)))[posB KeyUse.pub p Kc]? = some ⟨p,0⟩:=by
  rw[List.getElem?_append_right (by omega),hl,Nat.sub_self]
  rfl
 obtain⟨hlt,he⟩:=List.getElem?_eq_some_iff.1 hg
 refine⟨⟨hlt,by rw[he],by rw[he,hn]⟩,fun x=>?_,by simp;omega⟩
 rw[FH,Om]
 show Kc.take (posB KeyUse.pub p Kc)++_::Kc.drop (posB KeyUse.pub p Kc+if Dx KeyUse.pub p Kc=true then 1 else 0)=_
 rw[h,if_neg (by simp),Nat.add_zero,List.set_append_right _ _ (by omega),hl,Nat.sub_self]
 rfl
end Own
def aZ (w:World)(o:Own.Ar)(n th:Int)(R:Except Int (List Own.KeyUse))(e:Ending)(w' : World):Prop:=
 (match R with
   | .error c=>e=.returned (.tuple #[Own.nobody,.int .i64 c])
   | .ok K=>if n<th then e=.returned (.tuple #[Own.nobody,.int .i64 20]) else ∃ sv kv us,e=.returned (.tuple #[.agg #[.int .i64 o.count,sv,kv],.int .i64 0])/\Own.Cg w.heap.size w' sv o.spaces us/\w'.ownsRow w.heap.size 59 2 kv K.length (K.flatMap Own.DL))/\Below w.heap.size w w'
theorem Ui (o:Own.Ar)(s:Own.Space)(msg:ByteArray)(l:List Own.Aj)(sv kv mv lv:Value)(w:World)(hS:Own.BH w sv o.spaces)(hK:Own.DJ w kv o.keys)(hm:Own.Ag w mv s.members)(hA:Own.I4 w lv l)
 (hsrt:Own.Srt Own.KeyUse.pub o.keys) (hls:o.spaces.length<=3000000) (hlk:o.keys.length+l.length<=900000) (hlm:∀ s∈o.spaces,s.members.length<=3000000) (hml:s.members.length<=3000000) (Ku:msg.size<=9223372036854775000)
 (hal:∀ a∈l,a.name.size<=140737488355328/\a.sig.chains.length<=140737488355328/\a.sig.path.length<=140737488355328):
 Calls Tryz.prog 97 #[.agg #[.int .i64 o.count,sv,kv],.agg #[.string s.pre,mv,.int .i64 s.threshold],.string msg,lv] w (aZ w o l.length s.threshold (Own.Bp s msg [] o.keys l)):=by
 obtain⟨R,hR⟩:∃ R,R=Own.Bp s msg [] o.keys l:=⟨_,rfl⟩
 obtain⟨Q,hQ⟩:∃ Q,Q=aZ w o l.length s.threshold R:=⟨_,rfl⟩
 rw[<- hR,<- hQ]
 have HQ:=zh hQ;have HR:=zh hR;clear hQ hR
 obtain⟨sa,sc,rfl⟩:=hS.len
 obtain⟨ka,kc,rfl⟩:=hK.len
 obtain⟨ma,mc,rfl⟩:=hm.len
 obtain⟨la,lc,rfl,hap⟩:=id hA
 clear hap
 have hb1:Below w.heap.size w (((w.alloc (.cells #[.int .i64 o.count,.slice sa o.spaces.length sc,.slice ka o.keys.length kc] 25)).alloc (.cells #[.string s.pre,.slice ma s.members.length mc,.int .i64 s.threshold] 39)).alloc (.cells #[.int .i64 0,.slice none 0 0,.slice none 0 0] 25)):=(zb.alloc (by simp) _).alloc (by simp;omega) _
 have hz1:(((w.alloc (.cells #[.int .i64 o.count,.slice sa o.spaces.length sc,.slice ka o.keys.length kc] 25)).alloc (.cells #[.string s.pre,.slice ma s.members.length mc,.int .i64 s.threshold] 39)).alloc (.cells #[.int .i64 0,.slice none 0 0,.slice none 0 0] 25)).heap.size=w.heap.size+3:=by simp
 have ha0:=((At.new w 25 #[.int .i64 o.count,.slice sa o.spaces.length sc,.slice ka o.keys.length kc]).alloc (.cells #[.string s.pre,.slice ma s.members.length mc,.int .i64 s.threshold] 39)).alloc (.cells #[.int .i64 0,.slice none 0 0,.slice none 0 0] 25)
 have ha1:=(At.new1 w (.cells #[.int .i64 o.count,.slice sa o.spaces.length sc,.slice ka o.keys.length kc] 25) 39 #[.string s.pre,.slice ma s.members.length mc,.int .i64 s.threshold]).alloc (.cells #[.int .i64 0,.slice none 0 0,.slice none 0 0] 25)
 have ha2:=At.new ((w.alloc (.cells #[.int .i64 o.count,.slice sa o.spaces.length sc,.slice ka o.keys.length kc] 25)).alloc (.cells #[.string s.pre,.slice ma s.members.length mc,.int .i64 s.threshold] 39)) 25 #[.int .i64 0,.slice none 0 0,.slice none 0 0]
 rw[World.size_alloc,World.size_alloc] at ha2
 have hs1:=hS.below hb1;have hk1:=hK.below hb1
 obtain⟨c0,c1,c2⟩:=ha0.c3
 have HS:=zh hs1;have HK:=zh hk1;have HM:=zh hm;have HA:=zh hA;have A0:=zh ha0;have A1:=zh ha1;have A2:=zh ha2;have B1:=zh hb1;have HLM:=zh hlm;have HAL:=zh hal;have zdO:=zh hsrt
 clear hS hK hm hA hs1 hk1 ha0 ha1 ha2 hb1 hlm hal hsrt
 go_enter Tryz.func97,Tryz.ntmps97
 go_wp2_with fail
 generalize ((w.alloc (.cells #[.int .i64 o.count,.slice sa o.spaces.length sc,.slice ka o.keys.length kc] 25)).alloc (.cells #[.string s.pre,.slice ma s.members.length mc,.int .i64 s.threshold] 39)).alloc (.cells #[.int .i64 0,.slice none 0 0,.slice none 0 0] 25)=w1 at*
 refine(Ml o _ _ w1 HS.out HK.out hls (by omega) HLM.out).mono ?_
 rintro e w2 ⟨sv',kv',us,B,rfl,hB1,hB2,hsp,hin,hkr,hb2⟩
 obtain⟨sa',ss',zdP⟩:=hsp.slice
 subst zdP
 have HIN:=zh hin;clear hin
 obtain⟨ka',km',kc',rfl⟩:=Ad hkr
 obtain rfl:=Bf hkr
 have a1:=A1.out.below hb2 (by omega);have a2:=A2.out.below hb2 (by omega)
 have hbw2:=B1.out.trans (hb2.mono B1.out.size)
 have hz2:=hb2.size
 have A12:=zh a1;have A22:=zh a2;have BW2:=zh hbw2;have HSP:=zh hsp;have HKR:=zh hkr
 clear hb2 a1 a2 hbw2 hsp hkr HS HK A0 A1 A2 B1 HLM c0 c1 c2
 have hmm :=@run_makeMap Tryz.prog
 go_wp2_with fail
 clear hmm
 obtain⟨OB,hOB⟩:∃ OB,OB=w2.heap.size:=⟨_,rfl⟩
 have Z9:At ((w2.alloc (.cells #[.int .i64 o.count,.slice sa' o.spaces.length ss',.slice ka' o.keys.length kc'] 25)).alloc (.map #[] 0)) OB 25 #[.int .i64 o.count,.slice sa' o.spaces.length ss',.slice ka' o.keys.length kc']:=by rw[hOB];exact(At.new _ _ _).alloc _
 have zcr:Gm ((w2.alloc (.cells #[.int .i64 o.count,.slice sa' o.spaces.length ss',.slice ka' o.keys.length kc'] 25)).alloc (.map #[] 0)) (OB+1) 0 (Own.Ei []):=by
  have h:=Gm.made (w2.alloc (.cells #[.int .i64 o.count,.slice sa' o.spaces.length ss',.slice ka' o.keys.length kc'] 25))
  rw[World.size_alloc,<- hOB] at h
  exact h
 have hb3:Below B w2 ((w2.alloc (.cells #[.int .i64 o.count,.slice sa' o.spaces.length ss',.slice ka' o.keys.length kc'] 25)).alloc (.map #[] 0)):=((Below.refl B w2).alloc hB2 _).alloc (by simp;omega) _
 have zcs:=own_below HKR.out ((((Below.refl w2.heap.size w2).alloc (Nat.le_refl _) (.cells #[.int .i64 o.count,.slice sa' o.spaces.length ss',.slice ka' o.keys.length kc'] 25)).alloc (by simp) (.map #[] 0)))
 have zdQ:=zh Z9;have zdR:=zh zcr;have HB3:=zh hb3;have zdS:=zh zcs
 have zdT:B<=OB:=by omega
 have hBw:w.heap.size+3<=B:=by omega
 rw[<- hOB]
 clear Z9 zcr hb3 zcs HKR hOB
 generalize (w2.alloc (.cells #[.int .i64 o.count,.slice sa' o.spaces.length ss',.slice ka' o.keys.length kc'] 25)).alloc (.map #[] 0)=w3 at*
 go_loopw [23] (fun i wr=>∃ k:Nat,k<=l.length/\i=.int .i64 k/\∃ (seen:List ByteArray) (Kc:List Own.KeyUse) (kvc:Value),R=Own.Bp s msg seen Kc (l.drop k)/\Own.Srt Own.KeyUse.pub Kc/\Kc.length<=o.keys.length+k/\At wr OB 25 #[.int .i64 o.count,.slice sa' o.spaces.length ss',kvc]/\wr.ownsRow B 59 2 kvc Kc.length (Kc.flatMap Own.DL)/\Gm wr (OB+1) k (Own.Ei seen)/\Below B w2 wr) (fun i _=>l.length-(intOf i).toNat)
 case atStart=>exact⟨0,by omega,rfl,[],o.keys,_,by rw[HR.out];rfl,zdO.out,by omega,zdQ.out,zdS.out,zdR.out,HB3.out⟩
 case round=>
  obtain⟨k,hk,rfl,seen,Kc,kvc,hR,hsr,hkl,hat,hown,hsm,hb⟩:=hrel
  have HRR:=zh hR;have HSR:=zh hsr;have HAT:=zh hat;have HOWN:=zh hown;have HSM:=zh hsm;have HB:=zh hb
  have hbs:=hb.size
  have zdU:OB<wr.heap.size:=hat.lt
  have zdV:OB+1<wr.heap.size:=hsm.lt
  have TWR:=zh (A22.out.below hb (by omega))
  have SWR:=zh (A12.out.below hb (by omega))
  have zav:=BW2.out.trans (hb.mono (by omega))
  have MWR:=zh (HM.out.below zav)
  have BWR:=zh zav
  clear hR hsr hat hown hsm hb zav
  by_cases hlt:k<l.length
  case neg=>
   have hke:k=l.length:=by omega
   have dk:decide ((k:Int)<l.length)=false:=zf
   have hR2:R=.ok Kc:=by rw[HRR.out,hke,List.drop_length];rfl
   have HR2:=zh hR2
   have s2:=SWR.out.cell 2
   have q0:=HAT.out.cell 0;have q1:=HAT.out.cell 1;have q2:=HAT.out.cell 2
   have x0:=TWR.out.cell 0;have x1:=TWR.out.cell 1;have x2:=TWR.out.cell 2;have x3:=TWR.out.free 0;have x4:=TWR.out.free 1;have x5:=TWR.out.free 2
   simp only[zg] at s2 q0 q1 q2 x0 x1 x2
   clear hR2 hke
   by_cases hth:(l.length:Int)<s.threshold
   ·have dt:decide ((l.length:Int)<s.threshold)=true:=decide_eq_true hth
    go_wp2_with fail
    have F2:=((TWR.out.set 0 (.int .i64 0)).set 1 (.slice none 0 0)).set 2 (.slice none 0 0)
    refine BM rfl rfl rfl (AQ F2 Tryz.underlying25 rfl Bv) ?_
    rw[HQ.out,HR2.out]
    refine⟨?_,((BWR.out.setCell (p:=⟨w.heap.size+1+1,0,none⟩) (by show w.heap.size<=w.heap.size+1+1;omega) _).setCell (p:=⟨w.heap.size+1+1,1,none⟩) (by show w.heap.size<=w.heap.size+1+1;omega) _).setCell (p:=⟨w.heap.size+1+1,2,none⟩) (by show w.heap.size<=w.heap.size+1+1;omega) _⟩
    show if _ then _ else _
    rw[if_pos hth]
    rfl
   ·have dt:decide ((l.length:Int)<s.threshold)=false:=decide_eq_false hth
    obtain⟨va,vm,vc,rfl⟩:=Ad HOWN.out
    go_wp2_with fail
    have F2:=((TWR.out.set 0 (.int .i64 o.count)).set 1 (.slice sa' o.spaces.length ss')).set 2 (.slice va vm vc)
    refine BM rfl rfl rfl (AQ F2 Tryz.underlying25 rfl Bv) ?_
    rw[HQ.out,HR2.out]
    have Jb:∀ j,j≠w.heap.size+1+1->(((wr.setCell ⟨w.heap.size+1+1,0,none⟩ (.int .i64 o.count)).setCell ⟨w.heap.size+1+1,1,none⟩ (.slice sa' o.spaces.length ss')).setCell ⟨w.heap.size+1+1,2,none⟩ (.slice va vm vc)).heap[j]? = wr.heap[j]? :=fun j hj=>by
     rw[zo hj,zo hj,zo hj]
    refine⟨?_,((BWR.out.setCell (p:=⟨w.heap.size+1+1,0,none⟩) (by show w.heap.size<=w.heap.size+1+1;omega) _).setCell (p:=⟨w.heap.size+1+1,1,none⟩) (by show w.heap.size<=w.heap.size+1+1;omega) _).setCell (p:=⟨w.heap.size+1+1,2,none⟩) (by show w.heap.size<=w.heap.size+1+1;omega) _⟩
    show if _ then _ else _
    rw[if_neg (by omega)]
    refine⟨_,_,us,rfl,?_,?_⟩
    ·exact(HSP.out.keep HIN.out (fun k hk hk2=>(Jb k (by omega)).trans (HB.out.block k hk2))).base (by omega)
    ·exact CO (Af HOWN.out (fun j hj=>Jb j (by have:=Al HOWN.out j hj;omega))) (by omega)
  have dk:decide ((k:Int)<l.length)=true:=zt
  obtain⟨_,_,he,hap⟩:=HA.out.below BWR.out
  cases he
  obtain⟨b,q,cv,pv,ha,hbl,e0,e1,e2,e3,hcs,hps,hcap⟩:=hap k hlt
  subst ha
  obtain⟨al1,al2,al3⟩:=HAL.out l[k] (List.getElem_mem hlt)
  have hdr:l.drop k=l[k]::l.drop (k+1):=List.drop_eq_getElem_cons hlt
  have hR1:=HRR.out
  rw[hdr] at hR1
  obtain⟨ap,zaw⟩:∃ x,x=l[k]:=⟨_,rfl⟩
  rw[<- zaw] at e0 e1 hcs hps al1 al2 al3 hR1
  obtain⟨ca,cc,rfl⟩:=hcs.len
  obtain⟨pa,pc,rfl⟩:=hps.len
  have HR1:=zh hR1
  obtain⟨nm,⟨ix,chs,pth⟩⟩:=ap
  dsimp only at e0 e1 e2 e3 hcs hps al1 al2 al3
  have hb5:Below wr.heap.size wr (wr.alloc (.cells #[.string nm,.int .i64 ix,.slice ca chs.length cc,.slice pa pth.length pc] 72)):=zb
  have hz5:(wr.alloc (.cells #[.string nm,.int .i64 ix,.slice ca chs.length cc,.slice pa pth.length pc] 72)).heap.size=wr.heap.size+1:=World.size_alloc _ _
  have n5:=At.new wr 72 #[.string nm,.int .i64 ix,.slice ca chs.length cc,.slice pa pth.length pc]
  have s5:=SWR.out.below hb5 (by omega)
  obtain⟨s0,s1,s2⟩:=s5.c3
  have hcall:=fun(W:World) (hW:Own.Ag W (.slice ma s.members.length mc) s.members)=>OD s.pre s.threshold (.slice ma s.members.length mc) s.members nm W hW (by omega)
  have HC5:=zh (hcs.below hb5);have HP5:=zh (hps.below hb5);have HB5:=zh hb5;have N5:=zh n5;have yR:=zh hcall;have HCAP:=zh hcap;have zeA:=zh zaw
  have zct:Own.Ag (wr.alloc (.cells #[.string nm,.int .i64 ix,.slice ca chs.length cc,.slice pa pth.length pc] 72)) (.slice ma s.members.length mc) s.members:=MWR.out.below hb5
  have MW5:=zh zct
  clear hap hdr hR1 hcs hps hb5 n5 s5 hcall zct zaw hcap HRR
  go_wp2_with fail
  refine(yR.out _ MW5.out).mono ?_
  intro e w6 hpost
  obtain⟨hval,hb6⟩:=hpost
  have TU:=HB5.out.trans (hb6.mono HB5.out.size)
  have n6:=N5.out.below hb6 (by omega)
  have HB6:=zh TU
  have N6:=zh n6
  have HC6:=zh (HC5.out.below hb6);have HP6:=zh (HP5.out.below hb6)
  have TW6:=zh (TWR.out.below TU TWR.out.lt)
  have BW6:=zh (BWR.out.trans (TU.mono BWR.out.size))
  have hz6:=hb6.size
  clear hb6 TU n6 HC5 HP5 HB5 N5 MW5 yR s0 s1 s2
  cases hf:Own.find s.members nm with
  | none =>
    rw[hf] at hval
    have NH:e=.returned (.tuple #[.agg #[.string ⟨#[]⟩,.string ⟨#[]⟩],.bool false]):=hval
    subst NH
    have e:R=.error 6:=by rw[HR1.out,Own.Bp,hf]
    have HE:=zh e
    have TW:=zh (TW6.out.alloc (.cells #[.string ⟨#[]⟩,.string ⟨#[]⟩] 76))
    have TB:=zh (BW6.out.alloc BW6.out.size (.cells #[.string ⟨#[]⟩,.string ⟨#[]⟩] 76))
    have x0:=TW.out.cell 0;have x1:=TW.out.cell 1;have x2:=TW.out.cell 2;have x3:=TW.out.free 0;have x4:=TW.out.free 1;have x5:=TW.out.free 2
    simp only[zg] at x0 x1 x2
    clear e hf hval
    go_wp2_with fail
    have F2:=((TW.out.set 0 (.int .i64 0)).set 1 (.slice none 0 0)).set 2 (.slice none 0 0)
    refine BM rfl rfl rfl (AQ F2 Tryz.underlying25 rfl Bv) ?_
    rw[HQ.out,HE.out]
    exact⟨rfl,((TB.out.setCell (p:=⟨w.heap.size+1+1,0,none⟩) (by show w.heap.size<=w.heap.size+1+1;omega) _).setCell (p:=⟨w.heap.size+1+1,1,none⟩) (by show w.heap.size<=w.heap.size+1+1;omega) _).setCell (p:=⟨w.heap.size+1+1,2,none⟩) (by show w.heap.size<=w.heap.size+1+1;omega) _⟩
  | some m=>
  rw[hf] at hval
  have NH:e=.returned (.tuple #[.agg #[.string m.name,.string m.pub],.bool true]):=hval
  subst NH
  have hR2:R=if seen.any (fun x=>decide (x=nm)) then .error 5 else if Sig.verify m.pub msg ⟨ix,chs,pth⟩ then (if ix<Own.Bj Kc m.pub then .error 8 else Own.Bp s msg (nm::seen) (Own.use Kc ⟨m.pub,ix+1⟩) (l.drop (k+1))) else .error 18:=by rw[HR1.out,Own.Bp,hf]
  have HR2:=zh hR2
  have hb7:Below w6.heap.size w6 (w6.alloc (.cells #[.string m.name,.string m.pub] 76)):=zb
  have hz7:(w6.alloc (.cells #[.string m.name,.string m.pub] 76)).heap.size=w6.heap.size+1:=World.size_alloc _ _
  have m7:=At.new w6 76 #[.string m.name,.string m.pub]
  have n7:=N6.out.below hb7 (by omega)
  have zax:=(HSM.out.below HB6.out zdV).below hb7 (by omega)
  have TW:=zh (TW6.out.below hb7 (by omega))
  have TB:=zh (BW6.out.trans (hb7.mono BW6.out.size))
  have zcu:=HB6.out.trans (hb7.mono HB6.out.size)
  have Ow:=zax.aS (t:=172) (e:=4) Tryz.underlying172 (.bool false) (WH _) nm (by unfold maxLen;omega)
  have HC7:=zh (HC6.out.below hb7);have HP7:=zh (HP6.out.below hb7);have HB7:=zh zcu;have N7:=zh n7;have M7:=zh m7;have SM7:=zh zax
  clear hR2 hval hf HR1 hb7 m7 n7 zax zcu HC6 HP6 N6 TW6 BW6
  obtain⟨y0,y1,y2,y3⟩:=N7.out.c4;obtain⟨p0,p1⟩:=M7.out.c2
  cases hsn:seen.any fun x=>decide (x=nm) with
  | true =>
    have e:R=.error 5:=by rw[HR2.out,hsn];rfl
    have hv:(Own.Ei seen nm).getD (.bool false)=.bool true:=by unfold Own.Ei;rw[hsn];rfl
    rw[hv] at Ow
    have HE:=zh e
    have x0:=TW.out.cell 0;have x1:=TW.out.cell 1;have x2:=TW.out.cell 2;have x3:=TW.out.free 0;have x4:=TW.out.free 1;have x5:=TW.out.free 2
    simp only[zg] at x0 x1 x2
    clear e hv hsn
    go_wp2_with fail
    have F2:=((TW.out.set 0 (.int .i64 0)).set 1 (.slice none 0 0)).set 2 (.slice none 0 0)
    refine BM rfl rfl rfl (AQ F2 Tryz.underlying25 rfl Bv) ?_
    rw[HQ.out,HE.out]
    exact⟨rfl,((TB.out.setCell (p:=⟨w.heap.size+1+1,0,none⟩) (by show w.heap.size<=w.heap.size+1+1;omega) _).setCell (p:=⟨w.heap.size+1+1,1,none⟩) (by show w.heap.size<=w.heap.size+1+1;omega) _).setCell (p:=⟨w.heap.size+1+1,2,none⟩) (by show w.heap.size<=w.heap.size+1+1;omega) _⟩
  | false=>
  have hv:(Own.Ei seen nm).getD (.bool false)=.bool false:=by unfold Own.Ei;rw[hsn];rfl
  rw[hv] at Ow
  have hR3:R=if Sig.verify m.pub msg ⟨ix,chs,pth⟩ then (if ix<Own.Bj Kc m.pub then .error 8 else Own.Bp s msg (nm::seen) (Own.use Kc ⟨m.pub,ix+1⟩) (l.drop (k+1))) else .error 18:=by rw[HR2.out,hsn];rfl
  have HR3:=zh hR3
  have zcv:=ZO m.pub msg ⟨ix,chs,pth⟩ (.slice ca chs.length cc) (.slice pa pth.length pc) _ HC7.out HP7.out HCAP.out al2 al3 Ku
  have zcw:=zh zcv
  clear hv hsn hR3 HR2 zcv
  go_wp2_with fail
  refine zcw.out.mono ?_
  rintro e w8 ⟨rfl,hb8⟩
  have zcx:=HB7.out.trans (hb8.mono HB7.out.size)
  have TW8:=zh (TW.out.below hb8 TW.out.lt)
  have TB8:=zh (TB.out.trans (hb8.mono TB.out.size))
  have N8:=zh (N7.out.below hb8 N7.out.lt)
  have M8:=zh (M7.out.below hb8 M7.out.lt)
  have SM8:=zh (SM7.out.below hb8 SM7.out.lt)
  have HB8:=zh zcx
  have hz8:=hb8.size
  clear hb8 zcx TW TB N7 M7 SM7 HB7 zcw HC7 HP7 Ow y0 y1 y2 y3 p0 p1
  cases hvf:Sig.verify m.pub msg ⟨ix,chs,pth⟩ with
  | false =>
    have e:R=.error 18:=by rw[HR3.out,hvf];rfl
    have HE:=zh e
    have TW:=TW8;have TB:=TB8
    have x0:=TW.out.cell 0;have x1:=TW.out.cell 1;have x2:=TW.out.cell 2;have x3:=TW.out.free 0;have x4:=TW.out.free 1;have x5:=TW.out.free 2
    simp only[zg] at x0 x1 x2
    clear e hvf
    go_wp2_with fail
    have F2:=((TW.out.set 0 (.int .i64 0)).set 1 (.slice none 0 0)).set 2 (.slice none 0 0)
    refine BM rfl rfl rfl (AQ F2 Tryz.underlying25 rfl Bv) ?_
    rw[HQ.out,HE.out]
    exact⟨rfl,((TB.out.setCell (p:=⟨w.heap.size+1+1,0,none⟩) (by show w.heap.size<=w.heap.size+1+1;omega) _).setCell (p:=⟨w.heap.size+1+1,1,none⟩) (by show w.heap.size<=w.heap.size+1+1;omega) _).setCell (p:=⟨w.heap.size+1+1,2,none⟩) (by show w.heap.size<=w.heap.size+1+1;omega) _⟩
  | true=>
  obtain⟨zdW,zcy⟩:=Own.nQ hvf
  dsimp only at zdW zcy
  have hR4:R=if ix<Own.Bj Kc m.pub then .error 8 else Own.Bp s msg (nm::seen) (Own.use Kc ⟨m.pub,ix+1⟩) (l.drop (k+1)):=by rw[HR3.out,hvf];rfl
  have HR4:=zh hR4
  obtain⟨y0,y1,y2,y3⟩:=N8.out.c4;obtain⟨p0,p1⟩:=M8.out.c2
  clear hvf hR4 HR3
  go_upto_region 13 with fail
  go_upto_region 14 with (at_mapUpdate;go_must (refine Yj rfl _ _ _ 172 4 rfl Tryz.underlying172 SM8.out (by unfold maxLen;omega) rfl nm (.bool true) rfl rfl (by unfold maxLen;omega) ?_);intro w9 hm9 hg9;have HM9:=zh hm9;have HG9:=zh hg9;clear hm9 hg9)
  have ne1:OB≠OB+1:=by omega
  have sU:=HB8.out
  have XW:=HAT.out.below sU zdU
  have kG:=own_below HOWN.out sU
  have zcz:∀ j,kvc.ownBlock=some j->j≠OB+1:=fun j hj=>by
   obtain⟨cur,hc⟩:=Dq kG hj
   exact SM8.out.kE hc
  have Qd:∀ j,j<w8.heap.size->j≠OB+1->w9.heap[j]? = w8.heap[j]? :=fun j hj hne=>HG9.out.block j hj (fun e=>hne (Option.some.inj e))
  have nR:=XW.keep (Qd OB XW.lt ne1)
  have bf:=Af kG (fun j hj=>Qd j (by obtain⟨cur,hc⟩:=Dq kG hj;exact hc.lt) (zcz j hj))
  have n9:=N8.out.keep (Qd _ N8.out.lt (by omega))
  have m9:=M8.out.keep (Qd _ M8.out.lt (by omega))
  have tw9:=TW8.out.keep (Qd _ TW8.out.lt (by omega))
  have zc0:Gm w9 (OB+1) (k+1) (Own.Ei (nm::seen)):=by rw[Own.Yp];exact HM9.out
  have zc1:Below B w2 w9:=(HB.out.trans (sU.mono (by omega))).grown HG9.out (by have:=sU.size;omega) (fun j hj=>by cases hj;omega)
  obtain⟨o0,o1,o2⟩:=nR.c3;obtain⟨p0,p1⟩:=m9.c2
  have hz9:=HG9.out.size
  obtain⟨va,vm,vc,rfl⟩:=Ad bf
  obtain rfl:=Bf bf
  have hkey:=nP o.count (.slice sa' o.spaces.length ss') (.slice va Kc.length vc) Kc m.pub w9 (Own.DJ.of (Bh.own bf) rfl) HSR.out (by omega)
  obtain⟨P,hP⟩:∃ P:Nat,P=Own.posB Own.KeyUse.pub m.pub Kc:=⟨_,rfl⟩
  rw[<- hP] at hkey
  have HP:=zh hP;have HKEY:=zh hkey;have KZ:=zh nR;have yT:=zh bf;have N9:=zh n9;have M9:=zh m9;have TW9:=zh tw9;have SM9:=zh zc0;have zc2:=zh zc1
  clear sU XW kG zcz Qd nR bf n9 m9 tw9 zc0 zc1 hP hkey HM9 HG9 HAT HOWN N8 M8 TW8 SM8 TWR SWR MWR HSM HB HB6 y0 y1 y2 y3
  go_wp2_with fail
  refine HKEY.out.mono ?_
  rintro e w10 ⟨rfl,J7⟩
  have Jc:=zh (KZ.out.below J7 KZ.out.lt);have La:=zh (own_below yT.out J7);have N10:=zh (N9.out.below J7 N9.out.lt);have M10:=zh (M9.out.below J7 M9.out.lt);have zay:=zh (TW9.out.below J7 TW9.out.lt);have nS:=zh (SM9.out.below J7 SM9.out.lt)
  have zeB:=J7.size
  have sV:=zh (zc2.out.trans (J7.mono (by omega)))
  clear J7 HKEY KZ yT N9 M9 TW9 SM9 zc2 o0 o1 o2 p0 p1
  cases hh:Own.Dx Own.KeyUse.pub m.pub Kc with
  | true =>
    obtain⟨K1,hK1⟩:∃ K1,K1=Kc:=⟨_,rfl⟩
    have hpl:Own.Placed Kc K1 m.pub:=by rw[hK1];exact Own.iA HSR.out hh
    have PL:=zh hpl
    have Ed:=La.out
    have at1:=Jc.out
    rw[<- hK1] at Ed at1
    have OWN:=zh Ed;have AT:=zh at1;have NN:=N10;have TWW:=zay;have SMW:=nS;have sW:=sV
    clear hpl Ed at1 hK1 hh La Jc
    go_wp2_with fail
    obtain⟨hPl,hPp,hPn⟩:=PL.out.at_
    have hPu:=PL.out.use (ix+1)
    have zc3:=PL.out.len
    rw[<- HP.out] at hPu
    have sZ : P<K1.length:=by rw[HP.out];exact hPl
    have zaz : K1[P].pub=m.pub:=by rw[<- hPp];congr 2
    have za0 : K1[P].next=Own.Bj Kc m.pub:=by rw[<- hPn];congr 2
    clear hPl hPp hPn
    obtain⟨g,cap,hv,_⟩:=CB OWN.out (by omega)
    cases hv
    obtain⟨ys,Yq,hbg,hnc,hcm,hcl,hxl⟩:=GK OWN.out
    have tq:w10.cell? ⟨g,P*2+1,none⟩=some (.int .i64 (Own.Bj Kc m.pub)):=by
     rw[Yq.cell]
     have h:=aX K1 P sZ
     rw[za0] at h
     rw[List.getElem?_toArray,List.getElem?_append_left (List.getElem?_eq_some_iff.1 h).1,h]
    have zc4:=Yq.free (P*2+1)
    obtain⟨o0,o1,o2⟩:=AT.out.c3;obtain⟨y0,y1,y2,y3⟩:=NN.out.c4
    obtain⟨nx,hnx⟩:∃ nx,nx=Own.Bj Kc m.pub:=⟨_,rfl⟩
    rw[<- hnx] at tq
    have HR5:=HR4.out
    rw[<- hnx,hPu] at HR5
    have HPU:=zh hPu
    have Vr:=zh Yq
    have HXL:=zh hxl
    clear Yq hnx hPu hxl
    by_cases hix:ix<nx
    ·have dx:decide (ix<nx)=true:=decide_eq_true hix
     have e:R=.error 8:=by rw[HR5,if_pos hix]
     have HE:=zh e
     have TW:Hid (At w10.drew (w.heap.size+1+1) 25 #[.int .i64 0,.slice none 0 0,.slice none 0 0]):=zh TWW.out.drew
     have TB:=zh (BW2.out.trans (sW.out.mono (by omega))).drew
     have x0:=TWW.out.cell 0;have x1:=TWW.out.cell 1;have x2:=TWW.out.cell 2;have x3:=TWW.out.free 0;have x4:=TWW.out.free 1;have x5:=TWW.out.free 2
     simp only[zg] at x0 x1 x2
     clear e HR5
     go_wp2_with fail
     refine Lex.zl ?_
     go_wp2_with fail
     refine Lex.ze ?_
     go_wp2_with fail
     have F2:=((TW.out.set 0 (.int .i64 0)).set 1 (.slice none 0 0)).set 2 (.slice none 0 0)
     refine BM rfl rfl rfl (AQ F2 Tryz.underlying25 rfl Bv) ?_
     rw[HQ.out,HE.out]
     exact⟨rfl,((TB.out.setCell (p:=⟨w.heap.size+1+1,0,none⟩) (by show w.heap.size<=w.heap.size+1+1;omega) _).setCell (p:=⟨w.heap.size+1+1,1,none⟩) (by show w.heap.size<=w.heap.size+1+1;omega) _).setCell (p:=⟨w.heap.size+1+1,2,none⟩) (by show w.heap.size<=w.heap.size+1+1;omega) _⟩
    ·have dx:decide (ix<nx)=false:=decide_eq_false hix
     have e:R=Own.Bp s msg (nm::seen) (K1.set P ⟨m.pub,ix+1⟩) (l.drop (k+1)):=by rw[HR5,if_neg hix]
     have HE:=zh e
     have hw:wrap64 (ix+1)=ix+1:=by unfold wrap64;omega
     clear e HR5
     go_wp2_with fail
     refine Lex.zl ?_
     go_wp2_with fail
     refine Lex.ze ?_
     go_wp2_with fail
     have hgo:OB≠g:=AT.out.ne Vr.out (by decide)
     have hgm:g≠OB+1:=SMW.out.kE Vr.out
     refine⟨⟨k+1,by omega,by go_num,nm::seen,K1.set P ⟨m.pub,ix+1⟩,_,HE.out,?_,by rw[List.length_set];omega,(AT.out.far (p:=⟨g,P*2+1,none⟩) hgo _).drew,?_,?_,?_⟩,by simp[intOf];omega⟩
     ·rw[<- HPU.out,Own.FH]
      exact Own.Srt.put _ HSR.out
     ·rw[List.length_set]
      have h1:=Vr.out.set (P*2+1) (.int .i64 (ix+1))
      have h2:=Uh K1 P sZ (ix+1)
      rw[zaz] at h2
      rw[<- h2]
      have e1:((K1.flatMap Own.DL++ys).toArray.setIfInBounds (P*2+1) (.int .i64 (ix+1)))=((K1.flatMap Own.DL).set (P*2+1) (.int .i64 (ix+1))++ys).toArray:=by
       rw[List.setIfInBounds_toArray,List.set_append_left _ _ (by rw[HXL.out];omega)]
      rw[e1] at h1
      exact DW h1.drew hbg hnc hcm (by simpa using hcl) (by rw[List.take_append_of_le_length (by rw[List.length_set,HXL.out];exact Nat.le_refl _),List.take_of_length_le (by rw[List.length_set,HXL.out];exact Nat.le_refl _)])
     ·exact SMW.out.keep (zo (by show OB+1≠g;exact fun e=>hgm e.symm))
     ·exact(sW.out.setCell (p:=⟨g,P*2+1,none⟩) hbg _).drew
  | false =>
    obtain⟨K1,hK1⟩:∃ K1,K1=Kc.take P++(⟨m.pub,0⟩::Kc.drop P):=⟨_,rfl⟩
    have hpl:Own.Placed Kc K1 m.pub:=by rw[hK1,HP.out];exact Own.aY HSR.out hh
    have PL:=zh hpl
    have zc5:P<=Kc.length:=by rw[HP.out];exact Own.Ol _ _
    have Rm:Below w10.heap.size w10 (w10.alloc (.cells #[.string m.pub,.int .i64 0] 59)):=zb
    have wO:(w10.alloc (.cells #[.string m.pub,.int .i64 0] 59)).heap.size=w10.heap.size+1:=World.size_alloc _ _
    have n11:=At.new w10 59 #[.string m.pub,.int .i64 0]
    have yU:=own_below La.out Rm
    have hins:=aU B Kc.length P w10.heap.size _ (Kc.flatMap Own.DL) [.string m.pub,.int .i64 0] _ yU (Own.yQ _) zc5 (by omega) rfl n11 (by intro u hu;simp at hu;rcases hu with rfl|rfl<;>rfl) (fun e=>by obtain⟨cur,hc⟩:=Dq La.out e;have:=hc.lt;omega) (by omega)
    have zc6:(Kc.flatMap Own.DL).take (P*2)++([.string m.pub,.int .i64 0]++(Kc.flatMap Own.DL).drop (P*2))=K1.flatMap Own.DL:=by
     have e1:Kc.flatMap Own.DL=(Kc.take P).flatMap Own.DL++(Kc.drop P).flatMap Own.DL:=by rw[<- List.flatMap_append,List.take_append_drop]
     have e2:((Kc.take P).flatMap Own.DL).length=P*2:=by rw[Own.Vq,List.length_take,Nat.min_eq_left zc5]
     rw[hK1,List.flatMap_append,List.flatMap_cons,e1,<- e2,List.take_left,List.drop_left]
     rfl
    have zc7:K1.length=Kc.length+1:=by rw[hK1];simp;omega
    have wP:=zh hins;have za1:=zh Rm;have zc8:=zh zc6;have zdX:=zh zc7
    have o0:=(Jc.out.below Rm Jc.out.lt).cell 0;have o1:=(Jc.out.below Rm Jc.out.lt).cell 1
    have o2':=Jc.out.cell 2
    have p1:=M10.out.cell 1
    simp only[zg] at o0 o1 o2' p1
    clear hpl hK1 hh Rm n11 yU hins zc6 zc7
    go_wp2_with fail
    refine wP.out.mono ?_
    rintro e w11 ⟨v',rfl,ho',Uj,zdY⟩
    rw[zc8.out] at ho'
    have hkeep:∀ j (t:TypeId) (cs:Array Value),At w10 j t cs->t≠59->At w11 j t cs:=fun j t cs h ht=>by
     have h1:=h.alloc (.cells #[.string m.pub,.int .i64 0] 59)
     exact h1.grown Uj (fun e=>by
      obtain⟨cur,hc⟩:=Dq La.out e.symm
      exact h.ne hc ht rfl)
    have iB:=hkeep _ _ _ Jc.out (by decide)
    have zc9:=hkeep _ _ _ N10.out (by decide)
    have zcA:=hkeep _ _ _ zay.out (by decide)
    have zcB:Gm w11 (OB+1) (k+1) (Own.Ei (nm::seen)):=(nS.out.below za1.out nS.out.lt).keep (Uj.block (OB+1) (by rw[wO];have:=nS.out.lt;omega) (fun e=>by
     obtain⟨cur,hc⟩:=Dq La.out e.symm
     exact nS.out.kE hc rfl))
    have yV : Below B w2 w11:=(sV.out.trans (za1.out.mono (by omega))).grown Uj (by rw[wO];omega) (fun j hj=>Al La.out j hj)
    have ze0:=Uj.size
    obtain⟨xa,xm,xc,rfl⟩:=Ad ho'
    rw[<- zdX.out] at ho'
    obtain rfl:=Bf ho'
    have zcC:OB≠OB+1:=by omega
    have yX:(Value.slice xa K1.length xc).ownBlock≠some OB:=iB.own_ne ho' (by decide)
    have q0:=iB.cell 0;have q1:=iB.cell 1;have q2:=iB.cell 2;have q3:=iB.free 2
    simp only[zg] at q0 q1 q2
    have zcD:=zh iB;have zcE:=zh zc9;have zcF:=zh zcA;have zcG:=zh zcB;have yY:=zh yV;have zcH:=zh ho'
    clear hkeep iB zc9 zcA zcB yV ho' Uj zdY wP za1 zc8 La Jc N10 zay nS sV M10 o0 o1 o2' p1
    go_upto_region 17 with fail
    have atw:At (w11.setCell ⟨OB,2,none⟩ (.slice xa K1.length xc)) OB 25 #[.int .i64 o.count,.slice sa' o.spaces.length ss',.slice xa K1.length xc]:=zcD.out.set 2 (.slice xa K1.length xc)
    have zcI:(w11.setCell ⟨OB,2,none⟩ (.slice xa K1.length xc)).ownsRow B 59 2 (.slice xa K1.length xc) K1.length (K1.flatMap Own.DL):=Af zcH.out (fun j hj=>zo (by rintro rfl;exact yX hj))
    have nnw:=zcE.out.far (p:=⟨OB,2,none⟩) (by show wr.heap.size≠OB;omega) (.slice xa K1.length xc)
    have tww:=zcF.out.far (p:=⟨OB,2,none⟩) (by show w.heap.size+1+1≠OB;omega) (.slice xa K1.length xc)
    have smw:Gm (w11.setCell ⟨OB,2,none⟩ (.slice xa K1.length xc)) (OB+1) (k+1) (Own.Ei (nm::seen)):=zcG.out.keep (zo (by show OB+1≠OB;omega))
    have zcJ:=yY.out.setCell (p:=⟨OB,2,none⟩) zdT (.slice xa K1.length xc)
    have OWN:=zh zcI;have AT:=zh atw;have NN:=zh nnw;have TWW:=zh tww;have SMW:=zh smw;have sW:=zh zcJ
    clear atw zcI nnw tww smw zcJ q0 q1 q2 q3 yX zcD zcE zcF zcG yY zcH zcC
    generalize w11.setCell ⟨OB,2,none⟩ (.slice xa K1.length xc)=w12 at*
    obtain⟨hPl,hPp,hPn⟩:=PL.out.at_
    have hPu:=PL.out.use (ix+1)
    have zc3:=PL.out.len
    rw[<- HP.out] at hPu
    have sZ : P<K1.length:=by rw[HP.out];exact hPl
    have zaz : K1[P].pub=m.pub:=by rw[<- hPp];congr 2
    have za0 : K1[P].next=Own.Bj Kc m.pub:=by rw[<- hPn];congr 2
    clear hPl hPp hPn
    obtain⟨g,cap,hv,_⟩:=CB OWN.out (by omega)
    cases hv
    obtain⟨ys,Yq,hbg,hnc,hcm,hcl,hxl⟩:=GK OWN.out
    have tq:w12.cell? ⟨g,P*2+1,none⟩=some (.int .i64 (Own.Bj Kc m.pub)):=by
     rw[Yq.cell]
     have h:=aX K1 P sZ
     rw[za0] at h
     rw[List.getElem?_toArray,List.getElem?_append_left (List.getElem?_eq_some_iff.1 h).1,h]
    have zc4:=Yq.free (P*2+1)
    obtain⟨o0,o1,o2⟩:=AT.out.c3;obtain⟨y0,y1,y2,y3⟩:=NN.out.c4
    obtain⟨nx,hnx⟩:∃ nx,nx=Own.Bj Kc m.pub:=⟨_,rfl⟩
    rw[<- hnx] at tq
    have HR5:=HR4.out
    rw[<- hnx,hPu] at HR5
    have HPU:=zh hPu
    have Vr:=zh Yq
    have HXL:=zh hxl
    clear Yq hnx hPu hxl
    by_cases hix:ix<nx
    ·have dx:decide (ix<nx)=true:=decide_eq_true hix
     have e:R=.error 8:=by rw[HR5,if_pos hix]
     have HE:=zh e
     have TW:Hid (At w12.drew (w.heap.size+1+1) 25 #[.int .i64 0,.slice none 0 0,.slice none 0 0]):=zh TWW.out.drew
     have TB:=zh (BW2.out.trans (sW.out.mono (by omega))).drew
     have x0:=TWW.out.cell 0;have x1:=TWW.out.cell 1;have x2:=TWW.out.cell 2;have x3:=TWW.out.free 0;have x4:=TWW.out.free 1;have x5:=TWW.out.free 2
     simp only[zg] at x0 x1 x2
     clear e HR5
     go_wp2_with fail
     refine Lex.zl ?_
     go_wp2_with fail
     refine Lex.ze ?_
     go_wp2_with fail
     have F2:=((TW.out.set 0 (.int .i64 0)).set 1 (.slice none 0 0)).set 2 (.slice none 0 0)
     refine BM rfl rfl rfl (AQ F2 Tryz.underlying25 rfl Bv) ?_
     rw[HQ.out,HE.out]
     exact⟨rfl,((TB.out.setCell (p:=⟨w.heap.size+1+1,0,none⟩) (by show w.heap.size<=w.heap.size+1+1;omega) _).setCell (p:=⟨w.heap.size+1+1,1,none⟩) (by show w.heap.size<=w.heap.size+1+1;omega) _).setCell (p:=⟨w.heap.size+1+1,2,none⟩) (by show w.heap.size<=w.heap.size+1+1;omega) _⟩
    ·have dx:decide (ix<nx)=false:=decide_eq_false hix
     have e:R=Own.Bp s msg (nm::seen) (K1.set P ⟨m.pub,ix+1⟩) (l.drop (k+1)):=by rw[HR5,if_neg hix]
     have HE:=zh e
     have hw:wrap64 (ix+1)=ix+1:=by unfold wrap64;omega
     clear e HR5
     go_wp2_with fail
     refine Lex.zl ?_
     go_wp2_with fail
     refine Lex.ze ?_
     go_wp2_with fail
     have hgo:OB≠g:=AT.out.ne Vr.out (by decide)
     have hgm:g≠OB+1:=SMW.out.kE Vr.out
     refine⟨⟨k+1,by omega,by go_num,nm::seen,K1.set P ⟨m.pub,ix+1⟩,_,HE.out,?_,by rw[List.length_set];omega,(AT.out.far (p:=⟨g,P*2+1,none⟩) hgo _).drew,?_,?_,?_⟩,by simp[intOf];omega⟩
     ·rw[<- HPU.out,Own.FH]
      exact Own.Srt.put _ HSR.out
     ·rw[List.length_set]
      have h1:=Vr.out.set (P*2+1) (.int .i64 (ix+1))
      have h2:=Uh K1 P sZ (ix+1)
      rw[zaz] at h2
      rw[<- h2]
      have e1:((K1.flatMap Own.DL++ys).toArray.setIfInBounds (P*2+1) (.int .i64 (ix+1)))=((K1.flatMap Own.DL).set (P*2+1) (.int .i64 (ix+1))++ys).toArray:=by
       rw[List.setIfInBounds_toArray,List.set_append_left _ _ (by rw[HXL.out];omega)]
      rw[e1] at h1
      exact DW h1.drew hbg hnc hcm (by simpa using hcl) (by rw[List.take_append_of_le_length (by rw[List.length_set,HXL.out];exact Nat.le_refl _),List.take_of_length_le (by rw[List.length_set,HXL.out];exact Nat.le_refl _)])
     ·exact SMW.out.keep (zo (by show OB+1≠g;exact fun e=>hgm e.symm))
     ·exact(sW.out.setCell (p:=⟨g,P*2+1,none⟩) hbg _).drew
namespace Own
end Own
namespace Own
def Yr (w:World)(v:Value)(l:List Aj):Prop:=∃ a c,v=.slice a l.length c/\∀ i (hi:i<l.length),∃ b o cv pv,a=some ⟨b,o,none⟩/\b<w.heap.size/\w.cell? ⟨b,o+i*4,none⟩=some (.string l[i].name)/\w.cell? ⟨b,o+i*4+1,none⟩=some (.int .i64 l[i].sig.index)/\
 w.cell? ⟨b,o+i*4+2,none⟩=some cv/\w.cell? ⟨b,o+i*4+3,none⟩=some pv/\Am w cv l[i].sig.chains/\Am w pv l[i].sig.path/\Er cv/\Er pv
theorem Yr.out {w:World}{v:Value}{l:List Aj}(h:Yr w v l):I4 w v l:=by
 obtain⟨a,c,rfl,h⟩:=h
 refine⟨a,c,rfl,fun i hi=>?_⟩
 obtain⟨b,o,cv,pv,h1,h2,h3,h4,h5,h6,h7,h8,_,h9⟩:=h i hi
 exact⟨b,o,cv,pv,h1,h2,h3,h4,h5,h6,h7,h8,h9⟩
end Own
namespace Own
structure JQ (F:Nat->Prop) (w:World) (v:Value) (xs:List ByteArray):Prop where
 st:Am w v xs
 cap:Er v
 far:0<xs.length->∀ k,v.ownBlock=some k->F k
section
variable {F G:Nat->Prop} {w w' : World} {v:Value} {xs:List ByteArray}
theorem JQ.keep (h:JQ F w v xs)(hk:∀ k,F k->k<w.heap.size->w'.heap[k]? = w.heap[k]?):JQ F w' v xs:=by
 refine⟨?_,h.cap,h.far⟩
 by_cases h0:xs.length=0
 ·exact h.st.empty h0 w'
 ·exact h.st.keep (fun k hk' hl=>hk k (h.far (by omega) k hk') hl)
theorem JQ.mono (h:JQ F w v xs)(hF:∀ k,F k->k<w.heap.size->G k):JQ G w v xs:=
 ⟨h.st,h.cap,fun h0 k hk=>hF k (h.far h0 k hk) (h.st.blk h0 k hk)⟩
theorem JQ.own {base n:Nat}(h:w.ownsRow base 9 1 v n (xs.map Value.string))(hF:∀ k,base<=k->F k):JQ F w v xs:=by
 have hn:n=xs.length:=by have:=h.1;simp at this;omega
 subst hn
 exact⟨Am.own h,Er.own h,fun _ k hk=>hF k (Al h k hk)⟩
end
def RAp:Elem Aj:=fun F w cs a=>∃ cv pv,cs=[.string a.name,.int .i64 a.sig.index,cv,pv]/\JQ F w cv a.sig.chains/\JQ F w pv a.sig.path
instance:Dr RAp:=⟨fun⟨c,p,h1,h2,h3⟩ hs hk=>⟨c,p,h1,h2.keep hk,h3.keep hk⟩,fun⟨c,p,h1,h2,h3⟩ hF=>⟨c,p,h1,h2.mono hF,h3.mono hF⟩⟩
theorem kH {F:Nat->Prop}{w:World}{v:Value}{l:List Aj}(h:Au 4 RAp F w v l):Yr w v l:=by
 obtain⟨a,c,rfl⟩:=h.len
 refine⟨a,c,rfl,fun i hi=>?_⟩
 obtain⟨b,o,ha,_,hb,cs,h1,h2,cv,pv,h3,h4,h5⟩:=h.at_ hi
 subst h3
 exact⟨b,o,cv,pv,ha,hb,h2 0 _ rfl,h2 1 _ rfl,h2 2 _ rfl,h2 3 _ rfl,h4.st,h5.st,h4.cap,h5.cap⟩
def Dc (B:Nat)(w:World)(v:Value)(L:List Aj):Prop:=
 ∃ css:List (List Value),css.length=L.length/\w.ownsRow B 72 4 v L.length css.flatten/\∀ i (hi:i<L.length) (hi' : i<css.length),css[i].length=4/\RAp (fun k=>B<=k/\v.ownBlock≠some k) w css[i] L[i]
theorem Dc.nil (B:Nat)(w:World):Dc B w (.slice none 0 0) []:=⟨[],rfl,⟨rfl,.inl ⟨rfl,rfl⟩⟩,fun i hi=>absurd hi (by simp)⟩
theorem J8 {w:World}{base n size:Nat}{e:TypeId}{v:Value}{xs:List Value}(h:w.ownsRow base e size v n xs):∀ k,v.ownBlock=some k->k<w.heap.size:=by
 intro k hk
 obtain⟨cur,hc⟩:=Dq h hk
 exact hc.lt
theorem Dc.keep {B:Nat}{w w' : World}{v:Value}{L:List Aj}(h:Dc B w v L)(hs:w.heap.size<=w'.heap.size)(hk:∀ k,B<=k->k<w.heap.size->w'.heap[k]? = w.heap[k]?):Dc B w' v L:=by
 obtain⟨css,h1,h2,h3⟩:=h
 refine⟨css,h1,Af h2 (fun k e=>hk k (Al h2 k e) (J8 h2 k e)),fun i hi hi' => ?_⟩
 obtain⟨h4,h5⟩:=h3 i hi hi'
 exact⟨h4,Dr.keep h5 hs (fun k hF hl=>hk k hF.1 hl)⟩
theorem Dc.below {B:Nat}{w w' : World}{v:Value}{L:List Aj}(h:Dc B w v L)(hb:Below w.heap.size w w'):Dc B w' v L:=h.keep hb.size fun k _ hl=>hb.block k hl
theorem Dc.len {B:Nat}{w:World}{v:Value}{L:List Aj}(h:Dc B w v L):∃ a c,v=.slice a L.length c:=by
 obtain⟨css,h1,h2,h3⟩:=h
 obtain⟨a,m,c,rfl⟩:=Ad h2
 obtain rfl:=Bf h2
 exact⟨a,c,rfl⟩
theorem Dc.base {B B' : Nat}{w:World}{v:Value}{L:List Aj}(h:Dc B w v L)(hb:B' <= B):Dc B' w v L:=by
 obtain⟨css,h1,h2,h3⟩:=h
 refine⟨css,h1,CO h2 hb,fun i hi hi' => ?_⟩
 obtain⟨h4,h5⟩:=h3 i hi hi'
 exact⟨h4,Dr.mono h5 (fun k hk _=>⟨Nat.le_trans hb hk.1,hk.2⟩)⟩
theorem Dc.list {B:Nat}{w:World}{v:Value}{L:List Aj}(h:Dc B w v L):Au 4 RAp (fun k=>B<=k) w v L:=by
 obtain⟨css,h1,h2,h3⟩:=h
 refine Au.Ry (Bh.own h2) rfl h1 (fun k e=>Al h2 k e) (fun i hi hi' => ?_)
 obtain⟨h4,h5⟩:=h3 i hi hi'
 exact⟨h4,Dr.mono h5 (fun k hk _=>hk.1)⟩
theorem Dc.tu {B:Nat}{w:World}{v:Value}{L:List Aj}(h:Dc B w v L):Yr w v L:=kH h.list
theorem Dc.push {B:Nat}{w w' : World}{v v' : Value}{L:List Aj}{x:Aj}{cv pv:Value}{css:List (List Value)}(h1:css.length=L.length)(hv:w.ownsRow B 72 4 v L.length css.flatten)
 (h3:∀ i (hi:i<L.length) (hi' : i<css.length),css[i].length=4/\RAp (fun k=>B<=k/\v.ownBlock≠some k) w css[i] L[i]) (hc:JQ (fun k=>B<=k/\v.ownBlock≠some k) w cv x.sig.chains) (hp:JQ (fun k=>B<=k/\v.ownBlock≠some k) w pv x.sig.path)
 (hv' : w'.ownsRow B 72 4 v' (L.length+1) (css.flatten++[.string x.name,.int .i64 x.sig.index,cv,pv])) (hg:w.grownBy w' v.ownBlock) (ho:v'.ownBlock=v.ownBlock\/v'.ownBlock=some w.heap.size):Dc B w' v' (L++[x]):=by
 have hsz:w.heap.size<=w'.heap.size:=hg.size
 have hkp:∀ k,B<=k/\v.ownBlock≠some k->k<w.heap.size->w'.heap[k]? = w.heap[k]? :=fun k hF hl=>hg.block k hl (fun e=>hF.2 e.symm)
 have hF:∀ k,B<=k/\v.ownBlock≠some k->k<w.heap.size->(B<=k/\v.ownBlock≠some k)/\v'.ownBlock≠some k:=fun k hF hl=>⟨hF,by
  rcases ho with ho|ho
  ·rw[ho];exact hF.2
  ·rw[ho];intro e;have:=Option.some.inj e;omega⟩
 refine⟨css++[[.string x.name,.int .i64 x.sig.index,cv,pv]],by simp[h1],?_,fun i hi hi' => ?_⟩
 ·rw[List.flatten_append,List.length_append]
  simpa using hv'
 ·by_cases hl:i<L.length
  ·obtain⟨h4,h5⟩:=h3 i hl (by omega)
   rw[List.getElem_append_left (by omega),List.getElem_append_left hl]
   exact⟨h4,Dr.mono (Dr.keep (Dr.mono h5 hF) hsz (fun k hk hl' => hkp k hk.1 hl')) (fun k hk _=>⟨hk.1.1,hk.2⟩)⟩
  ·have e:i=L.length:=by simp at hi;omega
   subst e
   rw[List.getElem_append_right (by omega),List.getElem_append_right (by omega)]
   simp only[h1,Nat.sub_self,List.getElem_cons_zero]
   exact⟨rfl,cv,pv,rfl,((hc.mono hF).keep (fun k hk hl' => hkp k hk.1 hl')).mono (fun k hk _=>⟨hk.1.1,hk.2⟩),((hp.mono hF).keep (fun k hk hl' => hkp k hk.1 hl')).mono (fun k hk _=>⟨hk.1.1,hk.2⟩)⟩
end Own
theorem Mq:Nonempty (Gg Tryz.prog 27 72 4 72):=Es (z:=.agg #[.string ⟨#[]⟩,.int .i64 0,.slice none 0 0,.slice none 0 0]) Tryz.underlying27 (by kernel_rfl) rfl (by omega)
end
section
open Go Go.RowKit Go.Maps
theorem iC (K:List Nat)(k:Nat)(h:k<K.length):Own.Bo (K.take (k+1))=Own.Bo (K.take k)++[Own.aJ (K.getD k 0)]:=by
 unfold Own.Bo
 rw[List.take_succ_eq_append_getElem h,List.map_append,List.getD_eq_getElem?_getD,List.getElem?_eq_getElem h]
 rfl
theorem Jd (l:List Nat)(a:Option Addr)(c:Nat)(w:World)(h:DI w (.slice a l.length c) l)(hl:∀ b∈l,b<256)(h1:1<=l.length)(h12:l.length<=12):
 Calls Tryz.prog 31 #[.slice a l.length c] w fun e w' => ∃ mv,e=.returned mv/\w'.ownsRow w.heap.size 76 2 mv (Own.Bo (Own.keysOf l)).length ((Own.Bo (Own.keysOf l)).flatMap Own.CU)/\Below w.heap.size w w':=by
 have hkl:=Own.KI l
 have hmem:=fun b=>Own.TM hl (b:=b)
 have hcp:=fun base g n cap L W (h:Gl base W (.slice (some ⟨g,0,none⟩) n cap) n L) hn hn2 hcap ho hm=>Ov base g n cap L l W h hn hn2 hcap ho hl hm
 obtain⟨K,hK⟩:∃ K,K=Own.keysOf l:=⟨_,rfl⟩
 rw[<- hK] at hkl ⊢
 simp only[<- hK] at hcp
 have hkn:K.length<=256:=by rw[hK];unfold Own.keysOf;have:=List.length_filter_le (fun b=>decide (b∈l)) (List.range 256);simpa using this
 have hkb:∀ k,k<K.length->K.getD k 0<256:=fun k hk=>hkl.lt _ (by rw[List.getD_eq_getElem?_getD,List.getElem?_eq_getElem hk];exact List.getElem_mem hk)
 have HKB:=zh hkb;have HCP:=zh hcp;have HH:=zh h
 clear hkb hcp hK hmem hkl h hl
 go_enter Tryz.func31,Tryz.ntmps31
 go_wp2_with fail
 refine(QM a l.length c _).mono ?_
 rintro e _ ⟨rfl,rfl⟩
 have hb1:Below w.heap.size w (w.alloc (.cells #[.slice a l.length c] 66)):=zb
 have HB1:=zh hb1;have H1:=zh (HH.out.below hb1);have C1:=zh (Ze w (.slice a l.length c) 66)
 clear hb1 HH
 go_wp2_with fail
 generalize w.alloc (.cells #[.slice a l.length c] 66)=w1 at*
 refine(QL w.heap.size _ l _ C1.out H1.out h1 h12).mono ?_
 rintro e w2 ⟨v',L',rfl,hl',hr',ho',hm',hb2⟩
 obtain⟨g,cap,rfl,_⟩:=CB hr' (by omega)
 have hgc:=(jL hr').1
 have hgu:=Al hr' g rfl
 have HB2:=zh (HB1.out.trans (hb2.mono HB1.out.size))
 have HR:=zh hr';have HO:=zh ho';have HM:=zh hm'
 have hg0:w.heap.size<=g:=Nat.le_trans HB1.out.size hgu
 clear hr' ho' hm' hb2 hgu H1 C1 HB1
 go_wp2_with fail
 refine(HCP.out _ g l.length cap L' _ HR.out h1 (by omega) hgc HO.out HM.out).mono ?_
 rintro e w3 ⟨rfl,hk,hf⟩
 have HB3:=zh (HB2.out.trans (hf.below HB2.out.size (fun k hk=>by rw[hk];exact hg0)))
 have HK:=zh hk
 clear hk hf HB2 HR HO HM HCP hg0
 go_wp2_with fail
 go_loopw [11,3] (fun i v wr=>∃ (k:Nat),k<=K.length/\i=.int .i64 k/\wr.ownsRow w3.heap.size 76 2 v k ((Own.Bo (K.take k)).flatMap Own.CU)/\Below w3.heap.size w3 wr) (fun i _ _=>K.length-(intOf i).toNat)
 case atStart=>exact⟨0,by omega,rfl,⟨rfl,.inl ⟨rfl,rfl⟩⟩,Below.refl _ _⟩
 case round=>
  obtain⟨k,hk,rfl,hown,hb⟩:=hrel
  obtain⟨va,vm,vc,rfl⟩:=Ad hown
  obtain rfl:k=vm:=(Bf hown).symm
  have HOW:=zh hown;have HB:=zh hb
  clear hown hb
  by_cases hlt:k<K.length
  case neg=>
   have hke:k=K.length:=by omega
   have dk:decide ((k:Int)<K.length)=false:=zf
   have how:=HOW.out
   rw[hke,List.take_length] at how
   have HF:=zh (CO how HB3.out.size)
   clear how
   have HE:=zh (show(Own.Bo K).length=K.length from List.length_map _)
   have HKE:=zh hke
   clear hke
   go_wp2_with fail
   go_ret
   exact⟨_,rfl,by rw[HE.out,HKE.out];exact HF.out,HB3.out.trans (HB.out.mono HB3.out.size)⟩
  have dk:decide ((k:Int)<K.length)=true:=zt
  have hx2:=HKB.out k hlt
  have htk:=iC K k hlt
  obtain⟨b,o,ha,hbl,hc⟩:=DI.cell (HK.out.below HB.out) hlt
  cases ha
  rw[Nat.zero_add] at hc
  obtain⟨x,hx⟩:∃ x,x=K.getD k 0:=⟨_,rfl⟩
  rw[<- hx] at hc hx2 htk
  have HT:=zh htk
  clear hx htk hbl
  have hnm:=fun W=>Mi x W hx2
  have hpb:=fun W=>Rk x W hx2
  obtain⟨N,hN⟩:∃ N,N=Own.CZ x:=⟨_,rfl⟩
  obtain⟨P,hP⟩:∃ P,P=Own.Gi x:=⟨_,rfl⟩
  have Nh:Own.Bo (K.take (k+1))=Own.Bo (K.take k)++[⟨N,P⟩]:=by rw[HT.out,hN,hP];rfl
  simp only[<- hN] at hnm
  simp only[<- hP] at hpb
  have HNM:=zh hnm;have HPB:=zh hpb;have HT2:=zh Nh
  clear hnm hpb hN hP Nh HT
  go_wp2_with fail
  refine(HNM.out _).mono ?_
  rintro e w5 ⟨rfl,hb5⟩
  have HB5:=zh (HB.out.trans (hb5.mono HB.out.size));have HO5:=zh (own_below HOW.out hb5)
  clear hb5
  go_wp2_with fail
  refine(HPB.out _).mono ?_
  rintro e w6 ⟨rfl,hb6⟩
  have hb7:Below w6.heap.size w6 (w6.alloc (.cells #[.string N,.string P] 76)):=zb
  have HB6:=zh (HB5.out.trans (hb6.mono HB5.out.size));have HO6:=zh (own_below HO5.out hb6)
  have HB7:=zh (HB6.out.trans (hb7.mono HB6.out.size));have HO7:=zh (own_below HO6.out hb7)
  have HRW:=zh (CS w6 76 #[.string N,.string P] 2 1 1 rfl)
  clear hb6 hb7 hc
  go_wp2_with (at_builtin;go_must (refine Ai KP rfl _ _ rfl w3.heap.size k (.slice va k vc) ((Own.Bo (K.take k)).flatMap Own.CU) rfl HO7.out (.slice (some ⟨w6.heap.size,0,none⟩) 1 1) 1 [.string N,.string P] rfl HRW.out (by intro u hu;simp at hu;rcases hu with rfl|rfl<;>rfl) (by omega) (by omega) HB7.out.size ?_);intro v9 w9 ho9 hg9 hw9;obtain⟨ya,ym,yc,rfl⟩:=Ad ho9;have HO9:=zh ho9;have HB9:=zh (Bn HB7.out HB7.out.size HO7.out hg9);clear ho9 hg9 hw9)
  refine⟨⟨k+1,by omega,by go_num,?_,HB9.out⟩,by simp[intOf];omega⟩
  rw[HT2.out,List.flatMap_append]
  simpa [Own.CU] using HO9.out
end
section
open Go
namespace Own
theorem pos_at {α : Type}{f : α -> ByteArray} : ∀ {l:List α},Srt f l->∀ {i:Nat} (hi:i<l.length),posB f (f l[i]) l=i
 | [],_,i,hi=>by cases hi
 | x :: l,hs,i,hi => by
   obtain⟨h1,h2⟩:=List.pairwise_cons.1 hs
   cases i with
   | zero =>
     show posB f (f x) (x::l)=0
     rw[posB,if_neg (by rw[Ca];simp)]
   | succ i =>
     have hi' : i<l.length:=by simpa using hi
     show posB f (f l[i]) (x::l)=i+1
     rw[posB,if_pos (h1 _ (List.getElem_mem hi')),pos_at h2 hi']
theorem za2 {α : Type}{f : α -> ByteArray}{l:List α}(hs:Srt f l){i:Nat}(hi:i<l.length):Dx f (f l[i]) l=true:=by
 unfold Dx
 rw[pos_at hs hi,List.getElem?_eq_getElem hi]
 exact decide_eq_true rfl
theorem bg {α : Type}{f : α -> ByteArray}{l:List α}(hs:Srt f l){i:Nat}(hi:i<l.length)(x : α)(hx:f x=f l[i]):Dw f x l=l.set i x:=by
 rw[Om,hx,pos_at hs hi,za2 hs hi,if_pos rfl,List.set_eq_take_append_cons_drop,if_pos hi]
theorem kI {α : Type}{f : α -> ByteArray}{t:ByteArray}{l:List α}(h:∀ y∈l,f y≠t):Dx f t l=false:=by
 unfold Dx
 cases hq:l[posB f t l]? with
 | none=>rfl
 | some y=>exact decide_eq_false (h y (List.mem_of_getElem? hq))
theorem tC {α : Type}{f : α -> ByteArray}{l:List α}(x : α)(h:∀ y∈l,f y≠f x):Dw f x l=l.take (posB f (f x) l)++x::l.drop (posB f (f x) l):=by
 rw[Om,kI h,if_neg (by simp),Nat.add_zero]
theorem drop_at {l:List Space}(hs:Srt Space.pre l){i:Nat}(hi:i<l.length):Oq l l[i].pre=l.take i++l.drop (i+1):=by
 induction l generalizing i with
 | nil=>cases hi
 | cons x l ih =>
   obtain⟨h1,h2⟩:=List.pairwise_cons.1 hs
   cases i with
   | zero =>
     show Oq (x::l) x.pre=l
     unfold Oq
     rw[List.filter_cons_of_neg (by simp),List.filter_eq_self]
     intro y hy
     have:=h1 y hy
     simp only[Bool.not_eq_true',decide_eq_false_iff_not]
     intro e
     rw[e,Ca] at this
     cases this
   | succ i =>
     have hi' : i<l.length:=by simpa using hi
     have hne:x.pre≠l[i].pre:=fun e=>by
      have:=h1 l[i] (List.getElem_mem hi')
      rw[e,Ca] at this;cases this
     show Oq (x::l) l[i].pre=x::(l.take i++l.drop (i+1))
     unfold Oq
     rw[List.filter_cons_of_pos (by simpa using hne)]
     have:=ih h2 hi'
     unfold Oq at this
     rw[this]
theorem Yt (p:ByteArray):belongs p p=true:=by
 unfold belongs
 rw[decide_eq_true rfl]
 rfl
theorem WL {p:ByteArray} : ∀ (l:List Space) (b:Option Space),b.isSome=true->(CY p b l).isSome=true
 | [],_,h=>h
 | x :: l,b,h => by
   unfold CY
   refine WL l _ ?_
   generalize (belongs p x.pre&&_)=c
   cases c with
   | true=>rfl
   | false=>exact h
theorem WO {p:ByteArray} : ∀ {l:List Space},CY p none l=none->∀ s∈l,belongs p s.pre=false
 | [],_,s,hs=>by cases hs
 | x :: l,h,s,hs => by
   unfold CY at h
   cases hx:belongs p x.pre with
   | true =>
     rw[hx] at h
     have:=WL (p:=p) l (some x) rfl
     have e:CY p (some x) l=none:=h
     rw[e] at this
     cases this
   | false =>
     rw[hx] at h
     have e:CY p none l=none:=h
     rcases List.mem_cons.1 hs with rfl|hs
     ·exact hx
     ·exact WO e s hs
theorem bB {p:ByteArray}{l:List Space}(h:CY p none l=none):∀ s∈l,s.pre≠p:=fun s hs e=>by
 have:=WO h s hs
 rw[e,Yt] at this
 cases this
end Own
end
section
open Go Go.RowKit Go.Maps
namespace Own
def opV (op:Op)(mv av:Value):Value:=.agg #[.int .i64 op.kind,.string op.pre,mv,.int .i64 op.threshold,.string op.name,.string op.pub,av]
theorem Ey (s:ByteArray):(s.toList.isEmpty=true↔s=⟨#[]⟩):=by
 rw[ByteArray.toList_eq,List.isEmpty_iff]
 constructor
 ·intro h;exact Sha.BI h
 ·rintro rfl;rfl
end Own
theorem J9 (op:Own.Op)(mv av:Value)(w:World)(hM:IY w)(hm:Own.Ag w mv op.members)(ha:∃ a c,av=.slice a op.Aa.length c)(hl:op.members.length<=140737488355328):
 Calls Tryz.prog 49 #[Own.opV op mv av] w fun e w' => e=.returned (.bool (Own.Ez op))/\Below w.heap.size w w':=by
 obtain⟨R,hR⟩:∃ R,R=Own.Ez op:=⟨_,rfl⟩
 rw[<- hR]
 unfold Own.Ez at hR
 obtain⟨PM,hPM⟩:∃ P,P=Own.Wt op:=⟨_,rfl⟩
 obtain⟨PN,hPN⟩:∃ P,P=Own.opName op:=⟨_,rfl⟩
 rw[<- hPM,<- hPN] at hR
 unfold Own.Wt at hPM
 unfold Own.opName at hPN
 unfold Own.opV
 obtain⟨aa,ac,rfl⟩:=ha
 obtain⟨kd,pre,ms,th,nm,pb,aps⟩:=op
 dsimp only at*
 obtain⟨ma,mc,rfl⟩:=hm.len
 have F1:=zh (show Aw w _ [(29,#[.int .i64 kd,.string pre,.slice ma ms.length mc,.int .i64 th,.string nm,.string pb,.slice aa aps.length ac])] from((Dm.nil w).push 29 #[.int .i64 kd,.string pre,.slice ma ms.length mc,.int .i64 th,.string nm,.string pb,.slice aa aps.length ac]).boxes)
 have hcp:=fun W (hW:Below w.heap.size w W)=>Ng pre W (hM.below hW)
 have hcm:=fun W (hW:Below w.heap.size w W)=>Mj _ ms W (hm.below hW) hl
 have hcn:=fun W=>DK nm W
 have hcq:=fun W=>BG pb W
 have HCP:=zh hcp;have HCM:=zh hcm;have HCN:=zh hcn;have HCQ:=zh hcq
 have HR:=zh hR;have HPM:=zh hPM;have HPN:=zh hPN
 clear hM hm hcp hcm hcn hcq hR hPM hPN
 have x00:(w.alloc (.cells #[.int .i64 kd,.string pre,.slice ma ms.length mc,.int .i64 th,.string nm,.string pb,.slice aa aps.length ac] 29)).cell? ⟨w.heap.size,0,none⟩=some (.int .i64 kd):=F1.out.cell 0 0 rfl rfl
 have x01:(w.alloc (.cells #[.int .i64 kd,.string pre,.slice ma ms.length mc,.int .i64 th,.string nm,.string pb,.slice aa aps.length ac] 29)).cell? ⟨w.heap.size,1,none⟩=some (.string pre):=F1.out.cell 0 1 rfl rfl
 have x02:(w.alloc (.cells #[.int .i64 kd,.string pre,.slice ma ms.length mc,.int .i64 th,.string nm,.string pb,.slice aa aps.length ac] 29)).cell? ⟨w.heap.size,2,none⟩=some (.slice ma ms.length mc):=F1.out.cell 0 2 rfl rfl
 have x03:(w.alloc (.cells #[.int .i64 kd,.string pre,.slice ma ms.length mc,.int .i64 th,.string nm,.string pb,.slice aa aps.length ac] 29)).cell? ⟨w.heap.size,3,none⟩=some (.int .i64 th):=F1.out.cell 0 3 rfl rfl
 have x04:(w.alloc (.cells #[.int .i64 kd,.string pre,.slice ma ms.length mc,.int .i64 th,.string nm,.string pb,.slice aa aps.length ac] 29)).cell? ⟨w.heap.size,4,none⟩=some (.string nm):=F1.out.cell 0 4 rfl rfl
 have x05:(w.alloc (.cells #[.int .i64 kd,.string pre,.slice ma ms.length mc,.int .i64 th,.string nm,.string pb,.slice aa aps.length ac] 29)).cell? ⟨w.heap.size,5,none⟩=some (.string pb):=F1.out.cell 0 5 rfl rfl
 have x06:(w.alloc (.cells #[.int .i64 kd,.string pre,.slice ma ms.length mc,.int .i64 th,.string nm,.string pb,.slice aa aps.length ac] 29)).cell? ⟨w.heap.size,6,none⟩=some (.slice aa aps.length ac):=F1.out.cell 0 6 rfl rfl
 go_enter Tryz.func49,Tryz.ntmps49
 by_cases h0:kd<0
 ·have d0:decide (kd<0)=true:=decide_eq_true h0
  have HE:=zh (show R=false by rw[HR.out,decide_eq_false (show ¬ 0<=kd by omega)];rfl)
  go_wp2_with fail
  go_ret
  exact⟨by rw[HE.out];rfl,F1.out.under⟩
 have d0:decide (kd<0)=false:=decide_eq_false h0
 by_cases h4:4<kd
 ·have d4:decide ((4:Int)<kd)=true:=decide_eq_true h4
  have HE:=zh (show R=false by rw[HR.out,decide_eq_true (show 0<=kd by omega),decide_eq_false (show ¬ kd<=4 by omega)];rfl)
  go_wp2_with fail
  go_ret
  exact⟨by rw[HE.out];rfl,F1.out.under⟩
 have d4:decide ((4:Int)<kd)=false:=decide_eq_false h4
 have hr1:R=(Own.BL pre&&decide (aps.length<=8)&&PM&&PN):=by rw[HR.out,decide_eq_true (show 0<=kd by omega),decide_eq_true (show kd<=4 by omega)];rfl
 have HR1:=zh hr1;clear hr1 HR
 go_upto_region 1 with fail
 generalize (w.alloc (.cells #[.int .i64 kd,.string pre,.slice ma ms.length mc,.int .i64 th,.string nm,.string pb,.slice aa aps.length ac] 29))=w1 at*
 go_wp2_with fail
 refine(HCP.out w1 F1.out.under).mono ?_
 rintro e w2 ⟨rfl,hb2⟩
 have F2:=zh (F1.out.step hb2);clear hb2
 (try clear x00);(try clear x01);(try clear x02);(try clear x03);(try clear x04);(try clear x05);(try clear x06)
 obtain⟨x00,x01,x02,x03,x04,x05,x06⟩:=F2.out.KH rfl
 cases hpo:Own.BL pre with
 | false =>
   have HE:=zh (show R=false by rw[HR1.out,hpo];rfl)
   clear hpo
   go_wp2_with fail
   go_ret
   exact⟨by rw[HE.out];rfl,F2.out.under⟩
 | true=>
 by_cases h8:8<aps.length
 ·have d8:decide ((8:Int)<(aps.length:Int))=true:=zt
  have d8' : decide (8<aps.length)=true:=decide_eq_true h8
  have HE:=zh (show R=false by rw[HR1.out,hpo,decide_eq_false (show ¬ aps.length<=8 by omega)];rfl)
  clear hpo
  go_wp2_with fail
  go_ret
  exact⟨by rw[HE.out];rfl,F2.out.under⟩
 have d8:decide ((8:Int)<(aps.length:Int))=false:=zf
 have d8' : decide (8<aps.length)=false:=decide_eq_false h8
 have hr2:R=(PM&&PN):=by rw[HR1.out,hpo,decide_eq_true (show aps.length<=8 by omega)];rfl
 have HR2:=zh hr2;clear hr2 hpo HR1
 by_cases hk2:kd<=2
 ·have d2:decide (kd<=2)=true:=decide_eq_true hk2
  have hpm:=HPM.out
  rw[if_neg (show ¬ (3:Int)<=kd by omega)] at hpm
  have Vs:=zh hpm;clear hpm HPM
  go_upto_region 4 with fail
  go_wp2_with fail
  refine(HCM.out w2 F2.out.under).mono ?_
  rintro e w3 ⟨rfl,hb3⟩
  have F3:=zh (F2.out.step hb3);clear hb3
  (try clear x00);(try clear x01);(try clear x02);(try clear x03);(try clear x04);(try clear x05);(try clear x06)
  obtain⟨x00,x01,x02,x03,x04,x05,x06⟩:=F3.out.KH rfl
  cases hmo:Own.Cx ms with
  | false =>
    have HE:=zh (show R=false by rw[HR2.out,Vs.out,hmo];rfl)
    clear hmo
    go_wp2_with fail
    go_ret
    exact⟨by rw[HE.out];rfl,F3.out.under⟩
  | true=>
  by_cases ht1:th<1
  ·have dt:decide (th<1)=true:=decide_eq_true ht1
   have HE:=zh (show R=false by rw[HR2.out,Vs.out,decide_eq_false (show ¬ 1<=th by omega)];simp)
   clear hmo
   go_wp2_with fail
   go_ret
   exact⟨by rw[HE.out];rfl,F3.out.under⟩
  have dt:decide (th<1)=false:=decide_eq_false ht1
  by_cases ht2:(ms.length:Int)<th
  ·have du:decide ((ms.length:Int)<th)=true:=decide_eq_true ht2
   have HE:=zh (show R=false by rw[HR2.out,Vs.out,decide_eq_false (show ¬ th<=(ms.length:Int) by omega)];simp)
   clear hmo
   go_wp2_with fail
   go_ret
   exact⟨by rw[HE.out];rfl,F3.out.under⟩
  have du:decide ((ms.length:Int)<th)=false:=decide_eq_false ht2
  have hk4:(kd==4)=false:=by rw[beq_eq_false_iff_ne];omega
  have hpn:=HPN.out
  rw[if_neg (show ¬ kd=4 by omega)] at hpn
  have HE0:=zh (show R=PN by rw[HR2.out,Vs.out,hmo,decide_eq_true (show 1<=th by omega),decide_eq_true (show th<=(ms.length:Int) by omega)];rfl)
  have Vt:=zh hpn;clear hpn HPN hmo Vs HR2
  go_upto_region 8 with fail
  by_cases hn:nm=⟨#[]⟩
  case neg=>
   have q1:nm.toList.isEmpty=false:=by rw[Bool.eq_false_iff];exact fun h=>hn ((Own.Ey nm).1 h)
   have q2:(nm.toList==[])=false:=by rw[beq_eq_false_iff_ne];intro h;rw[h] at q1;cases q1
   have HE:=zh (show R=false by rw[HE0.out,Vt.out,decide_eq_false hn];rfl)
   clear hn
   go_wp2_with fail
   go_ret
   exact⟨by rw[HE.out];rfl,F3.out.under⟩
  have q1:nm.toList.isEmpty=true:=(Own.Ey nm).2 hn
  have q2:(nm.toList==[])=true:=by rw[List.isEmpty_iff.1 q1];rfl
  have HN:=zh hn;clear hn
  by_cases hp:pb=⟨#[]⟩
  case neg=>
   have q3:pb.toList.isEmpty=false:=by rw[Bool.eq_false_iff];exact fun h=>hp ((Own.Ey pb).1 h)
   have q4:(pb.toList==[])=false:=by rw[beq_eq_false_iff_ne];intro h;rw[h] at q3;cases q3
   have HE:=zh (show R=false by rw[HE0.out,Vt.out,decide_eq_false hp];simp)
   clear hp
   go_wp2_with fail
   go_ret
   exact⟨by rw[HE.out];rfl,F3.out.under⟩
  have q3:pb.toList.isEmpty=true:=(Own.Ey pb).2 hp
  have q4:(pb.toList==[])=true:=by rw[List.isEmpty_iff.1 q3];rfl
  have HE:=zh (show R=true by rw[HE0.out,Vt.out,decide_eq_true HN.out,decide_eq_true hp];rfl)
  clear hp
  go_wp2_with fail
  go_ret
  exact⟨by rw[HE.out];rfl,F3.out.under⟩
 ·have d2:decide (kd<=2)=false:=decide_eq_false hk2
  have hpm:=HPM.out
  rw[if_pos (show(3:Int)<=kd by omega)] at hpm
  have Vs:=zh hpm;clear hpm HPM
  by_cases hl0:ms.length=0
  case neg=>
   have dl:decide ((0:Int)<(ms.length:Int))=true:=zt
   have dl' : decide (0<ms.length)=true:=zt
   have HE:=zh (show R=false by rw[HR2.out,Vs.out,decide_eq_false hl0];rfl)
   go_wp2_with fail
   go_ret
   exact⟨by rw[HE.out];rfl,F2.out.under⟩
  have dl:decide ((0:Int)<(ms.length:Int))=false:=zf
  have dl' : decide (0<ms.length)=false:=zf
  have HL0:=zh hl0;clear hl0
  by_cases ht0:th=0
  case neg=>
   have dt:(th != 0)=true:=by rw[bne_iff_ne];exact ht0
   have dt' : (th==0)=false:=by rw[beq_eq_false_iff_ne];exact ht0
   have HE:=zh (show R=false by rw[HR2.out,Vs.out,decide_eq_false ht0];simp)
   go_wp2_with fail
   go_ret
   exact⟨by rw[HE.out];rfl,F2.out.under⟩
  have HT0:=zh ht0
  have dt:(th != 0)=false:=by rw[bne_eq_false_iff_eq];exact ht0
  have dt' : (th==0)=true:=by rw[beq_iff_eq];exact ht0
  clear ht0
  have HE0:=zh (show R=PN by rw[HR2.out,Vs.out,decide_eq_true HL0.out,decide_eq_true HT0.out];rfl)
  clear Vs HR2
  by_cases hk:kd=4
  ·have hk4:(kd==4)=true:=by rw[beq_iff_eq];exact hk
   have hpn:=HPN.out
   rw[if_pos hk] at hpn
   have Vt:=zh hpn;clear hpn HPN
   have HK:=zh hk;clear hk
   go_upto_region 9 with fail
   go_wp2_with fail
   refine(HCN.out w2).mono ?_
   rintro e w3 ⟨rfl,rfl⟩
   cases hno:Own.Fu nm with
   | false =>
     have HE:=zh (show R=false by rw[HE0.out,Vt.out,hno];rfl)
     clear hno
     go_wp2_with fail
     go_ret
     exact⟨by rw[HE.out];rfl,F2.out.under⟩
   | true =>
     have HE:=zh (show R=Sig.Bq pb by rw[HE0.out,Vt.out,hno];rfl)
     clear hno
     go_wp2_with fail
     refine(HCQ.out _).mono ?_
     rintro e w3 ⟨rfl,rfl⟩
     go_wp2_with fail
     go_ret
     exact⟨by rw[HE.out];rfl,F2.out.under⟩
  ·have hk4:(kd==4)=false:=by rw[beq_eq_false_iff_ne];exact hk
   have hpn:=HPN.out
   rw[if_neg hk] at hpn
   have Vt:=zh hpn;clear hpn HPN hk
   go_upto_region 8 with fail
   by_cases hn:nm=⟨#[]⟩
   case neg=>
    have q1:nm.toList.isEmpty=false:=by rw[Bool.eq_false_iff];exact fun h=>hn ((Own.Ey nm).1 h)
    have q2:(nm.toList==[])=false:=by rw[beq_eq_false_iff_ne];intro h;rw[h] at q1;cases q1
    have HE:=zh (show R=false by rw[HE0.out,Vt.out,decide_eq_false hn];rfl)
    clear hn
    go_wp2_with fail
    go_ret
    exact⟨by rw[HE.out];rfl,F2.out.under⟩
   have q1:nm.toList.isEmpty=true:=(Own.Ey nm).2 hn
   have q2:(nm.toList==[])=true:=by rw[List.isEmpty_iff.1 q1];rfl
   have HN:=zh hn;clear hn
   by_cases hp:pb=⟨#[]⟩
   case neg=>
    have q3:pb.toList.isEmpty=false:=by rw[Bool.eq_false_iff];exact fun h=>hp ((Own.Ey pb).1 h)
    have q4:(pb.toList==[])=false:=by rw[beq_eq_false_iff_ne];intro h;rw[h] at q3;cases q3
    have HE:=zh (show R=false by rw[HE0.out,Vt.out,decide_eq_false hp];simp)
    clear hp
    go_wp2_with fail
    go_ret
    exact⟨by rw[HE.out];rfl,F2.out.under⟩
   have q3:pb.toList.isEmpty=true:=(Own.Ey pb).2 hp
   have q4:(pb.toList==[])=true:=by rw[List.isEmpty_iff.1 q3];rfl
   have HE:=zh (show R=true by rw[HE0.out,Vt.out,decide_eq_true HN.out,decide_eq_true hp];rfl)
   clear hp
   go_wp2_with fail
   go_ret
   exact⟨by rw[HE.out];rfl,F2.out.under⟩
theorem za3 (b:UInt8):bits BinOp.and IntKind.u8 (b.toNat:Int) 127=((b.toNat%128:Nat):Int):=by
 have h:∀ k:Fin 256,bits BinOp.and IntKind.u8 (k.val:Int) 127=((k.val%128:Nat):Int):=by decide +kernel
 exact h ⟨b.toNat,b.toNat_lt⟩
theorem iD (k:Nat):128^k=2^(7*k):=by rw[show(128:Nat)=2^7 by decide,<- Nat.pow_mul]
theorem wQ (N k:Nat)(b:UInt8)(hN:N<128^k)(hk:k<=9)(h9:k=9->b.toNat<=1):
 bits .or .u64 (N:Int) (IntKind.u64.wrap (IntKind.u64.wrap (bits .and .u8 (b.toNat:Int) 127)*2^(7*k)))=((N+b.toNat%128*128^k:Nat):Int):=by
 have hP:b.toNat%128*128^k<18446744073709551616:=by
  by_cases h:k=9
  ·have:=h9 h
   subst h
   have h2:(128:Nat)^9=9223372036854775808:=by decide
   rw[h2]
   omega
  ·have h5:128^k<=128^8:=Nat.pow_le_pow_right (by omega) (by omega)
   have h6:(128:Nat)^8=72057594037927936:=by decide
   rw[h6] at h5
   have:=Nat.mul_le_mul (show b.toNat%128<=127 by omega) h5
   omega
 have hN2:N<18446744073709551616:=by
  have h5:128^k<=128^9:=Nat.pow_le_pow_right (by omega) hk
  have h6:(128:Nat)^9=9223372036854775808:=by decide
  omega
 have e1:(((b.toNat%128:Nat):Int)*2^(7*k))=((b.toNat%128*128^k:Nat):Int):=by
  rw[iD]
  push_cast
  rfl
 rw[za3,wraps_u64 ((b.toNat%128:Nat):Int) (by omega) (by omega),e1,wraps_u64 _ (by omega) (by omega)]
 rw[bits_join_low .u64 64 (by decide) (fun n h0 h1=>wraps_u64 n h0 h1) (7*k) (N:Int) _ (by omega) (by rw[iD] at hN;exact_mod_cast hN) (by omega) (by omega) (by
  rw[iD]
  push_cast
  exact Int.mul_emod_left _ _) (by omega)]
 omega
theorem tF (x:UInt8)(l:List UInt8)(i:Nat):Cod.rdL (x::l) i=if i=9/\1<x.toNat then none else if x.toNat<128 then (if x.toNat=0/\i≠0 then none else some (x.toNat,1)) else match Cod.rdL l (i+1) with
 | some (v,c)=>some (x.toNat%128+128*v,c+1)
 | none=>none:=rfl
def bC (r:Option (Nat × Nat))(e:Ending):Prop:=match r with
 | some (v,b)=>e=.returned (.tuple #[.int .u64 v,.int .i64 b,.bool true])
 | none=>∃ n b:Int,e=.returned (.tuple #[.int .u64 n,.int .i64 b,.bool false])
def zcK (s:ByteArray)(a:Nat)(at_ n sh:Value):Prop:=
 ∃ k N : Nat,k ≤ 9 ∧ at_ = .int .i64 ((a + k : Nat) : Int) ∧ n = .int .u64 N ∧ sh = .int .i64 ((7 * k : Nat) : Int) ∧ N < 128 ^ k ∧ a + k ≤ s.size ∧
   Cod.rdL (s.data.toList.drop a) 0=match Cod.rdL (s.data.toList.drop (a+k)) k with
    | some (v,c)=>some (N+128^k*v,k+c)
    | none=>none
theorem iE (rb:Nat)(s:ByteArray)(a0 a:Nat)(e0:Int)(w:World)(h:At w rb 157 (rdV s a0 e0))(ha:a<=s.size)(hs:s.size<=140737488355328):
 Calls Tryz.prog 173 #[.pointer (some ⟨rb,0,none⟩),.int .i64 a] w fun e w' => bC (Cod.rdU s a) e/\w' = w:=by
 have k0:=h.cell 0
 simp only[rdV,List.getElem?_toArray,List.getElem?_cons_zero] at k0
 obtain⟨R,hR⟩:∃ R,R=bC (Cod.rdU s a):=⟨_,rfl⟩
 rw[<- hR]
 have HR:=zh hR;clear hR h
 go_enter Tryz.func173,Tryz.ntmps173
 go_wp2_with fail
 go_loopw [1,7,8] (fun at_ n sh wr=>zcK s a at_ n sh/\wr=w) (fun at_ _ _ _=>s.size-(intOf at_).toNat)
 case atStart=>
  refine⟨⟨0,0,by omega,rfl,rfl,rfl,by simp,by omega,?_⟩,rfl⟩
  rw[Nat.add_zero]
  cases Cod.rdL (s.data.toList.drop a) 0 with
  | none=>rfl
  | some x=>obtain⟨v,c⟩:=x;simp
 case round=>
  obtain⟨⟨k,N,hk,rfl,rfl,rfl,hN,hak,hrd⟩,rfl⟩:=hrel
  have HRD:=zh hrd;have HN:=zh hN;clear hrd hN
  by_cases hlt:a+k<s.size
  ·obtain⟨x,hx⟩:∃ x,s[a+k]=x:=⟨_,rfl⟩
   have hd:s.data.toList.drop (a+k)=x::s.data.toList.drop (a+k+1):=by
    rw[List.drop_eq_getElem_cons (by rw[Sha.AZ];exact hlt),<- hx]
    rfl
   have hr:=HRD.out
   rw[hd,tF] at hr
   have HR2:=zh hr;clear hr hd HRD
   have dk:decide (((a+k:Nat):Int)<s.size)=true:=by simp;omega
   have d2:decide (((7*k:Nat):Int)<64)=true:=by simp;omega
   have hadd:((a:Int)+k+1)=((a+(k+1):Nat):Int):=by omega
   have zcL:=zh hadd;clear hadd
   have hno:(k=9/\1<x.toNat)\/(x.toNat=0/\k≠0)->Cod.rdU s a=none:=by
    intro h
    have hr:=HR2.out
    unfold Cod.rdU
    rcases h with h|h
    ·rw[if_pos h] at hr
     rw[hr]
    ·by_cases h2:k=9/\1<x.toNat
     ·rw[if_pos h2] at hr
      rw[hr]
     ·rw[if_neg h2,if_pos (by omega),if_pos h] at hr
      rw[hr]
   have hyes:¬ (k=9/\1<x.toNat)->x.toNat<128->¬ (x.toNat=0/\k≠0)->Cod.rdU s a=some (N+x.toNat%128*128^k,a+(k+1)):=by
    intro h1 h2 h3
    have hr:=HR2.out
    rw[if_neg h1,if_pos h2,if_neg h3] at hr
    unfold Cod.rdU
    rw[hr,Nat.mod_eq_of_lt h2,Nat.mul_comm]
   have HNO:=zh hno;have zdZ:=zh hyes;clear hno hyes
   by_cases hn:(k=9/\1<x.toNat)\/(x.toNat=0/\k≠0)
   ·have hfin : ∀ n b : Int,R (.returned (.tuple #[.int .u64 n,.int .i64 b,.bool false])) :=by
     intro n b
     rw[HR.out,HNO.out hn]
     exact⟨n,b,rfl⟩
    have HF:=zh hfin;clear hfin
    rcases hn with ⟨rfl,h1⟩|⟨h0,hk0⟩
    ·have h2:(1:Int)<x.toNat:=by omega
     go_wp2_with fail
     go_ret3
     exact⟨HF.out _ _,rfl⟩
    ·have e1:((7*(k:Int))==0)=false:=by simp;omega
     go_wp2_with fail
     all_goals
      go_ret3
      exact⟨HF.out _ _,rfl⟩
   ·have hn1:¬ (k=9/\1<x.toNat):=fun h=>hn (.inl h)
    have hn2:¬ (x.toNat=0/\k≠0):=fun h=>hn (.inr h)
    have hk9:k=9->x.toNat<=1:=fun h=>by
     rcases Nat.lt_or_ge 1 x.toNat with h1|h1
     ·exact absurd ⟨h,h1⟩ hn1
     ·exact h1
    have hor:=wQ N k x HN.out hk hk9
    have HOR:=zh hor;have HK9:=zh hk9;have HN1:=zh hn1;have HN2:=zh hn2;clear hor hk9 hn hn1 hn2
    by_cases hb:x.toNat<128
    ·have hb2:(x.toNat:Int)<128:=by omega
     have hfin:R (.returned (.tuple #[.int .u64 ((N+x.toNat%128*128^k:Nat):Int),.int .i64 ((a:Int)+k+1),.bool true])):=by
      rw[HR.out,zdZ.out HN1.out hb HN2.out,zcL.out]
      rfl
     have HF:=zh hfin;clear hfin hb
     by_cases h0:x.toNat=0
     ·obtain rfl : k = 0 :=by
       rcases Nat.eq_zero_or_pos k with h|h
       ·exact h
       ·exact absurd ⟨h0,by omega⟩ HN2.out
      obtain rfl:N=0:=by have:=HN.out;simpa using this
      have hf:R (.returned (.tuple #[.int .u64 0,.int .i64 ((a:Int)+1),.bool true])):=by
       have h1:=HF.out
       rw[h0] at h1
       simpa using h1
      have hx2:s[a]=x:=by simpa using hx
      have HF2:=zh hf;clear hf hx
      have hz:bits BinOp.or IntKind.u64 0 (IntKind.u64.wrap (IntKind.u64.wrap (bits BinOp.and IntKind.u8 0 127)))=0:=by decide +kernel
      have HZ:=zh hz;clear hz
      go_wp2_with fail
      go_ret3
      refine⟨?_,rfl⟩
      rw[HZ.out]
      exact HF2.out
     ·by_cases h9:k=9
      ·subst h9
       have h1:(x.toNat:Int)<=1:=by have:=HK9.out rfl;omega
       have hor:=HOR.out
       rw[show(2:Int)^(7*9)=9223372036854775808 by decide] at hor
       have zea:=zh hor;clear hor
       go_wp2_with fail
       go_ret3
       refine⟨?_,rfl⟩
       rw[zea.out]
       exact HF.out
      ·have e9:¬ (7*(k:Int)=63):=by omega
       go_wp2_with fail
       go_ret3
       refine⟨?_,rfl⟩
       rw[HOR.out]
       exact HF.out
    ·have hb2:¬ ((x.toNat:Int)<128):=by omega
     have h9:k≠9:=fun h=>by have:=HK9.out h;omega
     have e9:¬ (7*(k:Int)=63):=by omega
     have hr:=HR2.out
     rw[if_neg HN1.out,if_neg hb] at hr
     have HR3:=zh hr;clear hr hb
     have hN2:N+x.toNat%128*128^k<128^(k+1):=by
      have h1:=HN.out
      have h2:=Nat.mul_le_mul_right (128^k) (show x.toNat%128<=127 by omega)
      rw[Nat.pow_succ]
      omega
     have hr2:Cod.rdL (s.data.toList.drop a) 0=match Cod.rdL (s.data.toList.drop (a+(k+1))) (k+1) with
      | some (v,c)=>some ((N+x.toNat%128*128^k)+128^(k+1)*v,(k+1)+c)
      | none=>none:=by
      rw[HR3.out,show a+(k+1)=a+k+1 by omega]
      cases Cod.rdL (s.data.toList.drop (a+k+1)) (k+1) with
      | none=>rfl
      | some y =>
        obtain⟨v,c⟩:=y
        show some _=some _
        congr 2
        ·rw[Nat.pow_succ,Nat.mul_add,Nat.mul_comm (128^k) (x.toNat%128),Nat.mul_assoc,Nat.add_assoc]
        ·omega
     have HN3:=zh hN2;have HR4:=zh hr2;clear hN2 hr2
     go_wp2_with fail
     rw[HOR.out]
     exact⟨⟨⟨k+1,N+x.toNat%128*128^k,by omega,by rw[zcL.out],rfl,by congr 1<;>omega,HN3.out,by omega,HR4.out⟩,by first|rfl|trivial⟩,by simp[intOf];omega⟩
  ·have dk:decide (((a+k:Nat):Int)<s.size)=false:=by simp;omega
   have hd:s.data.toList.drop (a+k)=[]:=List.drop_eq_nil_of_le (by rw[Sha.AZ];omega)
   have hr:=HRD.out
   rw[hd] at hr
   have hfin:R (.returned (.tuple #[.int .u64 0,.int .i64 0,.bool false])):=by
    rw[HR.out]
    unfold Cod.rdU
    rw[hr]
    exact⟨0,0,rfl⟩
   have HF:=zh hfin;clear hfin hr hd
   go_wp2_with fail
   go_ret3
   exact⟨HF.out,rfl⟩
def OG (r:Option (Nat × Nat))(e:Ending):Prop:=match r with
 | some (v,b)=>e=.returned (.tuple #[.int .i64 v,.int .i64 b,.bool true])
 | none=>∃ n b:Int,e=.returned (.tuple #[.int .i64 n,.int .i64 b,.bool false])
def bD (r:Option (ByteArray × Nat))(e:Ending):Prop:=match r with
 | some (x,b)=>e=.returned (.tuple #[.string x,.int .i64 b,.bool true])
 | none=>e=.returned (.tuple #[.string ⟨#[]⟩,.int .i64 0,.bool false])
theorem JA (rb:Nat)(s:ByteArray)(a0 a:Nat)(e0:Int)(w:World)(h:At w rb 157 (rdV s a0 e0))(ha:a<=s.size)(hs:s.size<=140737488355328):
 Calls Tryz.prog 135 #[.pointer (some ⟨rb,0,none⟩),.int .i64 a] w fun e w' => OG (Cod.rdN s a) e/\w' = w:=by
 obtain⟨R,hR⟩:∃ R,R=OG (Cod.rdN s a):=⟨_,rfl⟩
 rw[<- hR]
 have HR:=zh hR;have H:=zh h;clear hR h
 go_enter Tryz.func135,Tryz.ntmps135
 go_wp2_with fail
 refine(iE rb s a0 a e0 _ H.out ha hs).mono ?_
 rintro e w1 ⟨hp,rfl⟩
 cases hr:Cod.rdU s a with
 | none =>
   rw[hr] at hp
   obtain⟨n,b,rfl⟩:=hp
   have hf:∀ n b:Int,R (.returned (.tuple #[.int .i64 n,.int .i64 b,.bool false])):=by
    intro n b
    rw[HR.out]
    unfold Cod.rdN
    rw[hr]
    exact⟨n,b,rfl⟩
   have HF:=zh hf;clear hf hr
   go_wp2_with fail
   go_ret3
   exact⟨HF.out _ _,rfl⟩
 | some y =>
   obtain⟨v,b⟩:=y
   rw[hr] at hp
   have hp' : e=.returned (.tuple #[.int .u64 v,.int .i64 b,.bool true]):=hp
   subst hp'
   clear hp
   have hv:=(Cod.Zc hr).2.2.2
   by_cases hlt:v<9223372036854775808
   ·have hf : R (.returned (.tuple #[.int .i64 v,.int .i64 b,.bool true])) :=by
     rw[HR.out]
     unfold Cod.rdN
     simp only[hr,if_pos hlt]
     rfl
    have HF:=zh hf;clear hf hr
    have hz:(v:Int)/9223372036854775808=0:=by omega
    go_wp2_with fail
    go_ret3
    exact⟨HF.out,rfl⟩
   ·have hf : ∀ n b : Int,R (.returned (.tuple #[.int .i64 n,.int .i64 b,.bool false])) :=by
     intro n b
     rw[HR.out]
     unfold Cod.rdN
     simp only[hr,if_neg hlt]
     exact⟨n,b,rfl⟩
    have HF:=zh hf;clear hf hr
    have hz:(v:Int)/9223372036854775808=1:=by omega
    go_wp2_with fail
    go_ret3
    exact⟨HF.out _ _,rfl⟩
theorem Uk (rb:Nat)(s:ByteArray)(a0 a:Nat)(e0:Int)(w:World)(h:At w rb 157 (rdV s a0 e0))(ha:a<=s.size)(hs:s.size<=140737488355328):
 Calls Tryz.prog 137 #[.pointer (some ⟨rb,0,none⟩),.int .i64 a] w fun e w' => bD (Cod.rdT s a) e/\w' = w:=by
 obtain⟨R,hR⟩:∃ R,R=bD (Cod.rdT s a):=⟨_,rfl⟩
 rw[<- hR]
 have k0:=h.cell 0
 simp only[rdV,List.getElem?_toArray,List.getElem?_cons_zero] at k0
 have HR:=zh hR;have H:=zh h;clear hR h
 go_enter Tryz.func137,Tryz.ntmps137
 go_wp2_with fail
 refine(JA rb s a0 a e0 _ H.out ha hs).mono ?_
 rintro e w1 ⟨hp,rfl⟩
 cases hr:Cod.rdN s a with
 | none =>
   rw[hr] at hp
   obtain⟨n,b,rfl⟩:=hp
   have hf:R (.returned (.tuple #[.string ⟨#[]⟩,.int .i64 0,.bool false])):=by
    rw[HR.out]
    unfold Cod.rdT
    rw[hr]
    rfl
   have HF:=zh hf;clear hf hr
   go_wp2_with fail
   go_ret3
   exact⟨HF.out,rfl⟩
 | some y =>
   obtain⟨v,b⟩:=y
   rw[hr] at hp
   have hp' : e=.returned (.tuple #[.int .i64 v,.int .i64 b,.bool true]):=hp
   subst hp'
   clear hp
   obtain⟨g1,g2,_,g4⟩:=Cod.FP hr
   by_cases hlt:v<=s.size-b
   ·have hf : R (.returned (.tuple #[.string (s.extract b (b + v)),.int .i64 ((b : Int) + v),.bool true])) :=by
     rw[HR.out]
     unfold Cod.rdT
     simp only[hr,if_pos hlt]
     show _=Ending.returned (.tuple #[.string (s.extract b (b+v)),.int .i64 ((b+v:Nat):Int),.bool true])
     rw[Int.natCast_add]
    have HF:=zh hf;clear hf hr
    have hz:¬ ((s.size:Int)-b<v):=by omega
    go_wp2_with fail
    go_ret3
    exact⟨HF.out,rfl⟩
   ·have hf : R (.returned (.tuple #[.string ⟨#[]⟩,.int .i64 0,.bool false])) :=by
     rw[HR.out]
     unfold Cod.rdT
     simp only[hr,if_neg hlt]
     rfl
    have HF:=zh hf;clear hf hr
    have hz:((s.size:Int)-b<v):=by omega
    go_wp2_with fail
    go_ret3
    exact⟨HF.out,rfl⟩
structure Az (rb:Nat) (w w' : World) (cs:Array Value):Prop where
 at_:At w' rb 157 cs
 fr:Fr (fun k=>k=rb) w w'
theorem Az.refl {rb:Nat}{w:World}{cs:Array Value}(h:At w rb 157 cs):Az rb w w cs:=⟨h,Fr.refl _ _⟩
def EK (rb:Nat)(s:ByteArray)(a:Nat)(r:Option (Nat × Nat))(w:World)(e:Ending)(w' : World):Prop:=match r with
 | some (v,b)=>e=.returned (.int .i64 v)/\Az rb w w' (rdV s b 0)
 | none=>e=.returned (.int .i64 0)/\Az rb w w' (rdV s a 9)
def OH (rb:Nat)(s:ByteArray)(a:Nat)(r:Option (ByteArray × Nat))(w:World)(e:Ending)(w' : World):Prop:=match r with
 | some (x,b)=>e=.returned (.string x)/\Az rb w w' (rdV s b 0)
 | none=>e=.returned (.string ⟨#[]⟩)/\Az rb w w' (rdV s a 9)
theorem Az.set1 {rb:Nat}{w:World}{s:ByteArray}{a:Nat}{e:Int}(h:At w rb 157 (rdV s a e))(b:Nat):Az rb w (w.setCell ⟨rb,1,none⟩ (.int .i64 b)) (rdV s b e):=
 ⟨h.set 1 _,(Fr.refl (fun k=>k=rb) _).setCell (p:=⟨rb,1,none⟩) (.inl rfl) _⟩
theorem Az.set2 {rb:Nat}{w:World}{s:ByteArray}{a:Nat}{e:Int}(h:At w rb 157 (rdV s a e))(b:Int):Az rb w (w.setCell ⟨rb,2,none⟩ (.int .i64 b)) (rdV s a b):=
 ⟨h.set 2 _,(Fr.refl (fun k=>k=rb) _).setCell (p:=⟨rb,2,none⟩) (.inl rfl) _⟩
theorem Yu (rb:Nat)(s:ByteArray)(a:Nat)(w:World)(h:At w rb 157 (rdV s a 0))(ha:a<=s.size)(hs:s.size<=140737488355328):
 Calls Tryz.prog 134 #[.pointer (some ⟨rb,0,none⟩),.func (.func 135) #[.pointer (some ⟨rb,0,none⟩)] #[]] w (EK rb s a (Cod.rdN s a) w):=by
 obtain⟨R,hR⟩:∃ R,R=EK rb s a (Cod.rdN s a) w:=⟨_,rfl⟩
 rw[<- hR]
 have k1:=h.cell 1;have k2:=h.cell 2;have z1:=h.free 1;have z2:=h.free 2
 simp only[rdV,List.getElem?_toArray,List.getElem?_cons_zero,List.getElem?_cons_succ] at k1 k2
 have HR:=zh hR;have H:=zh h;clear hR h
 go_enter Tryz.func134,Tryz.ntmps134
 go_wp2_with fail
 refine(JA rb s a a 0 _ H.out ha hs).mono ?_
 rintro e w1 ⟨hp,rfl⟩
 cases hr:Cod.rdN s a with
 | none =>
   rw[hr] at hp
   obtain⟨n,b,rfl⟩:=hp
   have hf:R (.returned (.int .i64 0)) (w1.setCell ⟨rb,2,none⟩ (.int .i64 9)):=by
    rw[HR.out,hr]
    exact⟨rfl,Az.set2 H.out 9⟩
   have HF:=zh hf;clear hf hr
   go_wp2_with fail
   exact HF.out
 | some y =>
   obtain⟨v,b⟩:=y
   rw[hr] at hp
   have hp' : e=.returned (.tuple #[.int .i64 v,.int .i64 b,.bool true]):=hp
   subst hp'
   clear hp
   have hf:R (.returned (.int .i64 v)) (w1.setCell ⟨rb,1,none⟩ (.int .i64 b)):=by
    rw[HR.out,hr]
    exact⟨rfl,Az.set1 H.out b⟩
   have HF:=zh hf;clear hf hr
   go_wp2_with fail
   exact HF.out
theorem Qe (rb:Nat)(s:ByteArray)(a:Nat)(e:Int)(he:e≠0)(w:World)(h:At w rb 157 (rdV s a e)):
 Calls Tryz.prog 134 #[.pointer (some ⟨rb,0,none⟩),.func (.func 135) #[.pointer (some ⟨rb,0,none⟩)] #[]] w fun e w' => e=.returned (.int .i64 0)/\w' = w:=by
 have k2:=h.cell 2
 simp only[rdV,List.getElem?_toArray,List.getElem?_cons_zero,List.getElem?_cons_succ] at k2
 have he2:(e != 0)=true:=by simpa using he
 clear h
 go_enter Tryz.func134,Tryz.ntmps134
 go_wp2_with fail
 go_ret
 exact⟨rfl,rfl⟩
theorem Yv (rb:Nat)(s:ByteArray)(a:Nat)(w:World)(h:At w rb 157 (rdV s a 0))(ha:a<=s.size)(hs:s.size<=140737488355328):
 Calls Tryz.prog 136 #[.pointer (some ⟨rb,0,none⟩),.func (.func 137) #[.pointer (some ⟨rb,0,none⟩)] #[]] w (OH rb s a (Cod.rdT s a) w):=by
 obtain⟨R,hR⟩:∃ R,R=OH rb s a (Cod.rdT s a) w:=⟨_,rfl⟩
 rw[<- hR]
 have k1:=h.cell 1;have k2:=h.cell 2;have z1:=h.free 1;have z2:=h.free 2
 simp only[rdV,List.getElem?_toArray,List.getElem?_cons_zero,List.getElem?_cons_succ] at k1 k2
 have HR:=zh hR;have H:=zh h;clear hR h
 go_enter Tryz.func136,Tryz.ntmps136
 go_wp2_with fail
 refine(Uk rb s a a 0 _ H.out ha hs).mono ?_
 rintro e w1 ⟨hp,rfl⟩
 cases hr:Cod.rdT s a with
 | none =>
   rw[hr] at hp
   obtain rfl:e=_:=hp
   have hf:R (.returned (.string ⟨#[]⟩)) (w1.setCell ⟨rb,2,none⟩ (.int .i64 9)):=by
    rw[HR.out,hr]
    exact⟨rfl,Az.set2 H.out 9⟩
   have HF:=zh hf;clear hf hr
   go_wp2_with fail
   exact HF.out
 | some y =>
   obtain⟨v,b⟩:=y
   rw[hr] at hp
   have hp' : e=.returned (.tuple #[.string v,.int .i64 b,.bool true]):=hp
   subst hp'
   clear hp
   have hf:R (.returned (.string v)) (w1.setCell ⟨rb,1,none⟩ (.int .i64 b)):=by
    rw[HR.out,hr]
    exact⟨rfl,Az.set1 H.out b⟩
   have HF:=zh hf;clear hf hr
   go_wp2_with fail
   exact HF.out
theorem Qf (rb:Nat)(s:ByteArray)(a:Nat)(e:Int)(he:e≠0)(w:World)(h:At w rb 157 (rdV s a e)):
 Calls Tryz.prog 136 #[.pointer (some ⟨rb,0,none⟩),.func (.func 137) #[.pointer (some ⟨rb,0,none⟩)] #[]] w fun e w' => e=.returned (.string ⟨#[]⟩)/\w' = w:=by
 have k2:=h.cell 2
 simp only[rdV,List.getElem?_toArray,List.getElem?_cons_zero,List.getElem?_cons_succ] at k2
 have he2:(e != 0)=true:=by simpa using he
 clear h
 go_enter Tryz.func136,Tryz.ntmps136
 go_wp2_with fail
 go_ret
 exact⟨rfl,rfl⟩
theorem iF (rb:Nat)(s:ByteArray)(a:Nat)(w:World)(h:At w rb 157 (rdV s a 0))(ha:a<=s.size)(hs:s.size<=140737488355328):
 Calls Tryz.prog 81 #[.pointer (some ⟨rb,0,none⟩)] w (EK rb s a (Cod.rdN s a) w):=by
 obtain⟨R,hR⟩:∃ R,R=EK rb s a (Cod.rdN s a) w:=⟨_,rfl⟩
 rw[<- hR]
 have HR:=zh hR;have H:=zh h;clear hR h
 go_enter Tryz.func81,Tryz.ntmps81
 go_wp2_with fail
 refine(Yu rb s a _ H.out ha hs).mono ?_
 intro e w1 hp
 rw[<- HR.out] at hp
 have hv:∃ v,e=.returned v:=by
  rw[HR.out] at hp
  unfold EK at hp
  split at hp
  ·exact⟨_,hp.1⟩
  ·exact⟨_,hp.1⟩
 obtain⟨v,rfl⟩:=hv
 have HP:=zh hp;clear hp
 go_wp2_with fail
 exact HP.out
theorem Ul (rb:Nat)(s:ByteArray)(a:Nat)(e:Int)(he:e≠0)(w:World)(h:At w rb 157 (rdV s a e)):
 Calls Tryz.prog 81 #[.pointer (some ⟨rb,0,none⟩)] w fun e w' => e=.returned (.int .i64 0)/\w' = w:=by
 have H:=zh h;clear h
 go_enter Tryz.func81,Tryz.ntmps81
 go_wp2_with fail
 refine(Qe rb s a e he _ H.out).mono ?_
 rintro e w1 ⟨rfl,rfl⟩
 go_wp2_with fail
 go_ret
 exact⟨rfl,rfl⟩
theorem iG (rb:Nat)(s:ByteArray)(a:Nat)(w:World)(h:At w rb 157 (rdV s a 0))(ha:a<=s.size)(hs:s.size<=140737488355328):
 Calls Tryz.prog 82 #[.pointer (some ⟨rb,0,none⟩)] w (OH rb s a (Cod.rdT s a) w):=by
 obtain⟨R,hR⟩:∃ R,R=OH rb s a (Cod.rdT s a) w:=⟨_,rfl⟩
 rw[<- hR]
 have HR:=zh hR;have H:=zh h;clear hR h
 go_enter Tryz.func82,Tryz.ntmps82
 go_wp2_with fail
 refine(Yv rb s a _ H.out ha hs).mono ?_
 intro e w1 hp
 rw[<- HR.out] at hp
 have hv:∃ v,e=.returned v:=by
  rw[HR.out] at hp
  unfold OH at hp
  split at hp
  ·exact⟨_,hp.1⟩
  ·exact⟨_,hp.1⟩
 obtain⟨v,rfl⟩:=hv
 have HP:=zh hp;clear hp
 go_wp2_with fail
 exact HP.out
theorem Um (rb:Nat)(s:ByteArray)(a:Nat)(e:Int)(he:e≠0)(w:World)(h:At w rb 157 (rdV s a e)):
 Calls Tryz.prog 82 #[.pointer (some ⟨rb,0,none⟩)] w fun e w' => e=.returned (.string ⟨#[]⟩)/\w' = w:=by
 have H:=zh h;clear h
 go_enter Tryz.func82,Tryz.ntmps82
 go_wp2_with fail
 refine(Qf rb s a e he _ H.out).mono ?_
 rintro e w1 ⟨rfl,rfl⟩
 go_wp2_with fail
 go_ret
 exact⟨rfl,rfl⟩
def rdC (s:ByteArray)(m:Int)(a:Nat):Option (Nat × Nat):=match Cod.rdN s a with
 | some (v,b)=>if (v:Int)<=m then some (v,b) else none
 | none=>none
theorem Yw (rb b1 b2:Nat)(m:Int)(s:ByteArray)(a0 a:Nat)(e0:Int)(w:World)(h1:w.cell? ⟨b1,0,none⟩=some (.pointer (some ⟨rb,0,none⟩)))(h2:w.cell? ⟨b2,0,none⟩=some (.int .i64 m))(h:At w rb 157 (rdV s a0 e0))(ha:a<=s.size)(hs:s.size<=140737488355328):
 Calls Tryz.prog 138 #[.int .i64 a,.pointer (some ⟨b1,0,none⟩),.pointer (some ⟨b2,0,none⟩)] w fun e w' => OG (rdC s m a) e/\w' = w.drew:=by
 obtain⟨R,hR⟩:∃ R,R=OG (rdC s m a):=⟨_,rfl⟩
 rw[<- hR]
 have HR:=zh hR;have H:=zh h;clear hR h
 go_enter Tryz.func138,Tryz.ntmps138
 go_wp2_with fail
 refine(JA rb s a0 a e0 _ H.out ha hs).mono ?_
 rintro e w1 ⟨hp,rfl⟩
 cases hr:Cod.rdN s a with
 | none =>
   rw[hr] at hp
   obtain⟨n,b,rfl⟩:=hp
   have hf:∀ n b:Int,R (.returned (.tuple #[.int .i64 n,.int .i64 b,.bool false])):=by
    intro n b
    rw[HR.out]
    unfold rdC
    rw[hr]
    exact⟨n,b,rfl⟩
   have HF:=zh hf;clear hf hr
   go_wp2_with fail
   refine Lex.zl ?_
   go_wp2_with fail
   refine Lex.ze ?_
   go_wp2_with fail
   go_ret3
   exact⟨HF.out _ _,rfl⟩
 | some y =>
   obtain⟨v,b⟩:=y
   rw[hr] at hp
   have hp' : e=.returned (.tuple #[.int .i64 v,.int .i64 b,.bool true]):=hp
   subst hp'
   clear hp
   have hv:=(Cod.FP hr).2.2.2
   by_cases hlt:(v:Int)<=m
   ·have dlt:decide ((v:Int)<=m)=true:=by simpa using hlt
    have hf:R (.returned (.tuple #[.int .i64 v,.int .i64 b,.bool true])):=by
     rw[HR.out]
     unfold rdC
     simp only[hr,if_pos hlt]
     rfl
    have HF:=zh hf;clear hf hr
    go_wp2_with fail
    refine Lex.zl ?_
    go_wp2_with fail
    refine Lex.ze ?_
    go_wp2_with fail
    go_ret3
    exact⟨HF.out,rfl⟩
   ·have dlt:decide ((v:Int)<=m)=false:=by simpa using hlt
    have hf:∀ n b:Int,R (.returned (.tuple #[.int .i64 n,.int .i64 b,.bool false])):=by
     intro n b
     rw[HR.out]
     unfold rdC
     simp only[hr,if_neg hlt]
     exact⟨n,b,rfl⟩
    have HF:=zh hf;clear hf hr
    go_wp2_with fail
    refine Lex.zl ?_
    go_wp2_with fail
    refine Lex.ze ?_
    go_wp2_with fail
    go_ret3
    exact⟨HF.out _ _,rfl⟩
theorem Az.pre {rb:Nat}{w w1 w' : World}{cs:Array Value}(hf:Fr (fun k=>k=rb) w w1)(h:Az rb w1 w' cs):Az rb w w' cs:=⟨h.at_,hf.trans h.fr (fun _ hk=>.inl hk)⟩
theorem Vu (rb b1 b2:Nat)(m:Int)(s:ByteArray)(a:Nat)(w:World)(h1:w.cell? ⟨b1,0,none⟩=some (.pointer (some ⟨rb,0,none⟩)))(h2:w.cell? ⟨b2,0,none⟩=some (.int .i64 m))(h:At w rb 157 (rdV s a 0))(ha:a<=s.size)(hs:s.size<=140737488355328):
 Calls Tryz.prog 134 #[.pointer (some ⟨rb,0,none⟩),.func (.func 138) #[] #[.pointer (some ⟨b1,0,none⟩),.pointer (some ⟨b2,0,none⟩)]] w (EK rb s a (rdC s m a) w):=by
 obtain⟨R,hR⟩:∃ R,R=EK rb s a (rdC s m a) w:=⟨_,rfl⟩
 rw[<- hR]
 have k1:=h.cell 1;have k2:=h.cell 2;have z1:=h.free 1;have z2:=h.free 2
 simp only[rdV,List.getElem?_toArray,List.getElem?_cons_zero,List.getElem?_cons_succ] at k1 k2
 have HR:=zh hR;have H:=zh h;have H1:=zh h1;have H2:=zh h2;clear hR h h1 h2
 go_enter Tryz.func134,Tryz.ntmps134
 go_wp2_with fail
 refine(Yw rb b1 b2 m s a a 0 _ H1.out H2.out H.out ha hs).mono ?_
 rintro e w1 ⟨hp,rfl⟩
 have hd:Fr (fun k=>k=rb) w w.drew:=(Fr.refl (fun k=>k=rb) w).drew
 cases hr:rdC s m a with
 | none =>
   rw[hr] at hp
   obtain⟨n,b,rfl⟩:=hp
   have hf:R (.returned (.int .i64 0)) (w.drew.setCell ⟨rb,2,none⟩ (.int .i64 9)):=by
    rw[HR.out,hr]
    exact⟨rfl,Az.pre hd (Az.set2 H.out.drew 9)⟩
   have HF:=zh hf;clear hf hr hd
   go_wp2_with fail
   exact HF.out
 | some y =>
   obtain⟨v,b⟩:=y
   rw[hr] at hp
   have hp' : e=.returned (.tuple #[.int .i64 v,.int .i64 b,.bool true]):=hp
   subst hp'
   clear hp
   have hf:R (.returned (.int .i64 v)) (w.drew.setCell ⟨rb,1,none⟩ (.int .i64 b)):=by
    rw[HR.out,hr]
    exact⟨rfl,Az.pre hd (Az.set1 H.out.drew b)⟩
   have HF:=zh hf;clear hf hr hd
   go_wp2_with fail
   exact HF.out
theorem nT (fv:Value)(rb:Nat)(s:ByteArray)(a:Nat)(e:Int)(he:e≠0)(w:World)(h:At w rb 157 (rdV s a e)):
 Calls Tryz.prog 134 #[.pointer (some ⟨rb,0,none⟩),fv] w fun e w' => e=.returned (.int .i64 0)/\w' = w:=by
 have k2:=h.cell 2
 simp only[rdV,List.getElem?_toArray,List.getElem?_cons_zero,List.getElem?_cons_succ] at k2
 have he2:(e != 0)=true:=by simpa using he
 clear h
 go_enter Tryz.func134,Tryz.ntmps134
 go_wp2_with fail
 go_ret
 exact⟨rfl,rfl⟩
theorem bE (rb:Nat)(s:ByteArray)(a:Nat)(m:Int)(w:World)(h:At w rb 157 (rdV s a 0))(ha:a<=s.size)(hs:s.size<=140737488355328):
 Calls Tryz.prog 83 #[.pointer (some ⟨rb,0,none⟩),.int .i64 m] w (EK rb s a (rdC s m a) w):=by
 obtain⟨R,hR⟩:∃ R,R=EK rb s a (rdC s m a) w:=⟨_,rfl⟩
 rw[<- hR]
 have hlt:=h.lt
 have HR:=zh hR;have H:=zh h;clear hR h
 go_enter Tryz.func83,Tryz.ntmps83
 go_wp2_with fail
 have hfr:Fr (fun k=>k=rb) w ((w.alloc (.cells #[.pointer (some ⟨rb,0,none⟩)] 101)).alloc (.cells #[.int .i64 m] 3)):=((Fr.refl (fun k=>k=rb) w).alloc _).alloc _
 refine(Vu rb w.heap.size (w.heap.size+1) m s a _ (((At.new w _ _).alloc _).cell 0) ((At.new1 w _ _ _).cell 0) ((H.out.alloc _).alloc _) ha hs).mono ?_
 intro e w1 hp
 have hv:∃ v,e=.returned v:=by
  unfold EK at hp
  split at hp
  ·exact⟨_,hp.1⟩
  ·exact⟨_,hp.1⟩
 have hq:R e w1:=by
  rw[HR.out]
  unfold EK at hp ⊢
  split at hp
  ·exact⟨hp.1,Az.pre hfr hp.2⟩
  ·exact⟨hp.1,Az.pre hfr hp.2⟩
 obtain⟨v,rfl⟩:=hv
 have HP:=zh hq;clear hp hq hfr
 go_wp2_with fail
 exact HP.out
theorem bF (rb:Nat)(s:ByteArray)(a:Nat)(m:Int)(e:Int)(he:e≠0)(w:World)(h:At w rb 157 (rdV s a e)):
 Calls Tryz.prog 83 #[.pointer (some ⟨rb,0,none⟩),.int .i64 m] w fun e w' => e=.returned (.int .i64 0)/\Below w.heap.size w w':=by
 have hlt:=h.lt
 have H:=zh h;clear h
 go_enter Tryz.func83,Tryz.ntmps83
 go_wp2_with fail
 refine(nT _ rb s a e he _ ((H.out.alloc _).alloc _)).mono ?_
 rintro e w1 ⟨rfl,rfl⟩
 go_wp2_with fail
 go_ret
 exact⟨rfl,zb.alloc (by simp) _⟩
def El (s:ByteArray)(a:Nat)(e:Int):Int:=if e=0/\a<s.size then 9 else e
theorem nU (rb:Nat)(s:ByteArray)(a:Nat)(e:Int)(w:World)(h:At w rb 157 (rdV s a e)):
 Calls Tryz.prog 85 #[.pointer (some ⟨rb,0,none⟩)] w fun e' w' => e' = .returned (.int .i64 (El s a e))/\w' = w.drew:=by
 have k0:=h.cell 0;have k1:=h.cell 1;have k2:=h.cell 2
 simp only[rdV,List.getElem?_toArray,List.getElem?_cons_zero,List.getElem?_cons_succ] at k0 k1 k2
 obtain⟨E,hE⟩:∃ E,E=El s a e:=⟨_,rfl⟩
 rw[<- hE]
 have HE:=zh hE;clear hE h
 go_enter Tryz.func85,Tryz.ntmps85
 by_cases h0:e=0
 ·have d0:(e==0)=true:=by simpa using h0
  by_cases hl:a<s.size
  ·have d1:decide ((a:Int)<s.size)=true:=by simp;omega
   have hf:E=9:=by rw[HE.out];unfold El;rw[if_pos ⟨h0,hl⟩]
   have HF:=zh hf;clear hf h0
   go_wp2_with fail
   refine Lex.zl ?_
   go_wp2_with fail
   refine Lex.ze ?_
   go_wp2_with fail
   go_ret
   exact⟨by rw[HF.out];rfl,rfl⟩
  ·have d1:decide ((a:Int)<s.size)=false:=by simp;omega
   have hf:E=e:=by rw[HE.out];unfold El;rw[if_neg (fun h=>hl h.2)]
   have HF:=zh hf;clear hf h0
   go_wp2_with fail
   refine Lex.zl ?_
   go_wp2_with fail
   refine Lex.ze ?_
   go_wp2_with fail
   go_ret
   exact⟨by rw[HF.out];rfl,rfl⟩
 ·have d0:(e==0)=false:=by simpa using h0
  have hf:E=e:=by rw[HE.out];unfold El;rw[if_neg (fun h=>h0 h.1)]
  have HF:=zh hf;clear hf h0
  go_wp2_with fail
  refine Lex.zl ?_
  go_wp2_with fail
  refine Lex.ze ?_
  go_wp2_with fail
  go_ret
  exact⟨by rw[HF.out];rfl,rfl⟩
def bG (w:World)(r:Option (List ByteArray × Nat))(e:Ending)(w' : World):Prop:=match r with
 | some (l,b)=>∃ v,e=.returned (.tuple #[v,.int .i64 b,.bool true])/\Am w' v l/\(∀ k,v.ownBlock=some k->w.heap.size<=k)/\(∃ a c,v=.slice (some a) l.length c/\l.length<=c)/\Below w.heap.size w w'
 | none=>e=.returned (.tuple #[.slice none 0 0,.int .i64 0,.bool false])/\Below w.heap.size w w'
def filled (n:Nat)(xs:List ByteArray):List Value:=(xs++List.replicate (n-xs.length) (⟨#[]⟩:ByteArray)).map Value.string
theorem iH (n:Nat)(xs:List ByteArray)(x:ByteArray)(h:xs.length<n):(filled n xs).set xs.length (.string x)=filled n (xs++[x]):=by
 unfold filled
 obtain⟨k,hk⟩:∃ k,n-xs.length=k+1:=⟨n-xs.length-1,by omega⟩
 rw[<- List.map_set,hk,List.length_append,List.length_singleton,show n-(xs.length+1)=k by omega,List.replicate_succ]
 congr 1
 rw[List.set_append_right _ _ (Nat.le_refl _),Nat.sub_self,List.set_cons_zero,List.append_assoc]
 rfl
theorem iI (n:Nat)(xs:List ByteArray)(h:xs.length=n):filled n xs=xs.map Value.string:=by
 unfold filled
 rw[h,Nat.sub_self]
 simp
def TsI (s:ByteArray)(w0:World)(n a:Nat)(at_ i:Value)(wr:World):Prop:=
 ∃ (k b : Nat) (xs : List ByteArray),k ≤ n ∧ xs.length = k ∧ i = .int .i64 k ∧ at_ = .int .i64 b ∧ b ≤ s.size ∧ wr.ownsRow w0.heap.size 9 1 (.slice (some ⟨w0.heap.size,0,none⟩) n n) n (filled n xs) ∧ Below w0.heap.size w0 wr ∧
   Cod.LJ s n a=match Cod.LJ s (n-k) b with
    | some (l,c)=>some (xs++l,c)
    | none=>none
theorem Yx (rb b1:Nat)(s:ByteArray)(a0 a:Nat)(e0:Int)(w:World)(h1:w.cell? ⟨b1,0,none⟩=some (.pointer (some ⟨rb,0,none⟩)))(hb1:b1<w.heap.size)(h:At w rb 157 (rdV s a0 e0))(ha:a<=s.size)(hs:s.size<=1000000):
 Calls Tryz.prog 140 #[.int .i64 a,.pointer (some ⟨b1,0,none⟩)] w (bG w (Cod.Bu s a)):=by
 obtain⟨R,hR⟩:∃ R,R=bG w (Cod.Bu s a):=⟨_,rfl⟩
 rw[<- hR]
 have k0:=h.cell 0
 simp only[rdV,List.getElem?_toArray,List.getElem?_cons_zero] at k0
 have HR:=zh hR;have H:=zh h;clear hR h
 obtain⟨i0,hi,hz0,hz1,hz2⟩:=info_parts Zw
 go_enter Tryz.func140,Tryz.ntmps140
 go_wp2_with fail
 refine(JA rb s a0 a e0 _ H.out ha (by omega)).mono ?_
 rintro e w1 ⟨hp,rfl⟩
 cases hr:Cod.rdN s a with
 | none =>
   rw[hr] at hp
   obtain⟨n,b,rfl⟩:=hp
   have hf:R (.returned (.tuple #[.slice none 0 0,.int .i64 0,.bool false])) w1:=by
    rw[HR.out]
    unfold Cod.Bu
    rw[hr]
    exact⟨rfl,Below.refl _ _⟩
   have HF:=zh hf;clear hf hr
   go_wp2_with fail
   go_ret3
   exact HF.out
 | some y =>
   obtain⟨n,b⟩:=y
   rw[hr] at hp
   have hp' : e=.returned (.tuple #[.int .i64 n,.int .i64 b,.bool true]):=hp
   subst hp'
   clear hp
   obtain⟨g1,g2,_,g4⟩:=Cod.FP hr
   by_cases hlt:n<=s.size-b
   ·have hz:¬ ((s.size:Int)-b<n):=by omega
    have hf:Cod.Bu s a=Cod.LJ s n b:=by
     unfold Cod.Bu
     simp only[hr,if_pos hlt]
    have HF:=zh hf;clear hf hr
    go_wp2_with (at_make;go_must (refine wpList_make_full _ rfl _ _ 68 rfl w1.heap.size 9 i0 (.string ⟨#[]⟩) 1 Tryz.underlying68 hi hz0 hz1 .i64 .i64 n n n rfl rfl rfl rfl (by rw[hz2];omega) (by unfold maxLen;omega) (Nat.le_refl _) ?_);intro w2 how hg)
    have hrow:(madeCells (Value.string ⟨#[]⟩).cells (n*1)).toList=filled n []:=by
     rw[Nat.mul_one]
     show(madeCells #[Value.string ⟨#[]⟩] n).toList=_
     rw[toList_madeCells_one]
     simp[filled]
    rw[hrow] at how
    have hb2:Below w1.heap.size w1 w2:=(Below.refl w1.heap.size w1).grown hg (Nat.le_refl _) (fun i hi=>by cases hi)
    have hlt1:=H.out.lt
    have hti:TsI s w1 n b (.int .i64 b) (.int .i64 0) w2:=⟨0,b,[],Nat.zero_le _,rfl,rfl,rfl,g2,how,hb2,by
     rw[Nat.sub_zero]
     cases Cod.LJ s n b with
     | none=>rfl
     | some y=>obtain⟨l,c⟩:=y;rfl⟩
    have HTI:=zh hti;clear hti how hg hb2 hrow k0
    go_wp2_with fail
    go_loopw [0,34] (fun at_ i wr=>TsI s w1 n b at_ i wr) (fun _ i _=>n-(intOf i).toNat)
    case atStart=>exact HTI.out
    case round=>
     obtain⟨k,b2,xs,hk,hxl,rfl,rfl,hb2,how,hbl,htr⟩:=hrel
     have HOW:=zh how;have HBL:=zh hbl;have HTR:=zh htr;have HXL:=zh hxl;clear how hbl htr hxl
     by_cases hkn:k<n
     ·have dk:decide ((k:Int)<n)=true:=by simp;omega
      obtain⟨M,hM⟩:∃ M,n-k=M+1:=⟨n-k-1,by omega⟩
      have htr:=HTR.out
      rw[hM,Cod.LJ] at htr
      have c1:wr.cell? ⟨b1,0,none⟩=some (.pointer (some ⟨rb,0,none⟩)):=(HBL.out.cell (p:=⟨b1,0,none⟩) hb1).trans h1
      have hat:=H.out.below HBL.out hlt1
      have hce:(wr.cell? ⟨w1.heap.size,k,none⟩).isSome=true:=by
       rw[HOW.out.cellAt k (by omega)]
       simp[filled,HXL.out]
       omega
      obtain⟨cv,hcv⟩:=Option.isSome_iff_exists.1 hce
      have hfz:wr.frozen? ⟨w1.heap.size,k,none⟩=false:=HOW.out.frozenAt k
      have HAT:=zh hat;have HM:=zh hM;clear hat hce hM
      go_wp2_with fail
      refine(Uk rb s a0 b2 e0 _ HAT.out hb2 (by omega)).mono ?_
      rintro e w3 ⟨hp,rfl⟩
      cases hr3:Cod.rdT s b2 with
      | none =>
        rw[hr3] at hp
        have hp' : e=.returned (.tuple #[.string ⟨#[]⟩,.int .i64 0,.bool false]):=hp
        subst hp'
        rw[hr3] at htr
        have hf2:R (.returned (.tuple #[.slice none 0 0,.int .i64 0,.bool false])) (w3.setCell ⟨w1.heap.size,k,none⟩ (.string ⟨#[]⟩)):=by
         rw[HR.out,HF.out,htr]
         exact⟨rfl,HBL.out.setCell (p:=⟨w1.heap.size,k,none⟩) (Nat.le_refl _) _⟩
        have HF2:=zh hf2;clear hf2 hr3 hp htr
        go_wp2_with fail
        go_ret3
        exact HF2.out
      | some y =>
        obtain⟨x,b3⟩:=y
        rw[hr3] at hp
        have hp' : e=.returned (.tuple #[.string x,.int .i64 b3,.bool true]):=hp
        subst hp'
        simp only[hr3] at htr
        have hb3:=(Cod.Ns hr3).2.1
        have hst:=(HOW.out.stored k (.string x)).1
        rw[<- HXL.out,iH n xs x (by rw[HXL.out];exact hkn),HXL.out] at hst
        have yZ:TsI s w1 n b (.int .i64 b3) (.int .i64 ((k:Int)+1)) (w3.setCell ⟨w1.heap.size,k,none⟩ (.string x)):=by
         refine⟨k+1,b3,xs++[x],by omega,by rw[List.length_append,HXL.out];rfl,by go_num,rfl,hb3,hst,HBL.out.setCell (p:=⟨w1.heap.size,k,none⟩) (Nat.le_refl _) _,?_⟩
         rw[htr,show n-(k+1)=M by have:=HM.out;omega]
         cases Cod.LJ s M b3 with
         | none=>rfl
         | some z=>obtain⟨l,c⟩:=z;simp
        have zeb:=zh yZ;clear yZ hst hr3 hp htr
        go_wp2_with fail
        exact⟨zeb.out,by simp[intOf];omega⟩
     ·have dk:decide ((k:Int)<n)=false:=by simp;omega
      have hkn2:k=n:=by omega
      have htr:=HTR.out
      rw[hkn2,Nat.sub_self] at htr
      have hxn:xs.length=n:=by rw[HXL.out];exact hkn2
      have hf2:R (.returned (.tuple #[.slice (some ⟨w1.heap.size,0,none⟩) n n,.int .i64 b2,.bool true])) wr:=by
       rw[HR.out,HF.out,htr]
       simp only[Cod.LJ,List.append_nil]
       have how:=HOW.out
       rw[iI n xs hxn,<- hxn] at how
       refine⟨_,rfl,?_,fun i hi=>by simp[Value.ownBlock] at hi;omega,⟨_,n,by rw[hxn],by omega⟩,HBL.out⟩
       rw[<- hxn]
       exact Am.own how
      have HF2:=zh hf2;clear hf2 htr hkn2 hxn
      go_wp2_with fail
      go_ret3
      exact HF2.out
   ·have hz:((s.size:Int)-b<n):=by omega
    have hf:R (.returned (.tuple #[.slice none 0 0,.int .i64 0,.bool false])) w1:=by
     rw[HR.out]
     unfold Cod.Bu
     simp only[hr,if_neg hlt]
     exact⟨rfl,Below.refl _ _⟩
    have HF:=zh hf;clear hf hr
    go_wp2_with fail
    go_ret3
    exact HF.out
def GX (rb:Nat)(s:ByteArray)(a:Nat)(r:Option (List ByteArray × Nat))(w:World)(e:Ending)(w' : World):Prop:=match r with
 | some (l,b)=>∃ c d,e=.returned (.slice (some c) l.length d)/\(Am w' (.slice (some c) l.length d) l/\l.length<=d)/\(∀ k,(Value.slice (some c) l.length d).ownBlock=some k->w.heap.size<=k)/\Az rb w w' (rdV s b 0)
 | none=>e=.returned (.slice none 0 0)/\Az rb w w' (rdV s a 9)
theorem Vv (rb b1:Nat)(s:ByteArray)(a:Nat)(w:World)(h1:w.cell? ⟨b1,0,none⟩=some (.pointer (some ⟨rb,0,none⟩)))(hb1:b1<w.heap.size)(h:At w rb 157 (rdV s a 0))(ha:a<=s.size)(hs:s.size<=1000000):
 Calls Tryz.prog 139 #[.pointer (some ⟨rb,0,none⟩),.func (.func 140) #[] #[.pointer (some ⟨b1,0,none⟩)]] w (GX rb s a (Cod.Bu s a) w):=by
 obtain⟨R,hR⟩:∃ R,R=GX rb s a (Cod.Bu s a) w:=⟨_,rfl⟩
 rw[<- hR]
 have k1:=h.cell 1;have k2:=h.cell 2
 simp only[rdV,List.getElem?_toArray,List.getElem?_cons_zero,List.getElem?_cons_succ] at k1 k2
 have hlt:=h.lt
 have HR:=zh hR;have H:=zh h;have H1:=zh h1;clear hR h h1
 go_enter Tryz.func139,Tryz.ntmps139
 go_wp2_with fail
 refine(Yx rb b1 s a a 0 _ H1.out hb1 H.out ha hs).mono ?_
 intro e w1 hp
 cases hr:Cod.Bu s a with
 | none =>
   rw[hr] at hp
   obtain⟨rfl,hb⟩:=hp
   have hat:=H.out.below hb hlt
   have z2:=hat.free 2;have y2:=hat.cell 2
   simp only[rdV,List.getElem?_toArray,List.getElem?_cons_zero,List.getElem?_cons_succ] at y2
   have hf:R (.returned (.slice none 0 0)) (w1.setCell ⟨rb,2,none⟩ (.int .i64 9)):=by
    rw[HR.out,hr]
    exact⟨rfl,Az.pre (Fr.of_below hb) (Az.set2 hat 9)⟩
   have HF:=zh hf;clear hf hr hat hb
   go_wp2_with fail
   exact HF.out
 | some y =>
   obtain⟨l,b⟩:=y
   rw[hr] at hp
   obtain⟨v,rfl,hv,hfr,⟨c,d,rfl,hcd⟩,hb⟩:=hp
   have hat:=H.out.below hb hlt
   have z1:=hat.free 1;have y1:=hat.cell 1
   simp only[rdV,List.getElem?_toArray,List.getElem?_cons_zero,List.getElem?_cons_succ] at y1
   have hf:R (.returned (.slice (some c) l.length d)) (w1.setCell ⟨rb,1,none⟩ (.int .i64 b)):=by
    rw[HR.out,hr]
    exact⟨c,d,rfl,⟨hv.keep (fun k hk _=>zo (by have:=hfr k hk;show k≠rb;omega)),hcd⟩,hfr,Az.pre (Fr.of_below hb) (Az.set1 hat b)⟩
   have HF:=zh hf;clear hf hr hat hb hv hfr
   go_wp2_with fail
   exact HF.out
theorem nV (fv:Value)(rb:Nat)(s:ByteArray)(a:Nat)(e:Int)(he:e≠0)(w:World)(h:At w rb 157 (rdV s a e)):
 Calls Tryz.prog 139 #[.pointer (some ⟨rb,0,none⟩),fv] w fun e w' => e=.returned (.slice none 0 0)/\w' = w:=by
 have k2:=h.cell 2
 simp only[rdV,List.getElem?_toArray,List.getElem?_cons_zero,List.getElem?_cons_succ] at k2
 have he2:(e != 0)=true:=by simpa using he
 clear h
 go_enter Tryz.func139,Tryz.ntmps139
 go_wp2_with fail
 go_ret
 exact⟨rfl,rfl⟩
theorem bH (rb:Nat)(s:ByteArray)(a:Nat)(w:World)(h:At w rb 157 (rdV s a 0))(ha:a<=s.size)(hs:s.size<=1000000):
 Calls Tryz.prog 84 #[.pointer (some ⟨rb,0,none⟩)] w (GX rb s a (Cod.Bu s a) w):=by
 obtain⟨R,hR⟩:∃ R,R=GX rb s a (Cod.Bu s a) w:=⟨_,rfl⟩
 rw[<- hR]
 have hlt:=h.lt
 have HR:=zh hR;have H:=zh h;clear hR h
 go_enter Tryz.func84,Tryz.ntmps84
 go_wp2_with fail
 have hfr:Fr (fun k=>k=rb) w (w.alloc (.cells #[.pointer (some ⟨rb,0,none⟩)] 101)):=(Fr.refl (fun k=>k=rb) w).alloc _
 refine(Vv rb w.heap.size s a _ ((At.new w _ _).cell 0) (by simp) (H.out.alloc _) ha hs).mono ?_
 intro e w1 hp
 have hv:∃ v,e=.returned v:=by
  unfold GX at hp
  split at hp
  ·obtain⟨c,d,rfl,_⟩:=hp;exact⟨_,rfl⟩
  ·exact⟨_,hp.1⟩
 have hq:R e w1:=by
  rw[HR.out]
  unfold GX at hp ⊢
  split at hp
  ·obtain⟨c,d,h1,h2,h3,h4⟩:=hp
   exact⟨c,d,h1,h2,fun k hk=>by have:=h3 k hk;simp at this;omega,Az.pre hfr h4⟩
  ·exact⟨hp.1,Az.pre hfr hp.2⟩
 obtain⟨v,rfl⟩:=hv
 have HP:=zh hq;clear hp hq hfr
 go_wp2_with fail
 exact HP.out
theorem bI (rb:Nat)(s:ByteArray)(a:Nat)(e:Int)(he:e≠0)(w:World)(h:At w rb 157 (rdV s a e)):
 Calls Tryz.prog 84 #[.pointer (some ⟨rb,0,none⟩)] w fun e w' => e=.returned (.slice none 0 0)/\Below w.heap.size w w':=by
 have H:=zh h;clear h
 go_enter Tryz.func84,Tryz.ntmps84
 go_wp2_with fail
 refine(nV _ rb s a e he _ (H.out.alloc _)).mono ?_
 rintro e w1 ⟨rfl,rfl⟩
 go_wp2_with fail
 go_ret
 exact⟨rfl,zb⟩
theorem Qg (s:ByteArray):s++⟨#[]⟩=s:=by
 apply Sha.BI
 rw[Sha.Ao]
 simp
theorem Yy (s:ByteArray):(⟨#[]⟩:ByteArray)++s=s:=by
 apply Sha.BI
 rw[Sha.Ao]
 simp
theorem tH (xs:List ByteArray)(k:Nat)(h:k<xs.length):Cod.cat ((xs.take (k+1)).map Cod.text)=Cod.cat ((xs.take k).map Cod.text)++Cod.text xs[k]:=by
 induction xs generalizing k with
 | nil=>cases h
 | cons x l ih =>
   match k with
   | 0 =>
     show Cod.text x++Cod.cat []=(⟨#[]⟩:ByteArray)++Cod.text x
     rw[Yy]
     exact Qg _
   | k + 1 =>
     have h2:k<l.length:=by simpa using h
     show Cod.text x++Cod.cat ((l.take (k+1)).map Cod.text)=(Cod.text x++Cod.cat ((l.take k).map Cod.text))++Cod.text l[k]
     rw[ih k h2,ByteArray.append_assoc]
theorem tJ (xs:List ByteArray)(k:Nat):(Cod.cat ((xs.take k).map Cod.text)).size<=(Cod.cat (xs.map Cod.text)).size:=by
 induction xs generalizing k with
 | nil=>simp
 | cons x l ih =>
   match k with
   | 0=>exact Nat.zero_le _
   | k + 1 =>
     show(Cod.text x++Cod.cat ((l.take k).map Cod.text)).size<=(Cod.text x++Cod.cat (l.map Cod.text)).size
     rw[Sha.Ah,Sha.Ah]
     have:=ih k
     omega
theorem bJ (b:Nat)(X s:ByteArray)(w:World)(h:BN w b X)(hl:X.size+s.size<=140737488355328):
 Calls Tryz.prog 172 #[.string s,.pointer (some ⟨b,0,none⟩)] w fun e w' => e=.returned (.tuple #[])/\BN w' b (X++s)/\Below b w w':=by
 have H:=zh h;clear h
 go_enter Tryz.func172,Tryz.ntmps172
 go_wp2_with fail
 refine(ru b X s _ H.out hl).mono ?_
 rintro e w1 ⟨rfl,h1,hb1⟩
 have H1:=zh h1;have HB1:=zh hb1;clear h1 hb1
 go_wp2_with fail
 go_end0
 exact⟨rfl,H1.out,HB1.out⟩
theorem nW (w0:World)(b:Nat)(X:ByteArray)(v:Value)(xs:List ByteArray)(w:World)(h:BN w b X)(hb:Below b w0 w)(hw0:b=w0.heap.size)(hv:Am w0 v xs)(hx:∀ x∈xs,x.size<=140737488350000)(hl:xs.length<=140737488350000)(ht:X.size+(Cod.cat (xs.map Cod.text)).size<=140737488355328):
 Calls Tryz.prog 171 #[v,.func (.func 77) #[] #[],.func (.func 172) #[] #[.pointer (some ⟨b,0,none⟩)]] w fun e w' => e=.returned (.tuple #[])/\BN w' b (X++Cod.cat (xs.map Cod.text))/\Below b w0 w':=by
 obtain⟨a,c,rfl,hc⟩:=hv
 have H:=zh h;have HB:=zh hb;have HX:=zh hx;have HC:=zh hc;have HW0:=zh hw0;clear h hb hx hc hw0
 go_enter Tryz.func171,Tryz.ntmps171
 go_wp2_with fail
 go_loopw [10] (fun i wr=>∃ k:Nat,k<=xs.length/\i=.int .i64 k/\BN wr b (X++Cod.cat ((xs.take k).map Cod.text))/\Below b w0 wr) (fun i _=>xs.length-(intOf i).toNat)
 case atStart=>exact⟨0,by omega,rfl,by rw[List.take_zero];show BN _ _ (X++⟨#[]⟩);rw[Qg];exact H.out,HB.out⟩
 case round=>
  obtain⟨k,hk,rfl,hbl,hbw⟩:=hrel
  have HBL:=zh hbl;have HBW:=zh hbw;clear hbl hbw
  by_cases hlt:k<xs.length
  ·have dk:decide ((k:Int)<xs.length)=true:=by simp;omega
   obtain⟨g,o,rfl,hc⟩:=HC.out.resolve_left (by omega)
   have ce:=hc k hlt
   have hgl:=block_lt ce
   have ce2:=(HBW.out.cell (p:=⟨g,o+k,none⟩) (by rw[HW0.out];exact hgl)).trans ce
   obtain⟨s,hs⟩:∃ s,s=xs.getD k ⟨#[]⟩:=⟨_,rfl⟩
   rw[<- hs] at ce2
   have hsx:s=xs[k]:=by rw[hs];simp[List.getD_eq_getElem?_getD,hlt]
   have hsz:s.size<=140737488350000:=HX.out s (by rw[hsx];exact List.getElem_mem hlt)
   obtain⟨Y,hY⟩:∃ Y,Y=X++Cod.cat ((xs.take k).map Cod.text):=⟨_,rfl⟩
   have hY2:Y++Cod.text s=X++Cod.cat ((xs.take (k+1)).map Cod.text):=by rw[tH xs k hlt,hY,hsx,ByteArray.append_assoc]
   have hYs:Y.size+(Cod.text s).size<=140737488355328:=by
    rw[<- Sha.Ah,hY2,Sha.Ah]
    have:=tJ xs (k+1)
    omega
   have hbl:=HBL.out
   rw[<- hY] at hbl
   have HBY:=zh hbl;have HY2:=zh hY2;have HYS:=zh hYs;have HCC:=zh hc;clear hbl hY hY2 hYs hs hsx ce hc
   go_wp2_with fail
   refine(Fj s _ hsz).mono ?_
   rintro e w2 ⟨rfl,hb2⟩
   have HB2:=zh hb2;have zec:=zh (HBY.out.below hb2);clear hb2
   generalize Cod.text s=t at*
   go_wp2_with fail
   refine(bJ b Y t _ zec.out HYS.out).mono ?_
   rintro e w3 ⟨rfl,h3,hb3⟩
   have hfin:Below b w0 w3:=(HBW.out.trans (HB2.out.mono (Nat.le_of_lt HBY.out.lt))).trans hb3
   rw[HY2.out] at h3
   have HF:=zh hfin;have H3:=zh h3;clear hfin h3 hb3
   go_wp2_with fail
   exact⟨⟨k+1,by omega,by go_num,H3.out,HF.out⟩,by simp[intOf];omega⟩
  ·have dk:decide ((k:Int)<xs.length)=false:=by simp;omega
   have hbl:=HBL.out
   rw[List.take_of_length_le (by omega)] at hbl
   have HBY:=zh hbl;clear hbl
   go_wp2_with fail
   go_end0
   exact⟨rfl,HBY.out,HBW.out⟩
theorem Un (v:Value)(xs:List ByteArray)(w:World)(hv:Am w v xs)(hx:∀ x∈xs,x.size<=140737488350000)(hl:xs.length<=140737488350000)(ht:(Cod.texts xs).size<=140737488355328):
 Calls Tryz.prog 128 #[v] w fun e w' => e=.returned (.string (Cod.texts xs))/\Below w.heap.size w w':=by
 obtain⟨a,c,rfl⟩:=hv.len
 have HV:=zh hv;have HX:=zh hx;have HT:=zh ht;clear hv hx ht
 have hts:Cod.texts xs=Cod.uns xs.length++Cod.cat (xs.map Cod.text):=rfl
 have HTS:=zh hts;clear hts
 generalize Cod.texts xs=T at*
 go_enter Tryz.func128,Tryz.ntmps128
 go_wp2_with fail
 refine(SG xs.length _ (by omega)).mono ?_
 rintro e w1 ⟨rfl,hb1⟩
 have hbl:BN w1 w.heap.size ⟨#[]⟩:=(BN.new w).below hb1
 have hbw:Below w.heap.size w w1:=zb.trans (hb1.mono (by simp))
 have hu:=Cod.Co xs.length
 have HBL:=zh hbl;have HBW:=zh hbw;clear hbl hbw hb1
 obtain⟨u,hu2⟩:∃ u,u=Cod.uns xs.length:=⟨_,rfl⟩
 rw[<- hu2] at hu HTS ⊢
 clear hu2
 go_wp2_with fail
 refine(ru w.heap.size ⟨#[]⟩ u _ HBL.out (by show 0+u.size<=_;omega)).mono ?_
 rintro e w2 ⟨rfl,h2,hb2⟩
 rw[Yy] at h2
 have H2:=zh h2;have mg:=zh (HBW.out.trans hb2);clear h2 hb2
 go_wp2_with fail
 refine(nW w w.heap.size u (.slice a xs.length c) xs w2 H2.out mg.out rfl HV.out HX.out hl (by have:=HT.out;rw[HTS.out,Sha.Ah] at this;exact this)).mono ?_
 rintro e w3 ⟨rfl,h3,hb3⟩
 rw[<- HTS.out] at h3
 have H3:=zh h3;have HB3:=zh hb3;clear h3 hb3
 go_wp2_with fail
 refine(zb0 w.heap.size T _ H3.out).mono ?_
 rintro e w4 ⟨rfl,h4,hb4⟩
 have HB4:=zh (HB3.out.trans hb4);clear h4 hb4
 go_wp2_with fail
 go_ret
 exact⟨rfl,HB4.out⟩
theorem EM (n:Nat)(w:World)(hn:n<9223372036854775808):
 Calls Tryz.prog 64 #[.int .i64 n] w fun e w' => e=.returned (.string (Cod.uns n))/\Below w.heap.size w w':=by
 go_enter Tryz.func64,Tryz.ntmps64
 go_wp2_with fail
 refine(VU n _ hn).mono ?_
 rintro e w1 ⟨rfl,hb1⟩
 have HB:=zh hb1;clear hb1
 go_wp2_with fail
 go_ret
 exact⟨rfl,HB.out⟩
namespace Own
theorem Ia (l:List ByteArray)(x:ByteArray):Cod.cat (l++[x])=Cod.cat l++x:=by
 induction l with
 | nil=>show x++⟨#[]⟩=⟨#[]⟩++x;rw[Qg,Yy]
 | cons y l ih=>show y++Cod.cat (l++[x])=(y++Cod.cat l)++x;rw[ih,ByteArray.append_assoc]
theorem bK (ms:List Member)(k:Nat)(hk:k<ms.length):Cod.cat ((ms.take (k+1)).map Ba)=Cod.cat ((ms.take k).map Ba)++(Cod.text ms[k].name++Cod.text ms[k].pub):=by
 rw[List.take_succ_eq_append_getElem hk,List.map_append,List.map_cons,List.map_nil,Ia]
 rfl
theorem Cz (s:ByteArray):(Cod.text s).size<=10+s.size:=by
 have:=Cod.Co s.size
 unfold Cod.text
 rw[Sha.Ah]
 omega
theorem iJ (ms:List Member)(h:∀ m∈ms,m.name.size<=32/\m.pub.size=33):∀ k,(Cod.cat ((ms.take k).map Ba)).size<=85*k
 | 0=>by rw[List.take_zero];exact Nat.le_refl _
 | k + 1 => by
   have ih:=iJ ms h k
   by_cases hk:k<ms.length
   ·have h1:=h ms[k] (List.getElem_mem hk)
    have h2:=Cz ms[k].name
    have h3:=Cz ms[k].pub
    rw[bK ms k hk,Sha.Ah,Sha.Ah]
    omega
   ·rw[List.take_of_length_le (by omega)] at ih ⊢
    omega
end Own
theorem QS (op:Own.Op)(mv av:Value)(w:World)(hm:Own.Ag w mv op.members)(ha:∃ a c,av=.slice a op.Aa.length c)(hz:Own.LU op):
 Calls Tryz.prog 65 #[Own.opV op mv av] w fun e w' => e=.returned (.string (Own.Dj op))/\Below w.heap.size w w':=by
 obtain⟨R,hR⟩:∃ R,R=Own.Dj op:=⟨_,rfl⟩
 rw[<- hR]
 unfold Own.Dj at hR
 unfold Own.opV
 obtain⟨aa,ac,rfl⟩:=ha
 obtain⟨kd,pre,ms,th,nm,pb,aps⟩:=op
 obtain⟨k0,k4,hpre,hal,hml,hms,t0,t8,hnm,hpb⟩:=hz
 dsimp only at*
 obtain⟨kn,rfl⟩:∃ k:Nat,kd=k:=⟨kd.toNat,by omega⟩
 obtain⟨tn,rfl⟩:∃ t:Nat,th=t:=⟨th.toNat,by omega⟩
 simp only[Int.toNat_natCast] at hR
 obtain⟨ma,mc,rfl⟩:=hm.len
 have hcz:=Own.iJ ms hms
 have F1:=zh (show Aw w _ [(29,#[.int .i64 (kn:Int),.string pre,.slice ma ms.length mc,.int .i64 (tn:Int),.string nm,.string pb,.slice aa aps.length ac])] from((Dm.nil w).push 29 #[.int .i64 (kn:Int),.string pre,.slice ma ms.length mc,.int .i64 (tn:Int),.string nm,.string pb,.slice aa aps.length ac]).boxes)
 have HM:=zh hm;have HR:=zh hR;have HMS:=zh hms;have HCZ:=zh hcz
 clear hm hR hms hcz
 go_enter Tryz.func65,Tryz.ntmps65
 go_upto_region 2 with fail
 obtain⟨b,hb⟩:∃ b,b=w.heap.size+1:=⟨_,rfl⟩
 rw[<- hb]
 have zcM:BN ((w.alloc (.cells #[.int .i64 (kn:Int),.string pre,.slice ma ms.length mc,.int .i64 (tn:Int),.string nm,.string pb,.slice aa aps.length ac] 29)).alloc (.cells #[.pointer none,.slice none 0 0] 142)) b ⟨#[]⟩:=by
  have h:=BN.new (w.alloc (.cells #[.int .i64 (kn:Int),.string pre,.slice ma ms.length mc,.int .i64 (tn:Int),.string nm,.string pb,.slice aa aps.length ac] 29))
  have e:(w.alloc (.cells #[.int .i64 (kn:Int),.string pre,.slice ma ms.length mc,.int .i64 (tn:Int),.string nm,.string pb,.slice aa aps.length ac] 29)).heap.size=b:=by rw[hb];simp
  rwa [e] at h
 have F2:=zh (F1.out.step ((Below.refl _ _).alloc (Nat.le_refl _) (.cells #[.pointer none,.slice none 0 0] 142)))
 have HBL:=zh zcM;clear zcM F1
 generalize (w.alloc (.cells #[.int .i64 (kn:Int),.string pre,.slice ma ms.length mc,.int .i64 (tn:Int),.string nm,.string pb,.slice aa aps.length ac] 29)).alloc (.cells #[.pointer none,.slice none 0 0] 142)=w1 at*
 have HBE:=zh hb;clear hb
 obtain⟨x00,x01,x02,x03,x04,x05,x06⟩:=F2.out.KH rfl
 have hlt:w.heap.size<w1.heap.size:=F2.out.lt (i:=0) (by show 0<1;omega)
 have X1:=zh (zi x01)
 have X2:=zh (zi x02)
 go_wp2_with fail
 refine Lex.zn (fun i=>i=w.heap.size) [4,8] 11 [3,3,5] ?_
 simp only[Lex.Br,zd]
 go_wp2_with fail
 refine(EM kn _ (by omega)).mono ?_
 rintro e w2 ⟨rfl,hb2⟩
 have B12:=zh (show Below w1.heap.size w1 w2 from(Below.refl w1.heap.size w1).drew.trans hb2)
 have F3:=zh (F2.out.step B12.out);clear hb2
 (try clear x00 x01 x02 x03 x04 x05 x06)
 obtain⟨x00,x01,x02,x03,x04,x05,x06⟩:=F3.out.KH rfl
 obtain⟨U,hU⟩:∃ U,U=Cod.uns kn:=⟨_,rfl⟩
 rw[<- hU]
 have zU:U.size<=10:=by rw[hU];exact Cod.Co kn
 have HU:=zh hU;clear hU
 go_wp2_with fail
 refine Lex.Mid.intro (fun i hi hl=>by subst hi;exact B12.out.block _ hl) ?_
 go_wp2_with fail
 refine(Fj pre _ (by omega)).mono ?_
 rintro e w3 ⟨rfl,hb3⟩
 have B13:=zh (B12.out.trans (hb3.mono B12.out.size))
 have F4:=zh (F2.out.step B13.out);clear hb3
 (try clear x00 x01 x02 x03 x04 x05 x06)
 obtain⟨x00,x01,x02,x03,x04,x05,x06⟩:=F4.out.KH rfl
 obtain⟨T,hT⟩:∃ T,T=Cod.text pre:=⟨_,rfl⟩
 rw[<- hT]
 have zT:T.size<=74:=by rw[hT];have:=Own.Cz pre;omega
 have HT:=zh hT;clear hT
 go_wp2_with fail
 refine Lex.Mid.intro (fun i hi hl=>by subst hi;exact B13.out.block _ hl) ?_
 go_wp2_with fail
 refine(EM ms.length _ (by omega)).mono ?_
 rintro e w4 ⟨rfl,hb4⟩
 have B14:=zh (B13.out.trans (hb4.mono B13.out.size))
 have F5:=zh (F2.out.step B14.out);clear hb4
 (try clear x00 x01 x02 x03 x04 x05 x06)
 obtain⟨x00,x01,x02,x03,x04,x05,x06⟩:=F5.out.KH rfl
 obtain⟨V,hV⟩:∃ V,V=Cod.uns ms.length:=⟨_,rfl⟩
 rw[<- hV]
 have zV:V.size<=10:=by rw[hV];exact Cod.Co _
 have HV:=zh hV;clear hV
 have wT:=zh (HBL.out.below B14.out)
 go_wp2_with fail
 refine Lex.Mid.intro (fun i hi hl=>by subst hi;exact B14.out.block _ hl) ?_
 obtain⟨X,hX⟩:∃ X,X=U++T++V:=⟨_,rfl⟩
 have zX:X.size<=94:=by rw[hX,Sha.Ah,Sha.Ah];omega
 have hwr:∀ W,BN W b ⟨#[]⟩->Calls Tryz.prog 118 #[.pointer (some ⟨b,0,none⟩),.string (U++T++V)] W fun e w' => e=.returned (.tuple #[.int .i64 X.size,.nilIface])/\BN w' b X/\Below b W w':=fun W hW=>by
  have:=ru b ⟨#[]⟩ X W hW (by show 0+X.size<=_;omega)
  rw[Yy] at this
  rw[<- hX]
  exact this
 have HWR:=zh hwr;have HX:=zh hX
 clear hwr hX
 go_wp2_with fail
 refine(HWR.out _ wT.out).mono ?_
 rintro e w5 ⟨rfl,zcN,hb5⟩
 have F6:=zh (F5.out.over (show Below (w.heap.size+1) _ w5 by rw[<- HBE.out];exact hb5))
 have zcO:=zh zcN
 clear zcN hb5 wT HWR HBL B12 B13 B14 F2 F3 F4 F5
 (try clear x00 x01 x02 x03 x04 x05 x06)
 obtain⟨x00,x01,x02,x03,x04,x05,x06⟩:=F6.out.KH rfl
 go_wp2_with fail
 refine Lex.zk ⟨⟨rfl,X1.out⟩,⟨rfl,X2.out⟩,trivial⟩ ?_
 clear X1 X2 hlt
 go_wp2_with fail
 (try clear x00 x01 x02 x03 x04 x05 x06)
 go_loopw [22] (fun i wr=>∃ k:Nat,k<=ms.length/\i=.int .i64 k/\Aw w wr [(29,#[.int .i64 (kn:Int),.string pre,.slice ma ms.length mc,.int .i64 (tn:Int),.string nm,.string pb,.slice aa aps.length ac])]/\BN wr b (X++Cod.cat ((ms.take k).map Own.Ba))) (fun i _=>ms.length-(intOf i).toNat)
 case atStart=>exact⟨0,by omega,rfl,F6.out,by rw[List.take_zero];show BN _ _ (X++⟨#[]⟩);rw[Qg];exact zcO.out⟩
 case round=>
  obtain⟨k,hk,rfl,hbx,hbl⟩:=hrel
  obtain⟨Y,hY⟩:∃ Y,Y=X++Cod.cat ((ms.take k).map Own.Ba):=⟨_,rfl⟩
  rw[<- hY] at hbl
  have zY:Y.size<=94+85*k:=by rw[hY,Sha.Ah];have:=HCZ.out k;omega
  have HBX:=zh hbx;have HBL:=zh hbl;have HY:=zh hY
  clear hbx hbl hY F6 zcO
  by_cases hlt:k<ms.length
  ·have dk:decide ((k:Int)<(ms.length:Int))=true:=zt
   obtain⟨q,o,ha,hql,e0,e1⟩:=Own.Ag.cells (HM.out.below HBX.out.under) hlt
   subst ha
   obtain⟨z1,z2⟩:=HMS.out ms[k] (List.getElem_mem hlt)
   have hnext:=Own.bK ms k hlt
   obtain⟨x,hx⟩:∃ x,x=ms[k]:=⟨_,rfl⟩
   rw[<- hx] at e0 e1 z1 z2 hnext
   obtain⟨mn,mp⟩:=x
   dsimp only at e0 e1 z1 z2 hnext
   have HNX:=zh hnext
   clear hx hnext
   have K1:=zh (show Aw wr _ [(76,#[.string mn,.string mp])] from((Dm.nil wr).push 76 #[.string mn,.string mp]).boxes)
   have zed:=zh (HBX.out.step K1.out.under);have zee:=zh (HBL.out.below K1.out.under)
   go_upto_region 6 with fail
   generalize (wr.alloc (.cells #[.string mn,.string mp] 76))=w6 at*
   obtain⟨y00,y01⟩:=K1.out.zbY rfl
   clear e0 e1
   have hkl:wr.heap.size<w6.heap.size:=K1.out.lt (i:=0) (by show 0<1;omega)
   have Y1:=zh (zi y01)
   go_wp2_with fail
   refine Lex.zn (fun i=>i=wr.heap.size) [4] 5 [3] ?_
   simp only[Lex.Br,zd]
   go_wp2_with fail
   refine(Fj mn _ (by omega)).mono ?_
   rintro e w7 ⟨rfl,hb7⟩
   have B67:=zh (show Below w6.heap.size w6 w7 from(Below.refl w6.heap.size w6).drew.trans hb7)
   have K2:=zh (K1.out.step B67.out);have zef:=zh (zed.out.step B67.out);have zeg:=zh (zee.out.below B67.out)
   clear hb7
   (try clear y00 y01)
   obtain⟨y00,y01⟩:=K2.out.zbY rfl
   obtain⟨T1,hT1⟩:∃ T,T=Cod.text mn:=⟨_,rfl⟩
   rw[<- hT1] at HNX ⊢
   have zT1:T1.size<=42:=by rw[hT1];have:=Own.Cz mn;omega
   clear hT1
   go_wp2_with fail
   refine Lex.Mid.intro (fun i hi hl=>by subst hi;exact B67.out.block _ hl) ?_
   go_wp2_with fail
   refine(Fj mp _ (by omega)).mono ?_
   rintro e w8 ⟨rfl,hb8⟩
   have zeh:=zh (zef.out.step hb8);have zei:=zh (zeg.out.below hb8)
   clear hb8
   (try clear y00 y01)
   obtain⟨T2,hT2⟩:∃ T,T=Cod.text mp:=⟨_,rfl⟩
   rw[<- hT2] at HNX ⊢
   have zT2:T2.size<=43:=by rw[hT2];have:=Own.Cz mp;omega
   clear hT2
   go_wp2_with fail
   refine(ru b Y (T1++T2) _ zei.out (by rw[Sha.Ah];omega)).mono ?_
   rintro e w9 ⟨rfl,tK,hb9⟩
   have zej:=zh (zeh.out.over (show Below (w.heap.size+1) _ w9 by rw[<- HBE.out];exact hb9))
   have wT:=zh tK
   clear tK hb9
   go_wp2_with fail
   refine Lex.zk ⟨⟨rfl,Y1.out⟩,trivial⟩ ?_
   go_wp2_with fail
   refine⟨⟨k+1,by omega,by go_num,zej.out,?_⟩,by simp[intOf];omega⟩
   rw[HNX.out,<- ByteArray.append_assoc,<- HY.out]
   exact wT.out
  ·have dk:decide ((k:Int)<(ms.length:Int))=false:=zf
   have HYY:=zh (show Y=X++Cod.cat (ms.map Own.Ba) by rw[HY.out,List.take_of_length_le (by omega)])
   clear HY
   obtain⟨x00,x01,x02,x03,x04,x05,x06⟩:=HBX.out.KH rfl
   have hlw:w.heap.size<wr.heap.size:=HBX.out.lt (i:=0) (by show 0<1;omega)
   have X1:=zh (zi x04)
   have X2:=zh (zi x05)
   go_wp2_with fail
   refine Lex.zn (fun i=>i=w.heap.size) [4,8] 10 [3,3,4] ?_
   simp only[Lex.Br,zd]
   go_wp2_with fail
   refine(EM tn _ (by omega)).mono ?_
   rintro e w6 ⟨rfl,hb6⟩
   have B6:=zh (show Below wr.heap.size wr w6 from(Below.refl wr.heap.size wr).drew.trans hb6)
   have F6:=zh (HBX.out.step B6.out);clear hb6
   (try clear x00 x01 x02 x03 x04 x05 x06)
   obtain⟨x00,x01,x02,x03,x04,x05,x06⟩:=F6.out.KH rfl
   obtain⟨U2,hU2⟩:∃ U,U=Cod.uns tn:=⟨_,rfl⟩
   rw[<- hU2]
   have zU2:U2.size<=10:=by rw[hU2];exact Cod.Co tn
   have HU2:=zh hU2;clear hU2
   go_wp2_with fail
   refine Lex.Mid.intro (fun i hi hl=>by subst hi;exact B6.out.block _ hl) ?_
   go_wp2_with fail
   refine(Fj nm _ (by omega)).mono ?_
   rintro e w7 ⟨rfl,hb7⟩
   have B7:=zh (B6.out.trans (hb7.mono B6.out.size))
   have F7:=zh (HBX.out.step B7.out);clear hb7
   (try clear x00 x01 x02 x03 x04 x05 x06)
   obtain⟨x00,x01,x02,x03,x04,x05,x06⟩:=F7.out.KH rfl
   obtain⟨T1,hT1⟩:∃ T,T=Cod.text nm:=⟨_,rfl⟩
   rw[<- hT1]
   have zT1:T1.size<=42:=by rw[hT1];have:=Own.Cz nm;omega
   have HT1:=zh hT1;clear hT1
   go_wp2_with fail
   refine Lex.Mid.intro (fun i hi hl=>by subst hi;exact B7.out.block _ hl) ?_
   go_wp2_with fail
   refine(Fj pb _ (by omega)).mono ?_
   rintro e w8 ⟨rfl,hb8⟩
   have B8:=zh (B7.out.trans (hb8.mono B7.out.size))
   have F8:=zh (HBX.out.step B8.out);clear hb8
   (try clear x00 x01 x02 x03 x04 x05 x06)
   obtain⟨T2,hT2⟩:∃ T,T=Cod.text pb:=⟨_,rfl⟩
   rw[<- hT2]
   have zT2:T2.size<=43:=by rw[hT2];have:=Own.Cz pb;omega
   have HT2:=zh hT2;clear hT2
   have zek:=zh (HBL.out.below B8.out)
   go_wp2_with fail
   refine Lex.Mid.intro (fun i hi hl=>by subst hi;exact B8.out.block _ hl) ?_
   go_wp2_with fail
   refine(ru b Y (U2++T1++T2) _ zek.out (by rw[Sha.Ah,Sha.Ah];omega)).mono ?_
   rintro e w9 ⟨rfl,tK,hb9⟩
   have F9:=zh (F8.out.over (show Below (w.heap.size+1) _ w9 by rw[<- HBE.out];exact hb9))
   have zcP:=zh tK
   clear tK hb9
   go_wp2_with fail
   refine Lex.zk ⟨⟨rfl,X1.out⟩,⟨rfl,X2.out⟩,trivial⟩ ?_
   obtain⟨Z,hZ⟩:∃ Z,Z=Y++(U2++T1++T2):=⟨_,rfl⟩
   have HZ:=zh hZ
   rw[<- hZ] at zcP
   clear hZ
   go_wp2_with fail
   refine(zb0 b Z _ zcP.out).mono ?_
   rintro e w10 ⟨rfl,_,J7⟩
   have F10:=zh (F9.out.over (show Below (w.heap.size+1) _ w10 by rw[<- HBE.out];exact J7))
   clear J7
   go_wp2_with fail
   go_ret
   refine⟨?_,F10.out.under⟩
   rw[HZ.out,HYY.out,HX.out,HR.out,HU.out,HT.out,HV.out,HU2.out,HT1.out,HT2.out]
   simp only[ByteArray.append_assoc]
   rfl
end
end Go.Proofs.YtjlmglgmcekmhaaGreatDoor
