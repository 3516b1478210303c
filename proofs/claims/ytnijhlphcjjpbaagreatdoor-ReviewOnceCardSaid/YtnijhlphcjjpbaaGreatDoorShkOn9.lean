/- The program's owners: Authority. -/
import Derived.Lib.Overlaps
import Derived.Laws.Externs
import Derived.Lib.AppendZeros
import Derived.Laws.IdiomCopy
import Derived.Laws.CopyRow
import Derived.Test.YtnijhlphcjjpbaaGreatDoorShkOn8
set_option linter.unusedVariables false
set_option linter.unusedSimpArgs false
set_option maxRecDepth 100000
set_option maxHeartbeats 8000000
namespace Go.Proofs.YtnijhlphcjjpbaaGreatDoor
section
open Go Go.RowKit Go.Maps
namespace Own
theorem GK {α : Type}{ok : α -> Bool}{lt : α -> α -> Bool} : ∀ {l:List α} {p:Option α},Ai ok lt p l=true->∀ x∈l,ok x=true
 | [],_,_,x,hx=>by cases hx
 | y :: l,p,h,x,hx => by
   have h' : ((ok y&&(match p with|none=>true|some z=>lt z y))&&Ai ok lt (some y) l)=true:=by cases p<;>exact h
   obtain⟨h1,h2⟩:=Bool.and_eq_true_iff.1 h'
   rcases List.mem_cons.1 hx with rfl|hx
   ·exact(Bool.and_eq_true_iff.1 h1).1
   ·exact GK h2 x hx
structure OK (o:Ap):Prop where
 c0:0<=o.count
 c1:o.count<=1099511627776
 ls:o.spaces.length<=64
 sp:∀ s∈o.spaces,Bu s=true
 ks:∀ k∈o.keys,EA k=true
theorem OK.of {o:Ap}(h:Bf o=true):OK o:=by
 unfold Bf late at h
 simp only[Bool.and_eq_true,decide_eq_true_eq] at h
 obtain⟨⟨⟨⟨h1,h2⟩,h3⟩,h4⟩,h5⟩:=h
 exact⟨h1,h2,h3,GK h4,GK h5⟩
structure XW (s:Space):Prop where
 path:Bt s.pre=true
 pre:s.pre.size<=64
 zR:1<=s.members.length
 len:s.members.length<=8
 mem:Au [] s.members=true
 t0:1<=s.threshold
 t1:s.threshold<=s.members.length
theorem XW.of {s:Space}(h:Bu s=true):XW s:=by
 unfold Bu D8 at h
 simp only[Bool.and_eq_true,decide_eq_true_eq] at h
 obtain⟨⟨⟨h1,⟨h2,h3⟩,h4⟩,h5⟩,h6⟩:=h
 refine⟨h1,?_,h2,h3,h4,h5,h6⟩
 unfold Bt at h1
 simp only[Bool.and_eq_true,decide_eq_true_eq] at h1
 exact h1.1.2
theorem Sy (s:ByteArray):∀ (l:List Space) (b:Option Space) (x:Space),FJ s b l=some x->x∈l\/b=some x
 | [],b,x,h=>.inr h
 | y :: l,b,x,h => by
   rw[EJ] at h
   rcases Sy s l _ x h with h|h
   ·exact .inl (List.mem_cons_of_mem _ h)
   ·unfold KE at h
    split at h
    ·cases h;exact .inl List.mem_cons_self
    ·exact .inr h
theorem KF {o:Ap}{s:ByteArray}{x:Space}(h:authority o s=some x):x∈o.spaces:=by
 unfold authority at h
 split at h
 ·rcases Sy s _ _ x h with h|h
  ·exact h
  ·cases h
 ·cases h
end Own
def JD (w:World)(r:Option Own.Space)(e:Ending)(w' : World):Prop:=
 (match r with
   | none=>e=.returned (.tuple #[.agg #[.string ⟨#[]⟩,.slice none 0 0,.int .i64 0],.bool false])
   | some sp=>∃ v',e=.returned (.tuple #[.agg #[.string sp.pre,v',.int .i64 sp.threshold],.bool true])/\w'.ownsRow w.heap.size 73 2 v' sp.members.length (sp.members.flatMap Own.Lg))/\Below w.heap.size w w'
theorem EK (o:Own.Ap)(s:ByteArray)(sv kv:Value)(w:World)(hM:Fx w)(hS:Own.Bw w sv o.spaces)(hK:Own.Ca w kv o.keys)(hls:o.spaces.length<=140737488355328)(hlk:o.keys.length<=140737488355328)(hlm:∀ s∈o.spaces,s.members.length<=140737488355328):
 Calls Tryz.prog 61 #[.agg #[.int .i64 o.count,sv,kv],.string s] w (JD w (Own.authority o s)):=by
 obtain⟨R,hR⟩:∃ R,R=JD w (Own.authority o s):=⟨_,rfl⟩
 rw[<- hR]
 have HR:=zh hR;clear hR
 obtain⟨sa,sc,rfl⟩:=hS.len
 obtain⟨ka,kc,rfl⟩:=hK.len
 have ha1:=(At.new w 38 #[.int .i64 o.count,.slice sa o.spaces.length sc,.slice ka o.keys.length kc]).alloc (.cells #[.string ⟨#[]⟩,.slice none 0 0,.int .i64 0] 70)
 have ha2:=At.new1 w (.cells #[.int .i64 o.count,.slice sa o.spaces.length sc,.slice ka o.keys.length kc] 38) 70 #[.string ⟨#[]⟩,.slice none 0 0,.int .i64 0]
 have hb1:Below w.heap.size w ((w.alloc (.cells #[.int .i64 o.count,.slice sa o.spaces.length sc,.slice ka o.keys.length kc] 38)).alloc (.cells #[.string ⟨#[]⟩,.slice none 0 0,.int .i64 0] 70)):=zb.alloc (by simp) _
 have hs1:=hS.below hb1;have hk1:=hK.below hb1;have hm1:=hM.below hb1
 have hz1:((w.alloc (.cells #[.int .i64 o.count,.slice sa o.spaces.length sc,.slice ka o.keys.length kc] 38)).alloc (.cells #[.string ⟨#[]⟩,.slice none 0 0,.int .i64 0] 70)).heap.size=w.heap.size+2:=by simp
 obtain⟨c0,c1,c2⟩:=ha1.c3
 have HS:=zh hs1;have HK:=zh hk1;have HM:=zh hm1;have HA1:=zh ha1;have HA2:=zh ha2;have HB1:=zh hb1;have HLM:=zh hlm
 clear hS hK hM hs1 hk1 hm1 ha1 ha2 hb1 hlm
 go_enter Tryz.func61,Tryz.ntmps61
 go_wp2_with fail
 generalize (w.alloc (.cells #[.int .i64 o.count,.slice sa o.spaces.length sc,.slice ka o.keys.length kc] 38)).alloc (.cells #[.string ⟨#[]⟩,.slice none 0 0,.int .i64 0] 70)=w1 at*
 refine(Fe o _ _ w1 HM.out HS.out HK.out hls hlk HLM.out).mono ?_
 rintro e w2 ⟨rfl,hb2⟩
 have HM2:=zh (HM.out.below hb2);have HS2:=zh (HS.out.below hb2);have HK2:=zh (HK.out.below hb2);have A1:=zh (HA1.out.below hb2 (by omega));have A2:=zh (HA2.out.below hb2 (by omega));have B2:=zh (HB1.out.trans (hb2.mono HB1.out.size))
 have hz2:=hb2.size
 clear hb2 HM HS HK HA1 HA2 HB1 c0 c1 c2
 cases hv:Own.Bf o with
 | false =>
   have e:Own.authority o s=none:=by unfold Own.authority;rw[hv];rfl
   have T2:=A2;have TB:=B2
   have x0:=A2.out.cell 0;have x1:=A2.out.cell 1;have x2:=A2.out.cell 2;have x3:=A2.out.free 0;have x4:=A2.out.free 1;have x5:=A2.out.free 2
   simp only[zg] at x0 x1 x2
   have HE:=zh e
   clear e
   go_wp2_with fail
   have F2:=((T2.out.set 0 (.string ⟨#[]⟩)).set 1 (.slice none 0 0)).set 2 (.int .i64 0)
   rw[HR.out,HE.out]
   refine BN rfl rfl rfl (Ad F2 Tryz.underlying70 rfl Gu) ⟨rfl,((TB.out.setCell (p:=⟨w.heap.size+1,0,none⟩) (by simp) _).setCell (p:=⟨w.heap.size+1,1,none⟩) (by simp) _).setCell (p:=⟨w.heap.size+1,2,none⟩) (by simp) _⟩
 | true=>
 have hok:=Own.OK.of hv
 go_wp2_with fail
 refine(Qo s w2 HM2.out).mono ?_
 rintro e w3 ⟨rfl,hb3⟩
 have HS3:=zh (HS2.out.below hb3);have A13:=zh (A1.out.below hb3 (by omega));have A23:=zh (A2.out.below hb3 (by omega));have B3:=zh (B2.out.trans (hb3.mono B2.out.size))
 have hz3:=hb3.size
 clear hb3 HM2 HS2 HK2 A1 A2 B2
 cases hp:Own.Bt s with
 | false =>
   have e:Own.authority o s=none:=by unfold Own.authority;rw[hv,hp];rfl
   have T2:=A23;have TB:=B3
   have x0:=A23.out.cell 0;have x1:=A23.out.cell 1;have x2:=A23.out.cell 2;have x3:=A23.out.free 0;have x4:=A23.out.free 1;have x5:=A23.out.free 2
   simp only[zg] at x0 x1 x2
   have HE:=zh e
   clear e
   go_wp2_with fail
   have F2:=((T2.out.set 0 (.string ⟨#[]⟩)).set 1 (.slice none 0 0)).set 2 (.int .i64 0)
   rw[HR.out,HE.out]
   refine BN rfl rfl rfl (Ad F2 Tryz.underlying70 rfl Gu) ⟨rfl,((TB.out.setCell (p:=⟨w.heap.size+1,0,none⟩) (by simp) _).setCell (p:=⟨w.heap.size+1,1,none⟩) (by simp) _).setCell (p:=⟨w.heap.size+1,2,none⟩) (by simp) _⟩
 | true=>
 have hau:Own.authority o s=Own.FJ s none o.spaces:=by unfold Own.authority;rw[hv,hp];rfl
 have hpre:∀ x∈o.spaces,x.pre.size<=64:=fun x hx=>(Own.XW.of (hok.sp x hx)).pre
 obtain⟨y0,y1,y2⟩:=A13.out.c3
 have HAU:=zh hau;have HOK:=zh hok;have Ue:=zh hpre
 clear hau hok hpre hv hp
 go_wp2_with fail
 refine(Ot o s _ _ w3 HS3.out HOK.out.ls Ue.out).mono ?_
 rintro e w4 ⟨⟨i,rfl,hbi⟩,hb4⟩
 have HS4:=zh (HS3.out.below hb4);have A14:=zh (A13.out.below hb4 (by omega));have A24:=zh (A23.out.below hb4 (by omega));have B4:=zh (B3.out.trans (hb4.mono B3.out.size))
 have hz4:=hb4.size
 clear hb4 HS3 A13 A23 B3 y0 y1 y2
 rcases hbi with ⟨rfl,hnone⟩|⟨j,rfl,hj,hsome⟩
 ·have e:Own.authority o s=none:=by rw[HAU.out,hnone]
  have T2:=A24;have TB:=B4
  have x0:=A24.out.cell 0;have x1:=A24.out.cell 1;have x2:=A24.out.cell 2;have x3:=A24.out.free 0;have x4:=A24.out.free 1;have x5:=A24.out.free 2
  simp only[zg] at x0 x1 x2
  clear hnone
  have HE:=zh e
  clear e
  go_wp2_with fail
  have F2:=((T2.out.set 0 (.string ⟨#[]⟩)).set 1 (.slice none 0 0)).set 2 (.int .i64 0)
  rw[HR.out,HE.out]
  refine BN rfl rfl rfl (Ad F2 Tryz.underlying70 rfl Gu) ⟨rfl,((TB.out.setCell (p:=⟨w.heap.size+1,0,none⟩) (by simp) _).setCell (p:=⟨w.heap.size+1,1,none⟩) (by simp) _).setCell (p:=⟨w.heap.size+1,2,none⟩) (by simp) _⟩
 ·have Rw:Own.authority o s=some o.spaces[j]:=by rw[HAU.out,hsome]
  obtain⟨y0,y1,y2⟩:=A14.out.c3
  obtain⟨b,q,mv,ha,hbl,e0,e1,e2,hmv⟩:=Own.Bw.cells HS4.out hj
  subst ha
  have eH:=Own.XW.of (HOK.out.sp _ (List.getElem_mem hj))
  obtain⟨sp,hsp⟩:∃ x,x=o.spaces[j]:=⟨_,rfl⟩
  rw[<- hsp] at Rw e0 e2 hmv eH
  have hcp:=GJ sp.pre sp.threshold mv sp.members w4 hmv (by have:=eH.len;omega)
  have HCP:=zh hcp;have xR:=zh Rw
  obtain⟨ma,mc,rfl⟩:=hmv.len
  have dj:decide ((j:Int)<0)=false:=zf
  have hjl:j<o.spaces.length:=hj
  clear hcp Rw hsp eH hmv hsome
  go_wp2_with fail
  refine HCP.out.mono ?_
  rintro e w5 ⟨v',rfl,ho,hb5⟩
  have A25:=zh (A24.out.below hb5 (by omega));have B5:=zh (B4.out.trans (hb5.mono B4.out.size))
  have x0:=A25.out.cell 0;have x1:=A25.out.cell 1;have x2:=A25.out.cell 2;have x3:=A25.out.free 0;have x4:=A25.out.free 1;have x5:=A25.out.free 2
  simp only[zg] at x0 x1 x2
  obtain⟨va,vm,vc,rfl⟩:=Ae ho
  have HO:=zh ho
  clear ho hb5 e0 e1 e2 y0 y1 y2
  go_wp2_with fail
  have F2:=((A25.out.set 0 (.string sp.pre)).set 1 (.slice va vm vc)).set 2 (.int .i64 sp.threshold)
  rw[HR.out,xR.out]
  refine BN rfl rfl rfl (Ad F2 Tryz.underlying70 rfl Gu) ⟨⟨_,rfl,?_⟩,((B5.out.setCell (p:=⟨w.heap.size+1,0,none⟩) (by simp) _).setCell (p:=⟨w.heap.size+1,1,none⟩) (by simp) _).setCell (p:=⟨w.heap.size+1,2,none⟩) (by simp) _⟩
  refine Cm (AA HO.out (fun k hk=>?_)) (by omega)
  have k2:k≠w.heap.size+1:=by have:=Bo HO.out k hk;omega
  rw[zo k2,zo k2,zo k2]
namespace Own
def Idx {α : Type}(p : α -> Bool)(l:List α)(i:Int):Prop:=(i = -1/\l.find? p=none/\∀ x∈l,p x=false)\/∃ j:Nat,∃ h:j<l.length,i=(j:Int)/\l.find? p=some l[j]/\p l[j]=true/\∀ k (hk:k<j),p l[k]=false
theorem Idx.hit {α : Type}{p : α -> Bool}{l:List α}{k:Nat}(hk:k<l.length)(h:p l[k]=true)(hn:∀ j (hj:j<k),p l[j]=false):Idx p l (k:Int):=by
 refine .inr ⟨k,hk,rfl,?_,h,hn⟩
 rw[List.find?_eq_some_iff_getElem]
 exact⟨h,k,hk,rfl,fun j hj=>by rw[hn j hj];rfl⟩
theorem Idx.miss {α : Type}{p : α -> Bool}{l:List α}(hn:∀ j (hj:j<l.length),p l[j]=false):Idx p l (-1):=by
 have:∀ x∈l,p x=false:=fun x hx=>by
  obtain⟨j,hj,rfl⟩:=List.getElem_of_mem hx
  exact hn j hj
 exact .inl ⟨rfl,List.find?_eq_none.2 fun x hx=>by rw[this x hx];simp,this⟩
theorem Idx.any {α : Type}{p : α -> Bool}{l:List α}{i:Int}(h:Idx p l i):decide (0<=i)=l.any p:=by
 rcases h with ⟨rfl,_,h⟩|⟨j,hj,rfl,_,h,_⟩
 ·rw[Bool.eq_iff_iff,List.any_eq_true]
  constructor
  ·intro h;simp at h
  ·rintro⟨x,hx,hp⟩;rw[h x hx] at hp;cases hp
 ·rw[Bool.eq_iff_iff,List.any_eq_true]
  exact⟨fun _=>⟨_,List.getElem_mem hj,h⟩,fun _=>zt⟩
end Own
theorem KG (g:Nat)(lb:Array Value)(eg:∀ args w,(callFunc g args).run Tryz.prog w=.ok (.enter g args) w)(p:Own.Member->Bool)(v:Value)(l:List Own.Member)(w:World)(h:Own.AY w v l)(hl:l.length<=140737488355328)
 (hp:∀ (W:World) (x:Own.Member),Below w.heap.size w W->Calls Tryz.prog g (#[.agg #[.string x.name,.string x.pub]]++lb) W fun e w' => e=.returned (.bool (p x))/\Below W.heap.size W w'):
 Calls Tryz.prog 95 #[v,.func (.func g) #[] lb] w fun e w' => (∃ i,e=.returned (.int .i64 i)/\Own.Idx p l i)/\Below w.heap.size w w':=by
 obtain⟨a,c,rfl⟩:=h.len
 have HL:=zh h;have HP:=zh hp;clear h hp
 go_enter Tryz.func95,Tryz.ntmps95
 go_wp2_with fail
 go_loopw [8] (fun i wr=>∃ k:Nat,∃ hk:k<=l.length,i=.int .i64 k/\(∀ j (hj:j<k),p (l[j]'(by omega))=false)/\Below w.heap.size w wr) (fun i _=>l.length-(intOf i).toNat)
 case atStart=>exact⟨0,by omega,rfl,(fun j hj=>absurd hj (by omega)),Below.refl _ _⟩
 case round=>
  obtain⟨k,hk,rfl,hn,hb⟩:=hrel
  have HBW:=zh hb;have HN:=zh hn
  by_cases hlt:k<l.length
  case neg=>
   have hke:k=l.length:=by omega
   have dk:decide ((k:Int)<l.length)=false:=zf
   have hix:=Own.Idx.miss (p:=p) (l:=l) (fun j hj=>hn j (by omega))
   have HIX:=zh hix
   clear hix hke hb hn
   go_wp2_with fail
   go_ret
   exact⟨⟨_,rfl,HIX.out⟩,HBW.out⟩
  have dk:decide ((k:Int)<l.length)=true:=zt
  obtain⟨b,o,ha,hbl,e0,e1⟩:=Own.AY.cells (HL.out.below hb) hlt
  subst ha
  have hcall:=HP.out wr l[k] hb
  obtain⟨nm,hnm⟩:∃ x,x=l[k].name:=⟨_,rfl⟩
  obtain⟨pb,hpb⟩:∃ x,x=l[k].pub:=⟨_,rfl⟩
  rw[<- hnm] at e0 hcall
  rw[<- hpb] at e1 hcall
  clear hb hn hnm hpb
  cases hq:p l[k] with
  | true =>
    rw[hq] at hcall
    have hix:=Own.Idx.hit hlt hq (HN.out)
    have HIX:=zh hix
    clear hix hq
    go_wp2_with (go_at_fn g;refine hcall.mono ?_;rintro e w' ⟨rfl,hb'⟩)
    go_ret
    exact⟨⟨_,rfl,HIX.out⟩,HBW.out.trans (hb'.mono HBW.out.size)⟩
  | false =>
    rw[hq] at hcall
    have hn2:∀ j (hj:j<k+1),p (l[j]'(by omega))=false:=fun j hj=>by
     by_cases e:j=k
     ·subst e;exact hq
     ·exact HN.out j (by omega)
    have HN2:=zh hn2
    clear hn2 hq
    go_wp2_with (go_at_fn g;refine hcall.mono ?_;rintro e w' ⟨rfl,hb'⟩)
    go_round
    case measure=>simp[intOf];omega
    case rel=>exact⟨k+1,by omega,by go_num,HN2.out,HBW.out.trans (hb'.mono HBW.out.size)⟩
theorem Je (g:Nat)(lb:Array Value)(eg:∀ args w,(callFunc g args).run Tryz.prog w=.ok (.enter g args) w)(p:Own.Ab->Bool)(v:Value)(l:List Own.Ab)(w:World)(h:Own.AX w v l)(hl:l.length<=140737488355328)
 (hp:∀ (W:World) (x:Own.Ab) (u:Value),Below w.heap.size w W->Calls Tryz.prog g (#[.agg #[.int .i64 x.id,.string x.path,.string x.digest,.int .i64 x.opened,.int .i64 x.expires,u]]++lb) W fun e w' => e=.returned (.bool (p x))/\Below W.heap.size W w'):
 Calls Tryz.prog 81 #[v,.func (.func g) #[] lb] w fun e w' => (∃ i,e=.returned (.int .i64 i)/\Own.Idx p l i)/\Below w.heap.size w w':=by
 obtain⟨a,c,rfl⟩:=h.len
 have HL:=zh h;have HP:=zh hp;clear h hp
 go_enter Tryz.func81,Tryz.ntmps81
 go_wp2_with fail
 go_loopw [8] (fun i wr=>∃ k:Nat,∃ hk:k<=l.length,i=.int .i64 k/\(∀ j (hj:j<k),p (l[j]'(by omega))=false)/\Below w.heap.size w wr) (fun i _=>l.length-(intOf i).toNat)
 case atStart=>exact⟨0,by omega,rfl,(fun j hj=>absurd hj (by omega)),Below.refl _ _⟩
 case round=>
  obtain⟨k,hk,rfl,hn,hb⟩:=hrel
  have HBW:=zh hb;have HN:=zh hn
  by_cases hlt:k<l.length
  case neg=>
   have hke:k=l.length:=by omega
   have dk:decide ((k:Int)<l.length)=false:=zf
   have hix:=Own.Idx.miss (p:=p) (l:=l) (fun j hj=>hn j (by omega))
   have HIX:=zh hix
   clear hix hke hb hn
   go_wp2_with fail
   go_ret
   exact⟨⟨_,rfl,HIX.out⟩,HBW.out⟩
  have dk:decide ((k:Int)<l.length)=true:=zt
  obtain⟨b,o,u,ha,hbl,e0,e1,e2,e3,e4,e5,_⟩:=Own.AX.cells (HL.out.below hb) hlt
  subst ha
  have hcall:=HP.out wr l[k] u hb
  obtain⟨q0,hq0⟩:∃ x,x=l[k].id:=⟨_,rfl⟩
  obtain⟨q1,hq1⟩:∃ x,x=l[k].path:=⟨_,rfl⟩
  obtain⟨q2,hq2⟩:∃ x,x=l[k].digest:=⟨_,rfl⟩
  obtain⟨q3,hq3⟩:∃ x,x=l[k].opened:=⟨_,rfl⟩
  obtain⟨q4,hq4⟩:∃ x,x=l[k].expires:=⟨_,rfl⟩
  rw[<- hq0,<- hq1,<- hq2,<- hq3,<- hq4] at hcall
  rw[<- hq0] at e0
  rw[<- hq1] at e1
  rw[<- hq2] at e2
  rw[<- hq3] at e3
  rw[<- hq4] at e4
  clear hb hn hq0 hq1 hq2 hq3 hq4
  cases hq:p l[k] with
  | true =>
    rw[hq] at hcall
    have hix:=Own.Idx.hit hlt hq (HN.out)
    have HIX:=zh hix
    clear hix hq
    go_wp2_with (go_at_fn g;refine hcall.mono ?_;rintro e w' ⟨rfl,hb'⟩)
    go_ret
    exact⟨⟨_,rfl,HIX.out⟩,HBW.out.trans (hb'.mono HBW.out.size)⟩
  | false =>
    rw[hq] at hcall
    have hn2:∀ j (hj:j<k+1),p (l[j]'(by omega))=false:=fun j hj=>by
     by_cases e:j=k
     ·subst e;exact hq
     ·exact HN.out j (by omega)
    have HN2:=zh hn2
    clear hn2 hq
    go_wp2_with (go_at_fn g;refine hcall.mono ?_;rintro e w' ⟨rfl,hb'⟩)
    go_round
    case measure=>simp[intOf];omega
    case rel=>exact⟨k+1,by omega,by go_num,HN2.out,HBW.out.trans (hb'.mono HBW.out.size)⟩
theorem Ou (g:Nat)(lb:Array Value)(eg:∀ args w,(callFunc g args).run Tryz.prog w=.ok (.enter g args) w)(p:Own.Ab->Bool)(v:Value)(l:List Own.Ab)(w:World)(h:Own.AX w v l)(hl:l.length<=140737488355328)
 (hp:∀ (W:World) (x:Own.Ab) (u:Value),Below w.heap.size w W->Calls Tryz.prog g (#[.agg #[.int .i64 x.id,.string x.path,.string x.digest,.int .i64 x.opened,.int .i64 x.expires,u]]++lb) W fun e w' => e=.returned (.bool (p x))/\Below W.heap.size W w'):
 Calls Tryz.prog 40 #[v,.func (.func g) #[] lb] w fun e w' => e=.returned (.bool (l.any p))/\Below w.heap.size w w':=by
 have HI:=zh (Je g lb eg p v l w h hl hp);clear h hp
 go_enter Tryz.func40,Tryz.ntmps40
 go_wp2_with fail
 refine HI.out.mono ?_
 rintro e w2 ⟨⟨i,rfl,hi⟩,hb⟩
 have HB:=zh hb;have HJ:=zh hi.any;clear hb hi
 go_wp2_with fail
 go_ret
 exact⟨by rw[<- HJ.out];rfl,HB.out⟩
theorem Rx (x:Own.Member)(g:Nat)(nm:ByteArray)(w:World)(hc:w.cell? ⟨g,0,none⟩=some (.string nm)):
 Calls Tryz.prog 169 (#[.agg #[.string x.name,.string x.pub]]++#[.pointer (some ⟨g,0,none⟩)]) w fun e w' => e=.returned (.bool (decide (x.name=nm)))/\Below w.heap.size w w':=by
 obtain⟨R,hR⟩:∃ R,R=decide (x.name=nm):=⟨_,rfl⟩
 rw[<- hR]
 rw[<- bytes_beq] at hR
 have hb1:Below w.heap.size w (w.alloc (.cells #[.string x.name,.string x.pub] 73)):=zb
 have q:=(hb1.cell (p:=⟨g,0,none⟩) (block_lt hc)).trans hc
 have HB:=zh hb1;have HR:=zh hR
 clear hb1 hc hR
 show Calls Tryz.prog 169 #[.agg #[.string x.name,.string x.pub],.pointer (some ⟨g,0,none⟩)] w _
 go_enter Tryz.func169,Tryz.ntmps169
 go_wp2_with fail
 go_ret
 exact⟨by rw[HR.out];rfl,HB.out⟩
def YT (w:World)(r:Option Own.Member)(e:Ending)(w' : World):Prop:=
 (match r with
   | none=>e=.returned (.tuple #[.agg #[.string ⟨#[]⟩,.string ⟨#[]⟩],.bool false])
   | some m=>e=.returned (.tuple #[.agg #[.string m.name,.string m.pub],.bool true]))/\Below w.heap.size w w'
theorem Uf (pre:ByteArray)(th:Int)(v:Value)(l:List Own.Member)(nm:ByteArray)(w:World)(h:Own.AY w v l)(hl:l.length<=140737488355328):
 Calls Tryz.prog 152 #[.agg #[.string pre,v,.int .i64 th],.string nm] w (YT w (Own.find l nm)):=by
 obtain⟨R,hR⟩:∃ R,R=YT w (Own.find l nm):=⟨_,rfl⟩
 rw[<- hR]
 have HR:=zh hR;clear hR
 obtain⟨a,c,rfl⟩:=h.len
 have ha0:=((At.new w 70 #[.string pre,.slice a l.length c,.int .i64 th]).alloc (.cells #[.string nm] 9)).alloc (.cells #[.string ⟨#[]⟩,.string ⟨#[]⟩] 73)
 have ha1:=(At.new1 w (.cells #[.string pre,.slice a l.length c,.int .i64 th] 70) 9 #[.string nm]).alloc (.cells #[.string ⟨#[]⟩,.string ⟨#[]⟩] 73)
 have ha2:=At.new ((w.alloc (.cells #[.string pre,.slice a l.length c,.int .i64 th] 70)).alloc (.cells #[.string nm] 9)) 73 #[.string ⟨#[]⟩,.string ⟨#[]⟩]
 rw[World.size_alloc,World.size_alloc] at ha2
 have hb1:Below w.heap.size w (((w.alloc (.cells #[.string pre,.slice a l.length c,.int .i64 th] 70)).alloc (.cells #[.string nm] 9)).alloc (.cells #[.string ⟨#[]⟩,.string ⟨#[]⟩] 73)):=(zb.alloc (by simp) _).alloc (by simp;omega) _
 have hz1:(((w.alloc (.cells #[.string pre,.slice a l.length c,.int .i64 th] 70)).alloc (.cells #[.string nm] 9)).alloc (.cells #[.string ⟨#[]⟩,.string ⟨#[]⟩] 73)).heap.size=w.heap.size+3:=by simp
 have hl1:=h.below hb1
 have c1:=ha0.cell 1
 simp only[zg] at c1
 have HL:=zh hl1;have A0:=zh ha0;have A1:=zh ha1;have A2:=zh ha2;have B1:=zh hb1
 clear h hl1 ha0 ha1 ha2 hb1
 go_enter Tryz.func152,Tryz.ntmps152
 go_wp2_with fail
 generalize ((w.alloc (.cells #[.string pre,.slice a l.length c,.int .i64 th] 70)).alloc (.cells #[.string nm] 9)).alloc (.cells #[.string ⟨#[]⟩,.string ⟨#[]⟩] 73)=w1 at*
 refine(KG 169 #[.pointer (some ⟨w.heap.size+1,0,none⟩)] Tryz.call169 (fun m=>decide (m.name=nm)) _ l w1 HL.out hl (fun W x hW=>Rx x _ nm W ((hW.cell (p:=⟨w.heap.size+1,0,none⟩) (by show w.heap.size+1<w1.heap.size;omega)).trans (A1.out.cell 0)))).mono ?_
 rintro e w2 ⟨⟨i,rfl,hi⟩,hb2⟩
 have A02:=zh (A0.out.below hb2 (by omega));have A22:=zh (A2.out.below hb2 (by omega));have B2:=zh (B1.out.trans (hb2.mono B1.out.size));have HL2:=zh (HL.out.below hb2)
 have y1:=A02.out.cell 1
 have x0:=A22.out.cell 0;have x1:=A22.out.cell 1;have x3:=A22.out.free 0;have x4:=A22.out.free 1
 simp only[zg] at y1 x0 x1
 clear hb2 c1 HL A0 A1 A2 B1
 rcases hi with ⟨rfl,hnone,_⟩|⟨j,hj,rfl,hsome,_,_⟩
 ·have e:Own.find l nm=none:=hnone
  have HE:=zh e
  clear e hnone
  go_wp2_with fail
  have F2:=(A22.out.set 0 (.string ⟨#[]⟩)).set 1 (.string ⟨#[]⟩)
  rw[HR.out,HE.out]
  exact BN rfl rfl rfl (Ad F2 Tryz.underlying73 rfl JC) ⟨rfl,(B2.out.setCell (p:=⟨w.heap.size+1+1,0,none⟩) (by show w.heap.size<=w.heap.size+1+1;omega) _).setCell (p:=⟨w.heap.size+1+1,1,none⟩) (by show w.heap.size<=w.heap.size+1+1;omega) _⟩
 ·have e:Own.find l nm=some l[j]:=hsome
  obtain⟨b,o,ha,hbl,e0,e1⟩:=Own.AY.cells HL2.out hj
  subst ha
  obtain⟨m,hm⟩:∃ x,x=l[j]:=⟨_,rfl⟩
  rw[<- hm] at e e0 e1
  have HE:=zh e
  have dj:decide ((j:Int)<0)=false:=zf
  have hjl:j<l.length:=hj
  clear e hsome hm
  go_wp2_with fail
  have F2:=(A22.out.set 0 (.string m.name)).set 1 (.string m.pub)
  rw[HR.out,HE.out]
  exact BN rfl rfl rfl (Ad F2 Tryz.underlying73 rfl JC) ⟨rfl,(B2.out.setCell (p:=⟨w.heap.size+1+1,0,none⟩) (by show w.heap.size<=w.heap.size+1+1;omega) _).setCell (p:=⟨w.heap.size+1+1,1,none⟩) (by show w.heap.size<=w.heap.size+1+1;omega) _⟩
def JE (a b:ByteArray):Int:=if Own.Ak a b then -1 else if a=b then 0 else 1
theorem Sz (a:ByteArray)(w:World):Calls Tryz.prog 99 #[.string a] w fun e w' => e=.returned (.bool false)/\w' = w:=by
 go_enter Tryz.func99,Tryz.ntmps99
 go_wp2_with fail
 go_ret
 exact⟨by simp,rfl⟩
theorem Qs (a b:ByteArray)(w:World):Calls Tryz.prog 65 #[.string a,.string b] w fun e w' => e=.returned (.int .i64 (JE a b))/\w' = w:=by
 obtain⟨R,hR⟩:∃ R,R=JE a b:=⟨_,rfl⟩
 rw[<- hR]
 unfold JE Own.Ak at hR
 have HR:=zh hR;clear hR
 go_enter Tryz.func65,Tryz.ntmps65
 go_wp2_with fail
 refine(Sz a w).mono ?_
 rintro e w1 ⟨rfl,rfl⟩
 go_wp2_with fail
 refine(Sz b w1).mono ?_
 rintro e w1 ⟨rfl,rfl⟩
 cases h1:Op.bytesLess a.toList b.toList with
 | true =>
   have e:R = -1:=by rw[HR.out,h1];rfl
   have HE:=zh e;clear e
   go_wp2_with fail
   go_ret
   exact⟨by rw[HE.out];rfl,rfl⟩
 | false=>
 by_cases h2:a=b
 ·have d:(a.toList==b.toList)=true:=by rw[bytes_beq];exact decide_eq_true h2
  have e:R=0:=by rw[HR.out,h1,if_pos h2];rfl
  have HE:=zh e;clear e
  have H2:=zh h2;clear h2
  go_wp2_with fail
  go_ret
  exact⟨by rw[HE.out];rfl,rfl⟩
 ·have d:(a.toList==b.toList)=false:=by rw[bytes_beq];exact decide_eq_false h2
  have e:R=1:=by rw[HR.out,h1,if_neg h2];rfl
  have HE:=zh e;clear e
  go_wp2_with fail
  go_ret
  exact⟨by rw[HE.out];rfl,rfl⟩
namespace Own
def Ag (b:Nat):Member:=⟨⟨#[109,(97+b%8).toUInt8]⟩,Sig.Dq (Az.Ah b)⟩
end Own
theorem EL (b:Nat):(Az.Ah b).size=32:=by
 show(List.replicate 32 b.toUInt8).toArray.size=32
 simp
theorem Jf (b:Nat)(w:World)(hb:b<256):Calls Tryz.prog 37 #[.int .u8 b] w fun e w' => e=.returned (.agg #[.string (Own.Ag b).name,.string (Own.Ag b).pub])/\Below w.heap.size w w':=by
 have hk:=fun W=>Me b W hb
 have hp:=fun W=>Rs (Az.Ah b) W (EL b)
 have hcv:=fun W g=>dZ W g (97+b%8) (by omega)
 have dW:(Own.Ag b).pub=Sig.Dq (Az.Ah b):=rfl
 have hname:(Own.Ag b).name=⟨#[109]⟩++⟨#[(97+b%8).toUInt8]⟩:=rfl
 generalize Az.Ah b=S at*
 generalize Sig.Dq S=U at*
 generalize Own.Ag b=m at*
 have HK:=zh hk;have HP:=zh hp;have HCV:=zh hcv;have HPU:=zh dW;have HN:=zh hname
 clear hk hp hcv dW hname
 have hm8:(97:Int)+(b:Int)%8=((97+b%8:Nat):Int):=by omega
 generalize 97+b%8=c at*
 have HM:=zh hm8;clear hm8
 go_enter Tryz.func37,Tryz.ntmps37
 go_wp2_with fail
 have ha1:At (w.alloc (.cells #[.string ⟨#[]⟩,.string ⟨#[]⟩] 73)) w.heap.size 73 #[.string ⟨#[]⟩,.string ⟨#[]⟩]:=At.new w _ _
 have hb1:Below w.heap.size w (w.alloc (.cells #[.string ⟨#[]⟩,.string ⟨#[]⟩] 73)):=zb
 generalize w.alloc (.cells #[.string ⟨#[]⟩,.string ⟨#[]⟩] 73)=w1 at*
 refine(HK.out _).mono ?_
 rintro e w2 ⟨rfl,hb2⟩
 have hlt:=ha1.lt
 have ha2:=ha1.below hb2 hlt;have oo:=hb1.trans (hb2.mono hb1.size)
 go_wp2_with fail
 refine(HP.out _).mono ?_
 rintro e w3 ⟨rfl,hb3⟩
 have hlt2:=ha2.lt
 have HA3:=zh (ha2.below hb3 hlt2);have HB3:=zh (oo.trans (hb3.mono oo.size))
 clear ha1 hb1 hb2 ha2 oo hb3
 have z0:w3.frozen? ⟨w.heap.size,0,none⟩=false:=HA3.out.free 0
 have z1:w3.frozen? ⟨w.heap.size,1,none⟩=false:=HA3.out.free 1
 obtain⟨c0,c1⟩:=HA3.out.c2
 go_wp2_with fail
 rw[HM.out,HCV.out _ _ (At.new _ _ _)]
 have hlt3:=HA3.out.lt
 have HA4:=zh (HA3.out.below ((Below.refl w3.heap.size w3).alloc (Nat.le_refl _) (.cells #[.int .u8 (c:Int)] 5)) hlt3)
 have HB4:=zh ((HB3.out).alloc HB3.out.size (.cells #[.int .u8 (c:Int)] 5))
 clear z0 z1 c0 c1
 generalize w3.alloc (.cells #[.int .u8 (c:Int)] 5)=w4 at*
 have z0:w4.frozen? ⟨w.heap.size,0,none⟩=false:=HA4.out.free 0
 have z1:w4.frozen? ⟨w.heap.size,1,none⟩=false:=HA4.out.free 1
 obtain⟨c0,c1⟩:=HA4.out.c2
 go_wp2_with fail
 have F2:=(HA4.out.set 0 (.string (⟨#[109]⟩++⟨#[c.toUInt8]⟩))).set 1 (.string U)
 rw[HN.out,HPU.out]
 refine Gn rfl rfl (Ad F2 Tryz.underlying73 rfl JC) ⟨rfl,(HB4.out.setCell (p:=⟨w.heap.size,0,none⟩) (Nat.le_refl _) _).setCell (p:=⟨w.heap.size,1,none⟩) (Nat.le_refl _) _⟩
structure Fg (w0 w:World) (bs:List (TypeId × Array Value)):Prop where
 size:w.heap.size=w0.heap.size+bs.length
 under:Below w0.heap.size w0 w
 at_:∀ (i:Nat) (t:TypeId) (cs:Array Value),bs[i]? = some (t,cs)->At w (w0.heap.size+i) t cs
structure AQ (w0 w:World) (bs:List (TypeId × Array Value)):Prop where
 size:w0.heap.size+bs.length<=w.heap.size
 under:Below w0.heap.size w0 w
 at_:∀ (i:Nat) (t:TypeId) (cs:Array Value),bs[i]? = some (t,cs)->At w (w0.heap.size+i) t cs
section
variable {w0 w w' : World} {bs:List (TypeId × Array Value)}
theorem Fg.nil (w:World):Fg w w []:=⟨by simp,Below.refl _ _,fun i t cs h=>by simp at h⟩
theorem Fg.push (h:Fg w0 w bs)(t:TypeId)(cs:Array Value):Fg w0 (w.alloc (.cells cs t)) (bs++[(t,cs)]):=by
 refine⟨by rw[World.size_alloc,h.size,List.length_append];rfl,h.under.alloc h.under.size _,fun i t' cs' hi=>?_⟩
 by_cases hl:i<bs.length
 ·rw[List.getElem?_append_left hl] at hi
  exact(h.at_ i t' cs' hi).alloc _
 ·rw[List.getElem?_append_right (by omega)] at hi
  have:i-bs.length=0:=by
   have:=(List.getElem?_eq_some_iff.1 hi).1
   simp at this
   omega
  rw[this] at hi
  cases hi
  have e:w0.heap.size+i=w.heap.size:=by rw[h.size];omega
  rw[e]
  exact At.new _ _ _
theorem Fg.boxes (h:Fg w0 w bs):AQ w0 w bs:=⟨Nat.le_of_eq h.size.symm,h.under,h.at_⟩
theorem AQ.step (h:AQ w0 w bs)(hb:Below w.heap.size w w'):AQ w0 w' bs:=
 ⟨Nat.le_trans h.size hb.size,h.under.trans (hb.mono h.under.size),fun i t cs hi=>(h.at_ i t cs hi).below hb (h.at_ i t cs hi).lt⟩
theorem AQ.cell (h:AQ w0 w bs)(i j:Nat){t:TypeId}{cs:Array Value}{v:Value}(hi:bs[i]? = some (t,cs))(hj:cs[j]? = some v):w.cell? ⟨w0.heap.size+i,j,none⟩=some v:=((h.at_ i t cs hi).cell j).trans hj
theorem AQ.free (h:AQ w0 w bs)(i j:Nat){t:TypeId}{cs:Array Value}(hi:bs[i]? = some (t,cs)):w.frozen? ⟨w0.heap.size+i,j,none⟩=false:=(h.at_ i t cs hi).free j
theorem AQ.at1 (h:AQ w0 w bs)(i:Nat){t:TypeId}{cs:Array Value}(hi:bs[i]? = some (t,cs)):At w (w0.heap.size+i) t cs:=h.at_ i t cs hi
theorem AQ.lt (h:AQ w0 w bs){i:Nat}(hi:i<bs.length):w0.heap.size+i<w.heap.size:=by have:=h.size;omega
theorem AQ.put (h:AQ w0 w bs)(i j:Nat)(u:Value){t:TypeId}{cs:Array Value}(hi:bs[i]? = some (t,cs)):AQ w0 (w.setCell ⟨w0.heap.size+i,j,none⟩ u) (bs.set i (t,cs.setIfInBounds j u)):=by
 refine⟨by rw[List.length_set];exact Nat.le_trans h.size (by simp[World.setCell]),h.under.setCell (by show w0.heap.size<=w0.heap.size+i;omega) _,fun k t' cs' hk=>?_⟩
 have hl:=(List.getElem?_eq_some_iff.1 hi).1
 by_cases hki:k=i
 ·subst hki
  rw[List.getElem?_set_self hl] at hk
  cases hk
  exact(h.at_ k t cs hi).set j u
 ·rw[List.getElem?_set_ne (fun e=>hki e.symm)] at hk
  exact(h.at_ k t' cs' hk).far (p:=⟨w0.heap.size+i,j,none⟩) (by show w0.heap.size+k≠w0.heap.size+i;omega) _
theorem AQ.drew (h:AQ w0 w bs):AQ w0 w.drew bs:=⟨h.size,h.under.drew,fun i t cs hi=>(h.at_ i t cs hi).drew⟩
end
theorem AQ.Ry{u w:World}{l:List (TypeId×Array Value)}{t:TypeId}{a b:Value}(h:AQ u w l)(r:l[0]?=some (t,#[a,b])):w.cell? ⟨u.heap.size,0,none⟩=some a/\w.cell? ⟨u.heap.size,1,none⟩=some b:=⟨h.cell 0 0 r rfl,h.cell 0 1 r rfl⟩
theorem AQ.sK{u w:World}{l:List (TypeId×Array Value)}{t:TypeId}{a b c:Value}(h:AQ u w l)(r:l[0]?=some (t,#[a,b,c])):w.cell? ⟨u.heap.size,0,none⟩=some a/\w.cell? ⟨u.heap.size,1,none⟩=some b/\w.cell? ⟨u.heap.size,2,none⟩=some c:=⟨h.cell 0 0 r rfl,h.cell 0 1 r rfl,h.cell 0 2 r rfl⟩
theorem AQ.oq{u w:World}{l:List (TypeId×Array Value)}{t:TypeId}{a b c d e f:Value}(h:AQ u w l)(r:l[0]?=some (t,#[a,b,c,d,e,f])):w.cell? ⟨u.heap.size,0,none⟩=some a/\w.cell? ⟨u.heap.size,1,none⟩=some b/\w.cell? ⟨u.heap.size,2,none⟩=some c/\w.cell? ⟨u.heap.size,3,none⟩=some d/\w.cell? ⟨u.heap.size,4,none⟩=some e/\w.cell? ⟨u.heap.size,5,none⟩=some f:=⟨h.cell 0 0 r rfl,h.cell 0 1 r rfl,h.cell 0 2 r rfl,h.cell 0 3 r rfl,h.cell 0 4 r rfl,h.cell 0 5 r rfl⟩
theorem AQ.xS{u w:World}{l:List (TypeId×Array Value)}{t:TypeId}{a b:Value}(h:AQ u w l)(r:l[1]?=some (t,#[a,b])):w.cell? ⟨u.heap.size+1,0,none⟩=some a/\w.cell? ⟨u.heap.size+1,1,none⟩=some b/\w.frozen? ⟨u.heap.size+1,0,none⟩=false/\w.frozen? ⟨u.heap.size+1,1,none⟩=false:=⟨h.cell 1 0 r rfl,h.cell 1 1 r rfl,h.free 1 0 r,h.free 1 1 r⟩
theorem AQ.XY{u w:World}{l:List (TypeId×Array Value)}{t:TypeId}{a b c:Value}(h:AQ u w l)(r:l[1]?=some (t,#[a,b,c])):w.cell? ⟨u.heap.size+1,0,none⟩=some a/\w.cell? ⟨u.heap.size+1,1,none⟩=some b/\w.cell? ⟨u.heap.size+1,2,none⟩=some c:=⟨h.cell 1 0 r rfl,h.cell 1 1 r rfl,h.cell 1 2 r rfl⟩
theorem AQ.xU{u w:World}{l:List (TypeId×Array Value)}{t:TypeId}{a b c d:Value}(h:AQ u w l)(r:l[1]?=some (t,#[a,b,c,d])):w.cell? ⟨u.heap.size+1,0,none⟩=some a/\w.cell? ⟨u.heap.size+1,1,none⟩=some b/\w.cell? ⟨u.heap.size+1,2,none⟩=some c/\w.cell? ⟨u.heap.size+1,3,none⟩=some d/\w.frozen? ⟨u.heap.size+1,0,none⟩=false/\w.frozen? ⟨u.heap.size+1,1,none⟩=false/\w.frozen? ⟨u.heap.size+1,2,none⟩=false/\w.frozen? ⟨u.heap.size+1,3,none⟩=false:=⟨h.cell 1 0 r rfl,h.cell 1 1 r rfl,h.cell 1 2 r rfl,h.cell 1 3 r rfl,h.free 1 0 r,h.free 1 1 r,h.free 1 2 r,h.free 1 3 r⟩
theorem AQ.xV{u w:World}{l:List (TypeId×Array Value)}{t:TypeId}{a b:Value}(h:AQ u w l)(r:l[2]?=some (t,#[a,b])):w.cell? ⟨u.heap.size+1+1,0,none⟩=some a/\w.cell? ⟨u.heap.size+1+1,1,none⟩=some b:=⟨h.cell 2 0 r rfl,h.cell 2 1 r rfl⟩
theorem AQ.sM{u w:World}{l:List (TypeId×Array Value)}{t:TypeId}{a b:Value}(h:AQ u w l)(r:l[2]?=some (t,#[a,b])):w.cell? ⟨u.heap.size+1+1,0,none⟩=some a/\w.cell? ⟨u.heap.size+1+1,1,none⟩=some b/\w.frozen? ⟨u.heap.size+1+1,0,none⟩=false/\w.frozen? ⟨u.heap.size+1+1,1,none⟩=false:=⟨h.cell 2 0 r rfl,h.cell 2 1 r rfl,h.free 2 0 r,h.free 2 1 r⟩
theorem AQ.ou{u w:World}{l:List (TypeId×Array Value)}{t:TypeId}{a b c d:Value}(h:AQ u w l)(r:l[2]?=some (t,#[a,b,c,d])):w.cell? ⟨u.heap.size+1+1,0,none⟩=some a/\w.cell? ⟨u.heap.size+1+1,1,none⟩=some b/\w.cell? ⟨u.heap.size+1+1,2,none⟩=some c/\w.cell? ⟨u.heap.size+1+1,3,none⟩=some d:=⟨h.cell 2 0 r rfl,h.cell 2 1 r rfl,h.cell 2 2 r rfl,h.cell 2 3 r rfl⟩
theorem AQ.Mi{u w:World}{l:List (TypeId×Array Value)}{t:TypeId}{a b:Value}(h:AQ u w l)(r:l[3]?=some (t,#[a,b])):w.cell? ⟨u.heap.size+1+1+1,0,none⟩=some a/\w.cell? ⟨u.heap.size+1+1+1,1,none⟩=some b/\w.frozen? ⟨u.heap.size+1+1+1,0,none⟩=false/\w.frozen? ⟨u.heap.size+1+1+1,1,none⟩=false:=⟨h.cell 3 0 r rfl,h.cell 3 1 r rfl,h.free 3 0 r,h.free 3 1 r⟩
theorem AQ.VK{u w:World}{l:List (TypeId×Array Value)}{t:TypeId}{a b c:Value}(h:AQ u w l)(r:l[4]?=some (t,#[a,b,c])):w.cell? ⟨u.heap.size+1+1+1+1,0,none⟩=some a/\w.cell? ⟨u.heap.size+1+1+1+1,1,none⟩=some b/\w.cell? ⟨u.heap.size+1+1+1+1,2,none⟩=some c/\w.frozen? ⟨u.heap.size+1+1+1+1,0,none⟩=false/\w.frozen? ⟨u.heap.size+1+1+1+1,1,none⟩=false/\w.frozen? ⟨u.heap.size+1+1+1+1,2,none⟩=false:=⟨h.cell 4 0 r rfl,h.cell 4 1 r rfl,h.cell 4 2 r rfl,h.free 4 0 r,h.free 4 1 r,h.free 4 2 r⟩
theorem AQ.aF{u w:World}{l:List (TypeId×Array Value)}{t:TypeId}{a b c d e f:Value}(h:AQ u w l)(r:l[4]?=some (t,#[a,b,c,d,e,f])):w.cell? ⟨u.heap.size+1+1+1+1,0,none⟩=some a/\w.cell? ⟨u.heap.size+1+1+1+1,1,none⟩=some b/\w.cell? ⟨u.heap.size+1+1+1+1,2,none⟩=some c/\w.cell? ⟨u.heap.size+1+1+1+1,3,none⟩=some d/\w.cell? ⟨u.heap.size+1+1+1+1,4,none⟩=some e/\w.cell? ⟨u.heap.size+1+1+1+1,5,none⟩=some f/\w.frozen? ⟨u.heap.size+1+1+1+1,0,none⟩=false/\w.frozen? ⟨u.heap.size+1+1+1+1,1,none⟩=false/\w.frozen? ⟨u.heap.size+1+1+1+1,2,none⟩=false/\w.frozen? ⟨u.heap.size+1+1+1+1,3,none⟩=false/\w.frozen? ⟨u.heap.size+1+1+1+1,4,none⟩=false/\w.frozen? ⟨u.heap.size+1+1+1+1,5,none⟩=false:=⟨h.cell 4 0 r rfl,h.cell 4 1 r rfl,h.cell 4 2 r rfl,h.cell 4 3 r rfl,h.cell 4 4 r rfl,h.cell 4 5 r rfl,h.free 4 0 r,h.free 4 1 r,h.free 4 2 r,h.free 4 3 r,h.free 4 4 r,h.free 4 5 r⟩
end
section
open Go Go.RowKit Go.Maps
section
variable {P:Program} (w:World)
theorem run_append_grow_zeros (t tn ty e:TypeId)(i:TypeInfo)(z:Value)(kn:IntKind)(ht:P.underlying t=some (.slice e))(htn:P.underlying tn=some (.int kn))(hi:P.info? e=some i)(hz:i.zero=some z)
 (b:Addr) (sLen sCap:Nat) (olds:List Value) (hlo:olds.length=sLen*i.size) (holds:∀ j v,olds[j]? = some v->w.cell? (b.add j)=some v)
 (n:Nat) (k:IntKind) (h0:0<n) (hsz:0<i.size) (hg:sCap<sLen+n) (h63:((sLen+n:Nat):Int)<=9223372036854775807) (zS:n*i.bytes<=281474976710656) (hfit:Builtin.nextslicecap (sLen+n) sCap*i.bytes<=281474976710656):
 (Builtin.append_ #[t,tn] ty #[.slice (some b) sLen sCap,.int k n]).run P w =
   .ok (.slice (some ⟨w.heap.size,0,none⟩) (sLen+n) (grownCap w (sLen+n) sCap e))
    (w.drew.alloc (.cells (olds.toArray++Builtin.zeroCells z.cells n++Builtin.zeroCells z.cells (grownCap w (sLen+n) sCap e-(sLen+n))) e)):=by
 have hn:¬ (sLen+n<=sCap):=by omega
 have hn0:n≠0:=by omega
 have hw:IntKind.i64.wrap (n:Int)=n:=by rw[IntKind.wrap_i64];omega
 have h63' : ¬ (9223372036854775807<((sLen:Int)+(n:Int))):=by omega
 have h48' : ¬ (281474976710656<Builtin.nextslicecap (sLen+n) sCap*i.bytes):=by omega
 have h48i:¬ (281474976710656<(n:Int)*(i.bytes:Int)):=by
  rw[<- Int.natCast_mul]
  omega
 have hneg:¬ ((n:Int)<0):=by omega
 have hns:¬ (n*i.size=0):=Nat.mul_ne_zero hn0 (by omega)
 have hfo:=run_firstCells_some (P:=P) w.drew i.size sLen b sLen sCap olds hlo (by simpa using holds)
 simp[Builtin.append_,run_underlying ht,run_underlying htn,sizeOf,typeInfo,zeroValue,hi,hz,asInt,asIntOf,hw,hn,hn0,hneg,hns,h63',h48',h48i,Question.forced,hfo,newRow,grownCap]
theorem Rz (dT sT ty elem:TypeId)(size g o dLen dCap:Nat)(a:Addr)(sLen sCap:Nat)(cur:Array Value)(t:TypeId)(cs:List Value)
 (hu:P.underlying dT=some (.slice elem)) (hs:(P.info? elem).map (·.size)=some size)
 (hg:w.heap[g]? = some (.cells cur t (0,0))) (hn:cs.length=Nat.min sLen dLen*size)
 (hsrc:∀ j v,cs[j]? = some v->w.cell? (a.add j)=some v) (hfit:o+cs.length<=cur.size) (h1:∀ v∈cs,v.oneCell' = true):
 (Builtin.copy_ #[dT,sT] ty #[.slice (some ⟨g,o,none⟩) dLen dCap,.slice (some a) sLen sCap]).run P w =
   .ok (goInt (Nat.min sLen dLen)) (w.setRow g (cur.toList.take o++cs++cur.toList.drop (o+cs.length)).toArray):=by
 have hl:=run_loadCells_list (P:=P) w a cs hsrc
 have hst:=run_storeCells_at P g o t cs 0 cur w hg (by simpa using hfit) h1
 cases hq:P.info? elem with
 | none=>simp[hq] at hs
 | some i =>
   have hi:i.size=size:=by simpa [hq] using hs
   simp[Builtin.copy_,run_underlying hu,Builtin.lenOf,Builtin.firstCells,sizeOf,typeInfo,hq,hi,<- hn,hl,hst]
end
section
variable {P:Program} {w:World} {ops:Array Oper} {rest:List Oper} {o:Oper} {a:Act} {Q:Exit->Act->World->Prop}
theorem JF {t tn e:TypeId}{size bytes:Nat}{kn:IntKind}(T:Nonempty (Gl P t e size bytes))(htn:P.underlying tn=some (.int kn))(hgd:o.guard=none)(s x:Operand)(ho:o.op=.call { callee:=.builtin .append,args:=#[s,x],argTypes:=#[t,tn] })
 (g i m cap:Nat) (k:IntKind) (xs:List Value) (hs:a.eval s=.slice (some ⟨g,0,none⟩) i cap) (mi:Int) (hmi:mi=(m:Int)) (hx:a.eval x=.int k mi) (hl:xs.length=i*size) (hxs:∀ (j:Nat) (v:Value),xs[j]? = some v->w.cell? ⟨g,j,none⟩=some v)
 (h0:0<m) (hcap:cap<i+m) (hn:i+m<=4000000) (hbs:bytes<=1000)
 (h:∀ (nc:Nat) (w' : World) (zs:List Value),i+m<=nc->nc<=maxLen->At w' w.heap.size e (xs++zs).toArray->(xs++zs).length=nc*size->Below w.heap.size w w' -> wpList P ops Q rest (a.put o.dst (.slice (some ⟨w.heap.size,0,none⟩) (i+m) nc)) w'):
 wpList P ops Q (o::rest) a w:=by
 obtain⟨T⟩:=T
 subst hmi
 have hmul:(i+m)*bytes<=4000000000:=Nat.mul_le_mul hn hbs
 have hmm:m*bytes<=4000000000:=Nat.le_trans (Nat.mul_le_mul_right _ (by omega)) hmul
 have hr:=run_append_grow_zeros (P:=P) w t tn o.type e T.i T.z kn T.under htn T.info T.zero ⟨g,0,none⟩ i cap xs (by rw[T.YO];exact hl) (fun j v hj=>by
  have hadd:(⟨g,0,none⟩:Addr).add j=⟨g,j,none⟩:=by unfold Addr.add;split<;>simp_all
  rw[hadd];exact hxs j v hj) m k h0 (by rw[T.YO];exact T.pos) hcap (by omega) (by rw[T.bytes_];omega)
  (growslice_fits (by omega) (by rw[T.bytes_];omega))
 have hge:=grownCap_ge w (i+m) cap e
 have hle:=grownCap_le_maxLen w (i+m) cap e (by unfold maxLen;omega)
 refine Lib.wpList_append_run w hgd s x t tn ho _ _ hs hx _ _ hr ?_
 refine h _ _ ((Builtin.zeroCells T.z.cells m++Builtin.zeroCells T.z.cells (grownCap w (i+m) cap e-(i+m))).toList) hge hle ?_ ?_ ?_
 ·have:=At.new w.drew e (xs.toArray++Builtin.zeroCells T.z.cells m++Builtin.zeroCells T.z.cells (grownCap w (i+m) cap e-(i+m)))
  have e2:(xs++(Builtin.zeroCells T.z.cells m++Builtin.zeroCells T.z.cells (grownCap w (i+m) cap e-(i+m))).toList).toArray=xs.toArray++Builtin.zeroCells T.z.cells m++Builtin.zeroCells T.z.cells (grownCap w (i+m) cap e-(i+m)):=by
   apply Array.ext'
   simp[List.append_assoc]
  rw[e2]
  exact this
 ·simp only[List.length_append,Array.toList_append,Array.length_toList,size_zeroCells,T.lV,hl,<- Nat.add_mul]
  congr 1
  omega
 ·exact(Below.refl w.heap.size w).drew.alloc (Nat.le_refl _) _
theorem Ec {dT sT elem:TypeId}{size:Nat}(hgd:o.guard=none)(d s:Operand)(ho:o.op=.call { callee:=.builtin .copy,args:=#[d,s],argTypes:=#[dT,sT] })
 (hu:P.underlying dT=some (.slice elem)) (hsz:(P.info? elem).map (·.size)=some size)
 (g off dLen dCap:Nat) (sb so sLen sCap:Nat) (hd:a.eval d=.slice (some ⟨g,off,none⟩) dLen dCap) (hs:a.eval s=.slice (some ⟨sb,so,none⟩) sLen sCap)
 (cur:List Value) (t:TypeId) (hg:At w g t cur.toArray) (cs:List Value) (hn:cs.length=Nat.min sLen dLen*size)
 (hsrc:∀ (j:Nat) (v:Value),cs[j]? = some v->w.cell? ⟨sb,so+j,none⟩=some v) (hfit:off+cs.length<=cur.length) (h1:∀ v∈cs,v.oneCell' = true)
 (h:∀ w',At w' g t (cur.take off++(cs++cur.drop (off+cs.length))).toArray->w.grownBy w' (some g)->w'.heap.size=w.heap.size->wpList P ops Q rest (a.put o.dst (goInt (Nat.min sLen dLen))) w'):wpList P ops Q (o::rest) a w:=by
 have hrun:=Rz (P:=P) w dT sT o.type elem size g off dLen dCap ⟨sb,so,none⟩ sLen sCap cur.toArray t cs hu hsz hg hn (fun j v hj=>by
  have hadd:(⟨sb,so,none⟩:Addr).add j=⟨sb,so+j,none⟩:=by unfold Addr.add;split<;>simp_all
  rw[hadd];exact hsrc j v hj) (by simpa using hfit) h1
 refine wpList_plain hgd fun K hK=>?_
 unfold Oper.wp
 simp[execOp,ho,resolve,invoke,builtin,hd,hs,hrun,Result.andThen]
 refine hK _ _ (h _ ?_ ⟨rfl,rfl,rfl,by simp[World.setRow],fun k _ hne=>setRow_other w g k _ (fun e=>hne (by rw[e]))⟩ (by simp[World.setRow]))
 have:=At.setRow hg (cur.take off++(cs++cur.drop (off+cs.length))).toArray
 simpa [List.append_assoc] using this
end
end
section
open Go
theorem S9:∀ x:List UInt8,Op.bytesLess x x=false
 | []=>rfl
 | a :: x => by
   unfold Op.bytesLess
   rw[S9 x]
   simp
theorem VL:∀ x y z:List UInt8,Op.bytesLess x y=true->Op.bytesLess y z=true->Op.bytesLess x z=true
 | _,[],_,h,_=>by unfold Op.bytesLess at h;cases h
 | _,_::_,[],_,h=>by unfold Op.bytesLess at h;cases h
 | [],_::_,_::_,_,_=>rfl
 | a :: x,b :: y,c :: z,h1,h2 => by
   unfold Op.bytesLess at h1 h2 ⊢
   simp only[Bool.or_eq_true,Bool.and_eq_true,decide_eq_true_eq,beq_iff_eq] at h1 h2 ⊢
   rcases h1 with h1|⟨rfl,h1⟩
   ·rcases h2 with h2|⟨rfl,h2⟩
    ·exact .inl (UInt8.lt_trans h1 h2)
    ·exact .inl h1
   ·rcases h2 with h2|⟨rfl,h2⟩
    ·exact .inl h2
    ·exact .inr ⟨rfl,VL x y z h1 h2⟩
theorem eO:∀ x y:List UInt8,Op.bytesLess x y=false->Op.bytesLess y x=false->x=y
 | [],[],_,_=>rfl
 | [],_::_,h,_=>by unfold Op.bytesLess at h;cases h
 | _::_,[],_,h=>by unfold Op.bytesLess at h;cases h
 | a :: x,b :: y,h1,h2 => by
   unfold Op.bytesLess at h1 h2
   simp only[Bool.or_eq_false_iff,Bool.and_eq_false_iff,decide_eq_false_iff_not,beq_eq_false_iff_ne] at h1 h2
   obtain⟨h1a,h1b⟩:=h1
   obtain⟨h2a,h2b⟩:=h2
   have e:a=b:=UInt8.le_antisymm (UInt8.not_lt.1 h2a) (UInt8.not_lt.1 h1a)
   subst e
   rw[eO x y (h1b.resolve_left (fun h=>h rfl)) (h2b.resolve_left (fun h=>h rfl))]
namespace Own
theorem FU (x:ByteArray):Ak x x=false:=S9 _
theorem Ed {x y z:ByteArray}(h1:Ak x y=true)(h2:Ak y z=true):Ak x z=true:=VL _ _ _ h1 h2
theorem toList_inj {x y:ByteArray}(h:x.toList=y.toList):x=y:=by
 rw[ByteArray.toList_eq,ByteArray.toList_eq] at h
 exact Sha.CP h
theorem aG {x y:ByteArray}(h1:Ak x y=false)(h2:Ak y x=false):x=y:=toList_inj (eO _ _ h1 h2)
section
variable {α : Type} (f : α -> ByteArray)
def Srt (l:List α):Prop:=l.Pairwise fun x y=>Ak (f x) (f y)=true
def posB (t:ByteArray):List α -> Nat
 | []=>0
 | x::l=>if Ak (f x) t then posB t l+1 else 0
def Kw (x : α):List α -> List α
 | []=>[x]
 | y::l=>if Ak (f y) (f x) then y::Kw x l else if f y=f x then x::l else x::y::l
variable {f}
theorem Mj (t:ByteArray):∀ l:List α,posB f t l<=l.length
 | []=>Nat.le_refl _
 | x :: l => by
   unfold posB
   split
   ·have:=Mj t l;simp;omega
   ·simp
theorem SA (t:ByteArray):∀ (l:List α) (k:Nat) (_:k<posB f t l) (h:k<l.length),Ak (f l[k]) t=true
 | [],k,hk,h=>by cases h
 | x :: l,k,hk,h => by
   unfold posB at hk
   split at hk
   ·rename_i hx
    cases k with
    | zero=>exact hx
    | succ k=>exact SA t l k (by omega) (by simpa using h)
   ·omega
theorem NU (t:ByteArray){l:List α}{i:Nat}(hi:i<=l.length)(h1:∀ k (h:k<l.length),k<i->Ak (f l[k]) t=true)(h2:∀ k (h:k<l.length),i<=k->Ak (f l[k]) t=false):i=posB f t l:=by
 have hp:=Mj (f:=f) t l
 rcases Nat.lt_trichotomy i (posB f t l) with h|h|h
 ·have a:=SA t l i h (by omega)
  have b:=h2 i (by omega) (Nat.le_refl _)
  rw[a] at b;cases b
 ·exact h
 ·have a:=h1 (posB f t l) (by omega) h
  exfalso
  have key:∀ (l:List α),posB f t l<l.length->∀ (hh:posB f t l<l.length),Ak (f l[posB f t l]) t=false:=by
   intro l
   induction l with
   | nil=>intro h;cases h
   | cons x l ih =>
     intro hlt hh
     by_cases hx:Ak (f x) t=true
     ·have e:posB f t (x::l)=posB f t l+1:=by rw[posB,if_pos hx]
      have hl2:posB f t l<l.length:=by rw[e] at hlt;simpa using hlt
      have:=ih hl2 hl2
      simp only[e,List.getElem_cons_succ]
      exact this
     ·have e:posB f t (x::l)=0:=by rw[posB,if_neg hx]
      simp only[e,List.getElem_cons_zero]
      simpa using hx
  have b:=key l (by omega) (by omega)
  rw[a] at b
  cases b
def Dt (f : α -> ByteArray)(t:ByteArray)(l:List α):Bool:=match l[posB f t l]? with
 | none=>false
 | some y=>decide (f y=t)
theorem Mk (x : α):∀ l:List α,Kw f x l=l.take (posB f (f x) l)++x::l.drop (posB f (f x) l+if Dt f (f x) l then 1 else 0)
 | []=>rfl
 | y :: l => by
   by_cases h:Ak (f y) (f x)=true
   ·have e:posB f (f x) (y::l)=posB f (f x) l+1:=by rw[posB,if_pos h]
    have eh:Dt f (f x) (y::l)=Dt f (f x) l:=by unfold Dt;rw[e];rfl
    rw[Kw,if_pos h,Mk x l,e,eh,List.take_succ_cons,Nat.add_right_comm,List.drop_succ_cons]
    rfl
   ·have e:posB f (f x) (y::l)=0:=by rw[posB,if_neg h]
    have eh:Dt f (f x) (y::l)=decide (f y=f x):=by unfold Dt;rw[e];rfl
    rw[Kw,if_neg h,e,eh]
    by_cases h2:f y=f x
    ·rw[if_pos h2,decide_eq_true h2];rfl
    ·rw[if_neg h2,decide_eq_false h2];rfl
theorem JG (x : α):∀ (l:List α) (y : α),y∈Kw f x l->y=x\/y∈l
 | [],y,h=>.inl (by simpa [Kw] using h)
 | z :: l,y,h => by
   unfold Kw at h
   split at h
   ·rcases List.mem_cons.1 h with rfl|h
    ·exact .inr List.mem_cons_self
    ·exact(JG x l y h).imp id (List.mem_cons_of_mem _)
   ·split at h
    ·exact(List.mem_cons.1 h).imp id (List.mem_cons_of_mem _)
    ·exact List.mem_cons.1 h
theorem Srt.put (x : α):∀ {l:List α},Srt f l->Srt f (Kw f x l)
 | [],_=>List.pairwise_singleton _ _
 | y :: l,h => by
   obtain⟨h1,h2⟩:=List.pairwise_cons.1 h
   unfold Kw
   split
   ·rename_i hy
    refine List.pairwise_cons.2 ⟨fun z hz=>?_,Srt.put x h2⟩
    rcases JG x l z hz with rfl|hz
    ·exact hy
    ·exact h1 z hz
   ·rename_i hy
    have hy' : Ak (f y) (f x)=false:=by simpa using hy
    split
    ·rename_i he
     exact List.pairwise_cons.2 ⟨fun z hz=>by rw[<- he];exact h1 z hz,h2⟩
    ·rename_i he
     have hxy:Ak (f x) (f y)=true:=by
      cases hc:Ak (f x) (f y) with
      | true=>rfl
      | false=>exact absurd (aG hy' hc) he
     refine List.pairwise_cons.2 ⟨fun z hz=>?_,h⟩
     rcases List.mem_cons.1 hz with rfl|hz
     ·exact hxy
     ·exact Ed hxy (h1 z hz)
theorem I4 {ok : α -> Bool} : ∀ {l:List α} {p:Option α},Ai ok (fun x y=>Ak (f x) (f y)) p l=true->Srt f l/\∀ q,p=some q->∀ x∈l,Ak (f q) (f x)=true
 | [],_,_=>⟨List.Pairwise.nil,fun _ _ _ h=>by cases h⟩
 | y :: l,p,h => by
   have h' : ((ok y&&(match p with|none=>true|some z=>Ak (f z) (f y)))&&Ai ok (fun x y=>Ak (f x) (f y)) (some y) l)=true:=by cases p<;>exact h
   obtain⟨h1,h2⟩:=Bool.and_eq_true_iff.1 h'
   obtain⟨hs,hq⟩:=I4 h2
   refine⟨List.pairwise_cons.2 ⟨hq y rfl,hs⟩,?_⟩
   rintro q rfl x hx
   have hqy:Ak (f q) (f y)=true:=(Bool.and_eq_true_iff.1 h1).2
   rcases List.mem_cons.1 hx with rfl|hx
   ·exact hqy
   ·exact Ed hqy (hq y rfl x hx)
end
theorem I5:∀ (l:List KeyUse) (x:KeyUse),use l x=Kw KeyUse.pub x l
 | [],_=>rfl
 | y::l,x=>by unfold use Kw;rw[I5 l x]
theorem Du:∀ (l:List Vote) (x:Vote),Bq l x=Kw Vote.name x l
 | [],_=>rfl
 | y::l,x=>by unfold Bq Kw;rw[Du l x]
theorem Lh (p:ByteArray):∀ {l:List KeyUse},Srt KeyUse.pub l->Bc l p=if Dt KeyUse.pub p l then (match l[posB KeyUse.pub p l]? with|none=>0|some k=>k.next) else 0
 | [],_=>rfl
 | y :: l,h => by
   obtain⟨h1,h2⟩:=List.pairwise_cons.1 h
   have ih:=Lh p h2
   by_cases hy:Ak y.pub p=true
   ·have e:posB KeyUse.pub p (y::l)=posB KeyUse.pub p l+1:=by rw[posB,if_pos hy]
    have eh:Dt KeyUse.pub p (y::l)=Dt KeyUse.pub p l:=by unfold Dt;rw[e];rfl
    have hn:¬ y.pub=p:=fun e=>by rw[e,FU] at hy;cases hy
    have e2:Bc (y::l) p=Bc l p:=by
     unfold Bc
     rw[List.find?_cons_of_neg (by simpa using hn)]
    rw[e2,ih,eh,e]
    rfl
   ·have e:posB KeyUse.pub p (y::l)=0:=by rw[posB,if_neg hy]
    have eh:Dt KeyUse.pub p (y::l)=decide (y.pub=p):=by unfold Dt;rw[e];rfl
    rw[eh,e]
    by_cases he:y.pub=p
    ·rw[decide_eq_true he]
     unfold Bc
     rw[List.find?_cons_of_pos (by simpa using he)]
     rfl
    ·rw[decide_eq_false he]
     have:l.find? (fun k=>decide (k.pub=p))=none:=by
      rw[List.find?_eq_none]
      intro z hz hp
      have hz2:z.pub=p:=of_decide_eq_true hp
      have h3:=h1 z hz
      rw[hz2] at h3
      exact hy h3
     unfold Bc
     rw[List.find?_cons_of_neg (by simpa using he),this]
     rfl
end Own
end
section
open Go Go.RowKit Go.Maps
theorem Qt (k:Own.KeyUse)(t:ByteArray)(w:World):Calls Tryz.prog 177 #[.agg #[.string k.pub,.int .i64 k.next],.string t] w fun e w' => e=.returned (.int .i64 (JE k.pub t))/\Below w.heap.size w w':=by
 have HB:=zh ((Below.refl w.heap.size w).alloc (Nat.le_refl _) (.cells #[.string k.pub,.int .i64 k.next] 91))
 go_enter Tryz.func177,Tryz.ntmps177
 go_wp2_with fail
 refine(Qs k.pub t _).mono ?_
 rintro e w2 ⟨rfl,rfl⟩
 go_wp2_with fail
 go_ret
 exact⟨rfl,HB.out⟩
theorem XZ (v:Value)(l:List Own.KeyUse)(t:ByteArray)(w:World)(h:Own.Ca w v l)(hs:Own.Srt Own.KeyUse.pub l)(hl:l.length<=1000000):
 Calls Tryz.prog 176 #[v,.string t,.func (.func 177) #[] #[]] w fun e w' => e=.returned (.tuple #[.int .i64 (Own.posB Own.KeyUse.pub t l:Nat),.bool (Own.Dt Own.KeyUse.pub t l)])/\Below w.heap.size w w':=by
 obtain⟨a,c,rfl⟩:=h.len
 have HL:=zh h;have HS:=zh hs;clear h hs
 go_enter Tryz.func176,Tryz.ntmps176
 go_wp2_with fail
 go_loopw [9,10] (fun i j wr=>∃ p q:Nat,p<=q/\∃ hq:q<=l.length,i=.int .i64 p/\j=.int .i64 q/\(∀ k (h:k<l.length),k<p->Own.Ak l[k].pub t=true)/\(∀ k (h:k<l.length),q<=k->Own.Ak l[k].pub t=false)/\Below w.heap.size w wr) (fun i j _=>(intOf j).toNat-(intOf i).toNat)
 case atStart=>exact⟨0,l.length,by omega,Nat.le_refl _,rfl,rfl,fun _ _ h=>by omega,fun _ _ h=>by omega,Below.refl _ _⟩
 case round=>
  obtain⟨p,q,hpq,hq,rfl,rfl,h1,h2,hb⟩:=hrel
  have HB:=zh hb;have H1:=zh h1;have H2:=zh h2
  by_cases hlt:p<q
  ·have dk:decide ((p:Int)<(q:Int))=true:=zt
   obtain⟨m,hm⟩:∃ m,m=(p+q)/2:=⟨_,rfl⟩
   have em:((p:Int)+(q:Int))/2=(m:Int):=by omega
   have m1:p<=m:=by omega
   have m2:m<q:=by omega
   have hml:m<l.length:=by omega
   obtain⟨b,o,ha,hbl,e0,e1⟩:=Own.Ca.cells (HL.out.below hb) hml
   subst ha
   have hlow:Own.Ak l[m].pub t=true->∀ k (h:k<l.length),k<m+1->Own.Ak l[k].pub t=true:=fun hx k hk hkm=>by
    by_cases e:k=m
    ·subst e;exact hx
    ·exact Own.Ed ((List.pairwise_iff_getElem.1 HS.out) k m hk hml (by omega)) hx
   have hhigh:Own.Ak l[m].pub t=false->∀ k (h:k<l.length),m<=k->Own.Ak l[k].pub t=false:=fun hx k hk hkm=>by
    by_cases e:k=m
    ·subst e;exact hx
    ·cases hc:Own.Ak l[k].pub t with
     | false=>rfl
     | true =>
       have:=Own.Ed ((List.pairwise_iff_getElem.1 HS.out) m k hml hk (by omega)) hc
       rw[hx] at this
       cases this
   obtain⟨ku,hku⟩:∃ x,x=l[m]:=⟨_,rfl⟩
   rw[<- hku] at hlow hhigh e0 e1
   have hcall:=Qt ku t wr
   have ow:=zh hlow;have eP:=zh hhigh
   clear hb h1 h2 hm hlow hhigh hku
   cases hc:Own.Ak ku.pub t with
   | true =>
     have ec:JE ku.pub t = -1:=by unfold JE;rw[hc];rfl
     rw[ec] at hcall
     clear ec
     go_wp2_with fail
     refine hcall.mono ?_
     rintro e w' ⟨rfl,hb'⟩
     go_wp2_with fail
     exact⟨⟨m+1,q,by omega,by omega,by go_num,rfl,ow.out hc,H2.out,HB.out.trans (hb'.mono HB.out.size)⟩,by simp[intOf];omega⟩
   | false =>
     obtain⟨r,hr⟩:∃ r,r=JE ku.pub t:=⟨_,rfl⟩
     have er:0<=r:=by rw[hr];unfold JE;rw[hc];simp;split<;>decide
     rw[<- hr] at hcall
     have dr:decide (r<0)=false:=zf
     clear hr
     go_wp2_with fail
     refine hcall.mono ?_
     rintro e w' ⟨rfl,hb'⟩
     go_wp2_with fail
     exact⟨⟨p,m,by omega,by omega,rfl,rfl,H1.out,eP.out hc,HB.out.trans (hb'.mono HB.out.size)⟩,by simp[intOf];omega⟩
  ·obtain rfl:p=q:=by omega
   have dk:decide ((p:Int)<(p:Int))=false:=zf
   have hpos:=Own.NU (f:=Own.KeyUse.pub) t hq (fun k h=>h1 k h) (fun k h=>h2 k h)
   have eT:=zh hpos
   by_cases hpl:p<l.length
   ·have dp:decide ((p:Int)<(l.length:Int))=true:=zt
    obtain⟨b,o,ha,hbl,e0,e1⟩:=Own.Ca.cells (HL.out.below hb) hpl
    subst ha
    have hge:=h2 p hpl (Nat.le_refl _)
    have hhit:Own.Dt Own.KeyUse.pub t l=decide (l[p].pub=t):=by unfold Own.Dt;rw[<- hpos,List.getElem?_eq_getElem hpl]
    obtain⟨ku,hku⟩:∃ x,x=l[p]:=⟨_,rfl⟩
    rw[<- hku] at hhit hge e0 e1
    have hcall:=Qt ku t wr
    obtain⟨r,hr⟩:∃ r,r=JE ku.pub t:=⟨_,rfl⟩
    have er:(r==0)=Own.Dt Own.KeyUse.pub t l:=by
     rw[hhit,hr];unfold JE;rw[hge]
     by_cases h:ku.pub=t
     ·simp[h]
     ·simp[h]
    rw[<- hr] at hcall
    have ER:=zh er
    clear hb h1 h2 hhit hge hku hr hpos er
    go_wp2_with fail
    refine hcall.mono ?_
    rintro e w' ⟨rfl,hb'⟩
    go_wp2_with fail
    go_ret2
    exact⟨by rw[<- ER.out,<- eT.out];rfl,HB.out.trans (hb'.mono HB.out.size)⟩
   ·have dp:decide ((p:Int)<(l.length:Int))=false:=zf
    have hhit:Own.Dt Own.KeyUse.pub t l=false:=by unfold Own.Dt;rw[<- hpos,List.getElem?_eq_none (by omega)]
    have Ya:=zh hhit
    clear hb h1 h2 hhit hpos
    go_wp2_with fail
    go_ret2
    exact⟨by rw[Ya.out,<- eT.out];rfl,HB.out⟩
theorem NV (k:Own.Vote)(t:ByteArray)(w:World):Calls Tryz.prog 64 #[.agg #[.string k.name,.string k.pub,.bool k.agrees],.string t] w fun e w' => e=.returned (.int .i64 (JE k.name t))/\Below w.heap.size w w':=by
 have HB:=zh ((Below.refl w.heap.size w).alloc (Nat.le_refl _) (.cells #[.string k.name,.string k.pub,.bool k.agrees] 82))
 go_enter Tryz.func64,Tryz.ntmps64
 go_wp2_with fail
 refine(Qs k.name t _).mono ?_
 rintro e w2 ⟨rfl,rfl⟩
 go_wp2_with fail
 go_ret
 exact⟨rfl,HB.out⟩
theorem VN (v:Value)(l:List Own.Vote)(t:ByteArray)(w:World)(h:Own.Ct w v l)(hs:Own.Srt Own.Vote.name l)(hl:l.length<=1000000):
 Calls Tryz.prog 63 #[v,.string t,.func (.func 64) #[] #[]] w fun e w' => e=.returned (.tuple #[.int .i64 (Own.posB Own.Vote.name t l:Nat),.bool (Own.Dt Own.Vote.name t l)])/\Below w.heap.size w w':=by
 obtain⟨a,c,rfl⟩:=h.len
 have HL:=zh h;have HS:=zh hs;clear h hs
 go_enter Tryz.func63,Tryz.ntmps63
 go_wp2_with fail
 go_loopw [9,10] (fun i j wr=>∃ p q:Nat,p<=q/\∃ hq:q<=l.length,i=.int .i64 p/\j=.int .i64 q/\(∀ k (h:k<l.length),k<p->Own.Ak l[k].name t=true)/\(∀ k (h:k<l.length),q<=k->Own.Ak l[k].name t=false)/\Below w.heap.size w wr) (fun i j _=>(intOf j).toNat-(intOf i).toNat)
 case atStart=>exact⟨0,l.length,by omega,Nat.le_refl _,rfl,rfl,fun _ _ h=>by omega,fun _ _ h=>by omega,Below.refl _ _⟩
 case round=>
  obtain⟨p,q,hpq,hq,rfl,rfl,h1,h2,hb⟩:=hrel
  have HB:=zh hb;have H1:=zh h1;have H2:=zh h2
  by_cases hlt:p<q
  ·have dk:decide ((p:Int)<(q:Int))=true:=zt
   obtain⟨m,hm⟩:∃ m,m=(p+q)/2:=⟨_,rfl⟩
   have em:((p:Int)+(q:Int))/2=(m:Int):=by omega
   have m1:p<=m:=by omega
   have m2:m<q:=by omega
   have hml:m<l.length:=by omega
   obtain⟨b,o,ha,hbl,e0,e1,e2⟩:=Own.Ct.cells (HL.out.below hb) hml
   subst ha
   have hlow:Own.Ak l[m].name t=true->∀ k (h:k<l.length),k<m+1->Own.Ak l[k].name t=true:=fun hx k hk hkm=>by
    by_cases e:k=m
    ·subst e;exact hx
    ·exact Own.Ed ((List.pairwise_iff_getElem.1 HS.out) k m hk hml (by omega)) hx
   have hhigh:Own.Ak l[m].name t=false->∀ k (h:k<l.length),m<=k->Own.Ak l[k].name t=false:=fun hx k hk hkm=>by
    by_cases e:k=m
    ·subst e;exact hx
    ·cases hc:Own.Ak l[k].name t with
     | false=>rfl
     | true =>
       have:=Own.Ed ((List.pairwise_iff_getElem.1 HS.out) m k hml hk (by omega)) hc
       rw[hx] at this
       cases this
   obtain⟨ku,hku⟩:∃ x,x=l[m]:=⟨_,rfl⟩
   rw[<- hku] at hlow hhigh e0 e1 e2
   have hcall:=NV ku t wr
   have ow:=zh hlow;have eP:=zh hhigh
   clear hb h1 h2 hm hlow hhigh hku
   cases hc:Own.Ak ku.name t with
   | true =>
     have ec:JE ku.name t = -1:=by unfold JE;rw[hc];rfl
     rw[ec] at hcall
     clear ec
     go_wp2_with fail
     refine hcall.mono ?_
     rintro e w' ⟨rfl,hb'⟩
     go_wp2_with fail
     exact⟨⟨m+1,q,by omega,by omega,by go_num,rfl,ow.out hc,H2.out,HB.out.trans (hb'.mono HB.out.size)⟩,by simp[intOf];omega⟩
   | false =>
     obtain⟨r,hr⟩:∃ r,r=JE ku.name t:=⟨_,rfl⟩
     have er:0<=r:=by rw[hr];unfold JE;rw[hc];simp;split<;>decide
     rw[<- hr] at hcall
     have dr:decide (r<0)=false:=zf
     clear hr
     go_wp2_with fail
     refine hcall.mono ?_
     rintro e w' ⟨rfl,hb'⟩
     go_wp2_with fail
     exact⟨⟨p,m,by omega,by omega,rfl,rfl,H1.out,eP.out hc,HB.out.trans (hb'.mono HB.out.size)⟩,by simp[intOf];omega⟩
  ·obtain rfl:p=q:=by omega
   have dk:decide ((p:Int)<(p:Int))=false:=zf
   have hpos:=Own.NU (f:=Own.Vote.name) t hq (fun k h=>h1 k h) (fun k h=>h2 k h)
   have eT:=zh hpos
   by_cases hpl:p<l.length
   ·have dp:decide ((p:Int)<(l.length:Int))=true:=zt
    obtain⟨b,o,ha,hbl,e0,e1,e2⟩:=Own.Ct.cells (HL.out.below hb) hpl
    subst ha
    have hge:=h2 p hpl (Nat.le_refl _)
    have hhit:Own.Dt Own.Vote.name t l=decide (l[p].name=t):=by unfold Own.Dt;rw[<- hpos,List.getElem?_eq_getElem hpl]
    obtain⟨ku,hku⟩:∃ x,x=l[p]:=⟨_,rfl⟩
    rw[<- hku] at hhit hge e0 e1 e2
    have hcall:=NV ku t wr
    obtain⟨r,hr⟩:∃ r,r=JE ku.name t:=⟨_,rfl⟩
    have er:(r==0)=Own.Dt Own.Vote.name t l:=by
     rw[hhit,hr];unfold JE;rw[hge]
     by_cases h:ku.name=t
     ·simp[h]
     ·simp[h]
    rw[<- hr] at hcall
    have ER:=zh er
    clear hb h1 h2 hhit hge hku hr hpos er
    go_wp2_with fail
    refine hcall.mono ?_
    rintro e w' ⟨rfl,hb'⟩
    go_wp2_with fail
    go_ret2
    exact⟨by rw[<- ER.out,<- eT.out];rfl,HB.out.trans (hb'.mono HB.out.size)⟩
   ·have dp:decide ((p:Int)<(l.length:Int))=false:=zf
    have hhit:Own.Dt Own.Vote.name t l=false:=by unfold Own.Dt;rw[<- hpos,List.getElem?_eq_none (by omega)]
    have Ya:=zh hhit
    clear hb h1 h2 hhit hpos
    go_wp2_with fail
    go_ret2
    exact⟨by rw[Ya.out,<- eT.out];rfl,HB.out⟩
theorem eU {fn:Nat}{tS e:TypeId}{size:Nat}(w:World)
 (hf:∀ args,(callFunc fn args).run Tryz.prog w=((Extern.SlicesOverlaps.overlaps #[tS,tS] #[4] args).run Tryz.prog w).andThen fun v w' => .ok (.value v) w')
 (ht:Tryz.prog.underlying tS=some (.slice e)) (hz:∀ w,(Go.sizeOf e).run Tryz.prog w=.ok size w) (vb b o la ca lb cb:Nat) (hne:vb≠b) (cv cb' : Array Value) (hv:At w vb e cv) (hb:At w b e cb') (h0:cb'.size≠0):
 (callFunc fn #[.slice (some ⟨vb,0,none⟩) la ca,.slice (some ⟨b,o,none⟩) lb cb]).run Tryz.prog w=.ok (.value (.bool false)) w:=by
 rw[hf,Lib.run_overlaps_apart w tS 4 e ht size hz ⟨vb,0,none⟩ ⟨b,o,none⟩ la ca lb cb hne e e cv.size cb'.size ?_ ?_ h0 (hv.free 0) (hv.free _)]
 ·rfl
 ·unfold At at hv;simp[World.shape?,hv]
 ·unfold At at hb;simp[World.shape?,hb]
theorem SC {P:Program}{e:TypeId}{k:Nat}(h:(P.info? e).map (·.size)=some k)(w:World):(Go.sizeOf e).run P w=.ok k w:=by
 cases hq:P.info? e with
 | none=>rw[hq] at h;cases h
 | some i =>
   have hi:i.size=k:=by simpa [hq] using h
   simp[Go.sizeOf,typeInfo,hq,hi]
theorem EM {w:World}{base g n cap size:Nat}{e:TypeId}{cur xs:List Value}(hg:At w g e cur.toArray)(hb:base<=g)(hn:n<=cap)(hc:cap<=maxLen)(hs:cur.length=cap*size)(ht:cur.take (n*size)=xs):w.ownsRow base e size (.slice (some ⟨g,0,none⟩) n cap) n xs:=by
 refine⟨?_,.inr ⟨g,cap,cur.toArray,rfl,hb,hg,hn,hc,by simpa using hs,by simpa using ht⟩⟩
 rw[<- ht,List.length_take,hs]
 exact Nat.min_eq_left (Nat.mul_le_mul_right _ hn)
theorem Ko {w:World}{base g n cap size:Nat}{e:TypeId}{xs:List Value}(h:w.ownsRow base e size (.slice (some ⟨g,0,none⟩) n cap) n xs):∃ ys:List Value,At w g e (xs++ys).toArray/\base<=g/\n<=cap/\cap<=maxLen/\(xs++ys).length=cap*size/\xs.length=n*size:=by
 obtain⟨hl,⟨h0,_⟩|⟨g',cap',cur,hv,hb,hg,h1,h2,h3,h4⟩⟩:=h
 ·cases h0
 ·cases hv
  have e1:xs++cur.toList.drop (n*size)=cur.toList:=by rw[<- h4,List.take_append_drop]
  refine⟨cur.toList.drop (n*size),by rw[e1];exact hg,hb,h1,h2,by rw[e1];simpa using h3,hl⟩
theorem Fh:(Tryz.prog.info? 91).map (·.size)=some 2:=by kernel_rfl
theorem VO (base n i vb:Nat)(v:Value)(xs nw:List Value)(w:World)(ho:w.ownsRow base 91 2 v n xs)(h1:∀ u∈xs,u.oneCell' = true)(hi:i<=n)(hn:n<=3000000)(hnw:nw.length=2)(hnv:At w vb 91 nw.toArray)(h2:∀ u∈nw,u.oneCell' = true)(hvb:v.ownBlock≠some vb)(hbs:base<=w.heap.size):
 Calls Tryz.prog 155 #[v,.int .i64 i,.slice (some ⟨vb,0,none⟩) 1 1] w fun e w' => ∃ v',e=.returned v' /\ w'.ownsRow base 91 2 v' (n+1) (xs.take (i*2)++(nw++xs.drop (i*2)))/\w.grownBy w' v.ownBlock/\(v'.ownBlock=v.ownBlock\/v'.ownBlock=some w.heap.size):=by
 have hrows:BA w (.slice (some ⟨vb,0,none⟩) 1 1) 2 1 nw:=by
  refine⟨by rw[hnw],_,_,rfl,.inr ⟨vb,0,rfl,hnv.lt,fun j u hj=>?_⟩⟩
  rw[Nat.zero_add,hnv.cell]
  simpa using hj
 have HO:=zh ho;have H1:=zh h1;have H2:=zh h2;have HNV:=zh hnv;have HR:=zh hrows;have HVB:=zh hvb
 clear h1 h2 hnv hrows hvb
 go_enter Tryz.func155,Tryz.ntmps155
 obtain⟨a,m,c,rfl⟩:=Ae ho
 obtain rfl:=BU ho
 by_cases hie:i=m
 ·subst hie
  have hsl:i<=c:=by
   rcases ho.2 with ⟨h0,_⟩|⟨g,cap,cur,h0,_,_,h3,_⟩
   ·cases h0;exact Nat.le_refl _
   ·cases h0;exact h3
  have hcz:(a=none/\c=0/\i=0)\/∃ g,a=some ⟨g,0,none⟩:=by
   rcases ho.2 with ⟨h0,h5⟩|⟨g,cap,cur,h0,_⟩
   ·cases h0;exact .inl ⟨rfl,rfl,h5⟩
   ·cases h0;exact .inr ⟨g,rfl⟩
  have hxl:xs.take (i*2)=xs/\xs.drop (i*2)=[]:=by
   have:=ho.1
   exact⟨List.take_of_length_le (by omega),List.drop_eq_nil_of_le (by omega)⟩
  have HXL:=zh hxl
  clear ho hxl
  rcases hcz with ⟨rfl,rfl,rfl⟩|⟨g,rfl⟩
  ·go_wp2_with (at_builtin;go_must (refine Am JB rfl _ _ rfl base 0 _ xs rfl HO.out (.slice (some ⟨vb,0,none⟩) 1 1) 1 nw rfl HR.out H2.out (by omega) (by omega) hbs ?_);intro v5 w5 ho5 hg5 hx5;obtain⟨va,vm,vc,rfl⟩:=Ae ho5;have HO5:=zh ho5;have HG5:=zh hg5;have HX5:=zh hx5;clear ho5 hg5 hx5)
   go_ret
   exact⟨_,rfl,by rw[HXL.out.1,HXL.out.2,List.append_nil];exact HO5.out,HG5.out,HX5.out⟩
  ·by_cases hci:c=i
   ·subst hci
    go_wp2_with (at_builtin;go_must (refine Am JB rfl _ _ rfl base c _ xs rfl HO.out (.slice (some ⟨vb,0,none⟩) 1 1) 1 nw rfl HR.out H2.out (by omega) (by omega) hbs ?_);intro v5 w5 ho5 hg5 hx5;obtain⟨va,vm,vc,rfl⟩:=Ae ho5;have HO5:=zh ho5;have HG5:=zh hg5;have HX5:=zh hx5;clear ho5 hg5 hx5)
    go_ret
    exact⟨_,rfl,by rw[HXL.out.1,HXL.out.2,List.append_nil];exact HO5.out,HG5.out,HX5.out⟩
   ·go_wp2_with (at_builtin;go_must (refine Am JB rfl _ _ rfl base i _ xs rfl HO.out (.slice (some ⟨vb,0,none⟩) 1 1) 1 nw rfl HR.out H2.out (by omega) (by omega) hbs ?_);intro v5 w5 ho5 hg5 hx5;obtain⟨va,vm,vc,rfl⟩:=Ae ho5;have HO5:=zh ho5;have HG5:=zh hg5;have HX5:=zh hx5;clear ho5 hg5 hx5)
    go_ret
    exact⟨_,rfl,by rw[HXL.out.1,HXL.out.2,List.append_nil];exact HO5.out,HG5.out,HX5.out⟩
 ·have him:i<m:=by omega
  obtain⟨g,rfl⟩:∃ g,a=some ⟨g,0,none⟩:=by
   rcases ho.2 with ⟨h0,h5⟩|⟨g,cap,cur,h0,_⟩
   ·omega
   ·cases h0;exact⟨g,rfl⟩
  obtain⟨ys,hat,hbg,hmc,hcm,hcl,hxl⟩:=Ko ho
  have hne:vb≠g:=fun e=>HVB.out (by rw[e];rfl)
  have HAT:=zh hat
  have de:((i:Int)==(m:Int))=false:=by rw[beq_eq_false_iff_ne];omega
  have ci:¬ c=i:=by omega
  clear ho hat
  by_cases hroom:m+1<=c
  ·have dr:decide ((c:Int)<(m:Int)+1)=false:=zf
   have hov:∀ o lb cb,(callFunc 178 #[.slice (some ⟨vb,0,none⟩) 1 1,.slice (some ⟨g,o,none⟩) lb cb]).run Tryz.prog w=.ok (.value (.bool false)) w:=fun o lb cb=>
    eU w (run_callFunc_extern Tryz.func178 (by kernel_rfl) (by kernel_rfl) (by kernel_rfl) (e:=Extern.SlicesOverlaps.overlaps #[36,36] #[4]) (by kernel_rfl) · w) Tryz.underlying36 (SC Fh) vb g o 1 1 lb cb hne _ _ HNV.out HAT.out (by rw[List.size_toArray];omega)
   go_wp2_with (simp only[hov])
   refine Lex.zl ?_
   clear hov
   have mn1:Nat.min (m+1-i) (m-i)=m-i:=by simp only[Nat.min_def];split<;>omega
   have hcs:(xs.drop (i*2)).length=(m-i)*2:=by rw[List.length_drop,hxl,Nat.sub_mul]
   have Qu:At w.drew g 91 (xs++ys).toArray:=HAT.out
   have hsrc:∀ (j:Nat) (u:Value),(xs.drop (i*2))[j]? = some u->w.drew.cell? ⟨g,i*2+j,none⟩=some u:=fun j u hj=>by
    show w.cell? ⟨g,i*2+j,none⟩=some u
    rw[HAT.out.cell]
    rw[List.getElem?_drop] at hj
    simp[List.getElem?_append_left (List.getElem?_eq_some_iff.1 hj).1,hj]
   have Yb:=zh Qu;have HCS:=zh hcs;have MN1:=zh mn1;have Yc:=zh hsrc
   clear Qu hcs mn1 hsrc
   go_wp2_with (refine Ec rfl _ _ rfl Tryz.underlying36 Fh g ((i+1)*2) (m-i) (c-(i+1)) g (i*2) (m+1-i) (c-i) (by rfl) (by rfl) (xs++ys) 91 Yb.out (xs.drop (i*2)) (by rw[HCS.out,MN1.out]) Yc.out (by rw[HCS.out,hcl];omega) (fun u hu=>H1.out u (List.mem_of_mem_drop hu)) ?_;intro w5 Qv hg5 hz5;have Ni:=zh Qv;have HG5:=zh hg5;clear Qv hg5)
   refine Lex.ze ?_
   have Qw:At w5 vb 91 nw.toArray:=(HG5.out.block vb HNV.out.lt (fun e=>hne (Option.some.inj e))).trans HNV.out
   have Yd:=zh Qw
   have mn2:Nat.min 1 (m+1-i)=1:=by simp only[Nat.min_def];split<;>omega
   have eX:((xs++ys).take ((i+1)*2)++(xs.drop (i*2)++(xs++ys).drop ((i+1)*2+(xs.drop (i*2)).length))).length=c*2:=by
    simp only[List.length_append,List.length_take,List.length_drop] at hcl ⊢
    omega
   have Ug:=zh eX;have MN2:=zh mn2
   clear Qw mn2 eX
   obtain⟨C5,hC5⟩:∃ C5,C5=(xs++ys).take ((i+1)*2)++(xs.drop (i*2)++(xs++ys).drop ((i+1)*2+(xs.drop (i*2)).length)):=⟨_,rfl⟩
   rw[<- hC5] at Ni Ug
   have JH:∀ (j:Nat) (u:Value),nw[j]? = some u->w5.cell? ⟨vb,0+j,none⟩=some u:=fun j u hj=>by
    rw[Nat.zero_add,Yd.out.cell]
    simpa using hj
   have HC5:=zh hC5;have Qx:=zh JH
   clear hC5 JH
   go_wp2_with (refine Ec rfl _ _ rfl Tryz.underlying36 Fh g (i*2) (m+1-i) (c-i) vb 0 1 1 (by rfl) (by rfl) C5 91 Ni.out nw (by rw[hnw,MN2.out]) Qx.out (by rw[hnw,Ug.out];omega) H2.out ?_;intro w6 FQ hg6 hz6;have Lb:=zh FQ;have HG6:=zh hg6;clear FQ hg6)
   go_wp2_with fail
   go_ret
   refine⟨_,rfl,EM Lb.out hbg (by omega) hcm ?_ ?_,?_,.inl rfl⟩
   ·have:=Ug.out
    simp only[List.length_append,List.length_take,List.length_drop,hnw] at this ⊢
    omega
   ·have hl:=Ug.out
    have e1:C5.take (i*2)=xs.take (i*2):=by
     rw[HC5.out,List.take_append_of_le_length (by rw[List.length_take,hcl];omega),List.take_take,Nat.min_eq_left (by omega),List.take_append_of_le_length (by omega)]
    have e2:(C5.drop (i*2+nw.length)).take ((m-i)*2)=xs.drop (i*2):=by
     have e3:i*2+nw.length=((xs++ys).take ((i+1)*2)).length:=by rw[List.length_take,hcl,hnw];omega
     rw[HC5.out,e3,List.drop_left,List.take_append_of_le_length (by rw[HCS.out];omega),List.take_of_length_le (by rw[HCS.out];omega)]
    have e4:(m+1)*2=(C5.take (i*2)).length+(nw.length+(m-i)*2):=by rw[List.length_take,hl,hnw];omega
    rw[e4,List.take_length_add_append,List.take_length_add_append,e1,e2]
   ·exact⟨HG6.out.os.trans HG5.out.os,HG6.out.tape.trans HG5.out.tape,HG6.out.output.trans HG5.out.output,Nat.le_trans HG5.out.size HG6.out.size,fun k hk hk2=>(HG6.out.block k (Nat.lt_of_lt_of_le hk HG5.out.size) hk2).trans (HG5.out.block k hk hk2)⟩
  ·have dr:decide ((c:Int)<(m:Int)+1)=true:=zt
   have hxi:(xs.take (i*2)).length=i*2:=by rw[List.length_take,hxl];exact Nat.min_eq_left (Nat.mul_le_mul_right _ hi)
   have HXI:=zh hxi;clear hxi
   have hxs:∀ (j:Nat) (u:Value),(xs.take (i*2))[j]? = some u->w.cell? ⟨g,j,none⟩=some u:=fun j u hj=>by
    rw[HAT.out.cell]
    rw[List.getElem?_take] at hj
    split at hj
    ·simp[List.getElem?_append_left (List.getElem?_eq_some_iff.1 hj).1,hj]
    ·cases hj
   have HXS:=zh hxs;clear hxs
   go_upto_region 10 with (at_builtin;go_must (refine JF JB Tryz.underlying3 rfl _ _ rfl g i (m+1-i) c .i64 (xs.take (i*2)) rfl _ (show _=((m+1-i:Nat):Int) by omega) rfl HXI.out HXS.out (by omega) (by omega) (by omega) (by omega) ?_);intro nc w5 zs eY oz Qv hl5 hb5;rw[show i+(m+1-i)=m+1 by omega] at eY ⊢;have HL5:=zh hl5;have Ni:=zh Qv;have HB5:=zh hb5;have cnc:¬ nc=i:=(by omega);have xW:¬ nc=i+1:=(by omega);(obtain⟨G,hG⟩:∃ G,G=w.heap.size:=⟨_,rfl⟩);rw[<- hG] at Ni ⊢;have HGG:=zh hG;clear hl5 Qv hb5 hG)
   have hgl:g<w.heap.size:=HAT.out.lt
   have hgG:g≠G:=by have:=HGG.out;omega
   have hvl:vb<w.heap.size:=HNV.out.lt
   have Qw:At w5 vb 91 nw.toArray:=HNV.out.below HB5.out hvl
   have eZ:At w5 g 91 (xs++ys).toArray:=HAT.out.below HB5.out hgl
   have Yd:=zh Qw;have o8:=zh eZ
   have mn2:Nat.min 1 (m+1-i)=1:=by simp only[Nat.min_def];split<;>omega
   have MN2:=zh mn2
   clear Qw eZ mn2
   obtain⟨C5,hC5⟩:∃ C5,C5=xs.take (i*2)++zs:=⟨_,rfl⟩
   have hl5:=HL5.out
   rw[<- hC5] at Ni hl5
   have HC5:=zh hC5;clear hC5 HL5
   have HL5:=zh hl5;clear hl5
   have JH:∀ (j:Nat) (u:Value),nw[j]? = some u->w5.cell? ⟨vb,0+j,none⟩=some u:=fun j u hj=>by
    rw[Nat.zero_add,Yd.out.cell]
    simpa using hj
   have Qx:=zh JH
   clear JH
   go_wp2_with (refine Ec rfl _ _ rfl Tryz.underlying36 Fh G (i*2) (m+1-i) (nc-i) vb 0 1 1 (by rfl) (by rfl) C5 91 Ni.out nw (by rw[hnw,MN2.out]) Qx.out (by rw[hnw,HL5.out];omega) H2.out ?_;intro w6 FQ hg6 hz6;have Lb:=zh FQ;have HG6:=zh hg6;clear FQ hg6)
   have fq:At w6 g 91 (xs++ys).toArray:=(HG6.out.block g (Nat.lt_of_lt_of_le hgl HB5.out.size) (fun e=>hgG (Option.some.inj e))).trans o8.out
   have oC:=zh fq
   have hl6:(C5.take (i*2)++(nw++C5.drop (i*2+nw.length))).length=nc*2:=by
    simp only[List.length_append,List.length_take,List.length_drop,hnw,HL5.out]
    omega
   obtain⟨C6,hC6⟩:∃ C6,C6=C5.take (i*2)++(nw++C5.drop (i*2+nw.length)):=⟨_,rfl⟩
   rw[<- hC6] at Lb hl6
   have HC6:=zh hC6;have HL6:=zh hl6
   clear fq hC6 hl6
   go_wp2_with fail
   refine Lex.zl ?_
   have mn1:Nat.min (m-i) (m-i)=m-i:=Nat.min_self _
   have hcs:(xs.drop (i*2)).length=(m-i)*2:=by rw[List.length_drop,hxl,Nat.sub_mul]
   have Qu:At w6.drew G 91 C6.toArray:=Lb.out
   have hsrc:∀ (j:Nat) (u:Value),(xs.drop (i*2))[j]? = some u->w6.drew.cell? ⟨g,i*2+j,none⟩=some u:=fun j u hj=>by
    show w6.cell? ⟨g,i*2+j,none⟩=some u
    rw[oC.out.cell]
    rw[List.getElem?_drop] at hj
    simp[List.getElem?_append_left (List.getElem?_eq_some_iff.1 hj).1,hj]
   have Yb:=zh Qu;have HCS:=zh hcs;have MN1:=zh mn1;have Yc:=zh hsrc
   clear Qu hcs mn1 hsrc
   go_wp2_with (refine Ec rfl _ _ rfl Tryz.underlying36 Fh G ((i+1)*2) (m-i) (nc-(i+1)) g (i*2) (m-i) (c-i) (by rfl) (by rfl) C6 91 Yb.out (xs.drop (i*2)) (by rw[HCS.out,MN1.out]) Yc.out (by rw[HCS.out,HL6.out];omega) (fun u hu=>H1.out u (List.mem_of_mem_drop hu)) ?_;intro w7 Lc hg7 hz7;have V5:=zh Lc;have HG7:=zh hg7;clear Lc hg7)
   refine Lex.ze ?_
   go_wp2_with fail
   go_ret
   refine⟨_,rfl,EM V5.out (by have:=HGG.out;omega) eY oz ?_ ?_,?_,.inr (by rw[HGG.out];rfl)⟩
   ·simp only[List.length_append,List.length_take,List.length_drop,HCS.out,HL6.out]
    omega
   ·have e1 : C6.take ((i + 1) * 2) = xs.take (i * 2) ++ nw :=by
     have e2:C5.take (i*2)=xs.take (i*2):=by rw[HC5.out,List.take_append_of_le_length (by rw[HXI.out];omega),List.take_of_length_le (by rw[HXI.out];omega)]
     have e3:(i+1)*2=(xs.take (i*2)).length+(nw.length+0):=by rw[HXI.out,hnw];omega
     rw[HC6.out,e2,e3,List.take_length_add_append,List.take_length_add_append,List.take_zero,List.append_nil]
    have e4:(m+1)*2=(xs.take (i*2)).length+(nw.length+((xs.drop (i*2)).length+0)):=by rw[HXI.out,hnw,HCS.out];omega
    rw[e1,List.append_assoc,e4,List.take_length_add_append,List.take_length_add_append,List.take_length_add_append,List.take_zero,List.append_nil]
   ·refine⟨?_,?_,?_,?_,fun k hk hk2=>?_⟩
    ·exact(HG7.out.os.trans HG6.out.os).trans HB5.out.os
    ·exact(HG7.out.tape.trans HG6.out.tape).trans HB5.out.tape
    ·exact(HG7.out.output.trans HG6.out.output).trans HB5.out.output
    ·exact Nat.le_trans HB5.out.size (Nat.le_trans HG6.out.size HG7.out.size)
    ·have hkG:some k≠some G:=fun e=>by have:=Option.some.inj e;have:=HGG.out;omega
     have k5:=HB5.out.block k hk
     have s5:=HB5.out.size
     exact((HG7.out.block k (by show k<w6.heap.size;have:=HG6.out.size;omega) hkG).trans (HG6.out.block k (by omega) hkG)).trans k5
theorem Es:(Tryz.prog.info? 82).map (·.size)=some 3:=by kernel_rfl
theorem Uh (base n i vb:Nat)(v:Value)(xs nw:List Value)(w:World)(ho:w.ownsRow base 82 3 v n xs)(h1:∀ u∈xs,u.oneCell' = true)(hi:i<=n)(hn:n<=3000000)(hnw:nw.length=3)(hnv:At w vb 82 nw.toArray)(h2:∀ u∈nw,u.oneCell' = true)(hvb:v.ownBlock≠some vb)(hbs:base<=w.heap.size):
 Calls Tryz.prog 66 #[v,.int .i64 i,.slice (some ⟨vb,0,none⟩) 1 1] w fun e w' => ∃ v',e=.returned v' /\ w'.ownsRow base 82 3 v' (n+1) (xs.take (i*3)++(nw++xs.drop (i*3)))/\w.grownBy w' v.ownBlock/\(v'.ownBlock=v.ownBlock\/v'.ownBlock=some w.heap.size):=by
 have hrows:BA w (.slice (some ⟨vb,0,none⟩) 1 1) 3 1 nw:=by
  refine⟨by rw[hnw],_,_,rfl,.inr ⟨vb,0,rfl,hnv.lt,fun j u hj=>?_⟩⟩
  rw[Nat.zero_add,hnv.cell]
  simpa using hj
 have HO:=zh ho;have H1:=zh h1;have H2:=zh h2;have HNV:=zh hnv;have HR:=zh hrows;have HVB:=zh hvb
 clear h1 h2 hnv hrows hvb
 go_enter Tryz.func66,Tryz.ntmps66
 obtain⟨a,m,c,rfl⟩:=Ae ho
 obtain rfl:=BU ho
 by_cases hie:i=m
 ·subst hie
  have hsl:i<=c:=by
   rcases ho.2 with ⟨h0,_⟩|⟨g,cap,cur,h0,_,_,h3,_⟩
   ·cases h0;exact Nat.le_refl _
   ·cases h0;exact h3
  have hcz:(a=none/\c=0/\i=0)\/∃ g,a=some ⟨g,0,none⟩:=by
   rcases ho.2 with ⟨h0,h5⟩|⟨g,cap,cur,h0,_⟩
   ·cases h0;exact .inl ⟨rfl,rfl,h5⟩
   ·cases h0;exact .inr ⟨g,rfl⟩
  have hxl:xs.take (i*3)=xs/\xs.drop (i*3)=[]:=by
   have:=ho.1
   exact⟨List.take_of_length_le (by omega),List.drop_eq_nil_of_le (by omega)⟩
  have HXL:=zh hxl
  clear ho hxl
  rcases hcz with ⟨rfl,rfl,rfl⟩|⟨g,rfl⟩
  ·go_wp2_with (at_builtin;go_must (refine Am Hy rfl _ _ rfl base 0 _ xs rfl HO.out (.slice (some ⟨vb,0,none⟩) 1 1) 1 nw rfl HR.out H2.out (by omega) (by omega) hbs ?_);intro v5 w5 ho5 hg5 hx5;obtain⟨va,vm,vc,rfl⟩:=Ae ho5;have HO5:=zh ho5;have HG5:=zh hg5;have HX5:=zh hx5;clear ho5 hg5 hx5)
   go_ret
   exact⟨_,rfl,by rw[HXL.out.1,HXL.out.2,List.append_nil];exact HO5.out,HG5.out,HX5.out⟩
  ·by_cases hci:c=i
   ·subst hci
    go_wp2_with (at_builtin;go_must (refine Am Hy rfl _ _ rfl base c _ xs rfl HO.out (.slice (some ⟨vb,0,none⟩) 1 1) 1 nw rfl HR.out H2.out (by omega) (by omega) hbs ?_);intro v5 w5 ho5 hg5 hx5;obtain⟨va,vm,vc,rfl⟩:=Ae ho5;have HO5:=zh ho5;have HG5:=zh hg5;have HX5:=zh hx5;clear ho5 hg5 hx5)
    go_ret
    exact⟨_,rfl,by rw[HXL.out.1,HXL.out.2,List.append_nil];exact HO5.out,HG5.out,HX5.out⟩
   ·go_wp2_with (at_builtin;go_must (refine Am Hy rfl _ _ rfl base i _ xs rfl HO.out (.slice (some ⟨vb,0,none⟩) 1 1) 1 nw rfl HR.out H2.out (by omega) (by omega) hbs ?_);intro v5 w5 ho5 hg5 hx5;obtain⟨va,vm,vc,rfl⟩:=Ae ho5;have HO5:=zh ho5;have HG5:=zh hg5;have HX5:=zh hx5;clear ho5 hg5 hx5)
    go_ret
    exact⟨_,rfl,by rw[HXL.out.1,HXL.out.2,List.append_nil];exact HO5.out,HG5.out,HX5.out⟩
 ·have him:i<m:=by omega
  obtain⟨g,rfl⟩:∃ g,a=some ⟨g,0,none⟩:=by
   rcases ho.2 with ⟨h0,h5⟩|⟨g,cap,cur,h0,_⟩
   ·omega
   ·cases h0;exact⟨g,rfl⟩
  obtain⟨ys,hat,hbg,hmc,hcm,hcl,hxl⟩:=Ko ho
  have hne:vb≠g:=fun e=>HVB.out (by rw[e];rfl)
  have HAT:=zh hat
  have de:((i:Int)==(m:Int))=false:=by rw[beq_eq_false_iff_ne];omega
  have ci:¬ c=i:=by omega
  clear ho hat
  by_cases hroom:m+1<=c
  ·have dr:decide ((c:Int)<(m:Int)+1)=false:=zf
   have hov:∀ o lb cb,(callFunc 100 #[.slice (some ⟨vb,0,none⟩) 1 1,.slice (some ⟨g,o,none⟩) lb cb]).run Tryz.prog w=.ok (.value (.bool false)) w:=fun o lb cb=>
    eU w (run_callFunc_extern Tryz.func100 (by kernel_rfl) (by kernel_rfl) (by kernel_rfl) (e:=Extern.SlicesOverlaps.overlaps #[44,44] #[4]) (by kernel_rfl) · w) Tryz.underlying44 (SC Es) vb g o 1 1 lb cb hne _ _ HNV.out HAT.out (by rw[List.size_toArray];omega)
   go_wp2_with (simp only[hov])
   refine Lex.zl ?_
   clear hov
   have mn1:Nat.min (m+1-i) (m-i)=m-i:=by simp only[Nat.min_def];split<;>omega
   have hcs:(xs.drop (i*3)).length=(m-i)*3:=by rw[List.length_drop,hxl,Nat.sub_mul]
   have Qu:At w.drew g 82 (xs++ys).toArray:=HAT.out
   have hsrc:∀ (j:Nat) (u:Value),(xs.drop (i*3))[j]? = some u->w.drew.cell? ⟨g,i*3+j,none⟩=some u:=fun j u hj=>by
    show w.cell? ⟨g,i*3+j,none⟩=some u
    rw[HAT.out.cell]
    rw[List.getElem?_drop] at hj
    simp[List.getElem?_append_left (List.getElem?_eq_some_iff.1 hj).1,hj]
   have Yb:=zh Qu;have HCS:=zh hcs;have MN1:=zh mn1;have Yc:=zh hsrc
   clear Qu hcs mn1 hsrc
   go_wp2_with (refine Ec rfl _ _ rfl Tryz.underlying44 Es g ((i+1)*3) (m-i) (c-(i+1)) g (i*3) (m+1-i) (c-i) (by rfl) (by rfl) (xs++ys) 82 Yb.out (xs.drop (i*3)) (by rw[HCS.out,MN1.out]) Yc.out (by rw[HCS.out,hcl];omega) (fun u hu=>H1.out u (List.mem_of_mem_drop hu)) ?_;intro w5 Qv hg5 hz5;have Ni:=zh Qv;have HG5:=zh hg5;clear Qv hg5)
   refine Lex.ze ?_
   have Qw:At w5 vb 82 nw.toArray:=(HG5.out.block vb HNV.out.lt (fun e=>hne (Option.some.inj e))).trans HNV.out
   have Yd:=zh Qw
   have mn2:Nat.min 1 (m+1-i)=1:=by simp only[Nat.min_def];split<;>omega
   have eX:((xs++ys).take ((i+1)*3)++(xs.drop (i*3)++(xs++ys).drop ((i+1)*3+(xs.drop (i*3)).length))).length=c*3:=by
    simp only[List.length_append,List.length_take,List.length_drop] at hcl ⊢
    omega
   have Ug:=zh eX;have MN2:=zh mn2
   clear Qw mn2 eX
   obtain⟨C5,hC5⟩:∃ C5,C5=(xs++ys).take ((i+1)*3)++(xs.drop (i*3)++(xs++ys).drop ((i+1)*3+(xs.drop (i*3)).length)):=⟨_,rfl⟩
   rw[<- hC5] at Ni Ug
   have JH:∀ (j:Nat) (u:Value),nw[j]? = some u->w5.cell? ⟨vb,0+j,none⟩=some u:=fun j u hj=>by
    rw[Nat.zero_add,Yd.out.cell]
    simpa using hj
   have HC5:=zh hC5;have Qx:=zh JH
   clear hC5 JH
   go_wp2_with (refine Ec rfl _ _ rfl Tryz.underlying44 Es g (i*3) (m+1-i) (c-i) vb 0 1 1 (by rfl) (by rfl) C5 82 Ni.out nw (by rw[hnw,MN2.out]) Qx.out (by rw[hnw,Ug.out];omega) H2.out ?_;intro w6 FQ hg6 hz6;have Lb:=zh FQ;have HG6:=zh hg6;clear FQ hg6)
   go_wp2_with fail
   go_ret
   refine⟨_,rfl,EM Lb.out hbg (by omega) hcm ?_ ?_,?_,.inl rfl⟩
   ·have:=Ug.out
    simp only[List.length_append,List.length_take,List.length_drop,hnw] at this ⊢
    omega
   ·have hl:=Ug.out
    have e1:C5.take (i*3)=xs.take (i*3):=by
     rw[HC5.out,List.take_append_of_le_length (by rw[List.length_take,hcl];omega),List.take_take,Nat.min_eq_left (by omega),List.take_append_of_le_length (by omega)]
    have e2:(C5.drop (i*3+nw.length)).take ((m-i)*3)=xs.drop (i*3):=by
     have e3:i*3+nw.length=((xs++ys).take ((i+1)*3)).length:=by rw[List.length_take,hcl,hnw];omega
     rw[HC5.out,e3,List.drop_left,List.take_append_of_le_length (by rw[HCS.out];omega),List.take_of_length_le (by rw[HCS.out];omega)]
    have e4:(m+1)*3=(C5.take (i*3)).length+(nw.length+(m-i)*3):=by rw[List.length_take,hl,hnw];omega
    rw[e4,List.take_length_add_append,List.take_length_add_append,e1,e2]
   ·exact⟨HG6.out.os.trans HG5.out.os,HG6.out.tape.trans HG5.out.tape,HG6.out.output.trans HG5.out.output,Nat.le_trans HG5.out.size HG6.out.size,fun k hk hk2=>(HG6.out.block k (Nat.lt_of_lt_of_le hk HG5.out.size) hk2).trans (HG5.out.block k hk hk2)⟩
  ·have dr:decide ((c:Int)<(m:Int)+1)=true:=zt
   have hxi:(xs.take (i*3)).length=i*3:=by rw[List.length_take,hxl];exact Nat.min_eq_left (Nat.mul_le_mul_right _ hi)
   have HXI:=zh hxi;clear hxi
   have hxs:∀ (j:Nat) (u:Value),(xs.take (i*3))[j]? = some u->w.cell? ⟨g,j,none⟩=some u:=fun j u hj=>by
    rw[HAT.out.cell]
    rw[List.getElem?_take] at hj
    split at hj
    ·simp[List.getElem?_append_left (List.getElem?_eq_some_iff.1 hj).1,hj]
    ·cases hj
   have HXS:=zh hxs;clear hxs
   go_upto_region 10 with (at_builtin;go_must (refine JF Hy Tryz.underlying3 rfl _ _ rfl g i (m+1-i) c .i64 (xs.take (i*3)) rfl _ (show _=((m+1-i:Nat):Int) by omega) rfl HXI.out HXS.out (by omega) (by omega) (by omega) (by omega) ?_);intro nc w5 zs eY oz Qv hl5 hb5;rw[show i+(m+1-i)=m+1 by omega] at eY ⊢;have HL5:=zh hl5;have Ni:=zh Qv;have HB5:=zh hb5;have cnc:¬ nc=i:=(by omega);have xW:¬ nc=i+1:=(by omega);(obtain⟨G,hG⟩:∃ G,G=w.heap.size:=⟨_,rfl⟩);rw[<- hG] at Ni ⊢;have HGG:=zh hG;clear hl5 Qv hb5 hG)
   have hgl:g<w.heap.size:=HAT.out.lt
   have hgG:g≠G:=by have:=HGG.out;omega
   have hvl:vb<w.heap.size:=HNV.out.lt
   have Qw:At w5 vb 82 nw.toArray:=HNV.out.below HB5.out hvl
   have eZ:At w5 g 82 (xs++ys).toArray:=HAT.out.below HB5.out hgl
   have Yd:=zh Qw;have o8:=zh eZ
   have mn2:Nat.min 1 (m+1-i)=1:=by simp only[Nat.min_def];split<;>omega
   have MN2:=zh mn2
   clear Qw eZ mn2
   obtain⟨C5,hC5⟩:∃ C5,C5=xs.take (i*3)++zs:=⟨_,rfl⟩
   have hl5:=HL5.out
   rw[<- hC5] at Ni hl5
   have HC5:=zh hC5;clear hC5 HL5
   have HL5:=zh hl5;clear hl5
   have JH:∀ (j:Nat) (u:Value),nw[j]? = some u->w5.cell? ⟨vb,0+j,none⟩=some u:=fun j u hj=>by
    rw[Nat.zero_add,Yd.out.cell]
    simpa using hj
   have Qx:=zh JH
   clear JH
   go_wp2_with (refine Ec rfl _ _ rfl Tryz.underlying44 Es G (i*3) (m+1-i) (nc-i) vb 0 1 1 (by rfl) (by rfl) C5 82 Ni.out nw (by rw[hnw,MN2.out]) Qx.out (by rw[hnw,HL5.out];omega) H2.out ?_;intro w6 FQ hg6 hz6;have Lb:=zh FQ;have HG6:=zh hg6;clear FQ hg6)
   have fq:At w6 g 82 (xs++ys).toArray:=(HG6.out.block g (Nat.lt_of_lt_of_le hgl HB5.out.size) (fun e=>hgG (Option.some.inj e))).trans o8.out
   have oC:=zh fq
   have hl6:(C5.take (i*3)++(nw++C5.drop (i*3+nw.length))).length=nc*3:=by
    simp only[List.length_append,List.length_take,List.length_drop,hnw,HL5.out]
    omega
   obtain⟨C6,hC6⟩:∃ C6,C6=C5.take (i*3)++(nw++C5.drop (i*3+nw.length)):=⟨_,rfl⟩
   rw[<- hC6] at Lb hl6
   have HC6:=zh hC6;have HL6:=zh hl6
   clear fq hC6 hl6
   go_wp2_with fail
   refine Lex.zl ?_
   have mn1:Nat.min (m-i) (m-i)=m-i:=Nat.min_self _
   have hcs:(xs.drop (i*3)).length=(m-i)*3:=by rw[List.length_drop,hxl,Nat.sub_mul]
   have Qu:At w6.drew G 82 C6.toArray:=Lb.out
   have hsrc:∀ (j:Nat) (u:Value),(xs.drop (i*3))[j]? = some u->w6.drew.cell? ⟨g,i*3+j,none⟩=some u:=fun j u hj=>by
    show w6.cell? ⟨g,i*3+j,none⟩=some u
    rw[oC.out.cell]
    rw[List.getElem?_drop] at hj
    simp[List.getElem?_append_left (List.getElem?_eq_some_iff.1 hj).1,hj]
   have Yb:=zh Qu;have HCS:=zh hcs;have MN1:=zh mn1;have Yc:=zh hsrc
   clear Qu hcs mn1 hsrc
   go_wp2_with (refine Ec rfl _ _ rfl Tryz.underlying44 Es G ((i+1)*3) (m-i) (nc-(i+1)) g (i*3) (m-i) (c-i) (by rfl) (by rfl) C6 82 Yb.out (xs.drop (i*3)) (by rw[HCS.out,MN1.out]) Yc.out (by rw[HCS.out,HL6.out];omega) (fun u hu=>H1.out u (List.mem_of_mem_drop hu)) ?_;intro w7 Lc hg7 hz7;have V5:=zh Lc;have HG7:=zh hg7;clear Lc hg7)
   refine Lex.ze ?_
   go_wp2_with fail
   go_ret
   refine⟨_,rfl,EM V5.out (by have:=HGG.out;omega) eY oz ?_ ?_,?_,.inr (by rw[HGG.out];rfl)⟩
   ·simp only[List.length_append,List.length_take,List.length_drop,HCS.out,HL6.out]
    omega
   ·have e1 : C6.take ((i + 1) * 3) = xs.take (i * 3) ++ nw :=by
     have e2:C5.take (i*3)=xs.take (i*3):=by rw[HC5.out,List.take_append_of_le_length (by rw[HXI.out];omega),List.take_of_length_le (by rw[HXI.out];omega)]
     have e3:(i+1)*3=(xs.take (i*3)).length+(nw.length+0):=by rw[HXI.out,hnw];omega
     rw[HC6.out,e2,e3,List.take_length_add_append,List.take_length_add_append,List.take_zero,List.append_nil]
    have e4:(m+1)*3=(xs.take (i*3)).length+(nw.length+((xs.drop (i*3)).length+0)):=by rw[HXI.out,hnw,HCS.out];omega
    rw[e1,List.append_assoc,e4,List.take_length_add_append,List.take_length_add_append,List.take_length_add_append,List.take_zero,List.append_nil]
   ·refine⟨?_,?_,?_,?_,fun k hk hk2=>?_⟩
    ·exact(HG7.out.os.trans HG6.out.os).trans HB5.out.os
    ·exact(HG7.out.tape.trans HG6.out.tape).trans HB5.out.tape
    ·exact(HG7.out.output.trans HG6.out.output).trans HB5.out.output
    ·exact Nat.le_trans HB5.out.size (Nat.le_trans HG6.out.size HG7.out.size)
    ·have hkG:some k≠some G:=fun e=>by have:=Option.some.inj e;have:=HGG.out;omega
     have k5:=HB5.out.block k hk
     have s5:=HB5.out.size
     exact((HG7.out.block k (by show k<w6.heap.size;have:=HG6.out.size;omega) hkG).trans (HG6.out.block k (by omega) hkG)).trans k5
theorem fu {css:List (List Value)}(h:∀ cs∈css,∀ u∈cs,u.oneCell' = true):∀ u∈css.flatten,u.oneCell' = true:=by
 intro u hu
 obtain⟨cs,h1,h2⟩:=List.mem_flatten.1 hu
 exact h cs h1 u h2
theorem SE {css:List (List Value)}{k:Nat}(h:∀ cs∈css,cs.length=k):∀ (i j:Nat) (hi:i<css.length),j<k->css.flatten[i*k+j]? = (css[i])[j]? :=by
 induction css with
 | nil=>intro i j hi;cases hi
 | cons c css ih =>
   intro i j hi hj
   have hc:c.length=k:=h c List.mem_cons_self
   rw[List.flatten_cons]
   cases i with
   | zero=>rw[Nat.zero_mul,Nat.zero_add,List.getElem?_append_left (by omega)];rfl
   | succ i =>
     have hi2:i<css.length:=by simpa using hi
     rw[Nat.succ_mul,List.getElem?_append_right (by omega),hc,show i*k+k+j-k=i*k+j by omega,ih (fun cs hcs=>h cs (List.mem_cons_of_mem _ hcs)) i j hi2 hj]
     rfl
namespace Own
structure DK (w:World) (g:Nat) (F:Nat->Prop) (S:List Space):Prop where
 row:∃ (cur:Array Value) (vs:Nat->Value),At w g 70 cur/\∀ i (hi:i<S.length),cur[i*3]? = some (.string S[i].pre)/\cur[i*3+1]? = some (vs i)/\cur[i*3+2]? = some (.int .i64 S[i].threshold)/\Af 2 BX F w (vs i) S[i].members
theorem DK.mono {w:World}{g:Nat}{F G:Nat->Prop}{S:List Space}(h:DK w g F S)(hF:∀ k,F k->k<w.heap.size->G k):DK w g G S:=by
 obtain⟨cur,vs,h1,h2⟩:=h.row
 exact⟨cur,vs,h1,fun i hi=>by obtain⟨a,b,c,d⟩:=h2 i hi;exact⟨a,b,c,d.mono hF⟩⟩
theorem DK.keep {w w' : World}{g:Nat}{F:Nat->Prop}{S:List Space}(h:DK w g F S)(hs:w.heap.size<=w'.heap.size)(hk:∀ k,k=g\/F k->k<w.heap.size->w'.heap[k]? = w.heap[k]?):DK w' g F S:=by
 obtain⟨cur,vs,h1,h2⟩:=h.row
 exact⟨cur,vs,h1.keep (hk g (.inl rfl) h1.lt),fun i hi=>by obtain⟨a,b,c,d⟩:=h2 i hi;exact⟨a,b,c,d.keep hs fun k hf hl=>hk k (.inr hf) hl⟩⟩
theorem DK.below {w w' : World}{g:Nat}{F:Nat->Prop}{S:List Space}(h:DK w g F S)(hb:Below w.heap.size w w'):DK w' g F S:=h.keep hb.size fun k _ hl=>hb.block k hl
theorem DK.list {w:World}{g n c:Nat}{F G:Nat->Prop}{S:List Space}(h:DK w g F S)(hg:G g)(hF:∀ k,F k->k<w.heap.size->G k)(hn:n=S.length):Af 3 CU G w (.slice (some ⟨g,0,none⟩) n c) S:=by
 obtain⟨cur,vs,h1,h2⟩:=h.row
 subst hn
 refine⟨_,c,rfl,.inr ⟨g,0,rfl,hg,h1.lt,fun i hi=>?_⟩⟩
 obtain⟨a,b,d,e⟩:=h2 i hi
 refine⟨[.string S[i].pre,vs i,.int .i64 S[i].threshold],rfl,fun j u hj=>?_,vs i,rfl,e.mono hF⟩
 rw[Nat.zero_add,h1.cell]
 match j,hj with
 | 0,hj=>rw[<- hj];exact a
 | 1,hj=>rw[<- hj];exact b
 | 2,hj=>rw[<- hj];exact d
theorem DK.set {w:World}{g k:Nat}{F:Nat->Prop}{S:List Space}(h:DK w g F S)(hF:∀ k,F k->k≠g)(hk:k<S.length)(v' : Value)(hv:Af 2 BX F w v' S[k].members):
 DK (((w.setCell ⟨g,k*3,none⟩ (.string S[k].pre)).setCell ⟨g,k*3+1,none⟩ v').setCell ⟨g,k*3+2,none⟩ (.int .i64 S[k].threshold)) g F S:=by
 obtain⟨cur,vs,h1,h2⟩:=h.row
 have keep:∀ (l:List Member) (v:Value),Af 2 BX F w v l->Af 2 BX F (((w.setCell ⟨g,k*3,none⟩ (.string S[k].pre)).setCell ⟨g,k*3+1,none⟩ v').setCell ⟨g,k*3+2,none⟩ (.int .i64 S[k].threshold)) v l:=fun l v hl=>
  hl.keep (by simp[World.setCell]) (fun j hj _=>by rw[zo (hF j hj),zo (hF j hj),zo (hF j hj)])
 refine⟨_,fun i=>if i=k then v' else vs i,((h1.set (k*3) _).set (k*3+1) _).set (k*3+2) _,fun i hi=>?_⟩
 obtain⟨a,b,d,e⟩:=h2 i hi
 by_cases hik:i=k
 ·subst hik
  have s0:=(Array.getElem?_eq_some_iff.1 a).1
  have s1:=(Array.getElem?_eq_some_iff.1 b).1
  have s2:=(Array.getElem?_eq_some_iff.1 d).1
  refine⟨?_,?_,?_,?_⟩
  ·rw[Array.getElem?_setIfInBounds_ne (by omega),Array.getElem?_setIfInBounds_ne (by omega),Array.getElem?_setIfInBounds_self_of_lt s0]
  ·show _=some (if i=i then v' else vs i)
   rw[Array.getElem?_setIfInBounds_ne (by omega),Array.getElem?_setIfInBounds_self_of_lt (by simpa using s1),if_pos rfl]
  ·rw[Array.getElem?_setIfInBounds_self_of_lt (by simpa using s2)]
  ·show Af _ _ _ _ (if i=i then v' else vs i) _
   rw[if_pos rfl];exact keep _ _ hv
 ·refine⟨?_,?_,?_,?_⟩
  ·rw[Array.getElem?_setIfInBounds_ne (by omega),Array.getElem?_setIfInBounds_ne (by omega),Array.getElem?_setIfInBounds_ne (by omega)];exact a
  ·show _=some (if i=k then v' else vs i)
   rw[Array.getElem?_setIfInBounds_ne (by omega),Array.getElem?_setIfInBounds_ne (by omega),Array.getElem?_setIfInBounds_ne (by omega),if_neg hik];exact b
  ·rw[Array.getElem?_setIfInBounds_ne (by omega),Array.getElem?_setIfInBounds_ne (by omega),Array.getElem?_setIfInBounds_ne (by omega)];exact d
  ·show Af _ _ _ _ (if i=k then v' else vs i) _
   rw[if_neg hik];exact keep _ _ e
end Own
theorem KH (F:Nat->Prop)(v:Value)(S:List Own.Space)(w:World)(h:Af 3 Own.CU F w v S)(hn:S.length<=3000000):
 Calls Tryz.prog 98 #[v] w fun e w' => ∃ a c,e=.returned (.slice a S.length c)/\(S.length=0\/∃ g,a=some ⟨g,0,none⟩/\w.heap.size<=g/\Own.DK w' g F S)/\Below w.heap.size w w':=by
 obtain⟨css,h1,h2,h3⟩:=Af.cells h
 have hc3:∀ cs∈css,cs.length=3:=fun cs hcs=>by
  obtain⟨i,hi,rfl⟩:=List.getElem_of_mem hcs
  exact(h2 i (by omega) hi).1
 have hone:∀ u∈css.flatten,u.oneCell' = true:=fu fun cs hcs u hu=>by
  obtain⟨i,hi,rfl⟩:=List.getElem_of_mem hcs
  obtain⟨_,v,hv,hm⟩:=h2 i (by omega) hi
  rw[hv] at hu
  obtain⟨a,c,rfl⟩:=hm.len
  simp at hu
  rcases hu with rfl|rfl|rfl<;>rfl
 refine(Ud v S.length css.flatten w h3 hone hn).mono ?_
 rintro e w' ⟨v',rfl,ho,hb⟩
 obtain⟨a,m,c,rfl⟩:=Ae ho
 obtain rfl:=BU ho
 refine⟨a,c,rfl,?_,hb⟩
 by_cases h0:S.length=0
 ·exact .inl h0
 ·obtain⟨g,cap,hv,_⟩:=Dm ho (by omega)
  cases hv
  obtain⟨ys,hat,hbg,_,_,_,hxl⟩:=Ko ho
  refine .inr ⟨g,rfl,hbg,⟨_,fun i=>(css.getD i []).getD 1 undef,hat,fun i hi=>?_⟩⟩
  have hi' : i<css.length:=by omega
  obtain⟨h4,v,h5,h6⟩:=h2 i hi hi'
  have hcell:∀ j,j<3->(css.flatten++ys).toArray[i*3+j]? = (css[i])[j]? :=fun j hj=>by
   have:=SE hc3 i j hi' hj
   rw[List.getElem?_toArray,List.getElem?_append_left (by rw[hxl];omega),this]
  have e1:(css.getD i []).getD 1 undef=v:=by
   have:css.getD i []=[.string S[i].pre,v,.int .i64 S[i].threshold]:=by rw[<- h5,List.getD_eq_getElem?_getD,List.getElem?_eq_getElem hi'];rfl
   rw[this]
   rfl
  refine⟨?_,?_,?_,?_⟩
  ·have:=hcell 0 (by omega);rw[h5] at this;exact this
  ·show _=some ((css.getD i []).getD 1 undef)
   rw[e1];have:=hcell 1 (by omega);rw[h5] at this;exact this
  ·have:=hcell 2 (by omega);rw[h5] at this;exact this
  ·show Af _ _ _ _ ((css.getD i []).getD 1 undef) _
   rw[e1];exact h6.below hb
structure ko (X:Nat->Prop) (w:World) (o:Own.Ap) (sv kv:Value) (w' : World):Prop where
 ex:∃ B,w.heap.size<=B/\B<=w'.heap.size/\Af 3 Own.CU (fun k=>k<B/\¬ X k) w' sv o.spaces/\w'.ownsRow B 91 2 kv o.keys.length (o.keys.flatMap Own.E5)
 bel:Below w.heap.size w w'
theorem Ui (X:Nat->Prop)(o:Own.Ap)(sv kv:Value)(w:World)(hX:∀ k,X k->k<w.heap.size)(hS:Af 3 Own.CU (fun k=>¬ X k) w sv o.spaces)(hK:Own.Ca w kv o.keys)(hls:o.spaces.length<=3000000)(hlk:o.keys.length<=3000000)(hlm:∀ s∈o.spaces,s.members.length<=3000000):
 Calls Tryz.prog 151 #[.agg #[.int .i64 o.count,sv,kv]] w fun e w' => ∃ sv' kv',e=.returned (.agg #[.int .i64 o.count,sv',kv'])/\ko X w o sv' kv' w':=by
 obtain⟨sa,sc,rfl⟩:=hS.len
 obtain⟨ka,kc,rfl⟩:=hK.len
 have ha1:=(At.new w 38 #[.int .i64 o.count,.slice sa o.spaces.length sc,.slice ka o.keys.length kc]).alloc (.cells #[.int .i64 0,.slice none 0 0,.slice none 0 0] 38)
 have ha2:=At.new1 w (.cells #[.int .i64 o.count,.slice sa o.spaces.length sc,.slice ka o.keys.length kc] 38) 38 #[.int .i64 0,.slice none 0 0,.slice none 0 0]
 have hb1:Below w.heap.size w ((w.alloc (.cells #[.int .i64 o.count,.slice sa o.spaces.length sc,.slice ka o.keys.length kc] 38)).alloc (.cells #[.int .i64 0,.slice none 0 0,.slice none 0 0] 38)):=zb.alloc (by simp) _
 have hz1:((w.alloc (.cells #[.int .i64 o.count,.slice sa o.spaces.length sc,.slice ka o.keys.length kc] 38)).alloc (.cells #[.int .i64 0,.slice none 0 0,.slice none 0 0] 38)).heap.size=w.heap.size+2:=by simp
 have hs1:=(hS.mono (G:=fun k=>k<w.heap.size/\¬ X k) (fun k hx hk=>⟨hk,hx⟩)).below hb1;have hk1:=(hK.mono (G:=fun k=>k<w.heap.size) (fun k _ hk=>hk)).below hb1
 have c1:=ha1.cell 1
 simp only[zg] at c1
 have HS:=zh hs1;have HK:=zh hk1;have HA1:=zh ha1;have HA2:=zh ha2;have HB1:=zh hb1;have HLM:=zh hlm
 clear hS hK hs1 hk1 ha1 ha2 hb1 hlm
 go_enter Tryz.func151,Tryz.ntmps151
 go_wp2_with fail
 generalize (w.alloc (.cells #[.int .i64 o.count,.slice sa o.spaces.length sc,.slice ka o.keys.length kc] 38)).alloc (.cells #[.int .i64 0,.slice none 0 0,.slice none 0 0] 38)=w1 at*
 refine(KH _ _ o.spaces w1 HS.out hls).mono ?_
 rintro e w2 ⟨a,c,rfl,hsp,hb2⟩
 have A1:=zh (HA1.out.below hb2 (by omega));have A2:=zh (HA2.out.below hb2 (by omega));have B2:=zh (HB1.out.trans (hb2.mono HB1.out.size));have HK2:=zh (HK.out.below hb2)
 have hz2:=hb2.size
 have HSP:=zh hsp
 have z1:=A1.out.free 1;have y1:=A1.out.cell 1
 simp only[zg] at y1
 clear hb2 hsp HA1 HA2 HB1 HK HS c1
 go_upto_region 2 with fail
 have ZO:=A1.out.set 1 (.slice a o.spaces.length c)
 have oD:At (w2.setCell ⟨w.heap.size,1,none⟩ (.slice a o.spaces.length c)) w.heap.size 38 #[.int .i64 o.count,.slice a o.spaces.length c,.slice ka o.keys.length kc]:=ZO
 have sN:=A2.out.far (p:=⟨w.heap.size,1,none⟩) (by simp) (.slice a o.spaces.length c)
 have hb4:=B2.out.setCell (p:=⟨w.heap.size,1,none⟩) (Nat.le_refl _) (.slice a o.spaces.length c)
 have hz4:(w2.setCell ⟨w.heap.size,1,none⟩ (.slice a o.spaces.length c)).heap.size=w2.heap.size:=by simp[World.setCell]
 have hk4:=HK2.out.keep (w':=w2.setCell ⟨w.heap.size,1,none⟩ (.slice a o.spaces.length c)) (by simp[World.setCell]) (fun k hk _=>zo (by show k≠w.heap.size;omega))
 have sO:o.spaces.length=0\/∃ g,a=some ⟨g,0,none⟩/\w1.heap.size<=g/\Own.DK (w2.setCell ⟨w.heap.size,1,none⟩ (.slice a o.spaces.length c)) g (fun k=>k≠g/\k≠w.heap.size/\k≠w.heap.size+1/\¬ X k) o.spaces:=by
  rcases HSP.out with h0|⟨g,h1,h2,h3⟩
  ·exact .inl h0
  ·refine .inr ⟨g,h1,h2,?_⟩
   refine(h3.keep (by simp[World.setCell]) (fun k hk _=>zo (by show k≠w.heap.size;rcases hk with rfl|hk<;>omega))).mono (fun k hk _=>⟨by omega,by omega,by omega,hk.2⟩)
 have A4:=zh oD;have R4:=zh sN;have B4:=zh hb4;have HK4:=zh hk4;have xX:=zh sO
 have c1:=oD.cell 1
 simp only[zg] at c1
 clear ZO oD sN hb4 hk4 sO HSP HK2 A1 A2 B2 z1 y1
 generalize w2.setCell ⟨w.heap.size,1,none⟩ (.slice a o.spaces.length c)=w4 at*
 go_wp2_with fail
 go_loopw [11] (fun i wr=>∃ k:Nat,k<=o.spaces.length/\i=.int .i64 k/\(o.spaces.length=0\/∃ g,a=some ⟨g,0,none⟩/\w1.heap.size<=g/\g<w4.heap.size/\Own.DK wr g (fun k=>k≠g/\k≠w.heap.size/\k≠w.heap.size+1/\¬ X k) o.spaces)/\Fr (fun k=>w1.heap.size<=k/\a=some ⟨k,0,none⟩) w4 wr) (fun i _=>o.spaces.length-(intOf i).toNat)
 case atStart=>
  refine⟨0,by omega,rfl,?_,Fr.refl _ _⟩
  rcases xX.out with h0|⟨g,h1,h2,h3⟩
  ·exact .inl h0
  ·obtain⟨cur,vs,h4,_⟩:=h3.row
   exact .inr ⟨g,h1,h2,h4.lt,h3⟩
 case round=>
  obtain⟨k,hk,rfl,hrow,hfr⟩:=hrel
  have Uj:=hfr.at A4.out (fun h=>by omega)
  have fA:=hfr.at R4.out (fun h=>by omega)
  have jH:=zh hrow;have HFR:=zh hfr;have AR:=zh Uj;have RR:=zh fA
  have c1:=Uj.cell 1
  simp only[zg] at c1
  have hfz:=hfr.size
  have hbl:=Uj.lt
  clear Uj fA
  by_cases hlt:k<o.spaces.length
  ·have dk:decide ((k:Int)<o.spaces.length)=true:=zt
   obtain⟨g,rfl,hg1,hg2,hsr⟩:=hrow.resolve_left (by omega)
   obtain⟨cur,vs,q1,q2⟩:=hsr.row
   obtain⟨e0,e1,e2,e3⟩:=q2 k hlt
   have f0:=q1.cell (k*3);have f1:=q1.cell (k*3+1);have f2:=q1.cell (k*3+2)
   have z0:=q1.free (k*3);have z1:=q1.free (k*3+1);have z2:=q1.free (k*3+2)
   rw[e0] at f0
   rw[e1] at f1
   rw[e2] at f2
   have hlm:=HLM.out o.spaces[k] (List.getElem_mem hlt)
   obtain⟨ma,mc,hvk⟩:=e3.len
   rw[hvk] at e3 f1
   have Q1:=zh q1;have HSR:=zh hsr
   have hcp:=GJ o.spaces[k].pre o.spaces[k].threshold _ o.spaces[k].members wr.drew ((e3.below ((Below.refl _ _).drew)).mono (fun _ _ _=>trivial)) hlm
   have HCP:=zh hcp
   obtain⟨pre,hpre⟩:∃ x,x=o.spaces[k].pre:=⟨_,rfl⟩
   obtain⟨th,hth⟩:∃ x,x=o.spaces[k].threshold:=⟨_,rfl⟩
   rw[<- hpre] at f0 HCP
   rw[<- hth] at f2 HCP
   have Ue:=zh hpre;have HTH:=zh hth
   have hgl:g<wr.heap.size:=q1.lt
   clear hrow q1 q2 e0 e1 e2 e3 hvk hlm hcp hsr hpre hth
   go_wp2_with fail
   refine Lex.zn (fun j=>j=w.heap.size) [1] 9 [9] ?_
   simp only[Lex.Bg,zd]
   go_wp2_with fail
   refine HCP.out.mono ?_
   rintro e w5 ⟨v',rfl,hov,hb5⟩
   have Gp : Below wr.heap.size wr w5:=(Below.refl wr.heap.size wr).drew.trans hb5
   have hne:v'.ownBlock≠some g:=fun e=>by have:=Bo hov g e;have:wr.heap.size<=g:=this;omega
   have hup:=Bo hov
   obtain⟨va,vm,vc,rfl⟩:=Ae hov
   have y0:=(Gp.cell (p:=⟨g,k*3,none⟩) hgl).trans f0;have y1:=(Gp.cell (p:=⟨g,k*3+1,none⟩) hgl).trans f1;have y2:=(Gp.cell (p:=⟨g,k*3+2,none⟩) hgl).trans f2
   have q5:=Q1.out.below Gp hgl
   have x0:=q5.free (k*3);have x1:=q5.free (k*3+1);have x2:=q5.free (k*3+2)
   have c5:=(Gp.cell (p:=⟨w.heap.size,1,none⟩) hbl).trans c1
   have HB5:=zh Gp;have HOV:=zh hov;have HUP:=zh hup
   clear hb5 Gp hov hup q5 f0 f1 f2 z0 z1 z2 Q1
   go_wp2_with fail
   refine Lex.Mid.intro (fun j hj _=>by rw[hj];exact HB5.out.block _ hbl) ?_
   go_wp2_with fail
   refine Lex.zk ⟨⟨rfl,zi c1⟩,trivial⟩ ?_
   go_wp2_with fail
   go_round
   case measure=>simp[intOf];omega
   case rel=>
    have hm5:Af 2 Own.BX (fun k=>k≠g/\k≠w.heap.size/\k≠w.heap.size+1/\¬ X k) w5 (.slice va vm vc) o.spaces[k].members:=
     DF (enc:=Own.Lg) (fun _=>rfl) (fun _=>rfl) (BA.own HOV.out) rfl (fun j hj=>by have:wr.heap.size<=j:=HUP.out j hj;exact⟨by omega,by omega,by omega,fun hx=>by have:=hX j hx;omega⟩)
    have hs5:=(HSR.out.below HB5.out).set (fun k hk=>hk.1) hlt _ hm5
    rw[<- Ue.out,<- HTH.out] at hs5
    refine⟨k+1,by omega,by go_num,.inr ⟨g,rfl,hg1,hg2,hs5⟩,?_⟩
    have f5:Fr (fun k=>w1.heap.size<=k/\(some ⟨g,0,none⟩:Option Addr)=some ⟨k,0,none⟩) w4 w5:=HFR.out.trans (Fr.of_below HB5.out) (fun _ h=>.inl h)
    exact((f5.setCell (p:=⟨g,k*3,none⟩) (.inl ⟨hg1,rfl⟩) _).setCell (p:=⟨g,k*3+1,none⟩) (.inl ⟨hg1,rfl⟩) _).setCell (p:=⟨g,k*3+2,none⟩) (.inl ⟨hg1,rfl⟩) _
  ·have dk:decide ((k:Int)<o.spaces.length)=false:=zf
   have hsl:Af 3 Own.CU (fun k=>k<wr.heap.size/\k≠w.heap.size/\k≠w.heap.size+1/\¬ X k) wr (.slice a o.spaces.length c) o.spaces:=by
    rcases hrow with h0|⟨g,rfl,hg1,hg2,hsr⟩
    ·have:o.spaces=[]:=List.eq_nil_of_length_eq_zero h0
     rw[this]
     exact Af.nil _ _
    ·obtain⟨cur,vs,q1,_⟩:=hsr.row
     exact hsr.list ⟨q1.lt,by omega,by omega,fun hx=>by have:=hX g hx;omega⟩ (fun k hk hl=>⟨hl,hk.2.1,hk.2.2.1,hk.2.2.2⟩) rfl
   have hkr:=HK4.out.fr hfr (fun k hk h=>by omega)
   have hkm:=Own.Ca.rows (hkr.mono (G:=Own.VD) (fun _ _ _=>trivial))
   have c2:=AR.out.cell 2
   simp only[zg] at c2
   have HSL:=zh hsl;have HKM:=zh hkm
   clear hrow hsl hkr hkm hfr
   go_wp2_with fail
   refine(XU _ o.keys.length _ wr HKM.out (Own.mG _) hlk).mono ?_
   rintro e w5 ⟨v',rfl,hov,hb5⟩
   have hup:=Bo hov
   obtain⟨va,vm,vc,rfl⟩:=Ae hov
   have q5:=AR.out.below hb5 hbl
   have r5:=RR.out.below hb5 RR.out.lt
   have x0:=q5.cell 0;have x1:=q5.cell 1;have x2:=q5.cell 2;have x3:=q5.free 2
   have y0:=r5.cell 0;have y1:=r5.cell 1;have y2:=r5.cell 2;have y3:=r5.free 0;have y4:=r5.free 1;have y5:=r5.free 2
   simp only[zg] at x0 x1 x2 y0 y1 y2
   have HB5:=zh hb5;have HOV:=zh hov;have HUP:=zh hup;have R5:=zh r5
   clear hb5 hov hup q5 r5 c1 c2
   go_wp2_with fail
   have F2:=(((R5.out.far (p:=⟨w.heap.size,2,none⟩) (by simp) (.slice va vm vc)).set 0 (.int .i64 o.count)).set 1 (.slice a o.spaces.length c)).set 2 (.slice va vm vc)
   have far:∀ k,k≠w.heap.size->k≠w.heap.size+1->((((w5.setCell ⟨w.heap.size,2,none⟩ (.slice va vm vc)).setCell ⟨w.heap.size+1,0,none⟩ (.int .i64 o.count)).setCell ⟨w.heap.size+1,1,none⟩ (.slice a o.spaces.length c)).setCell ⟨w.heap.size+1,2,none⟩ (.slice va vm vc)).heap[k]? = w5.heap[k]? :=fun k h1 h2=>by
    rw[zo h2,zo h2,zo h2,zo h1]
   have hrz:w.heap.size+1<wr.heap.size:=RR.out.lt
   refine Gn rfl rfl (Ad F2 Tryz.underlying38 rfl Av) ⟨_,_,rfl,⟨wr.heap.size,by omega,by simpa [World.setCell] using HB5.out.size,?_,?_⟩,?_⟩
   ·refine Af.mono (F:=fun k=>k<wr.heap.size/\k≠w.heap.size/\k≠w.heap.size+1/\¬ X k) ?_ (fun k hk _=>⟨hk.1,hk.2.2.2⟩)
    exact(HSL.out.below HB5.out).keep (by simp[World.setCell]) (fun k hk _=>far k hk.2.1 hk.2.2.1)
   ·exact AA HOV.out (fun k hk=>far k (by have:=HUP.out k hk;omega) (by have:=HUP.out k hk;omega))
   ·have Ml:Below w.heap.size w w5:=(B4.out.trans (HFR.out.below (B:=w.heap.size) (by omega) (fun k hk=>by omega))).trans (HB5.out.mono (by omega))
    exact(((Ml.setCell (p:=⟨w.heap.size,2,none⟩) (Nat.le_refl _) _).setCell (p:=⟨w.heap.size+1,0,none⟩) (by simp) _).setCell (p:=⟨w.heap.size+1,1,none⟩) (by simp) _).setCell (p:=⟨w.heap.size+1,2,none⟩) (by simp) _
theorem aH (cnt:Int)(sv kv:Value)(l:List Own.KeyUse)(p:ByteArray)(w:World)(h:Own.Ca w kv l)(hs:Own.Srt Own.KeyUse.pub l)(hl:l.length<=1000000):
 Calls Tryz.prog 154 #[.agg #[.int .i64 cnt,sv,kv],.string p] w fun e w' => e=.returned (.tuple #[.int .i64 (Own.posB Own.KeyUse.pub p l:Nat),.bool (Own.Dt Own.KeyUse.pub p l)])/\Below w.heap.size w w':=by
 obtain⟨ka,kc,rfl⟩:=h.len
 have hb1:Below w.heap.size w (w.alloc (.cells #[.int .i64 cnt,sv,.slice ka l.length kc] 38)):=zb
 have hbs:=XZ _ l p _ (h.below hb1) hs hl
 have HB:=zh hb1;have HBS:=zh hbs
 obtain⟨q,hq⟩:∃ q:Nat,q=Own.posB Own.KeyUse.pub p l:=⟨_,rfl⟩
 obtain⟨r,hr⟩:∃ r,r=Own.Dt Own.KeyUse.pub p l:=⟨_,rfl⟩
 rw[<- hq,<- hr] at HBS ⊢
 clear hb1 hbs h hs hq hr
 go_enter Tryz.func154,Tryz.ntmps154
 go_wp2_with fail
 refine HBS.out.mono ?_
 rintro e w2 ⟨rfl,hb2⟩
 have HB2:=zh (HB.out.trans (hb2.mono HB.out.size));clear hb2
 go_wp2_with fail
 go_ret2
 exact⟨rfl,HB2.out⟩
namespace Own
theorem aI {p m:ByteArray}{s:Sig.T}(h:Sig.verify p m s=true):0<=s.index/\s.index<64:=by
 unfold Sig.verify Sig.BJ at h
 simp only[Bool.and_eq_true,decide_eq_true_eq] at h
 obtain⟨⟨⟨⟨⟨⟨_,h1⟩,h2⟩,h3⟩,_⟩,_⟩,_⟩:=h
 refine⟨h2,Int.lt_of_lt_of_le h3 ?_⟩
 have:(2:Nat)^(p.get! 32).toNat<=2^6:=Nat.pow_le_pow_right (by omega) h1
 have e:((2:Int)^(p.get! 32).toNat)=((2^(p.get! 32).toNat:Nat):Int):=(Int.natCast_pow 2 _).symm
 rw[e]
 omega
def SF (w:World)(v:Value)(l:List Ce):Prop:=∃ a c,v=.slice a l.length c/\∀ i (hi:i<l.length),∃ b o cv pv,a=some ⟨b,o,none⟩/\b<w.heap.size/\w.cell? ⟨b,o+i*4,none⟩=some (.string l[i].name)/\w.cell? ⟨b,o+i*4+1,none⟩=some (.int .i64 l[i].sig.index)/\
 w.cell? ⟨b,o+i*4+2,none⟩=some cv/\w.cell? ⟨b,o+i*4+3,none⟩=some pv/\AO w cv l[i].sig.chains/\AO w pv l[i].sig.path/\EY pv
theorem SF.below {w w' : World}{v:Value}{l:List Ce}(h:SF w v l)(hb:Below w.heap.size w w'):SF w' v l:=by
 obtain⟨a,c,rfl,h⟩:=h
 refine⟨a,c,rfl,fun i hi=>?_⟩
 obtain⟨b,o,cv,pv,h1,h2,h3,h4,h5,h6,h7,h8,h9⟩:=h i hi
 exact⟨b,o,cv,pv,h1,Nat.lt_of_lt_of_le h2 hb.size,(hb.cell (p:=⟨b,_,none⟩) h2).trans h3,(hb.cell (p:=⟨b,_,none⟩) h2).trans h4,(hb.cell (p:=⟨b,_,none⟩) h2).trans h5,(hb.cell (p:=⟨b,_,none⟩) h2).trans h6,h7.below hb,h8.below hb,h9⟩
def DW (l:List ByteArray):ByteArray->Option Value:=fun p=>if l.any (fun x=>decide (x=p)) then some (.bool true) else none
theorem Uk (l:List ByteArray)(n:ByteArray):DW (n::l)=VG (DW l) n (.bool true):=by
 funext p
 unfold DW VG
 rw[List.any_cons]
 by_cases h:n=p
 ·simp[h]
 ·rw[decide_eq_false h,Bool.false_or,if_neg h]
def nobody:Value:=.agg #[.int .i64 0,.slice none 0 0,.slice none 0 0]
end Own
theorem Qy:∀ (K:List Own.KeyUse) (p:Nat) (h:p<K.length) (v:Int),(K.flatMap Own.E5).set (p*2+1) (.int .i64 v)=(K.set p ⟨K[p].pub,v⟩).flatMap Own.E5
 | [],p,h,_=>by cases h
 | x :: K,0,_,v => by
   rw[List.flatMap_cons,List.set_cons_zero,List.flatMap_cons]
   rfl
 | x :: K,p + 1,h,v => by
   have ih:=Qy K p (by simpa using h) v
   rw[List.flatMap_cons,List.set_cons_succ,List.flatMap_cons,show(p+1)*2+1=(p*2+1)+1+1 by omega]
   show Value.string x.pub::Value.int .i64 x.next::(K.flatMap Own.E5).set (p*2+1) _=_
   rw[ih]
   rfl
theorem VP (K:List Own.KeyUse)(p:Nat)(h:p<K.length):(K.flatMap Own.E5)[p*2+1]? = some (.int .i64 K[p].next):=by
 have e:K.flatMap Own.E5=(K.map Own.E5).flatten:=List.flatMap_def
 rw[e,SE (k:=2) (fun cs hcs=>by obtain⟨x,_,rfl⟩:=List.mem_map.1 hcs;rfl) p 1 (by simpa using h) (by omega),List.getElem_map]
 rfl
namespace Own
theorem R7 (K:List KeyUse):(K.flatMap E5).length=K.length*2:=by
 induction K with
 | nil=>rfl
 | cons x K ih=>rw[List.flatMap_cons,List.length_append,ih,List.length_cons];show 2+_=_;omega
structure Placed (Kc K1:List KeyUse) (p:ByteArray):Prop where
 at_:∃ h:posB KeyUse.pub p Kc<K1.length,K1[posB KeyUse.pub p Kc].pub=p/\K1[posB KeyUse.pub p Kc].next=Bc Kc p
 use:∀ x,use Kc ⟨p,x⟩=K1.set (posB KeyUse.pub p Kc) ⟨p,x⟩
 len:K1.length<=Kc.length+1
theorem Ye {Kc:List KeyUse}{p:ByteArray}(hs:Srt KeyUse.pub Kc)(h:Dt KeyUse.pub p Kc=true):Placed Kc Kc p:=by
 have hn:=Lh p hs
 rw[h,if_pos rfl] at hn
 have hh:=h
 unfold Dt at h
 cases hg:Kc[posB KeyUse.pub p Kc]? with
 | none=>rw[hg] at h;cases h
 | some k =>
   rw[hg] at h hn
   obtain⟨hl,he⟩:=List.getElem?_eq_some_iff.1 hg
   refine⟨⟨hl,?_,?_⟩,fun x=>?_,by omega⟩
   ·rw[he];exact of_decide_eq_true h
   ·rw[he,hn]
   ·rw[I5,Mk]
    show Kc.take (posB KeyUse.pub p Kc)++_::Kc.drop (posB KeyUse.pub p Kc+if Dt KeyUse.pub p Kc=true then 1 else 0)=_
    rw[hh,if_pos rfl,List.set_eq_take_append_cons_drop,if_pos hl]
theorem VQ {Kc:List KeyUse}{p:ByteArray}(hs:Srt KeyUse.pub Kc)(h:Dt KeyUse.pub p Kc=false):Placed Kc (Kc.take (posB KeyUse.pub p Kc)++(⟨p,0⟩::Kc.drop (posB KeyUse.pub p Kc))) p:=by
 have hn:=Lh p hs
 rw[h,if_neg (by simp)] at hn
 have hle:=Mj (f:=KeyUse.pub) p Kc
 have hl:(Kc.take (posB KeyUse.pub p Kc)).length=posB KeyUse.pub p Kc:=by rw[List.length_take];omega
 have hg:(Kc.take (posB KeyUse.pub p Kc)++(⟨p,0⟩::Kc.drop (posB KeyUse.pub p Kc)))[posB KeyUse.pub p Kc]? = some ⟨p,0⟩:=by
  rw[List.getElem?_append_right (by omega),hl,Nat.sub_self]
  rfl
 obtain⟨hlt,he⟩:=List.getElem?_eq_some_iff.1 hg
 refine⟨⟨hlt,by rw[he],by rw[he,hn]⟩,fun x=>?_,by simp;omega⟩
 rw[I5,Mk]
 show Kc.take (posB KeyUse.pub p Kc)++_::Kc.drop (posB KeyUse.pub p Kc+if Dt KeyUse.pub p Kc=true then 1 else 0)=_
 rw[h,if_neg (by simp),Nat.add_zero,List.set_append_right _ _ (by omega),hl,Nat.sub_self]
 rfl
end Own
def YU (X:Nat->Prop)(w:World)(o:Own.Ap)(n th:Int)(R:Except Int (List Own.KeyUse))(e:Ending)(w' : World):Prop:=
 (match R with
   | .error c=>e=.returned (.tuple #[Own.nobody,.int .i64 c])
   | .ok K=>if n<th then e=.returned (.tuple #[Own.nobody,.int .i64 20]) else ∃ sv kv,e=.returned (.tuple #[.agg #[.int .i64 o.count,sv,kv],.int .i64 0])/\Af 3 Own.CU (fun k=>¬ X k) w' sv o.spaces/\Af 2 Own.Qk (fun k=>¬ X k) w' kv K)/\Below w.heap.size w w'
theorem RA (X:Nat->Prop)(o:Own.Ap)(s:Own.Space)(msg:ByteArray)(l:List Own.Ce)(sv kv mv lv:Value)(w:World)(hX:∀ k,X k->k<w.heap.size)(hS:Af 3 Own.CU (fun k=>¬ X k) w sv o.spaces)(hK:Own.Ca w kv o.keys)(hm:Own.AY w mv s.members)(hA:Own.SF w lv l)
 (hsrt:Own.Srt Own.KeyUse.pub o.keys) (hls:o.spaces.length<=3000000) (hlk:o.keys.length+l.length<=900000) (hlm:∀ s∈o.spaces,s.members.length<=3000000) (hml:s.members.length<=3000000) (Ma:msg.size<=9223372036854775000)
 (hal:∀ a∈l,a.name.size<=140737488355328/\a.sig.chains.length<=140737488355328/\a.sig.path.length<=140737488355328):
 Calls Tryz.prog 129 #[.agg #[.int .i64 o.count,sv,kv],.agg #[.string s.pre,mv,.int .i64 s.threshold],.string msg,lv] w (YU X w o l.length s.threshold (Own.BS s msg [] o.keys l)):=by
 obtain⟨R,hR⟩:∃ R,R=Own.BS s msg [] o.keys l:=⟨_,rfl⟩
 obtain⟨Q,hQ⟩:∃ Q,Q=YU X w o l.length s.threshold R:=⟨_,rfl⟩
 rw[<- hR,<- hQ]
 have HQ:=zh hQ;have HR:=zh hR;clear hQ hR
 obtain⟨sa,sc,rfl⟩:=hS.len
 obtain⟨ka,kc,rfl⟩:=hK.len
 obtain⟨ma,mc,rfl⟩:=hm.len
 obtain⟨la,lc,rfl,hap⟩:=id hA
 clear hap
 have hb1:Below w.heap.size w (((w.alloc (.cells #[.int .i64 o.count,.slice sa o.spaces.length sc,.slice ka o.keys.length kc] 38)).alloc (.cells #[.string s.pre,.slice ma s.members.length mc,.int .i64 s.threshold] 70)).alloc (.cells #[.int .i64 0,.slice none 0 0,.slice none 0 0] 38)):=(zb.alloc (by simp) _).alloc (by simp;omega) _
 have hz1:(((w.alloc (.cells #[.int .i64 o.count,.slice sa o.spaces.length sc,.slice ka o.keys.length kc] 38)).alloc (.cells #[.string s.pre,.slice ma s.members.length mc,.int .i64 s.threshold] 70)).alloc (.cells #[.int .i64 0,.slice none 0 0,.slice none 0 0] 38)).heap.size=w.heap.size+3:=by simp
 have ha0:=((At.new w 38 #[.int .i64 o.count,.slice sa o.spaces.length sc,.slice ka o.keys.length kc]).alloc (.cells #[.string s.pre,.slice ma s.members.length mc,.int .i64 s.threshold] 70)).alloc (.cells #[.int .i64 0,.slice none 0 0,.slice none 0 0] 38)
 have ha1:=(At.new1 w (.cells #[.int .i64 o.count,.slice sa o.spaces.length sc,.slice ka o.keys.length kc] 38) 70 #[.string s.pre,.slice ma s.members.length mc,.int .i64 s.threshold]).alloc (.cells #[.int .i64 0,.slice none 0 0,.slice none 0 0] 38)
 have ha2:=At.new ((w.alloc (.cells #[.int .i64 o.count,.slice sa o.spaces.length sc,.slice ka o.keys.length kc] 38)).alloc (.cells #[.string s.pre,.slice ma s.members.length mc,.int .i64 s.threshold] 70)) 38 #[.int .i64 0,.slice none 0 0,.slice none 0 0]
 rw[World.size_alloc,World.size_alloc] at ha2
 have hs1:=(hS.mono (G:=fun k=>¬ (X k\/(w.heap.size<=k/\k<w.heap.size+3))) (fun k hx hk h=>h.elim hx (fun h=>by omega))).below hb1;have hk1:=hK.below hb1
 obtain⟨c0,c1,c2⟩:=ha0.c3
 have HS:=zh hs1;have HK:=zh hk1;have HM:=zh hm;have HA:=zh hA;have A0:=zh ha0;have A1:=zh ha1;have A2:=zh ha2;have B1:=zh hb1;have HLM:=zh hlm;have HAL:=zh hal;have oF:=zh hsrt
 clear hS hK hm hA hs1 hk1 ha0 ha1 ha2 hb1 hlm hal hsrt
 go_enter Tryz.func129,Tryz.ntmps129
 go_wp2_with fail
 generalize ((w.alloc (.cells #[.int .i64 o.count,.slice sa o.spaces.length sc,.slice ka o.keys.length kc] 38)).alloc (.cells #[.string s.pre,.slice ma s.members.length mc,.int .i64 s.threshold] 70)).alloc (.cells #[.int .i64 0,.slice none 0 0,.slice none 0 0] 38)=w1 at*
 refine(Ui (fun k=>X k\/(w.heap.size<=k/\k<w.heap.size+3)) o _ _ w1 (fun k hk=>by rcases hk with hk|hk;have:=hX k hk;omega;omega) HS.out HK.out hls (by omega) HLM.out).mono ?_
 rintro e w2 ⟨sv',kv',rfl,⟨B,hB1,hB2,hsp,hkr⟩,hb2⟩
 obtain⟨sa',ss',xY⟩:=hsp.len
 subst xY
 obtain⟨ka',km',kc',rfl⟩:=Ae hkr
 obtain rfl:=BU hkr
 have a1:=A1.out.below hb2 (by omega);have a2:=A2.out.below hb2 (by omega)
 have hbw2:=B1.out.trans (hb2.mono B1.out.size)
 have hz2:=hb2.size
 have A12:=zh a1;have A22:=zh a2;have BW2:=zh hbw2;have HSP:=zh hsp;have HKR:=zh hkr
 clear hb2 a1 a2 hbw2 hsp hkr HS HK A0 A1 A2 B1 HLM c0 c1 c2
 have hmm :=@run_makeMap Tryz.prog
 go_wp2_with fail
 clear hmm
 obtain⟨OB,hOB⟩:∃ OB,OB=w2.heap.size:=⟨_,rfl⟩
 have dO:At ((w2.alloc (.cells #[.int .i64 o.count,.slice sa' o.spaces.length ss',.slice ka' o.keys.length kc'] 38)).alloc (.map #[] 0)) OB 38 #[.int .i64 o.count,.slice sa' o.spaces.length ss',.slice ka' o.keys.length kc']:=by rw[hOB];exact(At.new _ _ _).alloc _
 have sP:Fy ((w2.alloc (.cells #[.int .i64 o.count,.slice sa' o.spaces.length ss',.slice ka' o.keys.length kc'] 38)).alloc (.map #[] 0)) (OB+1) 0 (Own.DW []):=by
  have h:=Fy.made (w2.alloc (.cells #[.int .i64 o.count,.slice sa' o.spaces.length ss',.slice ka' o.keys.length kc'] 38))
  rw[World.size_alloc,<- hOB] at h
  exact h
 have hb3:Below B w2 ((w2.alloc (.cells #[.int .i64 o.count,.slice sa' o.spaces.length ss',.slice ka' o.keys.length kc'] 38)).alloc (.map #[] 0)):=((Below.refl B w2).alloc hB2 _).alloc (by simp;omega) _
 have sQ:=own_below HKR.out ((((Below.refl w2.heap.size w2).alloc (Nat.le_refl _) (.cells #[.int .i64 o.count,.slice sa' o.spaces.length ss',.slice ka' o.keys.length kc'] 38)).alloc (by simp) (.map #[] 0)))
 have xZ:=zh dO;have yg:=zh sP;have HB3:=zh hb3;have yh:=zh sQ
 have yj:B<=OB:=by omega
 have hBw:w.heap.size+3<=B:=by omega
 rw[<- hOB]
 clear dO sP hb3 sQ HKR hOB
 generalize (w2.alloc (.cells #[.int .i64 o.count,.slice sa' o.spaces.length ss',.slice ka' o.keys.length kc'] 38)).alloc (.map #[] 0)=w3 at*
 go_loopw [23] (fun i wr=>∃ k:Nat,k<=l.length/\i=.int .i64 k/\∃ (seen:List ByteArray) (Kc:List Own.KeyUse) (kvc:Value),R=Own.BS s msg seen Kc (l.drop k)/\Own.Srt Own.KeyUse.pub Kc/\Kc.length<=o.keys.length+k/\At wr OB 38 #[.int .i64 o.count,.slice sa' o.spaces.length ss',kvc]/\wr.ownsRow B 91 2 kvc Kc.length (Kc.flatMap Own.E5)/\Fy wr (OB+1) k (Own.DW seen)/\Below B w2 wr) (fun i _=>l.length-(intOf i).toNat)
 case atStart=>exact⟨0,by omega,rfl,[],o.keys,_,by rw[HR.out];rfl,oF.out,by omega,xZ.out,yh.out,yg.out,HB3.out⟩
 case round=>
  obtain⟨k,hk,rfl,seen,Kc,kvc,hR,hsr,hkl,hat,hown,hsm,hb⟩:=hrel
  have HRR:=zh hR;have HSR:=zh hsr;have HAT:=zh hat;have HOWN:=zh hown;have HSM:=zh hsm;have HB:=zh hb
  have hbs:=hb.size
  have yt:OB<wr.heap.size:=hat.lt
  have yu:OB+1<wr.heap.size:=hsm.lt
  have TWR:=zh (A22.out.below hb (by omega))
  have SWR:=zh (A12.out.below hb (by omega))
  have oG:=BW2.out.trans (hb.mono (by omega))
  have MWR:=zh (HM.out.below oG)
  have BWR:=zh oG
  clear hR hsr hat hown hsm hb oG
  by_cases hlt:k<l.length
  case neg=>
   have hke:k=l.length:=by omega
   have dk:decide ((k:Int)<l.length)=false:=zf
   have hR2:R=.ok Kc:=by rw[HRR.out,hke,List.drop_length];rfl
   have HR2:=zh hR2
   have s2:=SWR.out.cell 2
   have q0:=HAT.out.cell 0;have q1:=HAT.out.cell 1;have q2:=HAT.out.cell 2
   have x0:=TWR.out.cell 0;have x1:=TWR.out.cell 1;have x2:=TWR.out.cell 2;have x3:=TWR.out.free 0;have x4:=TWR.out.free 1;have x5:=TWR.out.free 2
   simp only[zg] at s2 q0 q1 q2 x0 x1 x2
   clear hR2 hke
   by_cases hth:(l.length:Int)<s.threshold
   ·have dt:decide ((l.length:Int)<s.threshold)=true:=decide_eq_true hth
    go_wp2_with fail
    have F2:=((TWR.out.set 0 (.int .i64 0)).set 1 (.slice none 0 0)).set 2 (.slice none 0 0)
    refine BN rfl rfl rfl (Ad F2 Tryz.underlying38 rfl Av) ?_
    rw[HQ.out,HR2.out]
    refine⟨?_,((BWR.out.setCell (p:=⟨w.heap.size+1+1,0,none⟩) (by show w.heap.size<=w.heap.size+1+1;omega) _).setCell (p:=⟨w.heap.size+1+1,1,none⟩) (by show w.heap.size<=w.heap.size+1+1;omega) _).setCell (p:=⟨w.heap.size+1+1,2,none⟩) (by show w.heap.size<=w.heap.size+1+1;omega) _⟩
    show if _ then _ else _
    rw[if_pos hth]
    rfl
   ·have dt:decide ((l.length:Int)<s.threshold)=false:=decide_eq_false hth
    obtain⟨va,vm,vc,rfl⟩:=Ae HOWN.out
    go_wp2_with fail
    have F2:=((TWR.out.set 0 (.int .i64 o.count)).set 1 (.slice sa' o.spaces.length ss')).set 2 (.slice va vm vc)
    refine BN rfl rfl rfl (Ad F2 Tryz.underlying38 rfl Av) ?_
    rw[HQ.out,HR2.out]
    have fB:∀ j,j≠w.heap.size+1+1->(((wr.setCell ⟨w.heap.size+1+1,0,none⟩ (.int .i64 o.count)).setCell ⟨w.heap.size+1+1,1,none⟩ (.slice sa' o.spaces.length ss')).setCell ⟨w.heap.size+1+1,2,none⟩ (.slice va vm vc)).heap[j]? = wr.heap[j]? :=fun j hj=>by
     rw[zo hj,zo hj,zo hj]
    refine⟨?_,((BWR.out.setCell (p:=⟨w.heap.size+1+1,0,none⟩) (by show w.heap.size<=w.heap.size+1+1;omega) _).setCell (p:=⟨w.heap.size+1+1,1,none⟩) (by show w.heap.size<=w.heap.size+1+1;omega) _).setCell (p:=⟨w.heap.size+1+1,2,none⟩) (by show w.heap.size<=w.heap.size+1+1;omega) _⟩
    show if _ then _ else _
    rw[if_neg (by omega)]
    refine⟨_,_,rfl,?_,?_⟩
    ·have h1:=HSP.out.keep (w':=wr) HB.out.size (fun k hk _=>HB.out.block k hk.1)
     exact(h1.keep (by simp[World.setCell]) (fun k hk _=>fB k (by rintro rfl;exact hk.2 (.inr ⟨by omega,by omega⟩)))).mono (fun k hk _ hx=>hk.2 (.inl hx))
    ·exact DF (enc:=Own.E5) (fun _=>rfl) (fun _=>rfl) (BA.own (AA HOWN.out (fun j hj=>fB j (by have:=Bo HOWN.out j hj;omega)))) rfl (fun j hj hx=>by have h1:=Bo HOWN.out j hj;have h2:=hX j hx;omega)
  have dk:decide ((k:Int)<l.length)=true:=zt
  obtain⟨_,_,he,hap⟩:=HA.out.below BWR.out
  cases he
  obtain⟨b,q,cv,pv,ha,hbl,e0,e1,e2,e3,hcs,hps,hcap⟩:=hap k hlt
  subst ha
  obtain⟨al1,al2,al3⟩:=HAL.out l[k] (List.getElem_mem hlt)
  have hdr:l.drop k=l[k]::l.drop (k+1):=List.drop_eq_getElem_cons hlt
  have hR1:=HRR.out
  rw[hdr] at hR1
  obtain⟨ap,oH⟩:∃ x,x=l[k]:=⟨_,rfl⟩
  rw[<- oH] at e0 e1 hcs hps al1 al2 al3 hR1
  obtain⟨ca,cc,rfl⟩:=hcs.len
  obtain⟨pa,pc,rfl⟩:=hps.len
  have HR1:=zh hR1
  obtain⟨nm,⟨ix,chs,pth⟩⟩:=ap
  dsimp only at e0 e1 e2 e3 hcs hps al1 al2 al3
  have hb5:Below wr.heap.size wr (wr.alloc (.cells #[.string nm,.int .i64 ix,.slice ca chs.length cc,.slice pa pth.length pc] 43)):=zb
  have hz5:(wr.alloc (.cells #[.string nm,.int .i64 ix,.slice ca chs.length cc,.slice pa pth.length pc] 43)).heap.size=wr.heap.size+1:=World.size_alloc _ _
  have n5:=At.new wr 43 #[.string nm,.int .i64 ix,.slice ca chs.length cc,.slice pa pth.length pc]
  have s5:=SWR.out.below hb5 (by omega)
  obtain⟨s0,s1,s2⟩:=s5.c3
  have hcall:=fun(W:World) (hW:Own.AY W (.slice ma s.members.length mc) s.members)=>Uf s.pre s.threshold (.slice ma s.members.length mc) s.members nm W hW (by omega)
  have HC5:=zh (hcs.below hb5);have HP5:=zh (hps.below hb5);have HB5:=zh hb5;have N5:=zh n5;have mI:=zh hcall;have HCAP:=zh hcap;have zV:=zh oH
  have sS:Own.AY (wr.alloc (.cells #[.string nm,.int .i64 ix,.slice ca chs.length cc,.slice pa pth.length pc] 43)) (.slice ma s.members.length mc) s.members:=MWR.out.below hb5
  have MW5:=zh sS
  clear hap hdr hR1 hcs hps hb5 n5 s5 hcall sS oH hcap HRR
  go_wp2_with fail
  refine(mI.out _ MW5.out).mono ?_
  intro e w6 hpost
  obtain⟨hval,hb6⟩:=hpost
  have Er:=HB5.out.trans (hb6.mono HB5.out.size)
  have n6:=N5.out.below hb6 (by omega)
  have HB6:=zh Er
  have N6:=zh n6
  have HC6:=zh (HC5.out.below hb6);have HP6:=zh (HP5.out.below hb6)
  have TW6:=zh (TWR.out.below Er TWR.out.lt)
  have BW6:=zh (BWR.out.trans (Er.mono BWR.out.size))
  have hz6:=hb6.size
  clear hb6 Er n6 HC5 HP5 HB5 N5 MW5 mI s0 s1 s2
  cases hf:Own.find s.members nm with
  | none =>
    rw[hf] at hval
    have Dr:e=.returned (.tuple #[.agg #[.string ⟨#[]⟩,.string ⟨#[]⟩],.bool false]):=hval
    subst Dr
    have e:R=.error 6:=by rw[HR1.out,Own.BS,hf]
    have HE:=zh e
    have TW:=zh (TW6.out.alloc (.cells #[.string ⟨#[]⟩,.string ⟨#[]⟩] 73))
    have TB:=zh (BW6.out.alloc BW6.out.size (.cells #[.string ⟨#[]⟩,.string ⟨#[]⟩] 73))
    have x0:=TW.out.cell 0;have x1:=TW.out.cell 1;have x2:=TW.out.cell 2;have x3:=TW.out.free 0;have x4:=TW.out.free 1;have x5:=TW.out.free 2
    simp only[zg] at x0 x1 x2
    clear e hf hval
    go_wp2_with fail
    have F2:=((TW.out.set 0 (.int .i64 0)).set 1 (.slice none 0 0)).set 2 (.slice none 0 0)
    refine BN rfl rfl rfl (Ad F2 Tryz.underlying38 rfl Av) ?_
    rw[HQ.out,HE.out]
    exact⟨rfl,((TB.out.setCell (p:=⟨w.heap.size+1+1,0,none⟩) (by show w.heap.size<=w.heap.size+1+1;omega) _).setCell (p:=⟨w.heap.size+1+1,1,none⟩) (by show w.heap.size<=w.heap.size+1+1;omega) _).setCell (p:=⟨w.heap.size+1+1,2,none⟩) (by show w.heap.size<=w.heap.size+1+1;omega) _⟩
  | some m=>
  rw[hf] at hval
  have Dr:e=.returned (.tuple #[.agg #[.string m.name,.string m.pub],.bool true]):=hval
  subst Dr
  have hR2:R=if seen.any (fun x=>decide (x=nm)) then .error 5 else if Sig.verify m.pub msg ⟨ix,chs,pth⟩ then (if ix<Own.Bc Kc m.pub then .error 8 else Own.BS s msg (nm::seen) (Own.use Kc ⟨m.pub,ix+1⟩) (l.drop (k+1))) else .error 18:=by rw[HR1.out,Own.BS,hf]
  have HR2:=zh hR2
  have hb7:Below w6.heap.size w6 (w6.alloc (.cells #[.string m.name,.string m.pub] 73)):=zb
  have hz7:(w6.alloc (.cells #[.string m.name,.string m.pub] 73)).heap.size=w6.heap.size+1:=World.size_alloc _ _
  have m7:=At.new w6 73 #[.string m.name,.string m.pub]
  have n7:=N6.out.below hb7 (by omega)
  have oI:=(HSM.out.below HB6.out yu).below hb7 (by omega)
  have TW:=zh (TW6.out.below hb7 (by omega))
  have TB:=zh (BW6.out.trans (hb7.mono BW6.out.size))
  have sU:=HB6.out.trans (hb7.mono HB6.out.size)
  have Mg:=oI.VH (t:=174) (e:=4) Tryz.underlying174 (.bool false) (Sw _) nm (by unfold maxLen;omega)
  have HC7:=zh (HC6.out.below hb7);have HP7:=zh (HP6.out.below hb7);have HB7:=zh sU;have N7:=zh n7;have M7:=zh m7;have SM7:=zh oI
  clear hR2 hval hf HR1 hb7 m7 n7 oI sU HC6 HP6 N6 TW6 BW6
  obtain⟨y0,y1,y2,y3⟩:=N7.out.c4;obtain⟨p0,p1⟩:=M7.out.c2
  cases hsn:seen.any fun x=>decide (x=nm) with
  | true =>
    have e:R=.error 5:=by rw[HR2.out,hsn];rfl
    have hv:(Own.DW seen nm).getD (.bool false)=.bool true:=by unfold Own.DW;rw[hsn];rfl
    rw[hv] at Mg
    have HE:=zh e
    have x0:=TW.out.cell 0;have x1:=TW.out.cell 1;have x2:=TW.out.cell 2;have x3:=TW.out.free 0;have x4:=TW.out.free 1;have x5:=TW.out.free 2
    simp only[zg] at x0 x1 x2
    clear e hv hsn
    go_wp2_with fail
    have F2:=((TW.out.set 0 (.int .i64 0)).set 1 (.slice none 0 0)).set 2 (.slice none 0 0)
    refine BN rfl rfl rfl (Ad F2 Tryz.underlying38 rfl Av) ?_
    rw[HQ.out,HE.out]
    exact⟨rfl,((TB.out.setCell (p:=⟨w.heap.size+1+1,0,none⟩) (by show w.heap.size<=w.heap.size+1+1;omega) _).setCell (p:=⟨w.heap.size+1+1,1,none⟩) (by show w.heap.size<=w.heap.size+1+1;omega) _).setCell (p:=⟨w.heap.size+1+1,2,none⟩) (by show w.heap.size<=w.heap.size+1+1;omega) _⟩
  | false=>
  have hv:(Own.DW seen nm).getD (.bool false)=.bool false:=by unfold Own.DW;rw[hsn];rfl
  rw[hv] at Mg
  have hR3:R=if Sig.verify m.pub msg ⟨ix,chs,pth⟩ then (if ix<Own.Bc Kc m.pub then .error 8 else Own.BS s msg (nm::seen) (Own.use Kc ⟨m.pub,ix+1⟩) (l.drop (k+1))) else .error 18:=by rw[HR2.out,hsn];rfl
  have HR3:=zh hR3
  have sV:=Vw m.pub msg ⟨ix,chs,pth⟩ (.slice ca chs.length cc) (.slice pa pth.length pc) _ HC7.out HP7.out HCAP.out al2 al3 Ma
  have sW:=zh sV
  clear hv hsn hR3 HR2 sV
  go_wp2_with fail
  refine sW.out.mono ?_
  rintro e w8 ⟨rfl,hb8⟩
  have sZ:=HB7.out.trans (hb8.mono HB7.out.size)
  have TW8:=zh (TW.out.below hb8 TW.out.lt)
  have TB8:=zh (TB.out.trans (hb8.mono TB.out.size))
  have N8:=zh (N7.out.below hb8 N7.out.lt)
  have M8:=zh (M7.out.below hb8 M7.out.lt)
  have SM8:=zh (SM7.out.below hb8 SM7.out.lt)
  have HB8:=zh sZ
  have hz8:=hb8.size
  clear hb8 sZ TW TB N7 M7 SM7 HB7 sW HC7 HP7 Mg y0 y1 y2 y3 p0 p1
  cases hvf:Sig.verify m.pub msg ⟨ix,chs,pth⟩ with
  | false =>
    have e:R=.error 18:=by rw[HR3.out,hvf];rfl
    have HE:=zh e
    have TW:=TW8;have TB:=TB8
    have x0:=TW.out.cell 0;have x1:=TW.out.cell 1;have x2:=TW.out.cell 2;have x3:=TW.out.free 0;have x4:=TW.out.free 1;have x5:=TW.out.free 2
    simp only[zg] at x0 x1 x2
    clear e hvf
    go_wp2_with fail
    have F2:=((TW.out.set 0 (.int .i64 0)).set 1 (.slice none 0 0)).set 2 (.slice none 0 0)
    refine BN rfl rfl rfl (Ad F2 Tryz.underlying38 rfl Av) ?_
    rw[HQ.out,HE.out]
    exact⟨rfl,((TB.out.setCell (p:=⟨w.heap.size+1+1,0,none⟩) (by show w.heap.size<=w.heap.size+1+1;omega) _).setCell (p:=⟨w.heap.size+1+1,1,none⟩) (by show w.heap.size<=w.heap.size+1+1;omega) _).setCell (p:=⟨w.heap.size+1+1,2,none⟩) (by show w.heap.size<=w.heap.size+1+1;omega) _⟩
  | true=>
  obtain⟨yw,tq⟩:=Own.aI hvf
  dsimp only at yw tq
  have hR4:R=if ix<Own.Bc Kc m.pub then .error 8 else Own.BS s msg (nm::seen) (Own.use Kc ⟨m.pub,ix+1⟩) (l.drop (k+1)):=by rw[HR3.out,hvf];rfl
  have HR4:=zh hR4
  obtain⟨y0,y1,y2,y3⟩:=N8.out.c4;obtain⟨p0,p1⟩:=M8.out.c2
  clear hvf hR4 HR3
  go_upto_region 13 with fail
  go_upto_region 14 with (at_mapUpdate;go_must (refine Ua rfl _ _ _ 174 4 rfl Tryz.underlying174 SM8.out (by unfold maxLen;omega) rfl nm (.bool true) rfl rfl (by unfold maxLen;omega) ?_);intro w9 hm9 hg9;have HM9:=zh hm9;have HG9:=zh hg9;clear hm9 hg9)
  have ne1:OB≠OB+1:=by omega
  have fC:=HB8.out
  have aA:=HAT.out.below fC yt
  have YV:=own_below HOWN.out fC
  have tu:∀ j,kvc.ownBlock=some j->j≠OB+1:=fun j hj=>by
   obtain⟨cur,hc⟩:=DX YV hj
   exact SM8.out.YS hc
  have Nj:∀ j,j<w8.heap.size->j≠OB+1->w9.heap[j]? = w8.heap[j]? :=fun j hj hne=>HG9.out.block j hj (fun e=>hne (Option.some.inj e))
  have oJ:=aA.keep (Nj OB aA.lt ne1)
  have VR:=AA YV (fun j hj=>Nj j (by obtain⟨cur,hc⟩:=DX YV hj;exact hc.lt) (tu j hj))
  have n9:=N8.out.keep (Nj _ N8.out.lt (by omega))
  have m9:=M8.out.keep (Nj _ M8.out.lt (by omega))
  have tw9:=TW8.out.keep (Nj _ TW8.out.lt (by omega))
  have tC:Fy w9 (OB+1) (k+1) (Own.DW (nm::seen)):=by rw[Own.Uk];exact HM9.out
  have tF:Below B w2 w9:=(HB.out.trans (fC.mono (by omega))).grown HG9.out (by have:=fC.size;omega) (fun j hj=>by cases hj;omega)
  obtain⟨o0,o1,o2⟩:=oJ.c3;obtain⟨p0,p1⟩:=m9.c2
  have hz9:=HG9.out.size
  obtain⟨va,vm,vc,rfl⟩:=Ae VR
  obtain rfl:=BU VR
  have hkey:=aH o.count (.slice sa' o.spaces.length ss') (.slice va Kc.length vc) Kc m.pub w9 (Own.Ca.of (BA.own VR) rfl) HSR.out (by omega)
  obtain⟨P,hP⟩:∃ P:Nat,P=Own.posB Own.KeyUse.pub m.pub Kc:=⟨_,rfl⟩
  rw[<- hP] at hkey
  have HP:=zh hP;have HKEY:=zh hkey;have oK:=zh oJ;have mJ:=zh VR;have N9:=zh n9;have M9:=zh m9;have TW9:=zh tw9;have SM9:=zh tC;have tH:=zh tF
  clear fC aA YV tu Nj oJ VR n9 m9 tw9 tC tF hP hkey HM9 HG9 HAT HOWN N8 M8 TW8 SM8 TWR SWR MWR HSM HB HB6 y0 y1 y2 y3
  go_wp2_with fail
  refine HKEY.out.mono ?_
  rintro e w10 ⟨rfl,I6⟩
  have Mq:=zh (oK.out.below I6 oK.out.lt);have JI:=zh (own_below mJ.out I6);have N10:=zh (N9.out.below I6 N9.out.lt);have M10:=zh (M9.out.below I6 M9.out.lt);have oL:=zh (TW9.out.below I6 TW9.out.lt);have aJ:=zh (SM9.out.below I6 SM9.out.lt)
  have zW:=I6.size
  have fD:=zh (tH.out.trans (I6.mono (by omega)))
  clear I6 HKEY oK mJ N9 M9 TW9 SM9 tH o0 o1 o2 p0 p1
  cases hh:Own.Dt Own.KeyUse.pub m.pub Kc with
  | true =>
    obtain⟨K1,hK1⟩:∃ K1,K1=Kc:=⟨_,rfl⟩
    have hpl:Own.Placed Kc K1 m.pub:=by rw[hK1];exact Own.Ye HSR.out hh
    have PL:=zh hpl
    have oM:=JI.out
    have at1:=Mq.out
    rw[<- hK1] at oM at1
    have OWN:=zh oM;have AT:=zh at1;have NN:=N10;have TWW:=oL;have SMW:=aJ;have fE:=fD
    clear hpl oM at1 hK1 hh JI Mq
    go_wp2_with fail
    obtain⟨hPl,hPp,hPn⟩:=PL.out.at_
    have hPu:=PL.out.use (ix+1)
    have tJ:=PL.out.len
    rw[<- HP.out] at hPu
    have fF : P<K1.length:=by rw[HP.out];exact hPl
    have oN : K1[P].pub=m.pub:=by rw[<- hPp];congr 2
    have oO : K1[P].next=Own.Bc Kc m.pub:=by rw[<- hPn];congr 2
    clear hPl hPp hPn
    obtain⟨g,cap,hv,_⟩:=Dm OWN.out (by omega)
    cases hv
    obtain⟨ys,Ov,hbg,hnc,hcm,hcl,hxl⟩:=Ko OWN.out
    have fG:w10.cell? ⟨g,P*2+1,none⟩=some (.int .i64 (Own.Bc Kc m.pub)):=by
     rw[Ov.cell]
     have h:=VP K1 P fF
     rw[oO] at h
     rw[List.getElem?_toArray,List.getElem?_append_left (List.getElem?_eq_some_iff.1 h).1,h]
    have tK:=Ov.free (P*2+1)
    obtain⟨o0,o1,o2⟩:=AT.out.c3;obtain⟨y0,y1,y2,y3⟩:=NN.out.c4
    obtain⟨nx,hnx⟩:∃ nx,nx=Own.Bc Kc m.pub:=⟨_,rfl⟩
    rw[<- hnx] at fG
    have HR5:=HR4.out
    rw[<- hnx,hPu] at HR5
    have HPU:=zh hPu
    have Yf:=zh Ov
    have HXL:=zh hxl
    clear Ov hnx hPu hxl
    by_cases hix:ix<nx
    ·have dx:decide (ix<nx)=true:=decide_eq_true hix
     have e:R=.error 8:=by rw[HR5,if_pos hix]
     have HE:=zh e
     have TW:Hid (At w10.drew (w.heap.size+1+1) 38 #[.int .i64 0,.slice none 0 0,.slice none 0 0]):=zh TWW.out.drew
     have TB:=zh (BW2.out.trans (fE.out.mono (by omega))).drew
     have x0:=TWW.out.cell 0;have x1:=TWW.out.cell 1;have x2:=TWW.out.cell 2;have x3:=TWW.out.free 0;have x4:=TWW.out.free 1;have x5:=TWW.out.free 2
     simp only[zg] at x0 x1 x2
     clear e HR5
     go_wp2_with fail
     refine Lex.zl ?_
     go_wp2_with fail
     refine Lex.ze ?_
     go_wp2_with fail
     have F2:=((TW.out.set 0 (.int .i64 0)).set 1 (.slice none 0 0)).set 2 (.slice none 0 0)
     refine BN rfl rfl rfl (Ad F2 Tryz.underlying38 rfl Av) ?_
     rw[HQ.out,HE.out]
     exact⟨rfl,((TB.out.setCell (p:=⟨w.heap.size+1+1,0,none⟩) (by show w.heap.size<=w.heap.size+1+1;omega) _).setCell (p:=⟨w.heap.size+1+1,1,none⟩) (by show w.heap.size<=w.heap.size+1+1;omega) _).setCell (p:=⟨w.heap.size+1+1,2,none⟩) (by show w.heap.size<=w.heap.size+1+1;omega) _⟩
    ·have dx:decide (ix<nx)=false:=decide_eq_false hix
     have e:R=Own.BS s msg (nm::seen) (K1.set P ⟨m.pub,ix+1⟩) (l.drop (k+1)):=by rw[HR5,if_neg hix]
     have HE:=zh e
     have hw:wrap64 (ix+1)=ix+1:=by unfold wrap64;omega
     clear e HR5
     go_wp2_with fail
     refine Lex.zl ?_
     go_wp2_with fail
     refine Lex.ze ?_
     go_wp2_with fail
     have hgo:OB≠g:=AT.out.ne Yf.out (by decide)
     have hgm:g≠OB+1:=SMW.out.YS Yf.out
     refine⟨⟨k+1,by omega,by go_num,nm::seen,K1.set P ⟨m.pub,ix+1⟩,_,HE.out,?_,by rw[List.length_set];omega,(AT.out.far (p:=⟨g,P*2+1,none⟩) hgo _).drew,?_,?_,?_⟩,by simp[intOf];omega⟩
     ·rw[<- HPU.out,Own.I5]
      exact Own.Srt.put _ HSR.out
     ·rw[List.length_set]
      have h1:=Yf.out.set (P*2+1) (.int .i64 (ix+1))
      have h2:=Qy K1 P fF (ix+1)
      rw[oN] at h2
      rw[<- h2]
      have e1:((K1.flatMap Own.E5++ys).toArray.setIfInBounds (P*2+1) (.int .i64 (ix+1)))=((K1.flatMap Own.E5).set (P*2+1) (.int .i64 (ix+1))++ys).toArray:=by
       rw[List.setIfInBounds_toArray,List.set_append_left _ _ (by rw[HXL.out];omega)]
      rw[e1] at h1
      exact EM h1.drew hbg hnc hcm (by simpa using hcl) (by rw[List.take_append_of_le_length (by rw[List.length_set,HXL.out];exact Nat.le_refl _),List.take_of_length_le (by rw[List.length_set,HXL.out];exact Nat.le_refl _)])
     ·exact SMW.out.keep (zo (by show OB+1≠g;exact fun e=>hgm e.symm))
     ·exact(fE.out.setCell (p:=⟨g,P*2+1,none⟩) hbg _).drew
  | false =>
    obtain⟨K1,hK1⟩:∃ K1,K1=Kc.take P++(⟨m.pub,0⟩::Kc.drop P):=⟨_,rfl⟩
    have hpl:Own.Placed Kc K1 m.pub:=by rw[hK1,HP.out];exact Own.VQ HSR.out hh
    have PL:=zh hpl
    have kr:P<=Kc.length:=by rw[HP.out];exact Own.Mj _ _
    have fH:Below w10.heap.size w10 (w10.alloc (.cells #[.string m.pub,.int .i64 0] 91)):=zb
    have oP:(w10.alloc (.cells #[.string m.pub,.int .i64 0] 91)).heap.size=w10.heap.size+1:=World.size_alloc _ _
    have n11:=At.new w10 91 #[.string m.pub,.int .i64 0]
    have mK:=own_below JI.out fH
    have hins:=VO B Kc.length P w10.heap.size _ (Kc.flatMap Own.E5) [.string m.pub,.int .i64 0] _ mK (Own.mG _) kr (by omega) rfl n11 (by intro u hu;simp at hu;rcases hu with rfl|rfl<;>rfl) (fun e=>by obtain⟨cur,hc⟩:=DX JI.out e;have:=hc.lt;omega) (by omega)
    have tL:(Kc.flatMap Own.E5).take (P*2)++([.string m.pub,.int .i64 0]++(Kc.flatMap Own.E5).drop (P*2))=K1.flatMap Own.E5:=by
     have e1:Kc.flatMap Own.E5=(Kc.take P).flatMap Own.E5++(Kc.drop P).flatMap Own.E5:=by rw[<- List.flatMap_append,List.take_append_drop]
     have e2:((Kc.take P).flatMap Own.E5).length=P*2:=by rw[Own.R7,List.length_take,Nat.min_eq_left kr]
     rw[hK1,List.flatMap_append,List.flatMap_cons,e1,<- e2,List.take_left,List.drop_left]
     rfl
    have tN:K1.length=Kc.length+1:=by rw[hK1];simp;omega
    have fI:=zh hins;have VT:=zh fH;have tO:=zh tL;have yx:=zh tN
    have o0:=(Mq.out.below fH Mq.out.lt).cell 0;have o1:=(Mq.out.below fH Mq.out.lt).cell 1
    have o2':=Mq.out.cell 2
    have p1:=M10.out.cell 1
    simp only[zg] at o0 o1 o2' p1
    clear hpl hK1 hh fH n11 mK hins tL tN
    go_wp2_with fail
    refine fI.out.mono ?_
    rintro e w11 ⟨v',rfl,ho',Ow,y8⟩
    rw[tO.out] at ho'
    have hkeep:∀ j (t:TypeId) (cs:Array Value),At w10 j t cs->t≠91->At w11 j t cs:=fun j t cs h ht=>by
     have h1:=h.alloc (.cells #[.string m.pub,.int .i64 0] 91)
     exact h1.grown Ow (fun e=>by
      obtain⟨cur,hc⟩:=DX JI.out e.symm
      exact h.ne hc ht rfl)
    have Yg:=hkeep _ _ _ Mq.out (by decide)
    have tQ:=hkeep _ _ _ N10.out (by decide)
    have tT:=hkeep _ _ _ oL.out (by decide)
    have tV:Fy w11 (OB+1) (k+1) (Own.DW (nm::seen)):=(aJ.out.below VT.out aJ.out.lt).keep (Ow.block (OB+1) (by rw[oP];have:=aJ.out.lt;omega) (fun e=>by
     obtain⟨cur,hc⟩:=DX JI.out e.symm
     exact aJ.out.YS hc rfl))
    have mM : Below B w2 w11:=(fD.out.trans (VT.out.mono (by omega))).grown Ow (by rw[oP];omega) (fun j hj=>Bo JI.out j hj)
    have zG:=Ow.size
    obtain⟨xa,xm,xc,rfl⟩:=Ae ho'
    rw[<- yx.out] at ho'
    obtain rfl:=BU ho'
    have tX:OB≠OB+1:=by omega
    have mO:(Value.slice xa K1.length xc).ownBlock≠some OB:=Yg.own_ne ho' (by decide)
    have q0:=Yg.cell 0;have q1:=Yg.cell 1;have q2:=Yg.cell 2;have q3:=Yg.free 2
    simp only[zg] at q0 q1 q2
    have tY:=zh Yg;have tZ:=zh tQ;have uf:=zh tT;have ug:=zh tV;have mP:=zh mM;have uh:=zh ho'
    clear hkeep Yg tQ tT tV mM ho' Ow y8 fI VT tO JI Mq N10 oL aJ fD M10 o0 o1 o2' p1
    go_upto_region 17 with fail
    have atw:At (w11.setCell ⟨OB,2,none⟩ (.slice xa K1.length xc)) OB 38 #[.int .i64 o.count,.slice sa' o.spaces.length ss',.slice xa K1.length xc]:=tY.out.set 2 (.slice xa K1.length xc)
    have uj:(w11.setCell ⟨OB,2,none⟩ (.slice xa K1.length xc)).ownsRow B 91 2 (.slice xa K1.length xc) K1.length (K1.flatMap Own.E5):=AA uh.out (fun j hj=>zo (by rintro rfl;exact mO hj))
    have nnw:=tZ.out.far (p:=⟨OB,2,none⟩) (by show wr.heap.size≠OB;omega) (.slice xa K1.length xc)
    have tww:=uf.out.far (p:=⟨OB,2,none⟩) (by show w.heap.size+1+1≠OB;omega) (.slice xa K1.length xc)
    have smw:Fy (w11.setCell ⟨OB,2,none⟩ (.slice xa K1.length xc)) (OB+1) (k+1) (Own.DW (nm::seen)):=ug.out.keep (zo (by show OB+1≠OB;omega))
    have uo:=mP.out.setCell (p:=⟨OB,2,none⟩) yj (.slice xa K1.length xc)
    have OWN:=zh uj;have AT:=zh atw;have NN:=zh nnw;have TWW:=zh tww;have SMW:=zh smw;have fE:=zh uo
    clear atw uj nnw tww smw uo q0 q1 q2 q3 mO tY tZ uf ug mP uh tX
    generalize w11.setCell ⟨OB,2,none⟩ (.slice xa K1.length xc)=w12 at*
    obtain⟨hPl,hPp,hPn⟩:=PL.out.at_
    have hPu:=PL.out.use (ix+1)
    have tJ:=PL.out.len
    rw[<- HP.out] at hPu
    have fF : P<K1.length:=by rw[HP.out];exact hPl
    have oN : K1[P].pub=m.pub:=by rw[<- hPp];congr 2
    have oO : K1[P].next=Own.Bc Kc m.pub:=by rw[<- hPn];congr 2
    clear hPl hPp hPn
    obtain⟨g,cap,hv,_⟩:=Dm OWN.out (by omega)
    cases hv
    obtain⟨ys,Ov,hbg,hnc,hcm,hcl,hxl⟩:=Ko OWN.out
    have fG:w12.cell? ⟨g,P*2+1,none⟩=some (.int .i64 (Own.Bc Kc m.pub)):=by
     rw[Ov.cell]
     have h:=VP K1 P fF
     rw[oO] at h
     rw[List.getElem?_toArray,List.getElem?_append_left (List.getElem?_eq_some_iff.1 h).1,h]
    have tK:=Ov.free (P*2+1)
    obtain⟨o0,o1,o2⟩:=AT.out.c3;obtain⟨y0,y1,y2,y3⟩:=NN.out.c4
    obtain⟨nx,hnx⟩:∃ nx,nx=Own.Bc Kc m.pub:=⟨_,rfl⟩
    rw[<- hnx] at fG
    have HR5:=HR4.out
    rw[<- hnx,hPu] at HR5
    have HPU:=zh hPu
    have Yf:=zh Ov
    have HXL:=zh hxl
    clear Ov hnx hPu hxl
    by_cases hix:ix<nx
    ·have dx:decide (ix<nx)=true:=decide_eq_true hix
     have e:R=.error 8:=by rw[HR5,if_pos hix]
     have HE:=zh e
     have TW:Hid (At w12.drew (w.heap.size+1+1) 38 #[.int .i64 0,.slice none 0 0,.slice none 0 0]):=zh TWW.out.drew
     have TB:=zh (BW2.out.trans (fE.out.mono (by omega))).drew
     have x0:=TWW.out.cell 0;have x1:=TWW.out.cell 1;have x2:=TWW.out.cell 2;have x3:=TWW.out.free 0;have x4:=TWW.out.free 1;have x5:=TWW.out.free 2
     simp only[zg] at x0 x1 x2
     clear e HR5
     go_wp2_with fail
     refine Lex.zl ?_
     go_wp2_with fail
     refine Lex.ze ?_
     go_wp2_with fail
     have F2:=((TW.out.set 0 (.int .i64 0)).set 1 (.slice none 0 0)).set 2 (.slice none 0 0)
     refine BN rfl rfl rfl (Ad F2 Tryz.underlying38 rfl Av) ?_
     rw[HQ.out,HE.out]
     exact⟨rfl,((TB.out.setCell (p:=⟨w.heap.size+1+1,0,none⟩) (by show w.heap.size<=w.heap.size+1+1;omega) _).setCell (p:=⟨w.heap.size+1+1,1,none⟩) (by show w.heap.size<=w.heap.size+1+1;omega) _).setCell (p:=⟨w.heap.size+1+1,2,none⟩) (by show w.heap.size<=w.heap.size+1+1;omega) _⟩
    ·have dx:decide (ix<nx)=false:=decide_eq_false hix
     have e:R=Own.BS s msg (nm::seen) (K1.set P ⟨m.pub,ix+1⟩) (l.drop (k+1)):=by rw[HR5,if_neg hix]
     have HE:=zh e
     have hw:wrap64 (ix+1)=ix+1:=by unfold wrap64;omega
     clear e HR5
     go_wp2_with fail
     refine Lex.zl ?_
     go_wp2_with fail
     refine Lex.ze ?_
     go_wp2_with fail
     have hgo:OB≠g:=AT.out.ne Yf.out (by decide)
     have hgm:g≠OB+1:=SMW.out.YS Yf.out
     refine⟨⟨k+1,by omega,by go_num,nm::seen,K1.set P ⟨m.pub,ix+1⟩,_,HE.out,?_,by rw[List.length_set];omega,(AT.out.far (p:=⟨g,P*2+1,none⟩) hgo _).drew,?_,?_,?_⟩,by simp[intOf];omega⟩
     ·rw[<- HPU.out,Own.I5]
      exact Own.Srt.put _ HSR.out
     ·rw[List.length_set]
      have h1:=Yf.out.set (P*2+1) (.int .i64 (ix+1))
      have h2:=Qy K1 P fF (ix+1)
      rw[oN] at h2
      rw[<- h2]
      have e1:((K1.flatMap Own.E5++ys).toArray.setIfInBounds (P*2+1) (.int .i64 (ix+1)))=((K1.flatMap Own.E5).set (P*2+1) (.int .i64 (ix+1))++ys).toArray:=by
       rw[List.setIfInBounds_toArray,List.set_append_left _ _ (by rw[HXL.out];omega)]
      rw[e1] at h1
      exact EM h1.drew hbg hnc hcm (by simpa using hcl) (by rw[List.take_append_of_le_length (by rw[List.length_set,HXL.out];exact Nat.le_refl _),List.take_of_length_le (by rw[List.length_set,HXL.out];exact Nat.le_refl _)])
     ·exact SMW.out.keep (zo (by show OB+1≠g;exact fun e=>hgm e.symm))
     ·exact(fE.out.setCell (p:=⟨g,P*2+1,none⟩) hbg _).drew
namespace Own
theorem Ul {o:Ap}(h:Bf o=true):Srt KeyUse.pub o.keys:=by
 unfold Bf at h
 simp only[Bool.and_eq_true] at h
 exact(I4 (f:=KeyUse.pub) h.2).1
def Hz (o:Ap)(s msg:ByteArray)(l:List Ce):Except Int (List KeyUse):=
 if Bf o then
  match authority o s with
  | none=>.error 6
  | some x => match BS x msg [] o.keys l with
    | .error c=>.error c
    | .ok K=>if (l.length:Int)<x.threshold then .error 20 else .ok K
 else .error 1
end Own
def YW (X:Nat->Prop)(w:World)(o:Own.Ap)(R:Except Int (List Own.KeyUse))(e:Ending)(w' : World):Prop:=
 (match R with
   | .error c=>e=.returned (.tuple #[Own.nobody,.int .i64 c])
   | .ok K=>∃ sv kv,e=.returned (.tuple #[.agg #[.int .i64 o.count,sv,kv],.int .i64 0])/\Af 3 Own.CU (fun k=>¬ X k) w' sv o.spaces/\Af 2 Own.Qk (fun k=>¬ X k) w' kv K)/\Below w.heap.size w w'
theorem Q0 (X:Nat->Prop)(o:Own.Ap)(s msg:ByteArray)(l:List Own.Ce)(sv kv lv:Value)(w:World)(hX:∀ k,X k->k<w.heap.size)(hMx:Fx w)(hSx:Af 3 Own.CU (fun k=>¬ X k) w sv o.spaces)(hK:Own.Ca w kv o.keys)(hA:Own.SF w lv l)
 (hls:o.spaces.length<=3000000) (hlk:o.keys.length+l.length<=900000) (hlm:∀ s∈o.spaces,s.members.length<=3000000) (Ma:msg.size<=9223372036854775000)
 (hal:∀ a∈l,a.name.size<=140737488355328/\a.sig.chains.length<=140737488355328/\a.sig.path.length<=140737488355328):
 Calls Tryz.prog 97 #[.agg #[.int .i64 o.count,sv,kv],.string s,.string msg,lv] w (YW X w o (Own.Hz o s msg l)):=by
 obtain⟨R,hR⟩:∃ R,R=Own.Hz o s msg l:=⟨_,rfl⟩
 obtain⟨Q,hQ⟩:∃ Q,Q=YW X w o R:=⟨_,rfl⟩
 rw[<- hR,<- hQ]
 have HQ:=zh hQ;have HR:=zh hR;clear hQ hR
 obtain⟨sa,sc,rfl⟩:=hSx.len
 have hS:Own.Bw w (.slice sa o.spaces.length sc) o.spaces:=hSx.mono (fun _ _ _=>trivial)
 have HSX:=zh hSx;clear hSx
 obtain⟨ka,kc,rfl⟩:=hK.len
 obtain⟨la,lc,rfl,hap⟩:=id hA
 clear hap
 have ha0:=(At.new w 38 #[.int .i64 o.count,.slice sa o.spaces.length sc,.slice ka o.keys.length kc]).alloc (.cells #[.int .i64 0,.slice none 0 0,.slice none 0 0] 38)
 have ha1:=At.new1 w (.cells #[.int .i64 o.count,.slice sa o.spaces.length sc,.slice ka o.keys.length kc] 38) 38 #[.int .i64 0,.slice none 0 0,.slice none 0 0]
 have hb1:Below w.heap.size w ((w.alloc (.cells #[.int .i64 o.count,.slice sa o.spaces.length sc,.slice ka o.keys.length kc] 38)).alloc (.cells #[.int .i64 0,.slice none 0 0,.slice none 0 0] 38)):=zb.alloc (by simp) _
 have hz1:((w.alloc (.cells #[.int .i64 o.count,.slice sa o.spaces.length sc,.slice ka o.keys.length kc] 38)).alloc (.cells #[.int .i64 0,.slice none 0 0,.slice none 0 0] 38)).heap.size=w.heap.size+2:=by simp
 obtain⟨c0,c1,c2⟩:=ha0.c3
 have HS:=zh hS;have HK:=zh hK;have HA:=zh hA;have HMX:=zh hMx;have A0:=zh ha0;have A1:=zh ha1;have B1:=zh hb1;have HLM:=zh hlm;have HAL:=zh hal
 clear hS hK hA hMx ha0 ha1 hb1 hlm hal
 go_enter Tryz.func97,Tryz.ntmps97
 go_wp2_with fail
 generalize (w.alloc (.cells #[.int .i64 o.count,.slice sa o.spaces.length sc,.slice ka o.keys.length kc] 38)).alloc (.cells #[.int .i64 0,.slice none 0 0,.slice none 0 0] 38)=w1 at*
 refine(Fe o _ _ w1 (HMX.out.below B1.out) (HS.out.below B1.out) (HK.out.below B1.out) (by omega) (by omega) (fun s hs=>by have:=HLM.out s hs;omega)).mono ?_
 rintro e w2 ⟨rfl,hb2⟩
 have A02:=zh (A0.out.below hb2 (by omega));have A12:=zh (A1.out.below hb2 (by omega));have B2:=zh (B1.out.trans (hb2.mono B1.out.size))
 have hz2:=hb2.size
 obtain⟨y0,y1,y2⟩:=A02.out.c3
 clear hb2 A0 A1 B1 c0 c1 c2
 cases hv:Own.Bf o with
 | false =>
   have e:R=.error 1:=by rw[HR.out,Own.Hz,if_neg (by rw[hv];simp)]
   have HE:=zh e
   have TW:=A12;have TB:=B2
   have x0:=TW.out.cell 0;have x1:=TW.out.cell 1;have x2:=TW.out.cell 2;have x3:=TW.out.free 0;have x4:=TW.out.free 1;have x5:=TW.out.free 2
   simp only[zg] at x0 x1 x2
   clear e hv
   go_wp2_with fail
   have F2:=((TW.out.set 0 (.int .i64 0)).set 1 (.slice none 0 0)).set 2 (.slice none 0 0)
   refine BN rfl rfl rfl (Ad F2 Tryz.underlying38 rfl Av) ?_
   rw[HQ.out,HE.out]
   exact⟨rfl,((TB.out.setCell (p:=⟨w.heap.size+1,0,none⟩) (by simp) _).setCell (p:=⟨w.heap.size+1,1,none⟩) (by simp) _).setCell (p:=⟨w.heap.size+1,2,none⟩) (by simp) _⟩
 | true=>
 have hR2:R=(match Own.authority o s with
  | none=>.error 6
  | some x => match Own.BS x msg [] o.keys l with
    | .error c=>.error c
    | .ok K=>if (l.length:Int)<x.threshold then .error 20 else .ok K):=by rw[HR.out,Own.Hz,if_pos hv]
 have HR2:=zh hR2;have oF:=zh (Own.Ul hv);have HOK:=zh (Own.OK.of hv)
 clear hR2 hv
 go_wp2_with fail
 refine(EK o s _ _ w2 (HMX.out.below B2.out) (HS.out.below B2.out) (HK.out.below B2.out) (by omega) (by omega) (fun s hs=>by have:=HLM.out s hs;omega)).mono ?_
 intro e w3 hpost
 obtain⟨hval,hb3⟩:=hpost
 have A03:=zh (A02.out.below hb3 (by omega));have A13:=zh (A12.out.below hb3 (by omega));have B3:=zh (B2.out.trans (hb3.mono B2.out.size))
 have hz3:=hb3.size
 clear hb3 A02 A12 B2 y0 y1 y2
 cases hau:Own.authority o s with
 | none =>
   rw[hau] at hval
   have Dr:e=.returned (.tuple #[.agg #[.string ⟨#[]⟩,.slice none 0 0,.int .i64 0],.bool false]):=hval
   subst Dr
   have e:R=.error 6:=by rw[HR2.out,hau]
   have HE:=zh e
   have TW:=zh (A13.out.alloc (.cells #[.string ⟨#[]⟩,.slice none 0 0,.int .i64 0] 70));have TB:=zh (B3.out.alloc B3.out.size (.cells #[.string ⟨#[]⟩,.slice none 0 0,.int .i64 0] 70))
   have x0:=TW.out.cell 0;have x1:=TW.out.cell 1;have x2:=TW.out.cell 2;have x3:=TW.out.free 0;have x4:=TW.out.free 1;have x5:=TW.out.free 2
   simp only[zg] at x0 x1 x2
   clear e hau hval
   go_wp2_with fail
   have F2:=((TW.out.set 0 (.int .i64 0)).set 1 (.slice none 0 0)).set 2 (.slice none 0 0)
   refine BN rfl rfl rfl (Ad F2 Tryz.underlying38 rfl Av) ?_
   rw[HQ.out,HE.out]
   exact⟨rfl,((TB.out.setCell (p:=⟨w.heap.size+1,0,none⟩) (by simp) _).setCell (p:=⟨w.heap.size+1,1,none⟩) (by simp) _).setCell (p:=⟨w.heap.size+1,2,none⟩) (by simp) _⟩
 | some sp=>
 rw[hau] at hval
 obtain⟨mv,rfl,hom⟩:=hval
 have hmem:=Own.KF hau
 have hR3:R=(match Own.BS sp msg [] o.keys l with
  | .error c=>.error c
  | .ok K=>if (l.length:Int)<sp.threshold then .error 20 else .ok K):=by rw[HR2.out,hau]
 obtain⟨ma,mm,mc,rfl⟩:=Ae hom
 obtain rfl:=BU hom
 have hb4:Below w3.heap.size w3 (w3.alloc (.cells #[.string sp.pre,.slice ma sp.members.length mc,.int .i64 sp.threshold] 70)):=zb
 have hz4:(w3.alloc (.cells #[.string sp.pre,.slice ma sp.members.length mc,.int .i64 sp.threshold] 70)).heap.size=w3.heap.size+1:=World.size_alloc _ _
 have hmc:Own.AY (w3.alloc (.cells #[.string sp.pre,.slice ma sp.members.length mc,.int .i64 sp.threshold] 70)) (.slice ma sp.members.length mc) sp.members:=(Own.AY.of (BA.own hom) rfl).below hb4
 have B4:=zh (B3.out.trans (hb4.mono B3.out.size));have A04:=zh (A03.out.below hb4 (by omega));have A14:=zh (A13.out.below hb4 (by omega))
 have hap:=RA (fun k=>X k\/(w.heap.size<=k/\k<w.heap.size+2)) o sp msg l (.slice sa o.spaces.length sc) (.slice ka o.keys.length kc) (.slice ma sp.members.length mc) (.slice la l.length lc) _ (fun k hk=>by rcases hk with hk|hk;have:=hX k hk;omega;omega) ((HSX.out.mono (G:=fun k=>¬ (X k\/(w.heap.size<=k/\k<w.heap.size+2))) (fun k hx hk h=>h.elim hx (fun h=>by omega))).below B4.out) (HK.out.below B4.out) hmc (HA.out.below B4.out) oF.out hls hlk HLM.out (HLM.out sp hmem) Ma HAL.out
 obtain⟨y0,y1,y2⟩:=A04.out.c3
 have HAP:=zh hap;have HR3:=zh hR3
 clear hap hR3 hau hmem hom hb4 hmc HR2 A03 A13 B3
 go_wp2_with fail
 refine HAP.out.mono ?_
 intro e w5 hpost
 obtain⟨hval,hb5⟩:=hpost
 have TW:=zh (A14.out.below hb5 (by omega));have TB:=zh (B4.out.trans (hb5.mono B4.out.size))
 have hz5:=hb5.size
 clear hb5 A04 A14 B4 y0 y1 y2 HAP
 have x0:=TW.out.cell 0;have x1:=TW.out.cell 1;have x2:=TW.out.cell 2;have x3:=TW.out.free 0;have x4:=TW.out.free 1;have x5:=TW.out.free 2
 simp only[zg] at x0 x1 x2
 cases hf:Own.BS sp msg [] o.keys l with
 | error c =>
   rw[hf] at hval
   have Dr:e=.returned (.tuple #[Own.nobody,.int .i64 c]):=hval
   subst Dr
   have e:R=.error c:=by rw[HR3.out,hf]
   have HE:=zh e
   unfold Own.nobody
   clear e hf hval
   go_wp2_with fail
   have F2:=((TW.out.set 0 (.int .i64 0)).set 1 (.slice none 0 0)).set 2 (.slice none 0 0)
   refine BN rfl rfl rfl (Ad F2 Tryz.underlying38 rfl Av) ?_
   rw[HQ.out,HE.out]
   exact⟨rfl,((TB.out.setCell (p:=⟨w.heap.size+1,0,none⟩) (by simp) _).setCell (p:=⟨w.heap.size+1,1,none⟩) (by simp) _).setCell (p:=⟨w.heap.size+1,2,none⟩) (by simp) _⟩
 | ok K =>
   rw[hf] at hval
   by_cases hth:(l.length:Int)<sp.threshold
   ·have Dr : e = .returned (.tuple #[Own.nobody,.int .i64 20]) :=by
     have h:if (l.length:Int)<sp.threshold then e=.returned (.tuple #[Own.nobody,.int .i64 20]) else _:=hval
     rw[if_pos hth] at h
     exact h
    subst Dr
    have e:R=.error 20:=by rw[HR3.out,hf];exact if_pos hth
    have HE:=zh e
    unfold Own.nobody
    clear e hf hval
    go_wp2_with fail
    have F2:=((TW.out.set 0 (.int .i64 0)).set 1 (.slice none 0 0)).set 2 (.slice none 0 0)
    refine BN rfl rfl rfl (Ad F2 Tryz.underlying38 rfl Av) ?_
    rw[HQ.out,HE.out]
    exact⟨rfl,((TB.out.setCell (p:=⟨w.heap.size+1,0,none⟩) (by simp) _).setCell (p:=⟨w.heap.size+1,1,none⟩) (by simp) _).setCell (p:=⟨w.heap.size+1,2,none⟩) (by simp) _⟩
   ·have Dr : ∃ sv kv,e = .returned (.tuple #[.agg #[.int .i64 o.count,sv,kv],.int .i64 0]) ∧ Af 3 Own.CU (fun k => ¬ (X k ∨ (w.heap.size ≤ k ∧ k < w.heap.size + 2))) w5 sv o.spaces ∧ Af 2 Own.Qk (fun k => ¬ (X k ∨ (w.heap.size ≤ k ∧ k < w.heap.size + 2))) w5 kv K :=by
     have h:if (l.length:Int)<sp.threshold then _ else ∃ sv kv,e=.returned (.tuple #[.agg #[.int .i64 o.count,sv,kv],.int .i64 0])/\Af 3 Own.CU (fun k=>¬ (X k\/(w.heap.size<=k/\k<w.heap.size+2))) w5 sv o.spaces/\Af 2 Own.Qk (fun k=>¬ (X k\/(w.heap.size<=k/\k<w.heap.size+2))) w5 kv K:=hval
     rw[if_neg hth] at h
     exact h
    obtain⟨sv2,kv2,rfl,hs2,hk2⟩:=Dr
    have e:R=.ok K:=by rw[HR3.out,hf];exact if_neg hth
    have HE:=zh e;have HS2:=zh hs2;have HK2:=zh hk2
    obtain⟨va,vc,rfl⟩:=hs2.len
    obtain⟨ua,uc,rfl⟩:=hk2.len
    clear e hf hval hs2 hk2
    go_wp2_with fail
    have F2:=((TW.out.set 0 (.int .i64 o.count)).set 1 (.slice va o.spaces.length vc)).set 2 (.slice ua K.length uc)
    have fB:∀ j,¬ (X j\/(w.heap.size<=j/\j<w.heap.size+2))->(((w5.setCell ⟨w.heap.size+1,0,none⟩ (.int .i64 o.count)).setCell ⟨w.heap.size+1,1,none⟩ (.slice va o.spaces.length vc)).setCell ⟨w.heap.size+1,2,none⟩ (.slice ua K.length uc)).heap[j]? = w5.heap[j]? :=fun j hj=>by
     have hne:j≠w.heap.size+1:=by rintro rfl;exact hj (.inr ⟨by omega,by omega⟩)
     rw[zo hne,zo hne,zo hne]
    refine BN rfl rfl rfl (Ad F2 Tryz.underlying38 rfl Av) ?_
    rw[HQ.out,HE.out]
    refine⟨⟨_,_,rfl,?_,?_⟩,((TB.out.setCell (p:=⟨w.heap.size+1,0,none⟩) (by simp) _).setCell (p:=⟨w.heap.size+1,1,none⟩) (by simp) _).setCell (p:=⟨w.heap.size+1,2,none⟩) (by simp) _⟩
    ·exact(HS2.out.keep (by simp[World.setCell]) (fun k hk _=>fB k hk)).mono (fun k hk _ hx=>hk (.inl hx))
    ·exact(HK2.out.keep (by simp[World.setCell]) (fun k hk _=>fB k hk)).mono (fun k hk _ hx=>hk (.inl hx))
namespace Own
theorem KI (s:ByteArray):∀ (l:List Space) (b:Option Space) (x:Space),FJ s b l=some x->belongs s x.pre=true\/b=some x
 | [],b,x,h=>.inr h
 | y :: l,b,x,h => by
   rw[EJ] at h
   rcases KI s l _ x h with h|h
   ·exact .inl h
   ·unfold KE at h
    split at h
    ·rename_i hc
     cases h
     exact .inl (Bool.and_eq_true_iff.1 hc).1
    ·exact .inr h
theorem JJ {o:Ap}{s:ByteArray}{x:Space}(h:authority o s=some x):Bf o=true/\Bt s=true/\belongs s x.pre=true/\x∈o.spaces:=by
 have hm:=KF h
 unfold authority at h
 split at h
 ·rename_i hc
  obtain⟨h1,h2⟩:=Bool.and_eq_true_iff.1 hc
  rcases KI s _ _ x h with h3|h3
  ·exact⟨h1,h2,h3,hm⟩
  ·cases h3
 ·cases h
theorem H6:∀ (pre l:List Member),Au pre l=true->∀ m∈l,CG m.name=true/\Sig.BJ m.pub=true
 | _,[],_,m,hm=>by cases hm
 | pre,x :: l,h,m,hm => by
   have h' : (Bp pre x&&Au (pre++[x]) l)=true:=h
   obtain⟨h1,h2⟩:=Bool.and_eq_true_iff.1 h'
   rcases List.mem_cons.1 hm with rfl|hm
   ·unfold Bp at h1
    simp only[Bool.and_eq_true] at h1
    exact⟨h1.1.1.1,h1.1.1.2⟩
   ·exact H6 _ l h2 m hm
def alone (o:Ap)(s:Space)(m:Member):Ap :={ o with spaces:=[⟨s.pre,[m],1⟩] }
theorem VU {o:Ap}{s:Space}{m:Member}(ho:Bf o=true)(hs:Bu s=true)(hm:m∈s.members):Bf (alone o s m)=true:=by
 have hp:=XW.of hs
 obtain⟨h1,h2⟩:=H6 _ _ hp.mem m hm
 have hsp:Bu ⟨s.pre,[m],1⟩=true:=by
  unfold Bu D8 Au Au Bp
  simp[hp.path,h1,h2]
 unfold Bf alone at*
 simp only[Bool.and_eq_true] at ho ⊢
 obtain⟨⟨⟨⟨a1,a2⟩,a3⟩,a4⟩,a5⟩:=ho
 refine⟨⟨⟨⟨a1,a2⟩,by simp⟩,?_⟩,a5⟩
 simp[Ai,hsp]
theorem Ox {o:Ap}{s:Space}{m:Member}{p:ByteArray}(ho:Bf o=true)(hs:Bu s=true)(hm:m∈s.members)(hp:Bt p=true)(hb:belongs p s.pre=true):authority (alone o s m) p=some ⟨s.pre,[m],1⟩:=by
 unfold authority
 rw[VU ho hs hm,hp]
 show FJ p none [⟨s.pre,[m],1⟩]=_
 rw[EJ]
 unfold KE
 rw[show belongs p (⟨s.pre,[m],1⟩:Space).pre=true from hb]
 rfl
theorem RB {o:Ap}{s:Space}{m:Member}{p msg:ByteArray}{a:Ce}(ho:Bf o=true)(hs:Bu s=true)(hm:m∈s.members)(hp:Bt p=true)(hb:belongs p s.pre=true)(hn:m.name=a.name):
 Hz (alone o s m) p msg [a]=if Sig.verify m.pub msg a.sig then (if a.sig.index<Bc o.keys m.pub then .error 8 else .ok (use o.keys ⟨m.pub,a.sig.index+1⟩)) else .error 18:=by
 unfold Hz
 rw[if_pos (VU ho hs hm),Ox ho hs hm hp hb]
 have hf:find [m] a.name=some m:=by unfold find;rw[List.find?_cons_of_pos (by simpa using hn)]
 have hA:BS ⟨s.pre,[m],1⟩ msg [] (alone o s m).keys [a]=if Sig.verify m.pub msg a.sig then (if a.sig.index<Bc o.keys m.pub then .error 8 else .ok (use o.keys ⟨m.pub,a.sig.index+1⟩)) else .error 18:=by
  unfold BS
  rw[hf]
  rfl
 dsimp only
 rw[hA]
 cases Sig.verify m.pub msg a.sig with
 | false=>rfl
 | true =>
   by_cases h:a.sig.index<Bc o.keys m.pub
   ·rw[if_pos rfl,if_pos h]
   ·rw[if_pos rfl,if_neg h];rfl
def NW (o:Ap)(s:Space)(msg:ByteArray)(a:Ce):Except Int (Member × List KeyUse):=match find s.members a.name with
 | none=>.error 6
 | some m=>if Sig.verify m.pub msg a.sig then (if a.sig.index<Bc o.keys m.pub then .error 8 else .ok (m,use o.keys ⟨m.pub,a.sig.index+1⟩)) else .error 18
theorem DK.y9 {w:World}{g k:Nat}{F:Nat->Prop}{S:List Space}(h:DK w g F S)(hF:∀ k,F k->k≠g)(hk:k<S.length)(v' : Value)(hv:Af 2 BX F w v' S[k].members):
 DK (w.setCell ⟨g,k*3+1,none⟩ v') g F S:=by
 obtain⟨cur,vs,h1,h2⟩:=h.row
 have keep:∀ (l:List Member) (v:Value),Af 2 BX F w v l->Af 2 BX F (w.setCell ⟨g,k*3+1,none⟩ v') v l:=fun l v hl=>
  hl.keep (by simp[World.setCell]) (fun j hj _=>zo (hF j hj))
 refine⟨_,fun i=>if i=k then v' else vs i,h1.set (k*3+1) _,fun i hi=>?_⟩
 obtain⟨a,b,d,e⟩:=h2 i hi
 by_cases hik:i=k
 ·subst hik
  have s1:=(Array.getElem?_eq_some_iff.1 b).1
  refine⟨?_,?_,?_,?_⟩
  ·rw[Array.getElem?_setIfInBounds_ne (by omega)];exact a
  ·show _=some (if i=i then v' else vs i)
   rw[Array.getElem?_setIfInBounds_self_of_lt s1,if_pos rfl]
  ·rw[Array.getElem?_setIfInBounds_ne (by omega)];exact d
  ·show Af _ _ _ _ (if i=i then v' else vs i) _
   rw[if_pos rfl];exact keep _ _ hv
 ·refine⟨?_,?_,?_,?_⟩
  ·rw[Array.getElem?_setIfInBounds_ne (by omega)];exact a
  ·show _=some (if i=k then v' else vs i)
   rw[Array.getElem?_setIfInBounds_ne (by omega),if_neg hik];exact b
  ·rw[Array.getElem?_setIfInBounds_ne (by omega)];exact d
  ·show Af _ _ _ _ (if i=k then v' else vs i) _
   rw[if_neg hik];exact keep _ _ e
end Own
theorem VW (x:Own.Member)(g:Nat)(nm:ByteArray)(w:World)(hc:w.cell? ⟨g,0,none⟩=some (.string nm)):
 Calls Tryz.prog 96 (#[.agg #[.string x.name,.string x.pub]]++#[.pointer (some ⟨g,0,none⟩)]) w fun e w' => e=.returned (.bool (decide (x.name=nm)))/\Below w.heap.size w w':=by
 obtain⟨R,hR⟩:∃ R,R=decide (x.name=nm):=⟨_,rfl⟩
 rw[<- hR]
 rw[<- bytes_beq] at hR
 have hb1:Below w.heap.size w (w.alloc (.cells #[.string x.name,.string x.pub] 73)):=zb
 have q:=(hb1.cell (p:=⟨g,0,none⟩) (block_lt hc)).trans hc
 have HB:=zh hb1;have HR:=zh hR
 clear hb1 hc hR
 show Calls Tryz.prog 96 #[.agg #[.string x.name,.string x.pub],.pointer (some ⟨g,0,none⟩)] w _
 go_enter Tryz.func96,Tryz.ntmps96
 go_wp2_with fail
 go_ret
 exact⟨by rw[HR.out];rfl,HB.out⟩
theorem JK.cells {F:Nat->Prop}{w:World}{a:Option Addr}{n c:Nat}{l:List Own.Member}(h:Af 2 Own.BX F w (.slice a n c) l){i:Nat}(hi:i<l.length):∃ b o,a=some ⟨b,o,none⟩/\F b/\b<w.heap.size/\w.cell? ⟨b,o+i*2,none⟩=some (.string l[i].name)/\w.cell? ⟨b,o+i*2+1,none⟩=some (.string l[i].pub):=by
 obtain⟨b,o,ha,hF,hb,cs,h1,h2,h3⟩:=h.at_ hi
 have h3:cs=_:=h3
 subst h3
 exact⟨b,o,ha,hF,hb,h2 0 _ rfl,h2 1 _ rfl⟩
theorem JK.one {F:Nat->Prop}{w:World}{mb mo n c c' j:Nat}{l:List Own.Member}(h:Af 2 Own.BX F w (.slice (some ⟨mb,mo,none⟩) n c) l)(hj:j<l.length):Af 2 Own.BX F w (.slice (some ⟨mb,mo+j*2,none⟩) 1 c') [l[j]]:=by
 obtain⟨b,o,ha,hF,hb,h1,h2⟩:=JK.cells h hj
 cases ha
 refine⟨_,c',rfl,.inr ⟨mb,_,rfl,hF,hb,fun i hi=>?_⟩⟩
 have:i=0:=by simpa using hi
 subst this
 refine⟨_,rfl,fun k u hk=>?_,rfl⟩
 rw[Nat.zero_mul,Nat.add_zero]
 match k,hk with
 | 0,hk=>cases hk;exact h1
 | 1,hk=>cases hk;exact h2
def VX (X:Nat->Prop)(w:World)(o:Own.Ap)(R:Except Int (Own.Member × List Own.KeyUse))(e:Ending)(w' : World):Prop:=
 (match R with
   | .error c=>e=.returned (.tuple #[Own.nobody,.string ⟨#[]⟩,.int .i64 c])
   | .ok (m,K)=>∃ sv kv,e=.returned (.tuple #[.agg #[.int .i64 o.count,sv,kv],.string m.pub,.int .i64 0])/\Af 3 Own.CU (fun k=>¬ X k) w' sv o.spaces/\Af 2 Own.Qk (fun k=>¬ X k) w' kv K)/\Below w.heap.size w w'
theorem Yh (X:Nat->Prop)(o:Own.Ap)(s:Own.Space)(path msg:ByteArray)(a:Own.Ce)(sv kv cv pv:Value)(ma:Option Addr)(mc:Nat)(w:World)(hX:∀ k,X k->k<w.heap.size)(hMx:Fx w)(hS:Af 3 Own.CU (fun k=>¬ X k) w sv o.spaces)(hK:Own.Ca w kv o.keys)
 (hm:Af 2 Own.BX (fun k=>¬ X k) w (.slice ma s.members.length mc) s.members) (hmc:s.members.length<=mc) (hcs:AO w cv a.sig.chains) (hps:AO w pv a.sig.path) (hcap:EY pv) (hau:Own.authority o path=some s) (hlk:o.keys.length<=800000) (Ma:msg.size<=9223372036854775000)
 (hal:a.name.size<=140737488355328/\a.sig.chains.length<=140737488355328/\a.sig.path.length<=140737488355328):
 Calls Tryz.prog 62 #[.agg #[.int .i64 o.count,sv,kv],.agg #[.string s.pre,.slice ma s.members.length mc,.int .i64 s.threshold],.string path,.string msg,.agg #[.string a.name,.int .i64 a.sig.index,cv,pv]] w (VX X w o (Own.NW o s msg a)):=by
 obtain⟨R,hR⟩:∃ R,R=Own.NW o s msg a:=⟨_,rfl⟩
 obtain⟨Q,hQ⟩:∃ Q,Q=VX X w o R:=⟨_,rfl⟩
 rw[<- hR,<- hQ]
 obtain⟨hok,mQ,hbel,hmem⟩:=Own.JJ hau
 have hOK:=Own.OK.of hok
 have hsp:=hOK.sp s hmem
 have hSP:=Own.XW.of hsp
 obtain⟨nm,⟨ix,chs,pth⟩⟩:=a
 dsimp only at*
 obtain⟨ca,cc,rfl⟩:=hcs.len
 obtain⟨pa,pc,rfl⟩:=hps.len
 obtain⟨sa,sc,rfl⟩:=hS.len
 obtain⟨ka,kc,rfl⟩:=hK.len
 have hml:=hSP.len
 have hb1:Below w.heap.size w ((((w.alloc (.cells #[.int .i64 o.count,.slice sa o.spaces.length sc,.slice ka o.keys.length kc] 38)).alloc (.cells #[.string s.pre,.slice ma s.members.length mc,.int .i64 s.threshold] 70)).alloc (.cells #[.string nm,.int .i64 ix,.slice ca chs.length cc,.slice pa pth.length pc] 43)).alloc (.cells #[.int .i64 0,.slice none 0 0,.slice none 0 0] 38)):=((zb.alloc (by simp) _).alloc (by simp;omega) _).alloc (by simp;omega) _
 have hz1:((((w.alloc (.cells #[.int .i64 o.count,.slice sa o.spaces.length sc,.slice ka o.keys.length kc] 38)).alloc (.cells #[.string s.pre,.slice ma s.members.length mc,.int .i64 s.threshold] 70)).alloc (.cells #[.string nm,.int .i64 ix,.slice ca chs.length cc,.slice pa pth.length pc] 43)).alloc (.cells #[.int .i64 0,.slice none 0 0,.slice none 0 0] 38)).heap.size=w.heap.size+4:=by simp
 have ha0:=(((At.new w 38 #[.int .i64 o.count,.slice sa o.spaces.length sc,.slice ka o.keys.length kc]).alloc (.cells #[.string s.pre,.slice ma s.members.length mc,.int .i64 s.threshold] 70)).alloc (.cells #[.string nm,.int .i64 ix,.slice ca chs.length cc,.slice pa pth.length pc] 43)).alloc (.cells #[.int .i64 0,.slice none 0 0,.slice none 0 0] 38)
 have ha1:=((At.new1 w (.cells #[.int .i64 o.count,.slice sa o.spaces.length sc,.slice ka o.keys.length kc] 38) 70 #[.string s.pre,.slice ma s.members.length mc,.int .i64 s.threshold]).alloc (.cells #[.string nm,.int .i64 ix,.slice ca chs.length cc,.slice pa pth.length pc] 43)).alloc (.cells #[.int .i64 0,.slice none 0 0,.slice none 0 0] 38)
 have ha2:=(At.new ((w.alloc (.cells #[.int .i64 o.count,.slice sa o.spaces.length sc,.slice ka o.keys.length kc] 38)).alloc (.cells #[.string s.pre,.slice ma s.members.length mc,.int .i64 s.threshold] 70)) 43 #[.string nm,.int .i64 ix,.slice ca chs.length cc,.slice pa pth.length pc]).alloc (.cells #[.int .i64 0,.slice none 0 0,.slice none 0 0] 38)
 have ha3:=At.new (((w.alloc (.cells #[.int .i64 o.count,.slice sa o.spaces.length sc,.slice ka o.keys.length kc] 38)).alloc (.cells #[.string s.pre,.slice ma s.members.length mc,.int .i64 s.threshold] 70)).alloc (.cells #[.string nm,.int .i64 ix,.slice ca chs.length cc,.slice pa pth.length pc] 43)) 38 #[.int .i64 0,.slice none 0 0,.slice none 0 0]
 rw[World.size_alloc,World.size_alloc] at ha2
 rw[World.size_alloc,World.size_alloc,World.size_alloc] at ha3
 have c1:=ha1.cell 1
 simp only[zg] at c1
 have HQ:=zh hQ;have HR:=zh hR;have HS:=zh hS;have HK:=zh hK;have HMX:=zh hMx;have HM:=zh hm;have HCS:=zh hcs;have HPS:=zh hps;have HCAP:=zh hcap
 have A0:=zh ha0;have A1:=zh ha1;have A2:=zh ha2;have A3:=zh ha3;have B1:=zh hb1
 have yA:=zh hok;have uq:=zh mQ;have aD:=zh hbel;have yB:=zh hsp;have HOK:=zh hOK
 clear hQ hR hS hK hMx hm hcs hps hcap ha0 ha1 ha2 ha3 hb1 hok mQ hbel hmem hOK hsp hSP hau
 go_enter Tryz.func62,Tryz.ntmps62
 go_wp2_with fail
 generalize (((w.alloc (.cells #[.int .i64 o.count,.slice sa o.spaces.length sc,.slice ka o.keys.length kc] 38)).alloc (.cells #[.string s.pre,.slice ma s.members.length mc,.int .i64 s.threshold] 70)).alloc (.cells #[.string nm,.int .i64 ix,.slice ca chs.length cc,.slice pa pth.length pc] 43)).alloc (.cells #[.int .i64 0,.slice none 0 0,.slice none 0 0] 38)=w1 at*
 refine(KG 96 #[.pointer (some ⟨w.heap.size+1+1,0,none⟩)] Tryz.call96 (fun m=>decide (m.name=nm)) _ s.members w1 ((HM.out.below B1.out).mono (fun _ _ _=>trivial)) (by omega) (fun W x hW=>VW x _ nm W ((hW.cell (p:=⟨w.heap.size+1+1,0,none⟩) (by show w.heap.size+1+1<w1.heap.size;omega)).trans (A2.out.cell 0)))).mono ?_
 rintro e w2 ⟨⟨i,rfl,hi⟩,hb2⟩
 have A02:=zh (A0.out.below hb2 (by omega));have A12:=zh (A1.out.below hb2 (by omega));have A22:=zh (A2.out.below hb2 (by omega));have A32:=zh (A3.out.below hb2 (by omega));have B2:=zh (B1.out.trans (hb2.mono B1.out.size))
 have hz2:=hb2.size
 clear hb2 A0 A1 A2 A3 B1 c1
 rcases hi with ⟨rfl,hnone,_⟩|⟨j,hj,rfl,hsome,hpj,_⟩
 ·have hf:Own.find s.members nm=none:=hnone
  have e:R=.error 6:=by rw[HR.out,Own.NW];dsimp only;rw[hf]
  have HE:=zh e
  have TW:=A32;have TB:=B2
  have x0:=TW.out.cell 0;have x1:=TW.out.cell 1;have x2:=TW.out.cell 2;have x3:=TW.out.free 0;have x4:=TW.out.free 1;have x5:=TW.out.free 2
  simp only[zg] at x0 x1 x2
  clear e hf hnone
  go_wp2_with fail
  have F2:=((TW.out.set 0 (.int .i64 0)).set 1 (.slice none 0 0)).set 2 (.slice none 0 0)
  refine Cn rfl rfl rfl rfl (Ad F2 Tryz.underlying38 rfl Av) ?_
  rw[HQ.out,HE.out]
  exact⟨rfl,((TB.out.setCell (p:=⟨w.heap.size+3,0,none⟩) (by simp) _).setCell (p:=⟨w.heap.size+3,1,none⟩) (by simp) _).setCell (p:=⟨w.heap.size+3,2,none⟩) (by simp) _⟩
 have hnm:s.members[j].name=nm:=of_decide_eq_true hpj
 have hR2:R=if Sig.verify s.members[j].pub msg ⟨ix,chs,pth⟩ then (if ix<Own.Bc o.keys s.members[j].pub then .error 8 else .ok (s.members[j],Own.use o.keys ⟨s.members[j].pub,ix+1⟩)) else .error 18:=by
  have hf:Own.find s.members nm=some s.members[j]:=hsome
  rw[HR.out,Own.NW];dsimp only;rw[hf]
 obtain⟨mb,mo,hma,_,zX,yC,yD⟩:=JK.cells HM.out hj
 subst hma
 have dj:decide ((j:Int)<0)=false:=zf
 have hap:=Own.RB (msg:=msg) (a:=⟨nm,⟨ix,chs,pth⟩⟩) yA.out yB.out (List.getElem_mem hj) uq.out aD.out hnm
 obtain⟨AB,hAB⟩:∃ AB,AB=w2.heap.size:=⟨_,rfl⟩
 have zY:¬ mc=j:=by omega
 obtain⟨m,hmj⟩:∃ m,m=s.members[j]:=⟨_,rfl⟩
 have hone:=JK.one (c':=mc-j) HM.out hj
 rw[<- hmj] at hap hR2 hone hnm
 have HAP:=zh hap;have HR2:=zh hR2;have uw:=zh hone;have HMJ:=zh hmj
 have y0:=A02.out.cell 0;have y1:=A02.out.cell 1;have y2:=A02.out.cell 2
 have u0:=(A12.out.alloc (.cells #[.int .i64 o.count,.slice sa o.spaces.length sc,.slice ka o.keys.length kc] 38)).cell 0
 have u1:=(A12.out.alloc (.cells #[.int .i64 o.count,.slice sa o.spaces.length sc,.slice ka o.keys.length kc] 38)).cell 1
 simp only[zg] at y0 y1 y2 u0 u1
 clear hap hR2 hone hsome hpj hmj
 rw[<- hAB] at hz2
 go_wp2_with fail
 refine Lex.zl ?_
 go_wp2_with fail
 refine Lex.ze ?_
 have V6:Below w2.heap.size w2 (((w2.alloc (.cells #[.int .i64 o.count,.slice (some ⟨w2.heap.size+1,0,none⟩) 1 1,.slice ka o.keys.length kc] 38)).alloc (.cells #[.string s.pre,.slice (some ⟨mb,mo+j*2,none⟩) 1 (mc-j),.int .i64 1] 70)).drew):=(zb.alloc (by simp) _).drew
 have hz4:(((w2.alloc (.cells #[.int .i64 o.count,.slice (some ⟨w2.heap.size+1,0,none⟩) 1 1,.slice ka o.keys.length kc] 38)).alloc (.cells #[.string s.pre,.slice (some ⟨mb,mo+j*2,none⟩) 1 (mc-j),.int .i64 1] 70)).drew).heap.size=w2.heap.size+2:=by rw[Ar];simp
 have a4:=((At.new w2 38 #[.int .i64 o.count,.slice (some ⟨w2.heap.size+1,0,none⟩) 1 1,.slice ka o.keys.length kc]).alloc (.cells #[.string s.pre,.slice (some ⟨mb,mo+j*2,none⟩) 1 (mc-j),.int .i64 1] 70)).drew
 have s4:=(At.new1 w2 (.cells #[.int .i64 o.count,.slice (some ⟨w2.heap.size+1,0,none⟩) 1 1,.slice ka o.keys.length kc] 38) 70 #[.string s.pre,.slice (some ⟨mb,mo+j*2,none⟩) 1 (mc-j),.int .i64 1]).drew
 generalize ((w2.alloc (.cells #[.int .i64 o.count,.slice (some ⟨w2.heap.size+1,0,none⟩) 1 1,.slice ka o.keys.length kc] 38)).alloc (.cells #[.string s.pre,.slice (some ⟨mb,mo+j*2,none⟩) 1 (mc-j),.int .i64 1] 70)).drew=w4 at*
 have A04:=zh (A02.out.below V6 (by omega));have A14:=zh (A12.out.below V6 (by omega));have A24:=zh (A22.out.below V6 (by omega));have A34:=zh (A32.out.below V6 (by omega));have B4:=zh (B2.out.trans (V6.mono B2.out.size))
 have S4:=zh s4
 obtain⟨q0,q1,q2⟩:=a4.c3;obtain⟨v0,v1,v2,v3⟩:=A24.out.c4
 have Ml:Below w4.heap.size w4 (w4.alloc (.cells #[.string nm,.int .i64 ix,.slice ca chs.length cc,.slice pa pth.length pc] 43)):=zb
 have n5:=At.new w4 43 #[.string nm,.int .i64 ix,.slice ca chs.length cc,.slice pa pth.length pc]
 have hz5:(w4.alloc (.cells #[.string nm,.int .i64 ix,.slice ca chs.length cc,.slice pa pth.length pc] 43)).heap.size=w4.heap.size+1:=World.size_alloc _ _
 have B5:=zh (B4.out.trans (Ml.mono B4.out.size))
 have s5:=S4.out.below Ml (by omega)
 have VI:Af 3 Own.CU (fun k=>¬ (X k\/k=w.heap.size\/k=w.heap.size+3)) (w4.alloc (.cells #[.string nm,.int .i64 ix,.slice ca chs.length cc,.slice pa pth.length pc] 43)) (.slice (some ⟨w2.heap.size+1,0,none⟩) 1 1) [⟨s.pre,[m],1⟩]:=by
  refine⟨_,1,rfl,.inr ⟨w2.heap.size+1,0,rfl,?_,s5.lt,fun i hi=>?_⟩⟩
  ·rintro(h|h|h)
   ·have:=hX _ h;omega
   ·omega
   ·omega
  ·have:i=0:=by simpa using hi
   subst this
   refine⟨[.string s.pre,.slice (some ⟨mb,mo+j*2,none⟩) 1 (mc-j),.int .i64 1],rfl,fun k u hk=>?_,_,rfl,?_⟩
   ·rw[Nat.zero_mul,Nat.add_zero,Nat.zero_add,s5.cell];simpa using hk
   ·exact(uw.out.mono (G:=fun k=>¬ (X k\/k=w.heap.size\/k=w.heap.size+3)) (fun k hk hl h=>by rcases h with h|h|h;exact hk h;omega;omega)).below B5.out
 have uy:Own.SF (w4.alloc (.cells #[.string nm,.int .i64 ix,.slice ca chs.length cc,.slice pa pth.length pc] 43)) (.slice (some ⟨w4.heap.size,0,none⟩) 1 1) [⟨nm,⟨ix,chs,pth⟩⟩]:=by
  refine⟨_,1,rfl,fun i hi=>?_⟩
  have:i=0:=by simpa using hi
  subst this
  refine⟨w4.heap.size,0,_,_,rfl,n5.lt,n5.cell 0,n5.cell 1,n5.cell 2,n5.cell 3,HCS.out.below B5.out,HPS.out.below B5.out,HCAP.out⟩
 have happ:=Q0 (fun k=>X k\/k=w.heap.size\/k=w.heap.size+3) (Own.alone o s m) path msg [⟨nm,⟨ix,chs,pth⟩⟩] (.slice (some ⟨w2.heap.size+1,0,none⟩) 1 1) (.slice ka o.keys.length kc) (.slice (some ⟨w4.heap.size,0,none⟩) 1 1) _ (fun k hk=>by rcases hk with hk|hk|hk;have:=hX k hk;omega;omega;omega) (HMX.out.below B5.out) VI (HK.out.below B5.out) uy (by show 1<=3000000;omega) (by show o.keys.length+1<=900000;omega) (fun z hz=>by
  have e:z=⟨s.pre,[m],1⟩:=by simpa [Own.alone] using hz
  subst e
  show 1<=3000000
  omega) Ma (fun z hz=>by
  have e:z=⟨nm,⟨ix,chs,pth⟩⟩:=by simpa using hz
  subst e
  exact hal)
 rw[HAP.out] at happ
 have uz:=zh happ
 have oQ:=zh Ml
 clear happ VI uy s5 n5 Ml V6 a4 s4 A02 A12 A22 A32 B2 y0 y1 y2 u0 u1
 have zZ : w2.heap.size+2<=w4.heap.size:=by omega
 have hz2' : w1.heap.size<=w2.heap.size:=by omega
 clear hz4 hz5 hz2 hAB
 go_wp2_with fail
 refine uz.out.mono ?_
 intro e w6 hpost
 obtain⟨hval,hb6⟩:=hpost
 have aK:=oQ.out.trans (hb6.mono oQ.out.size)
 have A06:=zh (A04.out.below aK A04.out.lt);have A16:=zh (A14.out.below aK A14.out.lt);have A36:=zh (A34.out.below aK A34.out.lt);have B6:=zh (B4.out.trans (aK.mono B4.out.size))
 have hz6:w4.heap.size<=w6.heap.size:=aK.size
 clear hb6 aK oQ A04 A14 A24 A34 B4 S4 uz q0 q1 q2 v0 v1 v2 v3 B5
 cases hvf:Sig.verify m.pub msg ⟨ix,chs,pth⟩ with
 | false =>
   rw[hvf] at hval
   have Dr:e=.returned (.tuple #[Own.nobody,.int .i64 18]):=hval
   subst Dr
   have e:R=.error 18:=by rw[HR2.out,hvf];rfl
   have HE:=zh e
   have TW:=zh (A36.out.alloc (.cells #[.int .i64 0,.slice none 0 0,.slice none 0 0] 38));have TB:=zh (B6.out.alloc B6.out.size (.cells #[.int .i64 0,.slice none 0 0,.slice none 0 0] 38))
   have x0:=TW.out.cell 0;have x1:=TW.out.cell 1;have x2:=TW.out.cell 2;have x3:=TW.out.free 0;have x4:=TW.out.free 1;have x5:=TW.out.free 2
   simp only[zg] at x0 x1 x2
   unfold Own.nobody
   clear e hvf hval
   go_wp2_with fail
   have F2:=((TW.out.set 0 (.int .i64 0)).set 1 (.slice none 0 0)).set 2 (.slice none 0 0)
   refine Cn rfl rfl rfl rfl (Ad F2 Tryz.underlying38 rfl Av) ?_
   rw[HQ.out,HE.out]
   exact⟨rfl,((TB.out.setCell (p:=⟨w.heap.size+3,0,none⟩) (by simp) _).setCell (p:=⟨w.heap.size+3,1,none⟩) (by simp) _).setCell (p:=⟨w.heap.size+3,2,none⟩) (by simp) _⟩
 | true=>
 rw[hvf,if_pos rfl] at hval
 have hR3:R=if ix<Own.Bc o.keys m.pub then .error 8 else .ok (m,Own.use o.keys ⟨m.pub,ix+1⟩):=by rw[HR2.out,hvf];rfl
 by_cases hix:ix<Own.Bc o.keys m.pub
 ·rw[if_pos hix] at hval hR3
  have Dr:e=.returned (.tuple #[Own.nobody,.int .i64 8]):=hval
  subst Dr
  have HE:=zh hR3
  have TW:=zh (A36.out.alloc (.cells #[.int .i64 0,.slice none 0 0,.slice none 0 0] 38));have TB:=zh (B6.out.alloc B6.out.size (.cells #[.int .i64 0,.slice none 0 0,.slice none 0 0] 38))
  have x0:=TW.out.cell 0;have x1:=TW.out.cell 1;have x2:=TW.out.cell 2;have x3:=TW.out.free 0;have x4:=TW.out.free 1;have x5:=TW.out.free 2
  simp only[zg] at x0 x1 x2
  unfold Own.nobody
  clear hR3 hvf hval hix HR2 HAP
  go_wp2_with fail
  have F2:=((TW.out.set 0 (.int .i64 0)).set 1 (.slice none 0 0)).set 2 (.slice none 0 0)
  refine Cn rfl rfl rfl rfl (Ad F2 Tryz.underlying38 rfl Av) ?_
  rw[HQ.out,HE.out]
  exact⟨rfl,((TB.out.setCell (p:=⟨w.heap.size+3,0,none⟩) (by simp) _).setCell (p:=⟨w.heap.size+3,1,none⟩) (by simp) _).setCell (p:=⟨w.heap.size+3,2,none⟩) (by simp) _⟩
 rw[if_neg hix] at hval hR3
 have Dr:∃ sv kv,e=.returned (.tuple #[.agg #[.int .i64 o.count,sv,kv],.int .i64 0])/\Af 3 Own.CU (fun k=>¬ (X k\/k=w.heap.size\/k=w.heap.size+3)) w6 sv [⟨s.pre,[m],1⟩]/\Af 2 Own.Qk (fun k=>¬ (X k\/k=w.heap.size\/k=w.heap.size+3)) w6 kv (Own.use o.keys ⟨m.pub,ix+1⟩):=hval
 clear hval
 obtain⟨sv2,kv2,rfl,hs2,hk2⟩:=Dr
 obtain⟨K,hKe⟩:∃ K,K=Own.use o.keys ⟨m.pub,ix+1⟩:=⟨_,rfl⟩
 rw[<- hKe] at hR3 hk2
 have HE:=zh hR3;have HK2:=zh (hk2.mono (G:=fun k=>k<w6.heap.size/\¬ X k/\k≠w.heap.size+3) (fun k hk hl=>⟨hl,fun h=>hk (.inl h),fun h=>hk (.inr (.inr h))⟩))
 obtain⟨s2a,s2c,yE⟩:=hs2.len
 obtain⟨k2a,k2c,yF⟩:=hk2.len
 subst yE;subst yF
 clear hR3 hvf hix HR2 HAP hKe hs2 hk2
 have b6:Below w6.heap.size w6 (w6.alloc (.cells #[.int .i64 o.count,.slice s2a 1 s2c,.slice k2a K.length k2c] 38)):=zb
 have hz7:w6.heap.size<(w6.alloc (.cells #[.int .i64 o.count,.slice s2a 1 s2c,.slice k2a K.length k2c] 38)).heap.size:=by simp
 have o7:=At.new w6 38 #[.int .i64 o.count,.slice s2a 1 s2c,.slice k2a K.length k2c]
 have A07:=zh (A06.out.below b6 A06.out.lt);have A17:=zh (A16.out.below b6 A16.out.lt);have A37:=zh (A36.out.below b6 A36.out.lt);have B7:=zh (B6.out.trans (b6.mono B6.out.size));have O7:=zh o7;have K7:=zh (HK2.out.below b6)
 have y1:=A07.out.cell 1
 simp only[zg] at y1
 have hcl:=KH (fun k=>k<w.heap.size/\¬ X k) _ o.spaces _ ((HS.out.mono (G:=fun k=>k<w.heap.size/\¬ X k) (fun k hk hl=>⟨hl,hk⟩)).below B7.out) (by have:=HOK.out.ls;omega)
 have HCL:=zh hcl
 have hls:=HOK.out.ls
 have h6w:w.heap.size+4<=w6.heap.size:=by omega
 clear b6 o7 hcl A06 A16 A36 B6 HK2
 go_wp2_with fail
 generalize w6.alloc (.cells #[.int .i64 o.count,.slice s2a 1 s2c,.slice k2a K.length k2c] 38)=w7 at*
 refine HCL.out.mono ?_
 rintro e w8 ⟨a8,c8,rfl,hsp,hb8⟩
 have A08:=zh (A07.out.below hb8 A07.out.lt);have A18:=zh (A17.out.below hb8 A17.out.lt);have A38:=zh (A37.out.below hb8 A37.out.lt);have B8:=zh (B7.out.trans (hb8.mono B7.out.size));have O8:=zh (O7.out.below hb8 O7.out.lt);have K8:=zh (K7.out.below hb8)
 have hz8:=hb8.size
 have HSP:=zh hsp
 have q0:=O8.out.cell 0;have q1:=O8.out.cell 1;have q2:=O8.out.cell 2;have q3:=O8.out.free 1
 simp only[zg] at q0 q1 q2
 clear hsp hb8 A07 A17 A37 B7 O7 K7 HCL y1
 go_upto_region 10 with fail
 have o9:At (w8.setCell ⟨w6.heap.size,1,none⟩ (.slice a8 o.spaces.length c8)) w6.heap.size 38 #[.int .i64 o.count,.slice a8 o.spaces.length c8,.slice k2a K.length k2c]:=O8.out.set 1 (.slice a8 o.spaces.length c8)
 have f9:∀ k,k≠w6.heap.size->(w8.setCell ⟨w6.heap.size,1,none⟩ (.slice a8 o.spaces.length c8)).heap[k]? = w8.heap[k]? :=fun k hk=>zo hk
 have z9:(w8.setCell ⟨w6.heap.size,1,none⟩ (.slice a8 o.spaces.length c8)).heap.size=w8.heap.size:=by simp[World.setCell]
 have A19:=zh (A18.out.keep (f9 _ (by omega)));have A39:=zh (A38.out.keep (f9 _ (by omega)))
 have B9:=zh (B8.out.setCell (p:=⟨w6.heap.size,1,none⟩) (by show w.heap.size<=w6.heap.size;omega) (.slice a8 o.spaces.length c8))
 have O9:=zh o9
 have u6:o.spaces.length=0\/∃ g,a8=some ⟨g,0,none⟩/\w7.heap.size<=g/\Own.DK (w8.setCell ⟨w6.heap.size,1,none⟩ (.slice a8 o.spaces.length c8)) g (fun k=>k≠g/\¬ X k/\k≠w.heap.size+3) o.spaces:=by
  rcases HSP.out with h0|⟨g,h1,h2,h3⟩
  ·exact .inl h0
  ·refine .inr ⟨g,h1,h2,?_⟩
   exact(h3.keep (Nat.le_of_eq z9.symm) (fun k hk _=>f9 k (by rcases hk with rfl|hk<;>omega))).mono (fun k hk _=>⟨by omega,hk.2,by omega⟩)
 have yG:=zh u6
 have hk9:Af 2 Own.Qk (fun k=>k<w6.heap.size/\¬ X k/\k≠w.heap.size+3) (w8.setCell ⟨w6.heap.size,1,none⟩ (.slice a8 o.spaces.length c8)) (.slice k2a K.length k2c) K:=by
  exact K8.out.keep (Nat.le_of_eq z9.symm) (fun k hk _=>f9 k (by omega))
 have HK9:=zh hk9
 have z9' : w8.heap.size<=(w8.setCell ⟨w6.heap.size,1,none⟩ (.slice a8 o.spaces.length c8)).heap.size:=Nat.le_of_eq z9.symm
 clear o9 f9 z9 u6 hk9 HSP A08 A18 A38 B8 O8 K8 q0 q1 q2 q3
 generalize w8.setCell ⟨w6.heap.size,1,none⟩ (.slice a8 o.spaces.length c8)=w9 at*
 have c1:=O9.out.cell 1
 simp only[zg] at c1
 have hO9:=O9.out.lt
 go_wp2_with fail
 go_loopw [57] (fun i wr=>∃ k:Nat,k<=o.spaces.length/\i=.int .i64 k/\(o.spaces.length=0\/∃ g,a8=some ⟨g,0,none⟩/\w7.heap.size<=g/\g<w9.heap.size/\Own.DK wr g (fun k=>k≠g/\¬ X k/\k≠w.heap.size+3) o.spaces)/\Fr (fun k=>w7.heap.size<=k/\a8=some ⟨k,0,none⟩) w9 wr) (fun i _=>o.spaces.length-(intOf i).toNat)
 case atStart=>
  refine⟨0,by omega,rfl,?_,Fr.refl _ _⟩
  rcases yG.out with h0|⟨g,h1,h2,h3⟩
  ·exact .inl h0
  ·obtain⟨cur,vs,h4,_⟩:=h3.row
   exact .inr ⟨g,h1,h2,h4.lt,h3⟩
 case round=>
  obtain⟨k,hk,rfl,hrow,hfr⟩:=hrel
  have Uj:=hfr.at O9.out (fun h=>by omega)
  have fA:=hfr.at A39.out (fun h=>by omega)
  have hstr:=hfr.at A19.out (fun h=>by omega)
  have HFR:=zh hfr;have OR:=zh Uj;have RR:=zh fA;have SR:=zh hstr
  have c1r:=Uj.cell 1
  simp only[zg] at c1r
  have hfz:=hfr.size
  have hbl:=Uj.lt
  clear Uj fA hstr
  by_cases hlt:k<o.spaces.length
  ·have dk:decide ((k:Int)<o.spaces.length)=true:=zt
   obtain⟨g,rfl,hg1,hg2,hsr⟩:=hrow.resolve_left (by omega)
   obtain⟨cur,vs,q1,q2⟩:=hsr.row
   obtain⟨e0,e1,e2,e3⟩:=q2 k hlt
   have f1:=q1.cell (k*3+1)
   rw[e1] at f1
   have hlm:o.spaces[k].members.length<=8:=(Own.XW.of (HOK.out.sp _ (List.getElem_mem hlt))).len
   obtain⟨na,nc,hvk⟩:=e3.len
   rw[hvk] at e3 f1
   have Q1:=zh q1;have HSR:=zh hsr
   have hcp:=KD _ o.spaces[k].members.length _ wr.drew (Own.AY.rows ((e3.below ((Below.refl _ _).drew)).mono (G:=Own.VD) (fun _ _ _=>trivial))) (Own.mF _) (by omega)
   have HCP:=zh hcp
   have hgl:g<wr.heap.size:=q1.lt
   clear hrow q1 q2 e0 e1 e2 e3 hvk hlm hcp hsr
   go_wp2_with fail
   refine Lex.zn (fun j=>j=w6.heap.size) [1] 10 [10] ?_
   simp only[Lex.Bg,zd]
   go_wp2_with fail
   refine HCP.out.mono ?_
   rintro e w5 ⟨v',rfl,hov,hb5⟩
   have Gp : Below wr.heap.size wr w5:=(Below.refl wr.heap.size wr).drew.trans hb5
   have hup:=Bo hov
   have hne:v'.ownBlock≠some g:=fun e=>by have:=hup g e;have:wr.heap.size<=g:=this;omega
   obtain⟨va,vm,vc,rfl⟩:=Ae hov
   have y1:=(Gp.cell (p:=⟨g,k*3+1,none⟩) hgl).trans f1
   have q5:=Q1.out.below Gp hgl
   have x1:=q5.free (k*3+1)
   have c5:=(Gp.cell (p:=⟨w6.heap.size,1,none⟩) hbl).trans c1r
   have HB5:=zh Gp;have HOV:=zh hov;have HUP:=zh hup
   clear hb5 Gp hov hup q5 f1 Q1
   go_wp2_with fail
   refine Lex.Mid.intro (fun j hj _=>by rw[hj];exact HB5.out.block _ hbl) ?_
   go_wp2_with fail
   refine Lex.zk ⟨⟨rfl,zi c1r⟩,trivial⟩ ?_
   go_wp2_with fail
   go_round
   case measure=>simp[intOf];omega
   case rel=>
    have hm5:Af 2 Own.BX (fun k=>k≠g/\¬ X k/\k≠w.heap.size+3) w5 (.slice va vm vc) o.spaces[k].members:=
     DF (enc:=Own.Lg) (fun _=>rfl) (fun _=>rfl) (BA.own HOV.out) rfl (fun j hj=>by have:wr.heap.size<=j:=HUP.out j hj;exact⟨by omega,fun hx=>by have:=hX j hx;omega,by omega⟩)
    have hs5:=(HSR.out.below HB5.out).y9 (fun k hk=>hk.1) hlt _ hm5
    refine⟨k+1,by omega,by go_num,.inr ⟨g,rfl,hg1,hg2,hs5⟩,?_⟩
    have f5:Fr (fun k=>w7.heap.size<=k/\(some ⟨g,0,none⟩:Option Addr)=some ⟨k,0,none⟩) w9 w5:=HFR.out.trans (Fr.of_below HB5.out) (fun _ h=>.inl h)
    exact f5.setCell (p:=⟨g,k*3+1,none⟩) (.inl ⟨hg1,rfl⟩) _
  ·have dk:decide ((k:Int)<o.spaces.length)=false:=zf
   have hsl:Af 3 Own.CU (fun k=>¬ X k/\k≠w.heap.size+3) wr (.slice a8 o.spaces.length c8) o.spaces:=by
    rcases hrow with h0|⟨g,rfl,hg1,hg2,hsr⟩
    ·have:o.spaces=[]:=List.eq_nil_of_length_eq_zero h0
     rw[this]
     exact Af.nil _ _
    ·exact hsr.list ⟨fun hx=>by have:=hX g hx;omega,by omega⟩ (fun k hk hl=>⟨hk.2.1,hk.2.2⟩) rfl
   have hkr:=HK9.out.fr hfr (fun k hk h=>by omega)
   have hbr:Below w.heap.size w wr:=B9.out.trans (HFR.out.below (B:=w.heap.size) (by omega) (fun k hk=>by omega))
   have c0r:=OR.out.cell 0;have c2r:=OR.out.cell 2
   have s1r:=SR.out.cell 1
   have r0:=RR.out.cell 0;have r1:=RR.out.cell 1;have r2:=RR.out.cell 2;have r3:=RR.out.free 0;have r4:=RR.out.free 1;have r5:=RR.out.free 2
   simp only[zg] at c0r c2r s1r r0 r1 r2
   have HSL:=zh hsl;have HKR:=zh hkr;have HBR:=zh hbr
   obtain⟨mb',mo',hmb,_,hml,_,hmp⟩:=JK.cells uw.out (i:=0) (by simp)
   cases hmb
   have p1:=(HBR.out.cell (p:=⟨mb,mo+j*2+1,none⟩) hml).trans hmp
   have p1:wr.cell? ⟨mb,mo+j*2+1,none⟩=some (.string m.pub):=p1
   clear hrow hsl hkr hfr hbr hmp
   go_wp2_with fail
   refine Lex.zn (fun k=>k=w.heap.size+1\/k=mb) [2,6] 8 [8] ?_
   simp only[Lex.Bg,zd]
   go_wp2_with fail
   refine Lex.Mid.intro (fun k hk _=>by have hk3:k≠w.heap.size+1+1+1:=(by rcases hk with rfl|rfl<;>omega);rw[Ar,Ar,zo hk3,zo hk3,zo hk3]) ?_
   go_wp2_with fail
   refine Lex.zk ⟨⟨.inl rfl,zi s1r⟩,⟨.inr rfl,zi p1⟩,trivial⟩ ?_
   go_wp2_with fail
   have F2:=(((RR.out.set 0 (.int .i64 o.count)).set 1 (.slice a8 o.spaces.length c8)).set 2 (.slice k2a K.length k2c)).drew
   refine Cn rfl rfl rfl rfl (Ad F2 Tryz.underlying38 rfl Av) ?_
   rw[HQ.out,HE.out]
   have far:∀ k,k≠w.heap.size+3->((((wr.setCell ⟨w.heap.size+3,0,none⟩ (.int .i64 o.count)).setCell ⟨w.heap.size+3,1,none⟩ (.slice a8 o.spaces.length c8)).setCell ⟨w.heap.size+3,2,none⟩ (.slice k2a K.length k2c)).drew).heap[k]? = wr.heap[k]? :=fun k h=>by
    rw[Ar,zo h,zo h,zo h]
   have hfz:wr.heap.size<=((((wr.setCell ⟨w.heap.size+3,0,none⟩ (.int .i64 o.count)).setCell ⟨w.heap.size+3,1,none⟩ (.slice a8 o.spaces.length c8)).setCell ⟨w.heap.size+3,2,none⟩ (.slice k2a K.length k2c)).drew).heap.size:=by
    rw[Ar];simp[World.setCell]
   refine⟨⟨_,_,rfl,?_,?_⟩,?_⟩
   ·exact(HSL.out.keep hfz (fun k hk _=>far k hk.2)).mono (fun k hk _=>hk.1)
   ·exact(HKR.out.keep hfz (fun k hk _=>far k hk.2.2)).mono (fun k hk _=>hk.2.1)
   ·exact(((HBR.out.setCell (p:=⟨w.heap.size+3,0,none⟩) (by simp) _).setCell (p:=⟨w.heap.size+3,1,none⟩) (by simp) _).setCell (p:=⟨w.heap.size+3,2,none⟩) (by simp) _).drew
end
end Go.Proofs.YtnijhlphcjjpbaaGreatDoor
